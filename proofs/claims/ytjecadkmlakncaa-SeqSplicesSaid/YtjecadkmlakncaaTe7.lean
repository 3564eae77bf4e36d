/-
  The tree: set.
-/
import Derived.Test.YtjecadkmlakncaaTe6
namespace Go.Proofs.Ytjecadkmlakncaa
open Go.RowKit

/-- A cell of a row of the call's own is written. -/
theorem own_set {T : TypeId} {w : World} {base g n c i : Nat} {xs : List Value} (h : w.ownsRow base T 1 (.slice (some ⟨g, 0, none⟩) n c) n xs) (hi : i < n) (u : Value) : (w.setCell ⟨g, i, none⟩ u).ownsRow base T 1 (.slice (some ⟨g, 0, none⟩) n c) n (xs.set i u) := by
  have hl : xs.length = n := by have := h.1; omega
  subst hl
  obtain ⟨g', cap, cur, hv, hg, hh, hn, hcm, hs, ht, _⟩ := own_parts h (by omega)
  injection hv with h1 _ h2
  injection h1 with h1
  injection h1 with h1
  subst h1 h2
  refine ownOf hg (heap_setCell_same hh) hn hcm (by simpa using hs) ?_ (by simp)
  rw [Array.toList_setIfInBounds, List.take_set, ht]
theorem own_cells {T : TypeId} {w : World} {base g n c i : Nat} {xs : List Value} (h : w.ownsRow base T 1 (.slice (some ⟨g, 0, none⟩) n c) n xs) (hi : i < n) : (∀ u, xs[i]? = some u → w.cell? ⟨g, i, none⟩ = some u) ∧ w.frozen? ⟨g, i, none⟩ = false := by
  have hl : xs.length = n := by have := h.1; omega
  subst hl
  obtain ⟨g', cap, cur, hv, hg, hh, hn, hcm, hs, ht, hc, _, hf, _⟩ := own_parts h (by omega)
  injection hv with h1 _ h2
  injection h1 with h1
  injection h1 with h1
  subst h1 h2
  exact ⟨fun u hu => by simpa using hc i u hu, hf i⟩

/-- One node that was made; D: how many nodes were written at most. -/
def MadeOne (w : World) (P : Nat → Prop) (tb wt D : Nat) (root : Value) (lo ko h : Nat) (xs : List Value) (e : Ending) (w' : World) : Prop :=
  ∃ b d, e = .returned (PN b) ∧ NodeW w' (fun k => P k ∨ w.heap.size ≤ k) lo ko h b xs ∧ Ch [tb] w w' ∧ TreeBlk w' tb root (wt + d) ∧ d ≤ D
/-- leaf behind a row of the call's own. -/
theorem leaf_own {w w2 : World} {P : Nat → Prop} {tb wt : Nat} {root sv : Value} {ys : List Value} (ht : TreeBlk w tb root wt) (hwt : wt + 1 ≤ 4611686018427387904) (hc : Ch [] w w2) (ho : w2.ownsRow w.heap.size 2 1 sv ys.length ys) (h1 : ∀ u ∈ ys, u.oneCell' = true) (hl : ys.length ≤ 8) :
    Calls Try.prog 50 #[PN tb, sv] w2 (MadeOne w P tb wt 1 root ys.length 2 0 ys) := by
  obtain ⟨b2, hb2, hr2⟩ := Row1.of_own ho rfl
  refine (leaf_any w2 (fun k => w.heap.size ≤ k) tb wt root sv b2 0 ys (fun _ => hb2) (hc.heap ht (by simp)) hwt hr2 h1 hl).mono ?_
  rintro e w3 ⟨rfl, hnode, hch, ht3⟩
  exact ⟨w2.heap.size, 1, rfl, hnode.sub (fun k hk _ => hk.elim .inr (fun h => .inr (by have := hc.size; omega))), (hc.mono (fun _ h => by cases h)).trans hch, ht3, Nat.le_refl _⟩
/-- inner behind a row of nodes that was laid anew. -/
theorem spliced_inner {w w3 : World} {P : Nat → Prop} {tb wt D h k J : Nat} {root sv3 : Value} {ks : List Nat} {yss yss2 : List (List Value)} (hs : Spliced w P tb wt D h k J root ks yss yss2 sv3 w3) (hwt : wt + D + 1 ≤ 4611686018427387904) (hl : ks.length = yss.length) (hk : k + J ≤ ks.length)
    (h8 : ks.length - J + yss2.length ≤ 8) (hn : (yss.take k ++ yss2 ++ yss.drop (k + J)).flatten.length ≤ 10000) :
    Calls Try.prog 52 #[PN tb, sv3] w3 (MadeOne w P tb wt (D + 1) root 1 (ks.length - J + yss2.length) (h + 1) (yss.take k ++ yss2 ++ yss.drop (k + J)).flatten) := by
  obtain ⟨hch, ⟨ks2, hkl2, hown, hnodes⟩, d, hd, ht3⟩ := hs
  have hlen : (ks.take k ++ ks2 ++ ks.drop (k + J)).length = ks.length - J + ks2.length := by simp [List.length_take]; omega
  obtain ⟨b3, hb3, hr3⟩ := Row1.of_own hown (by rw [List.length_map, hlen])
  refine (inner_any w3 (fun x => P x ∨ w.heap.size ≤ x) tb (wt + d) h b3 0 root sv3 _ _ _ ht3 (by omega) hr3 (by simp [List.length_take, hkl2, hl]) rfl (by omega) hn hnodes (fun _ => .inr hb3)).mono ?_
  rintro e w4 ⟨rfl, hnode, hch4, ht4⟩
  rw [hlen, hkl2] at hnode
  exact ⟨w3.heap.size, d + 1, rfl, hnode.sub (fun x hx _ => hx.elim (fun h => h) (fun h => .inr (by have := hch.size; omega))), hch.trans hch4, by rw [← Nat.add_assoc]; exact ht4, by omega⟩

set_option maxRecDepth 100000 in
set_option maxHeartbeats 2000000 in
theorem set_leaf (w : World) (P : Nat → Prop) (tb wt rb i : Nat) (z : Int) (root : Value) (xs : List Value) (ht : TreeBlk w tb root wt) (hwt : wt + 1 ≤ 4611686018427387904) (hn : NodeW w P 1 2 0 rb xs) (hi : i < xs.length) :
    Calls Try.prog 56 #[PN tb, PN rb, .int .i64 i, .int .i64 z] w (MadeOne w P tb wt 1 root 1 2 0 (xs.set i (.int .i64 z))) := by
  obtain ⟨lv, kv, b1, o1, hl, hlo, _, _⟩ := hn
  obtain ⟨a1, c1, rfl, _, ha1⟩ := hl.row.shape
  obtain ⟨a2, c2, rfl⟩ := hl.kid
  have k1 : w.cell? ⟨rb, 0, none⟩ = some (.slice a1 xs.length c1) := by rw [cell_of hl.blk]; rfl
  have k2 : w.cell? ⟨rb, 1, none⟩ = some (.slice a2 0 c2) := by rw [cell_of hl.blk]; rfl
  have hC := Lib.hid (clonePI xs xs.length b1 o1 _ w hl.row hl.one (by have := hl.le; omega) rfl (by omega))
  have i1 : (i : Int) < (xs.length : Int) := by omega
  have H := Lib.hid (And.intro hl (And.intro hi (And.intro hlo (And.intro ht hwt))))
  clear hl hlo ht ha1 hwt
  go_enter Try.func56, Try.ntmps56
  go_wp2_with fail
  refine hC.out.mono ?_
  rintro e w1 ⟨g, c, rfl, hown1, hch1⟩
  obtain ⟨u0, hu0⟩ : ∃ u, xs[i]? = some u := ⟨_, List.getElem?_eq_getElem hi⟩
  have c1' := (own_cells hown1 hi).1 u0 hu0
  have f1 := (own_cells hown1 hi).2
  have ho2 := own_set hown1 hi (.int .i64 z)
  have hch2 : Ch [] w (w1.setCell ⟨g, i, none⟩ (.int .i64 z)) := hch1.setCell (p := ⟨g, i, none⟩) (.inr (own_base hown1 rfl).1) _
  have hL := Lib.hid (leaf_own (P := P) (sv := .slice (some ⟨g, 0, none⟩) xs.length c) H.out.2.2.2.1 H.out.2.2.2.2 hch2 (ys := xs.set i (.int .i64 z)) (by rw [List.length_set]; exact ho2) (fun u hu => by
    rcases List.mem_or_eq_of_mem_set hu with h | h
    · exact H.out.1.one u h
    · subst h; rfl) (by rw [List.length_set]; exact H.out.1.le))
  clear hown1 hch1 ho2 hch2 hu0 hC
  go_wp2_with fail
  refine hL.out.mono ?_
  rintro e w3 ⟨b, d, rfl, hm⟩
  rw [List.length_set] at hm
  have HE := Lib.hid (show MadeOne w P tb wt 1 root 1 2 0 (xs.set i (.int .i64 z)) (.returned (PN b)) w3 from ⟨b, d, rfl, hm.1.mono (fun _ h _ => h) (by have := H.out.2.1; omega) (Nat.le_refl _), hm.2⟩)
  clear hm hL c1' f1 k1 k2
  go_wp2
  go_ret
  exact HE.out
theorem set_pn (ks : List Nat) (k q : Nat) (h : k < ks.length) : (ks.map PN).set k (PN q) = (ks.map PN).take k ++ [q].map PN ++ (ks.map PN).drop (k + 1) := by
  rw [List.set_eq_take_append_cons_drop, if_pos (by simpa using h)]
  simp
theorem splice_set {yss : List (List Value)} {ys : List Value} {k d : Nat} (i : Nat) (v : Value) (hl : Lies yss i k d) (hk : yss[k]? = some ys) (hd : d < ys.length) : (yss.take k ++ [ys.set d v] ++ yss.drop (k + 1)).flatten = yss.flatten.set i v := by
  rw [set_flat, set_flatten yss i k d ys v hl hk hd]
  simp
set_option maxRecDepth 100000 in
set_option maxHeartbeats 4000000 in
theorem set_inner (w : World) (P : Nat → Prop) (tb wt rb i h : Nat) (z : Int) (root : Value) (xs : List Value) (ht : TreeBlk w tb root wt) (hwt : wt + (h + 1 + 1) ≤ 4611686018427387904) (hn : NodeW w P 1 2 (h + 1) rb xs) (hi : i < xs.length) (hN : xs.length ≤ 5000)
    (ih : ∀ (w : World) (P : Nat → Prop) (wt rb i : Nat) (xs : List Value), TreeBlk w tb root wt → wt + (h + 1) ≤ 4611686018427387904 → NodeW w P 1 2 h rb xs → i < xs.length → xs.length ≤ 5000 →
      Calls Try.prog 56 #[PN tb, PN rb, .int .i64 i, .int .i64 z] w (MadeOne w P tb wt (h + 1) root 1 2 h (xs.set i (.int .i64 z)))) :
    Calls Try.prog 56 #[PN tb, PN rb, .int .i64 i, .int .i64 z] w (MadeOne w P tb wt (h + 1 + 1) root 1 2 (h + 1) (xs.set i (.int .i64 z))) := by
  obtain ⟨lv, kv, b1, o1, ks, yss, hin, hl, hx, hko, _, _, hkid⟩ := hn
  have hdn := down_any w rb b1 o1 xs.length i lv kv ks yss hin hl (by omega) (by rw [← hx]; omega) (by rw [← hx]; omega) (fun j k zs hj hz => (hkid j k zs hj hz).blk)
  obtain ⟨a1, c1, rfl, _, ha1⟩ := hin.row.shape
  have hne : ks.map PN ≠ [] := by intro h; simp at h; subst h; simp at hko
  obtain rfl := ha1 hne
  have hrow := hin.row
  have hblk := hin.blk
  have h8 := hin.le
  rw [List.length_map] at hblk hrow
  have hK : ∀ W, Ch [tb] w W → W.cell? ⟨rb, 1, none⟩ = some (.slice (some ⟨b1, o1, none⟩) ks.length c1) ∧ ∀ k q, ks[k]? = some q → W.cell? ⟨b1, o1 + k, none⟩ = some (PN q) := fun W hc =>
    ⟨by rw [cell_of (hc.heap hblk (by simp; exact ne_of_elem hblk ht (by decide)))]; rfl, fun k q hq => (hrow.ch hc (fun hne hm => by simp at hm; exact hrow.ne hne ht (by decide) hm)).get k _ (by rw [List.getElem?_map, hq]; rfl)⟩
  have k1 := (hK w (Ch.refl _ _)).1
  have n0 : (ks.length == 0) = false := by rw [beq_eq_false_iff_ne]; omega
  have n1 : ¬ (ks.length = 0) := by omega
  have hC := Lib.hid (clonePN (ks.map PN) ks.length b1 o1 _ w hrow (pn_one ks) (by rw [List.length_map]; omega) (List.length_map ..) (by omega))
  have HK := Lib.hid hK
  have HD := Lib.hid hdn
  have HX := Lib.hid (And.intro hl (And.intro hx (And.intro hkid (And.intro hrow (And.intro hi hN)))))
  have HT := Lib.hid (And.intro ht (And.intro hwt hko))
  have HI := Lib.hid ih
  clear hK hdn hin hl hx hkid hrow hi hN ht hwt hko hne ha1 hblk ih
  go_enter Try.func56, Try.ntmps56
  go_wp2_with fail
  refine HD.out.mono ?_
  rintro e w' ⟨k, d, ys, rfl, hlies, hys, _, hd, rfl⟩
  obtain ⟨hl, hx, hkid, hrow, hi, hN⟩ := HX.out
  have hd := hd (by rw [← hx]; exact hi)
  have hklt : k < ks.length := by rw [hl]; exact hlies.lt
  obtain ⟨q, hq⟩ : ∃ q, ks[k]? = some q := ⟨_, List.getElem?_eq_getElem hklt⟩
  have hnk := (hkid k q ys hq hys).sub (Q := fun x => P x ∧ x < w.heap.size) (fun x hx hlt => ⟨hx, hlt⟩)
  have hyl : ys.length ≤ 5000 := by have := lies_len hys; rw [← hx] at this; omega
  have j1 : (k : Int) < (ks.length : Int) := by omega
  have HQ := Lib.hid (And.intro hq (And.intro hnk (And.intro hyl (And.intro hlies (And.intro hys hd)))))
  clear hl hx hkid hrow hi hN hq hnk hyl hlies hys hd
  go_wp2_with fail
  refine hC.out.mono ?_
  rintro e w1 ⟨g, c, rfl, hown1, hch1⟩
  have hk1 : Ch [tb] w w1 := hch1.mono (fun _ h => by cases h)
  have ht1 := hch1.heap HT.out.1 (by simp)
  have k3 := (HK.out w1 hk1).1
  have k4 := (HK.out w1 hk1).2 k q HQ.out.1
  have hI := Lib.hid (HI.out w1 (fun x => P x ∧ x < w.heap.size) wt q d ys ht1 (by have := HT.out.2.1; omega) (HQ.out.2.1.ch hk1 (Apart.tree HT.out.1)) HQ.out.2.2.2.2.2 HQ.out.2.2.1)
  have H1 := Lib.hid (And.intro hown1 (And.intro hk1 ht1))
  clear hown1 hch1 hk1 ht1 hC k1
  go_wp2_with fail
  refine hI.out.mono ?_
  rintro e w2 ⟨b, d2, rfl, hnode2, hch2, ht2, hd2⟩
  obtain ⟨hown1, hk1, ht1⟩ := H1.out
  have hgb := own_kept hch2 hown1 (fun x hx => by simp; rintro rfl; exact own_ne hown1 ht1 (by decide) hx)
  have f2 := (own_cells hgb hklt).2
  have c2 := (own_cells hgb hklt).1 (PN q) (by rw [List.getElem?_map, HQ.out.1]; rfl)
  have hs3 : Spliced w P tb wt (h + 1) h k 1 root ks yss [ys.set d (.int .i64 z)] (.slice (some ⟨g, 0, none⟩) ks.length c) (w2.setCell ⟨g, k, none⟩ (PN b)) := by
    have ho3 := own_set hgb hklt (PN b)
    rw [set_pn ks k b hklt] at ho3
    refine spliced (ks2 := [b]) (n := 1) (g := g) (w2 := w2) HX.out.1 (Nat.le_of_lt hklt) HT.out.1 HX.out.2.2.1 (own_base hown1 rfl) hk1.size (own_blk hgb (by omega)) rfl rfl ?_ (hk1.trans hch2) ht2 hd2 (by rw [show ks.length - 1 + 1 = ks.length by omega]; exact ho3) ((Ch.refl [g] w2).setCell (.inl (by simp)) _)
    intro i' q' zs hi' hz'
    match i', hi', hz' with
    | 0, hi', hz' => simp at hi' hz'; subst hi' hz'; exact hnode2
    | i' + 1, hi', _ => simp at hi'
  have hJ := Lib.hid (show Calls Try.prog 52 #[PN tb, .slice (some ⟨g, 0, none⟩) ks.length c] (w2.setCell ⟨g, k, none⟩ (PN b)) (MadeOne w P tb wt (h + 1 + 1) root 1 2 (h + 1) (xs.set i (.int .i64 z))) from by
    have e1 := splice_set i (.int .i64 z) HQ.out.2.2.2.1 HQ.out.2.2.2.2.1 HQ.out.2.2.2.2.2
    rw [← HX.out.2.1] at e1
    rw [← e1]
    have e2 : (xs.set i (.int .i64 z)).length = xs.length := List.length_set ..
    have e3 := HX.out.2.2.2.2.2
    have e4 := HT.out.2
    refine (spliced_inner hs3 (by omega) HX.out.1 (by omega) (by simp; omega) (by rw [e1, e2]; omega)).mono ?_
    rintro e w4 ⟨b4, d4, rfl, hn4, hm4⟩
    exact ⟨b4, d4, rfl, hn4.mono (fun _ h _ => h) (Nat.le_refl _) (by simp; omega), hm4⟩)
  clear hgb hs3 hown1 hk1 ht1 hnode2 hch2 ht2 hd2 hI H1
  go_wp2_with fail
  refine hJ.out.mono ?_
  rintro e w4 ⟨b4, d4, rfl, hm4⟩
  have HE := Lib.hid (show MadeOne w P tb wt (h + 1 + 1) root 1 2 (h + 1) (xs.set i (.int .i64 z)) (.returned (PN b4)) w4 from ⟨b4, d4, rfl, hm4⟩)
  clear hm4 hJ f2 c2 k3 k4
  go_wp2
  go_ret
  exact HE.out
/-- set: the node with another element in a place. -/
theorem set_any (tb : Nat) (z : Int) (root : Value) : ∀ (h : Nat) (w : World) (P : Nat → Prop) (wt rb i : Nat) (xs : List Value), TreeBlk w tb root wt → wt + (h + 1) ≤ 4611686018427387904 → NodeW w P 1 2 h rb xs → i < xs.length → xs.length ≤ 5000 →
      Calls Try.prog 56 #[PN tb, PN rb, .int .i64 i, .int .i64 z] w (MadeOne w P tb wt (h + 1) root 1 2 h (xs.set i (.int .i64 z)))
  | 0, w, P, wt, rb, i, xs, ht, hwt, hn, hi, _ => set_leaf w P tb wt rb i z root xs ht (by omega) hn hi
  | h + 1, w, P, wt, rb, i, xs, ht, hwt, hn, hi, hN => set_inner w P tb wt rb i h z root xs ht hwt hn hi hN (set_any tb z root h)
end Go.Proofs.Ytjecadkmlakncaa
