/-
  The tree: inserted.
-/
import Derived.Test.YtjecadkmlakncaaTe3
import Derived.Deep.RegionHeld3
namespace Go.Proofs.Ytjecadkmlakncaa
open Go.RowKit

/-- slices.Replace of J nodes from place k on, in a row of the call's own: only that row is written. -/
theorem replN (w : World) (B g m c k J n vb vc : Nat) (jv : Int) (cs vs : List Value) (ho : w.ownsRow B 74 1 (.slice (some ⟨g, 0, none⟩) m c) m cs) (hB : B ≤ w.heap.size) (hj : jv = ((k + J : Nat) : Int)) (hJ : 0 < J) (hk : k + J ≤ m) (hn : vs.length = n) (hn0 : 0 < n)
    (hv : Row1 74 w vb 0 (.slice (some ⟨vb, 0, none⟩) n vc) vs) (hgv : g ≠ vb) (h1c : ∀ v ∈ cs, v.oneCell' = true) (h1v : ∀ v ∈ vs, v.oneCell' = true) (hl : m + n ≤ 10000) :
    Calls Try.prog 62 #[.slice (some ⟨g, 0, none⟩) m c, .int .i64 k, .int .i64 jv, .slice (some ⟨vb, 0, none⟩) n vc] w fun e w' =>
      ∃ sv', e = .returned sv' ∧ w'.ownsRow B 74 1 sv' (m - J + n) (cs.take k ++ vs ++ cs.drop (k + J)) ∧ Ch [g] w w' := by
  subst hj
  subst hn
  have hm : cs.length = m := by have := ho.1; omega
  subst hm
  have hne : vs ≠ [] := by rintro rfl; simp at hn0
  by_cases he : k + J < cs.length
  · refine (replMidN w B [g] (.slice (some ⟨g, 0, none⟩) cs.length c) k (k + J) cs vs vb 0 vc w ho (Ch.refl _ _) hB (fun q hq => by simp [Value.ownBlock] at hq; left; simp [hq]) (by omega) he hne hv (by simp [Value.ownBlock]; exact hgv) h1c h1v hl).mono ?_
    rintro e w' ⟨sv', rfl, h1, h2⟩
    exact ⟨sv', rfl, by rw [show cs.length - J + vs.length = k + vs.length + (cs.length - (k + J)) by omega]; exact h1, h2⟩
  · obtain rfl : J = cs.length - k := by omega
    have e1 : k + (cs.length - k) = cs.length := by omega
    rw [e1]
    refine (replEndN w B [g] (.slice (some ⟨g, 0, none⟩) cs.length c) k cs vs vb 0 vc w ho (Ch.refl _ _) hB (fun q hq => by simp [Value.ownBlock] at hq; left; simp [hq]) (by omega) hne hv h1v hl).mono ?_
    rintro e w' ⟨sv', rfl, h1, h2⟩
    refine ⟨sv', rfl, ?_, h2⟩
    rw [List.drop_length, List.append_nil, show cs.length - (cs.length - k) + vs.length = k + vs.length by omega]
    exact h1

/-- With one node more. -/
def insL (xs : List Value) (i : Nat) (v : Value) : List Value := xs.take i ++ [v] ++ xs.drop i
theorem insL_len (xs : List Value) (i : Nat) (v : Value) (hi : i ≤ xs.length) : (insL xs i v).length = xs.length + 1 := by
  unfold insL; simp [List.length_take]; omega

/-- The nodes of a node, with others in the place of the k-th. -/
theorem NodesW.splice {w : World} {P : Nat → Prop} {h k : Nat} {ks ks' : List Nat} {yss yss' : List (List Value)} (hn : NodesW w P h ks yss) (hl : ks.length = yss.length) (hk : k ≤ ks.length) (J : Nat) (hn' : NodesW w P h ks' yss') (hl' : ks'.length = yss'.length) :
    NodesW w P h (ks.take k ++ ks' ++ ks.drop (k + J)) (yss.take k ++ yss' ++ yss.drop (k + J)) := by
  intro i q ys hi hy
  have e1 : (ks.take k).length = k := by rw [List.length_take]; omega
  have e2 : (yss.take k).length = k := by rw [List.length_take]; omega
  rw [List.append_assoc] at hi hy
  by_cases h1 : i < k
  · rw [List.getElem?_append_left (by omega), List.getElem?_take, if_pos h1] at hi hy
    exact hn i q ys hi hy
  · rw [List.getElem?_append_right (by omega)] at hi hy
    rw [e1] at hi
    rw [e2] at hy
    by_cases h2 : i - k < ks'.length
    · rw [List.getElem?_append_left (by omega)] at hi hy
      exact hn' _ q ys hi hy
    · rw [List.getElem?_append_right (by omega), List.getElem?_drop] at hi hy
      rw [hl'] at hi
      exact hn _ q ys hi hy

set_option maxRecDepth 100000 in
set_option maxHeartbeats 2000000 in
theorem inserted_leaf (w : World) (P : Nat → Prop) (tb wt rb i : Nat) (z : Int) (root : Value) (xs : List Value) (ht : TreeBlk w tb root wt) (hwt : wt + 2 ≤ 4611686018427387904) (hn : NodeW w P 1 2 0 rb xs) (hi : i ≤ xs.length) :
    Calls Try.prog 51 #[PN tb, PN rb, .int .i64 i, .int .i64 z] w (Made w P tb wt 2 root 0 (insL xs i (.int .i64 z))) := by
  obtain ⟨lv, kv, b1, o1, hl, hlo, _, _⟩ := hn
  obtain ⟨a1, c1, rfl, _, ha1⟩ := hl.row.shape
  obtain ⟨a2, c2, rfl⟩ := hl.kid
  have k1 : w.cell? ⟨rb, 0, none⟩ = some (.slice a1 xs.length c1) := by rw [cell_of hl.blk]; rfl
  have k2 : w.cell? ⟨rb, 1, none⟩ = some (.slice a2 0 c2) := by rw [cell_of hl.blk]; rfl
  have hC := Lib.hid (clonePI xs xs.length b1 o1 _ w hl.row hl.one (by have := hl.le; omega) rfl (by omega))
  have H := Lib.hid (And.intro hl (And.intro hi (And.intro hlo ht)))
  clear hl hi hlo ht ha1
  go_enter Try.func51, Try.ntmps51
  go_wp2_with fail
  refine hC.out.mono ?_
  rintro e w1 ⟨g, c, rfl, hown1, hch1⟩
  have hI := Lib.hid (insI w (.slice (some ⟨g, 0, none⟩) xs.length c) i xs [.int .i64 z] w1.heap.size 0 1 (w1.alloc (.cells #[.int .i64 z] 2)) (hown1.alloc _) (hch1.alloc _) H.out.2.1 (by simp) ⟨⟨_, 1, rfl, by simp, fun _ => rfl⟩, fun _ => ⟨_, heap_alloc_same _ _, by simp⟩⟩
    (fun h => by have := (own_base hown1 h).2; omega) H.out.1.one (by simp [Value.oneCell']) (by have := H.out.1.le; simp; omega))
  clear hown1
  go_wp2_with fail
  refine hI.out.mono ?_
  rintro e w2 ⟨s2, rfl, hown2, hch2⟩
  obtain ⟨b2, hb2, hr2⟩ := Row1.of_own hown2 (insL_len xs i (.int .i64 z) H.out.2.1).symm
  have hlen := insL_len xs i (.int .i64 z) H.out.2.1
  have hL := Lib.hid (leaves_any w2 (fun k => w.heap.size ≤ k) tb wt b2 0 root s2 (insL xs i (.int .i64 z)) (hch2.heap H.out.2.2.2 (by simp)) hwt hr2 hb2 (fun u hu => by
      unfold insL at hu
      simp only [List.mem_append, List.mem_singleton] at hu
      rcases hu with (hu | rfl) | hu
      · exact H.out.1.one u (List.mem_of_mem_take hu)
      · rfl
      · exact H.out.1.one u (List.mem_of_mem_drop hu)) (by omega) (by have := H.out.1.le; omega))
  clear hown2 hr2 hlen hI
  go_wp2_with fail
  refine hL.out.mono ?_
  rintro e w3 ⟨n, g3, c3, d, ks, yss, rfl, hn, hkl, hyl, hown, hnodes, hflat, hch3, ht3, hd⟩
  have HE := Lib.hid (show Made w P tb wt 2 root 0 (insL xs i (.int .i64 z)) (.returned (.slice (some ⟨g3, 0, none⟩) n c3)) w3 from
    ⟨n, g3, c3, d, ks, yss, rfl, hn, hkl, hyl, own_mono hown hch2.size, hnodes.sub (fun k hk _ => hk.elim .inr (fun h => .inr (Nat.le_trans hch2.size h))), hflat, (hch2.mono (fun _ h => by cases h)).trans hch3, ht3, hd⟩)
  clear hn hkl hyl hown hnodes hflat hch3 ht3 hd hch2 hch1 hL hb2 k1 k2
  go_wp2
  go_ret
  exact HE.out

theorem pn_flat (ks ks' : List Nat) (k J : Nat) : (ks.map PN).take k ++ ks'.map PN ++ (ks.map PN).drop (k + J) = (ks.take k ++ ks' ++ ks.drop (k + J)).map PN := by
  simp [List.map_take, List.map_drop]
theorem row_of_own {T : TypeId} {w : World} {base g n c : Nat} {xs : List Value} (h : w.ownsRow base T 1 (.slice (some ⟨g, 0, none⟩) n c) n xs) (h0 : 0 < n) : Row1 T w g 0 (.slice (some ⟨g, 0, none⟩) n c) xs ∧ base ≤ g ∧ g < w.heap.size := by
  have hl : xs.length = n := by have := h.1; omega
  obtain ⟨b, hb, hr⟩ := Row1.of_own h hl.symm
  have hne : xs ≠ [] := by rintro rfl; simp at hl; omega
  obtain ⟨a, c', h1, _, h2⟩ := hr.1
  have h3 := h2 hne
  rw [hl] at h1
  injection h1 with h4 h5 h6
  rw [← h4] at h3
  injection h3 with h7
  injection h7 with h8
  subst h8
  exact ⟨hr, hb, hr.lt hne⟩
theorem own_blk {T : TypeId} {w : World} {base g n c : Nat} {xs : List Value} (h : w.ownsRow base T 1 (.slice (some ⟨g, 0, none⟩) n c) n xs) (h0 : 0 < n) : ∃ cs f, w.heap[g]? = some (.cells cs T f) := by
  rcases h.2 with ⟨h1, h2⟩ | ⟨g', cap, cur, h1, _, h2, _⟩
  · omega
  · injection h1 with h3
    injection h3 with h4
    injection h4 with h5
    subst h5
    exact ⟨cur, _, h2⟩
theorem two_pos {n : Nat} (h : n = 1 ∨ n = 2) : 0 < n := by omega
/-- What is known when the nodes below have been written anew and laid in the row of nodes. -/
structure Spliced (w : World) (P : Nat → Prop) (tb wt D h k J : Nat) (root : Value) (ks : List Nat) (yss yss2 : List (List Value)) (sv3 : Value) (w3 : World) : Prop where
  ch : Ch [tb] w w3
  nodes : ∃ ks2, ks2.length = yss2.length ∧ w3.ownsRow w.heap.size 74 1 sv3 (ks.length - J + ks2.length) ((ks.take k ++ ks2 ++ ks.drop (k + J)).map PN) ∧
    NodesW w3 (fun x => P x ∨ w.heap.size ≤ x) h (ks.take k ++ ks2 ++ ks.drop (k + J)) (yss.take k ++ yss2 ++ yss.drop (k + J))
  tree : ∃ d, d ≤ D ∧ TreeBlk w3 tb root (wt + d)
theorem spliced {w w2 w3 : World} {P : Nat → Prop} {tb wt D h k J g n d2 B1 : Nat} {root sv3 : Value} {ks ks2 : List Nat} {yss yss2 : List (List Value)} (hl : ks.length = yss.length) (hk : k ≤ ks.length) (ht : TreeBlk w tb root wt)
    (hkid : NodesW w P h ks yss) (hg : w.heap.size ≤ g ∧ g < B1) (hs : w.heap.size ≤ B1) (hgk : ∃ cs f, w2.heap[g]? = some (.cells cs 74 f)) (hkl2 : ks2.length = n) (hyl2 : yss2.length = n)
    (hnodes2 : NodesW w2 (fun x => (P x ∧ x < w.heap.size) ∨ B1 ≤ x) h ks2 yss2) (hc : Ch [tb] w w2) (ht2 : TreeBlk w2 tb root (wt + d2)) (hd2 : d2 ≤ D)
    (hown3 : w3.ownsRow w.heap.size 74 1 sv3 (ks.length - J + n) ((ks.map PN).take k ++ ks2.map PN ++ (ks.map PN).drop (k + J))) (hch3 : Ch [g] w2 w3) :
    Spliced w P tb wt D h k J root ks yss yss2 sv3 w3 := by
  subst hkl2
  have hgtb : g ≠ tb := by
    obtain ⟨cs, f, hb⟩ := hgk
    exact ne_of_elem hb ht2 (by decide)
  refine ⟨hc.trans' hch3 (fun x hx => by simp at hx; subst hx; exact .inr hg.1), ⟨ks2, hyl2.symm, by rw [← pn_flat]; exact hown3, NodesW.splice ?_ hl hk J ?_ hyl2.symm⟩, d2, hd2, hch3.heap ht2 (by simp; exact Ne.symm hgtb)⟩
  · have h1 := (hkid.sub (Q := fun x => P x ∧ x < w.heap.size) (fun x hx hlt => ⟨hx, hlt⟩)).ch hc (Apart.tree ht)
    have h2 := h1.ch hch3 (Apart.out (fun x hx hp => by simp at hx; subst hx; have := hp.2; omega))
    exact h2.sub (fun x hx _ => .inl hx.1)
  · have h2 := hnodes2.ch hch3 (Apart.out (fun x hx hp => by
      simp at hx; subst hx
      rcases hp with hp | hp
      · have := hp.2; omega
      · omega))
    exact h2.sub (fun x hx _ => hx.elim (fun h => .inl h.1) (fun h => .inr (by omega)))
/-- inners behind that. -/
theorem spliced_inners {w w3 : World} {P : Nat → Prop} {tb wt D h k J : Nat} {root sv3 : Value} {ks : List Nat} {yss yss2 : List (List Value)} (hs : Spliced w P tb wt D h k J root ks yss yss2 sv3 w3) (hwt : wt + D + 2 ≤ 4611686018427387904) (hl : ks.length = yss.length) (hk : k + J ≤ ks.length) (h0 : 2 + J ≤ ks.length + yss2.length)
    (h16 : ks.length + yss2.length ≤ 16) (hn : (yss.take k ++ yss2 ++ yss.drop (k + J)).flatten.length ≤ 10000) :
    Calls Try.prog 61 #[PN tb, sv3] w3 (Made w P tb wt (D + 2) root (h + 1) (yss.take k ++ yss2 ++ yss.drop (k + J)).flatten) := by
  obtain ⟨hch, ⟨ks2, hkl2, hown, hnodes⟩, d, hd, ht3⟩ := hs
  have hlen : (ks.take k ++ ks2 ++ ks.drop (k + J)).length = ks.length - J + ks2.length := by simp [List.length_take]; omega
  obtain ⟨b3, hb3, hr3⟩ := Row1.of_own hown (by rw [List.length_map, hlen])
  refine (inners_any w3 (fun x => P x ∨ w.heap.size ≤ x) tb (wt + d) h b3 0 root sv3 _ _ ht3 (by omega) hr3 (.inr hb3) (by simp [List.length_take, hkl2, hl]) hnodes (by omega) (by omega) hn).mono ?_
  rintro e w4 ⟨n4, g4, c4, d4, ks4, yss4, rfl, hn4, hkl4, hyl4, hown4, hnodes4, hflat4, hch4, ht4, hd4⟩
  exact ⟨n4, g4, c4, d + d4, ks4, yss4, rfl, hn4, hkl4, hyl4, own_mono hown4 hch.size, hnodes4.sub (fun x hx _ => hx.elim (fun h => h) (fun h => .inr (Nat.le_trans hch.size h))), hflat4, hch.trans hch4, by rw [← Nat.add_assoc]; exact ht4, by omega⟩

theorem splice_ins {yss yss2 : List (List Value)} {ys : List Value} {k d : Nat} (i : Nat) (v : Value) (hl : Lies yss i k d) (hk : yss[k]? = some ys) (hd : d ≤ ys.length) (hf : yss2.flatten = insL ys d v) : (yss.take k ++ yss2 ++ yss.drop (k + 1)).flatten = insL yss.flatten i v := by
  rw [set_flat, hf]
  unfold insL
  rw [ins_flatten yss i k d ys v hl hk hd]
set_option maxRecDepth 100000 in
set_option maxHeartbeats 4000000 in
theorem inserted_inner (w : World) (P : Nat → Prop) (tb wt rb i h : Nat) (z : Int) (root : Value) (xs : List Value) (ht : TreeBlk w tb root wt) (hwt : wt + 2 * (h + 1 + 1) ≤ 4611686018427387904) (hn : NodeW w P 1 2 (h + 1) rb xs) (hi : i ≤ xs.length) (hN : xs.length ≤ 5000)
    (ih : ∀ (w : World) (P : Nat → Prop) (wt rb i : Nat) (xs : List Value), TreeBlk w tb root wt → wt + 2 * (h + 1) ≤ 4611686018427387904 → NodeW w P 1 2 h rb xs → i ≤ xs.length → xs.length ≤ 5000 →
      Calls Try.prog 51 #[PN tb, PN rb, .int .i64 i, .int .i64 z] w (Made w P tb wt (2 * (h + 1)) root h (insL xs i (.int .i64 z)))) :
    Calls Try.prog 51 #[PN tb, PN rb, .int .i64 i, .int .i64 z] w (Made w P tb wt (2 * (h + 1 + 1)) root (h + 1) (insL xs i (.int .i64 z))) := by
  obtain ⟨lv, kv, b1, o1, ks, yss, hin, hl, hx, hko, _, _, hkid⟩ := hn
  have hdn := down_any w rb b1 o1 xs.length i lv kv ks yss hin hl (by omega) (by rw [← hx]; omega) (by rw [← hx]; exact hi) (fun j k zs hj hz => (hkid j k zs hj hz).blk)
  obtain ⟨a1, c1, rfl, _, ha1⟩ := hin.row.shape
  have hne : ks.map PN ≠ [] := by intro h; simp at h; subst h; simp at hko
  obtain rfl := ha1 hne
  have hrow := hin.row
  have hblk := hin.blk
  have h8 := hin.le
  rw [List.length_map] at hblk hrow
  have hK : ∀ W, Ch [tb] w W → W.cell? ⟨rb, 1, none⟩ = some (.slice (some ⟨b1, o1, none⟩) ks.length c1) ∧ ∀ k q, ks[k]? = some q → W.cell? ⟨b1, o1 + k, none⟩ = some (PN q) := fun W hc =>
    ⟨by rw [cell_of (hc.heap hblk (by simp; exact ne_of_elem hblk ht (by decide)))]; rfl, fun k q hq => (hrow.ch hc (fun hne hm => by simp at hm; exact hrow.ne hne ht (by decide) hm)).get k _ (by rw [List.getElem?_map, hq]; rfl)⟩
  have k1 := (hK w (Ch.refl _ _)).1
  have n0 : (ks.length == 0) = false := by rw [beq_eq_false_iff_ne]; omega
  have n1 : ¬ (ks.length = 0) := by omega
  have HK := Lib.hid hK
  have HD := Lib.hid hdn
  have HX := Lib.hid (And.intro hl (And.intro hx (And.intro hkid (And.intro hrow (And.intro hi hN)))))
  have HT := Lib.hid (And.intro ht (And.intro hwt hko))
  have HI := Lib.hid ih
  clear hK hdn hin hl hx hkid hrow hi hN ht hwt hko hne ha1 hblk ih
  go_enter Try.func51, Try.ntmps51
  go_wp2_with fail
  refine HD.out.mono ?_
  rintro e w' ⟨k, d, ys, rfl, hlies, hys, hd, _, rfl⟩
  obtain ⟨hl, hx, hkid, hrow, hi, hN⟩ := HX.out
  have hklt : k < ks.length := by rw [hl]; exact hlies.lt
  obtain ⟨q, hq⟩ : ∃ q, ks[k]? = some q := ⟨_, List.getElem?_eq_getElem hklt⟩
  have k3 := (HK.out w (Ch.refl _ _)).2 k q hq
  have hnk := (hkid k q ys hq hys).sub (Q := fun x => P x ∧ x < w.heap.size) (fun x hx hlt => ⟨hx, hlt⟩)
  have hyl : ys.length ≤ 5000 := by have := lies_len hys; rw [← hx] at this; omega
  have hw1 : IntKind.i64.wrap ((k : Int) + 1) = ((k + 1 : Nat) : Int) := by rw [IntKind.wrap_i64]; omega
  have hw2 : IntKind.i64.wrap ((k : Int) + 1) = (k : Int) + 1 := by rw [IntKind.wrap_i64]; omega
  have j1 : (k : Int) < (ks.length : Int) := by omega
  have j0 : (0 : Int) ≤ (k : Int) := by omega
  have HF := Lib.hid (fun (n : Nat) (sv3 : Value) (w3 : World) (yss2 : List (List Value)) (hs : Spliced w P tb wt (2 * (h + 1)) h k 1 root ks yss yss2 sv3 w3) (hyl2 : yss2.length = n) (hn2 : n = 1 ∨ n = 2) (hf2 : yss2.flatten = insL ys d (.int .i64 z)) =>
    (show Calls Try.prog 61 #[PN tb, sv3] w3 (Made w P tb wt (2 * (h + 1 + 1)) root (h + 1) (insL xs i (.int .i64 z))) from by
      have e1 := splice_ins i (.int .i64 z) hlies hys hd hf2
      rw [← hx] at e1
      have e2 := insL_len xs i (.int .i64 z) hi
      have e3 := HT.out.2
      rw [← e1] at e2 ⊢
      exact spliced_inners (D := 2 * (h + 1)) hs (by omega) hl (by omega) (by omega) (by omega) (by omega)))
  have HR := Lib.hid (fun (w1 w2 : World) (g c n g2 c2 : Nat) (ks2 : List Nat) (hgb : w2.ownsRow w.heap.size 74 1 (.slice (some ⟨g, 0, none⟩) ks.length c) ks.length (ks.map PN)) (hs2 : w.heap.size ≤ w2.heap.size) (hkl2 : ks2.length = n) (hn2 : n = 1 ∨ n = 2)
      (hr2 : Row1 74 w2 g2 0 (.slice (some ⟨g2, 0, none⟩) n c2) (ks2.map PN) ∧ w1.heap.size ≤ g2 ∧ g2 < w2.heap.size) (hg : g < w1.heap.size) =>
    replN w2 w.heap.size g ks.length c k 1 n g2 c2 ((k : Int) + 1) (ks.map PN) (ks2.map PN) hgb hs2 rfl (by omega) (by omega) (by rw [List.length_map]; exact hkl2) (by omega) hr2.1 (by omega) (pn_one ks) (pn_one ks2) (by omega))
  have hkpos : 0 < ks.length := by omega
  have HC := Lib.hid (fun W hr => clonePN (ks.map PN) ks.length b1 o1 (.slice (some ⟨b1, o1, none⟩) ks.length c1) W hr (pn_one ks) (by rw [List.length_map]; omega) (List.length_map ..) (by omega))
  have HQ := Lib.hid (And.intro hq (And.intro hnk (And.intro hyl (And.intro hlies (And.intro hys hd)))))
  clear hl hx hkid hrow hi hN hq hnk hyl hlies hys hd hw1
  go_wp2_with fail
  go_region_held3 (fun W => W.cell? ⟨rb, 1, none⟩ = some (.slice (some ⟨b1, o1, none⟩) ks.length c1) ∧ W.cell? ⟨b1, o1 + k, none⟩ = some (PN q))
    (first | exact ⟨(HK.out _ hk4).1, (HK.out _ hk4).2 k q HQ.out.1⟩ | exact ⟨(HK.out _ hs3.ch).1, (HK.out _ hs3.ch).2 k q HQ.out.1⟩ | exact ⟨(HK.out _ hk2).1, (HK.out _ hk2).2 k q HQ.out.1⟩ | exact ⟨(HK.out _ hk1).1, (HK.out _ hk1).2 k q HQ.out.1⟩ | exact ⟨(HK.out _ (Ch.refl _ _)).1, (HK.out _ (Ch.refl _ _)).2 k q HQ.out.1⟩ | exact ⟨(HK.out _ (Ch.refl _ _).drew).1, (HK.out _ (Ch.refl _ _).drew).2 k q HQ.out.1⟩)
    (first
      | (go_at_call 63; refine (HC.out _ ((HX.out.2.2.2.1).ch (Ch.refl [] w).drew (by simp))).mono ?_; rintro e w1 ⟨g, c, rfl, hown1, hch1⟩
         have hk1 : Ch [tb] w w1 := ((Ch.refl [tb] w).drew.trans (hch1.mono (fun _ h => by cases h)))
         have ht1 := hch1.heap (show w.drew.heap[tb]? = _ from HT.out.1) (by simp))
      | (go_at_call 51; refine (HI.out w1 (fun x => P x ∧ x < w.heap.size) wt q d ys ht1 (by have := HT.out.2.1; omega) (HQ.out.2.1.ch hk1 (Apart.tree HT.out.1)) HQ.out.2.2.2.2.2 HQ.out.2.2.1).mono ?_
         rintro e w2 ⟨n, g2, c2, d2, ks2, yss2, rfl, hn2, hkl2, hyl2, hown2, hnodes2, hflat2, hch2, ht2, hd2⟩
         have hk2 : Ch [tb] w w2 := hk1.trans hch2
         have hg1 := own_base hown1 rfl
         have hgb := own_kept hch2 hown1 (fun x hx => by simp; rintro rfl; exact own_ne hown1 ht1 (by decide) hx)
         have hr2 := row_of_own hown2 (two_pos hn2))
      | (go_at_call 61; refine (HF.out n sv3 w3 yss2 hs3 hyl2 hn2 hflat2).mono ?_
         rintro e w4 ⟨n4, g4, c4, d4, ks4, yss4, rfl, hm4⟩
         have hk4 : Ch [tb] w w4 := hm4.2.2.2.2.2.2.1)
      | (go_at_call 62
         refine (HR.out w1 w2 g c n g2 c2 ks2 hgb hk2.size hkl2 hn2 hr2 hg1.2).mono ?_
         rintro e w3 ⟨sv3, rfl, hown3, hch3⟩
         have hs3 := spliced (P := P) (D := 2 * (h + 1)) HX.out.1 (Nat.le_of_lt hklt) HT.out.1 HX.out.2.2.1 hg1 hk1.size (own_blk hgb hkpos) hkl2 hyl2 hnodes2 hk2 ht2 hd2 hown3 hch3))
  have HE := Lib.hid (show Made w P tb wt (2 * (h + 1 + 1)) root (h + 1) (insL xs i (.int .i64 z)) (.returned (.slice (some ⟨g4, 0, none⟩) n4 c4)) w4 from ⟨n4, g4, c4, d4, ks4, yss4, rfl, hm4⟩)
  clear hm4 hk4 hs3 hown3 hch3 hk2 hr2 hgb hg1 hn2 hkl2 hyl2 hown2 hnodes2 hflat2 hch2 ht2 hd2 hk1 ht1 hown1 hch1 k1 k3
  go_wp2
  go_ret
  exact HE.out
/-- inserted: the node with one element more: one node, or two. -/
theorem inserted_any (tb : Nat) (z : Int) (root : Value) : ∀ (h : Nat) (w : World) (P : Nat → Prop) (wt rb i : Nat) (xs : List Value), TreeBlk w tb root wt → wt + 2 * (h + 1) ≤ 4611686018427387904 → NodeW w P 1 2 h rb xs → i ≤ xs.length → xs.length ≤ 5000 →
      Calls Try.prog 51 #[PN tb, PN rb, .int .i64 i, .int .i64 z] w (Made w P tb wt (2 * (h + 1)) root h (insL xs i (.int .i64 z)))
  | 0, w, P, wt, rb, i, xs, ht, hwt, hn, hi, _ => inserted_leaf w P tb wt rb i z root xs ht (by omega) hn hi
  | h + 1, w, P, wt, rb, i, xs, ht, hwt, hn, hi, hN => inserted_inner w P tb wt rb i h z root xs ht hwt hn hi hN (inserted_any tb z root h)
end Go.Proofs.Ytjecadkmlakncaa
