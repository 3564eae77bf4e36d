/-
  The tree: erased.
-/
import Derived.Test.YtjecadkmlakncaaTe8
import Derived.Deep.QuietTactic
import Derived.Deep.RegionWith
namespace Go.Proofs.Ytjecadkmlakncaa
open Go.RowKit

set_option maxRecDepth 100000 in
set_option maxHeartbeats 2000000 in
theorem erased_leaf (w : World) (P : Nat → Prop) (tb wt rb i : Nat) (root : Value) (xs : List Value) (ht : TreeBlk w tb root wt) (hwt : wt + 1 ≤ 4611686018427387904) (hn : NodeW w P 1 2 0 rb xs) (hi : i < xs.length) :
    Calls Try.prog 53 #[PN tb, PN rb, .int .i64 i] w (MadeOne w P tb wt 1 root 0 1 0 (eraL xs i)) := by
  obtain ⟨lv, kv, b1, o1, hl, hlo, _, _⟩ := hn
  obtain ⟨a1, c1, rfl, _, ha1⟩ := hl.row.shape
  obtain ⟨a2, c2, rfl⟩ := hl.kid
  have k1 : w.cell? ⟨rb, 0, none⟩ = some (.slice a1 xs.length c1) := by rw [cell_of hl.blk]; rfl
  have k2 : w.cell? ⟨rb, 1, none⟩ = some (.slice a2 0 c2) := by rw [cell_of hl.blk]; rfl
  have hC := Lib.hid (clonePI xs xs.length b1 o1 _ w hl.row hl.one (by have := hl.le; omega) rfl (by omega))
  have hi10 : i ≤ 8 := by have := hl.le; omega
  have hw : IntKind.i64.wrap ((i : Int) + 1) = (i : Int) + 1 := by rw [IntKind.wrap_i64]; omega
  have H := Lib.hid (And.intro hl (And.intro hi (And.intro hlo (And.intro ht hwt))))
  clear hl hlo ht ha1 hwt hi
  go_enter Try.func53, Try.ntmps53
  go_wp2_with fail
  refine hC.out.mono ?_
  rintro e w1 ⟨g, c, rfl, hown1, hch1⟩
  have hD := Lib.hid (delI w (.slice (some ⟨g, 0, none⟩) xs.length c) i xs w1 hown1 hch1 H.out.2.1 H.out.1.one)
  clear hown1 hch1 hC
  go_wp2_with fail
  refine hD.out.mono ?_
  rintro e w2 ⟨s2, rfl, hown2, hch2⟩
  have hlen := eraL_len xs i H.out.2.1
  have hL := Lib.hid (leaf_own (P := P) (sv := s2) (ys := eraL xs i) H.out.2.2.2.1 H.out.2.2.2.2 hch2 (by rw [hlen]; exact hown2) (fun u hu => by
    unfold eraL at hu
    rcases List.mem_append.1 hu with h | h
    · exact H.out.1.one u (List.mem_of_mem_take h)
    · exact H.out.1.one u (List.mem_of_mem_drop h)) (by rw [hlen]; have := H.out.1.le; omega))
  clear hown2 hch2 hlen hD
  go_wp2_with fail
  refine hL.out.mono ?_
  rintro e w3 ⟨b, d, rfl, hm⟩
  have HE := Lib.hid (show MadeOne w P tb wt 1 root 0 1 0 (eraL xs i) (.returned (PN b)) w3 from ⟨b, d, rfl, hm.1.mono (fun _ h _ => h) (Nat.zero_le _) (by omega), hm.2⟩)
  clear hm hL k1 k2 hw
  go_wp2
  go_ret
  exact HE.out

set_option maxRecDepth 100000 in
set_option maxHeartbeats 8000000 in
theorem erased_inner (w : World) (P : Nat → Prop) (tb wt rb i h : Nat) (root : Value) (xs : List Value) (ht : TreeBlk w tb root wt) (hwt : wt + (3 * (h + 1) + 1) ≤ 4611686018427387904) (hn : NodeW w P 1 2 (h + 1) rb xs) (hi : i < xs.length) (hN : xs.length ≤ 5000)
    (ih : ∀ (w : World) (P : Nat → Prop) (wt rb i : Nat) (xs : List Value), TreeBlk w tb root wt → wt + (3 * h + 1) ≤ 4611686018427387904 → NodeW w P 1 2 h rb xs → i < xs.length → xs.length ≤ 5000 →
      Calls Try.prog 53 #[PN tb, PN rb, .int .i64 i] w (MadeOne w P tb wt (3 * h + 1) root 0 1 h (eraL xs i))) :
    Calls Try.prog 53 #[PN tb, PN rb, .int .i64 i] w (MadeOne w P tb wt (3 * (h + 1) + 1) root 0 1 (h + 1) (eraL xs i)) := by
  obtain ⟨lv, kv, b1, o1, ks, yss, hin, hl, hx, hko, _, _, hkid⟩ := hn
  have hdn := down_any w rb b1 o1 xs.length i lv kv ks yss hin hl (by omega) (by rw [← hx]; omega) (by rw [← hx]; omega) (fun j k zs hj hz => (hkid j k zs hj hz).blk)
  obtain ⟨a1, c1, rfl, _, ha1⟩ := hin.row.shape
  have hne : ks.map PN ≠ [] := by intro h; simp at h; subst h; simp at hko
  obtain rfl := ha1 hne
  have hrow := hin.row
  have hblk := hin.blk
  have h8 := hin.le
  rw [List.length_map] at hblk hrow
  have hK : ∀ W, Ch [tb] w W → W.cell? ⟨rb, 1, none⟩ = some (.slice (some ⟨b1, o1, none⟩) ks.length c1) ∧ ∀ k q, ks[k]? = some q → W.cell? ⟨b1, o1 + k, none⟩ = some (PN q) := fun W hc =>
    ⟨by rw [cell_of (hc.heap hblk (by simp; exact ne_of_elem hblk ht (by decide)))]; rfl, fun k q hq => (hrow.ch hc (fun hne hm => by simp at hm; exact hrow.ne hne ht (by decide) hm)).get k _ (by rw [List.getElem?_map, hq]; rfl)⟩
  have k1 := (hK w (Ch.refl _ _)).1
  have n0 : (ks.length == 0) = false := by rw [beq_eq_false_iff_ne]; omega
  have n1 : ¬ (ks.length = 0) := by omega
  have hC := Lib.hid (clonePN (ks.map PN) ks.length b1 o1 _ w hrow (pn_one ks) (by rw [List.length_map]; omega) (List.length_map ..) (by omega))
  have HK := Lib.hid hK
  have HD := Lib.hid hdn
  have HX := Lib.hid (And.intro hl (And.intro hx (And.intro hkid (And.intro hrow (And.intro hi hN)))))
  have HT := Lib.hid (And.intro ht (And.intro hwt hko))
  have HI := Lib.hid ih
  clear hK hdn hin hl hx hkid hrow hi hN ht hwt hko hne ha1 hblk ih
  go_enter Try.func53, Try.ntmps53
  go_wp2_with fail
  refine HD.out.mono ?_
  rintro e w' ⟨k, d, ys, rfl, hlies, hys, _, hd, rfl⟩
  obtain ⟨hl, hx, hkid, hrow, hi, hN⟩ := HX.out
  have hd := hd (by rw [← hx]; exact hi)
  have hklt : k < ks.length := by rw [hl]; exact hlies.lt
  obtain ⟨q, hq⟩ : ∃ q, ks[k]? = some q := ⟨_, List.getElem?_eq_getElem hklt⟩
  have hnk := (hkid k q ys hq hys).sub (Q := fun x => P x ∧ x < w.heap.size) (fun x hx hlt => ⟨hx, hlt⟩)
  have hyl : ys.length ≤ 5000 := by have := lies_len hys; rw [← hx] at this; omega
  have j1 : (k : Int) < (ks.length : Int) := by omega
  have HQ := Lib.hid (And.intro hq (And.intro hnk (And.intro hyl (And.intro hlies (And.intro hys hd)))))
  clear hl hx hkid hrow hi hN hq hnk hyl hlies hys hd
  go_wp2_with fail
  refine hC.out.mono ?_
  rintro e w1 ⟨g, c, rfl, hown1, hch1⟩
  have hk1 : Ch [tb] w w1 := hch1.mono (fun _ h => by cases h)
  have ht1 := hch1.heap HT.out.1 (by simp)
  have k3 := (HK.out w1 hk1).1
  have k4 := (HK.out w1 hk1).2 k q HQ.out.1
  have hI := Lib.hid (HI.out w1 (fun x => P x ∧ x < w.heap.size) wt q d ys ht1 (by have := HT.out.2.1; omega) (HQ.out.2.1.ch hk1 (Apart.tree HT.out.1)) HQ.out.2.2.2.2.2 HQ.out.2.2.1)
  have H1 := Lib.hid (And.intro hown1 (And.intro hk1 ht1))
  clear hown1 hch1 hk1 ht1 hC k1
  go_wp2_with fail
  refine hI.out.mono ?_
  rintro e w2 ⟨b, d2, rfl, hnode2, hch2, ht2, hd2⟩
  obtain ⟨hown1, hk1, ht1⟩ := H1.out
  have hg1 := own_base hown1 rfl
  have hgb := own_kept hch2 hown1 (fun x hx => by simp; rintro rfl; exact own_ne hown1 ht1 (by decide) hx)
  have f2 := (own_cells hgb hklt).2
  have c2 := (own_cells hgb hklt).1 (PN q) (by rw [List.getElem?_map, HQ.out.1]; rfl)
  have hgtb : tb ≠ g := fun hh => by
    obtain ⟨cs, f, hb⟩ := own_blk hgb (by omega)
    exact ne_of_elem ht2 hb (by decide) hh
  have hE3 : EraAt w P tb wt d2 h k g c w1.heap.size b root ks yss (eraL ys d) (w2.setCell ⟨g, k, none⟩ (PN b)) := by
    refine ⟨?_, (hk1.trans hch2).setCell (p := ⟨g, k, none⟩) (.inr hg1.1) _, hg1, hk1.size, by simpa using hch2.size, ?_, (heap_setCell_other hgtb).trans ht2, HT.out.1, HX.out.2.2.1, HX.out.1, hklt, HT.out.2.2, h8⟩
    · have := own_set hgb hklt (PN b)
      rw [List.map_set]; exact this
    · exact hnode2.ch ((Ch.refl [g] w2).setCell (p := ⟨g, k, none⟩) (.inl (by simp)) _) (Apart.out (fun x hx hp => by
        simp at hx; subst hx
        have := hg1.2
        rcases hp with hp | hp
        · have := hp.2; have := hg1.1; simp at this; omega
        · simp at this; omega))
  obtain ⟨n, m, aa1, aa2, cc1, cc2, hbb, hnm, hst⟩ := hE3.weak.parts
  have c3 : (w2.setCell ⟨g, k, none⟩ (PN b)).cell? ⟨g, k, none⟩ = some (PN b) := hE3.cell (by rw [List.getElem?_set_self hklt])
  have hS := Lib.hid (size_any (w2.setCell ⟨g, k, none⟩ (PN b)) b n m _ aa1 aa2 cc1 cc2 hbb (by omega) (by omega))
  have HE3 := Lib.hid (And.intro hE3 hst)
  clear hE3 hst hbb hgb hown1 hk1 ht1 hnode2 hch2 ht2 hI H1 hg1 hgtb
  go_wp2_with fail
  refine hS.out.mono ?_
  rintro e w3 ⟨rfl, nq, rfl⟩
  have hE := HE3.out.1.drewN nq
  have hst := fun hh => (HE3.out.2 hh).ch (((Like.refl _).drewN nq).ch (Ch.refl [] _)) (Apart.nil _ _)
  generalize hW3 : (w2.setCell ⟨g, k, none⟩ (PN b)).drewN nq = w3 at *
  clear hW3 HE3 hS c3 c2 f2 k3 k4
  have hk2 : 2 ≤ ks.length := HT.out.2.2
  by_cases h4 : 4 ≤ n + m
  · have t4 : ¬ (((n + m : Nat) : Int) < 4) := by omega
    have hs3 := hE.strong (hst h4) (3 * h + 1) hd2
    have hJ := Lib.hid (show Calls Try.prog 52 #[PN tb, .slice (some ⟨g, 0, none⟩) ks.length c] w3 (MadeOne w P tb wt (3 * (h + 1) + 1) root 0 1 (h + 1) (eraL xs i)) from by
      have e1 : (yss.take k ++ [eraL ys d] ++ yss.drop (k + 1)).flatten = eraL xs i := by
        rw [set_flat, HX.out.2.1]
        unfold eraL
        rw [era_flatten yss i k d ys HQ.out.2.2.2.1 HQ.out.2.2.2.2.1 HQ.out.2.2.2.2.2]
        simp
      rw [← e1]
      have e2 := eraL_len xs i HX.out.2.2.2.2.1
      have e3 := HX.out.2.2.2.2.2
      have e4 := HT.out.2
      refine (spliced_inner hs3 (by omega) HX.out.1 (by omega) (by simp; omega) (by rw [e1, e2]; omega)).mono ?_
      rintro e w4 ⟨b4, d4, rfl, hn4, hc4, ht4, hd4⟩
      exact ⟨b4, d4, rfl, hn4.mono (fun _ h _ => h) (Nat.zero_le _) (by simp <;> omega), hc4, ht4, by omega⟩)
    clear hE hst hs3 hnm h4
    go_wp2_with fail
    refine hJ.out.mono ?_
    rintro e w4 ⟨b4, d4, rfl, hm4⟩
    have HE := Lib.hid (show MadeOne w P tb wt (3 * (h + 1) + 1) root 0 1 (h + 1) (eraL xs i) (.returned (PN b4)) w4 from ⟨b4, d4, rfl, hm4⟩)
    clear hm4 hJ t4
    go_wp2
    go_ret
    exact HE.out
  · have t4 : ((n + m : Nat) : Int) < 4 := by omega
    have l1 : (1 : Int) < (ks.length : Int) := by omega
    have hw2 : IntKind.i64.wrap ((ks.length : Int) - 2) = ((ks.length - 2 : Nat) : Int) := by rw [IntKind.wrap_i64]; omega
    clear hst
    obtain ⟨k', hk', hmin⟩ : ∃ k', ((k' = k ∧ k + 1 < ks.length) ∨ (k' + 1 = k ∧ k + 1 = ks.length)) ∧ k' = min k (ks.length - 2) := by
      by_cases hh : k + 1 < ks.length
      · exact ⟨k, .inl ⟨rfl, hh⟩, by omega⟩
      · exact ⟨k - 1, .inr ⟨by omega, by omega⟩, by omega⟩
    have hmin' : min (k : Int) ((ks.length - 2 : Nat) : Int) = (k' : Int) := by omega
    have hd5 : yss.flatten.length ≤ 5000 := by rw [← HX.out.2.1]; exact HX.out.2.2.2.2.2
    obtain ⟨a, a', zs, q1, q2, hflat, hjoin⟩ := hE.drew.join HQ.out.2.2.2.1 HQ.out.2.2.2.2.1 HQ.out.2.2.2.2.2 rfl hd5 (by have := HT.out.2.1; omega) k' hk'
    have c5 := hE.cell q1
    have c6 := hE.cell q2
    have hk'l : k' + 1 < ks.length := by omega
    have l2 : (k' : Int) < (ks.length : Int) := by omega
    have l3 : (k' : Int) + 1 < (ks.length : Int) := by omega
    have sm5 : IntKind.i64.wrap ((k' : Int) + 1) = (k' : Int) + 1 := by rw [IntKind.wrap_i64]; omega
    have sm6 : IntKind.i64.wrap ((k' : Int) + 2) = (k' : Int) + 2 := by rw [IntKind.wrap_i64]; omega
    have w7 : ((k' : Int) + 1).toNat = k' + 1 := by omega
    have w8 : (0 : Int) ≤ (k' : Int) + 1 := by omega
    have HJ := Lib.hid hjoin
    have HM := Lib.hid (And.intro hE.drew (And.intro hk' (And.intro hflat (And.intro hd2 (And.intro hnm hk'l)))))
    have HRep := Lib.hid (fun (n : Nat) (g2 c2 d3 : Nat) (ks2 : List Nat) (yss2 : List (List Value)) (W4 : World) (hm : (n = 1 ∨ n = 2) ∧ ks2.length = n ∧ yss2.length = n ∧ W4.ownsRow w3.drew.heap.size 74 1 (.slice (some ⟨g2, 0, none⟩) n c2) n (ks2.map PN) ∧
        NodesW W4 (fun x => ((P x ∧ x < w.heap.size) ∨ w1.heap.size ≤ x) ∨ w3.drew.heap.size ≤ x) h ks2 yss2 ∧ yss2.flatten = zs ∧ Ch [tb] w3.drew W4 ∧ TreeBlk W4 tb root (wt + d2 + d3) ∧ d3 ≤ 2) =>
      HM.out.1.replaced k' (3 * h + 1 + 2) hk' hm.1 hm.2.1 hm.2.2.1 hm.2.2.2.1 hm.2.2.2.2.1 hm.2.2.2.2.2.2.1 hm.2.2.2.2.2.2.2.1 (by have := hm.2.2.2.2.2.2.2.2; omega))
    have HIn := Lib.hid (fun (n : Nat) (yss2 : List (List Value)) (sv3 : Value) (W5 : World) (hn2 : n = 1 ∨ n = 2) (hyl2 : yss2.length = n) (hz : yss2.flatten = zs) (hs : Spliced w P tb wt (3 * h + 1 + 2) h k' 2 root ks yss yss2 sv3 W5) =>
      (show Calls Try.prog 52 #[PN tb, sv3] W5 (MadeOne w P tb wt (3 * (h + 1) + 1) root 0 1 (h + 1) (eraL xs i)) from by
        have e1 := hflat yss2 hz
        rw [← HX.out.2.1] at e1
        rw [← e1]
        have e2 := eraL_len xs i HX.out.2.2.2.2.1
        have e3 := HX.out.2.2.2.2.2
        have e4 := HT.out.2
        refine (spliced_inner hs (by omega) HX.out.1 (by omega) (by omega) (by rw [e1, e2]; omega)).mono ?_
        rintro e w4 ⟨b4, d4, rfl, hn4, hc4, ht4, hd4⟩
        exact ⟨b4, d4, rfl, hn4.mono (fun _ h _ => h) (Nat.zero_le _) (by omega), hc4, ht4, by omega⟩))
    clear hjoin hE hflat q1 q2 hnm h4 hk' hd2 hmin hd5
    go_wp2_with fail
    clear hmin'
    go_region_with
      (first
        | (go_at_call 66; refine HJ.out.mono ?_; rintro e w4 ⟨n4, g4, c4, d4, ks4, yss4, rfl, hm4⟩; have hpos := two_pos hm4.1)
        | (go_at_call 62; refine (HRep.out n4 g4 c4 d4 ks4 yss4 w4 hm4).mono ?_; rintro e w5 ⟨sv3, rfl, hs5⟩))
    all_goals
      have hJ := Lib.hid (HIn.out n4 yss4 sv3 w5 hm4.1 hm4.2.2.1 hm4.2.2.2.2.2.1 hs5)
      clear hs5 hm4 HIn HRep HJ sm5 sm6
      go_wp2_with fail
      refine hJ.out.mono ?_
      rintro e w6 ⟨b6, d6, rfl, hm6⟩
      have HE := Lib.hid (show MadeOne w P tb wt (3 * (h + 1) + 1) root 0 1 (h + 1) (eraL xs i) (.returned (PN b6)) w6 from ⟨b6, d6, rfl, hm6⟩)
      clear hm6 hJ t4 l1 l2 l3 c5 c6
      go_wp2
      go_ret
      exact HE.out
/-- erased: the node with one element less. -/
theorem erased_any (tb : Nat) (root : Value) : ∀ (h : Nat) (w : World) (P : Nat → Prop) (wt rb i : Nat) (xs : List Value), TreeBlk w tb root wt → wt + (3 * h + 1) ≤ 4611686018427387904 → NodeW w P 1 2 h rb xs → i < xs.length → xs.length ≤ 5000 →
      Calls Try.prog 53 #[PN tb, PN rb, .int .i64 i] w (MadeOne w P tb wt (3 * h + 1) root 0 1 h (eraL xs i))
  | 0, w, P, wt, rb, i, xs, ht, hwt, hn, hi, _ => erased_leaf w P tb wt rb i root xs ht (by omega) hn hi
  | h + 1, w, P, wt, rb, i, xs, ht, hwt, hn, hi, hN => erased_inner w P tb wt rb i h root xs ht hwt hn hi hN (erased_any tb root h)
end Go.Proofs.Ytjecadkmlakncaa
