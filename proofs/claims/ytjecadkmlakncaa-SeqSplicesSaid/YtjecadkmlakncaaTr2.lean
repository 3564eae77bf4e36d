/-
  slices.Replace at []*node in a row of the call's own: in the midst. (printed by wip/gen_tree.py)
-/
import Derived.Test.YtjecadkmlakncaaTr1
namespace Go.Proofs.Ytjecadkmlakncaa
open Go.RowKit

set_option maxHeartbeats 1000000 in
theorem replMidN (W0 : World) (B : Nat) (S : List Nat) (sv : Value) (i j : Nat) (cs vs : List Value) (vb voff vc : Nat) (w : World) (ho : w.ownsRow B 74 1 sv cs.length cs) (hc : Ch S W0 w) (hB : B ≤ w.heap.size) (hS : ∀ g, sv.ownBlock = some g → g ∈ S ∨ W0.heap.size ≤ g) (hij : i < j) (hj : j < cs.length) (hm : vs ≠ [])
    (hv : Row1 74 w vb voff (.slice (some ⟨vb, voff, none⟩) vs.length vc) vs) (hvb : sv.ownBlock ≠ some vb) (h1c : ∀ v ∈ cs, v.oneCell' = true) (h1v : ∀ v ∈ vs, v.oneCell' = true) (hl : cs.length + vs.length ≤ 10000) :
    Calls Try.prog 62 #[sv, .int .i64 i, .int .i64 j, .slice (some ⟨vb, voff, none⟩) vs.length vc] w fun e w' => ∃ sv', e = .returned sv' ∧ w'.ownsRow B 74 1 sv' (i + vs.length + (cs.length - j)) (cs.take i ++ vs ++ cs.drop j) ∧ Ch S W0 w' := by
  have hm0 : 0 < vs.length := List.length_pos_iff.2 hm
  have hvs := hv.get
  obtain ⟨g, cap, cur, rfl, hg, hh, hn, hcm, hs, ht, hcell, hsome, hfz, hsh⟩ := own_parts ho (by omega)
  have hgS := hS g rfl
  have hc63 : cap ≤ 9223372036854775807 := by unfold maxLen at hcm; omega
  have hgv : vb ≠ g := fun h => hvb (by simp [Value.ownBlock, h])
  have hti : cur.toList.take i = cs.take i := by
    conv => rhs; rw [← ht]
    rw [List.take_take, Nat.min_eq_left (by omega)]
  have hdl : (cs.drop j).length = cs.length - j := by rw [List.length_drop]
  have hl1 : (cs.take i ++ vs).length = i + vs.length := by simp [List.length_take]; omega
  have hlr : (cs.take i ++ vs ++ cs.drop j).length = i + vs.length + (cs.length - j) := by simp [List.length_take]; omega
  by_cases hr : i + vs.length + (cs.length - j) ≤ cap
  · by_cases hmj : j < i + vs.length
    · obtain ⟨vcur, hvh, hvt⟩ := hv.2 hm
      have hvne : vcur.size ≠ 0 := by
        have := congrArg List.length hvt
        simp [List.length_take] at this
        omega
      refine (replShiftN g 0 cs.length cap i j vb voff vs.length vc cs vs w hij hj hm0 hr hn hc63 hmj hgv rfl rfl hcell (fun t ht => hsome t (by omega)) ?_ hvs h1c h1v _ _ _ _ (show w.shape? vb = some (74, vcur.size) by simp [World.shape?, hvh]) hsh hvne).mono ?_
      · intro k t
        by_cases hk : k = g
        · subst hk; exact .inl (hfz t)
        · by_cases hk2 : k = vb
          · subst hk2; exact .inl (free_of hvh)
          · exact .inr ⟨hk, hk2⟩
      · rintro e w' ⟨rfl, hL⟩
        obtain ⟨c1, hb1, hc1, hz1⟩ := setCells_block2 g 74 (cs.drop j) (0 + (i + vs.length)) w cur hh (by omega)
        obtain ⟨c2, hb2, hc2, hz2⟩ := setCells_block2 g 74 vs (0 + i) _ c1 hb1 (by omega)
        refine ⟨_, rfl, hL.own (ownOf hg hb2 hr hcm (by omega) ?_ hlr), hL.ch (setCells_ch g _ _ _ (setCells_ch g _ _ _ hc hgS) hgS)⟩
        have e1 : c1.toList.take i = cs.take i := by
          rw [hc1, Nat.zero_add, List.append_assoc, List.take_append_of_le_length (by simp [List.length_take]; omega), List.take_take, Nat.min_eq_left (by omega), hti]
        have e2 : c1.toList.drop (i + vs.length) = cs.drop j ++ cur.toList.drop (i + vs.length + (cs.drop j).length) := by
          rw [hc1, Nat.zero_add, List.append_assoc]
          exact List.drop_left' (by simp [List.length_take]; omega)
        rw [hc2, Nat.zero_add, e1, e2, ← List.append_assoc]
        exact List.take_left' hlr
    · obtain ⟨c1, hb1, hc1, hz1⟩ := setCells_block2 g 74 vs (0 + i) w cur hh (by omega)
      obtain ⟨c2, hb2, hc2, hz2⟩ := setCells_block2 g 74 (cs.drop j) (0 + (i + vs.length)) _ c1 hb1 (by omega)
      have e1 : c1.toList.take (i + vs.length) = cs.take i ++ vs := by
        rw [hc1, Nat.zero_add, hti]
        exact List.take_left' hl1
      have e2 : c2.toList.take (i + vs.length + (cs.length - j)) = cs.take i ++ vs ++ cs.drop j := by
        rw [hc2, Nat.zero_add, e1]
        exact List.take_left' hlr
      by_cases hmj2 : i + vs.length = j
      · refine (replSameN g 0 cs.length cap i j vb voff vs.length vc cs vs w hij hj hm0 hn hc63 hmj2 hgv rfl rfl hcell hfz hvs h1c h1v).mono ?_
        rintro e w' ⟨rfl, hL⟩
        exact ⟨_, rfl, hL.own (ownOf hg hb2 hr hcm (by omega) e2 hlr), hL.ch (setCells_ch g _ _ _ (setCells_ch g _ _ _ hc hgS) hgS)⟩
      · refine (replLessN g 0 cs.length cap i j vb voff vs.length vc cs vs w hij hj hm0 hn hc63 (by omega) hgv rfl rfl hcell hfz hvs h1c h1v).mono ?_
        rintro e w' ⟨rfl, hL⟩
        obtain ⟨c3, hb3, hc3, hz3⟩ := setCells_block2 g 74 (List.replicate (cs.length - (i + vs.length + (cs.length - j))) (.pointer none)) (0 + (i + vs.length + (cs.length - j))) _ c2 hb2 (by simp; omega)
        refine ⟨_, rfl, hL.own (ownOf hg hb3 hr hcm (by omega) ?_ hlr), hL.ch (setCells_ch g _ _ _ (setCells_ch g _ _ _ (setCells_ch g _ _ _ hc hgS) hgS) hgS)⟩
        rw [hc3, Nat.zero_add, e2, List.append_assoc]
        exact List.take_left' hlr
  · refine (replGrowN g 0 cs.length cap i j vb voff vs.length vc cs vs w hij hj hm0 hn (by omega) (by omega) rfl rfl hcell hvs h1c h1v).mono ?_
    rintro e w' ⟨G, row, rfl, hG, hGm, hrs, hrt, hL⟩
    obtain ⟨c1, hb1, hc1, hz1⟩ := setCells_block2 w.heap.size 74 vs i _ row (heap_alloc_same w (.cells row 74)) (by omega)
    obtain ⟨c2, hb2, hc2, hz2⟩ := setCells_block2 w.heap.size 74 (cs.drop j) (i + vs.length) _ c1 hb1 (by omega)
    refine ⟨_, rfl, hL.own (ownOf hB hb2 hG hGm (by omega) ?_ hlr), hL.ch (setCells_ch _ _ _ _ (setCells_ch _ _ _ _ (hc.alloc _) (.inr hc.size)) (.inr hc.size))⟩
    have e1 : c1.toList.take (i + vs.length) = cs.take i ++ vs := by
      rw [hc1, hrt]
      exact List.take_left' hl1
    rw [hc2, e1]
    exact List.take_left' hlr
end Go.Proofs.Ytjecadkmlakncaa
