/-
  slices.Replace at []*node in a row of the call's own: one contract over the roads. (printed by wip/gen_tree.py)
-/
import Derived.Test.YtjecadkmlakncaaTc9
namespace Go.Proofs.Ytjecadkmlakncaa
open Go.RowKit
theorem repl_list {α : Type} (cs cur vs : List α) (i j : Nat) (hij : i ≤ j) (hj : j ≤ cs.length) (ht : cur.take cs.length = cs) (c1 c2 : List α)
    (h1 : c1.take i = cs.take i) (h2 : c2 = c1.take i ++ vs ++ c1.drop (i + vs.length)) : c2.take (i + vs.length) = cs.take i ++ vs := by
  rw [h2, h1]
  exact List.take_left' (by simp [List.length_take]; omega)

/-- What a row of the call's own is, written out. -/
theorem own_parts {T : TypeId} {w : World} {base : Nat} {sv : Value} {cs : List Value} (ho : w.ownsRow base T 1 sv cs.length cs) (hne : 0 < cs.length) :
    ∃ g cap cur, sv = .slice (some ⟨g, 0, none⟩) cs.length cap ∧ base ≤ g ∧ w.heap[g]? = some (.cells cur T (0, 0)) ∧ cs.length ≤ cap ∧ cap ≤ maxLen ∧ cur.size = cap ∧ cur.toList.take cs.length = cs ∧
      (∀ j v, cs[j]? = some v → w.cell? ⟨g, 0 + j, none⟩ = some v) ∧ (∀ t, t < cap → (w.cell? ⟨g, 0 + t, none⟩).isSome = true) ∧ (∀ t, w.frozen? ⟨g, t, none⟩ = false) ∧ w.shape? g = some (T, cap) := by
  rcases ho.2 with ⟨rfl, h0⟩ | ⟨g, cap, cur, rfl, hg, hh, hn, hcm, hs, ht⟩
  · omega
  · have hs' : cur.size = cap := by simpa using hs
    have ht' : cur.toList.take cs.length = cs := by simpa using ht
    refine ⟨g, cap, cur, rfl, hg, hh, hn, hcm, hs', ht', fun j v hj => ?_, fun t htl => ?_, fun t => free_of hh, by simp [World.shape?, hh, hs']⟩
    · rw [Nat.zero_add, cell_of hh]
      have hj' : j < cs.length := (List.getElem?_eq_some_iff.1 hj).1
      rw [← ht', List.getElem?_take, if_pos hj'] at hj
      simpa using hj
    · rw [Nat.zero_add, cell_of hh, Array.getElem?_eq_getElem (by omega)]; rfl
set_option maxHeartbeats 1000000 in
/-- slices.Replace in a row of the call's own. -/
theorem replEndN (W0 : World) (B : Nat) (S : List Nat) (sv : Value) (i : Nat) (cs vs : List Value) (vb voff vc : Nat) (w : World) (ho : w.ownsRow B 74 1 sv cs.length cs) (hc : Ch S W0 w) (hB : B ≤ w.heap.size) (hS : ∀ g, sv.ownBlock = some g → g ∈ S ∨ W0.heap.size ≤ g) (hij : i < cs.length) (hm : vs ≠ [])
    (hv : Row1 74 w vb voff (.slice (some ⟨vb, voff, none⟩) vs.length vc) vs) (h1v : ∀ v ∈ vs, v.oneCell' = true) (hl : cs.length + vs.length ≤ 10000) :
    Calls Try.prog 62 #[sv, .int .i64 i, .int .i64 cs.length, .slice (some ⟨vb, voff, none⟩) vs.length vc] w fun e w' => ∃ sv', e = .returned sv' ∧ w'.ownsRow B 74 1 sv' (i + vs.length) (cs.take i ++ vs) ∧ Ch S W0 w' := by
  have hm0 : 0 < vs.length := List.length_pos_iff.2 hm
  have hvs := hv.get
  obtain ⟨g, cap, cur, rfl, hg, hh, hn, hcm, hs, ht, hcell, hsome, hfz, _⟩ := own_parts ho (by omega)
  have hgS := hS g rfl
  have hc63 : cap ≤ 9223372036854775807 := by unfold maxLen at hcm; omega
  have hti : cur.toList.take i = cs.take i := by
    conv => rhs; rw [← ht]
    rw [List.take_take, Nat.min_eq_left (by omega)]
  have hlr : (cs.take i ++ vs).length = i + vs.length := by simp [List.length_take]; omega
  by_cases hr : i + vs.length ≤ cap
  · obtain ⟨c1, hb1, hc1, hz1⟩ := setCells_block2 g 74 vs (0 + i) w cur hh (by omega)
    have ht1 : c1.toList.take (i + vs.length) = cs.take i ++ vs := by
      rw [hc1, Nat.zero_add, hti]
      exact List.take_left' hlr
    by_cases hless : i + vs.length < cs.length
    · refine (replEndLessN g 0 cs.length cap i vb voff vs.length vc cs vs w hij hm0 hr hn hc63 hless rfl rfl hcell (fun t ht => hsome t (by omega)) hfz hvs h1v).mono ?_
      rintro e w' ⟨rfl, hL⟩
      obtain ⟨c2, hb2, hc2, hz2⟩ := setCells_block2 g 74 (List.replicate (cs.length - (i + vs.length)) (.pointer none)) (0 + (i + vs.length)) _ c1 hb1 (by simp; omega)
      refine ⟨_, rfl, hL.own (ownOf hg hb2 hr hcm (by omega) ?_ hlr), hL.ch (setCells_ch g _ _ _ (setCells_ch g _ _ _ hc hgS) hgS)⟩
      rw [hc2, Nat.zero_add, ht1, List.append_assoc]
      exact List.take_left' hlr
    · refine (replEndRoomN g 0 cs.length cap i vb voff vs.length vc cs vs w hij hm0 hr hn hc63 (by omega) rfl rfl hcell (fun t ht => hsome t (by omega)) hfz hvs h1v).mono ?_
      rintro e w' ⟨rfl, hL⟩
      exact ⟨_, rfl, hL.own (ownOf hg hb1 hr hcm (by omega) ht1 hlr), hL.ch (setCells_ch g _ _ _ hc hgS)⟩
  · refine (replEndGrowN g 0 cs.length cap i vb voff vs.length vc cs vs w hij hm0 (by omega) hn (by omega) rfl rfl hcell hvs h1v).mono ?_
    rintro e w' ⟨rfl, rfl⟩
    have hz := zeroCells_size (.pointer none) (grownCap w (i + vs.length) cap 74 - (i + vs.length)) rfl
    have hge := grownCap_ge w (i + vs.length) cap 74
    refine ⟨_, rfl, ownOf (g := w.heap.size) hB (heap_alloc_same w.drew _) hge (grownCap_le_maxLen w _ _ _ (by unfold maxLen; omega)) ?_ ?_ hlr, hc.drew.alloc _⟩
    · simp only [Array.size_append, hz, List.size_toArray, hlr]
      omega
    · simp only [Array.toList_append]
      exact List.take_left' hlr
end Go.Proofs.Ytjecadkmlakncaa
