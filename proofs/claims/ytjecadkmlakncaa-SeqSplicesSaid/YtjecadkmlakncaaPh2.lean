/-
  posidx: known; rows in their first order.
-/
import Derived.Test.YtjecadkmlakncaaPh1
namespace Go.Proofs.Ytjecadkmlakncaa
open Go.RowKit

/-- The calls' answers, handed on: the footprint forgotten, all since w. -/
theorem IxRes.use {T : TypeId} {w0 w w' : World} {P : Nat → Prop} {xb tb mb wr n' m : Nat} {ys : List Int} {ev : Value} {e : Ending} (h : IxRes T w P xb tb mb wr n' m ys ev e w') (h0 : Ch [] w0 w) (htb : w0.heap.size ≤ tb) (hmb : w0.heap.size ≤ mb) (hm : m ≤ 4999) :
    e = .returned ev ∧ ∃ d, d ≤ 78 ∧ IxAt T w' PT xb tb mb ys (wr + d) n' ∧ Ch [] w0 w' := by
  obtain ⟨d, he, hx, hc, hf⟩ := h
  exact ⟨he, d, hf.le hm, hx.sub (fun _ _ _ => trivial), h0.trans' hc (fun x hx => by simp at hx; right; rcases hx with rfl | rfl <;> assumption)⟩
set_option maxRecDepth 100000 in
set_option maxHeartbeats 4000000 in
theorem pknown (w : World) : Calls Try.prog 8 #[] w fun e w' => e = .returned (.bool true) ∧ Ch [] w w' := by
  go_enter Try.func8, Try.ntmps8
  go_wp2_with fail
  refine (pnew w).mono ?_
  rintro e w1 ⟨xb, tb, mb, rfl, hx1, hc1, htb, hmb⟩
  have h1 := Lib.hid (pinsert_ok w1 PT xb tb mb 0 0 0 1 [] (hx1 PT) (wf_small (by omega) (by omega)) (by simp) (by simp) (by simp) (by omega) (by omega))
  have HB := Lib.hid (And.intro hc1 (And.intro htb hmb))
  clear hx1 hc1 htb hmb
  go_wp2_with fail
  refine h1.out.mono ?_
  intro e w2 hr
  obtain ⟨rfl, d2, hd2, hx2, hc2⟩ := hr.use HB.out.1 HB.out.2.1 HB.out.2.2 (by simp)
  have h2 := Lib.hid (pinsert_ok w2 PT xb tb mb (0 + d2) (0 + 1) 1 2 [1] hx2 (wf_small (by omega) (by omega)) (by simp) (by simp) (by simp) (by omega) (by omega))
  have H2 := Lib.hid hc2
  clear hr hx2 hc2 h1
  go_wp2_with fail
  refine h2.out.mono ?_
  intro e w3 hr
  obtain ⟨rfl, d3, hd3, hx3, hc3⟩ := hr.use H2.out HB.out.2.1 HB.out.2.2 (by simp)
  have h3 := Lib.hid (pinsert_ok w3 PT xb tb mb (0 + d2 + d3) (0 + 1 + 1) 2 3 [1, 2] hx3 (wf_small (by omega) (by omega)) (by simp) (by simp) (by simp) (by omega) (by omega))
  have H3 := Lib.hid hc3
  clear hr hx3 hc3 h2 H2
  go_wp2_with fail
  refine h3.out.mono ?_
  intro e w4 hr
  obtain ⟨rfl, d4, hd4, hx4, hc4⟩ := hr.use H3.out HB.out.2.1 HB.out.2.2 (by simp)
  have h4 := Lib.hid (pinsert_bad w4 PT xb tb mb (0 + d2 + d3 + d4) (0 + 1 + 1 + 1) 5 4 [1, 2, 3] hx4 (wf_small (by omega) (by omega)) (by simp) (.inr (by simp)))
  have H4 := Lib.hid (And.intro hx4 hc4)
  clear hr hx4 hc4 h3 H3
  go_wp2_with fail
  refine h4.out.mono ?_
  rintro e w5 ⟨rfl, hc5⟩
  have hx5 : IxAt PosT w5 PT xb tb mb [1, 2, 3] (0 + d2 + d3 + d4) (0 + 1 + 1 + 1) := IxAt.ch0 H4.out.1 hc5
  have h5 := Lib.hid (pmove_ok w5 PT xb tb mb _ _ 0 2 1 [1, 2, 3] hx5 (by simp) (by omega) rfl (by simp))
  have H5 := Lib.hid (H4.out.2.trans hc5)
  clear hc5 hx5 h4 H4
  go_wp2_with fail
  refine h5.out.mono ?_
  intro e w6 hr
  obtain ⟨rfl, d6, hd6, hx6, hc6⟩ := hr.use H5.out HB.out.2.1 HB.out.2.2 (by simp)
  have hx6' : IxAt PosT w6 PT xb tb mb [2, 3, 1] (0 + d2 + d3 + d4 + d6) (0 + 1 + 1 + 1) := hx6
  have h6 := Lib.hid (pall w6 PT xb tb mb _ _ [2, 3, 1] hx6' (by simp))
  have H6 := Lib.hid hc6
  clear hr hx6 hx6' hc6 h5 H5
  go_wp2_with fail
  refine h6.out.mono ?_
  rintro e w7 ⟨sv, rfl, ho7, hc7⟩
  obtain ⟨b7, _, hr7⟩ := Row1.of_own ho7 rfl
  have hI := Lib.hid (ids_same (w7.alloc (.cells #[.int .i64 2, .int .i64 3, .int .i64 1] 2)) b7 0 w7.heap.size 0 sv (.slice (some ⟨w7.heap.size, 0, none⟩) 3 3) [2, 3, 1] (hr7.ch ((Ch.refl [] w7).alloc _) (by simp)) ⟨⟨_, 3, rfl, by simp [ids], fun _ => rfl⟩, fun _ => ⟨_, heap_alloc_same _ _, by simp [ids]⟩⟩ (by simp))
  have H7 := Lib.hid (H6.out.trans hc7)
  clear ho7 hc7 hr7 h6 H6
  go_wp2_with fail
  refine hI.out.mono ?_
  rintro e w8 ⟨rfl, q, rfl⟩
  go_wp2
  go_ret
  exact ⟨rfl, (H7.out.alloc _).trans (drewN_ch _ _)⟩

/-- The rows 1 .. k. -/
def upto (k : Nat) : List Int := (List.range k).map (fun (i : Nat) => (i : Int) + 1)
theorem upto_len (k : Nat) : (upto k).length = k := by simp [upto]
theorem upto_get {k i : Nat} (h : i < k) : (upto k)[i]? = some ((i : Int) + 1) := by simp [upto, h]
theorem upto_succ (k : Nat) : (upto k).take k ++ [((k : Int) + 1)] ++ (upto k).drop k = upto (k + 1) := by
  rw [List.take_of_length_le (by rw [upto_len]; exact Nat.le_refl _), List.drop_of_length_le (by rw [upto_len]; exact Nat.le_refl _)]
  simp [upto, List.range_succ]
theorem upto_mem {k : Nat} {z : Int} : z ∈ upto k ↔ 1 ≤ z ∧ z ≤ k := by
  simp only [upto, List.mem_map, List.mem_range]
  constructor
  · rintro ⟨i, hi, rfl⟩; omega
  · rintro ⟨h0, h1⟩; exact ⟨(z - 1).toNat, by omega, by omega⟩
theorem moved_get {xs : List Int} {i to : Nat} {z : Int} (hz : xs[i]? = some z) (ht : to < xs.length) : (moved xs i to z)[to]? = some z := by
  have hi : i < xs.length := (List.getElem?_eq_some_iff.1 hz).1
  have e1 : ((xs.take i ++ xs.drop (i + 1)).take to).length = to := by simp [List.length_take]; omega
  unfold moved
  rw [List.append_assoc, List.getElem?_append_right (by omega), e1]
  simp
theorem era_ins (A : List Int) (t : Nat) (z : Int) (h : t ≤ A.length) : (A.take t ++ [z] ++ A.drop t).take t ++ (A.take t ++ [z] ++ A.drop t).drop (t + 1) = A := by
  have e1 : (A.take t).length = t := by rw [List.length_take]; omega
  have e2 : (A.take t ++ [z]).length = t + 1 := by simp [e1]
  rw [List.append_assoc, List.take_left' e1, ← List.append_assoc, List.drop_left' e2, List.take_append_drop]
theorem moved_back {xs : List Int} {i to : Nat} {z : Int} (hz : xs[i]? = some z) (ht : to < xs.length) : moved (moved xs i to z) to i z = xs := by
  have hi : i < xs.length := (List.getElem?_eq_some_iff.1 hz).1
  have h1 := era_ins (xs.take i ++ xs.drop (i + 1)) to z (by simp [List.length_take]; omega)
  have h2 := moved_self hz
  unfold moved at h2
  unfold moved
  rw [h1]
  exact h2
end Go.Proofs.Ytjecadkmlakncaa
