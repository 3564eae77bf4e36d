/-
  seqidx: known; the plain law of SeqMoves.
-/
import Derived.Test.YtjecadkmlakncaaSx2
namespace Go.Proofs.Ytjecadkmlakncaa
open Go.RowKit

/-- The calls' answers, handed on: the footprint forgotten, all since w0. -/
theorem IxRes2.use {T : TypeId} {w0 w w' : World} {P : Nat → Prop} {xb tb mb wr n' : Nat} {ys : List Int} {ev : Value} {e : Ending} (h : IxRes2 T w P xb tb mb wr n' ys ev e w') (h0 : Ch [] w0 w) (htb : w0.heap.size ≤ tb) (hmb : w0.heap.size ≤ mb) :
    e = .returned ev ∧ ∃ d, d ≤ 200 ∧ IxAt T w' PT xb tb mb ys (wr + d) n' ∧ Ch [] w0 w' := by
  obtain ⟨d, he, hd, hx, hc⟩ := h
  exact ⟨he, d, hd, hx.sub (fun _ _ _ => trivial), h0.trans' hc (fun x hx => by simp at hx; right; rcases hx with rfl | rfl <;> assumption)⟩
theorem IxRes2.ch {T : TypeId} {w w' : World} {P : Nat → Prop} {xb tb mb wr n' : Nat} {ys : List Int} {ev : Value} {e : Ending} (h : IxRes2 T w P xb tb mb wr n' ys ev e w') : Ch [tb, mb] w w' := by
  obtain ⟨_, _, _, _, hc⟩ := h
  exact hc
set_option maxRecDepth 100000 in
set_option maxHeartbeats 4000000 in
theorem sknown (w : World) : Calls Try.prog 14 #[] w fun e w' => e = .returned (.bool true) ∧ Ch [] w w' := by
  go_enter Try.func14, Try.ntmps14
  go_wp2_with fail
  refine (snew w).mono ?_
  rintro e w1 ⟨xb, tb, mb, rfl, hx1, hc1, htb, hmb⟩
  have h1 := Lib.hid (sadd_ok w1 PT xb tb mb 0 0 1 [] (hx1 PT) (wf_small (by omega) (by omega)) (by simp) (by simp) (by omega) (by omega))
  have HB := Lib.hid (And.intro hc1 (And.intro htb hmb))
  clear hx1 hc1 htb hmb
  go_wp2_with fail
  refine h1.out.mono ?_
  intro e w2 hr
  obtain ⟨rfl, d2, hd2, hx2, hc2⟩ := hr.use HB.out.1 HB.out.2.1 HB.out.2.2 (by simp)
  have h2 := Lib.hid (sadd_ok w2 PT xb tb mb (0 + d2) (0 + 1) 2 [1] hx2 (wf_small (by omega) (by omega)) (by simp) (by simp) (by omega) (by omega))
  have H2 := Lib.hid hc2
  clear hr hx2 hc2 h1
  go_wp2_with fail
  refine h2.out.mono ?_
  intro e w3 hr
  obtain ⟨rfl, d3, hd3, hx3, hc3⟩ := hr.use H2.out HB.out.2.1 HB.out.2.2 (by simp)
  have h3 := Lib.hid (sadd_ok w3 PT xb tb mb (0 + d2 + d3) (0 + 1 + 1) 3 [1, 2] hx3 (wf_small (by omega) (by omega)) (by simp) (by simp) (by omega) (by omega))
  have H3 := Lib.hid hc3
  clear hr hx3 hc3 h2 H2
  go_wp2_with fail
  refine h3.out.mono ?_
  intro e w4 hr
  obtain ⟨rfl, d4, hd4, hx4, hc4⟩ := hr.use H3.out HB.out.2.1 HB.out.2.2 (by simp)
  have h4 := Lib.hid (sadd_there w4 PT xb tb mb (0 + d2 + d3 + d4) (0 + 1 + 1 + 1) 3 [1, 2, 3] hx4 (by simp))
  have H4 := Lib.hid (And.intro hx4 hc4)
  clear hr hx4 hc4 h3 H3
  go_wp2_with fail
  refine h4.out.mono ?_
  rintro e w5 ⟨rfl, hc5⟩
  have hx5 : IxAt SeqT w5 PT xb tb mb [1, 2, 3] (0 + d2 + d3 + d4) (0 + 1 + 1 + 1) := IxAt.ch0 H4.out.1 hc5
  have h5 := Lib.hid (smove_ok w5 PT xb tb mb _ _ 2 0 3 1 [1, 2, 3] hx5 (by simp) (by omega) (by omega) rfl (by omega) (.inr ⟨by omega, by omega, by simp, rfl⟩))
  have H5 := Lib.hid (H4.out.2.trans hc5)
  clear hc5 hx5 h4 H4
  go_wp2_with fail
  refine h5.out.mono ?_
  intro e w6 hr
  obtain ⟨rfl, d6, hd6, hx6, hc6⟩ := hr.use H5.out HB.out.2.1 HB.out.2.2
  have hx6' : IxAt SeqT w6 PT xb tb mb [3, 1, 2] (0 + d2 + d3 + d4 + d6) (0 + 1 + 1 + 1 + 1) := hx6
  have h6 := Lib.hid (sall w6 PT xb tb mb _ _ [3, 1, 2] hx6' (by simp))
  have H6 := Lib.hid hc6
  clear hr hx6 hx6' hc6 h5 H5
  go_wp2_with fail
  refine h6.out.mono ?_
  rintro e w7 ⟨sv, rfl, ho7, hc7⟩
  obtain ⟨b7, _, hr7⟩ := Row1.of_own ho7 rfl
  have hI := Lib.hid (ids_same (w7.alloc (.cells #[.int .i64 3, .int .i64 1, .int .i64 2] 2)) b7 0 w7.heap.size 0 sv (.slice (some ⟨w7.heap.size, 0, none⟩) 3 3) [3, 1, 2] (hr7.ch ((Ch.refl [] w7).alloc _) (by simp)) ⟨⟨_, 3, rfl, by simp [ids], fun _ => rfl⟩, fun _ => ⟨_, heap_alloc_same _ _, by simp [ids]⟩⟩ (by simp))
  have H7 := Lib.hid (H6.out.trans hc7)
  clear ho7 hc7 hr7 h6 H6
  go_wp2_with fail
  refine hI.out.mono ?_
  rintro e w8 ⟨rfl, q, rfl⟩
  go_wp2
  go_ret
  exact ⟨rfl, (H7.out.alloc _).trans (drewN_ch _ _)⟩

/-- Where an element of the list without its i-th stands in the list. -/
def past (i t : Nat) : Nat := if t < i then t else t + 1
theorem era_get {xs : List Int} {i : Nat} (hi : i < xs.length) (t : Nat) : (xs.take i ++ xs.drop (i + 1))[t]? = xs[past i t]? := by
  have e1 : (xs.take i).length = i := by rw [List.length_take]; omega
  unfold past
  by_cases h : t < i
  · rw [List.getElem?_append_left (by omega), List.getElem?_take, if_pos h, if_pos h]
  · rw [List.getElem?_append_right (by omega), List.getElem?_drop, e1, if_neg h]
    congr 1
    omega
/-- What a move leaves, as SeqMoves asks it. -/
structure MovedTo (xs ys : List Int) (i a : Nat) (z b : Int) : Prop where
  at_ : ys[a]? = some z
  len : ys.length = xs.length
  nodup : ys.Nodup
  mem : ∀ y, y ∈ ys ↔ y ∈ xs
  last : b = 0 → a + 1 = xs.length
  next : b ≠ 0 → b ≠ z → a + 1 < xs.length ∧ ys[a + 1]? = some b
  same : ∀ t, t + 1 < xs.length → xs[past i t]? = ys[past a t]?
theorem moved_era {xs : List Int} {i j : Nat} {z : Int} (hz : xs[i]? = some z) (hj : j < xs.length) : (moved xs i j z).take j ++ (moved xs i j z).drop (j + 1) = xs.take i ++ xs.drop (i + 1) := by
  have hi : i < xs.length := (List.getElem?_eq_some_iff.1 hz).1
  exact era_ins _ j z (by simp [List.length_take]; omega)
theorem movedTo_ok {xs : List Int} {i j : Nat} {z b : Int} (hz : xs[i]? = some z) (hn : xs.Nodup) (hg : Goes xs i j z b) : MovedTo xs (moved xs i j z) i j z b := by
  have hi : i < xs.length := (List.getElem?_eq_some_iff.1 hz).1
  have hlen : (xs.take i ++ xs.drop (i + 1)).length = xs.length - 1 := by simp [List.length_take]; omega
  have hj : j < xs.length := by
    rcases hg with ⟨_, h1⟩ | ⟨_, _, _, h1⟩
    · omega
    · have := (List.getElem?_eq_some_iff.1 h1).1; omega
  have hlm := moved_len hz hj
  refine ⟨moved_get hz hj, hlm, nodup_moved hz hn, mem_moved hz hn, fun hb => ?_, fun hb0 hbz => ?_, fun t ht => ?_⟩
  · rcases hg with ⟨_, h1⟩ | ⟨h0, _⟩
    · exact h1
    · exact absurd hb h0
  · rcases hg with ⟨h0, _⟩ | ⟨_, _, _, h1⟩
    · exact absurd h0 hb0
    · have h2 := (List.getElem?_eq_some_iff.1 h1).1
      refine ⟨by omega, ?_⟩
      have h3 := era_get (xs := moved xs i j z) (i := j) (by omega) j
      rw [moved_era hz hj, h1] at h3
      unfold past at h3
      rw [if_neg (by omega)] at h3
      exact h3.symm
  · rw [← era_get hi t, ← era_get (xs := moved xs i j z) (i := j) (by omega) t, moved_era hz hj]
theorem movedTo_self {xs : List Int} {i : Nat} {z b : Int} (hz : xs[i]? = some z) (hn : xs.Nodup) (hb : b = z) (hz0 : z ≠ 0) : MovedTo xs xs i i z b :=
  ⟨hz, rfl, hn, fun _ => Iff.rfl, fun h => absurd (hb ▸ h) hz0, fun _ h => absurd hb h, fun _ _ => rfl⟩
/-- Where a row goes: there is a place. -/
theorem goes_some {xs : List Int} {i : Nat} {z b : Int} (hz : xs[i]? = some z) (hn : xs.Nodup) (hb : b = 0 ∨ b ∈ xs) (hbz : b ≠ z) : ∃ j, Goes xs i j z b := by
  have hi : i < xs.length := (List.getElem?_eq_some_iff.1 hz).1
  by_cases h0 : b = 0
  · exact ⟨xs.length - 1, .inl ⟨h0, by omega⟩⟩
  · have hm : b ∈ xs := hb.resolve_left h0
    obtain ⟨j, hj⟩ := List.mem_iff_getElem?.1 ((mem_era hz hn b).2 ⟨hbz, hm⟩)
    exact ⟨j, .inr ⟨h0, hbz, hm, hj⟩⟩
theorem past_lt {i t n : Nat} (h : t + 1 < n) : past i t < n := by unfold past; split <;> omega
theorem past_ne {i t : Nat} : past i t ≠ i := by unfold past; split <;> omega
/-- The move, in one contract. -/
theorem smove_any (w : World) (P : Nat → Prop) (xb tb mb wr n i : Nat) (z b : Int) (xs : List Int) (h : IxAt SeqT w P xb tb mb xs wr n) (hN : xs.length ≤ 4999) (hwr : wr ≤ 1152921504606840000) (hn : n ≤ 1000000) (hz : xs[i]? = some z) (hz0 : z ≠ 0) (hb : b = 0 ∨ b ∈ xs) :
    Calls Try.prog 18 #[PN xb, .int .i64 z, .int .i64 b] w fun e w' => ∃ ys a n', MovedTo xs ys i a z b ∧ n' ≤ n + 1 ∧ IxRes2 SeqT w P xb tb mb wr n' ys (.tuple #[.int .i64 i, .int .i64 0]) e w' := by
  by_cases hbz : b = z
  · subst hbz
    refine (smove_self w P xb tb mb wr n i b xs h hN hz hz0).mono ?_
    rintro e w' ⟨he, hc⟩
    exact ⟨xs, i, n, movedTo_self hz h.nodup rfl hz0, by omega, 0, he, by omega, (h.ch0 hc).sub (fun _ h _ => .inl h), hc.mono (fun _ h => by cases h)⟩
  · obtain ⟨j, hg⟩ := goes_some hz h.nodup hb hbz
    refine (smove_ok w P xb tb mb wr n i j z b xs h hN hwr hn hz hz0 hg).mono ?_
    intro e w' hr
    exact ⟨_, j, n + 1, movedTo_ok hz h.nodup hg, Nat.le_refl _, hr⟩
theorem Row1.ix {T : TypeId} {w w' : World} {P : Nat → Prop} {xb tb mb wr n b o : Nat} {xs : List Int} {v : Value} {vs : List Value} (hr : Row1 2 w b o v vs) (h : IxAt T w P xb tb mb xs wr n) (hc : Ch [tb, mb] w w') : Row1 2 w' b o v vs :=
  hr.ch hc (fun hne hm => by
    obtain ⟨root, hb⟩ := h.tree.blk
    obtain ⟨es, clock, hmm⟩ := h.set.blk
    simp at hm
    rcases hm with rfl | rfl
    · exact hr.ne hne hb (by decide) rfl
    · obtain ⟨cur, hcur, _⟩ := hr.2 hne
      rw [hmm] at hcur
      cases hcur)
end Go.Proofs.Ytjecadkmlakncaa
