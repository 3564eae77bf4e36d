/-
  PosMoves: the walk.
-/
import Derived.Test.YtjecadkmlakncaaPh2
namespace Go.Proofs.Ytjecadkmlakncaa
open Go.RowKit

set_option maxRecDepth 100000 in
set_option maxHeartbeats 8000000 in
theorem posMoves_any (an aid ato : Int) (w : World) (hn0 : 0 ≤ an) (hn1 : an ≤ 255) (hi0 : 0 ≤ aid) (hi1 : aid ≤ 255) (ht0 : 0 ≤ ato) (ht1 : ato ≤ 255) :
    Calls Try.prog 3 #[.int .u8 an, .int .u8 aid, .int .u8 ato] w fun e w' => e = .returned (.bool true) ∧ Ch [] w w' := by
  obtain ⟨k0, hk0⟩ : ∃ k0 : Nat, an % 30 = k0 := ⟨(an % 30).toNat, by omega⟩
  have hk30 : k0 < 30 := by omega
  obtain ⟨k, hk⟩ : ∃ k : Nat, k = k0 + 1 := ⟨_, rfl⟩
  have hkk : (k0 : Int) + 1 = (k : Int) := by omega
  have hk1 : 1 ≤ k := by omega
  have hk2 : k ≤ 30 := by omega
  obtain ⟨v0, hv0⟩ : ∃ v0 : Nat, aid % (k : Int) = v0 := ⟨(aid % (k : Int)).toNat, by have := Int.emod_nonneg aid (show (k : Int) ≠ 0 by omega); omega⟩
  have hv1 : v0 < k := by have := Int.emod_lt_of_pos aid (show (0 : Int) < (k : Int) by omega); omega
  obtain ⟨t0, hto0⟩ : ∃ t0 : Nat, ato % (k : Int) = t0 := ⟨(ato % (k : Int)).toNat, by have := Int.emod_nonneg ato (show (k : Int) ≠ 0 by omega); omega⟩
  have hto1 : t0 < k := by have := Int.emod_lt_of_pos ato (show (0 : Int) < (k : Int) by omega); omega
  have hvt : aid.tmod (k : Int) = (v0 : Int) := by rw [Int.tmod_eq_emod_of_nonneg hi0]; exact hv0
  have htt : ato.tmod (k : Int) = (t0 : Int) := by rw [Int.tmod_eq_emod_of_nonneg ht0]; exact hto0
  have HR := Lib.hid (And.intro hvt (And.intro htt (And.intro hv0 hto0)))
  clear hvt htt hv0 hto0 hk
  go_enter Try.func3, Try.ntmps3
  go_wp2_with fail
  refine (pknown w).mono ?_
  rintro e w1 ⟨rfl, hc1⟩
  have hN := Lib.hid (pnew w1)
  have HC1 := Lib.hid hc1
  clear hc1
  go_wp2_with fail
  refine hN.out.mono ?_
  rintro e w2 ⟨xb, tb, mb, rfl, hx2, hc2, htb, hmb⟩
  have HB := Lib.hid (And.intro (hx2 PT) (And.intro (HC1.out.trans hc2) (And.intro (Nat.le_trans HC1.out.size htb) (Nat.le_trans HC1.out.size hmb))))
  clear hx2 hc2 htb hmb HC1 hN
  go_wp2_with fail
  clear hk0 hkk hn0 hn1
  go_loopg [9] k (fun g iv wr => ∃ j wn : Nat, g + j = k ∧ iv = .int .i64 j ∧ wn ≤ 78 * j ∧ IxAt PosT wr PT xb tb mb (upto j) wn j ∧ Ch [] w wr)
  case atStart => exact ⟨0, 0, rfl, rfl, Nat.le_refl _, HB.out.1, HB.out.2.1⟩
  case round =>
    obtain ⟨j, wn, hgj, rfl, hwn, hx, hc⟩ := hrel
    have hjk : j ≤ k := by omega
    have HJ := Lib.hid (And.intro hgj hwn)
    have hwn2 : wn ≤ 10000 := by omega
    clear hgj hwn
    by_cases hlt : j < k
    · have hp := Lib.hid (pinsert_ok wr PT xb tb mb wn j j ((j : Int) + 1) (upto j) hx (wf_small (by omega) (by omega)) (by rw [upto_mem]; omega) (by rw [upto_len]; exact Nat.le_refl _) (by rw [upto_len]; omega) (by omega) (by omega))
      have HC := Lib.hid hc
      clear hx hc
      go_wp2_with fail
      refine hp.out.mono ?_
      intro e w3 hr
      obtain ⟨rfl, d, hd, hx3, hc3⟩ := hr.use HC.out HB.out.2.2.1 HB.out.2.2.2 (by rw [upto_len]; omega)
      rw [upto_succ] at hx3
      have H3 := Lib.hid (And.intro hx3 (And.intro hc3 hd))
      clear hr hx3 hc3 hd hp HC
      go_wp2
      go_roundg (gk - 1)
      case measure => have := HJ.out; omega
      case rel => exact ⟨j + 1, wn + d, by have := HJ.out; omega, by go_num, by have := HJ.out; have := H3.out.2.2; omega, H3.out.1, H3.out.2.1⟩
    · obtain rfl : j = k := by omega
      have H3 := Lib.hid (And.intro hx hc)
      clear hx hc hlt hjk
      have a1 : IntKind.i64.wrap aid = aid := by rw [IntKind.wrap_i64]; omega
      have a2 : IntKind.i64.wrap ato = ato := by rw [IntKind.wrap_i64]; omega
      have a3 : IntKind.i64.wrap ((v0 : Int) + 1) = (v0 : Int) + 1 := by rw [IntKind.wrap_i64]; omega
      have a4 : IntKind.i64.wrap (v0 : Int) = (v0 : Int) := by rw [IntKind.wrap_i64]; omega
      have a5 : IntKind.i64.wrap (t0 : Int) = (t0 : Int) := by rw [IntKind.wrap_i64]; omega
      have a6 : ¬ ((j : Int) = 0) := by omega
      obtain ⟨r1, r2, r3, r4⟩ := HR.out
      go_wp2_with fail
      go_quiet (fail)
      clear a1 a2 a3 a4 a5 a6 r1 r2 r3 r4
      have hz : (upto j)[v0]? = some ((v0 : Int) + 1) := upto_get hv1
      have hq : Ch [] wr (wr.drewN nq) := drewN_ch _ _
      have hwn3 : wn ≤ 1000000 := by omega
      have hx0 : IxAt PosT (wr.drewN nq) PT xb tb mb (upto j) wn j := H3.out.1.ch0 hq
      have hc0 := H3.out.2.trans hq
      generalize wr.drewN nq = wq at *
      have hM := Lib.hid (pmove_ok wq PT xb tb mb wn j v0 t0 ((v0 : Int) + 1) (upto j) hx0 (by rw [upto_len]; omega) (by omega) hz (by rw [upto_len]; exact hto1))
      have HC := Lib.hid (And.intro hc0 hz)
      clear hx0 hc0 hq H3 hz
      go_wp2_with fail
      refine hM.out.mono ?_
      intro e w3 hr
      obtain ⟨rfl, d3, hd3, hx3, hc3⟩ := hr.use HC.out.1 HB.out.2.2.1 HB.out.2.2.2 (by rw [upto_len]; omega)
      have hmg : (moved (upto j) v0 t0 ((v0 : Int) + 1))[t0]? = some ((v0 : Int) + 1) := moved_get HC.out.2 (by rw [upto_len]; exact hto1)
      have hml : (moved (upto j) v0 t0 ((v0 : Int) + 1)).length = j := by rw [moved_len HC.out.2 (by rw [upto_len]; exact hto1), upto_len]
      have hP := Lib.hid (pplace_ok w3 PT xb tb mb _ j t0 ((v0 : Int) + 1) _ hx3 (by omega) hmg)
      have H3 := Lib.hid (And.intro hx3 (And.intro hc3 (And.intro hmg (And.intro hml hd3))))
      clear hr hx3 hc3 hmg hml hd3 hM
      go_wp2_with fail
      refine hP.out.mono ?_
      rintro e w4 ⟨rfl, hc4⟩
      have hx4 := H3.out.1.ch0 hc4
      have hd3 := H3.out.2.2.2.2
      have hM2 := Lib.hid (pmove_ok w4 PT xb tb mb _ j t0 v0 ((v0 : Int) + 1) _ hx4 (by have := H3.out.2.2.2.1; omega) (by omega) H3.out.2.2.1 (by rw [H3.out.2.2.2.1]; exact hv1))
      have H4 := Lib.hid (H3.out.2.1.trans hc4)
      have b1 : ((v0 : Int) != (v0 : Int)) = false := by simp
      have b2 : ((t0 : Int) != (t0 : Int)) = false := by simp
      clear hx4 hc4 hP hd3
      go_wp2_with fail
      refine hM2.out.mono ?_
      intro e w5 hr
      obtain ⟨rfl, d5, hd5, hx5, hc5⟩ := hr.use H4.out HB.out.2.2.1 HB.out.2.2.2 (by have := H3.out.2.2.2.1; omega)
      rw [moved_back HC.out.2 (by rw [upto_len]; exact hto1)] at hx5
      have H5 := Lib.hid (And.intro hx5 hc5)
      clear hr hx5 hc5 hd5 hM2 H4
      go_wp2_with fail
      clear b1 b2
      go_loopg [16] j (fun g iv wr => ∃ i : Nat, g + i = j ∧ iv = .int .i64 i ∧ w5 = wr)
      case atStart => exact ⟨0, rfl, rfl, rfl⟩
      case round =>
        obtain ⟨i, hgi, rfl, rfl⟩ := hrel
        have HI := Lib.hid hgi
        have hij : i ≤ j := by omega
        clear hgi
        by_cases hlt : i < j
        · have hA := Lib.hid (pat_ok w5 PT xb tb mb _ j i ((i : Int) + 1) (upto j) H5.out.1 (by rw [upto_len]; omega) (upto_get hlt))
          have e1 : (((i : Int) + 1) != ((i : Int) + 1)) = false := by simp
          go_wp2_with fail
          refine hA.out.mono ?_
          rintro e w' ⟨rfl, rfl⟩
          go_wp2
          go_roundg (gk - 1)
          case measure => have := HI.out; omega
          case rel => exact ⟨i + 1, by have := HI.out; omega, by go_num, rfl⟩
        · obtain rfl : i = j := by omega
          clear hlt hij
          go_wp2
          go_ret
          exact ⟨rfl, H5.out.2⟩
end Go.Proofs.Ytjecadkmlakncaa
