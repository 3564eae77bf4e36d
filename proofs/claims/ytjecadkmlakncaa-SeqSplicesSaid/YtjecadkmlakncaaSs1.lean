/-
  seqidx: Splice: all rows are there.
-/
import Derived.Test.YtjecadkmlakncaaSm1
import Derived.Test.YtjecadkmlakncaaPs1
namespace Go.Proofs.Ytjecadkmlakncaa
open Go.RowKit

abbrev spFn (bx : Nat) : Value := .func (.func 49) #[] #[PN bx]
set_option maxRecDepth 100000 in
theorem splice1_any (w : World) (P : Nat → Prop) (xb tb mb wr n bx : Nat) (z : Int) (xs : List Int) (hbx : w.cell? ⟨bx, 0, none⟩ = some (PN xb)) (h : IxAt SeqT w P xb tb mb xs wr n) (hz : z ∈ xs) :
    Calls Try.prog 49 #[.int .i64 z, PN bx] w fun e w' => e = .returned (.bool false) ∧ Ch [] w w' := by
  have hH := Lib.hid (shas w P xb tb mb wr n z xs true h (h.wf z hz) (decide_eq_true hz))
  clear h hz
  go_enter Try.func49, Try.ntmps49
  go_wp2_with fail
  (with_reducible refine hH.out.mono ?_)
  rintro e w1 ⟨rfl, hc⟩
  have H := Lib.hid hc
  clear hc
  go_wp2
  go_ret
  exact ⟨rfl, H.out⟩
set_option maxRecDepth 100000 in
set_option maxHeartbeats 1000000 in
theorem indexFunc_any (w : World) (P : Nat → Prop) (xb tb mb wr n bx b o : Nat) (sv : Value) (cs xs : List Int) (hbx : w.cell? ⟨bx, 0, none⟩ = some (PN xb)) (h : IxAt SeqT w P xb tb mb xs wr n) (hr : Row1 2 w b o sv (ids cs)) (hcs : ∀ c, c ∈ cs → c ∈ xs) (hl : cs.length ≤ 1000) :
    Calls Try.prog 57 #[sv, spFn bx] w fun e w' => e = .returned (.int .i64 (-1)) ∧ Ch [] w w' := by
  obtain ⟨aa, ca, rfl, _, ha⟩ := hr.shape
  have hstep : ∀ j, j < cs.length → ∃ z, aa = some ⟨b, o, none⟩ ∧ (∀ W, Ch [] w W → W.cell? ⟨b, o + j, none⟩ = some (.int .i64 z)) ∧ ∀ W, Ch [] w W → Calls Try.prog 49 #[.int .i64 z, PN bx] W fun e w' => e = .returned (.bool false) ∧ Ch [] W w' := fun j hj => by
    have hz : cs[j]? = some cs[j] := List.getElem?_eq_getElem hj
    have hne : ids cs ≠ [] := by intro h; have := ids_len cs; rw [h] at this; simp at this; omega
    exact ⟨cs[j], ha hne, fun W hc => hc.cell0 (hr.get j _ (ids_get hz)), fun W hc => splice1_any W P xb tb mb wr n bx _ xs (hc.cell0 hbx) (h.ch0 hc) (hcs _ (List.mem_of_getElem? hz))⟩
  rw [ids_len]
  have HS := Lib.hid hstep
  clear hstep hr h hbx hcs ha
  go_enter Try.func57, Try.ntmps57
  go_wp2
  go_loopg [8] cs.length (fun g iv wr => ∃ j : Nat, g + j = cs.length ∧ iv = .int .i64 j ∧ Ch [] w wr)
  case atStart => exact ⟨0, rfl, rfl, Ch.refl _ _⟩
  case round =>
    obtain ⟨j, hgj, rfl, hc⟩ := hrel
    have HG := Lib.hid hgj
    have hjl : j ≤ cs.length := by omega
    clear hgj
    by_cases hlt : j < cs.length
    · obtain ⟨z, rfl, hcell, hcall⟩ := HS.out j hlt
      have k1 := hcell wr hc
      have j1 : (j : Int) < (cs.length : Int) := by omega
      have hC := Lib.hid (hcall wr hc)
      have HC := Lib.hid hc
      clear hc hcell hcall
      go_wp2_with fail
      refine hC.out.mono ?_
      rintro e w2 ⟨rfl, hc2⟩
      have H2 := Lib.hid (HC.out.trans hc2)
      clear hc2 hC k1
      go_wp2
      go_roundg (gk - 1)
      case measure => have := HG.out; omega
      case rel => exact ⟨j + 1, by have := HG.out; omega, by go_num, H2.out⟩
    · obtain rfl : j = cs.length := by omega
      have H2 := Lib.hid hc
      clear hc hlt hjl
      go_wp2
      go_ret
      exact ⟨rfl, H2.out⟩
theorem containsFunc_any (w : World) (P : Nat → Prop) (xb tb mb wr n bx b o : Nat) (sv : Value) (cs xs : List Int) (hbx : w.cell? ⟨bx, 0, none⟩ = some (PN xb)) (h : IxAt SeqT w P xb tb mb xs wr n) (hr : Row1 2 w b o sv (ids cs)) (hcs : ∀ c, c ∈ cs → c ∈ xs) (hl : cs.length ≤ 1000) :
    Calls Try.prog 48 #[sv, spFn bx] w fun e w' => e = .returned (.bool false) ∧ Ch [] w w' := by
  have hI := Lib.hid (indexFunc_any w P xb tb mb wr n bx b o sv cs xs hbx h hr hcs hl)
  clear h hbx hr hcs
  go_enter Try.func48, Try.ntmps48
  go_wp2_with fail
  refine hI.out.mono ?_
  rintro e w1 ⟨rfl, hc⟩
  have H := Lib.hid hc
  clear hc
  go_wp2
  go_ret
  exact ⟨rfl, H.out⟩
end Go.Proofs.Ytjecadkmlakncaa
