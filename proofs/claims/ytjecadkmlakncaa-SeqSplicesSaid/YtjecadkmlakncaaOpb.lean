/-
  A row of bytes, come in as an argument.
-/
import Derived.Test.YtjecadkmlakncaaKit
import Derived.ProofKit
import Derived.OpenShut
namespace Go.Proofs.Ytjecadkmlakncaa
open Go.ChangeShapes Go.WideShapes Go.ChangeAt Go.RowKit

theorem p_own : ownKnob Try.prog.godebug = none := by kernel_rfl
theorem p_laidOut : laidOutB Try.prog = true := by kernel_rfl
section
variable {H : Type} {enc : TypeId × Value → H} {w : World} {base : Nat} {held : Bool}
set_option maxRecDepth 100000 in
theorem open_bytes {r : Reach} {b0 : Nat} {v : Value} {d : DataW H} {p : List MemPlace} (hv : Value.okWide Try.prog w r b0 34 v) (h : DataW.Trod enc Try.prog w base (fun _ => true) held 34 v d p) :
    ∃ (bs : List Int) (b o : Nat) (a : Option Addr) (c : Nat), v = .slice a bs.length c ∧ (bs ≠ [] → a = some ⟨b, o, none⟩) ∧ (∀ j x, bs[j]? = some x → w.cell? ⟨b, o + j, none⟩ = some (.int .u8 x)) ∧ (∀ x, x ∈ bs → 0 ≤ x ∧ x ≤ 255) ∧ bs.length ≤ 9223372036854775807 := by
  obtain ⟨a0, l0, c0, rfl⟩ := okWide_slice Try.underlying34 hv
  obtain ⟨fuel, hf⟩ := h
  rcases Go.ChangeShapes.open_ints Try.underlying34 Try.underlying5 (by kernel_rfl) hf with ⟨hcs, _⟩ | ⟨a, len, cap, zs, hcs, hb, hl, hm, hzl, _, hc, hw⟩
  · simp [Value.cells] at hcs
    obtain ⟨rfl, rfl, rfl⟩ := hcs
    exact ⟨[], 0, 0, none, 0, rfl, by simp, fun j x hj => (by simp at hj), by simp, by simp⟩
  · simp [Value.cells] at hcs
    obtain ⟨rfl, rfl, rfl⟩ := hcs
    have hzl' : zs.length = c0 := by simpa using hzl
    have hl0 : (zs.take l0).length = l0 := by rw [List.length_take]; omega
    refine ⟨zs.take l0, a.block, a.off, some a, c0, by rw [hl0], fun hne => ?_, fun j x hj => ?_, fun x hx => bounds_u8 (hw x (List.mem_of_mem_take hx)), ?_⟩
    · have h0 : 0 < zs.length := by
        cases zs with
        | nil => simp at hne
        | cons _ _ => simp
      have := World.cell?_spot (hc 0 h0)
      obtain ⟨ab, ao, asp⟩ := a
      simp [Addr.add] at this
      subst this
      rfl
    · have hj' : j < zs.length := by
        have := (List.getElem?_eq_some_iff.1 hj).1
        rw [hl0] at this
        omega
      have h1 := hc j hj'
      have hsp := World.cell?_spot (hc 0 (by omega))
      obtain ⟨ab, ao, asp⟩ := a
      simp [Addr.add] at hsp
      subst hsp
      rw [Addr.add_lit] at h1
      rw [h1]
      have : zs[j]? = some x := by
        rw [List.getElem?_take] at hj
        split at hj
        · exact hj
        · simp at hj
      simp [List.getD, this]
    · rw [hl0]
      unfold maxLen at hm
      omega
end
end Go.Proofs.Ytjecadkmlakncaa
