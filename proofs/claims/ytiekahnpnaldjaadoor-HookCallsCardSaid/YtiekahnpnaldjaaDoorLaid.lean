/-
  The listed variable errors.errorType: what the row's condition gives a walk; a world that meets it.
-/
import Derived.Test.YtiekahnpnaldjaaDoorRows
import Derived.Test.YtiekahnpnaldjaaDoorErr4
import Derived.ChangeSame
import Derived.ChangeVars
import Derived.JoinedOf
import Derived.RowKit
import Derived.RowKitTokens
import Derived.LaidLaws
import Derived.LaidHandle
import Derived.Stop.Joined
namespace Go.Proofs.YtiekahnpnaldjaaDoor
open Go.ChangeShapes Go.WideShapes Go.RowKit
theorem p_own : ownKnob Tryd.prog.godebug = none := by kernel_rfl
theorem p_et : Tryd.prog.globalNamed "errors.errorType" = some 0 := by kernel_rfl
theorem p_rt : (Tryd.prog.cutTypes.find? (·.1 == "internal/reflectlite.rtype")).map (·.2) = some 155 := by kernel_rfl
theorem p_oneRow : ((List.range 202).filter fun t => Tryd.prog.rowNamed t [101, 114, 114, 111, 114]) = [28] := by kernel_rfl
theorem p_size : Tryd.prog.types.size = 202 := by kernel_rfl
abbrev laidList : List (String × DataW Unit) := [("errors.errorType", Rows.laid_errors_errorType)]
/-- WHAT THE CONDITION GIVES A WALK: the variable's one cell. -/
theorem glob_of_laid {W : World} (h : laidMetH Tryd.prog laidList W) : Glob W := by
  have h' : laidMet Tryd.prog [] W ∧ handlesMet Tryd.prog laidList W := h
  obtain ⟨name, u, ty, e1, e2, e3, e4, e5⟩ := h'.2 _ (List.mem_singleton.2 rfl)
  have en : name = [101, 114, 114, 111, 114] := (Option.some.inj e1).symm
  subst en
  obtain rfl := Option.some.inj (p_rt.symm.trans e2)
  have hm : ty ∈ (List.range 202).filter fun t => Tryd.prog.rowNamed t [101, 114, 114, 111, 114] := List.mem_filter.2 ⟨List.mem_range.2 (by rw [← p_size]; exact e3), e4⟩
  rw [p_oneRow] at hm
  obtain rfl := List.mem_singleton.1 hm
  have hh : typeHandle Tryd.prog 28 = rptr 28 := by kernel_rfl
  rw [hh] at e5
  have := World.var?_cell p_et e5 0
  simpa [Glob, rty] using this

/-- A world that meets the condition: the settled one, the variable's cell laid. -/
noncomputable def laidWorld (os : Os) (blocks : Array Obj) : World :=
  let w0 := World.holding Tryd.prog os ⟨blocks, #[], []⟩
  { w0 with heap := w0.heap.modify 0 fun
      | .cells _ t frozen => .cells #[.iface 155 (rty 28)] t frozen
      | o => o }
theorem laidWorld_met (os : Os) (args : Array Value) : laidMetH Tryd.prog laidList ((laidWorld os #[]).forCall (fun _ _ => 0) ⟨#[], args, []⟩).memory :=
  laidMetH_of_parts (laidMet_nil _ _) (by kernel_rfl)
end Go.Proofs.YtiekahnpnaldjaaDoor
