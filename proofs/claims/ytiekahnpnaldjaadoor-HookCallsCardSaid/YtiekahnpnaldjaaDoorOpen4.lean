/-
  A row of values, come in as an argument: its capacity.
-/
import Derived.Test.YtiekahnpnaldjaaDoorOpen3
namespace Go.Proofs.YtiekahnpnaldjaaDoor
open Go.ChangeShapes Go.WideShapes Go.ChangeAt Go.RowKit

section
variable {H : Type} {enc : TypeId × Value → H} {w : World} {base : Nat} {held : Bool}
set_option maxRecDepth 100000 in
theorem open_cap {v : Value} {d : DataW H} {p : List MemPlace} (h : DataW.Trod enc Tryd.prog w base (fun _ => true) held 39 v d p) : ∀ a n c, v = .slice a n c → n ≤ c := by
  rintro a n c rfl
  obtain ⟨fuel, hf⟩ := h
  rcases Go.Deep.open_slice Tryd.underlying39 hf with ⟨hcs, _⟩ | ⟨a, l0, c0, m, n, D, Pl, hcs, hb, hl, hm, hmm, _, hx⟩
  · simp [Value.cells] at hcs
    omega
  · simp [Value.cells] at hcs
    omega
end
end Go.Proofs.YtiekahnpnaldjaaDoor
