/-
  A region that draws its order, whose operations read and whose callees leave all that was there as it was: one walk.
-/
import Derived.Test.YtiekahnpnaldjaaDoorKit
import Derived.Deep.QuietTactic
import Derived.BigQuiet
namespace Go.Proofs.YtiekahnpnaldjaaDoor
open Go.RowKit

/-- A world in which all that was there in w0 is as it was. -/
structure ChW (w0 : World) where
  w : World
  ch : Ch [] w0 w

instance (w0 : World) : Inhabited (ChW w0) := ⟨⟨w0, Ch.refl _ _⟩⟩

theorem wp_region_chw {P : Program} {id : Nat} {Q : Exit → Act → World → Prop} {a : Act} {w0 w : World} {l : List Oper} (hm : P.follows .mixedOrders = true) (hB : Region.lexB .any l.toArray = true) (h0 : Ch [] w0 w)
    (h : wpQuiet P l.toArray (fun w' => ∃ p : ChW w0, w' = p.w) (fun a' => ∀ w', (∃ p : ChW w0, w' = p.w) → Q .normal a' w') l a) : (Code.region id l.toArray true).wp P Q a w :=
  wp_region_quiet (C := fun w' => ∃ p : ChW w0, w' = p.w) hm hB ⟨⟨_, h0.drew⟩, rfl⟩ (by simpa using h)
/-- A callee's contract, met in such a world. -/
theorem Calls.chw_of {P : Program} {f : FuncId} {args : Array Value} {w0 : World} {p : ChW w0} {v : Value}
    (h : Calls P f args p.w fun e w' => e = .returned v ∧ Ch [] p.w w') : Calls P f args p.w fun e w' => e = .returned v ∧ ∃ q : ChW w0, w' = q.w :=
  h.mono fun _ w' ⟨he, hc⟩ => ⟨he, ⟨w', p.ch.trans hc⟩, rfl⟩
end Go.Proofs.YtiekahnpnaldjaaDoor
