/-
  rialtohelp.Ids; posidx: known.
-/
import Derived.Test.YtjecadkmlakncaaPx4
import Derived.BigQuiet
import Derived.WalkArith
namespace Go.Proofs.Ytjecadkmlakncaa
open Go.RowKit

/-- Everywhere. -/
abbrev PT : Nat → Prop := fun _ => True
theorem Fewer.le {n d : Nat} (h : Fewer n d) (hn : n ≤ 4999) : d ≤ 78 := by
  obtain ⟨d1, d2, rfl, h1, h2⟩ := h
  have := h1.le hn
  have := h2.le hn
  omega
set_option maxRecDepth 100000 in
set_option maxHeartbeats 1000000 in
/-- Ids: of the same rows. -/
theorem ids_same (w : World) (b1 o1 b2 o2 : Nat) (v1 v2 : Value) (xs : List Int) (h1 : Row1 2 w b1 o1 v1 (ids xs)) (h2 : Row1 2 w b2 o2 v2 (ids xs)) (hN : xs.length ≤ 5000) :
    Calls Try.prog 27 #[v1, v2] w fun e w' => e = .returned (.bool true) ∧ ∃ q, w' = w.drewN q := by
  obtain ⟨a1, c1, rfl, _, ha1⟩ := h1.shape
  obtain ⟨a2, c2, rfl, _, ha2⟩ := h2.shape
  have hget : ∀ j, j < xs.length → ∃ z, a1 = some ⟨b1, o1, none⟩ ∧ a2 = some ⟨b2, o2, none⟩ ∧ w.cell? ⟨b1, o1 + j, none⟩ = some (.int .i64 z) ∧ w.cell? ⟨b2, o2 + j, none⟩ = some (.int .i64 z) := fun j hj => by
    have hne : ids xs ≠ [] := by intro h; have := ids_len xs; rw [h] at this; simp at this; omega
    have hz : xs[j]? = some xs[j] := List.getElem?_eq_getElem hj
    exact ⟨xs[j], ha1 hne, ha2 hne, h1.get j _ (ids_get hz), h2.get j _ (ids_get hz)⟩
  rw [ids_len]
  have H := Lib.hid hget
  clear h1 h2 ha1 ha2 hget
  have e0 : ((xs.length : Int) != (xs.length : Int)) = false := by simp
  go_enter Try.func27, Try.ntmps27
  go_wp2
  go_loopg [5] xs.length (fun g iv wr => ∃ j q : Nat, g + j = xs.length ∧ iv = .int .i64 j ∧ wr = w.drewN q)
  case atStart => exact ⟨0, 0, rfl, rfl, rfl⟩
  case round =>
    obtain ⟨j, q, hgj, rfl, rfl⟩ := hrel
    have hjl : j ≤ xs.length := by omega
    have HG := Lib.hid hgj
    clear hgj
    by_cases hlt : j < xs.length
    · obtain ⟨z, rfl, rfl, k1, k2⟩ := H.out j hlt
      have i1 : (j : Int) < (xs.length : Int) := by omega
      have e1 : (z != z) = false := by simp
      go_wp2_with fail
      go_quiet (fail)
      clear k1 k2
      go_wp2
      go_roundg (gk - 1)
      case measure => have := HG.out; omega
      case rel => exact ⟨j + 1, _, by have := HG.out; omega, by go_num, rfl⟩
    · obtain rfl : j = xs.length := by omega
      clear hlt hjl
      go_wp2
      go_ret
      exact ⟨rfl, _, rfl⟩
theorem drewN_ch (w : World) (q : Nat) : Ch [] w (w.drewN q) := ((Like.refl w).drewN q).ch (Ch.refl _ _)
theorem wf_small {z : Int} (h0 : 0 ≤ z) (h1 : z ≤ 100000) : Wf z := by
  exact WalkArith.wf_i64 (by omega)
end Go.Proofs.Ytjecadkmlakncaa
