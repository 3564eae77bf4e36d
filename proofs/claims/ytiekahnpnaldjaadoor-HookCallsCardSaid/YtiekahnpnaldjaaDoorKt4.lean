/-
  KeyTells: what is handed on behind key.Of.
-/
import Derived.Test.YtiekahnpnaldjaaDoorKt3
namespace Go.Proofs.YtiekahnpnaldjaaDoor
open Go.RowKit

set_option maxRecDepth 100000 in
theorem class_nil (w : World) : Calls Tryd.prog 18 #[.nilIface] w fun e w' => e = .returned (.int .i64 0) ∧ w = w' := by
  go_enter Tryd.func18, Tryd.ntmps18
  go_wp2
  go_ret
  exact ⟨rfl, rfl⟩

/-- What stands behind key.Of: the key, its error, the meter. -/
structure KOut (w : World) (nm : ByteArray) (mb : Nat) (a hw : Int) (l : List V) (ps : List (Int × Int)) (ka : Option Addr) (kn kc : Nat) (er : Value) (w' : World) : Prop where
  ch : Ch [mb] w w'
  cls : ∀ W, Ch [] w' W → Glob W → Calls Tryd.prog 18 #[er] W fun e W' => e = .returned (.int .i64 (kscan l a ps).2) ∧ Ch [] W W'
  whr : (kscan l a ps).2 = 50 → ∀ W, Ch [] w' W → Glob W → Calls Tryd.prog 27 #[er] W fun e W' => e = .returned (.string nm) ∧ Ch [] W W'
  none : (kscan l a ps).2 ≠ 0 → kn = 0
  row : (kscan l a ps).2 = 0 → kn = ps.length ∧ ∃ kb, VRow w' kb 0 (.slice ka kn kc) (ps.map (kval l))
  meter : ∃ sk, MeterAt w' mb (kscan l a ps).1 a hw sk
theorem kOut_of {w w' : World} {nm : ByteArray} {mb : Nat} {a hw : Int} {l : List V} {ps : List (Int × Int)} {e : Ending} (h : KeyRes w nm mb a hw l ps e w') : ∃ ka kn kc er, e = .returned (.tuple #[.slice ka kn kc, er]) ∧ KOut w nm mb a hw l ps ka kn kc er w' := by
  obtain ⟨hc, ⟨h0, ⟨ka, kc, kb, rfl, hr⟩, hm⟩ | ⟨h0, rfl, hm⟩ | ⟨h0, fb, er, p, sk, rfl, hF, hm⟩⟩ := h
  · exact ⟨ka, _, kc, _, rfl, hc, fun W _ _ => (class_nil W).mono fun e W' h => ⟨by rw [h.1, h0], h.2 ▸ Ch.refl _ _⟩, fun h => absurd h (by rw [h0]; simp), fun h => absurd h0 h, fun _ => ⟨rfl, kb, hr⟩, ⟨_, hm⟩⟩
  · exact ⟨_, _, _, _, rfl, hc, fun W _ hg => (class_errno 60 W hg).mono fun e W' h => ⟨by rw [h.1, h0], h.2⟩, fun h => absurd h (by rw [h0]; simp), fun _ => rfl, fun h => absurd h (by rw [h0]; simp), ⟨_, hm⟩⟩
  · exact ⟨_, _, _, _, rfl, hc, fun W hW hg => (class_fault fb nm er p W (hF.ch hW) hg).mono fun e W' h => ⟨by rw [h.1, h0], h.2⟩, fun _ W hW hg => where_fault fb nm er p W (hF.ch hW) hg, fun _ => rfl, fun h => absurd h (by rw [h0]; simp), ⟨_, hm⟩⟩

theorem kscan_ok {l : List V} {a : Int} {ps : List (Int × Int)} (h : (kscan l a ps).2 = 0) (f g : Int) (hp : (f, g) ∈ ps) (hf : 0 ≤ f) : f < l.length := by
  obtain ⟨m, hm⟩ := List.mem_iff_getElem?.1 hp
  have h0 : (kscan l a (ps.take m)).2 = 0 := by
    by_cases hx : (kscan l a (ps.take m)).2 = 0
    · exact hx
    · exact absurd h (by rw [kscan_stuck hx]; exact hx)
  have h1 : (kscan l a (ps.take (m + 1))).2 = 0 := by
    by_cases hx : (kscan l a (ps.take (m + 1))).2 = 0
    · exact hx
    · exact absurd h (by rw [kscan_stuck hx]; exact hx)
  rw [kscan_take hm] at h1
  unfold kstep at h1
  rw [if_neg (by rw [h0]; simp)] at h1
  by_cases hlt : f < l.length
  · exact hlt
  · rw [if_neg (by simp; omega), if_neg (by simp; omega)] at h1
    simp at h1
theorem kval_ok {l : List V} (ol : OkL l) (p : Int × Int) : (kval l p).Ok := by
  unfold kval
  split
  · by_cases h : p.1.toNat < l.length
    · have : l.getD p.1.toNat V.zero = l[p.1.toNat] := by simp [List.getD, h]
      rw [this]; exact ol _ (List.getElem_mem h)
    · have : l.getD p.1.toNat V.zero = V.zero := by simp [List.getD, List.getElem?_eq_none (by omega : l.length ≤ p.1.toNat)]
      rw [this]
      exact ⟨by simp [V.zero], by simp [V.zero], by simp [V.zero], by simp [V.zero], by simp [V.zero], Nat.zero_le _⟩
  · exact extV_ok _ _ ol
theorem kvals_ok {l : List V} (ol : OkL l) (ps : List (Int × Int)) : OkL (ps.map (kval l)) := by
  intro v hv
  obtain ⟨p, _, rfl⟩ := List.mem_map.1 hv
  exact kval_ok ol p

/-- One round of the statement's own count. -/
theorem kstep_cases (l : List V) (a c f h : Int) : (0 ≤ f ∧ f < l.length ∧ kstep l a (c, 0) (f, h) = (c, 0)) ∨ ((l.length ≤ f ∨ f < -1 ∨ (f = -1 ∧ (h < 0 ∨ 5 ≤ h))) ∧ kstep l a (c, 0) (f, h) = (c, 60)) ∨
    (f = -1 ∧ 0 ≤ h ∧ h < 5 ∧ ((c + 1 = a ∧ kstep l a (c, 0) (f, h) = (c + 1, 50)) ∨ (c + 1 ≠ a ∧ isV (extV h l) = false ∧ kstep l a (c, 0) (f, h) = (c + 1, 50)) ∨ (c + 1 ≠ a ∧ isV (extV h l) = true ∧ kstep l a (c, 0) (f, h) = (c + 1, 0)))) := by
  unfold kstep
  rw [if_neg (by simp)]
  by_cases h1 : 0 ≤ f ∧ f < l.length
  · exact .inl ⟨h1.1, h1.2, by rw [if_pos h1]⟩
  · rw [if_neg h1]
    by_cases h2 : f = -1 ∧ 0 ≤ h ∧ h < 5
    · rw [if_pos h2]
      right; right
      refine ⟨h2.1, h2.2.1, h2.2.2, ?_⟩
      by_cases h3 : c + 1 = a
      · exact .inl ⟨h3, by rw [if_pos (.inl h3)]⟩
      · cases h4 : isV (extV h l) with
        | false => exact .inr (.inl ⟨h3, rfl, by rw [if_pos (.inr rfl)]⟩)
        | true => exact .inr (.inr ⟨h3, rfl, by rw [if_neg (by simp [h3])]⟩)
    · rw [if_neg h2]
      exact .inr (.inl ⟨by omega, rfl⟩)
end Go.Proofs.YtiekahnpnaldjaaDoor
