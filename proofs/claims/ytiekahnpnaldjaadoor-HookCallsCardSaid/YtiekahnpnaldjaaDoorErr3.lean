/-
  errors.As: the walks.
-/
import Derived.Test.YtiekahnpnaldjaaDoorErr2
namespace Go.Proofs.YtiekahnpnaldjaaDoor
open Go.RowKit Go.Extern.Stop Go.Stop Go.Extern

set_option maxRecDepth 100000 in
set_option maxHeartbeats 1000000 in
theorem as_hit {T E : Nat} {kE fE fA : Int} (c : TgtC T E kE fE fA) (x : Value) (tb vb : Nat) (old : Value) (w : World) (hx : x.cells = #[x]) (h1 : x.oneCell' = true)
    (ht : w.heap[tb]? = some (.cells #[old] E (0, 0))) (hv : w.heap[vb]? = some (.cells #[.pointer (some ⟨tb, 0, none⟩)] T (0, 0))) :
    Calls Tryd.prog 86 #[.iface E x, .iface T (.pointer (some ⟨tb, 0, none⟩)), rval T ⟨vb, 0, none⟩ 150, .iface 155 (rty E)] w fun e w' => e = .returned (.bool true) ∧
      w'.heap[tb]? = some (.cells #[x] E (0, 0)) ∧ Ch [tb] w w' := by
  have q1 := c.call_typeOf
  have q2 := c.call_assign
  have q3 := m_assign
  have k1 := cell_of_one ht
  have k2 := cell_of_one hv
  have k3 := free_of_one ht
  have z1 := lt_of_block ht
  have z2 := lt_of_block hv
  have q4 := c.call_elemV ⟨vb, 0, none⟩ ⟨tb, 0, none⟩ (w.alloc (.cells #[rptr T, .pointer (some ⟨vb, 0, none⟩), .int .u64 150] 134)) (by simp [go_sem, z2, k2])
  have q5 := fun w => c.call_valueOfE x w hx
  have q6 := c.call_set ⟨tb, 0, none⟩ ⟨w.heap.size + 1, 0, none⟩ x old ((w.alloc (.cells #[rptr T, .pointer (some ⟨vb, 0, none⟩), .int .u64 150] 134)).alloc (.cells #[x] E)) hx h1
    (by simp [go_sem]) (by rw [World.cell?_alloc_past _ _ _ (by simp; omega), World.cell?_alloc_past _ _ _ z1]; exact k1) (by rw [World.frozen?_alloc_past _ _ _ (by simp; omega), World.frozen?_alloc_past _ _ _ z1]; exact k3)
  unfold rval at *
  go_enter Tryd.func86, Tryd.ntmps86
  go_wp2_with fail
  refine wp_loop_rounds 1 ?_
  rw [rounds_succ]
  go_wp2
  go_ret
  refine ⟨rfl, ?_, ?_⟩
  · exact heap_alloc_past (heap_alloc_past (one_setCell ht))
  · exact (((Ch.refl _ w).setCell (by simp) _).alloc _).alloc _

set_option maxRecDepth 100000 in
set_option maxHeartbeats 1000000 in
theorem as_leaf {D E : Nat} (d : DynC D E) (l : LeafC D) (x t v : Value) (vc : Array Value) (w : World) (hv : v = .agg vc) (hvs : vc.size = 3) :
    Calls Tryd.prog 86 #[.iface D x, t, v, .iface 155 (rty E)] w fun e w' => e = .returned (.bool false) ∧ Below w.heap.size w w' := by
  subst hv
  obtain ⟨c0, c1, c2, rfl⟩ : ∃ c0 c1 c2, vc = #[c0, c1, c2] := by
    match vc, hvs with
    | ⟨[a, b, c]⟩, _ => exact ⟨a, b, c, rfl⟩
  have q1 := d.call_typeOf
  have q2 := d.call_assign
  have q3 := m_assign
  have q4 := l.noAs
  have q5 := l.noU1
  have q6 := l.noU2
  go_enter Tryd.func86, Tryd.ntmps86
  go_wp2_with fail
  refine wp_loop_rounds 1 ?_
  rw [rounds_succ]
  go_wp2
  go_ret
  exact ⟨rfl, (Below.refl _ _).alloc (Nat.le_refl _) _⟩

theorem as_nil (t : Value) (w : World) :
    Calls Tryd.prog 54 #[.nilIface, t] w fun e w' => e = .returned (.bool false) ∧ w = w' := by
  go_enter Tryd.func54, Tryd.ntmps54
  go_wp2
  go_ret
  exact ⟨rfl, rfl⟩

/-- The two blocks that errors.As makes ahead of errors.as. -/
noncomputable def asWorld (T : TypeId) (tb : Nat) (w : World) : World :=
  (w.alloc (.cells #[.pointer (some ⟨tb, 0, none⟩)] T)).alloc (.cells #[rptr T, .pointer (some ⟨w.heap.size, 0, none⟩), .int .u64 150] 134)

set_option maxRecDepth 100000 in
set_option maxHeartbeats 2000000 in
theorem as_of {T E D : Nat} {kE fE fA : Int} (c : TgtC T E kE fE fA) (x : Value) (tb : Nat) (w : World) (R : Value → World → Prop)
    (hg : w.cell? ⟨0, 0, none⟩ = some (.iface 155 (rty 28)))
    (has : Calls Tryd.prog 86 #[.iface D x, .iface T (.pointer (some ⟨tb, 0, none⟩)), rval T ⟨w.heap.size, 0, none⟩ 150, .iface 155 (rty E)] (asWorld T tb w) fun e w' => ∃ v, e = .returned v ∧ R v w') :
    Calls Tryd.prog 54 #[.iface D x, .iface T (.pointer (some ⟨tb, 0, none⟩))] w fun e w' => ∃ v, e = .returned v ∧ R v w' := by
  have z0 := World.block_lt_of_cell? _ _ hg
  have q1 := fun w => c.call_valueOfT ⟨tb, 0, none⟩ w
  have q2 := c.call_type
  have q3 := m_kind
  have q4 := c.call_kindT
  have q5 := c.call_isNil ⟨w.heap.size, 0, none⟩ ⟨tb, 0, none⟩ ((w.alloc (.cells #[.pointer (some ⟨tb, 0, none⟩)] T)).alloc (.cells #[rptr T, .pointer (some ⟨w.heap.size, 0, none⟩), .int .u64 150] 134)) (by simp [go_sem])
  have q6 := m_elem
  have q7 := c.call_elemT
  have q8 := c.call_kindE
  have q9 := m_impl
  have q10 := c.call_impl
  have q11 : (kE != 20) = true := by have := c.k20; rw [bne, this]; rfl
  have HA := Lib.hid has
  clear has
  unfold rval asWorld rptr at *
  go_enter Tryd.func54, Tryd.ntmps54
  go_wp2_with (go_at_call 86; refine HA.out.mono ?_)
  intro e w' v he hR
  subst he
  go_wp2
  go_ret
  exact ⟨_, rfl, hR⟩
end Go.Proofs.YtiekahnpnaldjaaDoor
