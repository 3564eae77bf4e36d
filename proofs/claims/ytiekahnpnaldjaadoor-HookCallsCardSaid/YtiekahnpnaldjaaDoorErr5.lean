/-
  errors.As of Faults and Twices.
-/
import Derived.Test.YtiekahnpnaldjaaDoorHook1
namespace Go.Proofs.YtiekahnpnaldjaaDoor
open Go.RowKit Go.Extern.Stop Go.Stop Go.Extern

/-- What was panicked with is no error. -/
def NoError (p : Value) : Prop := ∀ w, (Instr.typeAssert p 20 28 true).run Tryd.prog w = .ok (.tuple #[.nilIface, .bool false]) w
theorem noError_int (n : Int) : NoError (.iface 3 (.int .i64 n)) := fun w => run_typeAssert_lacksB Tryd.underlying28 (by kernel_rfl) (by kernel_rfl) _ _ w
theorem noError_nil : NoError .nilIface := fun w => by kernel_rfl

theorem unwrap_panic (fb : Nat) (wh : ByteArray) (p : Value) (w : World) (h : FaultAt w fb wh .nilIface p) (hp : NoError p) :
    Calls Tryd.prog 131 #[.pointer (some ⟨fb, 0, none⟩)] w fun e w' => e = .returned (.slice (some ⟨w.heap.size, 0, none⟩) 1 1) ∧ w' = w.alloc (.cells #[.iface 31 (.int .i64 50)] 28) := by
  unfold FaultAt at h
  unfold NoError at hp
  have k1 := (cell_of (i := 1) h).trans rfl
  have k2 := (cell_of (i := 2) h).trans rfl
  have z := lt_of_block h
  go_enter Tryd.func131, Tryd.ntmps131
  go_wp2
  go_ret
  exact ⟨rfl, rfl⟩

theorem unwrap_err (fb : Nat) (wh : ByteArray) (t : TypeId) (v p : Value) (w : World) (h : FaultAt w fb wh (.iface t v) p) :
    Calls Tryd.prog 131 #[.pointer (some ⟨fb, 0, none⟩)] w fun e w' => e = .returned (.slice (some ⟨w.heap.size, 0, none⟩) 2 2) ∧ w' = w.alloc (.cells #[.iface 31 (.int .i64 50), .iface t v] 28) := by
  unfold FaultAt at h
  have k1 := (cell_of (i := 1) h).trans rfl
  have z := lt_of_block h
  go_enter Tryd.func131, Tryd.ntmps131
  go_wp2
  go_ret
  exact ⟨rfl, rfl⟩
theorem unwrap_twice (tb : Nat) (w : World) :
    Calls Tryd.prog 129 #[.pointer (some ⟨tb, 0, none⟩)] w fun e w' => e = .returned (.iface 31 (.int .i64 80)) ∧ w' = w := by
  go_enter Tryd.func129, Tryd.ntmps129
  go_wp2
  go_ret
  exact ⟨rfl, rfl⟩

/-- errors.as finds nothing in what x is. -/
def Misses (E : Nat) (x : Value) : Prop := ∀ (t c0 c1 c2 : Value) (w : World), Calls Tryd.prog 86 #[x, t, .agg #[c0, c1, c2], .iface 155 (rty E)] w fun e w' => e = .returned (.bool false) ∧ Ch [] w w'
theorem misses_leaf {D E : Nat} (d : DynC D E) (l : LeafC D) (x : Value) : Misses E (.iface D x) := fun t _ _ _ w =>
  (as_leaf d l x t _ _ w rfl rfl).mono fun _ _ h => ⟨h.1, Ch.of_below h.2 []⟩

set_option maxRecDepth 100000 in
set_option maxHeartbeats 2000000 in
/-- errors.as finds nothing in a Fault that was panicked with no error. -/
theorem as_fault1 {E : Nat} (d : DynC 102 E) (dn : Misses E (.iface 31 (.int .i64 50))) (fb : Nat) (wh : ByteArray) (p t c0 c1 c2 : Value) (w : World) (h : FaultAt w fb wh .nilIface p) (hp : NoError p) :
    Calls Tryd.prog 86 #[faultVal fb, t, .agg #[c0, c1, c2], .iface 155 (rty E)] w fun e w' => e = .returned (.bool false) ∧ Ch [] w w' := by
  have q1 := d.call_typeOf
  have q2 := d.call_assign
  have q3 := m_assign
  have q4 := fault_noAs
  have q5 := fault_u1
  have q6 := fault_u2
  have q7 := m_unwrap2
  have H1 := Lib.hid (unwrap_panic fb wh p _ (show FaultAt (w.alloc (.cells #[c0, c1, c2] 134)) fb wh .nilIface p from heap_alloc_past h) hp)
  have H2 := Lib.hid dn
  clear h dn
  unfold faultVal
  go_enter Tryd.func86, Tryd.ntmps86
  go_wp2_with fail
  refine wp_loop_rounds 1 ?_
  rw [rounds_succ]
  go_wp2_with (go_at_call 131; refine H1.out.mono ?_)
  rintro e w1 ⟨rfl, rfl⟩
  clear H1
  go_wp2_with fail
  refine wp_loop_rounds 2 ?_
  rw [rounds_succ]
  go_wp2_with (go_at_call 86; refine (H2.out _ _ _ _ _).mono ?_)
  rintro e w2 ⟨rfl, hc⟩
  have HC := Lib.hid hc
  clear hc
  go_wp2_with fail
  rw [rounds_succ]
  go_wp2_with fail
  go_ret
  exact ⟨rfl, (((Ch.refl _ w).alloc _).alloc _).trans HC.out⟩

set_option maxRecDepth 100000 in
set_option maxHeartbeats 2000000 in
/-- .. that user code told an error of. -/
theorem as_fault2 {E : Nat} (d : DynC 102 E) (dn : Misses E (.iface 31 (.int .i64 50))) (te : TypeId) (ve : Value) (de : Misses E (.iface te ve)) (fb : Nat) (wh : ByteArray) (p t c0 c1 c2 : Value) (w : World) (h : FaultAt w fb wh (.iface te ve) p) :
    Calls Tryd.prog 86 #[faultVal fb, t, .agg #[c0, c1, c2], .iface 155 (rty E)] w fun e w' => e = .returned (.bool false) ∧ Ch [] w w' := by
  have q1 := d.call_typeOf
  have q2 := d.call_assign
  have q3 := m_assign
  have q4 := fault_noAs
  have q5 := fault_u1
  have q6 := fault_u2
  have q7 := m_unwrap2
  have H1 := Lib.hid (unwrap_err fb wh te ve p _ (show FaultAt (w.alloc (.cells #[c0, c1, c2] 134)) fb wh (.iface te ve) p from heap_alloc_past h))
  have H2 := Lib.hid dn
  have H3 := Lib.hid de
  clear h dn de
  unfold faultVal
  go_enter Tryd.func86, Tryd.ntmps86
  go_wp2_with fail
  refine wp_loop_rounds 1 ?_
  rw [rounds_succ]
  go_wp2_with (go_at_call 131; refine H1.out.mono ?_)
  rintro e w1 ⟨rfl, rfl⟩
  clear H1
  go_wp2_with fail
  refine wp_loop_rounds 3 ?_
  rw [rounds_succ]
  go_wp2_with (go_at_call 86; refine (H2.out _ _ _ _ _).mono ?_)
  rintro e w2 ⟨rfl, hc⟩
  have ha : ((w.alloc (.cells #[c0, c1, c2] 134)).alloc (.cells #[.iface 31 (.int .i64 50), .iface te ve] 28)).heap[w.heap.size + 1]? = some (.cells #[.iface 31 (.int .i64 50), .iface te ve] 28 (0, 0)) := by
    simpa using heap_alloc_same (w.alloc (.cells #[c0, c1, c2] 134)) (.cells #[.iface 31 (.int .i64 50), .iface te ve] 28)
  have hb : ((w.alloc (.cells #[c0, c1, c2] 134)).alloc (.cells #[.iface 31 (.int .i64 50), .iface te ve] 28)).heap[w.heap.size]? = some (.cells #[c0, c1, c2] 134 (0, 0)) := heap_alloc_past (heap_alloc_same _ _)
  have k1 := (cell_of (i := 1) (hc.heap ha (by simp))).trans rfl
  have z1 := lt_of_block (hc.heap ha (by simp))
  have j0 := (cell_of (i := 0) (hc.heap hb (by simp))).trans rfl
  have j1 := (cell_of (i := 1) (hc.heap hb (by simp))).trans rfl
  have j2 := (cell_of (i := 2) (hc.heap hb (by simp))).trans rfl
  have z2 := lt_of_block (hc.heap hb (by simp))
  have HC := Lib.hid hc
  clear hc ha hb
  go_wp2_with fail
  rw [rounds_succ]
  go_wp2_with (go_at_call 86; refine (H3.out _ _ _ _ _).mono ?_)
  rintro e w3 ⟨rfl, hc⟩
  have HC2 := Lib.hid hc
  clear hc
  go_wp2_with fail
  rw [rounds_succ]
  go_wp2_with fail
  go_ret
  exact ⟨rfl, ((((Ch.refl _ w).alloc _).alloc _).trans HC.out).trans HC2.out⟩

/-- A fault that is told, as the statements' user code tells them: its Err and its Panic. -/
inductive Told (E : Nat) : Value → Value → Prop
  | panic (p : Value) : NoError p → Told E .nilIface p
  | err (te : TypeId) (ve p : Value) : Misses E (.iface te ve) → Told E (.iface te ve) p
theorem as_fault {E : Nat} (d : DynC 102 E) (dn : Misses E (.iface 31 (.int .i64 50))) (e p : Value) (ht : Told E e p) (fb : Nat) (wh : ByteArray) (t c0 c1 c2 : Value) (w : World) (h : FaultAt w fb wh e p) :
    Calls Tryd.prog 86 #[faultVal fb, t, .agg #[c0, c1, c2], .iface 155 (rty E)] w fun e w' => e = .returned (.bool false) ∧ Ch [] w w' := by
  cases ht with
  | panic _ hp => exact as_fault1 d dn fb wh p t c0 c1 c2 w h hp
  | err te ve _ hm => exact as_fault2 d dn te ve hm fb wh p t c0 c1 c2 w h

/-- errors.As: no Fault is found as another type (a Twice, a Mark). -/
theorem As_fault {T E : Nat} {kE fE fA : Int} (c : TgtC T E kE fE fA) (d : DynC 102 E) (dn : Misses E (.iface 31 (.int .i64 50))) (e p : Value) (ht : Told E e p) (fb : Nat) (wh : ByteArray) (tb : Nat) (w : World) (h : FaultAt w fb wh e p) (hg : Glob w) :
    Calls Tryd.prog 54 #[faultVal fb, .iface T (.pointer (some ⟨tb, 0, none⟩))] w fun e w' => e = .returned (.bool false) ∧ Ch [] w w' := by
  obtain ⟨a1, a2⟩ := as_world (T := T) (tb := tb) w
  refine (as_of c (.pointer (some ⟨fb, 0, none⟩)) tb w (fun v w' => v = .bool false ∧ Ch [] w w') hg ((as_fault d dn e p ht fb wh _ _ _ _ _ (a1.heap h (by simp))).mono ?_)).mono ?_
  · rintro e w' ⟨rfl, h2⟩
    exact ⟨_, rfl, rfl, a1.trans h2⟩
  · rintro e w' ⟨v, rfl, rfl, h⟩
    exact ⟨rfl, h⟩
end Go.Proofs.YtiekahnpnaldjaaDoor
