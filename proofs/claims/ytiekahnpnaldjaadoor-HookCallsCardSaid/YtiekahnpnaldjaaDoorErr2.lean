/-
  errors.As: the entries' calls as equations, out of the closed facts.
-/
import Derived.Test.YtiekahnpnaldjaaDoorErr1
namespace Go.Proofs.YtiekahnpnaldjaaDoor
open Go.RowKit Go.Extern.Stop Go.Stop Go.Extern

section
variable {T E : Nat} {kE fE fA : Int} (c : TgtC T E kE fE fA)
include c
theorem TgtC.call_valueOfT (t : Addr) (w : World) : (callFunc 83 #[.iface T (.pointer (some t))]).run Tryd.prog w = .ok (.value (rval T ⟨w.heap.size, 0, none⟩ 150)) (w.alloc (.cells #[.pointer (some t)] T)) := by
  rw [ent_valueOf]
  simp [ReflectliteValue.unpack, newVar, newRow, Value.cells, c.mkT, Result.andThen]
theorem TgtC.call_valueOfE (x : Value) (w : World) (hx : x.cells = #[x]) : (callFunc 83 #[.iface E x]).run Tryd.prog w = .ok (.value (rval E ⟨w.heap.size, 0, none⟩ fE)) (w.alloc (.cells #[x] E)) := by
  rw [ent_valueOf]
  simp [ReflectliteValue.unpack, newVar, newRow, hx, c.mkE, Result.andThen]
theorem TgtC.call_type (a : Addr) (w : World) : (callFunc 84 #[rval T a 150]).run Tryd.prog w = .ok (.value (.iface 155 (rty T))) w := by
  rw [ent_type, show ReflectliteValue.methodAny (ReflectliteValue.valueError "reflectlite.Value.Type" 0) (fun t _ _ _ => ReflectliteType.toType t) #[rval T a 150] = (do match ← ReflectliteValue.partsAny (rval T a 150) with | none => ReflectliteValue.valueError "reflectlite.Value.Type" 0 | some (t, _, _) => ReflectliteType.toType t) from rfl]
  simp only [Sem.run_bind, c.partsAny, Result.andThen, c.toType]
theorem TgtC.call_isNil (a p : Addr) (w : World) (h : w.cell? a = some (.pointer (some p))) : (callFunc 85 #[rval T a 150]).run Tryd.prog w = .ok (.value (.bool false)) w := by
  rw [ent_isNil, rlm]
  simp only [Sem.run_bind, c.parts, Result.andThen]
  simp [ReflectliteValue.isNil, loadVar, isAgg, underlying, c.under, h, Result.andThen]
theorem TgtC.call_elemV (a p : Addr) (w : World) (h : w.cell? a = some (.pointer (some p))) : (callFunc 102 #[rval T a 150]).run Tryd.prog w = .ok (.value (rval E p fA)) w := by
  rw [ent_velem, rlm]
  simp only [Sem.run_bind, c.parts, Result.andThen]
  simp [ReflectliteValue.elem, loadVar, isAgg, underlying, c.under, h, Result.andThen, c.elem?, c.mkA]
theorem TgtC.call_elemT (w : World) : (callFunc 139 #[rty T]).run Tryd.prog w = .ok (.value (.iface 155 (rty E))) w := by
  rw [ent_elem, c.elem]; rfl
theorem TgtC.call_kindT (w : World) : (callFunc 124 #[rptr T]).run Tryd.prog w = .ok (.value (.int .u8 22)) w := by
  rw [ent_kind, c.kindT]; rfl
theorem TgtC.call_kindE (w : World) : (callFunc 124 #[rptr E]).run Tryd.prog w = .ok (.value (.int .u8 kE)) w := by
  rw [ent_kind, c.kindE]; rfl
theorem TgtC.call_impl (w : World) : (callFunc 140 #[rty E, .iface 155 (rty 28)]).run Tryd.prog w = .ok (.value (.bool true)) w := by
  rw [ent_impl, c.impl]; rfl
theorem TgtC.call_typeOf (v : Value) (w : World) : (callFunc 97 #[.iface E v]).run Tryd.prog w = .ok (.value (.iface 155 (rty E))) w := by
  rw [ent_typeOf, c.typeOf]; rfl
theorem TgtC.call_assign (w : World) : (callFunc 137 #[rty E, .iface 155 (rty E)]).run Tryd.prog w = .ok (.value (.bool true)) w := by
  rw [ent_assign, c.assign]; rfl
theorem TgtC.call_set (ta b : Addr) (x old : Value) (w : World) (hx : x.cells = #[x]) (h1 : x.oneCell' = true) (hb : w.cell? b = some x) (ht : w.cell? ta = some old) (hf : w.frozen? ta = false) :
    (callFunc 103 #[rval E ta fA, rval E b fE]).run Tryd.prog w = .ok (.value (.tuple #[])) (w.setCell ta x) := by
  obtain ⟨d, hd, hp⟩ := c.plainE
  have hfa : (fA.toNat / ReflectliteValue.flagAddr % 2 == 0) = false := c.fA
  rw [ent_set, rls]
  simp only [Sem.run_bind, c.partsA, c.partsE, Result.andThen]
  have hl : (loadVar E b).run Tryd.prog w = .ok x w := by
    cases d <;> simp_all [loadVar, isAgg, underlying, Result.andThen]
  have hs : (storeVar E ta x).run Tryd.prog w = .ok () (w.setCell ta x) := by
    simp [storeVar, hx, storeCells, Addr.add, c.size, Result.andThen]
    rw [run_store Tryd.prog w ta x _ h1]
    simp [ht, hf]
  simp [hfa, hl, c.direct, hs, Result.andThen]
end

/-- What is known of a dynamic type D of an error against a target's element type E that is another. -/
structure DynC (D E : Nat) : Prop where
  typeOf : ∀ v w, (ReflectliteType.typeOf #[.iface D v]).run Tryd.prog w = .ok (.iface 155 (rty D)) w
  assign : ∀ w, (ReflectliteType.relation "AssignableTo" ReflectliteType.assignableTo #[rty D, .iface 155 (rty E)]).run Tryd.prog w = .ok (.bool false) w
theorem DynC.call_typeOf {D E : Nat} (c : DynC D E) (v : Value) (w : World) : (callFunc 97 #[.iface D v]).run Tryd.prog w = .ok (.value (.iface 155 (rty D))) w := by
  rw [ent_typeOf, c.typeOf]; rfl
theorem DynC.call_assign {D E : Nat} (c : DynC D E) (w : World) : (callFunc 137 #[rty D, .iface 155 (rty E)]).run Tryd.prog w = .ok (.value (.bool false)) w := by
  rw [ent_assign, c.assign]; rfl
theorem d_errno_twice : DynC 31 99 := ⟨fun _ _ => by kernel_rfl, fun _ => by kernel_rfl⟩
theorem d_errno_fault : DynC 31 102 := ⟨fun _ _ => by kernel_rfl, fun _ => by kernel_rfl⟩
theorem d_twice_fault : DynC 99 102 := ⟨fun _ _ => by kernel_rfl, fun _ => by kernel_rfl⟩
theorem d_twice_errno : DynC 99 31 := ⟨fun _ _ => by kernel_rfl, fun _ => by kernel_rfl⟩
theorem d_fault_twice : DynC 102 99 := ⟨fun _ _ => by kernel_rfl, fun _ => by kernel_rfl⟩
theorem d_fault_errno : DynC 102 31 := ⟨fun _ _ => by kernel_rfl, fun _ => by kernel_rfl⟩
theorem d_mark_twice : DynC 124 99 := ⟨fun _ _ => by kernel_rfl, fun _ => by kernel_rfl⟩
theorem d_mark_fault : DynC 124 102 := ⟨fun _ _ => by kernel_rfl, fun _ => by kernel_rfl⟩
theorem d_mark_errno : DynC 124 31 := ⟨fun _ _ => by kernel_rfl, fun _ => by kernel_rfl⟩
theorem d_errno_mark : DynC 31 124 := ⟨fun _ _ => by kernel_rfl, fun _ => by kernel_rfl⟩
theorem d_twice_mark : DynC 99 124 := ⟨fun _ _ => by kernel_rfl, fun _ => by kernel_rfl⟩
theorem d_fault_mark : DynC 102 124 := ⟨fun _ _ => by kernel_rfl, fun _ => by kernel_rfl⟩

/-- The type assertions that errors.as tries: As; Unwrap() error; Unwrap() []error: of whatever dynamic type that has none of them. -/
structure LeafC (D : Nat) : Prop where
  noAs : ∀ v w, (Instr.typeAssert (.iface D v) 28 159 true).run Tryd.prog w = .ok (.tuple #[.nilIface, .bool false]) w
  noU1 : ∀ v w, (Instr.typeAssert (.iface D v) 28 162 true).run Tryd.prog w = .ok (.tuple #[.nilIface, .bool false]) w
  noU2 : ∀ v w, (Instr.typeAssert (.iface D v) 28 163 true).run Tryd.prog w = .ok (.tuple #[.nilIface, .bool false]) w
theorem l_errno : LeafC 31 :=
  ⟨fun v w => run_typeAssert_lacksB Tryd.underlying159 (by kernel_rfl) (by kernel_rfl) v _ w,
   fun v w => run_typeAssert_lacksB Tryd.underlying162 (by kernel_rfl) (by kernel_rfl) v _ w,
   fun v w => run_typeAssert_lacksB Tryd.underlying163 (by kernel_rfl) (by kernel_rfl) v _ w⟩
theorem l_mark : LeafC 124 :=
  ⟨fun v w => run_typeAssert_lacksB Tryd.underlying159 (by kernel_rfl) (by kernel_rfl) v _ w,
   fun v w => run_typeAssert_lacksB Tryd.underlying162 (by kernel_rfl) (by kernel_rfl) v _ w,
   fun v w => run_typeAssert_lacksB Tryd.underlying163 (by kernel_rfl) (by kernel_rfl) v _ w⟩
theorem twice_noAs (v : Value) (w : World) : (Instr.typeAssert (.iface 99 v) 28 159 true).run Tryd.prog w = .ok (.tuple #[.nilIface, .bool false]) w :=
  run_typeAssert_lacksB Tryd.underlying159 (by kernel_rfl) (by kernel_rfl) v _ w
theorem twice_u1 (v : Value) (w : World) : (Instr.typeAssert (.iface 99 v) 28 162 true).run Tryd.prog w = .ok (.tuple #[.iface 99 v, .bool true]) w :=
  run_typeAssert_hasB Tryd.underlying162 (by kernel_rfl) v _ w
theorem fault_noAs (v : Value) (w : World) : (Instr.typeAssert (.iface 102 v) 28 159 true).run Tryd.prog w = .ok (.tuple #[.nilIface, .bool false]) w :=
  run_typeAssert_lacksB Tryd.underlying159 (by kernel_rfl) (by kernel_rfl) v _ w
theorem fault_u1 (v : Value) (w : World) : (Instr.typeAssert (.iface 102 v) 28 162 true).run Tryd.prog w = .ok (.tuple #[.nilIface, .bool false]) w :=
  run_typeAssert_lacksB Tryd.underlying162 (by kernel_rfl) (by kernel_rfl) v _ w
theorem fault_u2 (v : Value) (w : World) : (Instr.typeAssert (.iface 102 v) 28 163 true).run Tryd.prog w = .ok (.tuple #[.iface 102 v, .bool true]) w :=
  run_typeAssert_hasB Tryd.underlying163 (by kernel_rfl) v _ w

/-! The methods that errors.As calls through an interface. -/
theorem m_kind (T : TypeId) (w : World) : (Go.method 302 155 (rty T) "Kind").run Tryd.prog w = .ok (124, rptr T) w := by kernel_rfl
theorem m_elem (T : TypeId) (w : World) : (Go.method 302 155 (rty T) "Elem").run Tryd.prog w = .ok (139, rty T) w := by kernel_rfl
theorem m_impl (T : TypeId) (w : World) : (Go.method 302 155 (rty T) "Implements").run Tryd.prog w = .ok (140, rty T) w := by kernel_rfl
theorem m_assign (T : TypeId) (w : World) : (Go.method 302 155 (rty T) "AssignableTo").run Tryd.prog w = .ok (137, rty T) w := by kernel_rfl
theorem m_unwrap1 (a : Addr) (w : World) : (Go.method 302 99 (.pointer (some a)) "Unwrap").run Tryd.prog w = .ok (129, .pointer (some a)) w := by kernel_rfl
theorem m_unwrap2 (a : Addr) (w : World) : (Go.method 302 102 (.pointer (some a)) "Unwrap").run Tryd.prog w = .ok (131, .pointer (some a)) w := by kernel_rfl
end Go.Proofs.YtiekahnpnaldjaaDoor
