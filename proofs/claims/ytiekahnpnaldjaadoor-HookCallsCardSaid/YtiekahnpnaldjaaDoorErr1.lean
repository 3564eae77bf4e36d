/-
  errors.As: closed facts on the model's entries for internal/reflectlite, at this program's types; laws on the entries that read or write memory.
-/
import Derived.Test.YtiekahnpnaldjaaDoorKit
import Derived.RowKitTokens
namespace Go.Proofs.YtiekahnpnaldjaaDoor
open Go.RowKit Go.Extern.Stop Go.Stop Go.Extern

theorem ent_valueOf (args : Array Value) (w : World) : (callFunc 83 args).run Tryd.prog w = ((ReflectliteValue.unpack (args.getD 0 (.tuple #[]))).run Tryd.prog w).andThen fun v w' => .ok (.value v) w' :=
  run_callFunc_extern (e := fun args => ReflectliteValue.unpack (args.getD 0 (.tuple #[]))) Tryd.func83 (by kernel_rfl) (by kernel_rfl) (by kernel_rfl) (by kernel_rfl) args w
theorem ent_type (args : Array Value) (w : World) : (callFunc 84 args).run Tryd.prog w = ((ReflectliteValue.methodAny (ReflectliteValue.valueError "reflectlite.Value.Type" 0) (fun t _ _ _ => ReflectliteType.toType t) args).run Tryd.prog w).andThen fun v w' => .ok (.value v) w' :=
  run_callFunc_extern (e := ReflectliteValue.methodAny (ReflectliteValue.valueError "reflectlite.Value.Type" 0) (fun t _ _ _ => ReflectliteType.toType t)) Tryd.func84 (by kernel_rfl) (by kernel_rfl) (by kernel_rfl) (by kernel_rfl) args w
theorem ent_isNil (args : Array Value) (w : World) : (callFunc 85 args).run Tryd.prog w = ((ReflectliteValue.method (ReflectliteValue.valueError "reflectlite.Value.IsNil" 0) ReflectliteValue.isNil args).run Tryd.prog w).andThen fun v w' => .ok (.value v) w' :=
  run_callFunc_extern (e := ReflectliteValue.method (ReflectliteValue.valueError "reflectlite.Value.IsNil" 0) ReflectliteValue.isNil) Tryd.func85 (by kernel_rfl) (by kernel_rfl) (by kernel_rfl) (by kernel_rfl) args w
theorem ent_kind (args : Array Value) (w : World) : (callFunc 124 args).run Tryd.prog w = ((ReflectliteType.abiMethod (fun t => do pure (.int .u8 (← Rtype.kind t))) args).run Tryd.prog w).andThen fun v w' => .ok (.value v) w' :=
  run_callFunc_extern (e := ReflectliteType.abiMethod fun t => do pure (.int .u8 (← Rtype.kind t))) Tryd.func124 (by kernel_rfl) (by kernel_rfl) (by kernel_rfl) (by kernel_rfl) args w
theorem ent_elem (args : Array Value) (w : World) : (callFunc 139 args).run Tryd.prog w = ((ReflectliteType.method ReflectliteType.elem args).run Tryd.prog w).andThen fun v w' => .ok (.value v) w' :=
  run_callFunc_extern (e := ReflectliteType.method ReflectliteType.elem) Tryd.func139 (by kernel_rfl) (by kernel_rfl) (by kernel_rfl) (by kernel_rfl) args w
theorem ent_impl (args : Array Value) (w : World) : (callFunc 140 args).run Tryd.prog w = ((ReflectliteType.relation "Implements" ReflectliteType.implements_ args).run Tryd.prog w).andThen fun v w' => .ok (.value v) w' :=
  run_callFunc_extern (e := ReflectliteType.relation "Implements" ReflectliteType.implements_) Tryd.func140 (by kernel_rfl) (by kernel_rfl) (by kernel_rfl) (by kernel_rfl) args w
theorem ent_typeOf (args : Array Value) (w : World) : (callFunc 97 args).run Tryd.prog w = ((ReflectliteType.typeOf args).run Tryd.prog w).andThen fun v w' => .ok (.value v) w' :=
  run_callFunc_extern (e := ReflectliteType.typeOf) Tryd.func97 (by kernel_rfl) (by kernel_rfl) (by kernel_rfl) (by kernel_rfl) args w
theorem ent_assign (args : Array Value) (w : World) : (callFunc 137 args).run Tryd.prog w = ((ReflectliteType.relation "AssignableTo" ReflectliteType.assignableTo args).run Tryd.prog w).andThen fun v w' => .ok (.value v) w' :=
  run_callFunc_extern (e := ReflectliteType.relation "AssignableTo" ReflectliteType.assignableTo) Tryd.func137 (by kernel_rfl) (by kernel_rfl) (by kernel_rfl) (by kernel_rfl) args w
theorem ent_velem (args : Array Value) (w : World) : (callFunc 102 args).run Tryd.prog w = ((ReflectliteValue.method (ReflectliteValue.valueError "reflectlite.Value.Elem" 0) ReflectliteValue.elem args).run Tryd.prog w).andThen fun v w' => .ok (.value v) w' :=
  run_callFunc_extern (e := ReflectliteValue.method (ReflectliteValue.valueError "reflectlite.Value.Elem" 0) ReflectliteValue.elem) Tryd.func102 (by kernel_rfl) (by kernel_rfl) (by kernel_rfl) (by kernel_rfl) args w
theorem ent_set (args : Array Value) (w : World) : (callFunc 103 args).run Tryd.prog w = ((ReflectliteValue.set args).run Tryd.prog w).andThen fun v w' => .ok (.value v) w' :=
  run_callFunc_extern (e := ReflectliteValue.set) Tryd.func103 (by kernel_rfl) (by kernel_rfl) (by kernel_rfl) (by kernel_rfl) args w

theorem rlm (z : Sem Value) (f : TypeId → Addr → Nat → Nat → Sem Value) (v : Value) :
    ReflectliteValue.method z f #[v] = (do match ← ReflectliteValue.parts v with | none => z | some (t, a, fl) => f t a fl (fl % 32)) := rfl
theorem rls (v x : Value) : ReflectliteValue.set #[v, x] = (do
    let (some (dst, a, fl), some (src, b, _)) := (← ReflectliteValue.parts v, ← ReflectliteValue.parts x)
      | unsupported (.noEntry "extern/(internal/reflectlite.Value).Set.zeroValue")
    if fl / ReflectliteValue.flagAddr % 2 == 0 then unsupported (.noEntry "extern/(internal/reflectlite.Value).Set.unaddressable")
    let val ← loadVar src b
    if ← Rtype.directlyAssignable dst src then storeVar dst a val
    else if ← Rtype.implements dst src then
      if (← Rtype.kind src) == 20 then
        match val with
        | .nilIface => unsupported (.noEntry "extern/reflectlite: a nil value of one interface type handed on as a value of another")
        | _ => storeVar dst a val
      else storeVar dst a (.iface src val)
    else panicString ("reflectlite.Set: value of type " ++ (← Rtype.spelt src) ++ " is not assignable to type " ++ (← Rtype.spelt dst))
    pure (.tuple #[])) := rfl

/-- The block of the types' handles. -/
noncomputable def hB : Nat := Tryd.prog.globals.size
/-- The handle of a type; as an rtype. -/
noncomputable def rptr (T : TypeId) : Value := .pointer (some ⟨hB, T, none⟩)
noncomputable def rty (T : TypeId) : Value := .agg #[rptr T]
/-- A reflectlite.Value of type T over the variable at a, with the flags fl. -/
noncomputable def rval (T : TypeId) (a : Addr) (fl : Int) : Value := .agg #[rptr T, .pointer (some a), .int .u64 fl]

/-- The closed facts of a target's type T = *E, E a type of one cell that is an error: kE: E's kind; fE, fA: the flags of a Value of E, of an addressable one. -/
structure TgtC (T E : Nat) (kE fE fA : Int) : Prop where
  mkT : ∀ a w, (ReflectliteValue.mk T a 0).run Tryd.prog w = .ok (rval T a 150) w
  partsAny : ∀ a w, (ReflectliteValue.partsAny (rval T a 150)).run Tryd.prog w = .ok (some (T, a, 150)) w
  toType : ∀ w, (ReflectliteType.toType T).run Tryd.prog w = .ok (.iface 155 (rty T)) w
  parts : ∀ a w, (ReflectliteValue.parts (rval T a 150)).run Tryd.prog w = .ok (some (T, a, 150)) w
  under : Tryd.prog.underlying T = some (.pointer E)
  kindT : ∀ w, (ReflectliteType.abiMethod (fun t => do pure (.int .u8 (← Rtype.kind t))) #[rptr T]).run Tryd.prog w = .ok (.int .u8 22) w
  kindE : ∀ w, (ReflectliteType.abiMethod (fun t => do pure (.int .u8 (← Rtype.kind t))) #[rptr E]).run Tryd.prog w = .ok (.int .u8 kE) w
  k20 : (kE == 20) = false
  elem : ∀ w, (ReflectliteType.method ReflectliteType.elem #[rty T]).run Tryd.prog w = .ok (.iface 155 (rty E)) w
  impl : ∀ w, (ReflectliteType.relation "Implements" ReflectliteType.implements_ #[rty E, .iface 155 (rty 28)]).run Tryd.prog w = .ok (.bool true) w
  elem? : ∀ w, (Rtype.elem? T).run Tryd.prog w = .ok (some E) w
  mkA : ∀ p w, (ReflectliteValue.mk E p ReflectliteValue.flagAddr).run Tryd.prog w = .ok (rval E p fA) w
  mkE : ∀ p w, (ReflectliteValue.mk E p 0).run Tryd.prog w = .ok (rval E p fE) w
  partsA : ∀ p w, (ReflectliteValue.parts (rval E p fA)).run Tryd.prog w = .ok (some (E, p, fA.toNat)) w
  partsE : ∀ p w, (ReflectliteValue.parts (rval E p fE)).run Tryd.prog w = .ok (some (E, p, fE.toNat)) w
  direct : ∀ w, (Rtype.directlyAssignable E E).run Tryd.prog w = .ok true w
  fA : (fA.toNat / 256 % 2 == 0) = false
  plainE : ∃ d, Tryd.prog.underlying E = some d ∧ (match d with | .struct _ => False | .array _ _ => False | _ => True)
  typeOf : ∀ v w, (ReflectliteType.typeOf #[.iface E v]).run Tryd.prog w = .ok (.iface 155 (rty E)) w
  assign : ∀ w, (ReflectliteType.relation "AssignableTo" ReflectliteType.assignableTo #[rty E, .iface 155 (rty E)]).run Tryd.prog w = .ok (.bool true) w
  size : ∀ w, (sizeOf E).run Tryd.prog w = .ok 1 w

theorem c_twice : TgtC 101 99 22 150 406 :=
  ⟨fun _ _ => by kernel_rfl, fun _ _ => by kernel_rfl, fun _ => by kernel_rfl, fun _ _ => by kernel_rfl, by kernel_rfl, fun _ => by kernel_rfl, fun _ => by kernel_rfl, by decide, fun _ => by kernel_rfl, fun _ => by kernel_rfl, fun _ => by kernel_rfl,
   fun _ _ => by kernel_rfl, fun _ _ => by kernel_rfl, fun _ _ => by kernel_rfl, fun _ _ => by kernel_rfl, fun _ => by kernel_rfl, by decide, ⟨_, Tryd.underlying99, trivial⟩, fun _ _ => by kernel_rfl, fun _ => by kernel_rfl, fun _ => by kernel_rfl⟩
theorem c_fault : TgtC 103 102 22 150 406 :=
  ⟨fun _ _ => by kernel_rfl, fun _ _ => by kernel_rfl, fun _ => by kernel_rfl, fun _ _ => by kernel_rfl, by kernel_rfl, fun _ => by kernel_rfl, fun _ => by kernel_rfl, by decide, fun _ => by kernel_rfl, fun _ => by kernel_rfl, fun _ => by kernel_rfl,
   fun _ _ => by kernel_rfl, fun _ _ => by kernel_rfl, fun _ _ => by kernel_rfl, fun _ _ => by kernel_rfl, fun _ => by kernel_rfl, by decide, ⟨_, Tryd.underlying102, trivial⟩, fun _ _ => by kernel_rfl, fun _ => by kernel_rfl, fun _ => by kernel_rfl⟩
theorem c_errno : TgtC 104 31 2 130 386 :=
  ⟨fun _ _ => by kernel_rfl, fun _ _ => by kernel_rfl, fun _ => by kernel_rfl, fun _ _ => by kernel_rfl, by kernel_rfl, fun _ => by kernel_rfl, fun _ => by kernel_rfl, by decide, fun _ => by kernel_rfl, fun _ => by kernel_rfl, fun _ => by kernel_rfl,
   fun _ _ => by kernel_rfl, fun _ _ => by kernel_rfl, fun _ _ => by kernel_rfl, fun _ _ => by kernel_rfl, fun _ => by kernel_rfl, by decide, ⟨_, Tryd.underlying31, trivial⟩, fun _ _ => by kernel_rfl, fun _ => by kernel_rfl, fun _ => by kernel_rfl⟩
theorem c_mark : TgtC 125 124 22 150 406 :=
  ⟨fun _ _ => by kernel_rfl, fun _ _ => by kernel_rfl, fun _ => by kernel_rfl, fun _ _ => by kernel_rfl, by kernel_rfl, fun _ => by kernel_rfl, fun _ => by kernel_rfl, by decide, fun _ => by kernel_rfl, fun _ => by kernel_rfl, fun _ => by kernel_rfl,
   fun _ _ => by kernel_rfl, fun _ _ => by kernel_rfl, fun _ _ => by kernel_rfl, fun _ _ => by kernel_rfl, fun _ => by kernel_rfl, by decide, ⟨_, Tryd.underlying124, trivial⟩, fun _ _ => by kernel_rfl, fun _ => by kernel_rfl, fun _ => by kernel_rfl⟩
end Go.Proofs.YtiekahnpnaldjaaDoor
