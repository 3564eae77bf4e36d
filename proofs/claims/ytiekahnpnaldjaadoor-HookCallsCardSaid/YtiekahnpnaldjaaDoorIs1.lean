/-
  errors.Is, asked for an error's number.
-/
import Derived.Test.YtiekahnpnaldjaaDoorCo4
namespace Go.Proofs.YtiekahnpnaldjaaDoor
open Go.RowKit Go.Extern.Stop Go.Stop Go.Extern

theorem run_equalIn_iface_int {P : Program} (w : World) (d : Nat) {ti tn : TypeId} {ms : Array (String × TypeId)} {i : TypeInfo} {k : IntKind} (a b : Int)
    (hi : P.underlying ti = some (.interface ms)) (hn : P.underlying tn = some (.int k)) (hinfo : P.info? tn = some i) (hcomp : i.comparable = true) :
    (Op.equalIn (d + 2) ti (.iface tn (.int k a)) (.iface tn (.int k b))).run P w = .ok (a == b) w := by
  simp [Op.equalIn, run_underlying hi, run_underlying hn, typeInfo, hinfo, hcomp]
theorem run_eql_iface_int {P : Program} (w : World) {ti tn : TypeId} {ms : Array (String × TypeId)} {i : TypeInfo} {k : IntKind} (a b : Int)
    (hi : P.underlying ti = some (.interface ms)) (hn : P.underlying tn = some (.int k)) (hinfo : P.info? tn = some i) (hcomp : i.comparable = true) :
    (binOp .eql ti (.iface tn (.int k a)) (.iface tn (.int k b))).run P w = .ok (.bool (a == b)) w := by
  simp only [binOp]
  simp [Op.equal, Op.maxDepth, run_equalIn_iface_int w 9998 a b hi hn hinfo hcomp]
theorem errno_comp : (Tryd.prog.info? 31).map (fun i => i.comparable) = some true := by kernel_rfl
theorem call_compar (w : World) : (callFunc 138 #[rty 31]).run Tryd.prog w = .ok (.value (.bool true)) w := by kernel_rfl
theorem call_typeOfErrno (v : Value) (w : World) : (callFunc 97 #[.iface 31 v]).run Tryd.prog w = .ok (.value (.iface 155 (rty 31))) w := by kernel_rfl
theorem m_compar (w : World) : (Go.method 302 155 (rty 31) "Comparable").run Tryd.prog w = .ok (138, rty 31) w := by kernel_rfl
theorem errno_noIs (v : Value) (w : World) : (Instr.typeAssert (.iface 31 v) 28 167 true).run Tryd.prog w = .ok (.tuple #[.nilIface, .bool false]) w :=
  run_typeAssert_lacksB Tryd.underlying167 (by kernel_rfl) (by kernel_rfl) v _ w
theorem fault_noIs (v : Value) (w : World) : (Instr.typeAssert (.iface 102 v) 28 167 true).run Tryd.prog w = .ok (.tuple #[.nilIface, .bool false]) w :=
  run_typeAssert_lacksB Tryd.underlying167 (by kernel_rfl) (by kernel_rfl) v _ w
theorem eq_errno (a b : Int) (w : World) : (binOp .eql 28 (.iface 31 (.int .i64 a)) (.iface 31 (.int .i64 b))).run Tryd.prog w = .ok (.bool (a == b)) w := by
  obtain ⟨i, hi, hc⟩ := Option.map_eq_some_iff.1 errno_comp
  exact run_eql_iface_int w a b Tryd.underlying28 Tryd.underlying31 hi hc
theorem eq_fault (fb : Nat) (b : Int) (w : World) : (binOp .eql 28 (.iface 102 (.pointer (some ⟨fb, 0, none⟩))) (.iface 31 (.int .i64 b))).run Tryd.prog w = .ok (.bool false) w := by kernel_rfl

set_option maxRecDepth 100000 in
set_option maxHeartbeats 1000000 in
theorem is_same (n : Int) (w : World) : Calls Tryd.prog 98 #[.iface 31 (.int .i64 n), .iface 31 (.int .i64 n), .bool true] w fun e w' => e = .returned (.bool true) ∧ w = w' := by
  have q1 := eq_errno n n
  have e1 : (n == n) = true := by simp
  rw [e1] at q1
  go_enter Tryd.func98, Tryd.ntmps98
  go_wp2_with fail
  refine wp_loop_rounds 1 ?_
  rw [rounds_succ]
  go_wp2
  go_ret
  exact ⟨rfl, rfl⟩
set_option maxRecDepth 100000 in
set_option maxHeartbeats 1000000 in
theorem is_other (m n : Int) (w : World) (h : m ≠ n) : Calls Tryd.prog 98 #[.iface 31 (.int .i64 m), .iface 31 (.int .i64 n), .bool true] w fun e w' => e = .returned (.bool false) ∧ w = w' := by
  have q1 := eq_errno m n
  have e1 : (m == n) = false := by simp [h]
  rw [e1] at q1
  have q4 := errno_noIs
  have q5 := l_errno.noU1
  have q6 := l_errno.noU2
  clear e1
  go_enter Tryd.func98, Tryd.ntmps98
  go_wp2_with fail
  refine wp_loop_rounds 1 ?_
  rw [rounds_succ]
  go_wp2
  go_ret
  exact ⟨rfl, rfl⟩
set_option maxRecDepth 100000 in
set_option maxHeartbeats 2000000 in
theorem is_fault (fb : Nat) (wh : ByteArray) (n : Int) (p : Value) (w : World) (hn : n ≠ 50) (h : FaultAt w fb wh (.iface 31 (.int .i64 n)) p) :
    Calls Tryd.prog 98 #[faultVal fb, .iface 31 (.int .i64 n), .bool true] w fun e w' => e = .returned (.bool true) ∧ Ch [] w w' := by
  have q1 := eq_fault fb n
  have q4 := fault_noIs
  have q5 := fault_u1
  have q6 := fault_u2
  have q7 := m_unwrap2
  have H1 := Lib.hid (unwrap_err fb wh 31 (.int .i64 n) p _ h)
  have H2 := Lib.hid (fun w => is_other 50 n w (fun e => hn e.symm))
  have H3 := Lib.hid (fun w => is_same n w)
  have ha := heap_alloc_same w (.cells #[.iface 31 (.int .i64 50), .iface 31 (.int .i64 n)] 28)
  have HA := Lib.hid ha
  clear h ha
  unfold faultVal
  go_enter Tryd.func98, Tryd.ntmps98
  go_wp2_with fail
  refine wp_loop_rounds 1 ?_
  rw [rounds_succ]
  go_wp2_with (go_at_call 131; refine H1.out.mono ?_)
  rintro e w1 ⟨rfl, rfl⟩
  clear H1
  go_wp2_with fail
  refine wp_loop_rounds 3 ?_
  rw [rounds_succ]
  go_wp2_with fail
  refine (H2.out _).mono ?_
  rintro e w' ⟨rfl, rfl⟩
  go_wp2_with fail
  rw [rounds_succ]
  go_wp2_with fail
  refine (H3.out _).mono ?_
  rintro e w' ⟨rfl, rfl⟩
  go_wp2
  go_ret
  exact ⟨rfl, (Ch.refl _ w).alloc _⟩
set_option maxRecDepth 100000 in
set_option maxHeartbeats 1000000 in
theorem Is_fault (fb : Nat) (wh : ByteArray) (n : Int) (p : Value) (w : World) (hn : n ≠ 50) (h : FaultAt w fb wh (.iface 31 (.int .i64 n)) p) :
    Calls Tryd.prog 73 #[faultVal fb, .iface 31 (.int .i64 n)] w fun e w' => e = .returned (.bool true) ∧ Ch [] w w' := by
  have q1 := call_typeOfErrno
  have q2 := call_compar
  have q3 := m_compar
  have H1 := Lib.hid (fun W (hW : Ch [] w W) => is_fault fb wh n p W hn (hW.heap h (by simp)))
  clear h
  unfold faultVal at *
  go_enter Tryd.func73, Tryd.ntmps73
  go_wp2_with fail
  refine (H1.out _ (Ch.refl _ _)).mono ?_
  rintro e w1 ⟨rfl, hc⟩
  have HC := Lib.hid hc
  clear hc
  go_wp2
  go_ret
  exact ⟨rfl, HC.out⟩
end Go.Proofs.YtiekahnpnaldjaaDoor
