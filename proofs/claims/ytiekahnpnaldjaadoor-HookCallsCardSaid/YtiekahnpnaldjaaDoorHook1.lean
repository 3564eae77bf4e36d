/-
  hook.Run: user code, called so that nothing of it gets out.
-/
import Derived.Test.YtiekahnpnaldjaaDoorVal4
import Derived.Test.YtiekahnpnaldjaaDoorErr4
namespace Go.Proofs.YtiekahnpnaldjaaDoor
open Go.RowKit

/-- A fault in memory. -/
def FaultAt (w : World) (fb : Nat) (wh : ByteArray) (e p : Value) : Prop := w.heap[fb]? = some (.cells #[.string wh, e, p] 107 (0, 0))
def faultVal (fb : Nat) : Value := .iface 102 (.pointer (some ⟨fb, 0, none⟩))
def noValue : Value := .iface 144 (.agg #[])

theorem nobody_nil (w : World) : (Instr.typeAssert .nilIface 20 144 true).run Tryd.prog w = .ok (.tuple #[.agg #[], .bool false]) w := by kernel_rfl
theorem nobody_yes (w : World) : (Instr.typeAssert noValue 20 144 true).run Tryd.prog w = .ok (.tuple #[.agg #[], .bool true]) w := by kernel_rfl

@[go_sem] theorem eql_func_nil (w : World) (fn : Fn) (first cap : Array Value) : (binOp .eql 32 (.func fn first cap) .nilFunc).run Tryd.prog w = .ok (.bool false) w := by kernel_rfl
@[go_sem] theorem eql_nil_nil (w : World) : (binOp .eql 32 .nilFunc .nilFunc).run Tryd.prog w = .ok (.bool true) w := by kernel_rfl

/-- The deferred function: nothing was panicked, and the call came back. -/
theorem run1_back (wb eb bb : Nat) (w : World) (hb : w.heap[bb]? = some (.cells #[.bool true] 4 (0, 0))) :
    CallsD Tryd.prog 87 #[.pointer (some ⟨wb, 0, none⟩), .pointer (some ⟨eb, 0, none⟩), .pointer (some ⟨bb, 0, none⟩)] .returning w fun e u' w' => u' = .returning ∧ e = .returned (.tuple #[]) ∧ Ch [] w w' := by
  have c1 := cell_of_one hb
  have z1 := lt_of_block hb
  have n1 := nobody_nil
  refine callsD_of_wpS Tryd.func87 rfl fun c₀ cs hu => ?_
  simp only [Tryd.ntmps87, List.size_toArray, List.length_cons, List.length_nil, Nat.reduceAdd, Nat.reduceSub, Array.replicate_succ,
     Array.replicate_zero, List.push_toArray, List.append_toArray, List.nil_append, List.cons_append]
  refine wpS_seq (wpS_region ?_)
  simp [wpOpsS, go_sem, recoverD, hu, Exit.thenS]
  refine wpS_of_wp ?_
  go_wp2
  exact ⟨rfl, .returning, by cases c₀; simp_all, _, results_none rfl _ _ _, rfl, rfl, (Ch.refl _ _).alloc _⟩

set_option maxRecDepth 100000 in
/-- .. a panic: the fault bears what it panicked with. -/
theorem run1_panic (wb eb bb : Nat) (wh : ByteArray) (t : TypeId) (pv old : Value) (w : World) (hb : w.heap[bb]? = some (.cells #[.bool false] 4 (0, 0))) (hw : w.heap[wb]? = some (.cells #[.string wh] 9 (0, 0))) (he : w.heap[eb]? = some (.cells #[old] 28 (0, 0)))
    (hna : ∀ w, (Instr.typeAssert (.iface t pv) 20 144 true).run Tryd.prog w = .ok (.tuple #[.agg #[], .bool false]) w) :
    CallsD Tryd.prog 87 #[.pointer (some ⟨wb, 0, none⟩), .pointer (some ⟨eb, 0, none⟩), .pointer (some ⟨bb, 0, none⟩)] (.panicking [{ v := .iface t pv, recovered := false }]) w fun e u' w' =>
      u' = .panicking [{ v := .iface t pv, recovered := true }] ∧ e = .returned (.tuple #[]) ∧ ∃ fb, w.heap.size ≤ fb ∧ FaultAt w' fb wh .nilIface (.iface t pv) ∧ w'.heap[eb]? = some (.cells #[faultVal fb] 28 (0, 0)) ∧ Ch [eb] w w' := by
  have c1 := cell_of_one hb
  have c2 := cell_of_one hw
  have c3 := cell_of_one he
  have f3 := free_of_one he
  have z1 := lt_of_block hb
  have z2 := lt_of_block hw
  have z3 := lt_of_block he
  refine callsD_of_wpS Tryd.func87 rfl fun c₀ cs hu => ?_
  simp only [Tryd.ntmps87, List.size_toArray, List.length_cons, List.length_nil, Nat.reduceAdd, Nat.reduceSub, Array.replicate_succ,
     Array.replicate_zero, List.push_toArray, List.append_toArray, List.nil_append, List.cons_append]
  refine wpS_seq (wpS_region ?_)
  simp [wpOpsS, go_sem, recoverD, hu, Exit.thenS]
  refine wpS_of_wp ?_
  have HE := Lib.hid he
  clear hb hw he hu
  go_wp2
  refine ⟨rfl, .panicking [{ v := .iface t pv, recovered := true }], rfl, _, results_none rfl _ _ _, rfl, rfl, w.heap.size + 1, by omega, ?_, ?_, ?_⟩
  · unfold FaultAt; simpa [faultVal] using heap_alloc_same ((w.setCell ⟨eb, 0, none⟩ (faultVal (w.heap.size + 1))).alloc (.cells #[] 144)) (.cells #[.string wh, .nilIface, .iface t pv] 107)
  · exact heap_alloc_past (heap_alloc_past (one_setCell HE.out))
  · exact (((Ch.refl [eb] w).setCell (by simp) _).alloc _).alloc _

set_option maxRecDepth 100000 in
/-- .. there is no user code. -/
theorem run1_none (wb eb bb : Nat) (wh : ByteArray) (old : Value) (w : World) (hw : w.heap[wb]? = some (.cells #[.string wh] 9 (0, 0))) (he : w.heap[eb]? = some (.cells #[old] 28 (0, 0))) :
    CallsD Tryd.prog 87 #[.pointer (some ⟨wb, 0, none⟩), .pointer (some ⟨eb, 0, none⟩), .pointer (some ⟨bb, 0, none⟩)] (.panicking [{ v := noValue, recovered := false }]) w fun e u' w' =>
      u' = .panicking [{ v := noValue, recovered := true }] ∧ e = .returned (.tuple #[]) ∧ ∃ fb, w.heap.size ≤ fb ∧ FaultAt w' fb wh (.iface 31 (.int .i64 50)) .nilIface ∧ w'.heap[eb]? = some (.cells #[faultVal fb] 28 (0, 0)) ∧ Ch [eb] w w' := by
  have c2 := cell_of_one hw
  have c3 := cell_of_one he
  have f3 := free_of_one he
  have z2 := lt_of_block hw
  have z3 := lt_of_block he
  have n1 := nobody_yes
  unfold noValue at *
  refine callsD_of_wpS Tryd.func87 rfl fun c₀ cs hu => ?_
  simp only [Tryd.ntmps87, List.size_toArray, List.length_cons, List.length_nil, Nat.reduceAdd, Nat.reduceSub, Array.replicate_succ,
     Array.replicate_zero, List.push_toArray, List.append_toArray, List.nil_append, List.cons_append]
  refine wpS_seq (wpS_region ?_)
  simp [wpOpsS, go_sem, recoverD, hu, Exit.thenS]
  refine wpS_of_wp ?_
  have HE := Lib.hid he
  clear hw he hu
  go_wp2
  refine ⟨rfl, .panicking [{ v := .iface 144 (.agg #[]), recovered := true }], rfl, _, results_none rfl _ _ _, rfl, rfl, w.heap.size + 1, by omega, ?_, ?_, ?_⟩
  · unfold FaultAt; simpa [faultVal] using heap_alloc_same ((w.setCell ⟨eb, 0, none⟩ (faultVal (w.heap.size + 1))).alloc (.cells #[] 144)) (.cells #[.string wh, .iface 31 (.int .i64 50), .nilIface] 107)
  · exact heap_alloc_past (heap_alloc_past (one_setCell HE.out))
  · exact (((Ch.refl [eb] w).setCell (by simp) _).alloc _).alloc _

/-- The boxes of Run: where, the error, whether the call came back. -/
abbrev runWorld (wh : ByteArray) (w : World) : World := ((w.alloc (.cells #[.string wh] 9)).alloc (.cells #[.nilIface] 28)).alloc (.cells #[.bool false] 4)
theorem runWorld_facts (wh : ByteArray) (w : World) : (runWorld wh w).heap[w.heap.size]? = some (.cells #[.string wh] 9 (0, 0)) ∧ (runWorld wh w).heap[w.heap.size + 1]? = some (.cells #[.nilIface] 28 (0, 0)) ∧ (runWorld wh w).heap[w.heap.size + 1 + 1]? = some (.cells #[.bool false] 4 (0, 0)) :=
  ⟨heap_alloc_past (heap_alloc_past (heap_alloc_same _ _)), heap_alloc_past (by simpa using heap_alloc_same (w.alloc (.cells #[.string wh] 9)) (.cells #[.nilIface] 28)), by simpa using heap_alloc_same ((w.alloc (.cells #[.string wh] 9)).alloc (.cells #[.nilIface] 28)) (.cells #[.bool false] 4)⟩

theorem runWorld_size (wh : ByteArray) (w : World) : (runWorld wh w).heap.size = w.heap.size + 1 + 1 + 1 := by simp
/-- The boxes stand after the user code. -/
theorem runWorld_kept {wh : ByteArray} {w w1 : World} {S : List Nat} (hS : ∀ x, x ∈ S → x < w.heap.size) (h : Ch S (runWorld wh w) w1) :
    w1.heap[w.heap.size]? = some (.cells #[.string wh] 9 (0, 0)) ∧ w1.heap[w.heap.size + 1]? = some (.cells #[.nilIface] 28 (0, 0)) ∧ w1.heap[w.heap.size + 1 + 1]? = some (.cells #[.bool false] 4 (0, 0)) := by
  obtain ⟨b1, b2, b3⟩ := runWorld_facts wh w
  refine ⟨h.heap b1 ?_, h.heap b2 ?_, h.heap b3 ?_⟩
  all_goals (intro hc; have := hS _ hc; omega)

/-- Behind Run: what the user code left (Q), but for Run's own boxes. -/
def RunLeft (w : World) (Q : World → Prop) (w' : World) : Prop := ∃ w1, Q w1 ∧ Ch [w.heap.size + 1, w.heap.size + 1 + 1] w1 w'
/-- Behind Run a fault is told. -/
def RunFault (w : World) (Q : World → Prop) (wh : ByteArray) (e p : Value) (r : Ending) (w' : World) : Prop :=
  ∃ w1 fb, Q w1 ∧ Ch [w.heap.size + 1, w.heap.size + 1 + 1] w1 w' ∧ w1.heap.size ≤ fb ∧ FaultAt w' fb wh e p ∧ r = .returned (faultVal fb)

set_option maxRecDepth 100000 in
set_option maxHeartbeats 1000000 in
theorem run_nil (wh : ByteArray) (fi : FuncId) (cap : Array Value) (w : World) (S : List Nat) (Q : World → Prop) (hS : ∀ x, x ∈ S → x < w.heap.size) (hent : ∀ W, (callFunc fi cap).run Tryd.prog W = .ok (.enter fi cap) W)
    (hf : Calls Tryd.prog fi cap (runWorld wh w) fun e w1 => e = .returned .nilIface ∧ Q w1 ∧ Ch S (runWorld wh w) w1) :
    Calls Tryd.prog 55 #[.string wh, .func (.func fi) #[] cap] w fun e w' => e = .returned .nilIface ∧ RunLeft w Q w' := by
  obtain ⟨b1, b2, b3⟩ := runWorld_facts wh w
  have HF := Lib.hid hf
  have HS := Lib.hid hS
  clear hf b1 b2 b3 hS
  go_enter_defers Tryd.func55, Tryd.ntmps55
  go_wp2_with (refine HF.out.mono ?_)
  rintro e w1 ⟨rfl, hq, hch⟩
  obtain ⟨b1, b2, b3⟩ := runWorld_kept HS.out hch
  have c2 := cell_of_one b2
  have f2 := free_of_one b2
  have c3 := cell_of_one b3
  have f3 := free_of_one b3
  have c1 := cell_of_one b1
  have z1 := lt_of_block b1
  have z2 := lt_of_block b2
  have z3 := lt_of_block b3
  have HB := Lib.hid (And.intro b1 (And.intro b2 b3))
  have HQ := Lib.hid hq
  have HC := Lib.hid hch
  clear b1 b2 b3 hq hch HF
  go_wp2
  refine leaves_cons (f := 87) (args := #[.pointer (some ⟨w.heap.size, 0, none⟩), .pointer (some ⟨w.heap.size + 1, 0, none⟩), .pointer (some ⟨w.heap.size + 1 + 1, 0, none⟩)]) (by simp) (by simp [go_sem]) ?_
  have hbool : (w1.setCell ⟨w.heap.size + 1 + 1, 0, none⟩ (.bool true)).heap[w.heap.size + 1 + 1]? = some (.cells #[.bool true] 4 (0, 0)) := one_setCell HB.out.2.2
  have herr : (w1.setCell ⟨w.heap.size + 1 + 1, 0, none⟩ (.bool true)).heap[w.heap.size + 1]? = some (.cells #[.nilIface] 28 (0, 0)) := (heap_setCell_other (by omega)).trans HB.out.2.1
  refine (run1_back _ _ _ _ ((heap_setCell_other (by omega)).trans hbool)).mono ?_
  rintro e u' w2 ⟨rfl, rfl, hc⟩
  have e2 := cell_of_one (hc.heap (one_setCell (u := .nilIface) herr) (by simp))
  refine ⟨.nilIface, by simp [results, Tryd.results55, go_sem, e2], rfl, w1, HQ.out, ?_⟩
  exact (((Ch.refl _ w1).setCell (by simp) _).setCell (by simp) _).trans' hc (by simp)

set_option maxRecDepth 100000 in
set_option maxHeartbeats 1000000 in
theorem run_err (wh : ByteArray) (fi : FuncId) (cap : Array Value) (t : TypeId) (v : Value) (w : World) (S : List Nat) (Q : World → Prop) (hS : ∀ x, x ∈ S → x < w.heap.size) (hent : ∀ W, (callFunc fi cap).run Tryd.prog W = .ok (.enter fi cap) W)
    (hf : Calls Tryd.prog fi cap (runWorld wh w) fun e w1 => e = .returned (.iface t v) ∧ Q w1 ∧ Ch S (runWorld wh w) w1) :
    Calls Tryd.prog 55 #[.string wh, .func (.func fi) #[] cap] w fun e w' => RunFault w Q wh (.iface t v) .nilIface e w' := by
  obtain ⟨b1, b2, b3⟩ := runWorld_facts wh w
  have HF := Lib.hid hf
  have HS := Lib.hid hS
  clear hf b1 b2 b3 hS
  go_enter_defers Tryd.func55, Tryd.ntmps55
  go_wp2_with (refine HF.out.mono ?_)
  rintro e w1 ⟨rfl, hq, hch⟩
  obtain ⟨b1, b2, b3⟩ := runWorld_kept HS.out hch
  have c2 := cell_of_one b2
  have f2 := free_of_one b2
  have c3 := cell_of_one b3
  have f3 := free_of_one b3
  have c1 := cell_of_one b1
  have z1 := lt_of_block b1
  have z2 := lt_of_block b2
  have z3 := lt_of_block b3
  have HB := Lib.hid (And.intro b1 (And.intro b2 b3))
  have HQ := Lib.hid hq
  have HC := Lib.hid hch
  clear b1 b2 b3 hq hch HF
  go_wp2
  refine leaves_cons (f := 87) (args := #[.pointer (some ⟨w.heap.size, 0, none⟩), .pointer (some ⟨w.heap.size + 1, 0, none⟩), .pointer (some ⟨w.heap.size + 1 + 1, 0, none⟩)]) (by simp) (by simp [go_sem]) ?_
  have hbool : (w1.setCell ⟨w.heap.size + 1 + 1, 0, none⟩ (.bool true)).heap[w.heap.size + 1 + 1]? = some (.cells #[.bool true] 4 (0, 0)) := one_setCell HB.out.2.2
  have herr : (w1.setCell ⟨w.heap.size + 1 + 1, 0, none⟩ (.bool true)).heap[w.heap.size + 1]? = some (.cells #[.nilIface] 28 (0, 0)) := (heap_setCell_other (by omega)).trans HB.out.2.1
  have hx := heap_alloc_past (o := .cells #[.string wh, .iface t v, .nilIface] 107) (one_setCell (u := .iface 102 (.pointer (some ⟨w1.heap.size, 0, none⟩))) herr)
  refine (run1_back _ _ _ _ (heap_alloc_past ((heap_setCell_other (by omega)).trans hbool))).mono ?_
  rintro e u' w2 ⟨rfl, rfl, hc⟩
  have e2 := cell_of_one (hc.heap hx (by simp))
  refine ⟨.iface 102 (.pointer (some ⟨w1.heap.size, 0, none⟩)), by simp [results, Tryd.results55, go_sem, e2], w1, w1.heap.size, HQ.out, ?_, Nat.le_refl _, ?_, rfl⟩
  · exact ((((Ch.refl _ w1).setCell (by simp) _).setCell (by simp) _).alloc _).trans' hc (by simp)
  · refine hc.heap ?_ (by simp)
    simpa using heap_alloc_same ((w1.setCell ⟨w.heap.size + 1 + 1, 0, none⟩ (.bool true)).setCell ⟨w.heap.size + 1, 0, none⟩ (.iface 102 (.pointer (some ⟨w1.heap.size, 0, none⟩)))) (.cells #[.string wh, .iface t v, .nilIface] 107)

set_option maxRecDepth 100000 in
set_option maxHeartbeats 1000000 in
theorem run_panic (wh : ByteArray) (fi : FuncId) (cap : Array Value) (t : TypeId) (v : Value) (w : World) (S : List Nat) (Q : World → Prop) (hS : ∀ x, x ∈ S → x < w.heap.size) (hent : ∀ W, (callFunc fi cap).run Tryd.prog W = .ok (.enter fi cap) W)
    (hna : ∀ w, (Instr.typeAssert (.iface t v) 20 144 true).run Tryd.prog w = .ok (.tuple #[.agg #[], .bool false]) w)
    (hf : Calls Tryd.prog fi cap (runWorld wh w) fun e w1 => e = .panicked [{ v := .iface t v, recovered := false }] ∧ Q w1 ∧ Ch S (runWorld wh w) w1) :
    Calls Tryd.prog 55 #[.string wh, .func (.func fi) #[] cap] w fun e w' => RunFault w Q wh .nilIface (.iface t v) e w' := by
  obtain ⟨b1, b2, b3⟩ := runWorld_facts wh w
  have HF := Lib.hid hf
  have HS := Lib.hid hS
  clear hf b1 b2 b3 hS
  go_enter_defers Tryd.func55, Tryd.ntmps55
  go_wp2_with (refine HF.out.mono ?_)
  rintro e w1 ⟨rfl, hq, hch⟩
  obtain ⟨b1, b2, b3⟩ := runWorld_kept HS.out hch
  have c2 := cell_of_one b2
  have f2 := free_of_one b2
  have c3 := cell_of_one b3
  have f3 := free_of_one b3
  have c1 := cell_of_one b1
  have z1 := lt_of_block b1
  have z2 := lt_of_block b2
  have z3 := lt_of_block b3
  have HB := Lib.hid (And.intro b1 (And.intro b2 b3))
  have HQ := Lib.hid hq
  have HC := Lib.hid hch
  clear b1 b2 b3 hq hch HF
  go_wp2
  refine leaves_cons (f := 87) (args := #[.pointer (some ⟨w.heap.size, 0, none⟩), .pointer (some ⟨w.heap.size + 1, 0, none⟩), .pointer (some ⟨w.heap.size + 1 + 1, 0, none⟩)]) (by simp) (by simp [go_sem]) ?_
  refine (run1_panic _ _ _ wh t v _ _ HB.out.2.2 HB.out.1 HB.out.2.1 hna).mono ?_
  rintro e u' w2 ⟨rfl, rfl, fb, hfb, hF, hx, hc⟩
  have e2 := cell_of_one hx
  simp [Leaves, settle, results, Tryd.results55, go_sem, e2]
  exact ⟨w1, fb, HQ.out, hc.mono (by simp), hfb, hF, rfl⟩

set_option maxRecDepth 100000 in
set_option maxHeartbeats 1000000 in
theorem run_none (wh : ByteArray) (w : World) :
    Calls Tryd.prog 55 #[.string wh, .nilFunc] w fun e w' => RunFault w (fun w1 => w1 = runWorld wh w) wh (.iface 31 (.int .i64 50)) .nilIface e w' := by
  go_enter_defers Tryd.func55, Tryd.ntmps55
  have HB := Lib.hid (runWorld_facts wh w)
  go_wp2
  refine leaves_cons (f := 87) (args := #[.pointer (some ⟨w.heap.size, 0, none⟩), .pointer (some ⟨w.heap.size + 1, 0, none⟩), .pointer (some ⟨w.heap.size + 1 + 1, 0, none⟩)]) (by simp) (by simp [go_sem]) ?_
  refine (run1_none _ _ _ wh _ _ HB.out.1 HB.out.2.1).mono ?_
  rintro e u' w2 ⟨rfl, rfl, fb, hfb, hF, hx, hc⟩
  have e2 := cell_of_one hx
  simp [Leaves, settle, results, Tryd.results55, go_sem, e2]
  exact ⟨_, fb, rfl, hc.mono (by simp), hfb, hF, rfl⟩
end Go.Proofs.YtiekahnpnaldjaaDoor
