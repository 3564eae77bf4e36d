/-
  The statement's function 'does': Do's error, or what it panicked with.
-/
import Derived.Test.YtiekahnpnaldjaaDoorUndo4
namespace Go.Proofs.YtiekahnpnaldjaaDoor
open Go.RowKit

theorem assert_int (v : Value) (w : World) : (Instr.typeAssert (.iface 3 v) 20 3 true).run Tryd.prog w = .ok (.tuple #[v, .bool true]) w := by kernel_rfl
theorem assert_nil (w : World) : (Instr.typeAssert .nilIface 20 3 true).run Tryd.prog w = .ok (.tuple #[.int .i64 0, .bool false]) w := by kernel_rfl

theorem does1_idle (rb : Nat) (w : World) :
    CallsD Tryd.prog 52 #[.pointer (some ⟨rb, 0, none⟩)] .returning w fun e u' w' => u' = .returning ∧ (e = .returned (.tuple #[]) ∧ w = w') := by
  refine callsD_of_wpS Tryd.func52 rfl fun c₀ cs hu => ?_
  simp only [Tryd.ntmps52, List.size_toArray, List.length_cons, List.length_nil, Nat.reduceAdd, Nat.reduceSub, Array.replicate_succ,
     Array.replicate_zero, List.push_toArray, List.append_toArray, List.nil_append, List.cons_append]
  refine wpS_seq (wpS_region ?_)
  simp [wpOpsS, go_sem, recoverD, hu, Exit.thenS, assert_nil]
  refine wpS_of_wp ?_
  go_wp2
  refine ⟨rfl, .returning, by cases c₀; simp_all, _, results_none rfl _ _ _, rfl, rfl, rfl⟩

theorem does1_catch (rb : Nat) (n : Int) (old : Value) (more : List PanicEntry) (w : World) (hr : w.heap[rb]? = some (.cells #[old] 3 (0, 0))) :
    CallsD Tryd.prog 52 #[.pointer (some ⟨rb, 0, none⟩)] (.panicking ({ v := .iface 3 (.int .i64 n), recovered := false } :: more)) w fun e u' w' =>
      u' = .panicking ({ v := .iface 3 (.int .i64 n), recovered := true } :: more) ∧ (e = .returned (.tuple #[]) ∧ w.setCell ⟨rb, 0, none⟩ (.int .i64 n) = w') := by
  have c1 := cell_of_one hr
  have f1 := free_of_one hr
  refine callsD_of_wpS Tryd.func52 rfl fun c₀ cs hu => ?_
  simp only [Tryd.ntmps52, List.size_toArray, List.length_cons, List.length_nil, Nat.reduceAdd, Nat.reduceSub, Array.replicate_succ,
     Array.replicate_zero, List.push_toArray, List.append_toArray, List.nil_append, List.cons_append]
  refine wpS_seq (wpS_region ?_)
  simp [wpOpsS, go_sem, recoverD, hu, Exit.thenS, assert_int]
  refine wpS_of_wp ?_
  go_wp2
  refine ⟨rfl, .panicking ({ v := .iface 3 (.int .i64 n), recovered := true } :: more), rfl, _, results_none rfl _ _ _, rfl, rfl, rfl⟩

/-- Behind 'does': either all was kept, or all was undone. -/
def Did (D : Nat) (w : World) (lb gb b : Nat) (how : Int) (fs : List Value) (e : Ending) (w' : World) : Prop :=
  (within how = .returned .nilIface ∧ e = .returned (.tuple #[.nilIface, .int .i64 0]) ∧ Kept D w lb gb b fs w') ∨
  (within how = .returned (.iface 31 (.int .i64 70)) ∧ e = .returned (.tuple #[.iface 31 (.int .i64 70), .int .i64 0]) ∧ Undone D w lb gb b fs w') ∨
  (within how = .panicked [{ v := .iface 3 (.int .i64 how), recovered := false }] ∧ e = .returned (.tuple #[.nilIface, .int .i64 how]) ∧ Undone D w lb gb b fs w')

theorem Kept.drop {D : Nat} {w w' : World} {lb gb b : Nat} {fs : List Value} {o : Obj} (hD : D ≤ w.heap.size) (h : Kept D (w.alloc o) lb gb b fs w') : Kept D w lb gb b fs w' :=
  ⟨h.1, h.2.1, ((Fr.refl D _ w).alloc hD _).trans h.2.2⟩
theorem Undone.drop {D : Nat} {w w' : World} {lb gb b : Nat} {fs : List Value} {o : Obj} (hD : D ≤ w.heap.size) (h : Undone D (w.alloc o) lb gb b fs w') : Undone D w lb gb b fs w' :=
  ⟨h.1, h.2.1, ((Fr.refl D _ w).alloc hD _).trans h.2.2⟩
/-- A store into a new box keeps it so. -/
theorem Undone.set {D : Nat} {w w' : World} {lb gb b : Nat} {fs : List Value} {o : Obj} {old v : Value} (hD : D ≤ w.heap.size) (h : Undone D (w.alloc o) lb gb b fs w') (hb : w'.heap[w.heap.size]? = some (.cells #[old] 3 (0, 0))) :
    Undone D w lb gb b fs (w'.setCell ⟨w.heap.size, 0, none⟩ v) := by
  obtain ⟨⟨D2, gv, h1⟩, ⟨sv, h2⟩, h3⟩ := h
  refine ⟨⟨D2, gv, (heap_setCell_other (ne_of_elem h1.blk hb (by decide))).trans h1.blk, ownsRow_setCell_other h1.own (own_ne h1.own hb (by decide)) _⟩,
    ⟨sv, (heap_setCell_other (ne_of_elem h2.blk hb (by decide))).trans h2.blk, ownsRow_setCell_other h2.own (own_ne h2.own hb (by decide)) _⟩, ?_⟩
  have h4 := ((Fr.refl D backKinds w).alloc hD o).trans h3
  refine ⟨h4.os, h4.tape, h4.output, by simpa using h4.size, fun k hk => ?_, fun k p hk hn => ?_⟩
  · rw [heap_setCell_other (by omega)]; exact h4.below k hk
  · rw [heap_setCell_other (by have := lt_of_block hk; omega)]; exact h4.kept k p hk hn

theorem within_three (how : Int) : within how = .returned .nilIface ∨ within how = .returned (.iface 31 (.int .i64 70)) ∨ within how = .panicked [{ v := .iface 3 (.int .i64 how), recovered := false }] := by
  unfold within; split
  · exact .inr (.inl rfl)
  · split
    · exact .inr (.inr rfl)
    · exact .inl rfl

set_option maxRecDepth 100000 in
set_option maxHeartbeats 1000000 in
theorem does_any (D : Nat) (w : World) (bb lbx gb hb lb b : Nat) (how : Int) (sv : Value) (fs : List Value) (h : Ready D w bb lbx gb hb lb b how sv fs) :
    Calls Tryd.prog 14 #[.pointer (some ⟨lb, 0, none⟩), withinFn bb lbx gb hb] w fun e w' => Did D w lb gb b how fs e w' := by
  have hR := Lib.hid (h.alloc (.cells #[.int .i64 0] 3))
  have HD := Lib.hid h.D
  rcases within_three how with hw | hw | hw
  · have HW := Lib.hid hw
    clear h
    have HC := Lib.hid (do_well D _ bb lbx gb hb lb b how sv fs hR.out hw)
    clear hw
    unfold withinFn at HC ⊢
    go_enter_defers Tryd.func14, Tryd.ntmps14
    go_wp2_with (go_at_call 53; refine HC.out.mono ?_)
    rintro e w1 ⟨rfl, hk⟩
    have hb := hk.2.2.heap (heap_alloc_same w (.cells #[.int .i64 0] 3)) (by simp [logKinds])
    have c1 := cell_of_one hb
    have f1 := free_of_one hb
    have HB := Lib.hid hb
    have HK := Lib.hid hk
    clear hb hk HC
    go_wp2
    rw [setCell_id HB.out]
    refine leaves_cons (f := 52) (args := #[.pointer (some ⟨w.heap.size, 0, none⟩)]) (by simp) (by simp [go_sem]) ?_
    refine (does1_idle _ _).mono ?_
    rintro e u' w'' ⟨rfl, rfl, rfl⟩
    refine ⟨.tuple #[.nilIface, .int .i64 0], by simp [results, Tryd.results14, go_sem, c1], .inl ⟨HW.out, rfl, HK.out.drop HD.out⟩⟩
  · have HW := Lib.hid hw
    clear h
    have HC := Lib.hid (do_err D _ bb lbx gb hb lb b how sv fs _ _ hR.out hw)
    clear hw
    unfold withinFn at HC ⊢
    go_enter_defers Tryd.func14, Tryd.ntmps14
    go_wp2_with (go_at_call 53; refine HC.out.mono ?_)
    rintro e w1 ⟨rfl, hk⟩
    have hb := hk.2.2.heap (heap_alloc_same w (.cells #[.int .i64 0] 3)) (by simp [backKinds, logKinds])
    have c1 := cell_of_one hb
    have f1 := free_of_one hb
    have HB := Lib.hid hb
    have HK := Lib.hid hk
    clear hb hk HC
    go_wp2
    rw [setCell_id HB.out]
    refine leaves_cons (f := 52) (args := #[.pointer (some ⟨w.heap.size, 0, none⟩)]) (by simp) (by simp [go_sem]) ?_
    refine (does1_idle _ _).mono ?_
    rintro e u' w'' ⟨rfl, rfl, rfl⟩
    refine ⟨.tuple #[.iface 31 (.int .i64 70), .int .i64 0], by simp [results, Tryd.results14, go_sem, c1], .inr (.inl ⟨HW.out, rfl, HK.out.drop HD.out⟩)⟩
  · have HW := Lib.hid hw
    clear h
    have HC := Lib.hid (do_panic D _ bb lbx gb hb lb b how sv fs _ _ hR.out hw)
    clear hw
    unfold withinFn at HC ⊢
    go_enter_defers Tryd.func14, Tryd.ntmps14
    go_wp2_with (go_at_call 53; refine HC.out.mono ?_)
    rintro e w1 ⟨rfl, hk⟩
    have hb := hk.2.2.heap (heap_alloc_same w (.cells #[.int .i64 0] 3)) (by simp [backKinds, logKinds])
    have HB := Lib.hid hb
    have HK := Lib.hid hk
    clear hb hk HC
    go_wp2
    refine leaves_cons (f := 52) (args := #[.pointer (some ⟨w.heap.size, 0, none⟩)]) (by simp) (by simp [go_sem]) ?_
    refine (does1_catch _ how _ _ _ HB.out).mono ?_
    rintro e u' w'' ⟨rfl, rfl, rfl⟩
    have c1 := cell_of_one (one_setCell (u := .int .i64 how) HB.out)
    simp [Leaves, settle, results, Tryd.results14, go_sem, c1]
    exact .inr (.inr ⟨HW.out, rfl, HK.out.set HD.out HB.out⟩)
end Go.Proofs.YtiekahnpnaldjaaDoor
