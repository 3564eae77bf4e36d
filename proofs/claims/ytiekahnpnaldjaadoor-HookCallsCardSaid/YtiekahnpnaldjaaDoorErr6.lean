/-
  What the statements' helps tell of a Fault: its class, where it was told.
-/
import Derived.Test.YtiekahnpnaldjaaDoorErr5
namespace Go.Proofs.YtiekahnpnaldjaaDoor
open Go.RowKit Go.Extern.Stop Go.Stop Go.Extern

/-- A Fault in memory that the statements' helps tell of. -/
structure Faulty (w : World) (fb : Nat) (wh : ByteArray) (e p : Value) : Prop where
  blk : FaultAt w fb wh e p
  twice : Told 99 e p
theorem Faulty.ch {w w' : World} {fb : Nat} {wh : ByteArray} {e p : Value} (h : Faulty w fb wh e p) (hc : Ch [] w w') : Faulty w' fb wh e p := ⟨hc.heap h.blk (by simp), h.twice⟩
theorem Faulty.lt {w : World} {fb : Nat} {wh : ByteArray} {e p : Value} (h : Faulty w fb wh e p) : fb < w.heap.size := lt_of_block h.blk
theorem Faulty.told {w : World} {fb : Nat} {wh : ByteArray} {e p : Value} (h : Faulty w fb wh e p) (tb : Nat) (hg : Glob w) :
    Calls Tryd.prog 54 #[faultVal fb, .iface 101 (.pointer (some ⟨tb, 0, none⟩))] w fun e w' => e = .returned (.bool false) ∧ Ch [] w w' :=
  As_fault c_twice d_fault_twice (misses_leaf d_errno_twice l_errno _) e p h.twice fb wh tb w h.blk hg

set_option maxRecDepth 100000 in
set_option maxHeartbeats 2000000 in
theorem class_fault (fb : Nat) (wh : ByteArray) (e p : Value) (w : World) (h : Faulty w fb wh e p) (hg : Glob w) :
    Calls Tryd.prog 18 #[faultVal fb] w fun e w' => e = .returned (.int .i64 50) ∧ Ch [] w w' := by
  have g1 := Lib.hid (hg.alloc (.cells #[.pointer none] 99))
  have H0 := Lib.hid (((h.ch ((Ch.refl _ w).alloc (.cells #[.pointer none] 99)))).told w.heap.size g1.out)
  have HG := Lib.hid hg
  clear hg
  unfold faultVal at *
  go_enter Tryd.func18, Tryd.ntmps18
  go_wp2_with fail
  refine H0.out.mono ?_
  rintro e w1 ⟨rfl, hc1⟩
  have g2 := Lib.hid (((HG.out.alloc (.cells #[.pointer none] 99)).ch hc1 (by simp)).alloc (.cells #[.pointer none] 102))
  have H1 := Lib.hid (As_hit c_fault (.pointer (some ⟨fb, 0, none⟩)) w1.heap.size (.pointer none) _ rfl rfl (heap_alloc_same _ _) g2.out)
  have C1 := Lib.hid hc1
  clear hc1
  go_wp2_with fail
  refine H1.out.mono ?_
  rintro e w2 ⟨rfl, hb, hc2⟩
  have k := cell_of_one hb
  have C2 := Lib.hid hc2
  clear hc2 hb
  go_wp2
  go_ret
  exact ⟨rfl, ((((Ch.refl _ w).alloc _).trans C1.out).alloc _).trans' C2.out (by have := C1.out.size; simp at this; simp; omega)⟩

set_option maxRecDepth 100000 in
set_option maxHeartbeats 2000000 in
theorem where_fault (fb : Nat) (wh : ByteArray) (e p : Value) (w : World) (h : Faulty w fb wh e p) (hg : Glob w) :
    Calls Tryd.prog 27 #[faultVal fb] w fun e w' => e = .returned (.string wh) ∧ Ch [] w w' := by
  have g1 := Lib.hid (hg.alloc (.cells #[.pointer none] 99))
  have H0 := Lib.hid (((h.ch ((Ch.refl _ w).alloc (.cells #[.pointer none] 99)))).told w.heap.size g1.out)
  have HG := Lib.hid hg
  have HF := Lib.hid h
  clear hg h
  unfold faultVal at *
  go_enter Tryd.func27, Tryd.ntmps27
  go_wp2_with fail
  refine H0.out.mono ?_
  rintro e w1 ⟨rfl, hc1⟩
  have g2 := Lib.hid (((HG.out.alloc (.cells #[.pointer none] 99)).ch hc1 (by simp)).alloc (.cells #[.pointer none] 102))
  have H1 := Lib.hid (As_hit c_fault (.pointer (some ⟨fb, 0, none⟩)) w1.heap.size (.pointer none) _ rfl rfl (heap_alloc_same _ _) g2.out)
  have C1 := Lib.hid hc1
  have F1 := Lib.hid ((HF.out.ch ((Ch.refl _ w).alloc (.cells #[.pointer none] 99))).ch hc1)
  clear hc1
  go_wp2_with fail
  refine H1.out.mono ?_
  rintro e w2 ⟨rfl, hb, hc2⟩
  have k := cell_of_one hb
  have F2 := hc2.heap (heap_alloc_past F1.out.blk) (by simp; exact Nat.ne_of_lt F1.out.lt)
  have k0 := (cell_of (i := 0) F2).trans rfl
  have C2 := Lib.hid hc2
  clear hc2 hb F2
  go_wp2
  go_ret
  exact ⟨rfl, ((((Ch.refl _ w).alloc _).trans C1.out).alloc _).trans' C2.out (by have := C1.out.size; simp at this; simp; omega)⟩

set_option maxRecDepth 100000 in
set_option maxHeartbeats 2000000 in
/-- A Fault that was panicked with an int. -/
theorem struck_int (fb : Nat) (wh : ByteArray) (n : Int) (w : World) (h : FaultAt w fb wh .nilIface (.iface 3 (.int .i64 n))) (hg : Glob w) :
    Calls Tryd.prog 44 #[faultVal fb] w fun e w' => e = .returned (.int .i64 n) ∧ Ch [] w w' := by
  have g1 := Lib.hid (hg.alloc (.cells #[.pointer none] 102))
  have H0 := Lib.hid (As_hit c_fault (.pointer (some ⟨fb, 0, none⟩)) w.heap.size (.pointer none) _ rfl rfl (heap_alloc_same _ _) g1.out)
  have a1 : ∀ w, (Instr.typeAssert (.iface 3 (.int .i64 n)) 20 124 true).run Tryd.prog w = .ok (.tuple #[.pointer none, .bool false]) w := fun w => by kernel_rfl
  have a2 : ∀ w, (Instr.typeAssert (.iface 3 (.int .i64 n)) 20 3 true).run Tryd.prog w = .ok (.tuple #[.int .i64 n, .bool true]) w := fun w => by kernel_rfl
  have HF := Lib.hid h
  clear hg h g1
  unfold faultVal at *
  go_enter Tryd.func44, Tryd.ntmps44
  go_wp2_with fail
  refine H0.out.mono ?_
  rintro e w2 ⟨rfl, hb, hc2⟩
  have k := cell_of_one hb
  have F2 := hc2.heap (heap_alloc_past HF.out) (by simp; exact Nat.ne_of_lt (lt_of_block HF.out))
  have k1 := (cell_of (i := 1) F2).trans rfl
  have k2 := (cell_of (i := 2) F2).trans rfl
  have z0 := lt_of_block F2
  have z1 := lt_of_block hb
  have C2 := Lib.hid hc2
  clear hc2 hb F2
  go_wp2
  go_ret
  exact ⟨rfl, ((((Ch.refl _ w).alloc _).trans' C2.out (by simp))).alloc _⟩
end Go.Proofs.YtiekahnpnaldjaaDoor
