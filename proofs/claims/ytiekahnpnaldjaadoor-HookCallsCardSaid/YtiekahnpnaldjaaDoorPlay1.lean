/-
  The statements' own user code: the meter.
-/
import Derived.Test.YtiekahnpnaldjaaDoorHook3
import Derived.BigQuiet
namespace Go.Proofs.YtiekahnpnaldjaaDoor
open Go.RowKit

/-- A meter: how often it was asked, when it strikes, a number, how often it struck. -/
def MeterAt (w : World) (mb : Nat) (c a h s : Int) : Prop := w.heap[mb]? = some (.cells #[.int .i64 c, .int .i64 a, .int .i64 h, .int .i64 s] 57 (0, 0))
def MarkAt (w : World) (kb : Nat) (n : Int) : Prop := w.heap[kb]? = some (.cells #[.int .i64 n] 127 (0, 0))
def markVal (kb : Nat) : Value := .iface 124 (.pointer (some ⟨kb, 0, none⟩))
abbrev meterPtr (mb : Nat) : Value := .pointer (some ⟨mb, 0, none⟩)

theorem heap_drewN_of {w : World} {b n : Nat} {o : Option Obj} (h : w.heap[b]? = o) : (w.drewN n).heap[b]? = o := h
theorem tick_nil (w : World) : Calls Tryd.prog 78 #[.pointer none] w fun e w' => e = .returned .nilIface ∧ w = w' := by
  go_enter Tryd.func78, Tryd.ntmps78
  go_wp2
  go_ret
  exact ⟨rfl, rfl⟩

theorem mark_any (mb : Nat) (c a h s : Int) (w : World) (hm : MeterAt w mb c a h s) (a0 : 0 ≤ a) (a1 : a ≤ 9) : Calls Tryd.prog 45 #[meterPtr mb] w fun e w' => e = .returned (.int .i64 (1000 + a)) ∧ w = w' := by
  have k1 := (cell_of (i := 1) hm).trans rfl
  have z := lt_of_block hm
  clear hm
  go_enter Tryd.func45, Tryd.ntmps45
  go_wp2
  go_ret
  exact ⟨rfl, rfl⟩

set_option maxRecDepth 100000 in
/-- The meter is set. -/
theorem set_any (mb : Nat) (c a h s n how : Int) (w : World) (hm : MeterAt w mb c a h s) (n0 : 0 ≤ n) :
    Calls Tryd.prog 31 #[meterPtr mb, .int .i64 n, .int .i64 how] w fun e w' => e = .returned (.tuple #[]) ∧ (∃ h', MeterAt w' mb 0 n h' 0) ∧ Ch [mb] w w' := by
  have k0 := (cell_of (i := 0) hm).trans rfl
  have k1 := (cell_of (i := 1) hm).trans rfl
  have k2 := (cell_of (i := 2) hm).trans rfl
  have k3 := (cell_of (i := 3) hm).trans rfl
  have f0 := free_of (i := 0) hm
  have f1 := free_of (i := 1) hm
  have f2 := free_of (i := 2) hm
  have f3 := free_of (i := 3) hm
  have z := lt_of_block hm
  have HM := Lib.hid hm
  have e1 : (if n < 0 then (0 : Int) else n) = n := by rw [if_neg (by omega)]
  have e2 : max n 0 = n := by omega
  clear hm
  go_enter Tryd.func31, Tryd.ntmps31
  go_wp2
  go_end0
  refine ⟨rfl, ⟨_, heap_setCell_same (heap_setCell_same (heap_setCell_same (heap_setCell_same HM.out)))⟩, ((((Ch.refl _ w).setCell (by simp) _).setCell (by simp) _).setCell (by simp) _).setCell (by simp) _⟩

/-- What a tick does. -/
def Ticked (w : World) (mb : Nat) (c a h s : Int) (e : Ending) (w' : World) : Prop :=
  Ch [mb] w w' ∧ ((c + 1 ≠ a ∧ e = .returned .nilIface ∧ MeterAt w' mb (c + 1) a h s) ∨ (c + 1 = a ∧ ∃ kb, e = .returned (markVal kb) ∧ w.heap.size ≤ kb ∧ MarkAt w' kb (1000 + a) ∧ MeterAt w' mb (c + 1) a h (s + 1)))

set_option maxRecDepth 100000 in
set_option maxHeartbeats 1000000 in
theorem tick_any (mb : Nat) (c a h s : Int) (w : World) (hm : MeterAt w mb c a h s) (c0 : 0 ≤ c) (c1 : c ≤ 1000) (a0 : 0 ≤ a) (a1 : a ≤ 9) (s0 : 0 ≤ s) (s1 : s ≤ 1000) :
    Calls Tryd.prog 78 #[meterPtr mb] w fun e w' => Ticked w mb c a h s e w' := by
  have k0 := (cell_of (i := 0) hm).trans rfl
  have k1 := (cell_of (i := 1) hm).trans rfl
  have k3 := (cell_of (i := 3) hm).trans rfl
  have f0 := free_of (i := 0) hm
  have f3 := free_of (i := 3) hm
  have z := lt_of_block hm
  have HM := Lib.hid hm
  clear hm
  by_cases h0 : a = 0
  · subst h0
    have hn := Lib.hid (show c + 1 ≠ 0 by omega)
    go_enter Tryd.func78, Tryd.ntmps78
    go_wp2_with fail
    go_quiet (fail)
    go_wp2
    go_ret
    exact ⟨((Ch.refl _ w).setCell (by simp) _).drewN _, .inl ⟨hn.out, rfl, heap_setCell_same HM.out⟩⟩
  have t0 : (a == 0) = false := by rw [beq_eq_false_iff_ne]; exact h0
  by_cases h1 : c + 1 = a
  · subst h1
    have t1 : (c + 1 != c + 1) = false := by simp
    have HK := Lib.hid (fun (W : World) (hW : MeterAt W mb (c + 1) (c + 1) h (s + 1)) => mark_any mb (c + 1) (c + 1) h (s + 1) W hW a0 a1)
    go_enter Tryd.func78, Tryd.ntmps78
    go_wp2_with fail
    go_quiet (fail)
    go_wp2_with (go_at_call 45; refine (HK.out _ ?_).mono ?_)
    · exact heap_setCell_same (heap_drewN_of (heap_setCell_same HM.out))
    rintro e w1 ⟨rfl, rfl⟩
    go_wp2
    go_ret
    refine ⟨((((Ch.refl _ w).setCell (by simp) _).drewN _).setCell (by simp) _).alloc _, .inr ⟨rfl, w.heap.size, rfl, Nat.le_refl _, ?_, heap_alloc_past (heap_setCell_same (heap_drewN_of (heap_setCell_same HM.out)))⟩⟩
    simpa [MarkAt] using heap_alloc_same (((w.setCell ⟨mb, 0, none⟩ (.int .i64 (c + 1))).drewN nq).setCell ⟨mb, 3, none⟩ (.int .i64 (s + 1))) (.cells #[.int .i64 (1000 + (c + 1))] 127)
  · have t1 : (c + 1 != a) = true := by simpa using h1
    have hn := Lib.hid h1
    go_enter Tryd.func78, Tryd.ntmps78
    go_wp2_with fail
    go_quiet (fail)
    go_wp2
    go_ret
    exact ⟨((Ch.refl _ w).setCell (by simp) _).drewN _, .inl ⟨hn.out, rfl, heap_setCell_same HM.out⟩⟩
end Go.Proofs.YtiekahnpnaldjaaDoor
