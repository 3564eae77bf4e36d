/-
  What Run leaves; the sample that the law of hooks holds Run against.
-/
import Derived.Test.YtiekahnpnaldjaaDoorErr6
import Derived.Test.YtiekahnpnaldjaaDoorVal4
namespace Go.Proofs.YtiekahnpnaldjaaDoor
open Go.RowKit

theorem runWorld_ch (wh : ByteArray) (w : World) : Ch [] w (runWorld wh w) := (((Ch.refl _ w).alloc _).alloc _).alloc _
theorem RunFault.out {w : World} {Q : World → Prop} {wh : ByteArray} {e p : Value} {r : Ending} {w' : World} {S : List Nat} (h : RunFault w Q wh e p r w') (hQ : ∀ w1, Q w1 → Ch S (runWorld wh w) w1) :
    ∃ fb, r = .returned (faultVal fb) ∧ FaultAt w' fb wh e p ∧ Ch S w w' ∧ w.heap.size ≤ fb := by
  obtain ⟨w1, fb, hq, hc, hfb, hF, rfl⟩ := h
  have h1 := ((runWorld_ch wh w).mono (S' := S) (by simp)).trans (hQ w1 hq)
  have := h1.size
  exact ⟨fb, rfl, hF, h1.trans' hc (by intro x hx; simp at hx; right; omega), by omega⟩
theorem RunLeft.out {w : World} {Q : World → Prop} {w' : World} (h : RunLeft w Q w') {wh : ByteArray} {S : List Nat} (hQ : ∀ w1, Q w1 → Ch S (runWorld wh w) w1) :
    ∃ w1, Q w1 ∧ Ch S w w' ∧ Ch [w.heap.size + 1, w.heap.size + 1 + 1] w1 w' := by
  obtain ⟨w1, hq, hc⟩ := h
  have h1 := ((runWorld_ch wh w).mono (S' := S) (by simp)).trans (hQ w1 hq)
  exact ⟨w1, hq, h1.trans' hc (by intro x hx; simp at hx; right; omega), hc⟩

theorem known1_any (w : World) : Calls Tryd.prog 56 #[] w fun e w' => e = .panicked [{ v := .iface 3 (.int .i64 5), recovered := false }] ∧ Ch [] w w' ∧ Ch [] w w' := by
  go_enter Tryd.func56, Tryd.ntmps56
  go_wp2
  trace_state
  exact ⟨rfl, rfl, Ch.refl _ _, Ch.refl _ _⟩
theorem known2_any (w : World) : Calls Tryd.prog 57 #[] w fun e w' => e = .returned .nilIface ∧ Ch [] w w' ∧ Ch [] w w' := by
  go_enter Tryd.func57, Tryd.ntmps57
  go_wp2
  go_ret
  exact ⟨rfl, Ch.refl _ _, Ch.refl _ _⟩

theorem run_known1 (w : World) : Calls Tryd.prog 55 #[.string ⟨#[105]⟩, .func (.func 56) #[] #[]] w fun e w' => ∃ fb, e = .returned (faultVal fb) ∧ FaultAt w' fb ⟨#[105]⟩ .nilIface (.iface 3 (.int .i64 5)) ∧ Ch [] w w' ∧ w.heap.size ≤ fb :=
  (run_panic _ _ _ _ _ w [] (Ch [] (runWorld ⟨#[105]⟩ w)) (by simp) (fun _ => by kernel_rfl) (fun _ => by kernel_rfl) (known1_any _)).mono fun _ _ h => h.out fun _ h => h
theorem run_known2 (w : World) : Calls Tryd.prog 55 #[.string ⟨#[105]⟩, .func (.func 57) #[] #[]] w fun e w' => e = .returned .nilIface ∧ Ch [] w w' :=
  (run_nil _ _ _ w [] (Ch [] (runWorld ⟨#[105]⟩ w)) (by simp) (fun _ => by kernel_rfl) (known2_any _)).mono fun _ _ h => ⟨h.1, by obtain ⟨_, _, h2, _⟩ := h.2.out (wh := ⟨#[105]⟩) (S := []) (fun _ h => h); exact h2⟩
theorem run_nobody (wh : ByteArray) (w : World) : Calls Tryd.prog 55 #[.string wh, .nilFunc] w fun e w' => ∃ fb, e = .returned (faultVal fb) ∧ FaultAt w' fb wh (.iface 31 (.int .i64 50)) .nilIface ∧ Ch [] w w' ∧ w.heap.size ≤ fb :=
  (run_none wh w).mono fun _ _ h => h.out fun _ h => h ▸ Ch.refl _ _

set_option maxRecDepth 100000 in
set_option maxHeartbeats 2000000 in
/-- rialtolaw6.known. -/
theorem known6_any (w : World) (hg : Glob w) : Calls Tryd.prog 19 #[] w fun e w' => e = .returned (.bool true) ∧ Ch [] w w' := by
  have HG := Lib.hid hg
  clear hg
  go_enter Tryd.func19, Tryd.ntmps19
  go_wp2_with (go_at_call 55; refine (run_known1 _).mono ?_)
  rintro e w1 ⟨fb, rfl, hF, hc, -⟩
  have C1 := Lib.hid hc
  have F1 := Lib.hid (show Faulty w1 fb _ _ _ from ⟨hF, .panic _ (noError_int 5)⟩)
  have G1 := Lib.hid (HG.out.ch hc (by simp))
  clear hc hF
  go_wp2_with (go_at_call 18; refine (class_fault fb _ _ _ _ F1.out G1.out).mono ?_)
  rintro e w2 ⟨rfl, hc⟩
  have C2 := Lib.hid hc
  have F2 := Lib.hid (F1.out.ch hc)
  have G2 := Lib.hid (G1.out.ch hc (by simp))
  clear hc
  go_wp2_with (go_at_call 27; refine (where_fault fb _ _ _ _ F2.out G2.out).mono ?_)
  rintro e w3 ⟨rfl, hc⟩
  have C3 := Lib.hid hc
  have F3 := Lib.hid (F2.out.ch hc)
  have G3 := Lib.hid (G2.out.ch hc (by simp))
  clear hc
  go_wp2_with (go_at_call 44; refine (struck_int fb _ 5 _ F3.out.blk G3.out).mono ?_)
  rintro e w4 ⟨rfl, hc⟩
  have C4 := Lib.hid hc
  have G4 := Lib.hid (G3.out.ch hc (by simp))
  clear hc
  go_wp2_with (go_at_call 55; refine (run_known2 _).mono ?_)
  rintro e w5 ⟨rfl, hc⟩
  have C5 := Lib.hid hc
  have G5 := Lib.hid (G4.out.ch hc (by simp))
  clear hc
  go_wp2_with (go_at_call 55; refine (run_nobody _ _).mono ?_)
  rintro e w6 ⟨fb2, rfl, hF, hc, -⟩
  have C6 := Lib.hid hc
  have F6 := Lib.hid (show Faulty w6 fb2 _ _ _ from ⟨hF, .err _ _ _ (misses_leaf d_errno_twice l_errno _)⟩)
  have G6 := Lib.hid (G5.out.ch hc (by simp))
  clear hc hF
  go_wp2_with (go_at_call 18; refine (class_fault fb2 _ _ _ _ F6.out G6.out).mono ?_)
  rintro e w7 ⟨rfl, hc⟩
  have C7 := Lib.hid hc
  clear hc
  go_wp2
  go_ret
  exact ⟨rfl, (((((C1.out.trans C2.out).trans C3.out).trans C4.out).trans C5.out).trans C6.out).trans C7.out⟩
end Go.Proofs.YtiekahnpnaldjaaDoor
