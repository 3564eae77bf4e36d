/-
  errors.As of errors without an Unwrap; the class of an Errno.
-/
import Derived.Test.YtiekahnpnaldjaaDoorErr3
namespace Go.Proofs.YtiekahnpnaldjaaDoor
open Go.RowKit Go.Extern.Stop Go.Stop Go.Extern

/-- The variable errors.errorType holds what the program's text lays there. -/
def Glob (w : World) : Prop := w.cell? ⟨0, 0, none⟩ = some (.iface 155 (rty 28))
theorem Glob.lt {w : World} (h : Glob w) : 0 < w.heap.size := World.block_lt_of_cell? _ _ h
theorem Glob.below {w w' : World} (h : Glob w) {B : Nat} (hb : Below B w w') (hB : 0 < B) : Glob w' := (hb.cell (p := ⟨0, 0, none⟩) hB).trans h
theorem Glob.ch {w w' : World} (h : Glob w) {S : List Nat} (hc : Ch S w w') (hS : 0 ∉ S) : Glob w' := (hc.rules.1 _ _ h.lt hS).trans h
theorem Glob.alloc {w : World} (h : Glob w) (o : Obj) : Glob (w.alloc o) := by
  unfold Glob; rw [World.cell?_alloc_past _ _ _ h.lt]; exact h

theorem as_world {T tb : Nat} (w : World) : Ch [] w (asWorld T tb w) ∧ (asWorld T tb w).heap[w.heap.size]? = some (.cells #[.pointer (some ⟨tb, 0, none⟩)] T (0, 0)) :=
  ⟨((Ch.refl _ _).alloc _).alloc _, heap_alloc_past (heap_alloc_same _ _)⟩

theorem As_hit {T E : Nat} {kE fE fA : Int} (c : TgtC T E kE fE fA) (x : Value) (tb : Nat) (old : Value) (w : World) (hx : x.cells = #[x]) (h1 : x.oneCell' = true)
    (ht : w.heap[tb]? = some (.cells #[old] E (0, 0))) (hg : Glob w) :
    Calls Tryd.prog 54 #[.iface E x, .iface T (.pointer (some ⟨tb, 0, none⟩))] w fun e w' => e = .returned (.bool true) ∧ w'.heap[tb]? = some (.cells #[x] E (0, 0)) ∧ Ch [tb] w w' := by
  obtain ⟨a1, a2⟩ := as_world (T := T) (tb := tb) w
  refine (as_of c x tb w (fun v w' => v = .bool true ∧ w'.heap[tb]? = some (.cells #[x] E (0, 0)) ∧ Ch [tb] w w') hg ((as_hit c x tb w.heap.size old _ hx h1 (a1.heap ht (by simp)) a2).mono ?_)).mono ?_
  · rintro e w' ⟨rfl, h2, h3⟩
    exact ⟨_, rfl, rfl, h2, (a1.mono (by simp)).trans h3⟩
  · rintro e w' ⟨v, rfl, rfl, h⟩
    exact ⟨rfl, h⟩

theorem As_leaf {T E D : Nat} {kE fE fA : Int} (c : TgtC T E kE fE fA) (d : DynC D E) (l : LeafC D) (x : Value) (tb : Nat) (w : World) (hg : Glob w) :
    Calls Tryd.prog 54 #[.iface D x, .iface T (.pointer (some ⟨tb, 0, none⟩))] w fun e w' => e = .returned (.bool false) ∧ Ch [] w w' := by
  obtain ⟨a1, a2⟩ := as_world (T := T) (tb := tb) w
  refine (as_of c x tb w (fun v w' => v = .bool false ∧ Ch [] w w') hg ((as_leaf d l x _ (rval T ⟨w.heap.size, 0, none⟩ 150) _ _ rfl rfl).mono ?_)).mono ?_
  · rintro e w' ⟨rfl, h2⟩
    exact ⟨_, rfl, rfl, a1.trans (Ch.of_below h2 [])⟩
  · rintro e w' ⟨v, rfl, rfl, h⟩
    exact ⟨rfl, h⟩

set_option maxRecDepth 100000 in
set_option maxHeartbeats 2000000 in
theorem class_errno (n : Int) (w : World) (hg : Glob w) :
    Calls Tryd.prog 18 #[.iface 31 (.int .i64 n)] w fun e w' => e = .returned (.int .i64 n) ∧ Ch [] w w' := by
  have g1 := Lib.hid (hg.alloc (.cells #[.pointer none] 99))
  have H0 := Lib.hid (As_leaf c_twice d_errno_twice l_errno (.int .i64 n) w.heap.size _ g1.out)
  have HG := Lib.hid hg
  clear hg
  go_enter Tryd.func18, Tryd.ntmps18
  go_wp2_with fail
  refine H0.out.mono ?_
  rintro e w1 ⟨rfl, hc1⟩
  have g2 := Lib.hid (((HG.out.alloc (.cells #[.pointer none] 99)).ch hc1 (by simp)).alloc (.cells #[.pointer none] 102))
  have H1 := Lib.hid (As_leaf c_fault d_errno_fault l_errno (.int .i64 n) w1.heap.size _ g2.out)
  have C1 := Lib.hid hc1
  clear hc1
  go_wp2_with fail
  refine H1.out.mono ?_
  rintro e w2 ⟨rfl, hc2⟩
  have g3 := Lib.hid ((g2.out.ch hc2 (by simp)).alloc (.cells #[.int .i64 0] 31))
  have H2 := Lib.hid (As_hit c_errno (.int .i64 n) w2.heap.size (.int .i64 0) _ rfl rfl (heap_alloc_same _ _) g3.out)
  have C2 := Lib.hid hc2
  clear hc2
  go_wp2_with fail
  refine H2.out.mono ?_
  rintro e w3 ⟨rfl, hb, hc3⟩
  have k := cell_of_one hb
  have C3 := Lib.hid hc3
  clear hc3 hb
  go_wp2
  go_ret
  refine ⟨rfl, ?_⟩
  have e2 := C2.out; have e3 := C3.out; have e1 := C1.out
  have s1 := e1.size; have s2 := e2.size
  simp at s1 s2
  exact ((((Ch.refl _ w).alloc _).trans e1).alloc _).trans (e2.trans (((Ch.refl _ w2).alloc _).trans' e3 (by simp))) |>.mono (by simp)
end Go.Proofs.YtiekahnpnaldjaaDoor
