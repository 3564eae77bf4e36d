/-
  hook.Extract: a copy of the row is handed to user code, and what comes back is looked at.
-/
import Derived.Test.YtiekahnpnaldjaaDoorHook2
namespace Go.Proofs.YtiekahnpnaldjaaDoor
open Go.RowKit

@[go_sem] theorem run_store_float {P : Program} {w : World} (a : Addr) (m : Mode) (k : FloatKind) (x : Nat) : (store a (.float k x) m).run P w = stored P w a (.float k x) m := run_store P w a _ m rfl

/-- A struct of four cells is written. -/
theorem set4 {w : World} {b : Nat} {o0 o1 o2 o3 : Value} {t : TypeId} (v : V) (h : w.heap[b]? = some (.cells #[o0, o1, o2, o3] t (0, 0))) :
    ((((w.setCell ⟨b, 0, none⟩ (.int .i64 v.k)).setCell ⟨b, 1, none⟩ (.int .i64 v.i)).setCell ⟨b, 2, none⟩ (.string v.s)).setCell ⟨b, 3, none⟩ (.float .f64 v.f)).heap[b]? = some (.cells #[.int .i64 v.k, .int .i64 v.i, .string v.s, .float .f64 v.f] t (0, 0)) ∧
    Ch [b] w ((((w.setCell ⟨b, 0, none⟩ (.int .i64 v.k)).setCell ⟨b, 1, none⟩ (.int .i64 v.i)).setCell ⟨b, 2, none⟩ (.string v.s)).setCell ⟨b, 3, none⟩ (.float .f64 v.f)) :=
  ⟨heap_setCell_same (heap_setCell_same (heap_setCell_same (heap_setCell_same h))), ((((Ch.refl _ w).setCell (by simp) _).setCell (by simp) _).setCell (by simp) _).setCell (by simp) _⟩

theorem copy_from (l : List V) (b off : Nat) (sv : Value) (w : World) (h : VRow w b off sv l) (hl : l.length * 40 ≤ 140737488355328) (W : World) (hW : W = w ∨ W = w.drew) :
    Calls Tryd.prog 59 #[sv] W fun e w' => ∃ sv', e = .returned sv' ∧ CopiedOwn w w' sv' l := by
  rcases hW with rfl | rfl
  · exact schemaCopy_any l b off sv _ h hl
  · exact (schemaCopy_any l b off sv _ (h.ch0 (Ch.refl _ w).drew) hl).mono fun e w' ⟨sv', he, h1, h2⟩ => ⟨sv', he, h1, (Ch.refl _ w).drew.trans h2⟩

set_option maxRecDepth 100000 in
set_option maxHeartbeats 1000000 in
/-- Extract's closure, where the user code comes back. -/
theorem extract1_ret (bf bv bo : Nat) (fi : FuncId) (cap : Array Value) (b off : Nat) (sv : Value) (l : List V) (w : World) (S : List Nat) (R : World → Prop) (v : V) (err o0 o1 o2 o3 : Value)
    (hf : w.heap[bf]? = some (.cells #[.func (.func fi) #[] cap] 77 (0, 0))) (hv : w.heap[bv]? = some (.cells #[sv] 39 (0, 0))) (ho : w.heap[bo]? = some (.cells #[o0, o1, o2, o3] 38 (0, 0)))
    (hr : VRow w b off sv l) (hl : l.length * 40 ≤ 140737488355328)
    (hent : ∀ A W, (callFunc fi (A ++ cap)).run Tryd.prog W = .ok (.enter fi (A ++ cap)) W)
    (hu : ∀ sv' W, CopiedOwn w W sv' l → Calls Tryd.prog fi (#[sv'] ++ cap) W fun e w' => e = .returned (.tuple #[.agg #[.int .i64 v.k, .int .i64 v.i, .string v.s, .float .f64 v.f], err]) ∧ R w' ∧ Ch S w w') (hS : bo ∉ S) :
    Calls Tryd.prog 58 #[.pointer (some ⟨bf, 0, none⟩), .pointer (some ⟨bv, 0, none⟩), .pointer (some ⟨bo, 0, none⟩)] w fun e w' => e = .returned err ∧ ∃ w1, R w1 ∧ w'.heap[bo]? = some (.cells #[.int .i64 v.k, .int .i64 v.i, .string v.s, .float .f64 v.f] 38 (0, 0)) ∧ Ch [bo] w1 w' := by
  have k1 := cell_of_one hf
  have k2 := cell_of_one hv
  have z1 := lt_of_block hf
  have z2 := lt_of_block hv
  have z3 := lt_of_block ho
  have HC := Lib.hid (copy_from l b off sv w hr hl)
  have HU := Lib.hid hu
  have HS := Lib.hid hS
  clear hS
  have HB := Lib.hid (And.intro hf (And.intro hv ho))
  clear hu hr hf hv ho hl
  go_enter Tryd.func58, Tryd.ntmps58
  go_wp2_with fail
  go_region_with (first
    | (go_at_call 59; refine (HC.out _ ?_).mono ?_; (first | exact .inl rfl | exact .inr rfl); rintro e w1 ⟨sv', rfl, hcp⟩
       have k3 := cell_of_one (hcp.2.heap HB.out.1 (by simp))
       have k4 := cell_of (i := 0) (hcp.2.heap HB.out.2.2 (by simp)))
    | (refine (HU.out _ _ ‹_›).mono ?_
       rintro e w2 ⟨rfl, hR, hc2⟩
       have ho2 := hc2.heap HB.out.2.2 HS.out
       have q0 := (cell_of (i := 0) ho2).trans rfl
       have q1 := (cell_of (i := 1) ho2).trans rfl
       have q2 := (cell_of (i := 2) ho2).trans rfl
       have q3 := (cell_of (i := 3) ho2).trans rfl
       have r0 := free_of (i := 0) ho2
       have r1 := free_of (i := 1) ho2
       have r2 := free_of (i := 2) ho2
       have r3 := free_of (i := 3) ho2))
  all_goals
    have HX := Lib.hid (And.intro hR (set4 v ho2))
    clear HC HU hcp q0 q1 q2 q3 r0 r1 r2 r3 ho2 hR hc2
    go_wp2
    go_ret
    exact ⟨rfl, _, HX.out.1, HX.out.2⟩

@[go_sem] theorem eql_ext_nil (w : World) (fn : Fn) (first cap : Array Value) : (binOp .eql 77 (.func fn first cap) .nilFunc).run Tryd.prog w = .ok (.bool false) w := by kernel_rfl

/-- What is told of a world outlives what a call does to blocks that are new. -/
def Lasts (w : World) (R : World → Prop) : Prop := ∀ a b T, R a → Ch T a b → (∀ x, x ∈ T → w.heap.size ≤ x) → R b

/-- The blocks of Extract ahead of Run. -/
abbrev extWorld (fi : FuncId) (cap : Array Value) (sv : Value) (w : World) : World :=
  (((w.alloc (.cells #[.func (.func fi) #[] cap] 77)).alloc (.cells #[sv] 39)).alloc (.cells #[.int .i64 0, .int .i64 0, .string ⟨#[]⟩, .float .f64 0] 38)).alloc (.cells #[.int .i64 0, .int .i64 0, .string ⟨#[]⟩, .float .f64 0] 38)

theorem ext_facts (fi : FuncId) (cap : Array Value) (sv : Value) (w : World) : (extWorld fi cap sv w).heap.size = w.heap.size + 1 + 1 + 1 + 1 ∧ Ch [] w (extWorld fi cap sv w) ∧
    (extWorld fi cap sv w).heap[w.heap.size]? = some (.cells #[.func (.func fi) #[] cap] 77 (0, 0)) ∧ (extWorld fi cap sv w).heap[w.heap.size + 1]? = some (.cells #[sv] 39 (0, 0)) ∧
    (extWorld fi cap sv w).heap[w.heap.size + 1 + 1]? = some (.cells #[.int .i64 0, .int .i64 0, .string ⟨#[]⟩, .float .f64 0] 38 (0, 0)) ∧
    (extWorld fi cap sv w).heap[w.heap.size + 1 + 1 + 1]? = some (.cells #[.int .i64 0, .int .i64 0, .string ⟨#[]⟩, .float .f64 0] 38 (0, 0)) := by
  refine ⟨by simp, ((((Ch.refl _ w).alloc _).alloc _).alloc _).alloc _, heap_alloc_past (heap_alloc_past (heap_alloc_past (heap_alloc_same _ _))), heap_alloc_past (heap_alloc_past ?_), heap_alloc_past ?_, ?_⟩
  · simpa using heap_alloc_same (w.alloc (.cells #[.func (.func fi) #[] cap] 77)) (.cells #[sv] 39)
  · simpa using heap_alloc_same ((w.alloc (.cells #[.func (.func fi) #[] cap] 77)).alloc (.cells #[sv] 39)) (.cells #[.int .i64 0, .int .i64 0, .string ⟨#[]⟩, .float .f64 0] 38)
  · simpa using heap_alloc_same (((w.alloc (.cells #[.func (.func fi) #[] cap] 77)).alloc (.cells #[sv] 39)).alloc (.cells #[.int .i64 0, .int .i64 0, .string ⟨#[]⟩, .float .f64 0] 38)) (.cells #[.int .i64 0, .int .i64 0, .string ⟨#[]⟩, .float .f64 0] 38)

theorem ext_run (wh : ByteArray) (fi : FuncId) (cap : Array Value) (b off : Nat) (sv : Value) (l : List V) (w : World) (S : List Nat) (R : World → Prop) (v : V)
    (hr : VRow w b off sv l) (hl : l.length * 40 ≤ 140737488355328) (hS : ∀ x, x ∈ S → x < w.heap.size) (hL : Lasts w R)
    (hent : ∀ A W, (callFunc fi (A ++ cap)).run Tryd.prog W = .ok (.enter fi (A ++ cap)) W)
    (hu : ∀ sv' W0 W, Ch [] w W0 → CopiedOwn W0 W sv' l → Calls Tryd.prog fi (#[sv'] ++ cap) W fun e w' => e = .returned (.tuple #[.agg #[.int .i64 v.k, .int .i64 v.i, .string v.s, .float .f64 v.f], .nilIface]) ∧ R w' ∧ Ch S W0 w') :
    Calls Tryd.prog 55 #[.string wh, .func (.func 58) #[] #[.pointer (some ⟨w.heap.size, 0, none⟩), .pointer (some ⟨w.heap.size + 1, 0, none⟩), .pointer (some ⟨w.heap.size + 1 + 1 + 1, 0, none⟩)]] (extWorld fi cap sv w) fun e w' =>
      e = .returned .nilIface ∧ R w' ∧ w'.heap[w.heap.size + 1 + 1 + 1]? = some (.cells #[.int .i64 v.k, .int .i64 v.i, .string v.s, .float .f64 v.f] 38 (0, 0)) ∧ w'.heap[w.heap.size + 1 + 1]? = some (.cells #[.int .i64 0, .int .i64 0, .string ⟨#[]⟩, .float .f64 0] 38 (0, 0)) ∧ Ch S w w' := by
  obtain ⟨e0, e1, e2, e3, e4, e5⟩ := ext_facts fi cap sv w
  have r1 := runWorld_ch wh (extWorld fi cap sv w)
  have hbo : w.heap.size + 1 + 1 + 1 ∉ S := fun h => by have := hS _ h; omega
  refine (run_nil wh 58 _ (extWorld fi cap sv w) ((w.heap.size + 1 + 1 + 1) :: S)
    (fun x => ∃ w1, (R w1 ∧ Ch S (runWorld wh (extWorld fi cap sv w)) w1) ∧ x.heap[w.heap.size + 1 + 1 + 1]? = some (.cells #[.int .i64 v.k, .int .i64 v.i, .string v.s, .float .f64 v.f] 38 (0, 0)) ∧ Ch [w.heap.size + 1 + 1 + 1] w1 x) ?_ (fun _ => by kernel_rfl) ?_).mono ?_
  · intro x hx
    rw [List.mem_cons] at hx
    rcases hx with rfl | hx
    · omega
    · have := hS _ hx; omega
  · refine (extract1_ret _ _ _ fi cap b off sv l _ S (fun w1 => R w1 ∧ Ch S (runWorld wh (extWorld fi cap sv w)) w1) v .nilIface _ _ _ _ (r1.heap e2 (by simp)) (r1.heap e3 (by simp)) (r1.heap e5 (by simp)) (hr.ch0 (e1.trans r1)) hl hent ?_ hbo).mono ?_
    · intro sv' W hc
      exact (hu sv' _ W (e1.trans r1) hc).mono fun e w' h => ⟨h.1, ⟨h.2.1, h.2.2⟩, h.2.2⟩
    · rintro e x ⟨rfl, w1, hR, hx, hc⟩
      exact ⟨rfl, ⟨w1, hR, hx, hc⟩, (hR.2.mono (S' := (w.heap.size + 1 + 1 + 1) :: S) (fun y hy => .inl (List.mem_cons_of_mem _ hy))).trans' hc (fun y hy => .inl (by simp at hy; simp [hy]))⟩
  · rintro e w' ⟨rfl, x, ⟨w1, hR, hx, hc⟩, hc2⟩
    have hs1 := ((e1.trans r1).mono (S' := S) (by simp)).trans hR.2
    have hs2 := hs1.trans' hc (by intro y hy; right; simp at hy; omega)
    have hs3 := hs2.trans' hc2 (by intro y hy; right; simp at hy; omega)
    refine ⟨rfl, hL _ _ _ (hL _ _ _ hR.1 hc (by intro y hy; simp at hy; omega)) hc2 (by intro y hy; simp at hy; omega), hc2.heap hx (by simp), hc2.heap (hc.heap (hR.2.heap (r1.heap e4 (by simp)) (fun h => by have := hS _ h; omega)) (by simp)) (by simp), hs3⟩

set_option maxRecDepth 100000 in
set_option maxHeartbeats 1000000 in
/-- Extract, where the user code comes back with a value that may be. -/
theorem extract_ok (wh : ByteArray) (fi : FuncId) (cap : Array Value) (b off : Nat) (sv : Value) (l : List V) (w : World) (S : List Nat) (R : World → Prop) (v : V)
    (hr : VRow w b off sv l) (hl : l.length * 40 ≤ 140737488355328) (hS : ∀ x, x ∈ S → x < w.heap.size) (hL : Lasts w R)
    (hent : ∀ A W, (callFunc fi (A ++ cap)).run Tryd.prog W = .ok (.enter fi (A ++ cap)) W)
    (hu : ∀ sv' W0 W, Ch [] w W0 → CopiedOwn W0 W sv' l → Calls Tryd.prog fi (#[sv'] ++ cap) W fun e w' => e = .returned (.tuple #[.agg #[.int .i64 v.k, .int .i64 v.i, .string v.s, .float .f64 v.f], .nilIface]) ∧ R w' ∧ Ch S W0 w') (hv : v.Ok) (hi : isV v = true) :
    Calls Tryd.prog 21 #[.string wh, .func (.func fi) #[] cap, sv] w fun e w' => e = .returned (.tuple #[.agg #[.int .i64 v.k, .int .i64 v.i, .string v.s, .float .f64 v.f], .nilIface]) ∧ R w' ∧ Ch S w w' := by
  have HR := Lib.hid (ext_run wh fi cap b off sv l w S R v hr hl hS hL hent hu)
  have HX := Lib.hid (ext_facts fi cap sv w)
  have HS := Lib.hid (And.intro hS hL)
  have HI := Lib.hid (fun W => is_any v W hv)
  have HV := Lib.hid hi
  clear hu hS hL hv hi hl
  obtain ⟨aa, ca, rfl, _⟩ := hr.shape
  clear hr
  go_enter Tryd.func21, Tryd.ntmps21
  go_wp2_with (go_at_call 55; refine HR.out.mono ?_)
  rintro e w1 ⟨rfl, hR, hb, hz, hc⟩
  have q0 := (cell_of (i := 0) hb).trans rfl
  have q1 := (cell_of (i := 1) hb).trans rfl
  have q2 := (cell_of (i := 2) hb).trans rfl
  have q3 := (cell_of (i := 3) hb).trans rfl
  have p0 := lt_of_block hb
  have HBB := Lib.hid hb
  have HB := Lib.hid (And.intro hR (And.intro hz hc))
  clear hR hb hz hc HR
  go_wp2_with (go_at_call 60; refine (HI.out _).mono ?_)
  rintro e w2 ⟨he, hc⟩
  rw [HV.out] at he
  unfold SomeBool at he
  subst he
  have hz := hc.heap HB.out.2.1 (by simp)
  have hb := hc.heap HBB.out (by simp)
  clear q0 q1 q2 q3
  have q0 := (cell_of (i := 0) hb).trans rfl
  have q1 := (cell_of (i := 1) hb).trans rfl
  have q2 := (cell_of (i := 2) hb).trans rfl
  have q3 := (cell_of (i := 3) hb).trans rfl
  have p0 := lt_of_block hb
  clear hb
  have t0 := (cell_of (i := 0) hz).trans rfl
  have t1 := (cell_of (i := 1) hz).trans rfl
  have t2 := (cell_of (i := 2) hz).trans rfl
  have t3 := (cell_of (i := 3) hz).trans rfl
  have r0 := free_of (i := 0) hz
  have r1 := free_of (i := 1) hz
  have r2 := free_of (i := 2) hz
  have r3 := free_of (i := 3) hz
  have p1 := lt_of_block hz
  have HY := Lib.hid (And.intro hc (set4 v hz))
  clear hz hc
  go_wp2
  try simp only [Exit.inBlock, Exit.then]
  refine bodyPost_ret (v := .tuple #[.agg #[.int .i64 v.k, .int .i64 v.i, .string v.s, .float .f64 v.f], .nilIface]) ?_ rfl ?_
  · rw [results_cell_tmp rfl]
    go_simp
  · refine ⟨rfl, HS.out.2 _ _ _ HB.out.1 ((HY.out.1.mono (by simp)).trans HY.out.2.2) (by intro y hy; simp at hy; omega), HB.out.2.2.trans' ((HY.out.1.mono (by simp)).trans HY.out.2.2) (by intro y hy; right; simp at hy; omega)⟩

set_option maxRecDepth 100000 in
set_option maxHeartbeats 1000000 in
/-- .. with one that is none. -/
theorem extract_bad (wh : ByteArray) (fi : FuncId) (cap : Array Value) (b off : Nat) (sv : Value) (l : List V) (w : World) (S : List Nat) (R : World → Prop) (v : V)
    (hr : VRow w b off sv l) (hl : l.length * 40 ≤ 140737488355328) (hS : ∀ x, x ∈ S → x < w.heap.size) (hL : Lasts w R)
    (hent : ∀ A W, (callFunc fi (A ++ cap)).run Tryd.prog W = .ok (.enter fi (A ++ cap)) W)
    (hu : ∀ sv' W0 W, Ch [] w W0 → CopiedOwn W0 W sv' l → Calls Tryd.prog fi (#[sv'] ++ cap) W fun e w' => e = .returned (.tuple #[.agg #[.int .i64 v.k, .int .i64 v.i, .string v.s, .float .f64 v.f], .nilIface]) ∧ R w' ∧ Ch S W0 w') (hv : v.Ok) (hi : isV v = false) :
    Calls Tryd.prog 21 #[.string wh, .func (.func fi) #[] cap, sv] w fun e w' => ∃ fb, e = .returned (.tuple #[.agg #[.int .i64 0, .int .i64 0, .string ⟨#[]⟩, .float .f64 0], faultVal fb]) ∧ FaultAt w' fb wh (.iface 31 (.int .i64 10)) .nilIface ∧ R w' ∧ Ch S w w' := by
  have HR := Lib.hid (ext_run wh fi cap b off sv l w S R v hr hl hS hL hent hu)
  have HX := Lib.hid (ext_facts fi cap sv w)
  have HS := Lib.hid (And.intro hS hL)
  have HI := Lib.hid (fun W => is_any v W hv)
  have HV := Lib.hid hi
  clear hu hS hL hv hi hl
  obtain ⟨aa, ca, rfl, _⟩ := hr.shape
  clear hr
  go_enter Tryd.func21, Tryd.ntmps21
  go_wp2_with (go_at_call 55; refine HR.out.mono ?_)
  rintro e w1 ⟨rfl, hR, hb, hz, hc⟩
  have q0 := (cell_of (i := 0) hb).trans rfl
  have q1 := (cell_of (i := 1) hb).trans rfl
  have q2 := (cell_of (i := 2) hb).trans rfl
  have q3 := (cell_of (i := 3) hb).trans rfl
  have p0 := lt_of_block hb
  have HBB := Lib.hid hb
  have HB := Lib.hid (And.intro hR (And.intro hz hc))
  clear hR hb hz hc HR
  go_wp2_with (go_at_call 60; refine (HI.out _).mono ?_)
  rintro e w2 ⟨he, hc⟩
  rw [HV.out] at he
  unfold SomeBool at he
  subst he
  have hz := hc.heap HB.out.2.1 (by simp)
  have hb := hc.heap HBB.out (by simp)
  clear q0 q1 q2 q3
  have q0 := (cell_of (i := 0) hb).trans rfl
  have q1 := (cell_of (i := 1) hb).trans rfl
  have q2 := (cell_of (i := 2) hb).trans rfl
  have q3 := (cell_of (i := 3) hb).trans rfl
  have p0 := lt_of_block hb
  clear hb
  have t0 := (cell_of (i := 0) hz).trans rfl
  have t1 := (cell_of (i := 1) hz).trans rfl
  have t2 := (cell_of (i := 2) hz).trans rfl
  have t3 := (cell_of (i := 3) hz).trans rfl
  have r0 := free_of (i := 0) hz
  have r1 := free_of (i := 1) hz
  have r2 := free_of (i := 2) hz
  have r3 := free_of (i := 3) hz
  have p1 := lt_of_block hz
  have HY := Lib.hid (And.intro hc (set4 V.zero hz))
  clear hz hc
  go_wp2
  have hf := heap_alloc_same ((((w2.setCell ⟨w.heap.size + 1 + 1, 0, none⟩ (.int .i64 0)).setCell ⟨w.heap.size + 1 + 1, 1, none⟩ (.int .i64 0)).setCell ⟨w.heap.size + 1 + 1, 2, none⟩ (.string ⟨#[]⟩)).setCell ⟨w.heap.size + 1 + 1, 3, none⟩ (.float .f64 0)) (.cells #[.string wh, .iface 31 (.int .i64 10), .nilIface] 107)
  simp only [World.size_setCell] at hf
  have HF := Lib.hid hf
  clear hf
  try simp only [Exit.inBlock, Exit.then]
  refine bodyPost_ret (v := .tuple #[.agg #[.int .i64 0, .int .i64 0, .string ⟨#[]⟩, .float .f64 0], faultVal w2.heap.size]) ?_ rfl ?_
  · rw [results_cell_tmp rfl]
    unfold faultVal
    go_simp
  · have hcc := ((HY.out.1.mono (S' := [w.heap.size + 1 + 1]) (by simp)).trans HY.out.2.2).alloc (.cells #[.string wh, .iface 31 (.int .i64 10), .nilIface] 107)
    exact ⟨_, rfl, HF.out, HS.out.2 _ _ _ HB.out.1 hcc (by intro y hy; simp at hy; omega), HB.out.2.2.trans' hcc (by intro y hy; right; simp at hy; omega)⟩
end Go.Proofs.YtiekahnpnaldjaaDoor
