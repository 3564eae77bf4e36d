/-
  key.part: a part of a record's key.
-/
import Derived.Test.YtiekahnpnaldjaaDoorCode1
import Derived.StillTailTactics
namespace Go.Proofs.YtiekahnpnaldjaaDoor
open Go.RowKit

/-- A definition, a part, as values. -/
abbrev defVal (nm : ByteArray) (kd : Int) (ps : Value) (cm : Int) : Value := .agg #[.string nm, .int .i64 kd, ps, .int .i64 cm]
abbrev partWorld (nm : ByteArray) (kd cm f h : Int) (ps hx hc : Value) (w : World) : World :=
  (((w.alloc (.cells #[.string nm, .int .i64 kd, ps, .int .i64 cm] 53)).alloc (.cells #[.int .i64 f, .int .i64 h] 66)).alloc (.cells #[hx, hc] 61)).alloc (.cells #[.int .i64 0, .int .i64 0, .string ⟨#[]⟩, .float .f64 0] 38)
theorem partWorld_ch (nm : ByteArray) (kd cm f h : Int) (ps hx hc : Value) (w : World) : Ch [] w (partWorld nm kd cm f h ps hx hc w) := ((((Ch.refl _ w).alloc _).alloc _).alloc _).alloc _
theorem partWorld_res (nm : ByteArray) (kd cm f h : Int) (ps hx hc : Value) (w : World) : (partWorld nm kd cm f h ps hx hc w).heap[w.heap.size + 1 + 1 + 1]? = some (.cells #[.int .i64 0, .int .i64 0, .string ⟨#[]⟩, .float .f64 0] 38 (0, 0)) ∧ (partWorld nm kd cm f h ps hx hc w).heap.size = w.heap.size + 1 + 1 + 1 + 1 := by
  refine ⟨?_, by simp⟩
  simpa using heap_alloc_same (((w.alloc (.cells #[.string nm, .int .i64 kd, ps, .int .i64 cm] 53)).alloc (.cells #[.int .i64 f, .int .i64 h] 66)).alloc (.cells #[hx, hc] 61)) (.cells #[.int .i64 0, .int .i64 0, .string ⟨#[]⟩, .float .f64 0] 38)
/-- What is told of a world outlives a store into one value. -/
def LastsV (R : World → Prop) : Prop := ∀ (a b : World) (x : Nat) (cs : Array Value), R a → Ch [x] a b → a.heap[x]? = some (.cells cs 38 (0, 0)) → R b
abbrev partVal (f h : Int) : Value := .agg #[.int .i64 f, .int .i64 h]

set_option maxRecDepth 100000 in
set_option maxHeartbeats 1000000 in
/-- A field. -/
theorem part_field (nm : ByteArray) (kd cm h : Int) (pa xa ca : Option Addr) (pn pc xn xc cn cc : Nat) (f : Nat) (l : List V) (v : V) (b off : Nat) (sv : Value) (w : World) (hr : VRow w b off sv l) (hv : l[f]? = some v) :
    Calls Tryd.prog 65 #[defVal nm kd (.slice pa pn pc) cm, partVal f h, .agg #[.slice xa xn xc, .slice ca cn cc], sv] w fun e w' => e = .returned (.tuple #[.agg (V.arr v), .nilIface]) ∧ Ch [] w w' := by
  obtain ⟨aa, cap, rfl, hsa⟩ := hr.shape
  have hlt : f < l.length := (List.getElem?_eq_some_iff.1 hv).1
  have e1 := hsa (by intro e; rw [e] at hlt; simp at hlt)
  subst e1
  have HP := Lib.hid (partWorld_ch nm kd cm f h (.slice pa pn pc) (.slice xa xn xc) (.slice ca cn cc) w)
  have HQ := Lib.hid (partWorld_res nm kd cm f h (.slice pa pn pc) (.slice xa xn xc) (.slice ca cn cc) w)
  obtain ⟨c0, c1, c2, c3⟩ := (hr.ch0 HP.out).cells f v hv
  have j0 : (f : Int) < (l.length : Int) := by omega
  have j1 : (0 : Int) ≤ (f : Int) := by omega
  have HX := Lib.hid (set4 v HQ.out.1)
  clear hr hv hsa hlt
  unfold V.arr
  unfold partWorld at *
  go_enter Tryd.func65, Tryd.ntmps65
  go_wp2
  try simp only [Exit.inBlock, Exit.then]
  refine bodyPost_ret (v := .tuple #[.agg #[.int .i64 v.k, .int .i64 v.i, .string v.s, .float .f64 v.f], .nilIface]) ?_ rfl ?_
  · rw [results_cell_tmp rfl]
    go_simp
  · exact ⟨rfl, ((((Ch.refl _ w).alloc _).alloc _).alloc _).alloc _⟩

set_option maxRecDepth 100000 in
set_option maxHeartbeats 1000000 in
/-- No part. -/
theorem part_none (nm : ByteArray) (kd cm f h : Int) (pa xa ca : Option Addr) (pn pc xn xc cn cc : Nat) (l : List V) (aa : Option Addr) (cap : Nat) (w : World) (hf : ¬ (0 ≤ f ∧ f < l.length)) (hh : ¬ (f = -1 ∧ 0 ≤ h ∧ h < xn)) :
    Calls Tryd.prog 65 #[defVal nm kd (.slice pa pn pc) cm, partVal f h, .agg #[.slice xa xn xc, .slice ca cn cc], .slice aa l.length cap] w fun e w' => e = .returned (.tuple #[.agg (V.arr V.zero), .iface 31 (.int .i64 60)]) ∧ Ch [] w w' := by
  by_cases h0 : 0 ≤ f
  · have h1 : (l.length : Int) ≤ f := by
      by_cases hx : f < l.length
      · exact absurd ⟨h0, hx⟩ hf
      · omega
    clear hf hh
    unfold V.arr V.zero
    go_enter Tryd.func65, Tryd.ntmps65
    go_wp2
    try simp only [Exit.inBlock, Exit.then]
    refine bodyPost_ret (v := .tuple #[.agg #[.int .i64 0, .int .i64 0, .string ⟨#[]⟩, .float .f64 0], .iface 31 (.int .i64 60)]) ?_ rfl ?_
    · rw [results_cell_tmp rfl]
      go_simp
    · exact ⟨rfl, ((((Ch.refl _ w).alloc _).alloc _).alloc _).alloc _⟩
  · have h1 : f < 0 := by omega
    by_cases h2 : f = -1
    · subst h2
      by_cases h3 : 0 ≤ h
      · have h4 : (xn : Int) ≤ h := by
          by_cases hx : h < xn
          · exact absurd ⟨rfl, h3, hx⟩ hh
          · omega
        clear hf hh h0 h1
        unfold V.arr V.zero
        go_enter Tryd.func65, Tryd.ntmps65
        go_wp2
        try simp only [Exit.inBlock, Exit.then]
        refine bodyPost_ret (v := .tuple #[.agg #[.int .i64 0, .int .i64 0, .string ⟨#[]⟩, .float .f64 0], .iface 31 (.int .i64 60)]) ?_ rfl ?_
        · rw [results_cell_tmp rfl]
          go_simp
        · exact ⟨rfl, ((((Ch.refl _ w).alloc _).alloc _).alloc _).alloc _⟩
      · have h4 : h < 0 := by omega
        clear hf hh h0 h1
        unfold V.arr V.zero
        go_enter Tryd.func65, Tryd.ntmps65
        go_wp2
        try simp only [Exit.inBlock, Exit.then]
        refine bodyPost_ret (v := .tuple #[.agg #[.int .i64 0, .int .i64 0, .string ⟨#[]⟩, .float .f64 0], .iface 31 (.int .i64 60)]) ?_ rfl ?_
        · rw [results_cell_tmp rfl]
          go_simp
        · exact ⟨rfl, ((((Ch.refl _ w).alloc _).alloc _).alloc _).alloc _⟩
    · have t1 : (f == -1) = false := by rw [beq_eq_false_iff_ne]; exact h2
      clear hf hh h2
      unfold V.arr V.zero
      go_enter Tryd.func65, Tryd.ntmps65
      go_wp2
      try simp only [Exit.inBlock, Exit.then]
      refine bodyPost_ret (v := .tuple #[.agg #[.int .i64 0, .int .i64 0, .string ⟨#[]⟩, .float .f64 0], .iface 31 (.int .i64 60)]) ?_ rfl ?_
      · rw [results_cell_tmp rfl]
        go_simp
      · exact ⟨rfl, ((((Ch.refl _ w).alloc _).alloc _).alloc _).alloc _⟩

set_option maxRecDepth 100000 in
set_option maxHeartbeats 1000000 in
/-- What an extractor tells. -/
theorem part_hook (nm : ByteArray) (kd cm : Int) (h : Nat) (xb xo : Nat) (pa ca : Option Addr) (pn pc xn xc cn cc : Nat) (fi : FuncId) (cp : Array Value) (sv : Value) (w : World) (S : List Nat) (P : V → Value → World → Prop) (hs : ∃ a n c, sv = .slice a n c)
    (hh : h < xn) (hx : w.cell? ⟨xb, xo + h, none⟩ = some (.func (.func fi) #[] cp)) (hP : ∀ v e, LastsV (P v e)) (hS : ∀ x, x ∈ S → x < w.heap.size)
    (hE : ∀ W, Ch [] w W → Calls Tryd.prog 21 #[.string nm, .func (.func fi) #[] cp, sv] W fun e w' => ∃ v er, e = .returned (.tuple #[.agg (V.arr v), er]) ∧ P v er w' ∧ Ch S W w') :
    Calls Tryd.prog 65 #[defVal nm kd (.slice pa pn pc) cm, partVal (-1) h, .agg #[.slice (some ⟨xb, xo, none⟩) xn xc, .slice ca cn cc], sv] w fun e w' => ∃ v er, e = .returned (.tuple #[.agg (V.arr v), er]) ∧ P v er w' ∧ Ch S w w' := by
  obtain ⟨a, n, c, rfl⟩ := hs
  have j0 : (h : Int) < (xn : Int) := by omega
  have j1 : (0 : Int) ≤ (h : Int) := by omega
  have zb := World.block_lt_of_cell? _ _ hx
  have HE := Lib.hid hE
  have HP := Lib.hid (And.intro hP hS)
  have HQ := Lib.hid (partWorld_res nm kd cm (-1) h (.slice pa pn pc) (.slice (some ⟨xb, xo, none⟩) xn xc) (.slice ca cn cc) w)
  have HW := Lib.hid (partWorld_ch nm kd cm (-1) h (.slice pa pn pc) (.slice (some ⟨xb, xo, none⟩) xn xc) (.slice ca cn cc) w)
  have k0 := (HW.out.rules0.1 xb (xo + h) zb).trans hx
  unfold partWorld at *
  clear hE hP hS hh hx
  go_enter Tryd.func65, Tryd.ntmps65
  go_wp2_with fail
  go_region_with (first
    | (go_at_call 21; refine (HE.out _ (by first | exact HW.out.drew | exact HW.out)).mono ?_
       rintro e w1 ⟨v, er, rfl, hp, hc⟩
       have hz := hc.heap HQ.out.1 (fun hh => by have := HP.out.2 _ hh; omega)
       have q0 := (cell_of (i := 0) hz).trans rfl
       have q1 := (cell_of (i := 1) hz).trans rfl
       have q2 := (cell_of (i := 2) hz).trans rfl
       have q3 := (cell_of (i := 3) hz).trans rfl
       have r0 := free_of (i := 0) hz
       have r1 := free_of (i := 1) hz
       have r2 := free_of (i := 2) hz
       have r3 := free_of (i := 3) hz
       have hcw : Ch S w w1 := by first | exact (HW.out.mono (by simp)).trans hc | exact (HW.out.drew.mono (by simp)).trans hc))
  all_goals
    have HX := Lib.hid (And.intro hp (And.intro hcw (And.intro (set4 v hz) hz)))
    have y0 := lt_of_block hz
    clear hp hcw hc hz HE HQ HW k0
    unfold V.arr at *
    go_wp2
    try simp only [Exit.inBlock, Exit.then]
    refine bodyPost_ret (v := .tuple #[.agg #[.int .i64 v.k, .int .i64 v.i, .string v.s, .float .f64 v.f], er]) ?_ rfl ?_
    · rw [results_cell_tmp rfl]
      go_simp
    · exact ⟨v, er, rfl, HP.out.1 _ _ _ _ _ _ HX.out.1 HX.out.2.2.1.2 HX.out.2.2.2, HX.out.2.1.trans' HX.out.2.2.1.2 (by intro y hy; right; simp at hy; omega)⟩
end Go.Proofs.YtiekahnpnaldjaaDoor
