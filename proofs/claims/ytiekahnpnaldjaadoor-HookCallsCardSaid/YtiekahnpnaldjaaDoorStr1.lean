/-
  User code that is struck by its meter: what Run and Extract tell of it.
-/
import Derived.Test.YtiekahnpnaldjaaDoorKey3
namespace Go.Proofs.YtiekahnpnaldjaaDoor
open Go.RowKit

/-- What is told of a mark outlives what a call does to other blocks that are new. -/
def LastsM (w : World) (T : Nat → World → Prop) : Prop := ∀ kb a b S, T kb a → Ch S a b → (∀ x, x ∈ S → w.heap.size ≤ x ∧ x ≠ kb) → T kb b

set_option maxRecDepth 100000 in
set_option maxHeartbeats 1000000 in
theorem run_mark (wh : ByteArray) (fi : FuncId) (cap : Array Value) (w : World) (S : List Nat) (Q : Nat → World → Prop) (hS : ∀ x, x ∈ S → x < w.heap.size) (hent : ∀ W, (callFunc fi cap).run Tryd.prog W = .ok (.enter fi cap) W)
    (hf : Calls Tryd.prog fi cap (runWorld wh w) fun e w1 => ∃ kb, e = .returned (markVal kb) ∧ Q kb w1 ∧ Ch S (runWorld wh w) w1) :
    Calls Tryd.prog 55 #[.string wh, .func (.func fi) #[] cap] w fun e w' => ∃ kb, RunFault w (Q kb) wh (markVal kb) .nilIface e w' := by
  obtain ⟨b1, b2, b3⟩ := runWorld_facts wh w
  have HF := Lib.hid hf
  have HS := Lib.hid hS
  clear hf b1 b2 b3 hS
  go_enter_defers Tryd.func55, Tryd.ntmps55
  go_wp2_with (refine HF.out.mono ?_)
  rintro e w1 ⟨kb, rfl, hq, hch⟩
  unfold markVal
  obtain ⟨b1, b2, b3⟩ := runWorld_kept HS.out hch
  have c2 := cell_of_one b2
  have f2 := free_of_one b2
  have c3 := cell_of_one b3
  have f3 := free_of_one b3
  have c1 := cell_of_one b1
  have z1 := lt_of_block b1
  have z2 := lt_of_block b2
  have z3 := lt_of_block b3
  have HB := Lib.hid (And.intro b1 (And.intro b2 b3))
  have HQ := Lib.hid hq
  have HC := Lib.hid hch
  clear b1 b2 b3 hq hch HF
  go_wp2
  refine leaves_cons (f := 87) (args := #[.pointer (some ⟨w.heap.size, 0, none⟩), .pointer (some ⟨w.heap.size + 1, 0, none⟩), .pointer (some ⟨w.heap.size + 1 + 1, 0, none⟩)]) (by simp) (by simp [go_sem]) ?_
  have hbool : (w1.setCell ⟨w.heap.size + 1 + 1, 0, none⟩ (.bool true)).heap[w.heap.size + 1 + 1]? = some (.cells #[.bool true] 4 (0, 0)) := one_setCell HB.out.2.2
  have herr : (w1.setCell ⟨w.heap.size + 1 + 1, 0, none⟩ (.bool true)).heap[w.heap.size + 1]? = some (.cells #[.nilIface] 28 (0, 0)) := (heap_setCell_other (by omega)).trans HB.out.2.1
  have hx := heap_alloc_past (o := .cells #[.string wh, .iface 124 (.pointer (some ⟨kb, 0, none⟩)), .nilIface] 107) (one_setCell (u := .iface 102 (.pointer (some ⟨w1.heap.size, 0, none⟩))) herr)
  refine (run1_back _ _ _ _ (heap_alloc_past ((heap_setCell_other (by omega)).trans hbool))).mono ?_
  rintro e u' w2 ⟨rfl, rfl, hc⟩
  have e2 := cell_of_one (hc.heap hx (by simp))
  refine ⟨.iface 102 (.pointer (some ⟨w1.heap.size, 0, none⟩)), by simp [results, Tryd.results55, go_sem, e2], kb, w1, w1.heap.size, HQ.out, ?_, Nat.le_refl _, ?_, rfl⟩
  · exact ((((Ch.refl _ w1).setCell (by simp) _).setCell (by simp) _).alloc _).trans' hc (by simp)
  · refine hc.heap ?_ (by simp)
    simpa [markVal] using heap_alloc_same ((w1.setCell ⟨w.heap.size + 1 + 1, 0, none⟩ (.bool true)).setCell ⟨w.heap.size + 1, 0, none⟩ (.iface 102 (.pointer (some ⟨w1.heap.size, 0, none⟩)))) (.cells #[.string wh, .iface 124 (.pointer (some ⟨kb, 0, none⟩)), .nilIface] 107)

set_option maxRecDepth 100000 in
set_option maxHeartbeats 1000000 in
/-- The extractor, where the meter strikes. -/
theorem code_struck (m : Value) (mb nb : Nat) (sv' : Value) (W : World) (S : List Nat) (T : Nat → World → Prop) (hp : ∃ a, m = .pointer a) (hs : ∃ a n c, sv' = .slice a n c)
    (hm : W.heap[mb]? = some (.cells #[m] 55 (0, 0))) (hS : ∀ x, x ∈ S → x < W.heap.size)
    (ht : ∀ W', Ch [] W W' → Calls Tryd.prog 78 #[m] W' fun e w' => ∃ kb, e = .returned (markVal kb) ∧ W'.heap.size ≤ kb ∧ T kb w' ∧ Ch S W' w') (hT : LastsM W T) :
    Calls Tryd.prog 90 #[sv', .pointer (some ⟨mb, 0, none⟩), .pointer (some ⟨nb, 0, none⟩)] W fun e w' => ∃ kb, e = .returned (.tuple #[.agg (V.arr V.zero), markVal kb]) ∧ W.heap.size < kb ∧ T kb w' ∧ Ch S W w' := by
  obtain ⟨a, rfl⟩ := hp
  obtain ⟨aa, n, c, rfl⟩ := hs
  have k0 := cell_of_one hm
  have z0 := lt_of_block hm
  have HT := Lib.hid (fun W' (h : Ch [] W W') => ht W' h)
  have H := Lib.hid (And.intro hS hT)
  have hres := heap_alloc_same W (.cells (V.arr V.zero) 38)
  have HZ := Lib.hid hres
  clear ht hS hT hm hres
  go_enter Tryd.func90, Tryd.ntmps90
  go_wp2_with (go_at_call 78; refine (HT.out _ ((Ch.refl _ W).alloc _)).mono ?_)
  rintro e w1 ⟨kb, rfl, hkb, hT1, hc1⟩
  simp at hkb
  unfold markVal
  have hz := hc1.heap HZ.out (fun hh => by have := H.out.1 _ hh; omega)
  have t0 := (cell_of (i := 0) hz).trans rfl
  have t1 := (cell_of (i := 1) hz).trans rfl
  have t2 := (cell_of (i := 2) hz).trans rfl
  have t3 := (cell_of (i := 3) hz).trans rfl
  have f0 := free_of (i := 0) hz
  have f1 := free_of (i := 1) hz
  have f2 := free_of (i := 2) hz
  have f3 := free_of (i := 3) hz
  have y0 := lt_of_block hz
  have HX := Lib.hid (And.intro (set4 V.zero hz) (And.intro hT1 (And.intro hc1 hkb)))
  clear hz hT1 hc1 hkb
  unfold V.arr V.zero at *
  go_wp2
  try simp only [Exit.inBlock, Exit.then]
  refine bodyPost_ret (v := .tuple #[.agg #[.int .i64 0, .int .i64 0, .string ⟨#[]⟩, .float .f64 0], .iface 124 (.pointer (some ⟨kb, 0, none⟩))]) ?_ rfl ?_
  · rw [results_cell_tmp rfl]
    go_simp
  · exact ⟨kb, rfl, HX.out.2.2.2, H.out.2 _ _ _ _ HX.out.2.1 HX.out.1.2 (by intro y hy; simp at hy; have := HX.out.2.2.2; omega), (((Ch.refl S W).alloc _).trans HX.out.2.2.1).trans' HX.out.1.2 (by intro y hy; right; simp at hy; omega)⟩

set_option maxRecDepth 100000 in
set_option maxHeartbeats 1000000 in
/-- Extract's closure, where the user code is struck. -/
theorem extract1_mark (bf bv bo : Nat) (fi : FuncId) (cap : Array Value) (b off : Nat) (sv : Value) (l : List V) (w : World) (S : List Nat) (R : Nat → World → Prop) (o0 o1 o2 o3 : Value)
    (hf : w.heap[bf]? = some (.cells #[.func (.func fi) #[] cap] 77 (0, 0))) (hv : w.heap[bv]? = some (.cells #[sv] 39 (0, 0))) (ho : w.heap[bo]? = some (.cells #[o0, o1, o2, o3] 38 (0, 0)))
    (hr : VRow w b off sv l) (hl : l.length * 40 ≤ 140737488355328)
    (hent : ∀ A W, (callFunc fi (A ++ cap)).run Tryd.prog W = .ok (.enter fi (A ++ cap)) W)
    (hu : ∀ sv' W, CopiedOwn w W sv' l → Calls Tryd.prog fi (#[sv'] ++ cap) W fun e w' => ∃ kb, e = .returned (.tuple #[.agg (V.arr V.zero), markVal kb]) ∧ W.heap.size < kb ∧ R kb w' ∧ Ch S w w') (hS : bo ∉ S) :
    Calls Tryd.prog 58 #[.pointer (some ⟨bf, 0, none⟩), .pointer (some ⟨bv, 0, none⟩), .pointer (some ⟨bo, 0, none⟩)] w fun e w' => ∃ kb, e = .returned (markVal kb) ∧ w.heap.size < kb ∧ ∃ w1, R kb w1 ∧ Ch S w w1 ∧ Ch [bo] w1 w' := by
  have k1 := cell_of_one hf
  have k2 := cell_of_one hv
  have z1 := lt_of_block hf
  have z2 := lt_of_block hv
  have z3 := lt_of_block ho
  have HC := Lib.hid (copy_from l b off sv w hr hl)
  have HU := Lib.hid hu
  have HS := Lib.hid hS
  clear hS
  have HB := Lib.hid (And.intro hf (And.intro hv ho))
  clear hu hr hf hv ho hl
  unfold V.arr V.zero at *
  go_enter Tryd.func58, Tryd.ntmps58
  go_wp2_with fail
  go_region_with (first
    | (go_at_call 59; refine (HC.out _ ?_).mono ?_; (first | exact .inl rfl | exact .inr rfl); rintro e w1 ⟨sv', rfl, hcp⟩
       have k3 := cell_of_one (hcp.2.heap HB.out.1 (by simp))
       have k4 := cell_of (i := 0) (hcp.2.heap HB.out.2.2 (by simp)))
    | (refine (HU.out _ _ ‹_›).mono ?_
       rintro e w2 ⟨kb, rfl, hkb, hR, hc2⟩
       have hkb' := Nat.lt_of_le_of_lt hcp.2.size hkb
       unfold markVal
       have ho2 := hc2.heap HB.out.2.2 HS.out
       have q0 := (cell_of (i := 0) ho2).trans rfl
       have q1 := (cell_of (i := 1) ho2).trans rfl
       have q2 := (cell_of (i := 2) ho2).trans rfl
       have q3 := (cell_of (i := 3) ho2).trans rfl
       have r0 := free_of (i := 0) ho2
       have r1 := free_of (i := 1) ho2
       have r2 := free_of (i := 2) ho2
       have r3 := free_of (i := 3) ho2))
  all_goals
    have HX := Lib.hid (And.intro hR (And.intro (set4 V.zero ho2) (And.intro hc2 hkb')))
    clear HC HU hcp q0 q1 q2 q3 r0 r1 r2 r3 ho2 hR hc2 hkb hkb'
    go_wp2
    go_ret
    exact ⟨kb, rfl, HX.out.2.2.2, _, HX.out.1, HX.out.2.2.1, HX.out.2.1.2⟩

set_option maxRecDepth 100000 in
set_option maxHeartbeats 1000000 in
/-- Extract, where the user code is struck. -/
theorem extract_struck (wh : ByteArray) (fi : FuncId) (cap : Array Value) (b off : Nat) (sv : Value) (l : List V) (w : World) (S : List Nat) (R : Nat → World → Prop)
    (hr : VRow w b off sv l) (hl : l.length * 40 ≤ 140737488355328) (hS : ∀ x, x ∈ S → x < w.heap.size) (hL : LastsM w R)
    (hent : ∀ A W, (callFunc fi (A ++ cap)).run Tryd.prog W = .ok (.enter fi (A ++ cap)) W)
    (hu : ∀ sv' W0 W, Ch [] w W0 → CopiedOwn W0 W sv' l → Calls Tryd.prog fi (#[sv'] ++ cap) W fun e w' => ∃ kb, e = .returned (.tuple #[.agg (V.arr V.zero), markVal kb]) ∧ W.heap.size < kb ∧ R kb w' ∧ Ch S W0 w') :
    Calls Tryd.prog 21 #[.string wh, .func (.func fi) #[] cap, sv] w fun e w' => ∃ kb fb, e = .returned (.tuple #[.agg (V.arr V.zero), faultVal fb]) ∧ FaultAt w' fb wh (markVal kb) .nilIface ∧ R kb w' ∧ Ch S w w' := by
  obtain ⟨e0, e1, e2, e3, e4, e5⟩ := ext_facts fi cap sv w
  have r1 := runWorld_ch wh (extWorld fi cap sv w)
  have hbo : w.heap.size + 1 + 1 + 1 ∉ S := fun h => by have := hS _ h; omega
  have HR := run_mark wh 58 #[.pointer (some ⟨w.heap.size, 0, none⟩), .pointer (some ⟨w.heap.size + 1, 0, none⟩), .pointer (some ⟨w.heap.size + 1 + 1 + 1, 0, none⟩)] (extWorld fi cap sv w) ((w.heap.size + 1 + 1 + 1) :: S)
    (fun kb x => ∃ w1, (R kb w1 ∧ Ch S (runWorld wh (extWorld fi cap sv w)) w1) ∧ (runWorld wh (extWorld fi cap sv w)).heap.size < kb ∧ Ch [w.heap.size + 1 + 1 + 1] w1 x) (by
      intro x hx
      rw [List.mem_cons] at hx
      rcases hx with rfl | hx
      · omega
      · have := hS _ hx; omega) (fun _ => by kernel_rfl) (by
    refine (extract1_mark _ _ _ fi cap b off sv l _ S R _ _ _ _ (r1.heap e2 (by simp)) (r1.heap e3 (by simp)) (r1.heap e5 (by simp)) (hr.ch0 (e1.trans r1)) hl hent ?_ hbo).mono ?_
    · intro sv' W hc
      exact hu sv' _ W (e1.trans r1) hc
    · rintro e x ⟨kb, rfl, hkb, w1, hR, hc1, hc⟩
      exact ⟨kb, rfl, ⟨w1, ⟨hR, hc1⟩, hkb, hc⟩, (hc1.mono (S' := (w.heap.size + 1 + 1 + 1) :: S) (fun y hy => .inl (List.mem_cons_of_mem _ hy))).trans' hc (fun y hy => .inl (by simp at hy; simp [hy]))⟩)
  have HRR := Lib.hid HR
  have HX := Lib.hid (And.intro e1 (And.intro r1 (And.intro e4 (And.intro hS hL))))
  have HS0 := Lib.hid e0
  clear HR hu hS hL hl e0 e1 e2 e3 e4 e5 r1 hbo
  obtain ⟨aa, ca, rfl, _⟩ := hr.shape
  clear hr
  go_enter Tryd.func21, Tryd.ntmps21
  go_wp2_with (go_at_call 55; refine HRR.out.mono ?_)
  rintro e w2 ⟨kb, x, fb, ⟨w1, ⟨hR, hc1⟩, hkb, hcx⟩, hc2, hfb, hF, rfl⟩
  have hs := (HX.out.1.trans HX.out.2.1).size
  have hz := hc2.heap (hcx.heap (hc1.heap (HX.out.2.1.heap HX.out.2.2.1 (by simp)) (fun h => by have := HX.out.2.2.2.1 _ h; omega)) (by simp)) (by have := HS0.out; simp)
  have t0 := (cell_of (i := 0) hz).trans rfl
  have t1 := (cell_of (i := 1) hz).trans rfl
  have t2 := (cell_of (i := 2) hz).trans rfl
  have t3 := (cell_of (i := 3) hz).trans rfl
  have g0 := free_of (i := 0) hz
  have g1 := free_of (i := 1) hz
  have g2 := free_of (i := 2) hz
  have g3 := free_of (i := 3) hz
  have p1 := lt_of_block hz
  have hkb2 : w.heap.size + 1 + 1 + 1 + 1 + 1 + 1 + 1 < kb := by simpa using hkb
  have hs1 := hc1.size
  have hsx := hcx.size
  have hfb2 : w.heap.size + 1 + 1 + 1 + 1 + 1 + 1 + 1 ≤ fb := by simp at hs1; omega
  have HK := Lib.hid (And.intro hR (And.intro hc1 (And.intro hcx (And.intro hc2 (And.intro hF (And.intro (set4 V.zero hz) (And.intro hkb2 hfb2)))))))
  clear hR hc1 hcx hc2 hF hz hkb hkb2 hs hs1 hsx hfb hfb2 HRR
  unfold V.arr V.zero faultVal at *
  go_wp2
  try simp only [Exit.inBlock, Exit.then]
  refine bodyPost_ret (v := .tuple #[.agg #[.int .i64 0, .int .i64 0, .string ⟨#[]⟩, .float .f64 0], .iface 102 (.pointer (some ⟨fb, 0, none⟩))]) ?_ rfl ?_
  · rw [results_cell_tmp rfl]
    go_simp
  · obtain ⟨hR, hc1, hcx, hc2, hF, hset, hkb2, hfb2⟩ := HK.out
    have hL := HX.out.2.2.2.2
    have hS := HX.out.2.2.2.1
    refine ⟨kb, fb, rfl, ?_, ?_, ?_⟩
    · exact hset.2.heap hF (by simp; omega)
    · exact hL _ _ _ _ (hL _ _ _ _ (hL _ _ _ _ hR hcx (by intro y hy; simp at hy; omega)) hc2 (by intro y hy; simp at hy; omega)) hset.2 (by intro y hy; simp at hy; omega)
    · have q1 := ((HX.out.1.trans HX.out.2.1).mono (S' := S) (by simp)).trans hc1
      exact ((q1.trans' hcx (by intro y hy; right; simp at hy; omega)).trans' hc2 (by intro y hy; right; simp at hy; omega)).trans' hset.2 (by intro y hy; right; simp at hy; omega)
end Go.Proofs.YtiekahnpnaldjaaDoor
