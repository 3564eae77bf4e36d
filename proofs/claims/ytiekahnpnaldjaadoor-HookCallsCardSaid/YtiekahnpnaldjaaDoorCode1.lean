/-
  The statements' extractors, as hook.Extract calls them.
-/
import Derived.Test.YtiekahnpnaldjaaDoorExt2
import Derived.Test.YtiekahnpnaldjaaDoorPlay2
import Derived.Test.YtiekahnpnaldjaaDoorHook5
namespace Go.Proofs.YtiekahnpnaldjaaDoor
open Go.RowKit

/-- Four zero cells are written in the midst of a block. -/
theorem zero4 {w : World} {g i : Nat} {cur : Array Value} {t : TypeId} (h : w.heap[g]? = some (.cells cur t (0, 0))) :
    ∃ cur', ((((w.setCell ⟨g, i, none⟩ (.int .i64 0)).setCell ⟨g, i + 1, none⟩ (.int .i64 0)).setCell ⟨g, i + 2, none⟩ (.string ⟨#[]⟩)).setCell ⟨g, i + 3, none⟩ (.float .f64 0)).heap[g]? = some (.cells cur' t (0, 0)) ∧ cur'.size = cur.size :=
  ⟨_, heap_setCell_same (heap_setCell_same (heap_setCell_same (heap_setCell_same h))), by simp⟩
theorem CopiedOwn.row {w w' : World} {sv' : Value} {l : List V} (h : CopiedOwn w w' sv' l) (hl : l ≠ []) :
    ∃ g cap cur, sv' = .slice (some ⟨g, 0, none⟩) l.length cap ∧ w.heap.size ≤ g ∧ w'.heap[g]? = some (.cells cur 38 (0, 0)) ∧ l.length * 4 ≤ cur.size ∧ VRow w' g 0 sv' l := by
  obtain ⟨g, cap, cur, e, hg, hh, _, hv⟩ := h.block hl
  refine ⟨g, cap, cur, e, hg, hh, ?_, hv⟩
  rcases h.1.2 with ⟨e2, h0⟩ | ⟨g2, cap2, cur2, e2, _, hh2, hn2, _, hs2, _⟩
  · exact absurd (List.eq_nil_of_length_eq_zero h0) hl
  · rw [e] at e2
    injection e2 with e3 e4 e5
    injection e3 with e3
    injection e3 with e3
    subst e3
    rw [hh] at hh2
    simp at hh2
    subst hh2
    omega
theorem some_of_lt {cur : Array Value} {i : Nat} (h : i < cur.size) : ∃ v, cur[i]? = some v := ⟨_, Array.getElem?_eq_getElem h⟩

set_option maxRecDepth 100000 in
set_option maxHeartbeats 2000000 in
/-- The extractor, where the meter lets it pass: of no values. -/
theorem code_nil (n : Int) (m : Value) (mb nb : Nat) (l : List V) (sv' : Value) (W0 W : World) (S : List Nat) (T : World → Prop) (hp : ∃ a, m = .pointer a)
    (hc : CopiedOwn W0 W sv' l) (hm : W.heap[mb]? = some (.cells #[m] 55 (0, 0))) (hn : W.heap[nb]? = some (.cells #[.int .i64 n] 3 (0, 0))) (nS : nb ∉ S) (hS : ∀ x, x ∈ S → x < W0.heap.size)
    (ht : ∀ W', Ch [] W W' → Calls Tryd.prog 78 #[m] W' fun e w' => e = .returned .nilIface ∧ T w' ∧ Ch S W' w') (hT : Lasts W0 T) (ol : OkL l) (hl : l.length ≤ 9223372036854775807) (h0 : l = []) :
    Calls Tryd.prog 90 #[sv', .pointer (some ⟨mb, 0, none⟩), .pointer (some ⟨nb, 0, none⟩)] W fun e w' => e = .returned (.tuple #[.agg (V.arr (extV n l)), .nilIface]) ∧ T w' ∧ Ch S W0 w' := by
  obtain ⟨a, rfl⟩ := hp
  have k0 := cell_of_one hm
  have z0 := lt_of_block hm
  have hsW := hc.2.size
  obtain ⟨b0, hb0, hrow⟩ := VRow.of_own hc.1
  have hl0 : (l.length : Int) = 0 := by rw [h0]; rfl
  clear h0
  obtain ⟨aa, ca, rfl, _⟩ := hrow.shape
  have HT := Lib.hid (fun W' (h : Ch [] W W') => ht W' h)
  have H := Lib.hid (And.intro hn (And.intro nS (And.intro hS (And.intro hT (And.intro ol (And.intro hl hc.2))))))
  have HR := Lib.hid hrow
  have hres := heap_alloc_same W (.cells (V.arr V.zero) 38)
  have HZ := Lib.hid hres
  clear ht hn nS hS hT ol hl hrow hc hm hres
  go_enter Tryd.func90, Tryd.ntmps90
  go_wp2_with (go_at_call 78; refine (HT.out _ ((Ch.refl _ W).alloc _)).mono ?_)
  rintro e w1 ⟨rfl, hT1, hc1⟩
  have hs1 := hc1.size
  simp at hs1
  have hnb := hc1.heap (heap_alloc_past (o := .cells (V.arr V.zero) 38) H.out.1) H.out.2.1
  have k1 := cell_of_one hnb
  have hr1 := (HR.out.ch0 ((Ch.refl _ W).alloc (.cells (V.arr V.zero) 38))).ch hc1 (fun hh => by have := H.out.2.2.1 _ hh; omega)
  have HE := Lib.hid (extract_ref n l b0 0 _ w1 hr1 H.out.2.2.2.2.1 H.out.2.2.2.2.2.1)
  have HZ1 := Lib.hid (hc1.heap HZ.out (fun hh => by have := H.out.2.2.1 _ hh; omega))
  skip
  have H1 := Lib.hid (And.intro hT1 hc1)
  clear hT1 hc1 hnb hr1
  go_wp2_with (go_at_call 34; refine HE.out.mono ?_)
  rintro e w2 ⟨rfl, hc2⟩
  have hs2 := hc2.size
  have h3 := heap_alloc_same w2 (.cells (V.arr (extV n l)) 38)
  have H2 := Lib.hid (And.intro hc2 h3)
  clear hc2 h3
  generalize hx : extV n l = x at *
  have HV := Lib.hid hx
  clear hx
  unfold V.arr at *
  go_wp2_with fail
  refine wp_loop_rounds 1 ?_
  rw [rounds_succ]
  have hz := heap_alloc_past (o := .cells #[.int .i64 x.k, .int .i64 x.i, .string x.s, .float .f64 x.f] 38) (H2.out.1.heap HZ1.out (by simp))
  have hv := H2.out.2
  have g0 := (cell_of (i := 0) hv).trans rfl
  have g1 := (cell_of (i := 1) hv).trans rfl
  have g2 := (cell_of (i := 2) hv).trans rfl
  have g3 := (cell_of (i := 3) hv).trans rfl
  have t0 := (cell_of (i := 0) hz).trans rfl
  have t1 := (cell_of (i := 1) hz).trans rfl
  have t2 := (cell_of (i := 2) hz).trans rfl
  have t3 := (cell_of (i := 3) hz).trans rfl
  have f0 := free_of (i := 0) hz
  have f1 := free_of (i := 1) hz
  have f2 := free_of (i := 2) hz
  have f3 := free_of (i := 3) hz
  have y0 := lt_of_block hz
  have y1 := lt_of_block hv
  have HX := Lib.hid (set4 x hz)
  clear hz hv
  go_wp2
  try simp only [Exit.inBlock, Exit.then]
  refine bodyPost_ret (v := .tuple #[.agg #[.int .i64 x.k, .int .i64 x.i, .string x.s, .float .f64 x.f], .nilIface]) ?_ rfl ?_
  · rw [results_cell_tmp rfl]
    go_simp
  · have hB := (((H2.out.1.mono (S' := [W.heap.size]) (by simp)).alloc (.cells #[.int .i64 x.k, .int .i64 x.i, .string x.s, .float .f64 x.f] 38))).trans HX.out.2
    have hC := ((H.out.2.2.2.2.2.2.mono (S' := S) (by simp)).trans (((Ch.refl S W).alloc _).trans H1.out.2)).trans' hB (by intro y hy; right; simp at hy; omega)
    exact ⟨by rw [HV.out], H.out.2.2.2.1 _ _ _ H1.out.1 hB (by intro y hy; simp at hy; omega), hC⟩

set_option maxRecDepth 100000 in
set_option maxHeartbeats 2000000 in
/-- .. of some. -/
theorem code_some (n : Int) (m : Value) (mb nb : Nat) (l : List V) (sv' : Value) (W0 W : World) (S : List Nat) (T : World → Prop) (hp : ∃ a, m = .pointer a)
    (hc : CopiedOwn W0 W sv' l) (hm : W.heap[mb]? = some (.cells #[m] 55 (0, 0))) (hn : W.heap[nb]? = some (.cells #[.int .i64 n] 3 (0, 0))) (nS : nb ∉ S) (hS : ∀ x, x ∈ S → x < W0.heap.size)
    (ht : ∀ W', Ch [] W W' → Calls Tryd.prog 78 #[m] W' fun e w' => e = .returned .nilIface ∧ T w' ∧ Ch S W' w') (hT : Lasts W0 T) (ol : OkL l) (hl : l.length ≤ 9223372036854775807) (h0 : l ≠ []) :
    Calls Tryd.prog 90 #[sv', .pointer (some ⟨mb, 0, none⟩), .pointer (some ⟨nb, 0, none⟩)] W fun e w' => e = .returned (.tuple #[.agg (V.arr (extV n l)), .nilIface]) ∧ T w' ∧ Ch S W0 w' := by
  obtain ⟨a, rfl⟩ := hp
  have k0 := cell_of_one hm
  have z0 := lt_of_block hm
  have hsW := hc.2.size
  obtain ⟨g, gc, cur, rfl, hg, hh, hcap, hgv⟩ := hc.row h0
  have hpos : 0 < l.length := List.length_pos_iff.2 h0
  clear h0
  have HT := Lib.hid (fun W' (h : Ch [] W W') => ht W' h)
  have H := Lib.hid (And.intro hn (And.intro nS (And.intro hS (And.intro hT (And.intro ol (And.intro hl hc.2))))))
  have HR := Lib.hid hgv
  have hres := heap_alloc_same W (.cells (V.arr V.zero) 38)
  have HZ := Lib.hid hres
  clear ht hn nS hS hT ol hl hgv hc hm hres
  go_enter Tryd.func90, Tryd.ntmps90
  go_wp2_with (go_at_call 78; refine (HT.out _ ((Ch.refl _ W).alloc _)).mono ?_)
  rintro e w1 ⟨rfl, hT1, hc1⟩
  have hs1 := hc1.size
  simp at hs1
  have hnb := hc1.heap (heap_alloc_past (o := .cells (V.arr V.zero) 38) H.out.1) H.out.2.1
  have k1 := cell_of_one hnb
  have hr1 := (HR.out.ch0 ((Ch.refl _ W).alloc (.cells (V.arr V.zero) 38))).ch hc1 (fun hh => by have := H.out.2.2.1 _ hh; omega)
  have HE := Lib.hid (extract_ref n l g 0 _ w1 hr1 H.out.2.2.2.2.1 H.out.2.2.2.2.2.1)
  have HZ1 := Lib.hid (hc1.heap HZ.out (fun hh => by have := H.out.2.2.1 _ hh; omega))
  have HG := Lib.hid (And.intro (hc1.heap (heap_alloc_past (o := .cells (V.arr V.zero) 38) hh) (fun hx => by have := H.out.2.2.1 _ hx; omega)) (And.intro hg hcap))
  have HGW := Lib.hid (lt_of_block hh)
  clear hh hg hcap
  have H1 := Lib.hid (And.intro hT1 hc1)
  clear hT1 hc1 hnb hr1
  go_wp2_with (go_at_call 34; refine HE.out.mono ?_)
  rintro e w2 ⟨rfl, hc2⟩
  have hs2 := hc2.size
  have h3 := heap_alloc_same w2 (.cells (V.arr (extV n l)) 38)
  have H2 := Lib.hid (And.intro hc2 h3)
  clear hc2 h3
  generalize hx : extV n l = x at *
  have HV := Lib.hid hx
  clear hx
  unfold V.arr at *
  go_wp2_with fail
  go_loopg [8] l.length (fun k i wr => ∃ j : Nat, k + j = l.length ∧ i = .int .i64 j ∧ (∃ cs, wr.heap[g]? = some (.cells cs 38 (0, 0)) ∧ l.length * 4 ≤ cs.size) ∧ Ch [g] (w2.alloc (.cells #[.int .i64 x.k, .int .i64 x.i, .string x.s, .float .f64 x.f] 38)) wr)
  case atStart => exact ⟨0, rfl, rfl, ⟨cur, heap_alloc_past (H2.out.1.heap HG.out.1 (by simp)), HG.out.2.2⟩, Ch.refl _ _⟩
  case round =>
    obtain ⟨j, hkj, rfl, ⟨cs, hb, hcs⟩, hch⟩ := hrel
    by_cases hlt : j < l.length
    · obtain ⟨u0, e0⟩ := some_of_lt (show j * 4 < cs.size by omega)
      obtain ⟨u1, e1⟩ := some_of_lt (show j * 4 + 1 < cs.size by omega)
      obtain ⟨u2, e2⟩ := some_of_lt (show j * 4 + 2 < cs.size by omega)
      obtain ⟨u3, e3⟩ := some_of_lt (show j * 4 + 3 < cs.size by omega)
      have t0 := (cell_of (i := j * 4) hb).trans e0
      have t1 := (cell_of (i := j * 4 + 1) hb).trans e1
      have t2 := (cell_of (i := j * 4 + 2) hb).trans e2
      have t3 := (cell_of (i := j * 4 + 3) hb).trans e3
      have f0 := free_of (i := j * 4) hb
      have f1 := free_of (i := j * 4 + 1) hb
      have f2 := free_of (i := j * 4 + 2) hb
      have f3 := free_of (i := j * 4 + 3) hb
      have j0 : (j : Int) < (l.length : Int) := by omega
      have y0 := lt_of_block hb
      have hll := H.out.2.2.2.2.2.1
      have HB := Lib.hid (And.intro (zero4 (i := j * 4) hb) (And.intro hch (And.intro hkj hcs)))
      clear hb hch hkj hcs e0 e1 e2 e3
      go_wp2
      go_roundg (gk - 1)
      case measure => have := HB.out.2.2.1; omega
      case rel =>
        obtain ⟨cur', hb', hsz⟩ := HB.out.1
        exact ⟨j + 1, by have := HB.out.2.2.1; omega, by go_num, ⟨cur', hb', by have := HB.out.2.2.2; omega⟩, ((((HB.out.2.1.setCell (by simp) _).setCell (by simp) _).setCell (by simp) _).setCell (by simp) _)⟩
    · obtain rfl : j = l.length := by omega
      have hgw : g < W.heap.size := by have := lt_of_block HG.out.1; have := HGW.out; omega
      have hz := hch.heap (heap_alloc_past (o := .cells #[.int .i64 x.k, .int .i64 x.i, .string x.s, .float .f64 x.f] 38) (H2.out.1.heap HZ1.out (by simp))) (by simp; omega)
      have hs4 := H2.out.1.size
      have hs5 := H1.out.2.size
      simp at hs5
      have hv := hch.heap H2.out.2 (by simp; omega)
      have HL := Lib.hid hch
      clear hkj hb hcs hch hlt
      have g0 := (cell_of (i := 0) hv).trans rfl
      have g1 := (cell_of (i := 1) hv).trans rfl
      have g2 := (cell_of (i := 2) hv).trans rfl
      have g3 := (cell_of (i := 3) hv).trans rfl
      have t0 := (cell_of (i := 0) hz).trans rfl
      have t1 := (cell_of (i := 1) hz).trans rfl
      have t2 := (cell_of (i := 2) hz).trans rfl
      have t3 := (cell_of (i := 3) hz).trans rfl
      have f0 := free_of (i := 0) hz
      have f1 := free_of (i := 1) hz
      have f2 := free_of (i := 2) hz
      have f3 := free_of (i := 3) hz
      have y0 := lt_of_block hz
      have y1 := lt_of_block hv
      have HX := Lib.hid (set4 x hz)
      clear hz hv
      go_wp2
      try simp only [Exit.inBlock, Exit.then]
      refine bodyPost_ret (v := .tuple #[.agg #[.int .i64 x.k, .int .i64 x.i, .string x.s, .float .f64 x.f], .nilIface]) ?_ rfl ?_
      · rw [results_cell_tmp rfl]
        go_simp
      · have hB := (((H2.out.1.mono (S' := [g, W.heap.size]) (by simp)).alloc (.cells #[.int .i64 x.k, .int .i64 x.i, .string x.s, .float .f64 x.f] 38)).trans (HL.out.mono (by simp))).trans (HX.out.2.mono (by simp))
        have hC := ((H.out.2.2.2.2.2.2.mono (S' := S) (by simp)).trans (((Ch.refl S W).alloc _).trans H1.out.2)).trans' hB (by intro y hy; right; have := HG.out.2.1; simp at hy; omega)
        exact ⟨by rw [HV.out], H.out.2.2.2.1 _ _ _ H1.out.1 hB (by intro y hy; have := HG.out.2.1; simp at hy; omega), hC⟩

theorem code_go (n : Int) (m : Value) (mb nb : Nat) (l : List V) (sv' : Value) (W0 W : World) (S : List Nat) (T : World → Prop) (hp : ∃ a, m = .pointer a)
    (hc : CopiedOwn W0 W sv' l) (hm : W.heap[mb]? = some (.cells #[m] 55 (0, 0))) (hn : W.heap[nb]? = some (.cells #[.int .i64 n] 3 (0, 0))) (nS : nb ∉ S) (hS : ∀ x, x ∈ S → x < W0.heap.size)
    (ht : ∀ W', Ch [] W W' → Calls Tryd.prog 78 #[m] W' fun e w' => e = .returned .nilIface ∧ T w' ∧ Ch S W' w') (hT : Lasts W0 T) (ol : OkL l) (hl : l.length ≤ 9223372036854775807) :
    Calls Tryd.prog 90 #[sv', .pointer (some ⟨mb, 0, none⟩), .pointer (some ⟨nb, 0, none⟩)] W fun e w' => e = .returned (.tuple #[.agg (V.arr (extV n l)), .nilIface]) ∧ T w' ∧ Ch S W0 w' :=
  if h0 : l = [] then code_nil n m mb nb l sv' W0 W S T hp hc hm hn nS hS ht hT ol hl h0 else code_some n m mb nb l sv' W0 W S T hp hc hm hn nS hS ht hT ol hl h0
end Go.Proofs.YtiekahnpnaldjaaDoor
