/-
  HookCalls: extractors, mutators, comparators: what they tell, or the fault. The walk.
-/
import Derived.Test.YtiekahnpnaldjaaDoorHc4
namespace Go.Proofs.YtiekahnpnaldjaaDoor
open Go.RowKit

set_option maxRecDepth 100000 in
set_option maxHeartbeats 2000000 in
/-- The extractor, where the meter lets it pass: of no values. -/
theorem code_nil2 (n : Int) (m : Value) (mb nb : Nat) (l : List V) (sv' : Value) (W0 W : World) (S : List Nat) (T : World → Prop) (hp : ∃ a, m = .pointer a)
    (hc : CopiedOwn W0 W sv' l) (hm : W.heap[mb]? = some (.cells #[m] 55 (0, 0))) (hn : W.heap[nb]? = some (.cells #[.int .i64 n] 3 (0, 0))) (nS : nb ∉ S) (hS : ∀ x, x ∈ S → x < W0.heap.size)
    (ht : ∀ W', Ch [] W W' → Calls Tryd.prog 78 #[m] W' fun e w' => e = .returned .nilIface ∧ T w' ∧ Ch S W' w') (hT : Lasts W0 T) (ol : OkL l) (hl : l.length ≤ 9223372036854775807) (h0 : l = []) :
    Calls Tryd.prog 90 #[sv', .pointer (some ⟨mb, 0, none⟩), .pointer (some ⟨nb, 0, none⟩)] W fun e w' => e = .returned (.tuple #[.agg (V.arr (extV n l)), .nilIface]) ∧ T w' ∧ Ch S W0 w' ∧ ∃ G, (∀ x, x ∈ G → sv'.ownBlock = some x) ∧ Ch (G ++ S) W w' := by
  obtain ⟨a, rfl⟩ := hp
  have k0 := cell_of_one hm
  have z0 := lt_of_block hm
  have hsW := hc.2.size
  obtain ⟨b0, hb0, hrow⟩ := VRow.of_own hc.1
  have hl0 : (l.length : Int) = 0 := by rw [h0]; rfl
  clear h0
  obtain ⟨aa, ca, rfl, _⟩ := hrow.shape
  have HT := Lib.hid (fun W' (h : Ch [] W W') => ht W' h)
  have H := Lib.hid (And.intro hn (And.intro nS (And.intro hS (And.intro hT (And.intro ol (And.intro hl hc.2))))))
  have HR := Lib.hid hrow
  have hres := heap_alloc_same W (.cells (V.arr V.zero) 38)
  have HZ := Lib.hid hres
  clear ht hn nS hS hT ol hl hrow hc hm hres
  go_enter Tryd.func90, Tryd.ntmps90
  go_wp2_with (go_at_call 78; refine (HT.out _ ((Ch.refl _ W).alloc _)).mono ?_)
  rintro e w1 ⟨rfl, hT1, hc1⟩
  have hs1 := hc1.size
  simp at hs1
  have hnb := hc1.heap (heap_alloc_past (o := .cells (V.arr V.zero) 38) H.out.1) H.out.2.1
  have k1 := cell_of_one hnb
  have hr1 := (HR.out.ch0 ((Ch.refl _ W).alloc (.cells (V.arr V.zero) 38))).ch hc1 (fun hh => by have := H.out.2.2.1 _ hh; omega)
  have HE := Lib.hid (extract_ref n l b0 0 _ w1 hr1 H.out.2.2.2.2.1 H.out.2.2.2.2.2.1)
  have HZ1 := Lib.hid (hc1.heap HZ.out (fun hh => by have := H.out.2.2.1 _ hh; omega))
  skip
  have H1 := Lib.hid (And.intro hT1 hc1)
  clear hT1 hc1 hnb hr1
  go_wp2_with (go_at_call 34; refine HE.out.mono ?_)
  rintro e w2 ⟨rfl, hc2⟩
  have hs2 := hc2.size
  have h3 := heap_alloc_same w2 (.cells (V.arr (extV n l)) 38)
  have H2 := Lib.hid (And.intro hc2 h3)
  clear hc2 h3
  generalize hx : extV n l = x at *
  have HV := Lib.hid hx
  clear hx
  unfold V.arr at *
  go_wp2_with fail
  refine wp_loop_rounds 1 ?_
  rw [rounds_succ]
  have hz := heap_alloc_past (o := .cells #[.int .i64 x.k, .int .i64 x.i, .string x.s, .float .f64 x.f] 38) (H2.out.1.heap HZ1.out (by simp))
  have hv := H2.out.2
  have g0 := (cell_of (i := 0) hv).trans rfl
  have g1 := (cell_of (i := 1) hv).trans rfl
  have g2 := (cell_of (i := 2) hv).trans rfl
  have g3 := (cell_of (i := 3) hv).trans rfl
  have t0 := (cell_of (i := 0) hz).trans rfl
  have t1 := (cell_of (i := 1) hz).trans rfl
  have t2 := (cell_of (i := 2) hz).trans rfl
  have t3 := (cell_of (i := 3) hz).trans rfl
  have f0 := free_of (i := 0) hz
  have f1 := free_of (i := 1) hz
  have f2 := free_of (i := 2) hz
  have f3 := free_of (i := 3) hz
  have y0 := lt_of_block hz
  have y1 := lt_of_block hv
  have HX := Lib.hid (set4 x hz)
  clear hz hv
  go_wp2
  try simp only [Exit.inBlock, Exit.then]
  refine bodyPost_ret (v := .tuple #[.agg #[.int .i64 x.k, .int .i64 x.i, .string x.s, .float .f64 x.f], .nilIface]) ?_ rfl ?_
  · rw [results_cell_tmp rfl]
    go_simp
  · have hB := (((H2.out.1.mono (S' := [W.heap.size]) (by simp)).alloc (.cells #[.int .i64 x.k, .int .i64 x.i, .string x.s, .float .f64 x.f] 38))).trans HX.out.2
    have hC := ((H.out.2.2.2.2.2.2.mono (S' := S) (by simp)).trans (((Ch.refl S W).alloc _).trans H1.out.2)).trans' hB (by intro y hy; right; simp at hy; omega)
    exact ⟨by rw [HV.out], H.out.2.2.2.1 _ _ _ H1.out.1 hB (by intro y hy; simp at hy; omega), hC, [], by simp, (((Ch.refl S W).alloc _).trans H1.out.2).trans' hB (by intro y hy; right; simp at hy; omega)⟩

set_option maxRecDepth 100000 in
set_option maxHeartbeats 2000000 in
/-- .. of some. -/
theorem code_some2 (n : Int) (m : Value) (mb nb : Nat) (l : List V) (sv' : Value) (W0 W : World) (S : List Nat) (T : World → Prop) (hp : ∃ a, m = .pointer a)
    (hc : CopiedOwn W0 W sv' l) (hm : W.heap[mb]? = some (.cells #[m] 55 (0, 0))) (hn : W.heap[nb]? = some (.cells #[.int .i64 n] 3 (0, 0))) (nS : nb ∉ S) (hS : ∀ x, x ∈ S → x < W0.heap.size)
    (ht : ∀ W', Ch [] W W' → Calls Tryd.prog 78 #[m] W' fun e w' => e = .returned .nilIface ∧ T w' ∧ Ch S W' w') (hT : Lasts W0 T) (ol : OkL l) (hl : l.length ≤ 9223372036854775807) (h0 : l ≠ []) :
    Calls Tryd.prog 90 #[sv', .pointer (some ⟨mb, 0, none⟩), .pointer (some ⟨nb, 0, none⟩)] W fun e w' => e = .returned (.tuple #[.agg (V.arr (extV n l)), .nilIface]) ∧ T w' ∧ Ch S W0 w' ∧ ∃ G, (∀ x, x ∈ G → sv'.ownBlock = some x) ∧ Ch (G ++ S) W w' := by
  obtain ⟨a, rfl⟩ := hp
  have k0 := cell_of_one hm
  have z0 := lt_of_block hm
  have hsW := hc.2.size
  obtain ⟨g, gc, cur, rfl, hg, hh, hcap, hgv⟩ := hc.row h0
  have hpos : 0 < l.length := List.length_pos_iff.2 h0
  clear h0
  have HT := Lib.hid (fun W' (h : Ch [] W W') => ht W' h)
  have H := Lib.hid (And.intro hn (And.intro nS (And.intro hS (And.intro hT (And.intro ol (And.intro hl hc.2))))))
  have HR := Lib.hid hgv
  have hres := heap_alloc_same W (.cells (V.arr V.zero) 38)
  have HZ := Lib.hid hres
  clear ht hn nS hS hT ol hl hgv hc hm hres
  go_enter Tryd.func90, Tryd.ntmps90
  go_wp2_with (go_at_call 78; refine (HT.out _ ((Ch.refl _ W).alloc _)).mono ?_)
  rintro e w1 ⟨rfl, hT1, hc1⟩
  have hs1 := hc1.size
  simp at hs1
  have hnb := hc1.heap (heap_alloc_past (o := .cells (V.arr V.zero) 38) H.out.1) H.out.2.1
  have k1 := cell_of_one hnb
  have hr1 := (HR.out.ch0 ((Ch.refl _ W).alloc (.cells (V.arr V.zero) 38))).ch hc1 (fun hh => by have := H.out.2.2.1 _ hh; omega)
  have HE := Lib.hid (extract_ref n l g 0 _ w1 hr1 H.out.2.2.2.2.1 H.out.2.2.2.2.2.1)
  have HZ1 := Lib.hid (hc1.heap HZ.out (fun hh => by have := H.out.2.2.1 _ hh; omega))
  have HG := Lib.hid (And.intro (hc1.heap (heap_alloc_past (o := .cells (V.arr V.zero) 38) hh) (fun hx => by have := H.out.2.2.1 _ hx; omega)) (And.intro hg hcap))
  have HGW := Lib.hid (lt_of_block hh)
  clear hh hg hcap
  have H1 := Lib.hid (And.intro hT1 hc1)
  clear hT1 hc1 hnb hr1
  go_wp2_with (go_at_call 34; refine HE.out.mono ?_)
  rintro e w2 ⟨rfl, hc2⟩
  have hs2 := hc2.size
  have h3 := heap_alloc_same w2 (.cells (V.arr (extV n l)) 38)
  have H2 := Lib.hid (And.intro hc2 h3)
  clear hc2 h3
  generalize hx : extV n l = x at *
  have HV := Lib.hid hx
  clear hx
  unfold V.arr at *
  go_wp2_with fail
  go_loopg [8] l.length (fun k i wr => ∃ j : Nat, k + j = l.length ∧ i = .int .i64 j ∧ (∃ cs, wr.heap[g]? = some (.cells cs 38 (0, 0)) ∧ l.length * 4 ≤ cs.size) ∧ Ch [g] (w2.alloc (.cells #[.int .i64 x.k, .int .i64 x.i, .string x.s, .float .f64 x.f] 38)) wr)
  case atStart => exact ⟨0, rfl, rfl, ⟨cur, heap_alloc_past (H2.out.1.heap HG.out.1 (by simp)), HG.out.2.2⟩, Ch.refl _ _⟩
  case round =>
    obtain ⟨j, hkj, rfl, ⟨cs, hb, hcs⟩, hch⟩ := hrel
    by_cases hlt : j < l.length
    · obtain ⟨u0, e0⟩ := some_of_lt (show j * 4 < cs.size by omega)
      obtain ⟨u1, e1⟩ := some_of_lt (show j * 4 + 1 < cs.size by omega)
      obtain ⟨u2, e2⟩ := some_of_lt (show j * 4 + 2 < cs.size by omega)
      obtain ⟨u3, e3⟩ := some_of_lt (show j * 4 + 3 < cs.size by omega)
      have t0 := (cell_of (i := j * 4) hb).trans e0
      have t1 := (cell_of (i := j * 4 + 1) hb).trans e1
      have t2 := (cell_of (i := j * 4 + 2) hb).trans e2
      have t3 := (cell_of (i := j * 4 + 3) hb).trans e3
      have f0 := free_of (i := j * 4) hb
      have f1 := free_of (i := j * 4 + 1) hb
      have f2 := free_of (i := j * 4 + 2) hb
      have f3 := free_of (i := j * 4 + 3) hb
      have j0 : (j : Int) < (l.length : Int) := by omega
      have y0 := lt_of_block hb
      have hll := H.out.2.2.2.2.2.1
      have HB := Lib.hid (And.intro (zero4 (i := j * 4) hb) (And.intro hch (And.intro hkj hcs)))
      clear hb hch hkj hcs e0 e1 e2 e3
      go_wp2
      go_roundg (gk - 1)
      case measure => have := HB.out.2.2.1; omega
      case rel =>
        obtain ⟨cur', hb', hsz⟩ := HB.out.1
        exact ⟨j + 1, by have := HB.out.2.2.1; omega, by go_num, ⟨cur', hb', by have := HB.out.2.2.2; omega⟩, ((((HB.out.2.1.setCell (by simp) _).setCell (by simp) _).setCell (by simp) _).setCell (by simp) _)⟩
    · obtain rfl : j = l.length := by omega
      have hgw : g < W.heap.size := by have := lt_of_block HG.out.1; have := HGW.out; omega
      have hz := hch.heap (heap_alloc_past (o := .cells #[.int .i64 x.k, .int .i64 x.i, .string x.s, .float .f64 x.f] 38) (H2.out.1.heap HZ1.out (by simp))) (by simp; omega)
      have hs4 := H2.out.1.size
      have hs5 := H1.out.2.size
      simp at hs5
      have hv := hch.heap H2.out.2 (by simp; omega)
      have HL := Lib.hid hch
      clear hkj hb hcs hch hlt
      have g0 := (cell_of (i := 0) hv).trans rfl
      have g1 := (cell_of (i := 1) hv).trans rfl
      have g2 := (cell_of (i := 2) hv).trans rfl
      have g3 := (cell_of (i := 3) hv).trans rfl
      have t0 := (cell_of (i := 0) hz).trans rfl
      have t1 := (cell_of (i := 1) hz).trans rfl
      have t2 := (cell_of (i := 2) hz).trans rfl
      have t3 := (cell_of (i := 3) hz).trans rfl
      have f0 := free_of (i := 0) hz
      have f1 := free_of (i := 1) hz
      have f2 := free_of (i := 2) hz
      have f3 := free_of (i := 3) hz
      have y0 := lt_of_block hz
      have y1 := lt_of_block hv
      have HX := Lib.hid (set4 x hz)
      clear hz hv
      go_wp2
      try simp only [Exit.inBlock, Exit.then]
      refine bodyPost_ret (v := .tuple #[.agg #[.int .i64 x.k, .int .i64 x.i, .string x.s, .float .f64 x.f], .nilIface]) ?_ rfl ?_
      · rw [results_cell_tmp rfl]
        go_simp
      · have hB := (((H2.out.1.mono (S' := [g, W.heap.size]) (by simp)).alloc (.cells #[.int .i64 x.k, .int .i64 x.i, .string x.s, .float .f64 x.f] 38)).trans (HL.out.mono (by simp))).trans (HX.out.2.mono (by simp))
        have hC := ((H.out.2.2.2.2.2.2.mono (S' := S) (by simp)).trans (((Ch.refl S W).alloc _).trans H1.out.2)).trans' hB (by intro y hy; right; have := HG.out.2.1; simp at hy; omega)
        exact ⟨by rw [HV.out], H.out.2.2.2.1 _ _ _ H1.out.1 hB (by intro y hy; have := HG.out.2.1; simp at hy; omega), hC, [g], by intro y hy; simp at hy; subst hy; rfl, ((((Ch.refl S W).alloc _).trans H1.out.2).mono (S' := [g] ++ S) (by intro y hy; simp [hy])).trans' hB (by intro y hy; simp at hy; rcases hy with rfl | rfl; exact .inl (by simp); exact .inr (Nat.le_refl _))⟩

theorem code_go2 (n : Int) (m : Value) (mb nb : Nat) (l : List V) (sv' : Value) (W0 W : World) (S : List Nat) (T : World → Prop) (hp : ∃ a, m = .pointer a)
    (hc : CopiedOwn W0 W sv' l) (hm : W.heap[mb]? = some (.cells #[m] 55 (0, 0))) (hn : W.heap[nb]? = some (.cells #[.int .i64 n] 3 (0, 0))) (nS : nb ∉ S) (hS : ∀ x, x ∈ S → x < W0.heap.size)
    (ht : ∀ W', Ch [] W W' → Calls Tryd.prog 78 #[m] W' fun e w' => e = .returned .nilIface ∧ T w' ∧ Ch S W' w') (hT : Lasts W0 T) (ol : OkL l) (hl : l.length ≤ 9223372036854775807) :
    Calls Tryd.prog 90 #[sv', .pointer (some ⟨mb, 0, none⟩), .pointer (some ⟨nb, 0, none⟩)] W fun e w' => e = .returned (.tuple #[.agg (V.arr (extV n l)), .nilIface]) ∧ T w' ∧ Ch S W0 w' ∧ ∃ G, (∀ x, x ∈ G → sv'.ownBlock = some x) ∧ Ch (G ++ S) W w' :=
  if h0 : l = [] then code_nil2 n m mb nb l sv' W0 W S T hp hc hm hn nS hS ht hT ol hl h0 else code_some2 n m mb nb l sv' W0 W S T hp hc hm hn nS hS ht hT ol hl h0

theorem hooked_pick {w : World} {D : Nat} {f : FuncId} {T : TypeId} {mb k g c : Nat} {c1 a1 h1 s1 : Int} (h : Hooked w D f T (meterPtr mb) k (.slice (some ⟨g, 0, none⟩) k c)) (hm : MeterAt w mb c1 a1 h1 s1) (hT : T ≠ 57) (i : Nat) (hi : i < k) :
    ∃ qb nb, ∀ W, Ch [mb] w W → W.cell? ⟨g, i, none⟩ = some (codeFn f qb nb) ∧ W.heap[qb]? = some (.cells #[meterPtr mb] 55 (0, 0)) ∧ W.heap[nb]? = some (.cells #[.int .i64 i] 3 (0, 0)) := by
  obtain ⟨fs, ho, hc⟩ := h
  have hl := ho.1
  rcases ho.2 with ⟨_, h0⟩ | ⟨g2, cap, cur, e, hg, hh, hn, _, hs, ht⟩
  · omega
  · simp only [Value.slice.injEq, Option.some.injEq, Addr.mk.injEq, and_true, true_and] at e
    obtain ⟨rfl, rfl⟩ := e
    have hf : fs[i]? = some fs[i] := List.getElem?_eq_getElem (by omega)
    obtain ⟨qb, nb, hfv, _, _, hq, hnb⟩ := hc i _ hf
    refine ⟨qb, nb, fun W hW => ⟨?_, hW.heap hq (by simp; exact ne_of_elem hq hm (by decide)), hW.heap hnb (by simp; exact ne_of_elem hnb hm (by decide))⟩⟩
    rw [cell_of (hW.heap hh (by simp; exact ne_of_elem hh hm hT))]
    have h2 : cur.toList[i]? = fs[i]? := by
      rw [← ht, List.getElem?_take, if_pos (by omega)]
    rw [hf, hfv] at h2
    simpa using h2

theorem compare_a0 (nm : ByteArray) (n : Int) (mb qb nb : Nat) (la lb : List V) (ba oa bb ob : Nat) (sa sb : Value) (w : World) (hw : Int) (hn : 0 ≤ n ∧ n ≤ 2) (ha : VRow w ba oa sa la) (hb : VRow w bb ob sb lb) (oka : OkL la) (okb : OkL lb) (hla : la.length ≤ 1000) (hlb : lb.length ≤ 1000)
    (hsa : sizeV la ≤ 9223372036854775807) (hsb : sizeV lb ≤ 9223372036854775807) (hq : w.heap[qb]? = some (.cells #[meterPtr mb] 55 (0, 0))) (hnb : w.heap[nb]? = some (.cells #[.int .i64 n] 3 (0, 0))) (hm : MeterAt w mb 0 0 hw 0) :
    Calls Tryd.prog 39 #[.string nm, codeFn 91 qb nb, sa, sb] w fun e w' => ∃ x, e = .returned (.tuple #[.int .i64 x, .nilIface]) ∧ (-1 ≤ x ∧ x ≤ 1) ∧ MeterAt w' mb 1 0 hw 0 ∧ Ch [mb] w w' :=
  (compare_met2 nm n mb qb nb la lb ba oa bb ob sa sb w 0 hw hn ha hb oka okb hla hlb hsa hsb hq hnb hm (by omega) (by omega)).mono fun e w' h => by
    obtain ⟨hc, ⟨_, ⟨x, rfl, h0⟩, hm⟩ | ⟨h, _⟩⟩ := h
    · exact ⟨x, rfl, h0, hm, hc⟩
    · exact absurd h (by omega)
theorem compare_a1 (nm : ByteArray) (n : Int) (mb qb nb : Nat) (la lb : List V) (ba oa bb ob : Nat) (sa sb : Value) (w : World) (hw : Int) (hn : 0 ≤ n ∧ n ≤ 2) (ha : VRow w ba oa sa la) (hb : VRow w bb ob sb lb) (oka : OkL la) (okb : OkL lb) (hla : la.length ≤ 1000) (hlb : lb.length ≤ 1000)
    (hsa : sizeV la ≤ 9223372036854775807) (hsb : sizeV lb ≤ 9223372036854775807) (hq : w.heap[qb]? = some (.cells #[meterPtr mb] 55 (0, 0))) (hnb : w.heap[nb]? = some (.cells #[.int .i64 n] 3 (0, 0))) (hm : MeterAt w mb 0 1 hw 0) :
    Calls Tryd.prog 39 #[.string nm, codeFn 91 qb nb, sa, sb] w fun e w' => ∃ fb, e = .returned (.tuple #[.int .i64 0, .iface 102 (.pointer (some ⟨fb, 0, none⟩))]) ∧ Struck1 nm mb hw (.iface 102 (.pointer (some ⟨fb, 0, none⟩))) w' ∧ Ch [mb] w w' :=
  (compare_met2 nm n mb qb nb la lb ba oa bb ob sa sb w 1 hw hn ha hb oka okb hla hlb hsa hsb hq hnb hm (by omega) (by omega)).mono fun e w' h => by
    obtain ⟨hc, ⟨h, _⟩ | ⟨_, er, rfl, hs⟩⟩ := h
    · exact absurd h (by omega)
    · obtain ⟨fb, rfl⟩ := hs.shape
      exact ⟨fb, rfl, hs, hc⟩
theorem mutate_a0 (f : Int) (v : V) (mb qb nb vb : Nat) (l : List V) (b off : Nat) (sv : Value) (w : World) (hw : Int) (hr : VRow w b off sv l) (hl : l.length ≤ 999) (hf : f ≤ 9223372036854775807)
    (hq : w.heap[qb]? = some (.cells #[meterPtr mb] 55 (0, 0))) (hnb : w.heap[nb]? = some (.cells #[.int .i64 f] 3 (0, 0))) (hvb : w.heap[vb]? = some (.cells (V.arr v) 38 (0, 0))) (hm : MeterAt w mb 0 0 hw 0) :
    Calls Tryd.prog 24 #[.func (.func 77) #[] #[.pointer (some ⟨qb, 0, none⟩), .pointer (some ⟨nb, 0, none⟩), .pointer (some ⟨vb, 0, none⟩)], sv] w fun e w' => ∃ a' c b', e = .returned (.tuple #[.slice a' (setV l f v).length c, .nilIface]) ∧ VRow w' b' 0 (.slice a' (setV l f v).length c) (setV l f v) ∧ MeterAt w' mb 1 0 hw 0 ∧ Ch [mb] w w' :=
  (mutate_met2 f v mb qb nb vb l b off sv w 0 hw hr hl hf hq hnb hvb hm (by omega) (by omega)).mono fun e w' h => by
    obtain ⟨hc, ⟨_, ⟨a', c, b', rfl, hrow⟩, hm⟩ | ⟨h, _⟩⟩ := h
    · exact ⟨a', c, b', rfl, hrow, hm, hc⟩
    · exact absurd h (by omega)
theorem mutate_a1 (f : Int) (v : V) (mb qb nb vb : Nat) (l : List V) (b off : Nat) (sv : Value) (w : World) (hw : Int) (hr : VRow w b off sv l) (hl : l.length ≤ 999) (hf : f ≤ 9223372036854775807)
    (hq : w.heap[qb]? = some (.cells #[meterPtr mb] 55 (0, 0))) (hnb : w.heap[nb]? = some (.cells #[.int .i64 f] 3 (0, 0))) (hvb : w.heap[vb]? = some (.cells (V.arr v) 38 (0, 0))) (hm : MeterAt w mb 0 1 hw 0) :
    Calls Tryd.prog 24 #[.func (.func 77) #[] #[.pointer (some ⟨qb, 0, none⟩), .pointer (some ⟨nb, 0, none⟩), .pointer (some ⟨vb, 0, none⟩)], sv] w fun e w' => ∃ fb, e = .returned (.tuple #[.slice none 0 0, .iface 102 (.pointer (some ⟨fb, 0, none⟩))]) ∧ Struck1 ⟨#[]⟩ mb hw (.iface 102 (.pointer (some ⟨fb, 0, none⟩))) w' ∧ Ch [mb] w w' :=
  (mutate_met2 f v mb qb nb vb l b off sv w 1 hw hr hl hf hq hnb hvb hm (by omega) (by omega)).mono fun e w' h => by
    obtain ⟨hc, ⟨h, _⟩ | ⟨_, er, rfl, hs⟩⟩ := h
    · exact absurd h (by omega)
    · obtain ⟨fb, rfl⟩ := hs.shape
      exact ⟨fb, rfl, hs, hc⟩
abbrev sevenV : V := ⟨1, 7, ⟨#[]⟩, 0⟩
theorem sevenV_ok : sevenV.Ok := ⟨by simp, by simp, by simp, by simp, by simp, Nat.zero_le _⟩
theorem zeroV_ok : V.zero.Ok := ⟨by simp [V.zero], by simp [V.zero], by simp [V.zero], by simp [V.zero], by simp [V.zero], Nat.zero_le _⟩
theorem same_self (x : V) : (cmpV x x == 0) = true := by rw [ordr_V.refl]; rfl

structure HcSt (w W3 w4 : World) (U : Nat) (W : World) : Prop where
  q : Ch [U] W3 W
  h : Ch [] w W
  r : Ch [U] w4 W
theorem HcSt.next {w W3 w4 W W' : World} {U : Nat} (s : HcSt w W3 w4 U W) (hU : w.heap.size ≤ U) (hc : Ch [U] W W') : HcSt w W3 w4 U W' :=
  ⟨s.q.trans hc, s.h.trans' hc (by intro x hx; right; simp at hx; omega), s.r.trans hc⟩
theorem HcSt.next0 {w W3 w4 W W' : World} {U : Nat} (s : HcSt w W3 w4 U W) (hU : w.heap.size ≤ U) (hc : Ch [] W W') : HcSt w W3 w4 U W' := s.next hU (hc.mono (by simp))
theorem CopiedOwn.more {a b c : World} {sv : Value} {l : List V} (h : CopiedOwn a b sv l) (hc : Ch [] b c) : CopiedOwn a c sv l := ⟨own_kept hc h.1 (fun _ _ => by simp), h.2.trans hc⟩
theorem ext_code (n : Int) (mb qb nb : Nat) (l : List V) (sv' : Value) (w W0 W : World) (hw : Int) (hc : Ch [] w W0) (hcp : CopiedOwn W0 W sv' l)
    (hq : w.heap[qb]? = some (.cells #[meterPtr mb] 55 (0, 0))) (hn : w.heap[nb]? = some (.cells #[.int .i64 n] 3 (0, 0))) (hm : MeterAt w mb 0 0 hw 0) (ol : OkL l) (hl : l.length ≤ 1000) :
    Calls Tryd.prog 90 #[sv', .pointer (some ⟨qb, 0, none⟩), .pointer (some ⟨nb, 0, none⟩)] W fun e w' => e = .returned (.tuple #[.agg (V.arr (extV n l)), .nilIface]) ∧ MeterAt w' mb 1 0 hw 0 ∧ Ch [mb] W0 w' ∧ ∃ G, (∀ x, x ∈ G → sv'.ownBlock = some x) ∧ Ch (G ++ [mb]) W w' := by
  have hmb := lt_of_block hm
  have hnbm : nb ∉ [mb] := by simp; exact ne_of_elem hn hm (by decide)
  have hcc := hc.trans hcp.2
  refine code_go2 n (meterPtr mb) qb nb l sv' W0 W [mb] (fun w' => MeterAt w' mb 1 0 hw 0) ⟨_, rfl⟩ hcp (hcc.heap hq (by simp)) (hcc.heap hn (by simp)) hnbm (by simp; exact Nat.lt_of_lt_of_le hmb hc.size) ?_ (fun x y S h hc2 hS => h.ch hc2 (fun hx => by have := hS _ hx; have := hc.size; omega)) ol (by omega)
  intro W' hW'
  refine (tick_any mb 0 0 hw 0 W' ((hm.ch hcc (by simp)).ch hW' (by simp)) (by omega) (by omega) (by omega) (by omega) (by omega) (by omega)).mono ?_
  rintro e w' ⟨hch, ⟨_, rfl, hmt⟩ | ⟨he, _⟩⟩
  · exact ⟨rfl, by simpa using hmt, hch⟩
  · exact absurd he (by simp)
theorem ext_new2 {w11 w' : World} {mb base n : Nat} {xs : List Value} {sv' : Value} {o : Obj} (ho : w11.ownsRow base 38 4 sv' n xs) (hmb : mb < w11.heap.size) (h : ∃ G, (∀ x, x ∈ G → sv'.ownBlock = some x) ∧ Ch (G ++ [mb]) (w11.alloc o) w') {o2 : Obj} (hf : (w11.alloc o).heap[w11.heap.size]? = some o2) : w'.heap[w11.heap.size]? = some o2 := by
  obtain ⟨G, hG, hc⟩ := h
  refine hc.heap hf ?_
  intro hx
  rcases List.mem_append.1 hx with hx | hx
  · have := (own_base ho (hG _ hx)).2
    omega
  · simp at hx; omega
theorem setRow_v (l : List V) (b off : Nat) (sv : Value) (f : Int) (v : V) (w : World) (hr : VRow w b off sv l) (hl : l.length ≤ 1000) (hf : f ≤ 9223372036854775807) :
    Calls Tryd.prog 41 #[sv, .int .i64 f, .agg (V.arr v)] w fun e w' => ∃ a c b', e = .returned (.slice a (setV l f v).length c) ∧ VRow w' b' 0 (.slice a (setV l f v).length c) (setV l f v) ∧ Ch [] w w' :=
  (setRow_any l b off sv f v w hr hl hf).mono fun e w' h => by
    obtain ⟨a, n, c, rfl, rfl, ho, hc⟩ := h
    obtain ⟨b', _, hv⟩ := VRow.of_own ho
    exact ⟨a, c, b', rfl, hv, hc⟩
theorem Struck1.meter {nm : ByteArray} {mb : Nat} {hw : Int} {er : Value} {w : World} (h : Struck1 nm mb hw er w) : MeterAt w mb 1 1 hw 1 := by
  obtain ⟨fb, kb, rfl, _, _, hm⟩ := h
  exact hm
theorem HcSt.row {w W3 w4 : World} {U : Nat} {W : World} (s : HcSt w W3 w4 U W) {b off : Nat} {sv : Value} {l : List V} (h : VRow w b off sv l) : VRow W b off sv l := h.ch0 s.h

/-- What stands behind the making of the hooks. -/
structure HcAt (w W3 : World) (U H gx cx gc cc kk j : Nat) (qx nx qc nc : Nat) : Prop where
  ch : Ch [] w W3
  uw : w.heap.size ≤ U
  hU : U < W3.heap.size
  box : ∀ W, Ch [U] W3 W → W.cell? ⟨H, 0, none⟩ = some (.slice (some ⟨gx, 0, none⟩) 5 cx) ∧ W.cell? ⟨H, 1, none⟩ = some (.slice (some ⟨gc, 0, none⟩) 3 cc)
  ext : ∀ W, Ch [U] W3 W → W.cell? ⟨gx, kk, none⟩ = some (codeFn 90 qx nx) ∧ W.heap[qx]? = some (.cells #[meterPtr U] 55 (0, 0)) ∧ W.heap[nx]? = some (.cells #[.int .i64 kk] 3 (0, 0))
  cmp : ∀ W, Ch [U] W3 W → W.cell? ⟨gc, j, none⟩ = some (codeFn 91 qc nc) ∧ W.heap[qc]? = some (.cells #[meterPtr U] 55 (0, 0)) ∧ W.heap[nc]? = some (.cells #[.int .i64 j] 3 (0, 0))

set_option maxRecDepth 100000 in
set_option maxHeartbeats 8000000 in
theorem hookCalls_any (n : Int) (l lm : List V) (b off bm om : Nat) (sv sm : Value) (at' how : Int) (w : World) (hn1 : n ≤ 9223372036854775807) (hr : VRow w b off sv l) (hrm : VRow w bm om sm lm) (ol : OkL l) (olm : OkL lm) (hl : l.length ≤ 9223372036854775807) (hlm : lm.length ≤ 9223372036854775807) (hg : Glob w) :
    Calls Tryd.prog 8 #[.int .i64 n, sv, sm, .int .i64 at', .int .i64 how] w fun e w' => e = .returned (.bool true) ∧ Ch [] w w' := by
  obtain ⟨aa, ca, rfl, _⟩ := hr.shape
  obtain ⟨am, cam, rfl, _⟩ := hrm.shape
  obtain ⟨b0, b1⟩ := and1_bounds at'
  obtain ⟨a, hab⟩ : ∃ a, bits .and .i64 at' 1 = a := ⟨_, rfl⟩
  rw [hab] at b0 b1
  have hk3 := and3_bounds n
  obtain ⟨kk, hkb⟩ : ∃ kk : Nat, bits .and .i64 n 3 = (kk : Int) := ⟨(bits .and .i64 n 3).toNat, by omega⟩
  rw [hkb] at hk3
  obtain ⟨j, hj⟩ : ∃ j : Nat, (kk : Int) % 3 = (j : Int) := ⟨kk % 3, by omega⟩
  have hj3 : j < 3 := by omega
  have hkk : kk < 5 := by omega
  have jj0 : (j : Int) < 3 := by omega
  have kk0 : (kk : Int) < 5 := by omega
  clear hk3
  have HR := Lib.hid (And.intro hr (And.intro hrm (And.intro ol olm)))
  have HGL := Lib.hid hg
  clear hr hrm ol olm hg
  go_enter Tryd.func8, Tryd.ntmps8
  go_wp2_with fail
  refine (known6_any _ HGL.out).mono ?_
  rintro e w1 ⟨rfl, hc1⟩
  have C1 := Lib.hid hc1
  clear hc1
  have F1 := Lib.hid (few_any l b off 10 _ w1 (HR.out.1.ch0 C1.out) hl HR.out.2.2.1)
  go_wp2_with fail
  refine F1.out.mono ?_
  rintro e w' ⟨rfl, rfl⟩
  clear F1
  rcases hf : fewB l 10 with _ | _
  · clear hf
    go_wp2
    go_ret
    exact ⟨rfl, C1.out⟩
  have hl10 := fewB_len hf
  have hsl := sizeV_few hf
  clear hf
  have F1 := Lib.hid (few_any lm bm om 10 _ w1 (HR.out.2.1.ch0 C1.out) hlm HR.out.2.2.2)
  go_wp2_with fail
  refine F1.out.mono ?_
  rintro e w' ⟨rfl, rfl⟩
  clear F1
  rcases hf : fewB lm 10 with _ | _
  · clear hf
    go_wp2
    go_ret
    exact ⟨rfl, C1.out⟩
  have hm10 := fewB_len hf
  have hsm := sizeV_few hf
  have HSZ := Lib.hid (And.intro (show sizeV l ≤ 9223372036854775807 by omega) (show sizeV lm ≤ 9223372036854775807 by omega))
  clear hf hsl hsm
  have HU0 := Lib.hid (heap_alloc_same w1 (.cells #[.int .i64 0, .int .i64 0, .int .i64 0, .int .i64 0] 57))
  go_wp2_with fail
  refine (hooks_any (meterPtr w1.heap.size) _ ⟨_, rfl⟩).mono ?_
  rintro e w2 ⟨hx, hcv, rfl, hh1, hh2, hc2⟩
  obtain ⟨gx, cx, rfl, _, _⟩ := hh1.at (by omega)
  obtain ⟨gc, cc, rfl, _, _⟩ := hh2.at (by omega)
  have hcA : Ch [] w2 (w2.alloc (.cells #[.slice (some ⟨gx, 0, none⟩) 5 cx, .slice (some ⟨gc, 0, none⟩) 3 cc] 61)) := (Ch.refl _ w2).alloc _
  have hhb := heap_alloc_same w2 (.cells #[.slice (some ⟨gx, 0, none⟩) 5 cx, .slice (some ⟨gc, 0, none⟩) 3 cc] 61)
  have hs2 := hc2.size
  simp at hs2
  have hm3 : MeterAt _ w1.heap.size 0 0 0 0 := hcA.heap (hc2.heap HU0.out (by simp)) (by simp)
  have hw3 : Ch [] w (w2.alloc (.cells #[.slice (some ⟨gx, 0, none⟩) 5 cx, .slice (some ⟨gc, 0, none⟩) 3 cc] 61)) := ((C1.out.alloc _).trans hc2).trans hcA
  have hk1 := hh1.fr (Fr.of_ch (D := 0) (T := []) hcA (Nat.zero_le _) (by simp)) (by simp) (by simp) (by simp)
  have hk2 := hh2.fr (Fr.of_ch (D := 0) (T := []) hcA (Nat.zero_le _) (by simp)) (by simp) (by simp) (by simp)
  obtain ⟨qx, nx, hpx⟩ := hooked_pick hk1 hm3 (by decide) kk hkk
  obtain ⟨qc, nc, hpc⟩ := hooked_pick hk2 hm3 (by decide) j hj3
  have hne : w2.heap.size ≠ w1.heap.size := by omega
  have HC3 := Lib.hid (show HcAt w _ w1.heap.size w2.heap.size gx cx gc cc kk j qx nx qc nc from ⟨hw3, C1.out.size, by simp; omega, fun W hW => ⟨(cell_of (i := 0) (hW.heap hhb (by simpa using hne))).trans rfl, (cell_of (i := 1) (hW.heap hhb (by simpa using hne))).trans rfl⟩, hpx, hpc⟩)
  generalize hW3 : w2.alloc (.cells #[.slice (some ⟨gx, 0, none⟩) 5 cx, .slice (some ⟨gc, 0, none⟩) 3 cc] 61) = W3 at *
  have H3 := Lib.hid (And.intro hm3 hW3)
  clear hc2 hcA hhb hs2 hm3 hw3 hk1 hk2 hpx hpc hne hW3 hh1 hh2 HU0
  go_upto_region 7 with (fail)
  rw [H3.out.2]
  go_wp2_with fail
  refine (copy_any l b off _ W3 (HR.out.1.ch0 HC3.out.ch) (by omega)).mono ?_
  rintro e w4 ⟨was, rfl, hcp⟩
  obtain ⟨wa, wc, rfl⟩ := own_shape hcp.1
  obtain ⟨wb, hwb, hwr⟩ := VRow.of_own hcp.1
  have H4 := Lib.hid (And.intro hcp (And.intro hwr (And.intro hwb hcp.2)))
  clear hcp hwr hwb
  go_wp2_with fail
  refine (set_any w1.heap.size 0 0 0 0 a how w4 (H3.out.1.ch H4.out.2.2.2 (by simp)) b0).mono ?_
  rintro e w5 ⟨rfl, ⟨hh, hm5⟩, hc5⟩
  have S5 := Lib.hid ((⟨H4.out.2.2.2.mono (by simp), HC3.out.ch.trans H4.out.2.2.2, Ch.refl _ _⟩ : HcSt w W3 w4 w1.heap.size w4).next HC3.out.uw hc5)
  have hq5 := S5.out.q
  have hw5 := S5.out.h
  obtain ⟨p0, p1⟩ := HC3.out.box _ hq5
  obtain ⟨k0, kq, kn⟩ := HC3.out.ext _ hq5
  have HX := Lib.hid (extract_met2 ⟨#[120]⟩ kk w1.heap.size qx nx l b off _ w5 a hh (HR.out.1.ch0 hw5) HR.out.2.2.1 (by omega) kq kn hm5 b0 b1)
  clear hm5 hc5 hq5 hw5 kq kn
  have HWAS := Lib.hid (fun W (h : HcSt w W3 w4 w1.heap.size W) => H4.out.2.1.ch h.r (by simp; have := H4.out.2.2.1; have := HC3.out.hU; omega))
  go_wp2_with fail
  refine HX.out.mono ?_
  clear HX
  rintro e w6 ⟨hc6, ⟨rfl, hv, rfl, hm6⟩ | ⟨rfl, hv, fb, rfl, hF, hm6⟩ | ⟨rfl, er, rfl, hS⟩⟩
  · generalize hxv : extV kk l = vv at *
    have HXV := Lib.hid (show vv.Ok from hxv ▸ extV_ok kk l HR.out.2.2.1)
    have HXE := Lib.hid hxv
    clear hv hxv

    have hX7 := heap_alloc_same w6 (.cells (V.arr vv) 38)
    have hA7 : Ch [] w6 (w6.alloc (.cells (V.arr vv) 38)) := (Ch.refl _ _).alloc _
    have S6 := Lib.hid (S5.out.next HC3.out.uw hc6)
    have hs6 := S6.out.q.size
    have M7 := Lib.hid (hm6.ch hA7 (by simp))

    generalize hW7 : w6.alloc (.cells (V.arr vv) 38) = w7 at *
    have S7 := Lib.hid (S6.out.next0 HC3.out.uw hA7)
    have X7 := Lib.hid (And.intro hX7 hW7)
    have hnU : w6.heap.size ≠ w1.heap.size := by have := HC3.out.hU; omega
    clear hX7 hA7 hs6 hW7 hc6 hm6

    have hVE : V.arr vv = #[.int .i64 (vv).k, .int .i64 (vv).i, .string (vv).s, .float .f64 (vv).f] := rfl
    have X8 := Lib.hid (X7.out.2)
    rw [hVE] at X8
    go_upto_region 11 with (fail)
    rw [X8.out]
    clear X8 hVE

    go_wp2_with fail
    refine (vals_any l l b off wb 0 _ _ w7 (HR.out.1.ch0 S7.out.h) (HWAS.out _ S7.out) HR.out.2.2.1 HR.out.2.2.1 (by omega) (by omega)).mono ?_
    rintro e w8 ⟨rfl, hc⟩
    have S8 := Lib.hid (S7.out.next0 HC3.out.uw hc)
    have hc7 := Lib.hid hc
    clear hc
    rw [vals_same_of]

    go_wp2_with fail
    refine (told_nil w1.heap.size 1 0 _ ⟨#[120]⟩ w8 (M7.out.ch hc7.out (by simp))).mono ?_
    rintro e w9 ⟨rfl, hc⟩
    have S9 := Lib.hid (S8.out.next0 HC3.out.uw hc)
    have hc8 := Lib.hid (hc7.out.trans hc)
    clear hc

    have hx := hc8.out.heap X7.out.1 (by simp)
    unfold V.arr at hx
    have x0 := (cell_of (i := 0) hx).trans rfl
    have x1 := (cell_of (i := 1) hx).trans rfl
    have x2 := (cell_of (i := 2) hx).trans rfl
    have x3 := (cell_of (i := 3) hx).trans rfl
    have xz := lt_of_block hx
    clear hx

    clear x0 x1 x2 x3 xz
    have M9 := Lib.hid (M7.out.ch hc8.out (by simp))
    go_wp2_with fail
    refine (set_any w1.heap.size 1 0 _ 0 0 0 w9 M9.out (by omega)).mono ?_
    rintro e w10 ⟨rfl, ⟨ha, hm⟩, hc⟩
    have S10 := Lib.hid (S9.out.next HC3.out.uw hc)
    have X10 := Lib.hid (hc.heap (hc8.out.heap X7.out.1 (by simp)) (by simp; exact hnU))
    obtain ⟨kx, kq, kn⟩ := HC3.out.ext _ S10.out.q
    have HK := Lib.hid (fun (W : World) (h : Ch [w1.heap.size] w10 W) => (show W.cell? ⟨w2.heap.size, 0, none⟩ = some (.slice (some ⟨gx, 0, none⟩) 5 cx) ∧ W.cell? ⟨gx, kk, none⟩ = some (codeFn 90 qx nx) from ⟨(HC3.out.box _ (S10.out.q.trans h)).1, (HC3.out.ext _ (S10.out.q.trans h)).1⟩))
    have HUW := Lib.hid (show w1.heap.size < w10.heap.size from by have := HC3.out.hU; have := S10.out.q.size; omega)
    have HK4 := Lib.hid (fun (W : World) (h : Ch [w1.heap.size] w10 W) (nb : Nat) (hnb : w10.heap.size ≤ nb) (u0 u1 u2 u3 : Value) => HK.out _ ((((h.setCell (p := ⟨nb, 0, none⟩) (.inr hnb) u0).setCell (p := ⟨nb, 1, none⟩) (.inr hnb) u1).setCell (p := ⟨nb, 2, none⟩) (.inr hnb) u2).setCell (p := ⟨nb, 3, none⟩) (.inr hnb) u3))
    have HCo := Lib.hid (fun (W : World) (h : Ch [] w10 W) => copy_any l wb 0 _ W (HWAS.out _ (S10.out.next0 HC3.out.uw h)) (by omega))
    have HEx := Lib.hid (fun (W0 W : World) (sv' : Value) (h : Ch [] w10 W0) (hcp : CopiedOwn W0 W sv' l) => ext_code kk w1.heap.size qx nx l sv' w10 W0 W ha h hcp kq kn hm HR.out.2.2.1 (by omega))
    rw [HXE.out] at HEx
    clear hm hc kq kn kx p0 p1 k0
    obtain ⟨s0, s1⟩ := HK.out _ (Ch.refl _ _)
    go_wp2_with fail
    go_region_held3 (fun w' => w'.cell? ⟨w2.heap.size, 0, none⟩ = some (.slice (some ⟨gx, 0, none⟩) 5 cx) ∧ w'.cell? ⟨gx, kk, none⟩ = some (codeFn 90 qx nx))
      (first | exact HK.out _ c3 | exact HK4.out _ c3 _ hge _ _ _ _ | exact HK.out _ (c3.alloc _) | exact HK4.out _ (c3.alloc _) _ c3.size _ _ _ _ | exact HK.out _ c2 | exact HK.out _ (c2.alloc _) | exact HK.out _ (Ch.refl _ _) | exact HK.out _ (Ch.refl _ _).drew | exact HK.out _ ((Ch.refl _ _).drew.alloc _))
      (first
        | (go_at_call 90; first
            | (refine (HEx.out _ _ _ h1a hcp).mono ?_; rintro e w12 ⟨rfl, hm12, hc12, hG12⟩; have c3 := (h1a.mono (S' := [w1.heap.size]) (by simp)).trans hc12; have hge : w10.heap.size ≤ w10.heap.size := Nat.le_refl _; have hnew : w12.heap[w10.heap.size]? = some (.cells #[.int .i64 0, .int .i64 0, .string ⟨#[]⟩, .float .f64 0] 38 (0, 0)) := hc12.heap (heap_alloc_same w10.drew (.cells #[.int .i64 0, .int .i64 0, .string ⟨#[]⟩, .float .f64 0] 38)) (by have := HUW.out; simp; omega); have n0 := (cell_of (i := 0) hnew).trans rfl; have n1 := (cell_of (i := 1) hnew).trans rfl; have n2 := (cell_of (i := 2) hnew).trans rfl; have n3 := (cell_of (i := 3) hnew).trans rfl; have f0 := free_of (i := 0) hnew; have f1 := free_of (i := 1) hnew; have f2 := free_of (i := 2) hnew; have f3 := free_of (i := 3) hnew; have nz := lt_of_block hnew)
            | (refine (HEx.out _ _ _ h1 hcp).mono ?_; rintro e w12 ⟨rfl, hm12, hc12, hG12⟩; have c3 := (h1.mono (S' := [w1.heap.size]) (by simp)).trans hc12)
            | (refine (HEx.out _ _ _ h1 (hcp.more ((Ch.refl _ _).alloc (.cells #[.int .i64 0, .int .i64 0, .string ⟨#[]⟩, .float .f64 0] 38)))).mono ?_; rintro e w12 ⟨rfl, hm12, hc12, hG12⟩; have c3 := (h1.mono (S' := [w1.heap.size]) (by simp)).trans hc12; have hge := c2.size; have hnew : w12.heap[w11.heap.size]? = some (.cells #[.int .i64 0, .int .i64 0, .string ⟨#[]⟩, .float .f64 0] 38 (0, 0)) := ext_new2 hcp.1 (by have := HUW.out; omega) hG12 (heap_alloc_same _ _); have n0 := (cell_of (i := 0) hnew).trans rfl; have n1 := (cell_of (i := 1) hnew).trans rfl; have n2 := (cell_of (i := 2) hnew).trans rfl; have n3 := (cell_of (i := 3) hnew).trans rfl; have f0 := free_of (i := 0) hnew; have f1 := free_of (i := 1) hnew; have f2 := free_of (i := 2) hnew; have f3 := free_of (i := 3) hnew; have nz := lt_of_block hnew))
        | (go_at_call 23; first | (have h1 : Ch [] w10 w10.drew := (Ch.refl _ _).drew; refine (HCo.out _ h1).mono ?_; rintro e w11 ⟨svc, rfl, hcp⟩; have c2 := (h1.trans hcp.2).mono (S' := [w1.heap.size]) (by simp)) | (have h1a := (Ch.refl [] w10).drew.alloc (.cells #[.int .i64 0, .int .i64 0, .string ⟨#[]⟩, .float .f64 0] 38); refine (HCo.out _ h1a).mono ?_; rintro e w11 ⟨svc, rfl, hcp⟩; have c2 := (h1a.trans hcp.2).mono (S' := [w1.heap.size]) (by simp))))

    all_goals (first
      | (have hq : w12.heap[w10.heap.size]? = _ := hnew
         have hY := (set4 vv hnew).1
         have hcY := c3.trans' (set4 vv hnew).2 (by intro x hx; right; simp at hx; omega)
         have hmY := hm12.ch (set4 vv hnew).2 (by simp; have := HUW.out; omega)
         generalize hwf : ((((w12.setCell ⟨w10.heap.size, 0, none⟩ (.int .i64 vv.k)).setCell ⟨w10.heap.size, 1, none⟩ (.int .i64 vv.i)).setCell ⟨w10.heap.size, 2, none⟩ (.string vv.s)).setCell ⟨w10.heap.size, 3, none⟩ (.float .f64 vv.f)) = wf at hY hcY hmY ⊢
         clear hq)
      | (have hq : w12.heap[w11.heap.size]? = _ := hnew
         have hY := (set4 vv hnew).1
         have hcY := c3.trans' (set4 vv hnew).2 (by intro x hx; right; simp at hx; omega)
         have hmY := hm12.ch (set4 vv hnew).2 (by simp; have := HUW.out; omega)
         generalize hwf : ((((w12.setCell ⟨w11.heap.size, 0, none⟩ (.int .i64 vv.k)).setCell ⟨w11.heap.size, 1, none⟩ (.int .i64 vv.i)).setCell ⟨w11.heap.size, 2, none⟩ (.string vv.s)).setCell ⟨w11.heap.size, 3, none⟩ (.float .f64 vv.f)) = wf at hY hcY hmY ⊢
         clear hq)
      | (have hY := heap_alloc_same w12 (.cells #[.int .i64 vv.k, .int .i64 vv.i, .string vv.s, .float .f64 vv.f] 38)
         have hcY := c3.alloc (.cells #[.int .i64 vv.k, .int .i64 vv.i, .string vv.s, .float .f64 vv.f] 38)
         have hmY := hm12.ch ((Ch.refl [] w12).alloc (.cells #[.int .i64 vv.k, .int .i64 vv.i, .string vv.s, .float .f64 vv.f] 38)) (by simp)
         generalize hwf : w12.alloc (.cells #[.int .i64 vv.k, .int .i64 vv.i, .string vv.s, .float .f64 vv.f] 38) = wf at hY hcY hmY ⊢))
    all_goals try clear n0 n1 n2 n3
    all_goals try clear f0 f1 f2 f3
    all_goals try clear nz
    all_goals try clear hwf
    all_goals try clear hnew
    all_goals try clear hge
    all_goals try clear hG12
    all_goals try clear hc12
    all_goals try clear hm12
    all_goals try clear s0 s1
    all_goals try clear c3
    all_goals try clear c2
    all_goals try clear hcp
    all_goals try clear h1
    all_goals try clear h1a
    all_goals try clear HEx
    all_goals try clear HCo
    all_goals try clear HK4
    all_goals try clear HK
    all_goals (
      have S12 := Lib.hid (S10.out.next HC3.out.uw hcY)
      have hXf := hcY.heap X10.out (by simp; exact hnU)
      unfold V.arr at hXf
      have x0 := (cell_of (i := 0) hXf).trans rfl
      have x1 := (cell_of (i := 1) hXf).trans rfl
      have x2 := (cell_of (i := 2) hXf).trans rfl
      have x3 := (cell_of (i := 3) hXf).trans rfl
      have xz := lt_of_block hXf
      have y0 := (cell_of (i := 0) hY).trans rfl
      have y1 := (cell_of (i := 1) hY).trans rfl
      have y2 := (cell_of (i := 2) hY).trans rfl
      have y3 := (cell_of (i := 3) hY).trans rfl
      have yz := lt_of_block hY
      have M12 := Lib.hid hmY
      clear hXf hY hcY hmY
      go_wp2_with fail
      refine (refSame_any vv vv wf HXV.out HXV.out).mono ?_
      rintro e w13 ⟨rfl, hc⟩
      have S13 := Lib.hid (S12.out.next0 HC3.out.uw hc)
      have M13 := Lib.hid (M12.out.ch hc (by simp))
      clear hc x0 x1 x2 x3 xz y0 y1 y2 y3 yz
      rw [same_self]

      go_wp2_with fail
      refine (set_any w1.heap.size 1 0 _ 0 0 how w13 M13.out (by omega)).mono ?_
      rintro e w14 ⟨rfl, ⟨ha, hm⟩, hc⟩
      have S14 := Lib.hid (S13.out.next HC3.out.uw hc)
      clear hc
      obtain ⟨p0, p1⟩ := HC3.out.box _ S14.out.q
      obtain ⟨k0, kq, kn⟩ := HC3.out.cmp _ S14.out.q
      have HX := Lib.hid (compare_a0 ⟨#[121]⟩ j w1.heap.size qc nc l lm b off bm om _ _ w14 ha (by omega) (S14.out.row HR.out.1) (S14.out.row HR.out.2.1) HR.out.2.2.1 HR.out.2.2.2 (by omega) (by omega) HSZ.out.1 HSZ.out.2 kq kn hm)
      clear hm kq kn
      go_wp2_with fail
      refine HX.out.mono ?_
      clear HX

      rintro e w15 ⟨x, rfl, ⟨x0, x1⟩, hm, hc⟩
      have S15 := Lib.hid (S14.out.next HC3.out.uw hc)
      have M15 := Lib.hid hm
      clear hc hm
      have d0 : decide (x < -1) = false := by simp; omega
      have d1 : decide (1 < x) = false := by simp; omega
      have d2 : decide (x > 1) = false := by simp; omega

      go_wp2_with fail
      refine (told_nil w1.heap.size 1 0 _ ⟨#[121]⟩ w15 M15.out).mono ?_
      rintro e w16 ⟨rfl, hc⟩
      have S16 := Lib.hid (S15.out.next0 HC3.out.uw hc)
      have M16 := Lib.hid (M15.out.ch hc (by simp))
      clear hc

      clear p0 p1 k0
      go_wp2_with fail
      refine (set_any w1.heap.size 1 0 _ 0 0 how w16 M16.out (by omega)).mono ?_
      rintro e w17 ⟨rfl, ⟨hb, hm⟩, hc⟩
      have S17 := Lib.hid (S16.out.next HC3.out.uw hc)
      have M17 := Lib.hid hm
      clear hm hc
      have HX := Lib.hid (setter_any n sevenV w1.heap.size w17)
      go_wp2_with fail
      refine HX.out.mono ?_
      clear HX
      rintro e w18 ⟨rfl, sn, sv, sq, hc⟩
      have S18 := Lib.hid (S17.out.next0 HC3.out.uw hc)
      have HX := Lib.hid (mutate_a0 n sevenV w1.heap.size (w17.heap.size + 1 + 1) w17.heap.size (w17.heap.size + 1) l b off _ w18 hb (S18.out.row HR.out.1) (by omega) hn1 sq sn sv (M17.out.ch hc (by simp)))
      clear sn sv sq hc
      go_wp2_with fail
      refine HX.out.mono ?_
      clear HX

      rintro e w19 ⟨la, lc, lb, rfl, hL, hm, hc⟩
      have S19 := Lib.hid (S18.out.next HC3.out.uw hc)
      have M19 := Lib.hid hm
      have L19 := Lib.hid hL
      clear hc hm hL

      go_wp2_with fail
      refine (told_nil w1.heap.size 1 0 _ ⟨#[]⟩ w19 M19.out).mono ?_
      rintro e w20 ⟨rfl, hc⟩
      have S20 := Lib.hid (S19.out.next0 HC3.out.uw hc)
      have L20 := Lib.hid (L19.out.ch0 hc)
      clear hc

      go_wp2_with fail
      refine (vals_any l l b off wb 0 _ _ w20 (S20.out.row HR.out.1) (HWAS.out _ S20.out) HR.out.2.2.1 HR.out.2.2.1 (by omega) (by omega)).mono ?_
      rintro e w21 ⟨rfl, hc⟩
      have S21 := Lib.hid (S20.out.next0 HC3.out.uw hc)
      have L21 := Lib.hid (L20.out.ch0 hc)
      clear hc
      rw [vals_same_of]

      go_wp2_with fail
      refine (setRow_v l b off _ n sevenV w21 (S21.out.row HR.out.1) (by omega) hn1).mono ?_
      rintro e w22 ⟨ra, rc, rb, rfl, hL, hc⟩
      have S22 := Lib.hid (S21.out.next0 HC3.out.uw hc)
      have hsl := setV_len l n sevenV
      have L22 := Lib.hid (And.intro hL (L21.out.ch0 hc))
      clear hL hc

      go_wp2_with fail
      refine (vals_any (setV l n sevenV) (setV l n sevenV) lb 0 rb 0 _ _ w22 L22.out.2 L22.out.1 (setV_ok HR.out.2.2.1 sevenV_ok n) (setV_ok HR.out.2.2.1 sevenV_ok n) (by omega) (by omega)).mono ?_
      rintro e w23 ⟨rfl, hc⟩
      have S23 := Lib.hid (S22.out.next0 HC3.out.uw hc)

      clear hc
      rw [vals_same_of]
      go_wp2
      go_ret
      exact ⟨rfl, S23.out.h⟩
    )
  · clear hv

    have hX7 := heap_alloc_same w6 (.cells (V.arr V.zero) 38)
    have hA7 : Ch [] w6 (w6.alloc (.cells (V.arr V.zero) 38)) := (Ch.refl _ _).alloc _
    have S6 := Lib.hid (S5.out.next HC3.out.uw hc6)
    have hs6 := S6.out.q.size
    have M7 := Lib.hid (hm6.ch hA7 (by simp))
    have F7 := Lib.hid (hA7.heap hF (by simp))

    generalize hW7 : w6.alloc (.cells (V.arr V.zero) 38) = w7 at *
    have S7 := Lib.hid (S6.out.next0 HC3.out.uw hA7)
    have X7 := Lib.hid (And.intro hX7 hW7)
    have hnU : w6.heap.size ≠ w1.heap.size := by have := HC3.out.hU; omega
    clear hX7 hA7 hs6 hW7 hc6 hm6 hF
    unfold faultVal at *

    have hVE : V.arr V.zero = #[.int .i64 (V.zero).k, .int .i64 (V.zero).i, .string (V.zero).s, .float .f64 (V.zero).f] := rfl
    have X8 := Lib.hid (X7.out.2)
    rw [hVE] at X8
    go_upto_region 11 with (fail)
    rw [X8.out]
    clear X8 hVE

    go_wp2_with fail
    refine (vals_any l l b off wb 0 _ _ w7 (HR.out.1.ch0 S7.out.h) (HWAS.out _ S7.out) HR.out.2.2.1 HR.out.2.2.1 (by omega) (by omega)).mono ?_
    rintro e w8 ⟨rfl, hc⟩
    have S8 := Lib.hid (S7.out.next0 HC3.out.uw hc)
    have hc7 := Lib.hid hc
    clear hc
    rw [vals_same_of]

    go_wp2_with fail
    refine (told_value fb w1.heap.size 1 0 _ ⟨#[120]⟩ ⟨#[120]⟩ w8 (M7.out.ch hc7.out (by simp)) (hc7.out.heap F7.out (by simp)) (HGL.out.ch S8.out.h (by simp))).mono ?_
    rintro e w9 ⟨rfl, hc⟩
    have S9 := Lib.hid (S8.out.next0 HC3.out.uw hc)
    have hc8 := Lib.hid (hc7.out.trans hc)
    clear hc

    have hx := hc8.out.heap X7.out.1 (by simp)
    unfold V.arr at hx
    have x0 := (cell_of (i := 0) hx).trans rfl
    have x1 := (cell_of (i := 1) hx).trans rfl
    have x2 := (cell_of (i := 2) hx).trans rfl
    have x3 := (cell_of (i := 3) hx).trans rfl
    have xz := lt_of_block hx
    clear hx

    go_wp2_with fail
    refine (refSame_any V.zero V.zero w9 zeroV_ok zeroV_ok).mono ?_
    rintro e w10 ⟨rfl, hc⟩
    have S10 := Lib.hid (S9.out.next0 HC3.out.uw hc)
    have hc9 := Lib.hid (hc8.out.trans hc)
    clear hc
    rw [same_self]
    have M10 := Lib.hid (M7.out.ch hc9.out (by simp))

    go_wp2_with fail
    refine (set_any w1.heap.size 1 0 _ 0 0 how w10 M10.out (by omega)).mono ?_
    rintro e w11 ⟨rfl, ⟨ha, hm⟩, hc⟩
    have S11 := Lib.hid (S10.out.next HC3.out.uw hc)
    clear hc
    obtain ⟨p0, p1⟩ := HC3.out.box _ S11.out.q
    obtain ⟨k0, kq, kn⟩ := HC3.out.cmp _ S11.out.q
    have HX := Lib.hid (compare_a0 ⟨#[121]⟩ j w1.heap.size qc nc l lm b off bm om _ _ w11 ha (by omega) (S11.out.row HR.out.1) (S11.out.row HR.out.2.1) HR.out.2.2.1 HR.out.2.2.2 (by omega) (by omega) HSZ.out.1 HSZ.out.2 kq kn hm)
    clear hm kq kn
    go_wp2_with fail
    refine HX.out.mono ?_
    clear HX

    rintro e w12 ⟨x, rfl, ⟨x0, x1⟩, hm, hc⟩
    have S12 := Lib.hid (S11.out.next HC3.out.uw hc)
    have M12 := Lib.hid hm
    clear hc hm
    have d0 : decide (x < -1) = false := by simp; omega
    have d1 : decide (1 < x) = false := by simp; omega
    have d2 : decide (x > 1) = false := by simp; omega

    go_wp2_with fail
    refine (told_nil w1.heap.size 1 0 _ ⟨#[121]⟩ w12 M12.out).mono ?_
    rintro e w13 ⟨rfl, hc⟩
    have S13 := Lib.hid (S12.out.next0 HC3.out.uw hc)
    have M13 := Lib.hid (M12.out.ch hc (by simp))
    clear hc

    clear p0 p1 k0
    go_wp2_with fail
    refine (set_any w1.heap.size 1 0 _ 0 0 how w13 M13.out (by omega)).mono ?_
    rintro e w14 ⟨rfl, ⟨hb, hm⟩, hc⟩
    have S14 := Lib.hid (S13.out.next HC3.out.uw hc)
    have M14 := Lib.hid hm
    clear hm hc
    have HX := Lib.hid (setter_any n sevenV w1.heap.size w14)
    go_wp2_with fail
    refine HX.out.mono ?_
    clear HX
    rintro e w15 ⟨rfl, sn, sv, sq, hc⟩
    have S15 := Lib.hid (S14.out.next0 HC3.out.uw hc)
    have HX := Lib.hid (mutate_a0 n sevenV w1.heap.size (w14.heap.size + 1 + 1) w14.heap.size (w14.heap.size + 1) l b off _ w15 hb (S15.out.row HR.out.1) (by omega) hn1 sq sn sv (M14.out.ch hc (by simp)))
    clear sn sv sq hc
    go_wp2_with fail
    refine HX.out.mono ?_
    clear HX

    rintro e w16 ⟨la, lc, lb, rfl, hL, hm, hc⟩
    have S16 := Lib.hid (S15.out.next HC3.out.uw hc)
    have M16 := Lib.hid hm
    have L16 := Lib.hid hL
    clear hc hm hL

    go_wp2_with fail
    refine (told_nil w1.heap.size 1 0 _ ⟨#[]⟩ w16 M16.out).mono ?_
    rintro e w17 ⟨rfl, hc⟩
    have S17 := Lib.hid (S16.out.next0 HC3.out.uw hc)
    have L17 := Lib.hid (L16.out.ch0 hc)
    clear hc

    go_wp2_with fail
    refine (vals_any l l b off wb 0 _ _ w17 (S17.out.row HR.out.1) (HWAS.out _ S17.out) HR.out.2.2.1 HR.out.2.2.1 (by omega) (by omega)).mono ?_
    rintro e w18 ⟨rfl, hc⟩
    have S18 := Lib.hid (S17.out.next0 HC3.out.uw hc)
    have L18 := Lib.hid (L17.out.ch0 hc)
    clear hc
    rw [vals_same_of]

    go_wp2_with fail
    refine (setRow_v l b off _ n sevenV w18 (S18.out.row HR.out.1) (by omega) hn1).mono ?_
    rintro e w19 ⟨ra, rc, rb, rfl, hL, hc⟩
    have S19 := Lib.hid (S18.out.next0 HC3.out.uw hc)
    have hsl := setV_len l n sevenV
    have L19 := Lib.hid (And.intro hL (L18.out.ch0 hc))
    clear hL hc

    go_wp2_with fail
    refine (vals_any (setV l n sevenV) (setV l n sevenV) lb 0 rb 0 _ _ w19 L19.out.2 L19.out.1 (setV_ok HR.out.2.2.1 sevenV_ok n) (setV_ok HR.out.2.2.1 sevenV_ok n) (by omega) (by omega)).mono ?_
    rintro e w20 ⟨rfl, hc⟩
    have S20 := Lib.hid (S19.out.next0 HC3.out.uw hc)

    clear hc
    rw [vals_same_of]
    go_wp2
    go_ret
    exact ⟨rfl, S20.out.h⟩
  · obtain ⟨fb, rfl⟩ := hS.shape

    have hX7 := heap_alloc_same w6 (.cells (V.arr V.zero) 38)
    have hA7 : Ch [] w6 (w6.alloc (.cells (V.arr V.zero) 38)) := (Ch.refl _ _).alloc _
    have S6 := Lib.hid (S5.out.next HC3.out.uw hc6)
    have hs6 := S6.out.q.size
    have F7 := Lib.hid (hS.ch hA7)

    generalize hW7 : w6.alloc (.cells (V.arr V.zero) 38) = w7 at *
    have S7 := Lib.hid (S6.out.next0 HC3.out.uw hA7)
    have X7 := Lib.hid (And.intro hX7 hW7)
    have hnU : w6.heap.size ≠ w1.heap.size := by have := HC3.out.hU; omega
    clear hX7 hA7 hs6 hW7 hc6 hS

    have hVE : V.arr V.zero = #[.int .i64 (V.zero).k, .int .i64 (V.zero).i, .string (V.zero).s, .float .f64 (V.zero).f] := rfl
    have X8 := Lib.hid (X7.out.2)
    rw [hVE] at X8
    go_upto_region 11 with (fail)
    rw [X8.out]
    clear X8 hVE

    go_wp2_with fail
    refine (vals_any l l b off wb 0 _ _ w7 (HR.out.1.ch0 S7.out.h) (HWAS.out _ S7.out) HR.out.2.2.1 HR.out.2.2.1 (by omega) (by omega)).mono ?_
    rintro e w8 ⟨rfl, hc⟩
    have S8 := Lib.hid (S7.out.next0 HC3.out.uw hc)
    have hc7 := Lib.hid hc
    clear hc
    rw [vals_same_of]

    go_wp2_with fail
    refine (told_struck1 ⟨#[120]⟩ w1.heap.size _ _ w8 (F7.out.ch hc7.out) (HGL.out.ch S8.out.h (by simp))).mono ?_
    rintro e w9 ⟨rfl, hc⟩
    have S9 := Lib.hid (S8.out.next0 HC3.out.uw hc)
    have hc8 := Lib.hid (hc7.out.trans hc)
    clear hc

    have hx := hc8.out.heap X7.out.1 (by simp)
    unfold V.arr at hx
    have x0 := (cell_of (i := 0) hx).trans rfl
    have x1 := (cell_of (i := 1) hx).trans rfl
    have x2 := (cell_of (i := 2) hx).trans rfl
    have x3 := (cell_of (i := 3) hx).trans rfl
    have xz := lt_of_block hx
    clear hx

    go_wp2_with fail
    refine (refSame_any V.zero V.zero w9 zeroV_ok zeroV_ok).mono ?_
    rintro e w10 ⟨rfl, hc⟩
    have S10 := Lib.hid (S9.out.next0 HC3.out.uw hc)
    have hc9 := Lib.hid (hc8.out.trans hc)
    clear hc
    rw [same_self]
    have M10 := Lib.hid (F7.out.meter.ch hc9.out (by simp))

    go_wp2_with fail
    refine (set_any w1.heap.size 1 1 _ 1 1 how w10 M10.out (by omega)).mono ?_
    rintro e w11 ⟨rfl, ⟨ha, hm⟩, hc⟩
    have S11 := Lib.hid (S10.out.next HC3.out.uw hc)
    clear hc
    obtain ⟨p0, p1⟩ := HC3.out.box _ S11.out.q
    obtain ⟨k0, kq, kn⟩ := HC3.out.cmp _ S11.out.q
    have HX := Lib.hid (compare_a1 ⟨#[121]⟩ j w1.heap.size qc nc l lm b off bm om _ _ w11 ha (by omega) (S11.out.row HR.out.1) (S11.out.row HR.out.2.1) HR.out.2.2.1 HR.out.2.2.2 (by omega) (by omega) HSZ.out.1 HSZ.out.2 kq kn hm)
    clear hm kq kn
    go_wp2_with fail
    refine HX.out.mono ?_
    clear HX

    rintro e w12 ⟨fb2, rfl, hS, hc⟩
    have S12 := Lib.hid (S11.out.next HC3.out.uw hc)
    have F12 := Lib.hid hS
    clear hc hS

    go_wp2_with fail
    refine (told_struck1 ⟨#[121]⟩ w1.heap.size _ _ w12 F12.out (HGL.out.ch S12.out.h (by simp))).mono ?_
    rintro e w13 ⟨rfl, hc⟩
    have S13 := Lib.hid (S12.out.next0 HC3.out.uw hc)
    have M13 := Lib.hid (F12.out.meter.ch hc (by simp))
    clear hc

    clear p0 p1 k0
    go_wp2_with fail
    refine (set_any w1.heap.size 1 1 _ 1 1 how w13 M13.out (by omega)).mono ?_
    rintro e w14 ⟨rfl, ⟨hb, hm⟩, hc⟩
    have S14 := Lib.hid (S13.out.next HC3.out.uw hc)
    have M14 := Lib.hid hm
    clear hm hc
    have HX := Lib.hid (setter_any n sevenV w1.heap.size w14)
    go_wp2_with fail
    refine HX.out.mono ?_
    clear HX
    rintro e w15 ⟨rfl, sn, sv, sq, hc⟩
    have S15 := Lib.hid (S14.out.next0 HC3.out.uw hc)
    have HX := Lib.hid (mutate_a1 n sevenV w1.heap.size (w14.heap.size + 1 + 1) w14.heap.size (w14.heap.size + 1) l b off _ w15 hb (S15.out.row HR.out.1) (by omega) hn1 sq sn sv (M14.out.ch hc (by simp)))
    clear sn sv sq hc
    go_wp2_with fail
    refine HX.out.mono ?_
    clear HX

    rintro e w16 ⟨fb3, rfl, hS, hc⟩
    have S16 := Lib.hid (S15.out.next HC3.out.uw hc)
    have F16 := Lib.hid hS
    clear hc hS

    go_wp2_with fail
    refine (told_struck1 ⟨#[]⟩ w1.heap.size _ _ w16 F16.out (HGL.out.ch S16.out.h (by simp))).mono ?_
    rintro e w17 ⟨rfl, hc⟩
    have S17 := Lib.hid (S16.out.next0 HC3.out.uw hc)

    clear hc

    go_wp2_with fail
    refine (vals_any l l b off wb 0 _ _ w17 (S17.out.row HR.out.1) (HWAS.out _ S17.out) HR.out.2.2.1 HR.out.2.2.1 (by omega) (by omega)).mono ?_
    rintro e w18 ⟨rfl, hc⟩
    have S18 := Lib.hid (S17.out.next0 HC3.out.uw hc)

    clear hc
    rw [vals_same_of]
    go_wp2
    go_ret
    exact ⟨rfl, S18.out.h⟩
end Go.Proofs.YtiekahnpnaldjaaDoor
