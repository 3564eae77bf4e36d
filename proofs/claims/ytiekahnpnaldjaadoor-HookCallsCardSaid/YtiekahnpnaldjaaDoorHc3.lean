/-
  The statements' setter under a meter; told; Same.
-/
import Derived.Test.YtiekahnpnaldjaaDoorHc2
namespace Go.Proofs.YtiekahnpnaldjaaDoor
open Go.RowKit

set_option maxRecDepth 100000 in
theorem setter_any (f : Int) (v : V) (mb : Nat) (w : World) : Calls Tryd.prog 40 #[.int .i64 f, .agg (V.arr v), meterPtr mb] w fun e w' =>
    e = .returned (.func (.func 77) #[] #[.pointer (some ⟨w.heap.size + 1 + 1, 0, none⟩), .pointer (some ⟨w.heap.size, 0, none⟩), .pointer (some ⟨w.heap.size + 1, 0, none⟩)]) ∧
    w'.heap[w.heap.size]? = some (.cells #[.int .i64 f] 3 (0, 0)) ∧ w'.heap[w.heap.size + 1]? = some (.cells (V.arr v) 38 (0, 0)) ∧ w'.heap[w.heap.size + 1 + 1]? = some (.cells #[meterPtr mb] 55 (0, 0)) ∧ Ch [] w w' := by
  have h0 := heap_alloc_past (o := .cells #[meterPtr mb] 55) (heap_alloc_past (o := .cells (V.arr v) 38) (heap_alloc_same w (.cells #[.int .i64 f] 3)))
  have h1 : (((w.alloc (.cells #[.int .i64 f] 3)).alloc (.cells (V.arr v) 38)).alloc (.cells #[meterPtr mb] 55)).heap[w.heap.size + 1]? = some (.cells (V.arr v) 38 (0, 0)) := heap_alloc_past (by simpa using heap_alloc_same (w.alloc (.cells #[.int .i64 f] 3)) (.cells (V.arr v) 38))
  have h2 : (((w.alloc (.cells #[.int .i64 f] 3)).alloc (.cells (V.arr v) 38)).alloc (.cells #[meterPtr mb] 55)).heap[w.heap.size + 1 + 1]? = some (.cells #[meterPtr mb] 55 (0, 0)) := by simpa using heap_alloc_same ((w.alloc (.cells #[.int .i64 f] 3)).alloc (.cells (V.arr v) 38)) (.cells #[meterPtr mb] 55)
  have H := Lib.hid (And.intro h0 (And.intro h1 (And.intro h2 (show Ch [] w _ from (((Ch.refl _ w).alloc (.cells #[.int .i64 f] 3)).alloc (.cells (V.arr v) 38)).alloc (.cells #[meterPtr mb] 55)))))
  clear h0 h1 h2
  unfold V.arr at *
  go_enter Tryd.func40, Tryd.ntmps40
  go_wp2
  go_ret
  exact ⟨rfl, H.out⟩

/-- What the setter under a meter tells. -/
def MutMet (mb : Nat) (c a hw : Int) (l2 : List V) (lv er : Value) (w' : World) : Prop :=
  (c + 1 ≠ a ∧ er = .nilIface ∧ (∃ base, w'.ownsRow base 38 4 lv l2.length (flat l2)) ∧ MeterAt w' mb (c + 1) a hw 0) ∨
  (c + 1 = a ∧ ∃ kb, er = markVal kb ∧ MarkAt w' kb (1000 + a) ∧ MeterAt w' mb (c + 1) a hw 1)
theorem MutMet.kept {mb : Nat} {c a hw : Int} {l2 : List V} (lv er : Value) (x y : World) (h : MutMet mb c a hw l2 lv er x) (hk : KeptK mutT x y) : MutMet mb c a hw l2 lv er y := by
  rcases h with ⟨h0, h1, ⟨base, h2⟩, h3⟩ | ⟨h0, kb, h1, h2, h3⟩
  · exact .inl ⟨h0, h1, ⟨base, hk.own h2 (by decide)⟩, h3.kept hk (by decide)⟩
  · exact .inr ⟨h0, kb, h1, h2.kept hk (by decide), h3.kept hk (by decide)⟩
theorem MutMet.er {mb : Nat} {c a hw : Int} {l2 : List V} (lv er : Value) (x : World) (h : MutMet mb c a hw l2 lv er x) : (er = .nilIface ∧ ∃ b2 o2, VRow x b2 o2 lv l2) ∨ ∃ t v, er = .iface t v := by
  rcases h with ⟨_, h1, ⟨base, h2⟩, _⟩ | ⟨_, kb, h1, _, _⟩
  · obtain ⟨b, _, hr⟩ := VRow.of_own h2
    exact .inl ⟨h1, b, 0, hr⟩
  · exact .inr ⟨_, _, h1⟩

set_option maxRecDepth 100000 in
set_option maxHeartbeats 2000000 in
theorem setCode_any (f : Int) (v : V) (mb qb nb vb : Nat) (l : List V) (b off : Nat) (sv : Value) (W : World) (c a hw : Int) (hr : VRow W b off sv l) (hl : l.length ≤ 999) (hb : b ≠ mb) (hf : f ≤ 9223372036854775807)
    (hq : W.heap[qb]? = some (.cells #[meterPtr mb] 55 (0, 0))) (hnb : W.heap[nb]? = some (.cells #[.int .i64 f] 3 (0, 0))) (hvb : W.heap[vb]? = some (.cells (V.arr v) 38 (0, 0))) (hm : MeterAt W mb c a hw 0) (c0 : 0 ≤ c) (c1 : c ≤ 999) (a0 : 0 ≤ a) (a1 : a ≤ 9) :
    Calls Tryd.prog 77 #[sv, .pointer (some ⟨qb, 0, none⟩), .pointer (some ⟨nb, 0, none⟩), .pointer (some ⟨vb, 0, none⟩)] W fun e w' => ∃ a' n c' er, e = .returned (.tuple #[.slice a' n c', er]) ∧ MutMet mb c a hw (setV l f v) (.slice a' n c') er w' ∧ Ch [mb] W w' := by
  have HT := Lib.hid (tick_any mb c a hw 0 W hm c0 (by omega) a0 a1 (by omega) (by omega))
  have k0 := cell_of_one hq
  have hnm : nb ≠ mb := ne_of_elem hnb hm (by decide)
  have hvm : vb ≠ mb := ne_of_elem hvb hm (by decide)
  have HC := Lib.hid (fun (W1 : World) (hc : Ch [mb] W W1) => setRow_any l b off sv f v W1 (hr.ch hc (by simpa using hb)) (by omega) hf)
  have HN := Lib.hid (fun (W1 : World) (hc : Ch [mb] W W1) => And.intro (cell_of_one (hc.heap hnb (by simpa using hnm))) (hc.heap hvb (by simpa using hvm)))
  obtain ⟨aa, ca, rfl, _⟩ := hr.shape
  clear hq hnb hvb hr hm hnm hvm
  go_enter Tryd.func77, Tryd.ntmps77
  go_wp2_with fail
  refine HT.out.mono ?_
  rintro e w1 ⟨hc, ⟨hne, rfl, hm1⟩ | ⟨he, kb, rfl, hkb, hk, hm1⟩⟩
  · obtain ⟨k1, hv1⟩ := HN.out _ hc
    have v0 := (cell_of (i := 0) hv1).trans rfl
    have v1 := (cell_of (i := 1) hv1).trans rfl
    have v2 := (cell_of (i := 2) hv1).trans rfl
    have v3 := (cell_of (i := 3) hv1).trans rfl
    have H1 := Lib.hid (And.intro hne (And.intro hm1 hc))
    clear hne hm1 hc hv1
    unfold V.arr at *
    go_wp2_with fail
    refine (HC.out _ H1.out.2.2).mono ?_
    rintro e w2 ⟨ra, rn, rc, rfl, rfl, hown, hc2⟩
    have H2 := Lib.hid (And.intro hown hc2)
    clear hown hc2
    go_wp2
    go_ret2
    exact ⟨_, _, _, _, rfl, .inl ⟨H1.out.1, rfl, ⟨_, H2.out.1⟩, H1.out.2.1.ch H2.out.2 (by simp)⟩, H1.out.2.2.trans (H2.out.2.mono (by simp))⟩
  · have H1 := Lib.hid (And.intro he (And.intro hm1 (And.intro hk hc)))
    clear he hm1 hk hc hkb
    unfold markVal
    go_wp2
    go_ret2
    exact ⟨_, _, _, _, rfl, .inr ⟨H1.out.1, kb, rfl, H1.out.2.2.1, H1.out.2.1⟩, H1.out.2.2.2⟩

set_option maxRecDepth 100000 in
theorem told_nil (mb : Nat) (c a hw : Int) (wh : ByteArray) (w : World) (hm : MeterAt w mb c a hw 0) : Calls Tryd.prog 37 #[.nilIface, meterPtr mb, .string wh] w fun e w' => e = .returned (.bool true) ∧ Ch [] w w' := by
  have m3 := (cell_of (i := 3) hm).trans rfl
  have z3 := lt_of_block hm
  clear hm
  go_enter Tryd.func37, Tryd.ntmps37
  go_wp2
  go_ret
  exact ⟨rfl, Ch.refl _ _⟩
set_option maxRecDepth 100000 in
set_option maxHeartbeats 1000000 in
theorem told_value (fb mb : Nat) (c a hw : Int) (wh nm : ByteArray) (w : World) (hm : MeterAt w mb c a hw 0) (hF : FaultAt w fb nm (.iface 31 (.int .i64 10)) .nilIface) (hg : Glob w) : Calls Tryd.prog 37 #[faultVal fb, meterPtr mb, .string wh] w fun e w' => e = .returned (.bool true) ∧ Ch [] w w' := by
  have m3 := (cell_of (i := 3) hm).trans rfl
  have z3 := lt_of_block hm
  have H1 := Lib.hid (class_fault fb nm _ _ w ⟨hF, told_errno 10⟩ hg)
  have H2 := Lib.hid (fun W (h : Ch [] w W) => Is_fault fb nm 10 _ W (by decide) (h.heap hF (by simp)))
  clear hm hF
  unfold faultVal at *
  go_enter Tryd.func37, Tryd.ntmps37
  go_wp2_with fail
  refine H1.out.mono ?_
  rintro e w1 ⟨rfl, hc1⟩
  have C1 := Lib.hid hc1
  clear hc1
  go_wp2_with fail
  refine (H2.out _ C1.out).mono ?_
  rintro e w2 ⟨rfl, hc2⟩
  have C2 := Lib.hid (C1.out.trans hc2)
  clear hc2
  go_wp2
  go_ret
  exact ⟨rfl, C2.out⟩
set_option maxRecDepth 100000 in
set_option maxHeartbeats 1000000 in
theorem told_mark_any (fb kb mb : Nat) (a hw : Int) (nm : ByteArray) (w : World) (hm : MeterAt w mb 1 a hw 1) (a0 : 0 ≤ a) (a1 : a ≤ 9) (hF : FaultAt w fb nm (markVal kb) .nilIface) (hk : MarkAt w kb (1000 + a)) (hg : Glob w) : Calls Tryd.prog 37 #[faultVal fb, meterPtr mb, .string nm] w fun e w' => e = .returned (.bool true) ∧ Ch [] w w' := by
  have m3 := (cell_of (i := 3) hm).trans rfl
  have m0 := (cell_of (i := 0) hm).trans rfl
  have z3 := lt_of_block hm
  have H1 := Lib.hid (struck_mark fb kb nm (1000 + a) w hF hk hg)
  have H2 := Lib.hid (fun W (h : Ch [] w W) => mark_any mb 1 a hw 1 W (hm.ch h (by simp)) a0 a1)
  have H3 := Lib.hid (fun W (h : Ch [] w W) => where_fault fb nm _ _ W ⟨h.heap hF (by simp), told_mark kb⟩ (hg.ch h (by simp)))
  clear hm hF hk
  unfold faultVal at *
  go_enter Tryd.func37, Tryd.ntmps37
  go_wp2_with fail
  refine H1.out.mono ?_
  rintro e w1 ⟨rfl, hc1⟩
  have C1 := Lib.hid hc1
  clear hc1
  go_wp2_with fail
  refine (H2.out _ C1.out).mono ?_
  rintro e w' ⟨rfl, rfl⟩
  go_wp2_with fail
  refine (H3.out _ C1.out).mono ?_
  rintro e w2 ⟨rfl, hc2⟩
  have C2 := Lib.hid (C1.out.trans hc2)
  clear hc2
  go_wp2
  go_ret
  exact ⟨rfl, C2.out⟩

set_option maxRecDepth 100000 in
set_option maxHeartbeats 1000000 in
theorem refSame_any (x y : V) (w : World) (hx : x.Ok) (hy : y.Ok) : Calls Tryd.prog 38 #[.agg (V.arr x), .agg (V.arr y)] w fun e w' => e = .returned (.bool (cmpV x y == 0)) ∧ Ch [] w w' := by
  have HA : Ch [] w ((w.alloc (.cells (V.arr x) 38)).alloc (.cells (V.arr y) 38)) := ((Ch.refl _ _).alloc _).alloc _
  have h0 := heap_alloc_past (o := .cells (V.arr y) 38) (heap_alloc_same w (.cells (V.arr x) 38))
  have h1 : ((w.alloc (.cells (V.arr x) 38)).alloc (.cells (V.arr y) 38)).heap[w.heap.size + 1]? = some (.cells (V.arr y) 38 (0, 0)) := by simpa using heap_alloc_same (w.alloc (.cells (V.arr x) 38)) (.cells (V.arr y) 38)
  have H1 := Lib.hid (refCompare_any x y ((w.alloc (.cells (V.arr x) 38)).alloc (.cells (V.arr y) 38)) hx.f hy.f)
  have HC := Lib.hid HA
  clear HA h0 h1 hx hy
  unfold V.val V.arr at *
  go_enter Tryd.func38, Tryd.ntmps38
  go_wp2_with fail
  refine H1.out.mono ?_
  rintro e w2 ⟨rfl, hc⟩
  have C2 := Lib.hid (HC.out.trans hc)
  clear hc
  go_wp2
  go_ret
  exact ⟨rfl, C2.out⟩
end Go.Proofs.YtiekahnpnaldjaaDoor
