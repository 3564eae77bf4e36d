/-
  The law HookValues.
-/
import Derived.Test.YtiekahnpnaldjaaDoorHook4
namespace Go.Proofs.YtiekahnpnaldjaaDoor
open Go.RowKit



set_option maxRecDepth 100000 in
theorem values1_any (b2 : Nat) (x : V) (t : Value) (w : World) (h : w.heap[b2]? = some (.cells x.arr 38 (0, 0))) :
    Calls Tryd.prog 22 #[t, .pointer (some ⟨b2, 0, none⟩)] w fun e w' => e = .returned (.tuple #[.agg x.arr, .nilIface]) ∧ Ch [] w w' := by
  have q0 := (cell_of (i := 0) h).trans rfl
  have q1 := (cell_of (i := 1) h).trans rfl
  have q2 := (cell_of (i := 2) h).trans rfl
  have q3 := (cell_of (i := 3) h).trans rfl
  have z := lt_of_block h
  unfold V.arr at *
  clear h
  go_enter Tryd.func22, Tryd.ntmps22
  go_wp2
  try simp only [Exit.inBlock, Exit.then]
  refine bodyPost_ret (v := .tuple #[.agg #[.int .i64 x.k, .int .i64 x.i, .string x.s, .float .f64 x.f], .nilIface]) ?_ rfl ?_
  · rw [results_cell_tmp rfl]
    go_simp
  · exact ⟨rfl, (Ch.refl _ _).alloc _⟩
theorem values2_any (b2 : Nat) (a : Option Addr) (n c : Nat) (t : Value) (w : World) (h : w.heap[b2]? = some (.cells #[.slice a n c] 39 (0, 0))) :
    Calls Tryd.prog 25 #[t, .pointer (some ⟨b2, 0, none⟩)] w fun e w' => e = .returned (.tuple #[.slice a n c, .nilIface]) ∧ Ch [] w w' := by
  have q0 := cell_of_one h
  clear h
  go_enter Tryd.func25, Tryd.ntmps25
  go_wp2
  go_ret2
  exact ⟨rfl, Ch.refl _ _⟩

theorem VRow.nil (w : World) : VRow w 0 0 (.slice none 0 0) [] := ⟨⟨none, 0, rfl, by simp⟩, by simp⟩
/-- A row of one, as the text makes it. -/
theorem VRow.one (w : World) (x : V) : VRow (w.alloc (.cells x.arr 38)) w.heap.size 0 (.slice (some ⟨w.heap.size, 0, none⟩) 1 1) [x] := by
  refine ⟨⟨_, 1, rfl, fun _ => rfl⟩, fun i v hv => ?_⟩
  have h := heap_alloc_same w (.cells x.arr 38)
  cases i with
  | succ i => simp at hv
  | zero =>
    simp at hv
    subst hv
    exact ⟨(cell_of (i := 0) h).trans rfl, (cell_of (i := 1) h).trans rfl, (cell_of (i := 2) h).trans rfl, (cell_of (i := 3) h).trans rfl⟩
theorem lasts_true (w : World) : Lasts w (fun _ => True) := fun _ _ _ _ _ _ => trivial

/-- The block of a copy. -/
theorem CopiedOwn.block {w w' : World} {sv' : Value} {l : List V} (h : CopiedOwn w w' sv' l) (hl : l ≠ []) :
    ∃ g cap cur, sv' = .slice (some ⟨g, 0, none⟩) l.length cap ∧ w.heap.size ≤ g ∧ w'.heap[g]? = some (.cells cur 38 (0, 0)) ∧ (∃ c0 c1 c2 c3, cur[0]? = some c0 ∧ cur[1]? = some c1 ∧ cur[2]? = some c2 ∧ cur[3]? = some c3) ∧ VRow w' g 0 sv' l := by
  rcases h.1.2 with ⟨rfl, h0⟩ | ⟨g, cap, cur, rfl, hg, hh, _, _, _, ht⟩
  · exact absurd (List.eq_nil_of_length_eq_zero h0) hl
  · have hv : VRow w' g 0 (.slice (some ⟨g, 0, none⟩) l.length cap) l := by
      obtain ⟨b, hb, hr⟩ := VRow.of_own h.1
      obtain ⟨ao, ca, he, hn⟩ := hr.shape
      have := hn hl
      subst this
      injection he with h1 h2 h3
      injection h1 with h1
      injection h1 with h1
      subst h1
      exact hr
    refine ⟨g, cap, cur, rfl, hg, hh, ?_, hv⟩
    obtain ⟨x, l, rfl⟩ := List.exists_cons_of_ne_nil hl
    obtain ⟨c0, c1, c2, c3⟩ := hv.cells 0 x rfl
    rw [cell_of hh] at c0 c1 c2 c3
    exact ⟨_, _, _, _, by simpa using c0, by simpa using c1, by simpa using c2, by simpa using c3⟩
theorem VRow.lt {w : World} {b off : Nat} {sv : Value} {l : List V} (h : VRow w b off sv l) (hl : l ≠ []) : b < w.heap.size := by
  obtain ⟨x, l, rfl⟩ := List.exists_cons_of_ne_nil hl
  exact World.block_lt_of_cell? _ _ (h.cells 0 x rfl).c0

/-- What Extract of the law's user code tells. -/
def Extracted (x : V) (w : World) (e : Ending) (w' : World) : Prop :=
  ∃ v err, e = .returned (.tuple #[.agg (V.arr v), err]) ∧ ((err = .nilIface ∧ v = x) ∨ ∃ fb, err = faultVal fb ∧ FaultAt w' fb ⟨#[119]⟩ (.iface 31 (.int .i64 10)) .nilIface) ∧ Ch [] w w'
theorem fewB_len {l : List V} {n : Nat} (h : fewB l n = true) : l.length ≤ n := by
  unfold fewB at h
  simp at h
  exact h.2

set_option maxRecDepth 100000 in
set_option maxHeartbeats 4000000 in
theorem hookValues_any (x : V) (l : List V) (b off : Nat) (sv : Value) (w : World) (hx : x.Ok) (ol : OkL l) (hr : VRow w b off sv l) (hl : l.length ≤ 9223372036854775807) (hg : Glob w) :
    Calls Tryd.prog 4 #[.agg x.arr, sv] w fun e w' => e = .returned (.bool true) ∧ Ch [] w w' := by
  have ox : OkL [x] := fun v hv => by simp at hv; exact hv ▸ hx
  have HG := Lib.hid hg
  have HR := Lib.hid hr
  have HO := Lib.hid (And.intro hx (And.intro ox ol))
  have HK := Lib.hid (fun W hW => known6_any W hW)
  have HL := Lib.hid hl
  have h0 := heap_alloc_same w (.cells x.arr 38)
  have H0 := Lib.hid h0
  obtain ⟨aa, ca, rfl, _⟩ := hr.shape
  clear hr hg hx ox ol h0 hl
  unfold V.arr at *
  go_enter Tryd.func4, Tryd.ntmps4
  go_wp2_with (go_at_call 19; refine (HK.out _ (HG.out.alloc _)).mono ?_)
  rintro e w1 ⟨rfl, hc⟩
  have h1 := hc.heap H0.out (by simp)
  have q0 := (cell_of (i := 0) h1).trans rfl
  have q1 := (cell_of (i := 1) h1).trans rfl
  have q2 := (cell_of (i := 2) h1).trans rfl
  have q3 := (cell_of (i := 3) h1).trans rfl
  have z1 := lt_of_block h1
  have H1 := Lib.hid h1
  have G1 := Lib.hid ((HG.out.alloc _).ch hc (by simp))
  have C1 := Lib.hid (((Ch.refl _ w).alloc _).trans hc)
  have F1 := Lib.hid (few_any [x] _ 0 1 _ _ (VRow.one w1 x) (by simp) HO.out.2.1)
  clear hc h1 HK H0
  go_wp2_with (go_at_call 20; refine F1.out.mono ?_)
  rintro e w' ⟨rfl, rfl⟩
  generalize fewB [x] 1 = r1
  clear F1
  cases r1
  · go_wp2
    go_ret
    exact ⟨rfl, C1.out.alloc _⟩
  have F2 := Lib.hid (few_any l b off 8 _ _ ((HR.out.ch0 C1.out).ch0 ((Ch.refl _ w1).alloc (.cells x.arr 38))) HL.out HO.out.2.2)
  go_wp2_with (go_at_call 20; refine F2.out.mono ?_)
  rintro e w' ⟨rfl, rfl⟩
  clear F2
  rcases hf : fewB l 8 with _ | _
  · clear hf
    go_wp2
    go_ret
    exact ⟨rfl, C1.out.alloc _⟩
  have h8 := fewB_len hf
  clear hf
  by_cases hn : l = []
  · have h0 : l.length = 0 := by rw [hn]; rfl
    have t1 : ((l.length : Int) == 0) = true := by rw [h0]; rfl
    clear hn h0 h8
    go_wp2
    go_ret
    exact ⟨rfl, C1.out.alloc _⟩
  have hpos : 0 < l.length := List.length_pos_iff.2 hn
  have t1 : ((l.length : Int) == 0) = false := by rw [beq_eq_false_iff_ne]; omega
  have H8 := Lib.hid (And.intro h8 (And.intro hpos hn))
  clear h8 hn hpos
  have C2 := Lib.hid (C1.out.alloc (.cells x.arr 38))
  have H2 := Lib.hid (heap_alloc_past (o := .cells x.arr 38) H1.out)
  have G2 := Lib.hid (G1.out.alloc (.cells x.arr 38))
  clear H1 G1
  have HE0 : Calls Tryd.prog 21 #[.string ⟨#[119]⟩, .func (.func 22) #[] #[.pointer (some ⟨w.heap.size, 0, none⟩)], .slice none 0 0] (w1.alloc (.cells x.arr 38)) fun e w' => Extracted x (w1.alloc (.cells x.arr 38)) e w' := by
    have hu : ∀ sv' W0 W, Ch [] (w1.alloc (.cells x.arr 38)) W0 → CopiedOwn W0 W sv' [] → Calls Tryd.prog 22 (#[sv'] ++ #[.pointer (some ⟨w.heap.size, 0, none⟩)]) W fun e w' => e = .returned (.tuple #[.agg x.arr, .nilIface]) ∧ True ∧ Ch [] W0 w' :=
      fun sv' W0 W hc hcp => (values1_any w.heap.size x sv' W ((hc.trans' hcp.2 (by simp)).heap H2.out (by simp))).mono fun e w' h => ⟨h.1, trivial, hcp.2.trans h.2⟩
    cases hi : isV x
    · refine (extract_bad ⟨#[119]⟩ 22 #[.pointer (some ⟨w.heap.size, 0, none⟩)] 0 0 (.slice none 0 0) [] _ [] (fun _ => True) x (VRow.nil _) (by simp) (by simp) (lasts_true _) (fun _ _ => rfl) hu HO.out.1 hi).mono ?_
      rintro e w' ⟨fb, rfl, hF, -, hc⟩
      exact ⟨V.zero, _, rfl, .inr ⟨fb, rfl, hF⟩, hc⟩
    · refine (extract_ok ⟨#[119]⟩ 22 #[.pointer (some ⟨w.heap.size, 0, none⟩)] 0 0 (.slice none 0 0) [] _ [] (fun _ => True) x (VRow.nil _) (by simp) (by simp) (lasts_true _) (fun _ _ => rfl) hu HO.out.1 hi).mono ?_
      rintro e w' ⟨rfl, -, hc⟩
      exact ⟨x, _, rfl, .inl ⟨rfl, rfl⟩, hc⟩
  have HE := Lib.hid HE0
  clear HE0
  go_wp2_with (go_at_call 21; refine HE.out.mono ?_)
  rintro e w3 ⟨v, err, rfl, hw, hc⟩
  have HB0 := Lib.hid (hc.heap H2.out (by simp))
  replace hc := C2.out.trans hc
  have HW := Lib.hid hw
  have HX3 := Lib.hid hc
  clear hc hw HE C2 H2
  have HC := Lib.hid (copy_any l b off _ (w3.alloc (.cells v.arr 38)) (HR.out.ch0 (HX3.out.alloc _)) (by have := H8.out.1; omega))
  unfold V.arr at *
  go_wp2_with (go_at_call 23; refine HC.out.mono ?_)
  rintro e w5 ⟨sv', rfl, hcp⟩
  obtain ⟨g, gc, cur, rfl, hg, hh, ⟨c0, c1, c2, c3, e0, e1, e2, e3⟩, hv⟩ := hcp.block H8.out.2.2
  have HP := Lib.hid (And.intro hcp.2 (And.intro hg (And.intro hh (And.intro hv (And.intro (And.intro e0 e1) (And.intro e2 e3))))))
  clear HC hcp hg hh hv e0 e1 e2 e3
  have C5 := Lib.hid ((HX3.out.alloc _).trans HP.out.1)
  have hgl := lt_of_block HP.out.2.2.1
  have h6 := heap_alloc_same w5 (.cells #[.slice (some ⟨g, 0, none⟩) l.length gc] 39)
  have H6 := Lib.hid h6
  clear h6
  have HM := Lib.hid (mutate_ok 25 #[.pointer (some ⟨w5.heap.size, 0, none⟩)] 0 0 (.slice none 0 0) [] l (w5.alloc (.cells #[.slice (some ⟨g, 0, none⟩) l.length gc] 39)) [] (fun _ => True) (VRow.nil _) (by simp) (by simp) (lasts_true _) (fun _ _ => rfl)
    (fun sv' W0 W hc hcp => (values2_any w5.heap.size _ _ _ sv' W ((hc.trans' hcp.2 (by simp)).heap H6.out (by simp))).mono fun e w' h => ⟨_, _, _, h.1, ⟨g, 0, HP.out.2.2.2.1.ch0 (((Ch.refl _ w5).alloc _).trans ((hc.trans hcp.2).trans h.2)), .inl (by simp; omega)⟩, trivial, hcp.2.trans h.2⟩)
    (by have := H8.out.1; omega))
  go_wp2_with (go_at_call 24; refine HM.out.mono ?_)
  rintro e w7 ⟨sv2, b2, rfl, hb2, hr2, -, hc7⟩
  obtain ⟨a2, ca2, rfl, _⟩ := hr2.shape
  have C7 := Lib.hid (((Ch.refl _ w5).alloc (.cells #[.slice (some ⟨g, 0, none⟩) l.length gc] 39)).trans hc7)
  have k7 := Lib.hid (hc7.heap H6.out (by simp))
  have R7 := Lib.hid (And.intro hr2 (show g < b2 by simp at hb2; omega))
  clear hr2 hb2 hc7 HM H6
  have HV1 := Lib.hid (vals_any l l b2 0 b off _ _ w7 R7.out.1 (HR.out.ch0 (C5.out.trans C7.out)) HO.out.2.2 HO.out.2.2 HL.out HL.out)
  go_wp2_with (go_at_call 26; refine HV1.out.mono ?_)
  rw [rows_refl]
  rintro e w8 ⟨rfl, hc8⟩
  have k8 := cell_of_one (hc8.heap k7.out (by simp))
  have h8 := hc8.heap (C7.out.heap HP.out.2.2.1 (by simp)) (by simp)
  have s0 := (cell_of (i := 0) h8).trans HP.out.2.2.2.2.1.1
  have s1 := (cell_of (i := 1) h8).trans HP.out.2.2.2.2.1.2
  have s2 := (cell_of (i := 2) h8).trans HP.out.2.2.2.2.2.1
  have s3 := (cell_of (i := 3) h8).trans HP.out.2.2.2.2.2.2
  have r0 := free_of (i := 0) h8
  have r1 := free_of (i := 1) h8
  have r2 := free_of (i := 2) h8
  have r3 := free_of (i := 3) h8
  have i0 : (0 : Int) < (l.length : Int) := by have := H8.out.2.1; omega
  have hc9 : Ch [g] w8 ((((w8.setCell ⟨g, 0, none⟩ (.int .i64 99)).setCell ⟨g, 1, none⟩ (.int .i64 0)).setCell ⟨g, 2, none⟩ (.string ⟨#[]⟩)).setCell ⟨g, 3, none⟩ (.float .f64 0)) := ((((Ch.refl _ w8).setCell (by simp) _).setCell (by simp) _).setCell (by simp) _).setCell (by simp) _
  have hb : b ∉ [g] := by have h1 := HR.out.lt H8.out.2.2; have h2 := HX3.out.size; have h3 := HP.out.2.1; simp at h3; simp; omega
  have hb2 : b2 ∉ [g] := by have := R7.out.2; simp; omega
  have HV2 := Lib.hid (vals_any l l b2 0 b off _ _ _ ((R7.out.1.ch0 hc8).ch hc9 hb2) (((HR.out.ch0 (C5.out.trans C7.out)).ch0 hc8).ch hc9 hb) HO.out.2.2 HO.out.2.2 HL.out HL.out)
  have C9 := Lib.hid (hc8.mono (S' := [g]) (by simp) |>.trans hc9)
  clear hc8 h8 hc9 hb hb2 HV1
  go_wp2_with (go_at_call 26; refine HV2.out.mono ?_)
  rw [rows_refl]
  rintro e w10 ⟨rfl, hc10⟩
  have C10 := Lib.hid (C9.out.trans (hc10.mono (S' := [g]) (by simp)))
  have CT := Lib.hid ((C5.out.trans C7.out).trans' C10.out (by intro y hy; right; have h2 := HX3.out.size; have h3 := HP.out.2.1; simp at h3; simp at hy; omega))
  have G10 := Lib.hid ((((HG.out.alloc (.cells x.arr 38)).alloc (.cells x.arr 38))))
  have GG := Lib.hid (HG.out.ch CT.out (by simp))
  have hx0 := C10.out.heap (C7.out.heap (HP.out.1.heap (heap_alloc_past (o := .cells v.arr 38) HB0.out) (by simp)) (by simp)) (by have h1 := lt_of_block HB0.out; have h3 := HP.out.2.1; simp at h3; simp; omega)
  have hv0 := C10.out.heap (C7.out.heap (HP.out.1.heap (heap_alloc_same w3 (.cells v.arr 38)) (by simp)) (by simp)) (by have h3 := HP.out.2.1; simp at h3; simp; omega)
  have HZ := Lib.hid (And.intro hx0 hv0)
  clear hc10 HV2 r0 r1 r2 r3 s0 s1 s2 s3 k8 i0 q0 q1 q2 q3 hx0 hv0 t1 G10
  obtain ⟨rfl, rfl⟩ | ⟨fb, rfl, hF⟩ := HW.out
  · clear HW
    have q0 := (cell_of (i := 0) HZ.out.1).trans rfl
    have q1 := (cell_of (i := 1) HZ.out.1).trans rfl
    have q2 := (cell_of (i := 2) HZ.out.1).trans rfl
    have q3 := (cell_of (i := 3) HZ.out.1).trans rfl
    have z0 := lt_of_block HZ.out.1
    have p0 := (cell_of (i := 0) HZ.out.2).trans rfl
    have p1 := (cell_of (i := 1) HZ.out.2).trans rfl
    have p2 := (cell_of (i := 2) HZ.out.2).trans rfl
    have p3 := (cell_of (i := 3) HZ.out.2).trans rfl
    have y0 := lt_of_block HZ.out.2
    have hr1 := VRow.one w10 v
    have hr2 := VRow.one (w10.alloc (.cells v.arr 38)) v
    have es : (w10.alloc (.cells v.arr 38)).heap.size = w10.heap.size + 1 := by simp
    rw [es] at hr2
    clear es
    have HV := Lib.hid (vals_any [v] [v] _ 0 _ 0 _ _ _ (hr1.ch0 ((Ch.refl _ _).alloc (.cells v.arr 38))) hr2 HO.out.2.1 HO.out.2.1 (by simp) (by simp))
    clear hr1 hr2
    unfold V.arr at *
    go_wp2_with (go_at_call 26; refine HV.out.mono ?_)
    rw [rows_refl]
    rintro e w11 ⟨rfl, hc⟩
    have C11 := Lib.hid hc
    clear hc
    go_wp2
    go_ret
    exact ⟨rfl, ((CT.out.alloc _).alloc _).trans C11.out⟩
  · have F10 := Lib.hid (show Faulty w10 fb _ _ _ from ⟨C10.out.heap (C7.out.heap (HP.out.1.heap (heap_alloc_past hF) (by simp)) (by simp)) (by have h1 := lt_of_block hF; have h3 := HP.out.2.1; simp at h3; simp; omega), .err _ _ _ (misses_leaf d_errno_twice l_errno _)⟩)
    clear hF HW
    have HC1 := Lib.hid (class_fault fb _ _ _ _ F10.out GG.out)
    have HW1 := Lib.hid (fun W (h : Ch [] w10 W) => where_fault fb _ _ _ W (F10.out.ch h) (GG.out.ch h (by simp)))
    unfold faultVal at *
    go_wp2_with (go_at_call 18; refine HC1.out.mono ?_)
    rintro e w11 ⟨rfl, hc⟩
    have C11 := Lib.hid hc
    clear hc
    go_wp2_with (go_at_call 27; refine (HW1.out _ C11.out).mono ?_)
    rintro e w12 ⟨rfl, hc⟩
    have C12 := Lib.hid hc
    clear hc
    go_wp2
    go_ret
    exact ⟨rfl, (CT.out.trans C11.out).trans C12.out⟩
end Go.Proofs.YtiekahnpnaldjaaDoor
