/-
  KeyCompares: two keys held against one another. The walk.
-/
import Derived.Test.YtiekahnpnaldjaaDoorCo4
import Derived.Test.YtiekahnpnaldjaaDoorKt5
namespace Go.Proofs.YtiekahnpnaldjaaDoor
open Go.RowKit

theorem i64_and1 (n : Int) : bits .and .i64 n 1 = n % 2 := by
  have h3 : (BitVec.ofInt 64 1).toNat = 2 ^ 1 - 1 := by decide
  have key : (BitVec.ofInt 64 n &&& BitVec.ofInt 64 1).toNat = (n % ((2 ^ 64 : Nat) : Int)).toNat % 2 ^ 1 := by
    rw [BitVec.toNat_and, BitVec.toNat_ofInt, h3, Nat.and_two_pow_sub_one_eq_mod]
  show IntKind.i64.wrap ((BitVec.ofInt 64 n &&& BitVec.ofInt 64 1).toNat : Nat) = n % 2
  rw [key, IntKind.wrap_i64]
  omega
theorem and1_bounds (n : Int) : 0 ≤ bits .and .i64 n 1 ∧ bits .and .i64 n 1 ≤ 1 := by rw [i64_and1]; omega

theorem sizeV_few {l : List V} {n : Nat} (h : fewB l n = true) : sizeV l ≤ l.length * 200 := by
  have h1 : ∀ v ∈ l, v.s.size ≤ 200 := by
    unfold fewB at h
    simp only [Bool.and_eq_true, List.all_eq_true, decide_eq_true_eq] at h
    exact h.1
  clear h
  unfold sizeV
  induction l with
  | nil => simp
  | cons v l ih =>
    have := ih (fun x hx => h1 x (List.mem_cons_of_mem _ hx))
    have := h1 v (by simp)
    simp only [List.map_cons, List.sum_cons, List.length_cons]
    omega

/-- What key.Compare tells under the statement's meter. -/
def KcRes (nm : ByteArray) (mb : Nat) (a hw cm : Int) (la lb : List V) (w : World) (e : Ending) (w' : World) : Prop :=
  Ch [mb] w w' ∧ ((∃ c, e = .returned (.tuple #[.int .i64 (if cm < 0 then cmpRows la lb else cmpC cm la lb), .nilIface]) ∧ MeterAt w' mb c a hw 0) ∨
    (∃ c fb kb, e = .returned (.tuple #[.int .i64 0, faultVal fb]) ∧ FaultAt w' fb nm (markVal kb) .nilIface ∧ MarkAt w' kb (1000 + a) ∧ MeterAt w' mb c a hw 1))
theorem kc_any (nm : ByteArray) (kd cm : Int) (pa xa : Option Addr) (pn pc xn xc : Nat) (hcv : Value) (D : Nat) (la lb : List V) (ba oa bb ob : Nat) (sa sb : Value) (mb : Nat) (a hw : Int) (w : World) (hn : -1 ≤ cm ∧ cm < 3)
    (ha : VRow w ba oa sa la) (hb : VRow w bb ob sb lb) (oka : OkL la) (okb : OkL lb) (hla : la.length ≤ 1000) (hlb : lb.length ≤ 1000) (hsa : sizeV la ≤ 9223372036854775807) (hsb : sizeV lb ≤ 9223372036854775807)
    (hhc : Hooked w D 91 83 (meterPtr mb) 3 hcv) (hm : MeterAt w mb 0 a hw 0) (a0 : 0 ≤ a) (a1 : a ≤ 1) :
    Calls Tryd.prog 43 #[defVal nm kd (.slice pa pn pc) cm, .agg #[.slice xa xn xc, hcv], sa, sb] w (KcRes nm mb a hw cm la lb w) := by
  by_cases h0 : cm < 0
  · obtain rfl : cm = -1 := by omega
    obtain ⟨g, gc, rfl, _, _⟩ := hhc.at (by omega)
    refine (keyCmp_rows nm kd pa xa _ pn pc xn xc 3 gc la lb ba oa bb ob sa sb w ha hb oka okb (by omega) (by omega)).mono ?_
    rintro e w' ⟨rfl, hc⟩
    exact ⟨hc.mono (by simp), .inl ⟨0, by simp, hm.ch hc (by simp)⟩⟩
  · obtain ⟨n, rfl⟩ : ∃ n : Nat, cm = n := ⟨cm.toNat, by omega⟩
    refine (keyCmp_hook nm kd n pa xa pn pc xn xc hcv D la lb ba oa bb ob sa sb mb 0 a hw w (by omega) ha hb oka okb hla hlb hsa hsb hhc hm (by omega) (by omega) a0 (by omega)).mono ?_
    rintro e w' ⟨cv, er, hR, hc, hcase⟩
    refine ⟨hc, ?_⟩
    rcases hR with ⟨h1, rfl, rfl, hm1⟩ | ⟨h1, kb, rfl, hk, hm1⟩
    · rcases hcase with ⟨_, rfl⟩ | ⟨fb, ⟨t, v, hx⟩, _⟩
      · left
        refine ⟨1, ?_, by simpa using hm1⟩
        rw [if_neg h0, cmpI_seven _ (cmpC_three n la lb)]
      · cases hx
    · rcases hcase with ⟨hx, _⟩ | ⟨fb, _, rfl, _, hF⟩
      · cases hx
      · right
        exact ⟨1, fb, kb, rfl, hF, hk, by simpa using hm1⟩

set_option maxRecDepth 100000 in
set_option maxHeartbeats 4000000 in
theorem keyCompares_any (nm : ByteArray) (kd cm : Int) (ps : Value) (pa : Option Addr) (pn pc : Nat) (la lb : List V) (ba oa bb ob : Nat) (sa sb : Value) (ia ib at' how : Int) (w : World) (hps : ps = .slice pa pn pc) (hnm : nm.size ≤ 9223372036854775807) (hcm : -9223372036854775808 ≤ cm ∧ cm ≤ 9223372036854775807) (hpn : pn ≤ 9223372036854775807)
    (ha : VRow w ba oa sa la) (hb : VRow w bb ob sb lb) (oka : OkL la) (okb : OkL lb) (hla : la.length ≤ 9223372036854775807) (hlb : lb.length ≤ 9223372036854775807) (hca : ∀ a n c, sa = .slice a n c → n ≤ c) (hcb : ∀ a n c, sb = .slice a n c → n ≤ c) (hg : Glob w) :
    Calls Tryd.prog 9 #[defVal nm kd ps cm, sa, sb, .int .i64 ia, .int .i64 ib, .int .i64 at', .int .i64 how] w fun e w' => e = .returned (.bool true) ∧ Ch [] w w' := by
  subst hps
  obtain ⟨aa, ca, rfl, _⟩ := ha.shape
  obtain ⟨ab, cb, rfl, _⟩ := hb.shape
  obtain ⟨b0, b1⟩ := and1_bounds at'
  obtain ⟨a, hab⟩ : ∃ a, bits .and .i64 at' 1 = a := ⟨_, rfl⟩
  rw [hab] at b0 b1
  have hd0 := heap_alloc_same w (.cells #[.string nm, .int .i64 kd, .slice pa pn pc, .int .i64 cm] 53)
  have HR := Lib.hid (And.intro ha (And.intro hb (And.intro oka (And.intro okb (And.intro hca hcb)))))
  have HGL := Lib.hid hg
  have H0 := Lib.hid (And.intro hd0 (hg.alloc (.cells #[.string nm, .int .i64 kd, .slice pa pn pc, .int .i64 cm] 53)))
  clear ha hb oka okb hca hcb hd0 hg
  go_enter Tryd.func9, Tryd.ntmps9
  go_wp2_with fail
  refine (known7_any _ H0.out.2).mono ?_
  rintro e w1 ⟨rfl, hc1⟩
  have C1 := Lib.hid (And.intro (((Ch.refl _ w).alloc _).trans hc1) (hc1.heap H0.out.1 (by simp)))
  clear hc1 H0
  obtain ⟨d0, d1, d2, d3⟩ := defCells C1.out.2
  go_wp2_with fail
  refine (def_any nm kd cm pa pn pc w1 hnm hpn).mono ?_
  rintro e w2 ⟨rfl, hc2⟩
  have C2 := Lib.hid (And.intro (C1.out.1.trans hc2) (hc2.heap C1.out.2 (by simp)))
  clear hc2 C1 d0 d1 d2 d3
  by_cases hd : nm.size ≤ 60 ∧ pn ≤ 8
  case neg =>
    rw [decide_eq_false hd]
    go_wp2
    go_ret
    exact ⟨rfl, C2.out.1⟩
  rw [decide_eq_true hd]
  clear hd
  have F1 := Lib.hid (few_any la ba oa 6 _ w2 (HR.out.1.ch0 C2.out.1) hla HR.out.2.2.1)
  go_wp2_with fail
  refine F1.out.mono ?_
  rintro e w' ⟨rfl, rfl⟩
  clear F1
  rcases hf : fewB la 6 with _ | _
  · clear hf
    go_wp2
    go_ret
    exact ⟨rfl, C2.out.1⟩
  have ha6 := fewB_len hf
  have hsa := sizeV_few hf
  clear hf
  have F1 := Lib.hid (few_any lb bb ob 6 _ w2 (HR.out.2.1.ch0 C2.out.1) hlb HR.out.2.2.2.1)
  go_wp2_with fail
  refine F1.out.mono ?_
  rintro e w' ⟨rfl, rfl⟩
  clear F1
  rcases hf : fewB lb 6 with _ | _
  · clear hf
    go_wp2
    go_ret
    exact ⟨rfl, C2.out.1⟩
  have hb6 := fewB_len hf
  have hsb := sizeV_few hf
  have HSZ := Lib.hid (And.intro (show sizeV la ≤ 9223372036854775807 by omega) (show sizeV lb ≤ 9223372036854775807 by omega))
  clear hf hsa hsb
  obtain ⟨d0, d1, d2, d3⟩ := defCells C2.out.2
  go_wp2_with fail
  refine (good_any cm w2).mono ?_
  rintro e w3 ⟨rfl, hc3⟩
  have C3 := Lib.hid (And.intro (C2.out.1.trans hc3) (hc3.heap C2.out.2 (by simp)))
  clear hc3 C2 d0 d1 d2 d3
  by_cases hn : -1 ≤ cm ∧ cm < 3
  case neg =>
    rw [decide_eq_false hn]
    go_wp2
    go_ret
    exact ⟨rfl, C3.out.1⟩
  rw [decide_eq_true hn]
  have HN := Lib.hid hn
  clear hn
  have HU0 := Lib.hid (heap_alloc_same w3 (.cells #[.int .i64 0, .int .i64 0, .int .i64 0, .int .i64 0] 57))
  go_wp2_with fail
  refine (hooks_any (meterPtr w3.heap.size) _ ⟨_, rfl⟩).mono ?_
  rintro e w4 ⟨hx, hcv, rfl, hh1, hh2, hc4⟩
  obtain ⟨gx, cx, rfl, _, _⟩ := hh1.at (by omega)
  obtain ⟨gc, cc, rfl, _, _⟩ := hh2.at (by omega)
  have hcA : Ch [] w4 (w4.alloc (.cells #[.slice (some ⟨gx, 0, none⟩) 5 cx, .slice (some ⟨gc, 0, none⟩) 3 cc] 61)) := (Ch.refl _ w4).alloc _
  have hhb := heap_alloc_same w4 (.cells #[.slice (some ⟨gx, 0, none⟩) 5 cx, .slice (some ⟨gc, 0, none⟩) 3 cc] 61)
  have hs3 := C3.out.1.size
  have hD3 := lt_of_block C3.out.2
  have hs4 := hc4.size
  simp at hs4
  have hm4 : MeterAt _ w3.heap.size 0 0 0 0 := hcA.heap (hc4.heap HU0.out (by simp)) (by simp)
  have hw4 : Ch [] w (w4.alloc (.cells #[.slice (some ⟨gx, 0, none⟩) 5 cx, .slice (some ⟨gc, 0, none⟩) 3 cc] 61)) := ((C3.out.1.alloc _).trans hc4).trans hcA
  have hd4 := hcA.heap (hc4.heap (heap_alloc_past (o := .cells #[.int .i64 0, .int .i64 0, .int .i64 0, .int .i64 0] 57) C3.out.2) (by simp)) (by simp)
  have hk4 := hh2.fr (Fr.of_ch (D := 0) (T := []) hcA (Nat.zero_le _) (by simp)) (by simp) (by simp) (by simp)
  have hsz4 : (w4.alloc (.cells #[.slice (some ⟨gx, 0, none⟩) 5 cx, .slice (some ⟨gc, 0, none⟩) 3 cc] 61)).heap.size = w4.heap.size + 1 := by simp
  generalize hW4 : w4.alloc (.cells #[.slice (some ⟨gx, 0, none⟩) 5 cx, .slice (some ⟨gc, 0, none⟩) 3 cc] 61) = W4 at *
  have HS := Lib.hid (And.intro hs3 (And.intro hD3 (And.intro hs4 hsz4)))
  have H4 := Lib.hid (And.intro hm4 (And.intro hw4 (And.intro hd4 (And.intro hk4 (And.intro hhb hW4)))))
  clear hc4 hcA hhb hs3 hD3 hs4 hm4 hw4 hd4 hk4 hsz4 hW4 hh1 hh2 C3 HU0
  go_upto_region 7 with (fail)
  rw [H4.out.2.2.2.2.2]
  go_wp2_with fail
  refine (set_any w3.heap.size 0 0 0 0 a how W4 H4.out.1 b0).mono ?_
  rintro e w5 ⟨rfl, ⟨hw', hm5⟩, hc5⟩
  have hw5 : Ch [] w w5 := H4.out.2.1.trans' hc5 (by intro x hx; right; simp at hx; have := HS.out.1; omega)
  have hd5 := hc5.heap H4.out.2.2.1 (by simp; have := HS.out; omega)
  have hh5 := hc5.heap H4.out.2.2.2.2.1 (by simp; have := HS.out; omega)
  have hk5 := H4.out.2.2.2.1.fr (Fr.of_ch (D := 0) (T := [some 57]) hc5 (Nat.zero_le _) (by
      intro x hx
      simp at hx
      subst hx
      exact ⟨Nat.zero_le _, fun o ho => by rw [H4.out.1] at ho; cases ho; simp [kindOf]⟩)) (by decide) (by decide) (by decide)
  have HK := Lib.hid (kc_any nm kd cm pa (some ⟨gx, 0, none⟩) pn pc 5 cx _ _ la lb ba oa bb ob _ _ w3.heap.size a hw' w5 HN.out (HR.out.1.ch0 hw5) (HR.out.2.1.ch0 hw5) HR.out.2.2.1 HR.out.2.2.2.1 (by omega) (by omega) HSZ.out.1 HSZ.out.2 hk5 hm5 b0 b1)
  obtain ⟨d0, d1, d2, d3⟩ := defCells hd5
  have g0 := (cell_of (i := 0) hh5).trans rfl
  have g1 := (cell_of (i := 1) hh5).trans rfl
  have H5 := Lib.hid (And.intro hw5 (And.intro hd5 hh5))
  clear hw5 hd5 hh5 hk5 hm5 hc5
  go_wp2_with fail
  refine HK.out.mono ?_
  rintro e w6 ⟨hc6, ⟨c, rfl, hm6⟩ | ⟨c, fb, kb, rfl, hF, hMk, hm6⟩⟩
  · have hw6 : Ch [] w w6 := H5.out.1.trans' hc6 (by intro x hx; right; simp at hx; have := HS.out.1; omega)
    have hd6 := hc6.heap H5.out.2.1 (by simp; have := HS.out; omega)
    have hh6 := hc6.heap H5.out.2.2 (by simp; have := HS.out; omega)
    have m3 := (cell_of (i := 3) hm6).trans rfl
    have z3 := lt_of_block hm6
    have H6 := Lib.hid (And.intro hw6 (And.intro hd6 hh6))
    obtain ⟨d0, d1, d2, d3⟩ := defCells hd6
    have HKeys := Lib.hid (keys_any nm kd cm pa pn pc la lb ba oa bb ob _ _ w6 (HR.out.1.ch0 hw6) (HR.out.2.1.ch0 hw6) HR.out.2.2.1 HR.out.2.2.2.1 (by omega) (by omega) HSZ.out.1 HSZ.out.2 (by have := HN.out; omega) HR.out.2.2.2.2.1 HR.out.2.2.2.2.2)
    have HRows := Lib.hid (fun W (h : Ch [] w6 W) => refRows_any la lb ba oa bb ob _ _ W (HR.out.1.ch0 (hw6.trans h)) (HR.out.2.1.ch0 (hw6.trans h)) HR.out.2.2.1 HR.out.2.2.2.1 (by omega) (by omega))
    have HOrd := Lib.hid (fun W (h : Ch [] w6 W) => keyOrder_entry la lb ba oa bb ob _ _ ia ib W (HR.out.1.ch0 (hw6.trans h)) (HR.out.2.1.ch0 (hw6.trans h)) HR.out.2.2.1 HR.out.2.2.2.1 (by omega) (by omega))
    have H99 := Lib.hid (fun W (_ : Ch [] w6 W) => keyCmp_none ⟨#[]⟩ 0 99 none (some ⟨gx, 0, none⟩) (some ⟨gc, 0, none⟩) 0 0 5 cx 3 cc (.slice aa la.length ca) (.slice ab lb.length cb) W ⟨_, _, _, rfl⟩ ⟨_, _, _, rfl⟩ (.inr (by omega)) (by omega))
    have HCl := Lib.hid (fun W (h : Ch [] w6 W) => class_errno 60 W (HGL.out.ch (hw6.trans h) (by simp)))
    have HHB := Lib.hid (fun W (h : Ch [] w6 W) => (show W.cell? ⟨w4.heap.size, 0, none⟩ = some (.slice (some ⟨gx, 0, none⟩) 5 cx) ∧ W.cell? ⟨w4.heap.size, 1, none⟩ = some (.slice (some ⟨gc, 0, none⟩) 3 cc) from
      ⟨(cell_of (i := 0) (h.heap hh6 (by simp))).trans rfl, (cell_of (i := 1) (h.heap hh6 (by simp))).trans rfl⟩))
    have hol := show ordE la lb ia ib = if cmpRows la lb ≠ 0 then cmpRows la lb else cmpI ia ib from rfl
    generalize (if cm < 0 then cmpRows la lb else cmpC cm la lb) = want at *
    generalize cmpRows la lb = o at *
    generalize ordE la lb ia ib = ov at *
    have HOL := Lib.hid hol
    clear hw6 hd6 hh6 hc6 hm6 g0 g1 hol HK
    go_wp2_with fail
    refine HKeys.out.mono ?_
    rintro e w7 ⟨rfl, hc7⟩
    have H7 := Lib.hid hc7
    clear hc7 d0 d1 d2 d3 m3
    go_wp2_with fail
    refine (HRows.out _ H7.out).mono ?_
    rintro e w8 ⟨rfl, hc8⟩
    have H8 := Lib.hid (H7.out.trans hc8)
    obtain ⟨g0, g1⟩ := HHB.out _ H8.out
    clear hc8
    by_cases ho : o = 0
    · have ho2 := HOL.out
      rw [if_neg (by simp [ho])] at ho2
      subst ho
      rcases Int.lt_trichotomy ia ib with hi | hi | hi
      · have t1 : (ia != ib) = true := by rw [bne_iff_ne]; omega
        obtain rfl : ov = -1 := by rw [ho2]; unfold cmpI; rw [if_pos hi]
        clear ho2 HOL
        go_wp2_with fail
        refine (H99.out _ H8.out).mono ?_
        rintro e w9 ⟨rfl, hc9⟩
        have H9 := Lib.hid (H8.out.trans hc9)
        clear hc9
        go_wp2_with fail
        refine (HOrd.out _ H9.out).mono ?_
        rintro e w10 ⟨rfl, hc10⟩
        have H10 := Lib.hid (H9.out.trans hc10)
        clear hc10
        go_wp2_with fail
        refine (HCl.out _ H10.out).mono ?_
        rintro e w11 ⟨rfl, hc11⟩
        have H11 := Lib.hid (H6.out.1.trans (H10.out.trans hc11))
        clear hc11
        go_wp2
        go_ret
        exact ⟨rfl, H11.out⟩
      · subst hi
        have t1 : (ia != ia) = false := by simp
        obtain rfl : ov = 0 := by rw [ho2]; unfold cmpI; rw [if_neg (by omega), if_neg (by omega)]
        clear ho2 HOL
        go_wp2_with fail
        refine (H99.out _ H8.out).mono ?_
        rintro e w9 ⟨rfl, hc9⟩
        have H9 := Lib.hid (H8.out.trans hc9)
        clear hc9
        go_wp2_with fail
        refine (HOrd.out _ H9.out).mono ?_
        rintro e w10 ⟨rfl, hc10⟩
        have H10 := Lib.hid (H9.out.trans hc10)
        clear hc10
        go_wp2_with fail
        refine (HCl.out _ H10.out).mono ?_
        rintro e w11 ⟨rfl, hc11⟩
        have H11 := Lib.hid (H6.out.1.trans (H10.out.trans hc11))
        clear hc11
        go_wp2
        go_ret
        exact ⟨rfl, H11.out⟩
      · have t1 : (ia != ib) = true := by rw [bne_iff_ne]; omega
        obtain rfl : ov = 1 := by rw [ho2]; unfold cmpI; rw [if_neg (by omega), if_pos hi]
        clear ho2 HOL
        go_wp2_with fail
        refine (H99.out _ H8.out).mono ?_
        rintro e w9 ⟨rfl, hc9⟩
        have H9 := Lib.hid (H8.out.trans hc9)
        clear hc9
        go_wp2_with fail
        refine (HOrd.out _ H9.out).mono ?_
        rintro e w10 ⟨rfl, hc10⟩
        have H10 := Lib.hid (H9.out.trans hc10)
        clear hc10
        go_wp2_with fail
        refine (HCl.out _ H10.out).mono ?_
        rintro e w11 ⟨rfl, hc11⟩
        have H11 := Lib.hid (H6.out.1.trans (H10.out.trans hc11))
        clear hc11
        go_wp2
        go_ret
        exact ⟨rfl, H11.out⟩
    · have ho2 := HOL.out
      rw [if_pos ho] at ho2
      subst ho2
      have t1 : (ov == 0) = false := by rw [beq_eq_false_iff_ne]; exact ho
      clear ho HOL
      go_wp2_with fail
      refine (H99.out _ H8.out).mono ?_
      rintro e w9 ⟨rfl, hc9⟩
      have H9 := Lib.hid (H8.out.trans hc9)
      clear hc9
      go_wp2_with fail
      refine (HOrd.out _ H9.out).mono ?_
      rintro e w10 ⟨rfl, hc10⟩
      have H10 := Lib.hid (H9.out.trans hc10)
      clear hc10
      go_wp2_with fail
      refine (HCl.out _ H10.out).mono ?_
      rintro e w11 ⟨rfl, hc11⟩
      have H11 := Lib.hid (H6.out.1.trans (H10.out.trans hc11))
      clear hc11
      go_wp2
      go_ret
      exact ⟨rfl, H11.out⟩
  · have hw6 : Ch [] w w6 := H5.out.1.trans' hc6 (by intro x hx; right; simp at hx; have := HS.out.1; omega)
    have hd6 := hc6.heap H5.out.2.1 (by simp; have := HS.out; omega)
    have m3 := (cell_of (i := 3) hm6).trans rfl
    have z3 := lt_of_block hm6
    have HNM := fun (p : ChW w6) => (defCells (p.ch.heap hd6 (by simp))).1
    have HSt := Lib.hid (fun (p : ChW w6) => Calls.chw_of (struck_mark fb kb nm (1000 + a) p.w (p.ch.heap hF (by simp)) (p.ch.heap hMk (by simp)) (HGL.out.ch (hw6.trans p.ch) (by simp))))
    have HWh := Lib.hid (fun (p : ChW w6) => Calls.chw_of (where_fault fb nm _ _ p.w ⟨p.ch.heap hF (by simp), told_mark kb⟩ (HGL.out.ch (hw6.trans p.ch) (by simp))))
    have HMa := Lib.hid (fun (p : ChW w6) => Calls.chw_of ((mark_any w3.heap.size c a hw' 1 p.w (hm6.ch p.ch (by simp)) b0 (by omega)).mono fun e w' h => (show e = .returned (.int .i64 (1000 + a)) ∧ Ch [] p.w w' from ⟨h.1, h.2 ▸ Ch.refl _ _⟩)))
    have H6 := Lib.hid hw6
    clear hw6 hd6 hc6 hm6 hF hMk d0 d1 d2 d3 g0 g1 HK
    go_wp2_with fail
    refine wp_region_chw (w0 := w6) (by kernel_rfl) (by kernel_rfl) (Ch.refl _ _) ?_
    repeat (first | go_big_quiet_step ((first | (go_at_call 44; exact HSt.out _) | (go_at_call 45; exact HMa.out _) | (go_at_call 27; exact HWh.out _))) | quiet_step ((first | (go_at_call 44; exact HSt.out _) | (go_at_call 45; exact HMa.out _) | (go_at_call 27; exact HWh.out _))))
    refine wpQuiet_nil ?_
    rintro _ ⟨pq, rfl⟩
    clear HNM
    go_wp2
    go_ret
    exact ⟨rfl, H6.out.trans pq.ch⟩
end Go.Proofs.YtiekahnpnaldjaaDoor
