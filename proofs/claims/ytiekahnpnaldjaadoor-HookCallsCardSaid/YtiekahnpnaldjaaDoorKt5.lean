/-
  KeyTells: of every definition and record the key, or the error. The walk.
-/
import Derived.Test.YtiekahnpnaldjaaDoorKt4
import Derived.Test.YtiekahnpnaldjaaDoorOpen3
import Derived.Test.YtiekahnpnaldjaaDoorQch
import Derived.Deep.Cut
namespace Go.Proofs.YtiekahnpnaldjaaDoor
open Go.RowKit

theorem i64_and3' (n : Int) : bits .and .i64 n 3 = n % 4 := by
  have h3 : (BitVec.ofInt 64 3).toNat = 2 ^ 2 - 1 := by decide
  have key : (BitVec.ofInt 64 n &&& BitVec.ofInt 64 3).toNat = (n % ((2 ^ 64 : Nat) : Int)).toNat % 2 ^ 2 := by
    rw [BitVec.toNat_and, BitVec.toNat_ofInt, h3, Nat.and_two_pow_sub_one_eq_mod]
  show IntKind.i64.wrap ((BitVec.ofInt 64 n &&& BitVec.ofInt 64 3).toNat : Nat) = n % 4
  rw [key, IntKind.wrap_i64]
  omega
theorem and3_bounds (n : Int) : 0 ≤ bits .and .i64 n 3 ∧ bits .and .i64 n 3 ≤ 3 := by rw [i64_and3']; omega

/-- The cells of a definition's box. -/
def DefCells (w : World) (D : Nat) (nm : ByteArray) (kd cm : Int) (ps : Value) : Prop :=
  w.cell? ⟨D, 0, none⟩ = some (.string nm) ∧ w.cell? ⟨D, 1, none⟩ = some (.int .i64 kd) ∧ w.cell? ⟨D, 2, none⟩ = some ps ∧ w.cell? ⟨D, 3, none⟩ = some (.int .i64 cm)
theorem defCells {w : World} {D : Nat} {nm : ByteArray} {kd cm : Int} {ps : Value} (h : w.heap[D]? = some (.cells #[.string nm, .int .i64 kd, ps, .int .i64 cm] 53 (0, 0))) : DefCells w D nm kd cm ps :=
  ⟨(cell_of (i := 0) h).trans rfl, (cell_of (i := 1) h).trans rfl, (cell_of (i := 2) h).trans rfl, (cell_of (i := 3) h).trans rfl⟩

set_option maxRecDepth 100000 in
set_option maxHeartbeats 4000000 in
theorem keyTells_any (nm : ByteArray) (kd cm : Int) (ps : List (Int × Int)) (pb po : Nat) (pa : Option Addr) (pc : Nat) (l : List V) (b off : Nat) (sv : Value) (at' how : Int) (w : World) (hnm : nm.size ≤ 9223372036854775807)
    (hpa : ps ≠ [] → pa = some ⟨pb, po, none⟩) (hps : PartsAt w pb po ps) (hpb : ∀ f h, (f, h) ∈ ps → (-9223372036854775808 ≤ f ∧ f ≤ 9223372036854775807) ∧ (-9223372036854775808 ≤ h ∧ h ≤ 9223372036854775807)) (hpl : ps.length ≤ 9223372036854775807)
    (hr : VRow w b off sv l) (ol : OkL l) (hl : l.length ≤ 9223372036854775807) (hg : Glob w) :
    Calls Tryd.prog 5 #[defVal nm kd (.slice pa ps.length pc) cm, sv, .int .i64 at', .int .i64 how] w fun e w' => e = .returned (.bool true) ∧ Ch [] w w' := by
  obtain ⟨aa, ca, rfl, hsa⟩ := hr.shape
  obtain ⟨b0, b3⟩ := and3_bounds at'
  obtain ⟨a, hab⟩ : ∃ a, bits .and .i64 at' 3 = a := ⟨_, rfl⟩
  rw [hab] at b0 b3
  have hz0 : 0 < w.heap.size := Nat.lt_of_le_of_lt (Nat.zero_le _) hg.lt
  obtain ⟨pb', po', hpa', hps', hpz⟩ : ∃ pb po, (ps ≠ [] → pa = some ⟨pb, po, none⟩) ∧ PartsAt w pb po ps ∧ pb < w.heap.size := by
    by_cases h0 : ps = []
    · subst h0
      exact ⟨0, 0, by simp, fun j f h hj => by simp at hj, hz0⟩
    · obtain ⟨f, h, hj⟩ : ∃ f h, ps[0]? = some (f, h) := ⟨_, _, List.getElem?_eq_getElem (List.length_pos_iff.2 h0)⟩
      exact ⟨pb, po, hpa, hps, World.block_lt_of_cell? _ _ (hps 0 f h hj).1⟩
  clear hpa hps
  have hd0 := heap_alloc_same w (.cells #[.string nm, .int .i64 kd, .slice pa ps.length pc, .int .i64 cm] 53)
  have HP := Lib.hid (And.intro hpa' (And.intro hps' (And.intro hpz hpb)))
  have HR := Lib.hid (And.intro hr (And.intro ol hsa))
  have H0 := Lib.hid (And.intro hd0 (hg.alloc (.cells #[.string nm, .int .i64 kd, .slice pa ps.length pc, .int .i64 cm] 53)))
  have HGL := Lib.hid hg
  clear hpa' hps' hpb hpz hz0 hr ol hsa hd0 hg
  go_enter Tryd.func5, Tryd.ntmps5
  go_wp2_with fail
  refine (known7_any _ H0.out.2).mono ?_
  rintro e w1 ⟨rfl, hc1⟩
  have C1 := Lib.hid (And.intro (((Ch.refl _ w).alloc _).trans hc1) (And.intro (hc1.heap H0.out.1 (by simp)) (H0.out.2.ch hc1 (by simp))))
  clear hc1 H0
  obtain ⟨d0, d1, d2, d3⟩ := defCells C1.out.2.1
  go_wp2_with fail
  refine (def_any nm kd cm pa ps.length pc w1 hnm hpl).mono ?_
  rintro e w2 ⟨rfl, hc2⟩
  have C2 := Lib.hid (And.intro (C1.out.1.trans hc2) (And.intro (hc2.heap C1.out.2.1 (by simp)) (C1.out.2.2.ch hc2 (by simp))))
  clear hc2 C1 d0 d1 d2 d3
  by_cases hd : nm.size ≤ 60 ∧ ps.length ≤ 8
  · rw [decide_eq_true hd]
    obtain ⟨hd1, hd2⟩ := hd
    have F1 := Lib.hid (few_any l b off 10 _ w2 (HR.out.1.ch0 C2.out.1) hl HR.out.2.1)
    go_wp2_with fail
    refine F1.out.mono ?_
    rintro e w' ⟨rfl, rfl⟩
    clear F1
    rcases hf : fewB l 10 with _ | _
    · clear hf
      go_wp2
      go_ret
      exact ⟨rfl, C2.out.1⟩
    have h10 := fewB_len hf
    clear hf
    have hu0 := heap_alloc_same w2 (.cells #[.int .i64 0, .int .i64 0, .int .i64 0, .int .i64 0] 57)
    have HU0 := Lib.hid hu0
    clear hu0
    go_wp2_with fail
    refine (hooks_any (meterPtr w2.heap.size) _ ⟨_, rfl⟩).mono ?_
    rintro e w3 ⟨hx, hcv, rfl, hh1, hh2, hc3⟩
    obtain ⟨gx, cx, rfl, _, _⟩ := hh1.at (by omega)
    obtain ⟨gc, cc, rfl, _, _⟩ := hh2.at (by omega)
    have hcA : Ch [] w3 (w3.alloc (.cells #[.slice (some ⟨gx, 0, none⟩) 5 cx, .slice (some ⟨gc, 0, none⟩) 3 cc] 61)) := (Ch.refl _ w3).alloc _
    have hhb := heap_alloc_same w3 (.cells #[.slice (some ⟨gx, 0, none⟩) 5 cx, .slice (some ⟨gc, 0, none⟩) 3 cc] 61)
    have hs2 := C2.out.1.size
    have hD2 := lt_of_block C2.out.2.1
    have hs3 := hc3.size
    simp at hs3
    have hm3 : MeterAt _ w2.heap.size 0 0 0 0 := hcA.heap (hc3.heap HU0.out (by simp)) (by simp)
    have hw3 : Ch [] w (w3.alloc (.cells #[.slice (some ⟨gx, 0, none⟩) 5 cx, .slice (some ⟨gc, 0, none⟩) 3 cc] 61)) := ((C2.out.1.alloc _).trans hc3).trans hcA
    have hd3 := hcA.heap (hc3.heap (heap_alloc_past (o := .cells #[.int .i64 0, .int .i64 0, .int .i64 0, .int .i64 0] 57) C2.out.2.1) (by simp)) (by simp)
    have hg3 := (((C2.out.2.2.alloc (.cells #[.int .i64 0, .int .i64 0, .int .i64 0, .int .i64 0] 57)).ch hc3 (by simp)).ch hcA (by simp))
    have hk3 := hh1.fr (Fr.of_ch (D := 0) (T := []) hcA (Nat.zero_le _) (by simp)) (by simp) (by simp) (by simp)
    have hsz3 : (w3.alloc (.cells #[.slice (some ⟨gx, 0, none⟩) 5 cx, .slice (some ⟨gc, 0, none⟩) 3 cc] 61)).heap.size = w3.heap.size + 1 := by simp
    have hhbs := lt_of_block hhb
    generalize hW3 : w3.alloc (.cells #[.slice (some ⟨gx, 0, none⟩) 5 cx, .slice (some ⟨gc, 0, none⟩) 3 cc] 61) = W3 at *
    have HS := Lib.hid (And.intro hs2 (And.intro hD2 (And.intro hs3 hsz3)))
    have H3 := Lib.hid (And.intro hm3 (And.intro hw3 (And.intro hd3 (And.intro hg3 (And.intro hk3 (And.intro hhb hW3))))))
    clear hc3 hcA hhb hs2 hD2 hs3 hm3 hw3 hd3 hg3 hk3 hhbs hsz3 hW3 hh1 hh2 C2 HU0
    go_upto_region 7 with (fail)
    rw [H3.out.2.2.2.2.2.2]
    go_wp2_with fail
    refine (set_any w2.heap.size 0 0 0 0 a how W3 H3.out.1 b0).mono ?_
    rintro e w4 ⟨rfl, ⟨hw', hm4⟩, hc4⟩
    have hU : w.heap.size ≤ w2.heap.size ∧ w.heap.size < w2.heap.size := ⟨HS.out.1, HS.out.2.1⟩
    have hw4 : Ch [] w w4 := H3.out.2.1.trans' hc4 (by intro x hx; right; simp at hx; omega)
    have H4 := Lib.hid (And.intro hm4 (And.intro hw4 (And.intro (hc4.heap H3.out.2.2.1 (by simp; omega)) (And.intro hc4 hc4.size))))
    clear hm4 hw4 hc4
    go_wp2_with fail
    refine (copy_any l b off _ w4 (HR.out.1.ch0 H4.out.2.1) (by omega)).mono ?_
    rintro e w5 ⟨was, rfl, hcp⟩
    obtain ⟨wa, wc, rfl⟩ := own_shape hcp.1
    obtain ⟨wb, hwb, hwr⟩ := VRow.of_own hcp.1
    have hc5 := hcp.2
    have hw5 := H4.out.2.1.trans hc5
    have hd5 := hc5.heap H4.out.2.2.1 (by simp)
    have hh5 := hc5.heap (H4.out.2.2.2.1.heap H3.out.2.2.2.2.2.1 (by simp; have := HS.out.2.2.1; omega)) (by simp)
    have hk5 := (H3.out.2.2.2.2.1.fr (Fr.of_ch (D := 0) (T := [some 57]) H4.out.2.2.2.1 (Nat.zero_le _) (by
      intro x hx
      simp at hx
      subst hx
      exact ⟨Nat.zero_le _, fun o ho => by rw [H3.out.1] at ho; cases ho; simp [kindOf]⟩)) (by decide) (by decide) (by decide)).fr (Fr.of_ch (D := 0) (T := []) hc5 (Nat.zero_le _) (by simp)) (by simp) (by simp) (by simp)
    have hm5 := H4.out.1.ch hc5 (by simp)
    obtain ⟨d0, d1, d2, d3⟩ := defCells hd5
    have g0 := (cell_of (i := 0) hh5).trans rfl
    have g1 := (cell_of (i := 1) hh5).trans rfl
    have HK := Lib.hid (keyOf_metered nm kd cm pb' po' pc 0 _ pa _ (.slice (some ⟨gc, 0, none⟩) 3 cc) ps l b off _ w2.heap.size a hw' w5 (HR.out.1.ch0 hw5) HR.out.2.1 (by omega) HP.out.1 (HP.out.2.1.ch hw5 (by simp)) (by omega) hk5 ⟨_, _, _, rfl⟩ hm5 (by have := HP.out.2.2.1; have := HS.out.1; omega) b0 (by omega))
    have H5 := Lib.hid (And.intro hw5 (And.intro hd5 (And.intro hwr (And.intro hwb hm5))))
    clear hcp hwb hwr hc5 hw5 hd5 hh5 hk5 hm5
    go_wp2_with fail
    refine HK.out.mono ?_
    intro e w6 hk
    obtain ⟨ka, kn, kc, er, rfl, hko⟩ := kOut_of hk
    have HKO := Lib.hid hko
    clear hk hko HK d0 d1 d2 d3 g0 g1
    have hw6 : Ch [] w w6 := H5.out.1.trans' HKO.out.ch (by intro x hx; right; simp at hx; have := HS.out.1; omega)
    have HV := Lib.hid (vals_any l l wb 0 b off _ _ w6 (H5.out.2.2.1.ch HKO.out.ch (by simp; have := H5.out.2.2.2.1; have := H4.out.2.2.2.2; have := HS.out; omega)) (HR.out.1.ch0 hw6) HR.out.2.1 HR.out.2.1 hl hl)
    have H6 := Lib.hid (And.intro hw6 (H5.out.2.1 |> fun h => HKO.out.ch.heap h (by simp; have := HS.out; omega)))
    clear hw6
    go_wp2_with fail
    refine HV.out.mono ?_
    rintro e w7 ⟨rfl, hc7⟩
    rw [vals_same_of]
    have H7 := Lib.hid (And.intro (H6.out.1.trans hc7) (And.intro hc7 (hc7.heap H6.out.2 (by simp))))
    clear hc7 HV
    go_wp2_with fail
    go_loopg [14, 15, 16] ps.length (fun k s14 s15 s16 wr => ∃ m : Nat, k + m = ps.length ∧ s16 = .int .i64 m ∧ s14 = .int .i64 (kscan l a (ps.take m)).1 ∧ s15 = .int .i64 (kscan l a (ps.take m)).2 ∧ Ch [] w7 wr)
    case atStart => exact ⟨0, rfl, rfl, by simp [kscan], by simp [kscan], Ch.refl _ _⟩
    case round =>
      obtain ⟨m, hkm, rfl, e14, e15, hch⟩ := hrel
      have hdr := hch.heap H7.out.2.2 (by simp)
      have d2 := (cell_of (i := 2) hdr).trans rfl
      have zr := lt_of_block hdr
      obtain ⟨y0, y1, y2⟩ := kscan_bounds l a (ps.take m)
      have y3 : (ps.take m).length ≤ ps.length := by rw [List.length_take]; omega
      by_cases hgo : m < ps.length ∧ (kscan l a (ps.take m)).2 = 0
      · obtain ⟨hlt, hb0⟩ := hgo
        obtain ⟨f, h, hj⟩ : ∃ f h, ps[m]? = some (f, h) := ⟨_, _, List.getElem?_eq_getElem hlt⟩
        have eks := kscan_take (l := l) (a := a) hj
        have e0 : kscan l a (ps.take m) = ((kscan l a (ps.take m)).1, 0) := by rw [← hb0]
        rw [e0] at eks
        rw [hb0] at e15
        obtain ⟨⟨f1, f2⟩, h1, h2⟩ := HP.out.2.2.2 f h (List.mem_of_getElem? hj)
        obtain rfl := HP.out.1 (fun e => by rw [e] at hlt; simp at hlt)
        have hwr := H7.out.1.trans hch
        obtain ⟨p0, p1⟩ := (HP.out.2.1.ch hwr (by simp)) m f h hj
        have hsv : VRow (wr.alloc (.cells #[.int .i64 f, .int .i64 h] 66)) b off _ l := HR.out.1.ch0 (hwr.alloc _)
        have HX := Lib.hid (extract_ref h l b off _ (wr.alloc (.cells #[.int .i64 f, .int .i64 h] 66)) hsv HR.out.2.1 hl)
        have HI := Lib.hid (fun W => refIs_any (extV h l) W (extV_ok h l HR.out.2.1))
        have hcs := kstep_cases l a (kscan l a (ps.take m)).1 f h
        have j0 : (m : Int) < (ps.length : Int) := by omega
        generalize (kscan l a (ps.take m)).1 = c at *
        subst e14 e15
        have HM := Lib.hid (And.intro hkm hch)
        clear hkm hch e0 hb0 hj hwr hsv y2 hdr
        rcases hcs with ⟨q1, q2, q3⟩ | ⟨q1, q3⟩ | ⟨rfl, q1, q2, hcs⟩
        · have t1 : (f == -1) = false := by rw [beq_eq_false_iff_ne]; omega
          rw [q3] at eks
          have HE := Lib.hid eks
          clear eks q3
          go_wp2
          go_roundg (gk - 1)
          case measure => have := HM.out.1; omega
          case rel => exact ⟨m + 1, by have := HM.out.1; omega, by go_num, by rw [HE.out], by rw [HE.out], HM.out.2.alloc _⟩
        · rw [q3] at eks
          have HE := Lib.hid eks
          clear eks q3
          rcases q1 with q1 | q1 | ⟨rfl, q1 | q1⟩
          all_goals
            go_wp2
            go_roundg (gk - 1)
            case measure => have := HM.out.1; omega
            case rel => exact ⟨m + 1, by have := HM.out.1; omega, by go_num, by rw [HE.out], by rw [HE.out], HM.out.2.alloc _⟩
        · rcases hcs with ⟨q4, q3⟩ | ⟨q4, q5, q3⟩ | ⟨q4, q5, q3⟩
          · rw [q3] at eks
            have HE := Lib.hid eks
            have t1 : (c + 1 == a) = true := by rw [beq_iff_eq]; exact q4
            clear eks q3 q4
            go_wp2
            go_roundg (gk - 1)
            case measure => have := HM.out.1; omega
            case rel => exact ⟨m + 1, by have := HM.out.1; omega, by go_num, by rw [HE.out], by rw [HE.out], HM.out.2.alloc _⟩
          all_goals
            rw [q3] at eks
            have HE := Lib.hid eks
            have t1 : (c + 1 == a) = false := by rw [beq_eq_false_iff_ne]; exact q4
            have HQ := Lib.hid q5
            clear eks q3 q4 q5
            go_wp2_with fail
            refine HX.out.mono ?_
            rintro e w8 ⟨rfl, hc8⟩
            have HC8 := Lib.hid ((HM.out.2.alloc (.cells #[.int .i64 (-1), .int .i64 h] 66)).trans hc8)
            clear hc8
            go_wp2_with fail
            refine (HI.out _).mono ?_
            rintro e w9 ⟨he, hc9⟩
            unfold SomeBool at he
            rw [HQ.out] at he
            subst he
            have HC9 := Lib.hid (HC8.out.trans hc9)
            clear hc9
            go_wp2
            go_roundg (gk - 1)
            case measure => have := HM.out.1; omega
            case rel => exact ⟨m + 1, by have := HM.out.1; omega, by go_num, by rw [HE.out], by rw [HE.out], HC9.out⟩
      · have hk : kscan l a ps = kscan l a (ps.take m) := by
          by_cases hb0 : (kscan l a (ps.take m)).2 = 0
          · have : m = ps.length := by
              by_cases hx : m < ps.length
              · exact absurd ⟨hx, hb0⟩ hgo
              · omega
            rw [this, List.take_of_length_le (Nat.le_refl _)]
          · exact kscan_stuck hb0
        rw [← hk] at e14 e15 y0 y1 y2
        have hexit : (m = ps.length) ∨ (m < ps.length ∧ (kscan l a ps).2 ≠ 0) := by
          rw [hk]
          by_cases hx : m < ps.length
          · exact .inr ⟨hx, fun h0 => hgo ⟨hx, h0⟩⟩
          · exact .inl (by omega)
        obtain ⟨sk, hmt⟩ := HKO.out.meter
        have kcls := Lib.hid HKO.out.cls
        have kwhr := Lib.hid HKO.out.whr
        have krow := Lib.hid HKO.out.row
        have knone := HKO.out.none
        have hrok := Lib.hid (fun (h0 : (kscan l a ps).2 = 0) => kscan_ok h0)
        generalize (kscan l a ps).1 = c at *
        generalize (kscan l a ps).2 = bd at *
        subst e14 e15
        have H8 := Lib.hid (And.intro (H7.out.1.trans hch) (And.intro (H7.out.2.1.trans hch) (And.intro hmt hdr)))
        have hm1 := (cell_of (i := 0) ((H7.out.2.1.trans hch).heap hmt (by simp))).trans rfl
        have HCE := Lib.hid (fun (W : World) (h : Ch [] wr W) => And.intro ((cell_of (i := 0) (h.heap ((H7.out.2.1.trans hch).heap hmt (by simp)) (by simp))).trans (show _ = some (Value.int .i64 c) from rfl)) (defCells (h.heap hdr (by simp))))
        have hmz := lt_of_block ((H7.out.2.1.trans hch).heap hmt (by simp))
        clear hk hkm hch hgo hmt hdr
        have HKN := Lib.hid knone
        clear knone
        have HCL := Lib.hid (fun (p : ChW wr) => Calls.chw_of (kcls.out p.w ((H8.out.2.1).trans p.ch) (HGL.out.ch (H8.out.1.trans p.ch) (by simp))))
        have HNM := fun (p : ChW wr) => (HCE.out p.w p.ch).2.1
        have HMC := fun (p : ChW wr) => (HCE.out p.w p.ch).1
        rcases y2 with rfl | rfl | rfl
        · have t0 : m = ps.length := by
            rcases hexit with h | h
            · exact h
            · exact absurd rfl h.2
          subst t0
          clear hexit
          go_wp2_with fail
          refine wp_region_chw (w0 := wr) (by kernel_rfl) (by kernel_rfl) (Ch.refl _ _) ?_
          repeat (first | go_big_quiet_step ((go_at_call 18; exact HCL.out _)) | quiet_step ((go_at_call 18; exact HCL.out _)))
          refine wpQuiet_nil ?_
          rintro _ ⟨pq, rfl⟩
          clear HCL HNM HMC
          have hz := fun W (h : Ch [] wr W) => (HCE.out W h).2
          obtain ⟨d0, d1, d2, d3⟩ := hz _ pq.ch
          obtain ⟨rfl, kb, hkr⟩ := krow.out (by trivial)
          have HO := Lib.hid (refOf_any nm kd cm pb' po' pc pa ps l b off _ pq.w (HR.out.1.ch0 (H8.out.1.trans pq.ch)) HR.out.2.1 (by omega) HP.out.1 (HP.out.2.1.ch (H8.out.1.trans pq.ch) (by simp)) (by omega) (hrok.out (by trivial)))
          have HKR := Lib.hid hkr
          clear hz hkr
          go_wp2_with fail
          refine HO.out.mono ?_
          rintro e w10 ⟨oa, oc, ob, rfl, hor, hc10⟩
          have hvn : (ps.map (kval l)).length = ps.length := by simp
          have HV2 := Lib.hid (vals_any (ps.map (kval l)) (ps.map (kval l)) kb 0 ob 0 _ _ w10 (HKR.out.ch0 (H8.out.2.1.trans (pq.ch.trans hc10))) hor (kvals_ok HR.out.2.1 ps) (kvals_ok HR.out.2.1 ps) (by omega) (by omega))
          have HE := Lib.hid (H8.out.1.trans (pq.ch.trans hc10))
          clear hor hc10 hvn
          go_wp2_with fail
          refine HV2.out.mono ?_
          rintro e w11 ⟨rfl, hc11⟩
          rw [vals_same_of]
          have HE2 := Lib.hid (HE.out.trans hc11)
          clear hc11
          go_wp2
          go_ret
          exact ⟨rfl, HE2.out⟩
        · have hw := kwhr.out
          obtain rfl := HKN.out (by simp)
          have HWH := Lib.hid (fun (p : ChW wr) => Calls.chw_of (kwhr.out (by trivial) p.w ((H8.out.2.1).trans p.ch) (HGL.out.ch (H8.out.1.trans p.ch) (by simp))))
          clear hw
          rcases hexit with rfl | ⟨hlt, _⟩
          · have j0 : True := trivial
            go_wp2_with fail
            refine wp_region_chw (w0 := wr) (by kernel_rfl) (by kernel_rfl) (Ch.refl _ _) ?_
            repeat (first | go_big_quiet_step ((first | (go_at_call 18; exact HCL.out _) | (go_at_call 27; exact HWH.out _))) | quiet_step ((first | (go_at_call 18; exact HCL.out _) | (go_at_call 27; exact HWH.out _))))
            refine wpQuiet_nil ?_
            rintro _ ⟨pq, rfl⟩
            clear HCL HNM HMC
            go_wp2
            go_ret
            exact ⟨rfl, H8.out.1.trans pq.ch⟩
          · have j0 : (m : Int) < (ps.length : Int) := by omega
            go_wp2_with fail
            refine wp_region_chw (w0 := wr) (by kernel_rfl) (by kernel_rfl) (Ch.refl _ _) ?_
            repeat (first | go_big_quiet_step ((first | (go_at_call 18; exact HCL.out _) | (go_at_call 27; exact HWH.out _))) | quiet_step ((first | (go_at_call 18; exact HCL.out _) | (go_at_call 27; exact HWH.out _))))
            refine wpQuiet_nil ?_
            rintro _ ⟨pq, rfl⟩
            clear HCL HNM HMC
            go_wp2
            go_ret
            exact ⟨rfl, H8.out.1.trans pq.ch⟩
        · obtain rfl := HKN.out (by simp)
          rcases hexit with rfl | ⟨hlt, _⟩
          · have j0 : True := trivial
            go_wp2_with fail
            refine wp_region_chw (w0 := wr) (by kernel_rfl) (by kernel_rfl) (Ch.refl _ _) ?_
            repeat (first | go_big_quiet_step ((go_at_call 18; exact HCL.out _)) | quiet_step ((go_at_call 18; exact HCL.out _)))
            refine wpQuiet_nil ?_
            rintro _ ⟨pq, rfl⟩
            clear HCL HNM HMC
            go_wp2
            go_ret
            exact ⟨rfl, H8.out.1.trans pq.ch⟩
          · have j0 : (m : Int) < (ps.length : Int) := by omega
            go_wp2_with fail
            refine wp_region_chw (w0 := wr) (by kernel_rfl) (by kernel_rfl) (Ch.refl _ _) ?_
            repeat (first | go_big_quiet_step ((go_at_call 18; exact HCL.out _)) | quiet_step ((go_at_call 18; exact HCL.out _)))
            refine wpQuiet_nil ?_
            rintro _ ⟨pq, rfl⟩
            clear HCL HNM HMC
            go_wp2
            go_ret
            exact ⟨rfl, H8.out.1.trans pq.ch⟩
  · rw [decide_eq_false hd]
    go_wp2
    go_ret
    exact ⟨rfl, C2.out.1⟩
end Go.Proofs.YtiekahnpnaldjaaDoor
