/-
  PosSwaps: the plain law; the walk.
-/
import Derived.Test.YtjecadkmlakncaaPh2
namespace Go.Proofs.Ytjecadkmlakncaa
open Go.RowKit

theorem Ch.cell0 {w W : World} (h : Ch [] w W) {b o : Nat} {v : Value} (hc : w.cell? ⟨b, o, none⟩ = some v) : W.cell? ⟨b, o, none⟩ = some v := by
  rw [h.rules0.1 b o (block_lt_of_cell hc)]; exact hc

/-- Two places' rows change places. -/
def swp (xs : List Int) (p : Nat × Nat) : List Int := swapL xs p.1 p.2 (xs.getD p.1 0) (xs.getD p.2 0)
theorem swp_len (xs : List Int) (p : Nat × Nat) : (swp xs p).length = xs.length := swapL_len ..
theorem getD_get {xs : List Int} {i : Nat} (h : i < xs.length) : xs[i]? = some (xs.getD i 0) := by
  rw [List.getD_eq_getElem?_getD, List.getElem?_eq_getElem h]; rfl
theorem swp_swp {xs : List Int} {p : Nat × Nat} (h1 : p.1 < xs.length) (h2 : p.2 < xs.length) : swp (swp xs p) p = xs := by
  have hl := swp_len xs p
  apply List.ext_getElem?
  intro j
  rw [show swp (swp xs p) p = swapL (swp xs p) p.1 p.2 ((swp xs p).getD p.1 0) ((swp xs p).getD p.2 0) from rfl, swapL_get (getD_get (by omega)) (getD_get (by omega)), show swp xs p = swapL xs p.1 p.2 (xs.getD p.1 0) (xs.getD p.2 0) from rfl, swapL_get (getD_get h1) (getD_get h2), sw_sw]
/-- Behind j swaps. -/
def st (k : Nat) (ps : List (Nat × Nat)) (j : Nat) : List Int := (ps.take j).foldl swp (upto k)
theorem st_succ {k j : Nat} {ps : List (Nat × Nat)} {p : Nat × Nat} (h : ps[j]? = some p) : st k ps (j + 1) = swp (st k ps j) p := by
  unfold st
  rw [List.take_add_one, h]
  simp [List.foldl_append]
theorem foldl_len (ps : List (Nat × Nat)) : ∀ xs : List Int, (ps.foldl swp xs).length = xs.length := by
  induction ps with
  | nil => intro xs; rfl
  | cons p r ih => intro xs; rw [List.foldl_cons, ih, swp_len]
theorem st_len (k : Nat) (ps : List (Nat × Nat)) (j : Nat) : (st k ps j).length = k := by unfold st; rw [foldl_len, upto_len]
/-- The places that a byte names. -/
def pairOf (k : Nat) (a : Int) : Nat × Nat := ((a % (k : Int)).toNat, (a / 16 % (k : Int)).toNat)
theorem pairOf_lt {k : Nat} (hk : 0 < k) (a : Int) : (pairOf k a).1 < k ∧ (pairOf k a).2 < k := by
  unfold pairOf
  have h1 := Int.emod_nonneg a (show (k : Int) ≠ 0 by omega)
  have h2 := Int.emod_lt_of_pos a (show (0 : Int) < (k : Int) by omega)
  have h3 := Int.emod_nonneg (a / 16) (show (k : Int) ≠ 0 by omega)
  have h4 := Int.emod_lt_of_pos (a / 16) (show (0 : Int) < (k : Int) by omega)
  constructor <;> simp only <;> omega
theorem pairOf_int {k : Nat} (hk : 0 < k) {a : Int} (h0 : 0 ≤ a) : a.tmod (k : Int) = (((pairOf k a).1 : Nat) : Int) ∧ (a / 16).tmod (k : Int) = (((pairOf k a).2 : Nat) : Int) := by
  unfold pairOf
  have h1 := Int.emod_nonneg a (show (k : Int) ≠ 0 by omega)
  have h3 := Int.emod_nonneg (a / 16) (show (k : Int) ≠ 0 by omega)
  rw [Int.tmod_eq_emod_of_nonneg h0, Int.tmod_eq_emod_of_nonneg (by omega)]
  constructor <;> simp only <;> omega
theorem pswp (w : World) (P : Nat → Prop) (xb tb mb wr n : Nat) (p : Nat × Nat) (xs : List Int) (h : IxAt PosT w P xb tb mb xs wr n) (hN : xs.length ≤ 4999) (hwr : wr ≤ 1152921504606840000) (h1 : p.1 < xs.length) (h2 : p.2 < xs.length) :
    Calls Try.prog 20 #[PN xb, .int .i64 p.1, .int .i64 p.2] w (IxRes PosT w P xb tb mb wr n xs.length (swp xs p) (.int .i64 0)) :=
  pswap_ok w P xb tb mb wr n p.1 p.2 _ _ xs h hN hwr (getD_get h1) (getD_get h2)

set_option maxRecDepth 100000 in
set_option maxHeartbeats 8000000 in
theorem posSwaps_any (an : Int) (b o c : Nat) (aa : Option Addr) (bs : List Int) (w : World) (hn0 : 0 ≤ an) (hn1 : an ≤ 255) (haa : bs ≠ [] → aa = some ⟨b, o, none⟩) (hbs : ∀ j x, bs[j]? = some x → w.cell? ⟨b, o + j, none⟩ = some (.int .u8 x)) (hbd : ∀ x, x ∈ bs → 0 ≤ x ∧ x ≤ 255) (hlen : bs.length ≤ 9223372036854775807) :
    Calls Try.prog 5 #[.int .u8 an, .slice aa bs.length c] w fun e w' => e = .returned (.bool true) ∧ Ch [] w w' := by
  by_cases h40 : bs.length ≤ 40
  · obtain ⟨k0, hk0⟩ : ∃ k0 : Nat, an % 20 = k0 := ⟨(an % 20).toNat, by omega⟩
    have hk30 : k0 < 20 := by omega
    obtain ⟨k, hk⟩ : ∃ k : Nat, k = k0 + 1 := ⟨_, rfl⟩
    have hkk : (k0 : Int) + 1 = (k : Int) := by omega
    have hk1 : 1 ≤ k := by omega
    have hk2 : k ≤ 20 := by omega
    have h40' : ¬ (40 < bs.length) := by omega
    have h40d : decide ((40 : Int) < (bs.length : Int)) = false := by simp; omega
    have hps : ∀ j, j < bs.length → ∃ a, (bs.map (pairOf k))[j]? = some (pairOf k a) ∧ 0 ≤ a ∧ a ≤ 255 ∧ aa = some ⟨b, o, none⟩ ∧ ∀ W, Ch [] w W → W.cell? ⟨b, o + j, none⟩ = some (.int .u8 a) := fun j hj => by
      have ha : bs[j]? = some bs[j] := List.getElem?_eq_getElem hj
      have hd := hbd _ (List.mem_of_getElem? ha)
      exact ⟨bs[j], by rw [List.getElem?_map, ha]; rfl, hd.1, hd.2, haa (by rintro rfl; simp at hj), fun W hc => hc.cell0 (hbs j _ ha)⟩
    obtain ⟨ps, hpe⟩ : ∃ ps, ps = bs.map (pairOf k) := ⟨_, rfl⟩
    rw [← hpe] at hps
    obtain ⟨n, hn⟩ : ∃ n, n = bs.length := ⟨_, rfl⟩
    rw [← hn] at hps h40 h40' h40d ⊢
    have HPS := Lib.hid hps
    clear hps hpe haa hbs hbd hlen hk hn
    go_enter Try.func5, Try.ntmps5
    go_wp2_with fail
    refine (pknown w).mono ?_
    rintro e w1 ⟨rfl, hc1⟩
    have hN := Lib.hid (pnew w1)
    have HC1 := Lib.hid hc1
    clear hc1
    go_wp2_with fail
    refine hN.out.mono ?_
    rintro e w2 ⟨xb, tb, mb, rfl, hx2, hc2, htb, hmb⟩
    have HB := Lib.hid (And.intro (hx2 PT) (And.intro (HC1.out.trans hc2) (And.intro (Nat.le_trans HC1.out.size htb) (Nat.le_trans HC1.out.size hmb))))
    clear hx2 hc2 htb hmb HC1 hN
    go_wp2_with fail
    clear hk0 hkk hn0 hn1
    go_loopg [7] k (fun g iv wr => ∃ j wn : Nat, g + j = k ∧ iv = .int .i64 j ∧ wn ≤ 78 * j ∧ IxAt PosT wr PT xb tb mb (upto j) wn j ∧ Ch [] w wr)
    case atStart => exact ⟨0, 0, rfl, rfl, Nat.le_refl _, HB.out.1, HB.out.2.1⟩
    case round =>
      obtain ⟨j, wn, hgj, rfl, hwn, hx, hc⟩ := hrel
      have hjk : j ≤ k := by omega
      have HJ := Lib.hid (And.intro hgj hwn)
      have hwn2 : wn ≤ 10000 := by omega
      clear hgj hwn
      by_cases hlt : j < k
      · have hp := Lib.hid (pinsert_ok wr PT xb tb mb wn j j ((j : Int) + 1) (upto j) hx (wf_small (by omega) (by omega)) (by rw [upto_mem]; omega) (by rw [upto_len]; exact Nat.le_refl _) (by rw [upto_len]; omega) (by omega) (by omega))
        have HC := Lib.hid hc
        clear hx hc
        go_wp2_with fail
        refine hp.out.mono ?_
        intro e w3 hr
        obtain ⟨rfl, d, hd, hx3, hc3⟩ := hr.use HC.out HB.out.2.2.1 HB.out.2.2.2 (by rw [upto_len]; omega)
        rw [upto_succ] at hx3
        have H3 := Lib.hid (And.intro hx3 (And.intro hc3 hd))
        clear hr hx3 hc3 hd hp HC
        go_wp2
        go_roundg (gk - 1)
        case measure => have := HJ.out; omega
        case rel => exact ⟨j + 1, wn + d, by have := HJ.out; omega, by go_num, by have := HJ.out; have := H3.out.2.2; omega, H3.out.1, H3.out.2.1⟩
      · obtain rfl : j = k := by omega
        have H3 := Lib.hid (And.intro hx hc)
        clear hx hc hlt hjk
        go_wp2_with fail
        go_loopg [8] n (fun g iv wr => ∃ i wn : Nat, g + i = n ∧ iv = .int .i64 i ∧ wn ≤ 10000 + 78 * i ∧ IxAt PosT wr PT xb tb mb (st j ps i) wn j ∧ Ch [] w wr)
        case atStart => exact ⟨0, wn, rfl, rfl, by omega, H3.out⟩
        case round =>
          obtain ⟨i, wn, hgi, rfl, hwn, hx, hc⟩ := hrel
          have hin : i ≤ n := by omega
          have HJ := Lib.hid (And.intro hgi hwn)
          have hwn3 : wn ≤ 20000 := by omega
          clear hgi hwn
          by_cases hlt : i < n
          · obtain ⟨a, hp, ha0, ha1, rfl, hcell⟩ := HPS.out i hlt
            have hlt2 := pairOf_lt (show 0 < j by omega) a
            have hint := pairOf_int (show 0 < j by omega) ha0
            have HSt := Lib.hid (st_succ (k := j) hp)
            have HW := Lib.hid (fun W (hcw : Ch [] wr W) => pswp W PT xb tb mb wn j (pairOf j a) (st j ps i) (hx.ch0 hcw) (by rw [st_len]; omega) (by omega) (by rw [st_len]; exact hlt2.1) (by rw [st_len]; exact hlt2.2))
            generalize hpq : pairOf j a = pq at *
            obtain ⟨p1, p2⟩ := pq
            simp only at hlt2 hint HW
            have HCell := Lib.hid hcell
            have c1 := hcell wr hc
            have i1 : (i : Int) < (n : Int) := by omega
            have a1 : IntKind.i64.wrap a = a := by rw [IntKind.wrap_i64]; omega
            have a2 : a.tmod (j : Int) = (p1 : Int) := hint.1
            have a3 : IntKind.i64.wrap (p1 : Int) = (p1 : Int) := by rw [IntKind.wrap_i64]; omega
            have a4 : a.tdiv 16 = a / 16 := Int.tdiv_eq_ediv_of_nonneg ha0
            have a5 : IntKind.u8.wrap (a / 16) = a / 16 := by rw [IntKind.wrap_u8]; omega
            have a6 : IntKind.i64.wrap (a / 16) = a / 16 := by rw [IntKind.wrap_i64]; omega
            have a7 : (a / 16).tmod (j : Int) = (p2 : Int) := hint.2
            have a8 : IntKind.i64.wrap (p2 : Int) = (p2 : Int) := by rw [IntKind.wrap_i64]; omega
            have a9 : ¬ ((j : Int) = 0) := by omega
            have b1 : ¬ (j = 0) := by omega
            have b2 : ((j : Int) == 0) = false := by rw [beq_eq_false_iff_ne]; omega
            have b3 : (j == 0) = false := by rw [beq_eq_false_iff_ne]; omega
            have HC := Lib.hid (And.intro hx hc)
            clear hx hc hcell hp hint hlt2 hpq
            go_wp2_with fail
            go_region_held3 (fun W => W.cell? ⟨b, o + i, none⟩ = some (.int .u8 a))
              (first | exact c1 | exact HCell.out _ hc3)
              (first
                | (go_at_call 20
                   refine (HW.out _ (Ch.refl [] wr).drew).mono ?_
                   intro e w3 hr
                   obtain ⟨rfl, d, hd, hx3, hc3⟩ := hr.use HC.out.2.drew HB.out.2.2.1 HB.out.2.2.2 (by rw [st_len]; omega)))
            rw [← HSt.out] at hx3
            have H4 := Lib.hid (And.intro hx3 (And.intro hc3 hd))
            clear hr hx3 hc3 hd c1 a1 a2 a3 a4 a5 a6 a7 a8 a9 b1 b2 b3 HW HC HCell
            go_wp2
            go_roundg (gk - 1)
            case measure => have := HJ.out; omega
            case rel => exact ⟨i + 1, wn + d, by have := HJ.out; omega, by go_num, by have := HJ.out; have := H4.out.2.2; omega, H4.out.1, H4.out.2.1⟩
          · obtain rfl : i = n := by omega
            have H4 := Lib.hid (And.intro hx hc)
            have hs1 : IntKind.i64.wrap ((i : Int) - 1) = (i : Int) - 1 := by rw [IntKind.wrap_i64]; omega
            clear hx hc hlt hin
            go_wp2_with fail
            clear hs1
            go_loopg [9] i (fun g iv wr => ∃ wn : Nat, iv = .int .i64 ((g : Int) - 1) ∧ g ≤ i ∧ wn ≤ 20000 + 78 * (i - g) ∧ IxAt PosT wr PT xb tb mb (st j ps g) wn j ∧ Ch [] w wr)
            case atStart => exact ⟨wn, rfl, Nat.le_refl _, by omega, H4.out⟩
            case round =>
              obtain ⟨wn, rfl, hgi, hwn, hx, hc⟩ := hrel
              have HJ := Lib.hid hwn
              have hwn3 : wn ≤ 30000 := by omega
              clear hwn
              by_cases hlt : 0 < gk
              · obtain ⟨m, rfl⟩ : ∃ m, gk = m + 1 := ⟨gk - 1, by omega⟩
                obtain ⟨a, hp, ha0, ha1, rfl, hcell⟩ := HPS.out m (by omega)
                have hlt2 := pairOf_lt (show 0 < j by omega) a
                have hint := pairOf_int (show 0 < j by omega) ha0
                have hb1 : (pairOf j a).1 < (st j ps m).length := by rw [st_len]; exact hlt2.1
                have hb2 : (pairOf j a).2 < (st j ps m).length := by rw [st_len]; exact hlt2.2
                have HSt := Lib.hid (show swp (st j ps (m + 1)) (pairOf j a) = st j ps m by rw [st_succ hp]; exact swp_swp hb1 hb2)
                have HW := Lib.hid (fun W (hcw : Ch [] wr W) => pswp W PT xb tb mb wn j (pairOf j a) (st j ps (m + 1)) (hx.ch0 hcw) (by rw [st_len]; omega) (by omega) (by rw [st_len]; exact hlt2.1) (by rw [st_len]; exact hlt2.2))
                clear hb1 hb2
                generalize hpq : pairOf j a = pq at *
                obtain ⟨p1, p2⟩ := pq
                simp only at hlt2 hint HW
                have HCell := Lib.hid hcell
                have c1 := hcell wr hc
                have e0 : ((m + 1 : Nat) : Int) - 1 = (m : Int) := by omega
                rw [e0]
                have i1 : (m : Int) < (i : Int) := by omega
                have i2 : (0 : Int) ≤ (m : Int) := by omega
                have a1 : IntKind.i64.wrap a = a := by rw [IntKind.wrap_i64]; omega
                have a2 : a.tmod (j : Int) = (p1 : Int) := hint.1
                have a3 : IntKind.i64.wrap (p1 : Int) = (p1 : Int) := by rw [IntKind.wrap_i64]; omega
                have a4 : a.tdiv 16 = a / 16 := Int.tdiv_eq_ediv_of_nonneg ha0
                have a5 : IntKind.u8.wrap (a / 16) = a / 16 := by rw [IntKind.wrap_u8]; omega
                have a6 : IntKind.i64.wrap (a / 16) = a / 16 := by rw [IntKind.wrap_i64]; omega
                have a7 : (a / 16).tmod (j : Int) = (p2 : Int) := hint.2
                have a8 : IntKind.i64.wrap (p2 : Int) = (p2 : Int) := by rw [IntKind.wrap_i64]; omega
                have a9 : ¬ ((j : Int) = 0) := by omega
                have b1 : ¬ (j = 0) := by omega
                have b2 : ((j : Int) == 0) = false := by rw [beq_eq_false_iff_ne]; omega
                have b3 : (j == 0) = false := by rw [beq_eq_false_iff_ne]; omega
                have HC := Lib.hid (And.intro hx (And.intro hc hgi))
                clear hx hc hcell hp hint hlt2 hpq e0 hlt hgi
                go_wp2_with fail
                go_region_held3 (fun W => W.cell? ⟨b, o + m, none⟩ = some (.int .u8 a))
                  (first | exact c1 | exact HCell.out _ hc3)
                  (first
                    | (go_at_call 20
                       refine (HW.out _ (Ch.refl [] wr).drew).mono ?_
                       intro e w3 hr
                       obtain ⟨rfl, d, hd, hx3, hc3⟩ := hr.use HC.out.2.1.drew HB.out.2.2.1 HB.out.2.2.2 (by rw [st_len]; omega)))
                rw [HSt.out] at hx3
                have H5 := Lib.hid (And.intro hx3 (And.intro hc3 hd))
                have s1 : IntKind.i64.wrap ((m : Int) - 1) = (m : Int) - 1 := by rw [IntKind.wrap_i64]; omega
                clear hr hx3 hc3 hd c1 a1 a2 a3 a4 a5 a6 a7 a8 a9 b1 b2 b3 HW HCell
                go_wp2
                go_roundg m
                case measure => omega
                case rel => exact ⟨wn + d, rfl, by have := HC.out.2.2; omega, by have := HJ.out; have := HC.out.2.2; have := H5.out.2.2; omega, H5.out.1, H5.out.2.1⟩
              · obtain rfl : gk = 0 := by omega
                have H5 := Lib.hid (And.intro (show IxAt PosT wr PT xb tb mb (upto j) wn j from hx) hc)
                rw [show ((0 : Nat) : Int) - 1 = -1 from rfl]
                clear hx hc hlt hgi
                go_wp2_with fail
                go_loopg [10] j (fun g iv wr => ∃ l : Nat, g + l = j ∧ iv = .int .i64 l ∧ IxAt PosT wr PT xb tb mb (upto j) wn j ∧ Ch [] w wr)
                case atStart => exact ⟨0, rfl, rfl, H5.out⟩
                case round =>
                  obtain ⟨l, hgl, rfl, hx, hc⟩ := hrel
                  have HL := Lib.hid hgl
                  have hlj : l ≤ j := by omega
                  clear hgl
                  by_cases hlt : l < j
                  · have hA := Lib.hid (pat_ok wr PT xb tb mb _ j l ((l : Int) + 1) (upto j) hx (by rw [upto_len]; omega) (upto_get hlt))
                    have hP := Lib.hid (pplace_ok wr PT xb tb mb _ j l ((l : Int) + 1) (upto j) hx (by rw [upto_len]; omega) (upto_get hlt))
                    have e1 : (((l : Int) + 1) != ((l : Int) + 1)) = false := by simp
                    have e2 : ((l : Int) != (l : Int)) = false := by simp
                    have HX := Lib.hid (And.intro hx hc)
                    clear hx hc
                    go_wp2_with fail
                    refine hA.out.mono ?_
                    rintro e w' ⟨rfl, rfl⟩
                    go_wp2_with fail
                    refine hP.out.mono ?_
                    rintro e w4 ⟨rfl, hc4⟩
                    have H4 := Lib.hid (And.intro (HX.out.1.ch0 hc4) (HX.out.2.trans hc4))
                    clear hc4 hA hP HX
                    go_wp2
                    go_roundg (gk - 1)
                    case measure => have := HL.out; omega
                    case rel => exact ⟨l + 1, by have := HL.out; omega, by go_num, H4.out⟩
                  · obtain rfl : l = j := by omega
                    have HX := Lib.hid hc
                    clear hx hc hlt hlj
                    go_wp2
                    go_ret
                    exact ⟨rfl, HX.out⟩
  · have h40' : (40 : Int) < (bs.length : Int) := by omega
    clear haa hbs hbd h40
    go_enter Try.func5, Try.ntmps5
    go_wp2_with fail
    refine (pknown w).mono ?_
    rintro e w1 ⟨rfl, hc1⟩
    have HC1 := Lib.hid hc1
    clear hc1
    go_wp2
    go_ret
    exact ⟨rfl, HC1.out⟩
end Go.Proofs.Ytjecadkmlakncaa
