/-
  Rows of values in memory; the references' comparison of rows.
-/
import Derived.Test.YtiekahnpnaldjaaDoorVal2
import Derived.StillTailTactics
import Derived.Deep.RegionHeld3
namespace Go.Proofs.YtiekahnpnaldjaaDoor
open Go.RowKit

/-- The four cells of a value. -/
structure VAt (w : World) (b o : Nat) (v : V) : Prop where
  c0 : w.cell? ⟨b, o, none⟩ = some (.int .i64 v.k)
  c1 : w.cell? ⟨b, o + 1, none⟩ = some (.int .i64 v.i)
  c2 : w.cell? ⟨b, o + 2, none⟩ = some (.string v.s)
  c3 : w.cell? ⟨b, o + 3, none⟩ = some (.float .f64 v.f)
/-- The slice sv reads as the values l; if there are any they lie in block b from off on. -/
structure VRow (w : World) (b off : Nat) (sv : Value) (l : List V) : Prop where
  shape : ∃ ao cap, sv = .slice ao l.length cap ∧ (l ≠ [] → ao = some ⟨b, off, none⟩)
  cells : ∀ i v, l[i]? = some v → VAt w b (off + i * 4) v
theorem VAt.ch {S : List Nat} {w w' : World} {b o : Nat} {v : V} (h : VAt w b o v) (hc : Ch S w w') (hb : b ∉ S) : VAt w' b o v := by
  have hlt := World.block_lt_of_cell? _ _ h.c0
  exact ⟨(hc.rules.1 _ _ hlt hb).trans h.c0, (hc.rules.1 _ _ hlt hb).trans h.c1, (hc.rules.1 _ _ hlt hb).trans h.c2, (hc.rules.1 _ _ hlt hb).trans h.c3⟩
theorem VRow.ch {S : List Nat} {w w' : World} {b off : Nat} {sv : Value} {l : List V} (h : VRow w b off sv l) (hc : Ch S w w') (hb : b ∉ S) : VRow w' b off sv l :=
  ⟨h.shape, fun i v hv => (h.cells i v hv).ch hc hb⟩
theorem VRow.ch0 {w w' : World} {b off : Nat} {sv : Value} {l : List V} (h : VRow w b off sv l) (hc : Ch [] w w') : VRow w' b off sv l := h.ch hc (by simp)
theorem VRow.drewN {w : World} {b off n : Nat} {sv : Value} {l : List V} (h : VRow w b off sv l) : VRow (w.drewN n) b off sv l :=
  ⟨h.shape, fun i v hv => ⟨(h.cells i v hv).c0, (h.cells i v hv).c1, (h.cells i v hv).c2, (h.cells i v hv).c3⟩⟩
theorem Ch.drewN {S : List Nat} {a b : World} (h : Ch S a b) (n : Nat) : Ch S a (b.drewN n) := ⟨h.os, h.tape, h.output, h.size, h.block⟩

theorem cmpRows_drop (la lb : List V) (m : Nat) (a b : V) (ha : la[m]? = some a) (hb : lb[m]? = some b) : cmpRows (la.drop m) (lb.drop m) = if cmpV a b ≠ 0 then cmpV a b else cmpRows (la.drop (m + 1)) (lb.drop (m + 1)) := by
  have h1 : la.drop m = a :: la.drop (m + 1) := by
    have hlt := (List.getElem?_eq_some_iff.1 ha)
    rw [List.drop_eq_getElem_cons hlt.1, hlt.2]
  have h2 : lb.drop m = b :: lb.drop (m + 1) := by
    have hlt := (List.getElem?_eq_some_iff.1 hb)
    rw [List.drop_eq_getElem_cons hlt.1, hlt.2]
  rw [h1, h2]
  simp only [cmpRows]

set_option maxRecDepth 100000 in
set_option maxHeartbeats 1000000 in
theorem refRows_any (la lb : List V) (ba oa bb ob : Nat) (sa sb : Value) (w : World) (ha : VRow w ba oa sa la) (hb : VRow w bb ob sb lb) (oka : OkL la) (okb : OkL lb) (hla : la.length ≤ 9223372036854775807) (hlb : lb.length ≤ 9223372036854775807) :
    Calls Tryd.prog 47 #[sa, sb] w fun e w' => e = .returned (.int .i64 (cmpRows la lb)) ∧ Ch [] w w' := by
  obtain ⟨aa, ca, rfl, hsa⟩ := ha.shape
  obtain ⟨ab, cb, rfl, hsb⟩ := hb.shape
  have HA := Lib.hid (And.intro ha (And.intro hb (And.intro hsa hsb)))
  have HO := Lib.hid (And.intro oka okb)
  clear ha hb oka okb hsa hsb
  go_enter Tryd.func47, Tryd.ntmps47
  go_wp2_with fail
  go_loopg [5] la.length (fun k i wr => ∃ m : Nat, k + m = la.length ∧ i = .int .i64 m ∧ m ≤ lb.length ∧ cmpRows la lb = cmpRows (la.drop m) (lb.drop m) ∧ Ch [] w wr)
  case atStart => exact ⟨0, rfl, rfl, Nat.zero_le _, rfl, Ch.refl _ _⟩
  case round =>
    obtain ⟨m, hkm, rfl, hmb, hcmp, hch⟩ := hrel
    by_cases h1 : m < la.length
    · by_cases h2 : m < lb.length
      · obtain ⟨va, hva⟩ : ∃ v, la[m]? = some v := ⟨_, List.getElem?_eq_getElem h1⟩
        obtain ⟨vb, hvb⟩ : ∃ v, lb[m]? = some v := ⟨_, List.getElem?_eq_getElem h2⟩
        have hra := (HA.out.1.cells m va hva).ch hch (by simp)
        have hrb := (HA.out.2.1.cells m vb hvb).ch hch (by simp)
        have e1 := HA.out.2.2.1 (by rintro rfl; simp at h1)
        have e2 := HA.out.2.2.2 (by rintro rfl; simp at h2)
        have f1 := (HO.out.1 va (List.mem_of_getElem? hva)).f
        have f2 := (HO.out.2 vb (List.mem_of_getElem? hvb)).f
        have HC := Lib.hid (fun w => refCompare_any va vb w f1 f2)
        have HX := Lib.hid (And.intro hkm (And.intro hcmp (And.intro hch (And.intro hva hvb))))
        subst e1 e2
        obtain ⟨p0, p1, p2, p3⟩ := hra
        obtain ⟨q0, q1, q2, q3⟩ := hrb
        clear hkm hcmp hch hva hvb f1 f2
        have i1 : (m : Int) < (la.length : Int) := by omega
        have i2 : (m : Int) < (lb.length : Int) := by omega
        go_wp2_with fail
        go_still_tail 8, (by kernel_rfl)
        change wpList _ _ _ _ _ wr.drew
        go_wp2_with (go_at_call 74; refine (HC.out _).mono ?_)
        rintro e w2 ⟨rfl, hc2⟩
        obtain ⟨hkm, hcmp, hch, hva, hvb⟩ := HX.out
        have hch2 : Ch [] w w2 := hch.drew.trans hc2
        rw [cmpRows_drop la lb m va vb hva hvb] at hcmp
        by_cases hz : cmpV va vb = 0
        · have t : (cmpV va vb != 0) = false := by rw [hz]; rfl
          rw [if_neg (by omega)] at hcmp
          have HN := Lib.hid (And.intro hkm (And.intro hcmp hch2))
          clear hkm hcmp hch hva hvb hc2 hch2 hz HX p0 p1 p2 p3 q0 q1 q2 q3
          go_wp2
          go_roundg (gk - 1)
          case measure => have := HN.out.1; omega
          case rel => exact ⟨m + 1, by have := HN.out.1; omega, by go_num, h2, HN.out.2.1, HN.out.2.2⟩
        · have t : (cmpV va vb != 0) = true := by simpa using hz
          rw [if_pos (by omega)] at hcmp
          have HN := Lib.hid (And.intro hcmp hch2)
          clear hkm hcmp hch hva hvb hc2 hch2 hz HX p0 p1 p2 p3 q0 q1 q2 q3
          go_wp2
          go_ret
          exact ⟨by rw [HN.out.1]; rfl, HN.out.2⟩
      · obtain rfl : m = lb.length := by omega
        have e : cmpRows la lb = 1 := by
          rw [hcmp, List.drop_length]
          cases h : la.drop lb.length with
          | nil => have := congrArg List.length h; simp at this; omega
          | cons a t => rfl
        have t1 : ((la.length : Int) == (lb.length : Int)) = false := by rw [beq_eq_false_iff_ne]; omega
        have t2 : decide ((la.length : Int) < (lb.length : Int)) = false := by rw [decide_eq_false_iff_not]; omega
        have t3 : decide (lb.length < la.length) = true := by simpa using h1
        have i1 : (lb.length : Int) < (la.length : Int) := by omega
        have E := Lib.hid e
        have HN := Lib.hid hch
        clear hkm hcmp hch e
        go_wp2_with (go_at_call 80; refine (sign_any _ _).mono ?_; rintro e w' ⟨rfl, rfl⟩)
        go_ret
        exact ⟨by rw [E.out]; rfl, HN.out⟩
    · obtain rfl : m = la.length := by omega
      by_cases h3 : la.length = lb.length
      · have e : cmpRows la lb = 0 := by
          rw [hcmp, List.drop_length, h3, List.drop_length]; rfl
        have t1 : ((la.length : Int) == (lb.length : Int)) = true := by rw [beq_iff_eq]; omega
        have E := Lib.hid e
        have HN := Lib.hid hch
        have H3 := Lib.hid h3
        clear hkm hcmp hch e h3
        go_wp2
        go_ret
        exact ⟨by rw [E.out]; rfl, HN.out⟩
      · have e : cmpRows la lb = -1 := by
          rw [hcmp, List.drop_length]
          cases h : lb.drop la.length with
          | nil => have := congrArg List.length h; simp at this; omega
          | cons a t => rfl
        have t1 : ((la.length : Int) == (lb.length : Int)) = false := by rw [beq_eq_false_iff_ne]; omega
        have i1 : (la.length : Int) < (lb.length : Int) := by omega
        have E := Lib.hid e
        have HN := Lib.hid hch
        clear hkm hcmp hch e h3
        go_wp2_with (go_at_call 80; refine (sign_any _ _).mono ?_; rintro e w' ⟨rfl, rfl⟩)
        go_ret
        exact ⟨by rw [E.out]; rfl, HN.out⟩

/-- Vals: as many, and the same. -/
theorem vals_any (la lb : List V) (ba oa bb ob : Nat) (sa sb : Value) (w : World) (ha : VRow w ba oa sa la) (hb : VRow w bb ob sb lb) (oka : OkL la) (okb : OkL lb) (hla : la.length ≤ 9223372036854775807) (hlb : lb.length ≤ 9223372036854775807) :
    Calls Tryd.prog 26 #[sa, sb] w fun e w' => e = .returned (.bool (decide (cmpRows la lb = 0))) ∧ Ch [] w w' := by
  have H1 := Lib.hid (refRows_any la lb ba oa bb ob sa sb w ha hb oka okb hla hlb)
  obtain ⟨aa, ca, rfl, _⟩ := ha.shape
  obtain ⟨ab, cb, rfl, _⟩ := hb.shape
  by_cases h : la.length = lb.length
  · have t1 : ((la.length : Int) == (lb.length : Int)) = true := by rw [beq_iff_eq]; omega
    by_cases h0 : cmpRows la lb = 0
    · have t2 : (cmpRows la lb == 0) = true := by rw [h0]; rfl
      have e : decide (cmpRows la lb = 0) = true := by simpa using h0
      rw [e]
      clear ha hb h e h0
      go_enter Tryd.func26, Tryd.ntmps26
      go_wp2_with (go_at_call 47; refine H1.out.mono ?_; rintro e w' ⟨rfl, hc⟩)
      go_ret
      exact ⟨rfl, by assumption⟩
    · have t2 : (cmpRows la lb == 0) = false := by rw [beq_eq_false_iff_ne]; exact h0
      have e : decide (cmpRows la lb = 0) = false := by simpa using h0
      rw [e]
      clear ha hb h e h0
      go_enter Tryd.func26, Tryd.ntmps26
      go_wp2_with (go_at_call 47; refine H1.out.mono ?_; rintro e w' ⟨rfl, hc⟩)
      go_ret
      exact ⟨rfl, by assumption⟩
  · have t1 : ((la.length : Int) == (lb.length : Int)) = false := by rw [beq_eq_false_iff_ne]; omega
    have e : decide (cmpRows la lb = 0) = false := by simp; intro h0; exact h (rows_len oka okb h0)
    rw [e]
    clear ha hb h e
    go_enter Tryd.func26, Tryd.ntmps26
    go_wp2
    go_ret
    exact ⟨rfl, Ch.refl _ _⟩
end Go.Proofs.YtiekahnpnaldjaaDoor
