/-
  value.Rows.
-/
import Derived.Test.YtiekahnpnaldjaaDoorCmp2
namespace Go.Proofs.YtiekahnpnaldjaaDoor
open Go.RowKit

theorem rows_end (la lb : List V) (n : Nat) (hn : n = min la.length lb.length) : cmpRows (la.drop n) (lb.drop n) = cmpI la.length lb.length := by
  subst hn
  unfold cmpI
  by_cases h1 : la.length < lb.length
  · rw [Nat.min_eq_left (by omega), List.drop_length, if_pos (by omega)]
    cases h : lb.drop la.length with
    | nil => have := congrArg List.length h; simp at this; omega
    | cons a t => rfl
  · by_cases h2 : lb.length < la.length
    · rw [Nat.min_eq_right (by omega), List.drop_length, if_neg (by omega), if_pos (by omega)]
      cases h : la.drop lb.length with
      | nil => have := congrArg List.length h; simp at this; omega
      | cons a t => rfl
    · have h3 : la.length = lb.length := by omega
      rw [Nat.min_eq_left (by omega), List.drop_length, h3, List.drop_length, if_neg (by omega), if_neg (by omega)]
      rfl

set_option maxRecDepth 100000 in
set_option maxHeartbeats 1000000 in
theorem valueRows_any (la lb : List V) (ba oa bb ob : Nat) (sa sb : Value) (w : World) (ha : VRow w ba oa sa la) (hb : VRow w bb ob sb lb) (oka : OkL la) (okb : OkL lb) (hla : la.length ≤ 9223372036854775807) (hlb : lb.length ≤ 9223372036854775807) :
    Calls Tryd.prog 71 #[sa, sb] w fun e w' => e = .returned (.int .i64 (cmpRows la lb)) ∧ Ch [] w w' := by
  obtain ⟨aa, ca, rfl, hsa⟩ := ha.shape
  obtain ⟨ab, cb, rfl, hsb⟩ := hb.shape
  have HA := Lib.hid (And.intro ha (And.intro hb (And.intro hsa hsb)))
  have HO := Lib.hid (And.intro oka okb)
  obtain ⟨n, hn⟩ : ∃ n, n = min la.length lb.length := ⟨_, rfl⟩
  have HN := Lib.hid hn
  clear ha hb oka okb hsa hsb hn
  go_enter Tryd.func71, Tryd.ntmps71
  go_wp2_with fail
  · obtain rfl : n = lb.length := by have := HN.out; omega
    go_loopg [12] lb.length (fun k i wr => ∃ m : Nat, k + m = lb.length ∧ i = .int .i64 m ∧ cmpRows la lb = cmpRows (la.drop m) (lb.drop m) ∧ Ch [] w wr)
    case atStart => exact ⟨0, by omega, rfl, rfl, Ch.refl _ _⟩
    case round =>
      obtain ⟨m, hkm, rfl, hcmp, hch⟩ := hrel
      by_cases h : m < lb.length
      · have h1 : m < la.length := by have := HN.out; omega
        have h2 : m < lb.length := by have := HN.out; omega
        obtain ⟨va, hva⟩ : ∃ v, la[m]? = some v := ⟨_, List.getElem?_eq_getElem h1⟩
        obtain ⟨vb, hvb⟩ : ∃ v, lb[m]? = some v := ⟨_, List.getElem?_eq_getElem h2⟩
        have hra := (HA.out.1.cells m va hva).ch hch (by simp)
        have hrb := (HA.out.2.1.cells m vb hvb).ch hch (by simp)
        have e1 := HA.out.2.2.1 (by rintro rfl; simp at h1)
        have e2 := HA.out.2.2.2 (by rintro rfl; simp at h2)
        have HC := Lib.hid (fun w => valueCompare_any va vb w (HO.out.1 va (List.mem_of_getElem? hva)) (HO.out.2 vb (List.mem_of_getElem? hvb)))
        have HX := Lib.hid (And.intro hkm (And.intro hcmp (And.intro hch (And.intro hva hvb))))
        subst e1 e2
        obtain ⟨p0, p1, p2, p3⟩ := hra
        obtain ⟨q0, q1, q2, q3⟩ := hrb
        clear hkm hcmp hch hva hvb
        have i1 : (m : Int) < (la.length : Int) := by omega
        have i2 : (m : Int) < (lb.length : Int) := by omega
        go_wp2_with fail
        go_still_tail 8, (by kernel_rfl)
        change wpList _ _ _ _ _ wr.drew
        go_wp2_with (go_at_call 95; refine (HC.out _).mono ?_)
        rintro e w2 ⟨rfl, hc2⟩
        obtain ⟨hkm, hcmp, hch, hva, hvb⟩ := HX.out
        have hch2 : Ch [] w w2 := hch.drew.trans hc2
        rw [cmpRows_drop la lb m va vb hva hvb] at hcmp
        by_cases hz : cmpV va vb = 0
        · have t : (cmpV va vb != 0) = false := by rw [hz]; rfl
          rw [if_neg (by omega)] at hcmp
          have HM := Lib.hid (And.intro hkm (And.intro hcmp hch2))
          clear hkm hcmp hch hva hvb hc2 hch2 hz HX p0 p1 p2 p3 q0 q1 q2 q3
          go_wp2
          go_roundg (gk - 1)
          case measure => have := HM.out.1; omega
          case rel => exact ⟨m + 1, by have := HM.out.1; omega, by go_num, HM.out.2.1, HM.out.2.2⟩
        · have t : (cmpV va vb != 0) = true := by simpa using hz
          rw [if_pos (by omega)] at hcmp
          have HM := Lib.hid (And.intro hcmp hch2)
          clear hkm hcmp hch hva hvb hc2 hch2 hz HX p0 p1 p2 p3 q0 q1 q2 q3
          go_wp2
          go_ret
          exact ⟨by rw [HM.out.1]; rfl, HM.out.2⟩
      · obtain rfl : m = lb.length := by omega
        rw [rows_end la lb _ HN.out] at hcmp
        have HM := Lib.hid (And.intro hcmp hch)
        clear hcmp hch hkm h
        go_wp2_with (go_at_call 76; refine (cmp_int _ _ _).mono ?_; rintro e w' ⟨rfl, rfl⟩)
        go_ret
        exact ⟨by rw [HM.out.1]; rfl, HM.out.2⟩
  · obtain rfl : n = la.length := by have := HN.out; omega
    go_loopg [12] la.length (fun k i wr => ∃ m : Nat, k + m = la.length ∧ i = .int .i64 m ∧ cmpRows la lb = cmpRows (la.drop m) (lb.drop m) ∧ Ch [] w wr)
    case atStart => exact ⟨0, by omega, rfl, rfl, Ch.refl _ _⟩
    case round =>
      obtain ⟨m, hkm, rfl, hcmp, hch⟩ := hrel
      by_cases h : m < la.length
      · have h1 : m < la.length := by have := HN.out; omega
        have h2 : m < lb.length := by have := HN.out; omega
        obtain ⟨va, hva⟩ : ∃ v, la[m]? = some v := ⟨_, List.getElem?_eq_getElem h1⟩
        obtain ⟨vb, hvb⟩ : ∃ v, lb[m]? = some v := ⟨_, List.getElem?_eq_getElem h2⟩
        have hra := (HA.out.1.cells m va hva).ch hch (by simp)
        have hrb := (HA.out.2.1.cells m vb hvb).ch hch (by simp)
        have e1 := HA.out.2.2.1 (by rintro rfl; simp at h1)
        have e2 := HA.out.2.2.2 (by rintro rfl; simp at h2)
        have HC := Lib.hid (fun w => valueCompare_any va vb w (HO.out.1 va (List.mem_of_getElem? hva)) (HO.out.2 vb (List.mem_of_getElem? hvb)))
        have HX := Lib.hid (And.intro hkm (And.intro hcmp (And.intro hch (And.intro hva hvb))))
        subst e1 e2
        obtain ⟨p0, p1, p2, p3⟩ := hra
        obtain ⟨q0, q1, q2, q3⟩ := hrb
        clear hkm hcmp hch hva hvb
        have i1 : (m : Int) < (la.length : Int) := by omega
        have i2 : (m : Int) < (lb.length : Int) := by omega
        go_wp2_with fail
        go_still_tail 8, (by kernel_rfl)
        change wpList _ _ _ _ _ wr.drew
        go_wp2_with (go_at_call 95; refine (HC.out _).mono ?_)
        rintro e w2 ⟨rfl, hc2⟩
        obtain ⟨hkm, hcmp, hch, hva, hvb⟩ := HX.out
        have hch2 : Ch [] w w2 := hch.drew.trans hc2
        rw [cmpRows_drop la lb m va vb hva hvb] at hcmp
        by_cases hz : cmpV va vb = 0
        · have t : (cmpV va vb != 0) = false := by rw [hz]; rfl
          rw [if_neg (by omega)] at hcmp
          have HM := Lib.hid (And.intro hkm (And.intro hcmp hch2))
          clear hkm hcmp hch hva hvb hc2 hch2 hz HX p0 p1 p2 p3 q0 q1 q2 q3
          go_wp2
          go_roundg (gk - 1)
          case measure => have := HM.out.1; omega
          case rel => exact ⟨m + 1, by have := HM.out.1; omega, by go_num, HM.out.2.1, HM.out.2.2⟩
        · have t : (cmpV va vb != 0) = true := by simpa using hz
          rw [if_pos (by omega)] at hcmp
          have HM := Lib.hid (And.intro hcmp hch2)
          clear hkm hcmp hch hva hvb hc2 hch2 hz HX p0 p1 p2 p3 q0 q1 q2 q3
          go_wp2
          go_ret
          exact ⟨by rw [HM.out.1]; rfl, HM.out.2⟩
      · obtain rfl : m = la.length := by omega
        rw [rows_end la lb _ HN.out] at hcmp
        have HM := Lib.hid (And.intro hcmp hch)
        clear hcmp hch hkm h
        go_wp2_with (go_at_call 76; refine (cmp_int _ _ _).mono ?_; rintro e w' ⟨rfl, rfl⟩)
        go_ret
        exact ⟨by rw [HM.out.1]; rfl, HM.out.2⟩
end Go.Proofs.YtiekahnpnaldjaaDoor
