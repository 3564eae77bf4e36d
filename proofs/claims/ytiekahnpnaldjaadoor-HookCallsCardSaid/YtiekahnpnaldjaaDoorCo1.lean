/-
  The statements' comparators: what they tell.
-/
import Derived.Test.YtiekahnpnaldjaaDoorKt4
import Derived.Test.YtiekahnpnaldjaaDoorQch
namespace Go.Proofs.YtiekahnpnaldjaaDoor
open Go.RowKit

def sizeV (l : List V) : Nat := (l.map fun v => v.s.size).sum
theorem sizeV_take {l : List V} {m : Nat} {v : V} (h : l[m]? = some v) : sizeV (l.take (m + 1)) = sizeV (l.take m) + v.s.size := by
  unfold sizeV
  rw [List.take_add_one, h, List.map_append, List.sum_append]
  simp
theorem sizeV_take_le (l : List V) (m : Nat) : sizeV (l.take m) ≤ sizeV l := by
  have e : sizeV l = sizeV (l.take m) + sizeV (l.drop m) := by
    unfold sizeV
    rw [← List.sum_append, ← List.map_append, List.take_append_drop]
  omega
/-- What the comparator with a number tells, ahead of the seven. -/
def cmpC (n : Int) (la lb : List V) : Int :=
  if n = 0 then - cmpRows la lb
  else if n = 1 then cmpRows (la.take 1) (lb.take 1)
  else if n = 2 then (if sizeV la ≠ sizeV lb then (if sizeV la < sizeV lb then -1 else 1) else cmpRows la lb)
  else cmpRows la lb
theorem cmpC_three (n : Int) (la lb : List V) : -1 ≤ cmpC n la lb ∧ cmpC n la lb ≤ 1 := by
  have h1 := rows_three la lb
  have h2 := rows_three (la.take 1) (lb.take 1)
  unfold cmpC
  repeat' split
  all_goals omega

set_option maxRecDepth 100000 in
set_option maxHeartbeats 1000000 in
theorem size_any (l : List V) (b off : Nat) (sv : Value) (w : World) (hr : VRow w b off sv l) (ol : OkL l) (hl : l.length ≤ 9223372036854775807) (hs : sizeV l ≤ 9223372036854775807) :
    Calls Tryd.prog 101 #[sv] w fun e w' => e = .returned (.int .i64 (sizeV l)) ∧ w = w' := by
  obtain ⟨aa, ca, rfl, hsa⟩ := hr.shape
  have HR := Lib.hid (And.intro hr (And.intro hsa ol))
  have HS := Lib.hid (fun m => sizeV_take_le l m)
  clear hr hsa ol
  go_enter Tryd.func101, Tryd.ntmps101
  go_wp2_with fail
  go_loop [3, 4] (fun n i => ∃ k : Nat, k ≤ l.length ∧ i = .int .i64 k ∧ n = .int .i64 (sizeV (l.take k))) (fun _ i => l.length - (intOf i).toNat)
  case atStart => exact ⟨0, Nat.zero_le _, rfl, by simp [sizeV]⟩
  case round =>
    obtain ⟨k, hk, rfl, rfl⟩ := hrel
    by_cases hlt : k < l.length
    · have hv : l[k]? = some l[k] := List.getElem?_eq_getElem hlt
      obtain rfl := HR.out.2.1 (fun e => by rw [e] at hlt; simp at hlt)
      have c2 := (HR.out.1.cells k _ hv).c2
      have h1 := HS.out k
      have h2 := HS.out (k + 1)
      have h3 := sizeV_take hv
      rw [h3] at h2
      have H3 := Lib.hid h3
      have j0 : (k : Int) < (l.length : Int) := by omega
      generalize l[k] = v at *
      generalize sizeV (l.take k) = n at *
      clear h3 hv
      have hb : (n : Int) + (v.s.size : Int) ≤ 9223372036854775807 := by omega
      go_wp2
      go_round
      case rel => exact ⟨k + 1, by omega, by go_num, by rw [H3.out]; go_num⟩
      case measure => simp [intOf]; omega
    · obtain rfl : k = l.length := by omega
      go_wp2
      go_ret
      exact ⟨rfl, rfl⟩

theorem VRow.take1 {w : World} {b off : Nat} {a : Option Addr} {c : Nat} {l : List V} (h : VRow w b off (.slice a l.length c) l) : VRow w b off (.slice a (l.take 1).length c) (l.take 1) := by
  obtain ⟨ao, cap, e, hn⟩ := h.shape
  simp only [Value.slice.injEq] at e
  obtain ⟨rfl, -, rfl⟩ := e
  refine ⟨⟨_, _, rfl, fun hne => hn (fun e => by rw [e] at hne; simp at hne)⟩, fun i v hv => h.cells i v ?_⟩
  rw [List.getElem?_take] at hv
  split at hv
  · exact hv
  · simp at hv

set_option maxRecDepth 100000 in
set_option maxHeartbeats 2000000 in
theorem refCmp_any (n : Int) (la lb : List V) (ba oa bb ob : Nat) (sa sb : Value) (w : World) (ha : VRow w ba oa sa la) (hb : VRow w bb ob sb lb) (oka : OkL la) (okb : OkL lb) (hla : la.length ≤ 9223372036854775807) (hlb : lb.length ≤ 9223372036854775807)
    (hsa : sizeV la ≤ 9223372036854775807) (hsb : sizeV lb ≤ 9223372036854775807) (hn : 0 ≤ n ∧ n ≤ 2) (hca : ∀ a n c, sa = .slice a n c → n ≤ c) (hcb : ∀ a n c, sb = .slice a n c → n ≤ c) :
    Calls Tryd.prog 79 #[.int .i64 n, sa, sb] w fun e w' => e = .returned (.int .i64 (cmpC n la lb)) ∧ Ch [] w w' := by
  obtain ⟨aa, ca, rfl, hna⟩ := ha.shape
  obtain ⟨ab, cb, rfl, hnb⟩ := hb.shape
  have hca := hca _ _ _ rfl
  have hcb := hcb _ _ _ rfl
  have h3 := rows_three la lb
  have hb3 : -1 ≤ cmpRows la lb ∧ cmpRows la lb ≤ 1 := by omega
  have HR := Lib.hid (fun W (hc : Ch [] w W) => refRows_any la lb ba oa bb ob _ _ W (ha.ch0 hc) (hb.ch0 hc) oka okb hla hlb)
  rcases (show n = 0 ∨ n = 1 ∨ n = 2 by omega) with rfl | rfl | rfl
  · have e : cmpC 0 la lb = - cmpRows la lb := by simp [cmpC]
    rw [e]
    generalize cmpRows la lb = x at *
    obtain ⟨x0, x1⟩ := hb3
    clear e h3 ha hb oka okb
    go_enter Tryd.func79, Tryd.ntmps79
    go_wp2_with fail
    refine (HR.out _ (Ch.refl _ _)).mono ?_
    rintro e w1 ⟨rfl, hc1⟩
    have HC := Lib.hid hc1
    clear hc1
    go_wp2
    go_ret
    exact ⟨rfl, HC.out⟩
  · have e : cmpC 1 la lb = cmpRows (la.take 1) (lb.take 1) := by simp [cmpC]
    rw [e]
    have HR1 := Lib.hid (fun W (hc : Ch [] w W) => refRows_any (la.take 1) (lb.take 1) ba oa bb ob _ _ W (ha.take1.ch0 hc) (hb.take1.ch0 hc) (fun v hv => oka v (List.mem_of_mem_take hv)) (fun v hv => okb v (List.mem_of_mem_take hv)) (by simp; omega) (by simp; omega))
    have HP := Lib.hid (fun (p : ChW w) => Calls.chw_of (HR1.out p.w p.ch))
    have ea : (la.take 1).length = min 1 la.length := List.length_take
    have eb : (lb.take 1).length = min 1 lb.length := List.length_take
    rw [ea, eb] at HP
    clear e h3 hb3 ha hb oka okb HR HR1 ea eb hsa hsb
    have ka : (la.length = 0) ∨ (0 < la.length ∧ aa = some ⟨ba, oa, none⟩) := by
      by_cases h : la.length = 0
      · exact .inl h
      · exact .inr ⟨by omega, hna (fun e => by rw [e] at h; simp at h)⟩
    have kb : (lb.length = 0) ∨ (0 < lb.length ∧ ab = some ⟨bb, ob, none⟩) := by
      by_cases h : lb.length = 0
      · exact .inl h
      · exact .inr ⟨by omega, hnb (fun e => by rw [e] at h; simp at h)⟩
    clear hna hnb
    rcases ka with za | ⟨za, rfl⟩
    · rw [za] at HP hca ⊢
      rw [show min 1 0 = 0 from rfl] at HP
      clear za hla
      rcases kb with zb | ⟨zb, rfl⟩
      · rw [zb] at HP hcb ⊢
        rw [show min 1 0 = 0 from rfl] at HP
        clear zb hlb
        cases aa <;> cases ab
        all_goals
          go_enter Tryd.func79, Tryd.ntmps79
          go_wp2_with fail
          refine wp_region_chw (w0 := w) (by kernel_rfl) (by kernel_rfl) (Ch.refl _ _) ?_
          repeat (first | go_big_quiet_step ((go_at_call 47; exact HP.out _)) | quiet_step ((go_at_call 47; exact HP.out _)))
          refine wpQuiet_nil ?_
          rintro _ ⟨pq, rfl⟩
          go_wp2
          go_ret
          exact ⟨rfl, pq.ch⟩
      · rw [show min 1 lb.length = 1 by omega] at HP
        have g1 : (1 : Int) ≤ (lb.length : Int) := by omega
        have g2 : (1 : Int) ≤ (cb : Int) := by omega
        cases aa
        all_goals
          go_enter Tryd.func79, Tryd.ntmps79
          go_wp2_with fail
          refine wp_region_chw (w0 := w) (by kernel_rfl) (by kernel_rfl) (Ch.refl _ _) ?_
          repeat (first | go_big_quiet_step ((go_at_call 47; exact HP.out _)) | quiet_step ((go_at_call 47; exact HP.out _)))
          refine wpQuiet_nil ?_
          rintro _ ⟨pq, rfl⟩
          go_wp2
          go_ret
          exact ⟨rfl, pq.ch⟩
    · rw [show min 1 la.length = 1 by omega] at HP
      have g3 : (1 : Int) ≤ (la.length : Int) := by omega
      have g4 : (1 : Int) ≤ (ca : Int) := by omega
      rcases kb with zb | ⟨zb, rfl⟩
      · rw [zb] at HP hcb ⊢
        rw [show min 1 0 = 0 from rfl] at HP
        clear zb hlb
        cases ab
        all_goals
          go_enter Tryd.func79, Tryd.ntmps79
          go_wp2_with fail
          refine wp_region_chw (w0 := w) (by kernel_rfl) (by kernel_rfl) (Ch.refl _ _) ?_
          repeat (first | go_big_quiet_step ((go_at_call 47; exact HP.out _)) | quiet_step ((go_at_call 47; exact HP.out _)))
          refine wpQuiet_nil ?_
          rintro _ ⟨pq, rfl⟩
          go_wp2
          go_ret
          exact ⟨rfl, pq.ch⟩
      · rw [show min 1 lb.length = 1 by omega] at HP
        have g1 : (1 : Int) ≤ (lb.length : Int) := by omega
        have g2 : (1 : Int) ≤ (cb : Int) := by omega
        all_goals
          go_enter Tryd.func79, Tryd.ntmps79
          go_wp2_with fail
          refine wp_region_chw (w0 := w) (by kernel_rfl) (by kernel_rfl) (Ch.refl _ _) ?_
          repeat (first | go_big_quiet_step ((go_at_call 47; exact HP.out _)) | quiet_step ((go_at_call 47; exact HP.out _)))
          refine wpQuiet_nil ?_
          rintro _ ⟨pq, rfl⟩
          go_wp2
          go_ret
          exact ⟨rfl, pq.ch⟩
  · have e : cmpC 2 la lb = if sizeV la ≠ sizeV lb then (if sizeV la < sizeV lb then -1 else 1) else cmpRows la lb := by simp [cmpC]
    rw [e]
    have S1 := Lib.hid (fun W (hc : Ch [] w W) => size_any la ba oa _ W (ha.ch0 hc) oka hla hsa)
    have S2 := Lib.hid (fun W (hc : Ch [] w W) => size_any lb bb ob _ W (hb.ch0 hc) okb hlb hsb)
    clear e h3 hb3 ha hb oka okb
    generalize sizeV la = x at *
    generalize sizeV lb = y at *
    rcases Nat.lt_trichotomy x y with hxy | hxy | hxy
    · rw [if_pos (by omega), if_pos hxy]
      have t1 : ((x : Int) != (y : Int)) = true := by rw [bne_iff_ne]; omega
      have t2 : (x : Int) < (y : Int) := by omega
      clear hxy
      go_enter Tryd.func79, Tryd.ntmps79
      go_wp2_with fail
      refine (S1.out _ (Ch.refl _ _)).mono ?_
      rintro e w' ⟨rfl, rfl⟩
      go_wp2_with fail
      refine (S2.out _ (Ch.refl _ _)).mono ?_
      rintro e w' ⟨rfl, rfl⟩
      go_wp2
      go_ret
      exact ⟨rfl, Ch.refl _ _⟩
    · subst hxy
      rw [if_neg (by simp)]
      have t1 : ((x : Int) != (x : Int)) = false := by simp
      go_enter Tryd.func79, Tryd.ntmps79
      go_wp2_with fail
      refine (S1.out _ (Ch.refl _ _)).mono ?_
      rintro e w' ⟨rfl, rfl⟩
      go_wp2_with fail
      refine (S2.out _ (Ch.refl _ _)).mono ?_
      rintro e w' ⟨rfl, rfl⟩
      go_wp2_with fail
      refine (HR.out _ (Ch.refl _ _)).mono ?_
      rintro e w1 ⟨rfl, hc1⟩
      have HC := Lib.hid hc1
      clear hc1
      go_wp2
      go_ret
      exact ⟨rfl, HC.out⟩
    · rw [if_pos (by omega), if_neg (by omega)]
      have t1 : ((x : Int) != (y : Int)) = true := by rw [bne_iff_ne]; omega
      have t2 : (y : Int) < (x : Int) := by omega
      clear hxy
      go_enter Tryd.func79, Tryd.ntmps79
      go_wp2_with fail
      refine (S1.out _ (Ch.refl _ _)).mono ?_
      rintro e w' ⟨rfl, rfl⟩
      go_wp2_with fail
      refine (S2.out _ (Ch.refl _ _)).mono ?_
      rintro e w' ⟨rfl, rfl⟩
      go_wp2
      go_ret
      exact ⟨rfl, Ch.refl _ _⟩
end Go.Proofs.YtiekahnpnaldjaaDoor
