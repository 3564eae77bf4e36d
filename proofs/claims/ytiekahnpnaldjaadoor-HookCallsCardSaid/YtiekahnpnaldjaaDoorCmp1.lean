/-
  cmp: Compare of ints, Or of a few.
-/
import Derived.Test.YtiekahnpnaldjaaDoorVal2
namespace Go.Proofs.YtiekahnpnaldjaaDoor
open Go.RowKit

theorem isNaN_int (n : Int) (w : World) : Calls Tryd.prog 100 #[.int .i64 n] w fun e w' => e = .returned (.bool false) ∧ w = w' := by
  go_enter Tryd.func100, Tryd.ntmps100
  go_wp2
  go_ret
  exact ⟨by simp, rfl⟩
set_option maxRecDepth 100000 in
theorem cmp_int (a b : Int) (w : World) : Calls Tryd.prog 76 #[.int .i64 a, .int .i64 b] w fun e w' => e = .returned (.int .i64 (cmpI a b)) ∧ w = w' := by
  by_cases h : a < b
  · have e : cmpI a b = -1 := by unfold cmpI; rw [if_pos h]
    rw [e]
    clear e
    go_enter Tryd.func76, Tryd.ntmps76
    go_wp2_with (go_at_call 100; refine (isNaN_int _ _).mono ?_; rintro e w' ⟨rfl, rfl⟩)
    go_ret
    exact ⟨rfl, rfl⟩
  · have h' : b ≤ a := by omega
    by_cases h2 : b < a
    · have e : cmpI a b = 1 := by unfold cmpI; rw [if_neg h, if_pos h2]
      rw [e]
      clear e h
      go_enter Tryd.func76, Tryd.ntmps76
      go_wp2_with (go_at_call 100; refine (isNaN_int _ _).mono ?_; rintro e w' ⟨rfl, rfl⟩)
      go_ret
      exact ⟨rfl, rfl⟩
    · obtain rfl : a = b := by omega
      have e : cmpI a a = 0 := by unfold cmpI; simp
      rw [e]
      clear e h h' h2
      go_enter Tryd.func76, Tryd.ntmps76
      go_wp2_with (go_at_call 100; refine (isNaN_int _ _).mono ?_; rintro e w' ⟨rfl, rfl⟩)
      go_ret
      exact ⟨rfl, rfl⟩
theorem isNaN_int64 (n : Int) (w : World) : Calls Tryd.prog 96 #[.int .i64 n] w fun e w' => e = .returned (.bool false) ∧ w = w' := by
  go_enter Tryd.func96, Tryd.ntmps96
  go_wp2
  go_ret
  exact ⟨by simp, rfl⟩
set_option maxRecDepth 100000 in
theorem cmp_int64 (a b : Int) (w : World) : Calls Tryd.prog 72 #[.int .i64 a, .int .i64 b] w fun e w' => e = .returned (.int .i64 (cmpI a b)) ∧ w = w' := by
  by_cases h : a < b
  · have e : cmpI a b = -1 := by unfold cmpI; rw [if_pos h]
    rw [e]
    clear e
    go_enter Tryd.func72, Tryd.ntmps72
    go_wp2_with (go_at_call 96; refine (isNaN_int64 _ _).mono ?_; rintro e w' ⟨rfl, rfl⟩)
    go_ret
    exact ⟨rfl, rfl⟩
  · have h' : b ≤ a := by omega
    by_cases h2 : b < a
    · have e : cmpI a b = 1 := by unfold cmpI; rw [if_neg h, if_pos h2]
      rw [e]
      clear e h
      go_enter Tryd.func72, Tryd.ntmps72
      go_wp2_with (go_at_call 96; refine (isNaN_int64 _ _).mono ?_; rintro e w' ⟨rfl, rfl⟩)
      go_ret
      exact ⟨rfl, rfl⟩
    · obtain rfl : a = b := by omega
      have e : cmpI a a = 0 := by unfold cmpI; simp
      rw [e]
      clear e h h' h2
      go_enter Tryd.func72, Tryd.ntmps72
      go_wp2_with (go_at_call 96; refine (isNaN_int64 _ _).mono ?_; rintro e w' ⟨rfl, rfl⟩)
      go_ret
      exact ⟨rfl, rfl⟩
theorem isNaN_uint64 (n : Int) (w : World) : Calls Tryd.prog 109 #[.int .u64 n] w fun e w' => e = .returned (.bool false) ∧ w = w' := by
  go_enter Tryd.func109, Tryd.ntmps109
  go_wp2
  go_ret
  exact ⟨by simp, rfl⟩
set_option maxRecDepth 100000 in
theorem cmp_uint64 (a b : Int) (w : World) : Calls Tryd.prog 107 #[.int .u64 a, .int .u64 b] w fun e w' => e = .returned (.int .i64 (cmpI a b)) ∧ w = w' := by
  by_cases h : a < b
  · have e : cmpI a b = -1 := by unfold cmpI; rw [if_pos h]
    rw [e]
    clear e
    go_enter Tryd.func107, Tryd.ntmps107
    go_wp2_with (go_at_call 109; refine (isNaN_uint64 _ _).mono ?_; rintro e w' ⟨rfl, rfl⟩)
    go_ret
    exact ⟨rfl, rfl⟩
  · have h' : b ≤ a := by omega
    by_cases h2 : b < a
    · have e : cmpI a b = 1 := by unfold cmpI; rw [if_neg h, if_pos h2]
      rw [e]
      clear e h
      go_enter Tryd.func107, Tryd.ntmps107
      go_wp2_with (go_at_call 109; refine (isNaN_uint64 _ _).mono ?_; rintro e w' ⟨rfl, rfl⟩)
      go_ret
      exact ⟨rfl, rfl⟩
    · obtain rfl : a = b := by omega
      have e : cmpI a a = 0 := by unfold cmpI; simp
      rw [e]
      clear e h h' h2
      go_enter Tryd.func107, Tryd.ntmps107
      go_wp2_with (go_at_call 109; refine (isNaN_uint64 _ _).mono ?_; rintro e w' ⟨rfl, rfl⟩)
      go_ret
      exact ⟨rfl, rfl⟩

theorem cmpF_nat (f g : Nat) : cmpI (ordF f : Nat) (ordF g : Nat) = cmpF f g := by unfold cmpF; rfl
set_option maxRecDepth 100000 in
theorem bitsCompare_any (f g : Nat) (w : World) (hf : f < 18446744073709551616) (hg : g < 18446744073709551616) : Calls Tryd.prog 105 #[.float .f64 f, .float .f64 g] w fun e w' => e = .returned (.int .i64 (cmpF f g)) ∧ w = w' := by
  have H1 := Lib.hid (fun W => order_any f W hf)
  have H2 := Lib.hid (fun W => order_any g W hg)
  clear hf hg
  have HC := Lib.hid (fun W => cmp_uint64 (ordF f : Nat) (ordF g : Nat) W)
  go_enter Tryd.func105, Tryd.ntmps105
  go_wp2_with (go_at_call 89; refine (H1.out _).mono ?_)
  rintro e w' ⟨rfl, rfl⟩
  clear H1
  go_wp2_with (go_at_call 89; refine (H2.out _).mono ?_)
  rintro e w' ⟨rfl, rfl⟩
  clear H2
  go_wp2_with (go_at_call 107; refine (HC.out _).mono ?_)
  rintro e w' ⟨rfl, rfl⟩
  clear HC
  go_wp2
  go_ret
  exact ⟨by rw [cmpF_nat]; rfl, rfl⟩

theorem ent_cmpString (a b : ByteArray) (w : World) : (callFunc 108 #[.string a, .string b]).run Tryd.prog w = .ok (.value (.int .i64 (cmpS a b))) w := by
  rw [run_callFunc_extern (e := Extern.BytealgCompare.compare) Tryd.func108 (by kernel_rfl) (by kernel_rfl) (by kernel_rfl) (by kernel_rfl), Lib.run_compareString]
  rfl
theorem strCompare_any (a b : ByteArray) (w : World) : Calls Tryd.prog 104 #[.string a, .string b] w fun e w' => e = .returned (.int .i64 (cmpS a b)) ∧ w = w' := by
  have q := ent_cmpString
  have H : ∀ W, Calls Tryd.prog 106 #[.string a, .string b] W fun e w' => e = .returned (.int .i64 (cmpS a b)) ∧ W = w' := by
    intro W
    go_enter Tryd.func106, Tryd.ntmps106
    go_wp2
    go_ret
    exact ⟨rfl, rfl⟩
  have HC := Lib.hid H
  clear H
  go_enter Tryd.func104, Tryd.ntmps104
  go_wp2_with (go_at_call 106; refine (HC.out _).mono ?_)
  rintro e w' ⟨rfl, rfl⟩
  go_wp2
  go_ret
  exact ⟨rfl, rfl⟩
end Go.Proofs.YtiekahnpnaldjaaDoor
