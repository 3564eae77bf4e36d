/-
  Values: the contracts of the references' comparisons.
-/
import Derived.Test.YtiekahnpnaldjaaDoorVal1
import Derived.Laws.BitsAllLaws
import Derived.Laws.Bits64b
import Derived.Laws.Bits64
namespace Go.Proofs.YtiekahnpnaldjaaDoor
open Go.RowKit

theorem ent_f64bits (n : Nat) (w : World) : (callFunc 94 #[.float .f64 n]).run Tryd.prog w = .ok (.value (.int .u64 n)) w := by
  rw [run_callFunc_extern (e := Extern.MathFloatBits.float64bits) Tryd.func94 (by kernel_rfl) (by kernel_rfl) (by kernel_rfl) (by kernel_rfl)]
  rfl

/-! ### Bits -/
theorem or_top (f : Nat) (h : f < 9223372036854775808) : bits .or .u64 (f : Int) 9223372036854775808 = ((f + 9223372036854775808 : Nat) : Int) := by
  have h1 := bits_or_u64_nat f 9223372036854775808 (by omega) (by omega)
  have h2 : f ||| 9223372036854775808 = f + 9223372036854775808 := by
    have := Nat.two_pow_add_eq_or_of_lt (i := 63) (b := f) (by omega) 1
    rw [Nat.or_comm, show (9223372036854775808 : Nat) = 2 ^ 63 * 1 from rfl, ← this]; omega
  rw [h2] at h1; exact h1
theorem xor_ones (f : Nat) (h : f < 18446744073709551616) : bits .xor .u64 IntKind.u64.max (f : Int) = ((18446744073709551615 - f : Nat) : Int) := by
  have h1 := bits_xor_u64_nat 18446744073709551615 f (by omega) h
  have h2 : 18446744073709551615 ^^^ f = 18446744073709551615 - f := by
    have e := BitVec.toNat_not (x := BitVec.ofNat 64 f)
    rw [← BitVec.allOnes_xor, BitVec.toNat_xor, BitVec.toNat_allOnes, BitVec.toNat_ofNat, Nat.mod_eq_of_lt h] at e
    exact e
  rw [h2] at h1; exact h1
theorem and_top (f : Nat) (h : f < 18446744073709551616) : bits .and .u64 (f : Int) 9223372036854775808 = if f < 9223372036854775808 then 0 else 9223372036854775808 := by
  have h1 := bits_and_u64_nat f 9223372036854775808 h (by omega)
  have h2 : f &&& 9223372036854775808 = f / 9223372036854775808 % 2 * 9223372036854775808 := nat_bit 63 f
  rw [h2] at h1
  split
  · have : f / 9223372036854775808 % 2 = 0 := by omega
    rw [this] at h1; exact h1
  · have : f / 9223372036854775808 % 2 = 1 := by omega
    rw [this] at h1; exact h1

/-! ### Floats' places -/
theorem order1_any (f : Nat) (w : World) (hf : f < 18446744073709551616) : Calls Tryd.prog 69 #[.float .f64 f] w fun e w' => e = .returned (.int .u64 (ordF f : Nat)) ∧ w = w' := by
  have h1 := ent_f64bits
  by_cases h : f < 9223372036854775808
  · have t : ((f : Int) / 9223372036854775808 == 0) = true := by rw [beq_iff_eq]; omega
    have H := Lib.hid (or_top f h)
    have H2 := Lib.hid h
    clear h
    go_enter Tryd.func69, Tryd.ntmps69
    go_wp2
    go_ret
    refine ⟨?_, rfl⟩
    show Ending.returned (.int .u64 (bits .or .u64 (f : Int) 9223372036854775808)) = _
    rw [H.out, ordF, if_pos H2.out]
  · have t : ((f : Int) / 9223372036854775808 == 0) = false := by rw [beq_eq_false_iff_ne]; omega
    have H := Lib.hid (xor_ones f hf)
    have H2 := Lib.hid h
    clear h
    go_enter Tryd.func69, Tryd.ntmps69
    go_wp2
    go_ret
    refine ⟨?_, rfl⟩
    show Ending.returned (.int .u64 (bits .xor .u64 IntKind.u64.max (f : Int))) = _
    rw [H.out, ordF, if_neg H2.out]

theorem order_any (f : Nat) (w : World) (hf : f < 18446744073709551616) : Calls Tryd.prog 89 #[.float .f64 f] w fun e w' => e = .returned (.int .u64 (ordF f : Nat)) ∧ w = w' := by
  have h1 := ent_f64bits
  have ha := and_top f hf
  by_cases h : f < 9223372036854775808
  · rw [if_pos h] at ha
    have t : (bits .and .u64 (f : Int) 9223372036854775808 != 0) = false := by rw [ha]; rfl
    have H := Lib.hid (or_top f h)
    have H2 := Lib.hid h
    clear h ha
    go_enter Tryd.func89, Tryd.ntmps89
    go_wp2
    go_ret
    refine ⟨?_, rfl⟩
    show Ending.returned (.int .u64 (bits .or .u64 (f : Int) 9223372036854775808)) = _
    rw [H.out, ordF, if_pos H2.out]
  · rw [if_neg h] at ha
    have t : (bits .and .u64 (f : Int) 9223372036854775808 != 0) = true := by rw [ha]; rfl
    have H := Lib.hid (xor_ones f hf)
    have H2 := Lib.hid h
    clear h ha
    go_enter Tryd.func89, Tryd.ntmps89
    go_wp2
    go_ret
    refine ⟨?_, rfl⟩
    show Ending.returned (.int .u64 (bits .xor .u64 IntKind.u64.max (f : Int))) = _
    rw [H.out, ordF, if_neg H2.out]

theorem compare1_any (a b : Nat) (w : World) (ha : a < 18446744073709551616) (hb : b < 18446744073709551616) :
    Calls Tryd.prog 99 #[.float .f64 a, .float .f64 b] w fun e w' => e = .returned (.int .i64 (cmpF a b)) ∧ w = w' := by
  unfold cmpF cmpI
  have H1 := Lib.hid (order1_any a w ha)
  have H2 := Lib.hid (order1_any b w hb)
  clear ha hb
  generalize ordF a = x at *
  generalize ordF b = y at *
  by_cases h1 : (x : Int) < y
  · rw [if_pos h1]
    go_enter Tryd.func99, Tryd.ntmps99
    go_wp2_with fail
    refine H1.out.mono ?_; rintro e w' ⟨rfl, rfl⟩
    go_wp2_with fail
    refine H2.out.mono ?_; rintro e w' ⟨rfl, rfl⟩
    go_wp2
    go_ret
    exact ⟨rfl, rfl⟩
  · rw [if_neg h1]
    by_cases h2 : (y : Int) < x
    · rw [if_pos h2]
      go_enter Tryd.func99, Tryd.ntmps99
      go_wp2_with fail
      refine H1.out.mono ?_; rintro e w' ⟨rfl, rfl⟩
      go_wp2_with fail
      refine H2.out.mono ?_; rintro e w' ⟨rfl, rfl⟩
      go_wp2
      go_ret
      exact ⟨rfl, rfl⟩
    · rw [if_neg h2]
      go_enter Tryd.func99, Tryd.ntmps99
      go_wp2_with fail
      refine H1.out.mono ?_; rintro e w' ⟨rfl, rfl⟩
      go_wp2_with fail
      refine H2.out.mono ?_; rintro e w' ⟨rfl, rfl⟩
      go_wp2
      go_ret
      exact ⟨rfl, rfl⟩

theorem sign_any (b : Bool) (w : World) : Calls Tryd.prog 80 #[.bool b] w fun e w' => e = .returned (.int .i64 (if b then -1 else 1)) ∧ w = w' := by
  cases b
  · go_enter Tryd.func80, Tryd.ntmps80
    go_wp2
    go_ret
    exact ⟨rfl, rfl⟩
  · go_enter Tryd.func80, Tryd.ntmps80
    go_wp2
    go_ret
    exact ⟨rfl, rfl⟩

/-! ### Strings -/
theorem str_eq (a b : ByteArray) : (a.toList == b.toList) = decide (cmpS a b = 0) := by
  rw [ByteArray.toList_eq, ByteArray.toList_eq, Bool.eq_iff_iff]
  simp only [beq_iff_eq, decide_eq_true_eq]
  exact ⟨fun h => by unfold cmpS; rw [h]; exact bytes_refl _, fun h => bytes_eq _ _ h⟩
theorem bytesLess_eq : ∀ x y, Op.bytesLess x y = decide (Lib.compareBytes x y = -1)
  | [], [] => by simp [Op.bytesLess, Lib.compareBytes]
  | [], _ :: _ => by simp [Op.bytesLess, Lib.compareBytes]
  | _ :: _, [] => by simp [Op.bytesLess, Lib.compareBytes]
  | a :: x, b :: y => by
    have ih := bytesLess_eq x y
    unfold Op.bytesLess Lib.compareBytes
    by_cases h1 : a < b
    · simp [h1]
    · by_cases h2 : b < a
      · have h3 : (a == b) = false := by rw [beq_eq_false_iff_ne]; rintro rfl; exact UInt8.lt_irrefl _ h2
        simp [h1, h2, h3]
      · have h3 : a = b := UInt8.le_antisymm (UInt8.not_lt.1 h2) (UInt8.not_lt.1 h1)
        subst h3
        simp [UInt8.lt_irrefl, ih]
theorem str_lt (a b : ByteArray) : Op.bytesLess a.toList b.toList = decide (cmpS a b = -1) := by
  rw [ByteArray.toList_eq, ByteArray.toList_eq]; exact bytesLess_eq _ _

set_option maxRecDepth 100000 in
set_option maxHeartbeats 1000000 in
/-- The reference's comparison of two values. -/
theorem refCompare_any (a b : V) (w : World) (ha : a.f < 18446744073709551616) (hb : b.f < 18446744073709551616) :
    Calls Tryd.prog 74 #[a.val, b.val] w fun e w' => e = .returned (.int .i64 (cmpV a b)) ∧ Ch [] w w' := by
  obtain ⟨ak, ai, as', af⟩ := a
  obtain ⟨bk, bi, bs, bf⟩ := b
  have H1 := Lib.hid (fun w => compare1_any af bf w ha hb)
  have hse := str_eq as' bs
  have hsl := str_lt as' bs
  simp only [V.val, cmpV_lex]
  clear ha hb
  have fin : ∀ r : Int, (Ch [] w ((w.alloc (.cells #[.int .i64 ak, .int .i64 ai, .string as', .float .f64 af] 38)).alloc (.cells #[.int .i64 bk, .int .i64 bi, .string bs, .float .f64 bf] 38))) := fun _ => ((Ch.refl _ _).alloc _).alloc _
  by_cases hk : ak = bk
  · subst hk
    by_cases hi : ai = bi
    · subst hi
      by_cases hs : cmpS as' bs = 0
      · have t : (as'.toList == bs.toList) = true := by rw [hse]; simp [hs]
        have e : lexI (cmpI ak ak) (lexI (cmpI ai ai) (lexI (cmpS as' bs) (cmpF af bf))) = cmpF af bf := by simp [lexI, ordr_I.refl, hs]
        rw [e]
        clear e hs hse hsl
        go_enter Tryd.func74, Tryd.ntmps74
        go_wp2_with (go_at_call 99; refine (H1.out _).mono ?_; rintro e w' ⟨rfl, rfl⟩)
        all_goals (go_ret; exact ⟨rfl, fin 0⟩)
      · have t : (as'.toList == bs.toList) = false := by rw [hse]; simp [hs]
        have e : lexI (cmpI ak ak) (lexI (cmpI ai ai) (lexI (cmpS as' bs) (cmpF af bf))) = if Op.bytesLess as'.toList bs.toList then -1 else 1 := by
          rw [hsl]
          have := ordr_S.three as' bs
          simp [lexI, ordr_I.refl, hs]
          split <;> omega
        rw [e]
        clear e hs hse hsl
        go_enter Tryd.func74, Tryd.ntmps74
        go_wp2_with (go_at_call 80; refine (sign_any _ _).mono ?_; rintro e w' ⟨rfl, rfl⟩)
        all_goals (go_ret; exact ⟨rfl, fin 0⟩)
    · have t : (ai != bi) = true := by simpa using hi
      by_cases h : ai < bi
      · have e : lexI (cmpI ak ak) (lexI (cmpI ai bi) (lexI (cmpS as' bs) (cmpF af bf))) = -1 := by simp [lexI, cmpI, h]
        rw [e]
        clear e hse hsl
        go_enter Tryd.func74, Tryd.ntmps74
        go_wp2_with (go_at_call 80; refine (sign_any _ _).mono ?_; rintro e w' ⟨rfl, rfl⟩)
        go_ret
        exact ⟨rfl, fin 0⟩
      · have h' : bi < ai := by omega
        have e : lexI (cmpI ak ak) (lexI (cmpI ai bi) (lexI (cmpS as' bs) (cmpF af bf))) = 1 := by simp [lexI, cmpI, h, h']
        rw [e]
        clear e hse hsl
        go_enter Tryd.func74, Tryd.ntmps74
        go_wp2_with (go_at_call 80; refine (sign_any _ _).mono ?_; rintro e w' ⟨rfl, rfl⟩)
        go_ret
        exact ⟨rfl, fin 0⟩
  · have t : (ak != bk) = true := by simpa using hk
    by_cases h : ak < bk
    · have e : lexI (cmpI ak bk) (lexI (cmpI ai bi) (lexI (cmpS as' bs) (cmpF af bf))) = -1 := by simp [lexI, cmpI, h]
      rw [e]
      clear e hse hsl
      go_enter Tryd.func74, Tryd.ntmps74
      go_wp2_with (go_at_call 80; refine (sign_any _ _).mono ?_; rintro e w' ⟨rfl, rfl⟩)
      go_ret
      exact ⟨rfl, fin 0⟩
    · have h' : bk < ak := by omega
      have e : lexI (cmpI ak bk) (lexI (cmpI ai bi) (lexI (cmpS as' bs) (cmpF af bf))) = 1 := by simp [lexI, cmpI, h, h']
      rw [e]
      clear e hse hsl
      go_enter Tryd.func74, Tryd.ntmps74
      go_wp2_with (go_at_call 80; refine (sign_any _ _).mono ?_; rintro e w' ⟨rfl, rfl⟩)
      go_ret
      exact ⟨rfl, fin 0⟩
end Go.Proofs.YtiekahnpnaldjaaDoor
