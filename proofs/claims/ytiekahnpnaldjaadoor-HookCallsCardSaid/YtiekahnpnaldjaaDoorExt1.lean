/-
  The references' user code as data: small letters; the float at a place.
-/
import Derived.Test.YtiekahnpnaldjaaDoorVal4
import Derived.Lib.ConvBytes
import Derived.Laws.IdiomStrings
import Derived.IntWalk
namespace Go.Proofs.YtiekahnpnaldjaaDoor
open Go.RowKit

theorem ent_f64from (n : Int) (w : World) : (callFunc 93 #[.int .u64 n]).run Tryd.prog w = ((Extern.MathFloatBits.float64frombits #[.int .u64 n]).run Tryd.prog w).andThen fun v w' => .ok (.value v) w' := by
  rw [run_callFunc_extern (e := Extern.MathFloatBits.float64frombits) Tryd.func93 (by kernel_rfl) (by kernel_rfl) (by kernel_rfl) (by kernel_rfl)]
theorem ent_f64from_nat (n : Nat) (w : World) : (callFunc 93 #[.int .u64 (n : Int)]).run Tryd.prog w = .ok (.value (.float .f64 n)) w := by
  rw [ent_f64from]
  rfl

/-- The float at a place. -/
def ofF (n : Nat) : Nat := if 9223372036854775808 ≤ n then n - 9223372036854775808 else 18446744073709551615 - n
theorem ofF_lt (n : Nat) (h : n < 18446744073709551616) : ofF n < 18446744073709551616 := by unfold ofF; split <;> omega

theorem xor_top (f : Nat) (h1 : 9223372036854775808 ≤ f) (h2 : f < 18446744073709551616) : bits .xor .u64 (f : Int) 9223372036854775808 = ((f - 9223372036854775808 : Nat) : Int) := by
  have h3 := bits_xor_u64_nat f 9223372036854775808 h2 (by omega)
  have h4 : f ^^^ 9223372036854775808 = f - 9223372036854775808 := by
    obtain ⟨g, rfl⟩ : ∃ g, f = g + 9223372036854775808 := ⟨f - 9223372036854775808, by omega⟩
    have hg : g < 9223372036854775808 := by omega
    have e1 : g + 9223372036854775808 = g ^^^ 9223372036854775808 := by
      have := Nat.two_pow_add_eq_or_of_lt (i := 63) (b := g) (by omega) 1
      apply Nat.eq_of_testBit_eq
      intro i
      rw [show g + 9223372036854775808 = 2 ^ 63 * 1 ||| g by rw [← this]; omega]
      by_cases hi : i = 63
      · subst hi
        have : g.testBit 63 = false := Nat.testBit_lt_two_pow (by omega)
        simp [Nat.testBit_or, Nat.testBit_xor, this]
      · have ht : (9223372036854775808 : Nat).testBit i = false := by
          rw [show (9223372036854775808 : Nat) = 2 ^ 63 from rfl, Nat.testBit_two_pow_of_ne (Ne.symm hi)]
        rw [show 2 ^ 63 * 1 = (9223372036854775808 : Nat) from rfl]
        simp [Nat.testBit_or, Nat.testBit_xor, ht]
    rw [e1, Nat.xor_assoc, Nat.xor_self, Nat.xor_zero]
    omega
  rw [h4] at h3; exact h3

set_option maxRecDepth 100000 in
theorem of1_any (n : Nat) (w : World) (hn : n < 18446744073709551616) : Calls Tryd.prog 68 #[.int .u64 (n : Int)] w fun e w' => e = .returned (.float .f64 (ofF n)) ∧ w = w' := by
  by_cases h : 9223372036854775808 ≤ n
  · have q := fun w => ent_f64from_nat (n - 9223372036854775808) w
    have t : ((n : Int) / 9223372036854775808 == 1) = true := by rw [beq_iff_eq]; omega
    have hx := xor_top n h hn
    have e : ofF n = n - 9223372036854775808 := if_pos h
    rw [e]
    clear h e
    go_enter Tryd.func68, Tryd.ntmps68
    go_wp2
    go_ret
    exact ⟨rfl, rfl⟩
  · have q := fun w => ent_f64from_nat (18446744073709551615 - n) w
    have t : ((n : Int) / 9223372036854775808 == 1) = false := by rw [beq_eq_false_iff_ne]; omega
    have hx := xor_ones n hn
    have e : ofF n = 18446744073709551615 - n := if_neg h
    rw [e]
    clear h e
    go_enter Tryd.func68, Tryd.ntmps68
    go_wp2
    go_ret
    exact ⟨rfl, rfl⟩

/-! ### Small letters -/
def lowB (b : UInt8) : UInt8 := if 65 ≤ b ∧ b ≤ 90 then b + 32 else b
def lowS (s : ByteArray) : ByteArray := ⟨(s.data.toList.map lowB).toArray⟩
theorem lowS_size (s : ByteArray) : (lowS s).size = s.size := by
  show (List.toArray _).size = s.data.size
  simp
/-- The row after m rounds. -/
def LowAt (w wr : World) (s : ByteArray) (m : Nat) : Prop :=
  Ch [] w wr ∧ ∃ cs N, wr.heap[w.heap.size]? = some (.cells cs 5 (N, N + 1)) ∧ s.size ≤ N ∧ ∀ j, j < s.size → cs[j]? = some (.int .u8 (((if j < m then lowB (s.data.toList.getD j 0) else s.data.toList.getD j 0).toNat : Nat) : Int))

theorem lowB_nat (b : UInt8) : (lowB b).toNat = if 65 ≤ b.toNat ∧ b.toNat ≤ 90 then b.toNat + 32 else b.toNat := by
  unfold lowB
  have e : (65 ≤ b ∧ b ≤ 90) ↔ (65 ≤ b.toNat ∧ b.toNat ≤ 90) := by
    rw [UInt8.le_iff_toNat_le, UInt8.le_iff_toNat_le]; rfl
  by_cases h : 65 ≤ b ∧ b ≤ 90
  · rw [if_pos h, if_pos (e.1 h), UInt8.toNat_add]
    have := (e.1 h).2
    show (b.toNat + 32) % 256 = _
    omega
  · rw [if_neg h, if_neg (fun hh => h (e.2 hh))]
theorem bytesWorld_ch (w : World) (t : TypeId) (s : ByteArray) : Ch [] w (Lib.bytesWorld w t s) := by
  exact ⟨rfl, rfl, rfl, by rw [Lib.bytesWorld_size]; omega, fun k hk _ => Lib.bytesWorld_at_old w t s k hk⟩

/-- A letter more is looked at. -/
theorem LowAt.step {w wr w' : World} {s : ByteArray} {m N : Nat} {cs cs' : Array Value} (hch : Ch [] w wr) (hN : s.size ≤ N) (hcs : ∀ j, j < s.size → cs[j]? = some (.int .u8 (((if j < m then lowB (s.data.toList.getD j 0) else s.data.toList.getD j 0).toNat : Nat) : Int)))
    (hw : Ch [w.heap.size] wr w') (hb : w'.heap[w.heap.size]? = some (.cells cs' 5 (N, N + 1))) (hne : ∀ j, j ≠ m → cs'[j]? = cs[j]?) (hm : cs'[m]? = some (.int .u8 ((lowB (s.data.toList.getD m 0)).toNat : Int))) : LowAt w w' s (m + 1) := by
  refine ⟨hch.trans' hw (by simp), cs', N, hb, hN, fun j hj => ?_⟩
  by_cases e : j = m
  · subst e; rw [hm, if_pos (by omega)]
  · rw [hne j e, hcs j hj]
    by_cases h : j < m
    · rw [if_pos h, if_pos (by omega)]
    · rw [if_neg h, if_neg (by omega)]

set_option maxRecDepth 100000 in
set_option maxHeartbeats 1000000 in
theorem lower_any (s : ByteArray) (w : World) (hs : s.size ≤ 9223372036854775807) :
    Calls Tryd.prog 67 #[.string s] w fun e w' => e = .returned (.string (lowS s)) ∧ Ch [] w w' := by
  have q1 := fun w => Lib.run_convert_string_bytes (P := Tryd.prog) w 9 71 5 s Tryd.underlying9 Tryd.underlying71 Tryd.underlying5
  have hsz : s.data.size = s.size := rfl
  go_enter Tryd.func67, Tryd.ntmps67
  go_wp2_with fail
  go_loopg [4] s.size (fun k i wr => ∃ m : Nat, k + m = s.size ∧ i = .int .i64 m ∧ LowAt w wr s m)
  case atStart =>
    refine ⟨0, rfl, rfl, bytesWorld_ch w _ s, _, _, Lib.bytesWorld_at_new w _ s, ?_, fun j hj => ?_⟩
    · simp [Lib.bytesCells]
    · have h1 := Lib.bytesWorld_cell w 5 s j hj
      rw [cell_of (Lib.bytesWorld_at_new w 5 s)] at h1
      rw [h1, if_neg (by omega)]
  case round =>
    obtain ⟨m, hkm, rfl, hch, cs, N, hb, hN, hcs⟩ := hrel
    by_cases hlt : m < s.size
    · have hc := hcs m hlt
      rw [if_neg (by omega)] at hc
      have hcell : wr.cell? ⟨w.heap.size, m, none⟩ = some (.int .u8 ((s.data.toList.getD m 0).toNat : Int)) := (cell_of hb).trans hc
      have hfz : wr.frozen? ⟨w.heap.size, m, none⟩ = false := by simp [World.frozen?, hb]; omega
      have hb256 : (s.data.toList.getD m 0).toNat < 256 := UInt8.toNat_lt _
      have hlow := lowB_nat (s.data.toList.getD m 0)
      have hbS := fun v => heap_setCell_same (i := m) (u := v) hb
      have HS := Lib.hid (And.intro hch (And.intro hN (And.intro hcs (And.intro hkm (And.intro hbS (And.intro hb hlow))))))
      clear hch hN hcs hkm hbS hc hlow hb
      generalize hn : (s.data.toList.getD m 0).toNat = n at *
      have HN := Lib.hid hn
      clear hn
      have j0 : (m : Int) < (s.size : Int) := by omega
      by_cases h1 : 65 ≤ n ∧ n ≤ 90
      · have i1 : (65 : Int) ≤ (n : Int) := by omega
        have i2 : (n : Int) ≤ 90 := by omega
        have H1 := Lib.hid h1
        clear h1
        go_wp2
        go_roundg (gk - 1)
        case measure => have := HS.out.2.2.2.1; omega
        case rel =>
          refine ⟨m + 1, by have := HS.out.2.2.2.1; omega, by go_num, LowAt.step HS.out.1 HS.out.2.1 HS.out.2.2.1 ((Ch.refl _ wr).setCell (by simp) _) (HS.out.2.2.2.2.1 _) (fun j hj => ?_) ?_⟩
          · simp [Array.getElem?_setIfInBounds, Ne.symm hj]
          · have hlt' := (Array.getElem?_eq_some_iff.1 (HS.out.2.2.1 m hlt)).1
            have hl := HS.out.2.2.2.2.2.2
            rw [if_pos H1.out] at hl
            rw [Array.getElem?_setIfInBounds, if_pos rfl, if_pos hlt', hl]
            simp
      · have H1 := Lib.hid h1
        by_cases h2 : 65 ≤ n
        · have i1 : (65 : Int) ≤ (n : Int) := by omega
          have i2 : (90 : Int) < (n : Int) := by omega
          clear h1
          go_wp2
          go_roundg (gk - 1)
          case measure => have := HS.out.2.2.2.1; omega
          case rel =>
            have hl := HS.out.2.2.2.2.2.2
            rw [if_neg H1.out] at hl
            refine ⟨m + 1, by have := HS.out.2.2.2.1; omega, by go_num, LowAt.step HS.out.1 HS.out.2.1 HS.out.2.2.1 (Ch.refl _ wr) HS.out.2.2.2.2.2.1 (fun j hj => rfl) ?_⟩
            rw [HS.out.2.2.1 m hlt, if_neg (by omega), hl, HN.out]
        · have i1 : (n : Int) < 65 := by omega
          clear h1
          go_wp2
          go_roundg (gk - 1)
          case measure => have := HS.out.2.2.2.1; omega
          case rel =>
            have hl := HS.out.2.2.2.2.2.2
            rw [if_neg H1.out] at hl
            refine ⟨m + 1, by have := HS.out.2.2.2.1; omega, by go_num, LowAt.step HS.out.1 HS.out.2.1 HS.out.2.2.1 (Ch.refl _ wr) HS.out.2.2.2.2.2.1 (fun j hj => rfl) ?_⟩
            rw [HS.out.2.2.1 m hlt, if_neg (by omega), hl, HN.out]
    · obtain rfl : m = s.size := by omega
      have hll : (s.data.toList.map lowB).length = s.size := by simp
      have q2 := run_convert_bytes_back (P := Tryd.prog) wr 71 9 5 ⟨w.heap.size, 0, none⟩ (grownCap w s.size 0 5) (s.data.toList.map lowB) Tryd.underlying71 Tryd.underlying5 Tryd.underlying9 (fun j hj => by
        have hj' : j < s.size := by rw [hll] at hj; exact hj
        rw [Addr.add_lit, Nat.zero_add, cell_of hb, hcs j hj', if_pos hj', List.getElem_map]
        have : j < s.data.toList.length := by simpa using hj'
        simp [List.getD, List.getElem?_eq_getElem this])
      rw [hll] at q2
      have HC := Lib.hid hch
      clear hch hcs hb hkm hN hll hlt
      go_wp2
      go_ret
      exact ⟨rfl, HC.out⟩
end Go.Proofs.YtiekahnpnaldjaaDoor
