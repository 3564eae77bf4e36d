/-
  Extract, Compare and Mutate with the statements' user code, under a meter that was just set.
-/
import Derived.Test.YtiekahnpnaldjaaDoorHc3
import Derived.Test.YtiekahnpnaldjaaDoorKc5
namespace Go.Proofs.YtiekahnpnaldjaaDoor
open Go.RowKit

/-- A Fault that bears the meter's mark. -/
def Struck1 (nm : ByteArray) (mb : Nat) (hw : Int) (er : Value) (w' : World) : Prop := ∃ fb kb, er = faultVal fb ∧ FaultAt w' fb nm (markVal kb) .nilIface ∧ MarkAt w' kb 1001 ∧ MeterAt w' mb 1 1 hw 1

theorem extract_met2 (nm : ByteArray) (n : Int) (mb qb nb : Nat) (l : List V) (b off : Nat) (sv : Value) (w : World) (a hw : Int) (hr : VRow w b off sv l) (ol : OkL l) (hl : l.length ≤ 1000)
    (hq : w.heap[qb]? = some (.cells #[meterPtr mb] 55 (0, 0))) (hn : w.heap[nb]? = some (.cells #[.int .i64 n] 3 (0, 0))) (hm : MeterAt w mb 0 a hw 0) (a0 : 0 ≤ a) (a1 : a ≤ 1) :
    Calls Tryd.prog 21 #[.string nm, codeFn 90 qb nb, sv] w fun e w' => Ch [mb] w w' ∧
      ((a = 0 ∧ isV (extV n l) = true ∧ e = .returned (.tuple #[.agg (V.arr (extV n l)), .nilIface]) ∧ MeterAt w' mb 1 a hw 0) ∨
       (a = 0 ∧ isV (extV n l) = false ∧ ∃ fb, e = .returned (.tuple #[.agg (V.arr V.zero), faultVal fb]) ∧ FaultAt w' fb nm (.iface 31 (.int .i64 10)) .nilIface ∧ MeterAt w' mb 1 a hw 0) ∨
       (a = 1 ∧ ∃ er, e = .returned (.tuple #[.agg (V.arr V.zero), er]) ∧ Struck1 nm mb hw er w')) := by
  have hmb := lt_of_block hm
  have hnbm : nb ∉ [mb] := by simp; exact ne_of_elem hn hm (by decide)
  by_cases hs : a = 1
  · subst hs
    refine (extract_struck nm 90 #[.pointer (some ⟨qb, 0, none⟩), .pointer (some ⟨nb, 0, none⟩)] b off sv l w [mb] (fun kb w' => MeterAt w' mb 1 1 hw 1 ∧ MarkAt w' kb 1001) hr (by omega) (by simpa using hmb) (fun kb x y S h hc hS => ⟨h.1.ch hc (fun hx => by have := (hS _ hx).1; omega), hc.heap h.2 (fun hx => (hS _ hx).2 rfl)⟩) (fun _ _ => by kernel_rfl) ?_).mono ?_
    · intro sv' W0 W hc hcp
      have hcc := hc.trans hcp.2
      obtain ⟨b2, _, hr2⟩ := VRow.of_own hcp.1
      obtain ⟨a2, c2, rfl, _⟩ := hr2.shape
      refine (code_struck (meterPtr mb) qb nb _ W [mb] (fun kb w' => MeterAt w' mb 1 1 hw 1 ∧ MarkAt w' kb 1001) ⟨_, rfl⟩ ⟨_, _, _, rfl⟩ (hcc.heap hq (by simp)) (by simp; exact Nat.lt_of_lt_of_le hmb hcc.size) ?_ (fun kb x y S h hc hS => ⟨h.1.ch hc (fun hx => by have := (hS _ hx).1; have := hcc.size; omega), hc.heap h.2 (fun hx => (hS _ hx).2 rfl)⟩)).mono ?_
      · intro W' hW'
        refine (tick_any mb 0 1 hw 0 W' ((hm.ch hcc (by simp)).ch hW' (by simp)) (by omega) (by omega) a0 (by omega) (by omega) (by omega)).mono ?_
        rintro e w' ⟨hch, ⟨hne, _⟩ | ⟨_, kb, rfl, hkb, hmk, hmt⟩⟩
        · exact absurd rfl hne
        · exact ⟨kb, rfl, hkb, ⟨by simpa using hmt, by simpa using hmk⟩, hch⟩
      · rintro e w' ⟨kb, rfl, hkb, hT, hc3⟩
        exact ⟨kb, rfl, hkb, hT, (hcp.2.mono (by simp)).trans hc3⟩
    · rintro e w' ⟨kb, fb, rfl, hF, hM, hc⟩
      exact ⟨hc, .inr (.inr ⟨rfl, _, rfl, fb, kb, rfl, hF, hM.2, hM.1⟩)⟩
  · obtain rfl : a = 0 := by omega
    have hcode : ∀ sv' W0 W, Ch [] w W0 → CopiedOwn W0 W sv' l → Calls Tryd.prog 90 (#[sv'] ++ #[.pointer (some ⟨qb, 0, none⟩), .pointer (some ⟨nb, 0, none⟩)]) W fun e w' => e = .returned (.tuple #[.agg (V.arr (extV n l)), .nilIface]) ∧ MeterAt w' mb 1 0 hw 0 ∧ Ch [mb] W0 w' := by
      intro sv' W0 W hc hcp
      have hcc := hc.trans hcp.2
      refine code_go n (meterPtr mb) qb nb l sv' W0 W [mb] (fun w' => MeterAt w' mb 1 0 hw 0) ⟨_, rfl⟩ hcp (hcc.heap hq (by simp)) (hcc.heap hn (by simp)) hnbm (by simp; exact Nat.lt_of_lt_of_le hmb hc.size) ?_ (fun x y S h hc2 hS => h.ch hc2 (fun hx => by have := hS _ hx; have := hc.size; omega)) ol (by omega)
      intro W' hW'
      refine (tick_any mb 0 0 hw 0 W' ((hm.ch hcc (by simp)).ch hW' (by simp)) (by omega) (by omega) a0 (by omega) (by omega) (by omega)).mono ?_
      rintro e w' ⟨hch, ⟨_, rfl, hmt⟩ | ⟨he, _⟩⟩
      · exact ⟨rfl, by simpa using hmt, hch⟩
      · exact absurd he (by simp)
    have hLs : Lasts w (fun w' => MeterAt w' mb 1 0 hw 0) := fun x y S h hc2 hS => h.ch hc2 (fun hx => by have := hS _ hx; omega)
    cases hi : isV (extV n l) with
    | true =>
      refine (extract_ok nm 90 #[.pointer (some ⟨qb, 0, none⟩), .pointer (some ⟨nb, 0, none⟩)] b off sv l w [mb] (fun w' => MeterAt w' mb 1 0 hw 0) (extV n l) hr (by omega) (by simpa using hmb) hLs (fun _ _ => by kernel_rfl) hcode (extV_ok n l ol) hi).mono ?_
      rintro e w' ⟨rfl, hM, hc⟩
      exact ⟨hc, .inl ⟨rfl, rfl, rfl, hM⟩⟩
    | false =>
      refine (extract_bad nm 90 #[.pointer (some ⟨qb, 0, none⟩), .pointer (some ⟨nb, 0, none⟩)] b off sv l w [mb] (fun w' => MeterAt w' mb 1 0 hw 0) (extV n l) hr (by omega) (by simpa using hmb) hLs (fun _ _ => by kernel_rfl) hcode (extV_ok n l ol) hi).mono ?_
      rintro e w' ⟨fb, rfl, hF, hM, hc⟩
      exact ⟨hc, .inr (.inl ⟨rfl, rfl, fb, rfl, hF, hM⟩)⟩

theorem compare_met2 (nm : ByteArray) (n : Int) (mb qb nb : Nat) (la lb : List V) (ba oa bb ob : Nat) (sa sb : Value) (w : World) (a hw : Int) (hn : 0 ≤ n ∧ n ≤ 2) (ha : VRow w ba oa sa la) (hb : VRow w bb ob sb lb) (oka : OkL la) (okb : OkL lb) (hla : la.length ≤ 1000) (hlb : lb.length ≤ 1000)
    (hsa : sizeV la ≤ 9223372036854775807) (hsb : sizeV lb ≤ 9223372036854775807)
    (hq : w.heap[qb]? = some (.cells #[meterPtr mb] 55 (0, 0))) (hnb : w.heap[nb]? = some (.cells #[.int .i64 n] 3 (0, 0))) (hm : MeterAt w mb 0 a hw 0) (a0 : 0 ≤ a) (a1 : a ≤ 1) :
    Calls Tryd.prog 39 #[.string nm, codeFn 91 qb nb, sa, sb] w fun e w' => Ch [mb] w w' ∧
      ((a = 0 ∧ (∃ x, e = .returned (.tuple #[.int .i64 x, .nilIface]) ∧ -1 ≤ x ∧ x ≤ 1) ∧ MeterAt w' mb 1 a hw 0) ∨
       (a = 1 ∧ ∃ er, e = .returned (.tuple #[.int .i64 0, er]) ∧ Struck1 nm mb hw er w')) := by
  have hmb := lt_of_block hm
  refine (hookCompare_any nm 91 #[.pointer (some ⟨qb, 0, none⟩), .pointer (some ⟨nb, 0, none⟩)] ba oa bb ob sa sb la lb w [mb] (CmpMet mb 0 a hw n la lb) ha hb (by omega) (by omega) (by simpa using hmb) CmpMet.kept CmpMet.er (fun _ _ => by kernel_rfl) ?_).mono ?_
  · intro sva svb W1 W2 W3 h1 h2 h3 h4
    have hA := h1.trans h2.2
    have hB := hA.trans h3
    obtain ⟨b2, hb2, hr2⟩ := VRow.of_own h2.1
    obtain ⟨b3, hb3, hr3⟩ := VRow.of_own h4.1
    have := h1.size
    have := hA.size
    exact cmpCode_any n mb qb nb la lb b2 0 b3 0 sva svb W3 0 a hw hn (hr2.ch0 h3) hr3 oka okb hla hlb hsa hsb (own_cap h2.1) (own_cap h4.1) (by omega) (by omega) (hB.heap hq (by simp)) (hB.heap hnb (by simp)) (hm.ch hB (by simp)) (by omega) (by omega) a0 (by omega)
  · rintro e w' ⟨cv, er, hR, hc, hcase⟩
    refine ⟨hc, ?_⟩
    rcases hR with ⟨h1, rfl, rfl, hm1⟩ | ⟨h1, kb, rfl, hk, hm1⟩
    · rcases hcase with ⟨_, rfl⟩ | ⟨fb, ⟨t, v, hx⟩, _⟩
      · obtain rfl : a = 0 := by omega
        have h3 := cmpC_three n la lb
        exact .inl ⟨rfl, ⟨_, rfl, by rw [cmpI_seven _ h3]; exact h3⟩, by simpa using hm1⟩
      · cases hx
    · rcases hcase with ⟨hx, _⟩ | ⟨fb, _, rfl, _, hF⟩
      · cases hx
      · obtain rfl : a = 1 := by omega
        exact .inr ⟨rfl, _, rfl, fb, kb, rfl, hF, by simpa using hk, by simpa using hm1⟩

theorem mutate_met2 (f : Int) (v : V) (mb qb nb vb : Nat) (l : List V) (b off : Nat) (sv : Value) (w : World) (a hw : Int) (hr : VRow w b off sv l) (hl : l.length ≤ 999) (hf : f ≤ 9223372036854775807)
    (hq : w.heap[qb]? = some (.cells #[meterPtr mb] 55 (0, 0))) (hnb : w.heap[nb]? = some (.cells #[.int .i64 f] 3 (0, 0))) (hvb : w.heap[vb]? = some (.cells (V.arr v) 38 (0, 0))) (hm : MeterAt w mb 0 a hw 0) (a0 : 0 ≤ a) (a1 : a ≤ 1) :
    Calls Tryd.prog 24 #[.func (.func 77) #[] #[.pointer (some ⟨qb, 0, none⟩), .pointer (some ⟨nb, 0, none⟩), .pointer (some ⟨vb, 0, none⟩)], sv] w fun e w' => Ch [mb] w w' ∧
      ((a = 0 ∧ (∃ a' c b', e = .returned (.tuple #[.slice a' (setV l f v).length c, .nilIface]) ∧ VRow w' b' 0 (.slice a' (setV l f v).length c) (setV l f v)) ∧ MeterAt w' mb 1 a hw 0) ∨
       (a = 1 ∧ ∃ er, e = .returned (.tuple #[.slice none 0 0, er]) ∧ Struck1 ⟨#[]⟩ mb hw er w')) := by
  have hmb := lt_of_block hm
  have hl2 := setV_len l f v
  refine (hookMutate_any 77 #[.pointer (some ⟨qb, 0, none⟩), .pointer (some ⟨nb, 0, none⟩), .pointer (some ⟨vb, 0, none⟩)] b off sv l (setV l f v) w [mb] (MutMet mb 0 a hw (setV l f v)) hr (by omega) (by omega) (by simpa using hmb) MutMet.kept MutMet.er (fun _ _ => by kernel_rfl) ?_).mono ?_
  · intro sv' W1 W h1 h2
    have hB := h1.trans h2.2
    obtain ⟨b2, hb2, hr2⟩ := VRow.of_own h2.1
    have := h1.size
    exact setCode_any f v mb qb nb vb l b2 0 sv' W 0 a hw hr2 hl (by omega) hf (hB.heap hq (by simp)) (hB.heap hnb (by simp)) (hB.heap hvb (by simp)) (hm.ch hB (by simp)) (by omega) (by omega) a0 (by omega)
  · rintro e w' ⟨lv, er, hR, hc, hcase⟩
    refine ⟨hc, ?_⟩
    rcases hR with ⟨h1, rfl, _, hm1⟩ | ⟨h1, kb, rfl, hk, hm1⟩
    · rcases hcase with ⟨_, a', c, b', rfl, hrow, _⟩ | ⟨fb, ⟨t, v, hx⟩, _⟩
      · obtain rfl : a = 0 := by omega
        exact .inl ⟨rfl, ⟨a', c, b', rfl, hrow⟩, by simpa using hm1⟩
      · cases hx
    · rcases hcase with ⟨hx, _⟩ | ⟨fb, _, rfl, hF⟩
      · cases hx
      · obtain rfl : a = 1 := by omega
        exact .inr ⟨rfl, _, rfl, fb, kb, rfl, hF, by simpa using hk, by simpa using hm1⟩
theorem told_struck1 (nm : ByteArray) (mb : Nat) (hw : Int) (er : Value) (w : World) (h : Struck1 nm mb hw er w) (hg : Glob w) : Calls Tryd.prog 37 #[er, meterPtr mb, .string nm] w fun e w' => e = .returned (.bool true) ∧ Ch [] w w' := by
  obtain ⟨fb, kb, rfl, hF, hk, hm⟩ := h
  exact told_mark_any fb kb mb 1 hw nm w hm (by omega) (by omega) hF (by simpa using hk) hg
theorem Struck1.ch {nm : ByteArray} {mb : Nat} {hw : Int} {er : Value} {w w' : World} (h : Struck1 nm mb hw er w) (hc : Ch [] w w') : Struck1 nm mb hw er w' := by
  obtain ⟨fb, kb, rfl, hF, hk, hm⟩ := h
  exact ⟨fb, kb, rfl, hc.heap hF (by simp), hc.heap hk (by simp), hm.ch hc (by simp)⟩
theorem Struck1.shape {nm : ByteArray} {mb : Nat} {hw : Int} {er : Value} {w : World} (h : Struck1 nm mb hw er w) : ∃ fb, er = .iface 102 (.pointer (some ⟨fb, 0, none⟩)) := by
  obtain ⟨fb, kb, rfl, _⟩ := h
  exact ⟨fb, rfl⟩
end Go.Proofs.YtiekahnpnaldjaaDoor
