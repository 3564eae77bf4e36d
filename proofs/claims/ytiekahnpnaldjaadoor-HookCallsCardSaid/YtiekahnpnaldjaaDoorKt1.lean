/-
  key.part and key.Of under a meter.
-/
import Derived.Test.YtiekahnpnaldjaaDoorStr1
import Derived.OpenShut
namespace Go.Proofs.YtiekahnpnaldjaaDoor
open Go.RowKit

theorem looked_int (l : List V) : -9223372036854775808 ≤ (looked l).sum ∧ (looked l).sum ≤ 9223372036854775807 := by
  unfold looked
  suffices h : ∀ (l : List V) (s : ES), (-9223372036854775808 ≤ s.sum ∧ s.sum ≤ 9223372036854775807) → (-9223372036854775808 ≤ (l.foldl ES.step s).sum ∧ (l.foldl ES.step s).sum ≤ 9223372036854775807) from h l ES.zero (by simp [ES.zero])
  intro l
  induction l with
  | nil => intro s h; exact h
  | cons v l ih =>
    intro s h
    refine ih _ ?_
    unfold ES.step
    simp only
    split
    · unfold wrap64; omega
    · exact h
theorem extV_ok (n : Int) (l : List V) (ol : OkL l) : (extV n l).Ok := by
  obtain ⟨h1, h2⟩ := looked_ok l ol
  obtain ⟨h3, h4⟩ := looked_int l
  unfold extV
  split
  · exact ⟨by simp, by simp, h3, h4, by simp, Nat.zero_le _⟩
  split
  · exact ⟨by simp, by simp, by simp, by simp, by simp, by rw [lowS_size]; exact h1⟩
  split
  · split
    · exact ⟨by simp, by simp, by simp, by simp, ofF_lt _ (by have := ordF_lt _ h2; omega), Nat.zero_le _⟩
    · exact ⟨by simp, by simp, by simp, by simp, by simp, Nat.zero_le _⟩
  split
  · obtain ⟨b1, b2⟩ := bounds_i64 (Go.wf_bits .xor .i64 l.length (looked l).bit)
    exact ⟨by simp, by simp, b1, b2, by simp, Nat.zero_le _⟩
  · cases l with
    | nil => exact ⟨by simp [lowOf, V.zero], by simp [lowOf, V.zero], by simp [lowOf, V.zero], by simp [lowOf, V.zero], by simp [lowOf, V.zero], Nat.zero_le _⟩
    | cons v l => exact ol v (by simp)

/-- One part: how many calls there were, what went wrong. -/
def kstep (l : List V) (a : Int) (s : Int × Int) (p : Int × Int) : Int × Int :=
  if s.2 ≠ 0 then s
  else if 0 ≤ p.1 ∧ p.1 < l.length then s
  else if p.1 = -1 ∧ 0 ≤ p.2 ∧ p.2 < 5 then (s.1 + 1, if s.1 + 1 = a ∨ isV (extV p.2 l) = false then 50 else 0)
  else (s.1, 60)
def kscan (l : List V) (a : Int) (ps : List (Int × Int)) : Int × Int := ps.foldl (kstep l a) (0, 0)
def kval (l : List V) (p : Int × Int) : V := if 0 ≤ p.1 then l.getD p.1.toNat V.zero else extV p.2 l
theorem kscan_take {l : List V} {a : Int} {ps : List (Int × Int)} {m : Nat} {p : Int × Int} (h : ps[m]? = some p) : kscan l a (ps.take (m + 1)) = kstep l a (kscan l a (ps.take m)) p := by
  unfold kscan
  rw [List.take_add_one, h, List.foldl_append]
  rfl
theorem kscan_stuck {l : List V} {a : Int} {ps : List (Int × Int)} {m : Nat} (h : (kscan l a (ps.take m)).2 ≠ 0) : kscan l a ps = kscan l a (ps.take m) := by
  have e : ps = ps.take m ++ ps.drop m := (List.take_append_drop m ps).symm
  unfold kscan at *
  rw [show ps.foldl (kstep l a) (0, 0) = (ps.take m ++ ps.drop m).foldl (kstep l a) (0, 0) by rw [List.take_append_drop], List.foldl_append]
  generalize (ps.take m).foldl (kstep l a) (0, 0) = s at *
  generalize ps.drop m = r
  clear e
  induction r with
  | nil => rfl
  | cons p r ih =>
    have : kstep l a s p = s := by unfold kstep; rw [if_pos h]
    rw [List.foldl_cons, this]
    exact ih
theorem kscan_bounds (l : List V) (a : Int) : ∀ (ps : List (Int × Int)), 0 ≤ (kscan l a ps).1 ∧ (kscan l a ps).1 ≤ ps.length ∧ ((kscan l a ps).2 = 0 ∨ (kscan l a ps).2 = 50 ∨ (kscan l a ps).2 = 60) := by
  intro ps
  unfold kscan
  suffices h : ∀ (ps : List (Int × Int)) (s : Int × Int), 0 ≤ s.1 → (s.2 = 0 ∨ s.2 = 50 ∨ s.2 = 60) → 0 ≤ (ps.foldl (kstep l a) s).1 ∧ (ps.foldl (kstep l a) s).1 ≤ s.1 + ps.length ∧ ((ps.foldl (kstep l a) s).2 = 0 ∨ (ps.foldl (kstep l a) s).2 = 50 ∨ (ps.foldl (kstep l a) s).2 = 60) by
    have := h ps (0, 0) (by simp) (by simp)
    simpa using this
  intro ps
  induction ps with
  | nil => intro s h0 h1; simpa using ⟨h0, h1⟩
  | cons p ps ih =>
    intro s h0 h1
    have key : 0 ≤ (kstep l a s p).1 ∧ (kstep l a s p).1 ≤ s.1 + 1 ∧ ((kstep l a s p).2 = 0 ∨ (kstep l a s p).2 = 50 ∨ (kstep l a s p).2 = 60) := by
      unfold kstep
      repeat' split
      all_goals (first | exact ⟨h0, by omega, h1⟩ | exact ⟨by show 0 ≤ s.1 + 1; omega, by show s.1 + 1 ≤ s.1 + 1; omega, by simp⟩ | exact ⟨h0, by show s.1 ≤ s.1 + 1; omega, by simp⟩)
    have := ih (kstep l a s p) key.1 key.2.2
    rw [List.foldl_cons]
    refine ⟨this.1, ?_, this.2.2⟩
    simp only [List.length_cons]
    omega

theorem misses_errno_twice (n : Int) : Misses 99 (.iface 31 (.int .i64 n)) := misses_leaf d_errno_twice l_errno _
theorem misses_mark_twice (kb : Nat) : Misses 99 (markVal kb) := misses_leaf d_mark_twice l_mark _
theorem told_mark (kb : Nat) : Told 99 (markVal kb) .nilIface := .err _ _ _ (misses_mark_twice kb)
theorem told_errno (n : Int) : Told 99 (.iface 31 (.int .i64 n)) .nilIface := .err _ _ _ (misses_errno_twice n)

/-- What a part tells under a meter. -/
def PartRes (nm : ByteArray) (mb : Nat) (a hw : Int) (s : Int × Int) (kv v : V) (er : Value) (w' : World) : Prop :=
  (s.2 = 0 ∧ er = .nilIface ∧ v = kv ∧ MeterAt w' mb s.1 a hw 0) ∨ (s.2 = 60 ∧ er = .iface 31 (.int .i64 60) ∧ MeterAt w' mb s.1 a hw 0) ∨
  (s.2 = 50 ∧ ∃ fb e p sk, er = faultVal fb ∧ Faulty w' fb nm e p ∧ MeterAt w' mb s.1 a hw sk)

theorem MeterAt.ch {w w' : World} {mb : Nat} {c a h s : Int} {S : List Nat} (hm : MeterAt w mb c a h s) (hc : Ch S w w') (hn : mb ∉ S) : MeterAt w' mb c a h s := hc.heap hm hn

/-- An extractor under a meter, as hook.Extract calls it. -/
theorem extract_metered (nm : ByteArray) (n : Int) (mb qb nb : Nat) (l : List V) (b off : Nat) (sv : Value) (w : World) (c a hw : Int) (hr : VRow w b off sv l) (ol : OkL l) (hl : l.length ≤ 1000)
    (hq : w.heap[qb]? = some (.cells #[meterPtr mb] 55 (0, 0))) (hn : w.heap[nb]? = some (.cells #[.int .i64 n] 3 (0, 0))) (hm : MeterAt w mb c a hw 0) (c0 : 0 ≤ c) (c1 : c ≤ 999) (a0 : 0 ≤ a) (a1 : a ≤ 9) :
    Calls Tryd.prog 21 #[.string nm, codeFn 90 qb nb, sv] w fun e w' => ∃ v er, e = .returned (.tuple #[.agg (V.arr v), er]) ∧
      (PartRes nm mb a hw (c + 1, if c + 1 = a ∨ isV (extV n l) = false then 50 else 0) (extV n l) v er w') ∧ Ch [mb] w w' := by
  have hmb := lt_of_block hm
  have hnbm : nb ∉ [mb] := by simp; exact ne_of_elem hn hm (by decide)
  have hqbm : qb ∉ [mb] := by simp; exact ne_of_elem hq hm (by decide)
  by_cases hs : c + 1 = a
  · refine (extract_struck nm 90 #[.pointer (some ⟨qb, 0, none⟩), .pointer (some ⟨nb, 0, none⟩)] b off sv l w [mb] (fun kb w' => MeterAt w' mb (c + 1) a hw 1) hr (by omega) (by simpa using hmb) (fun kb x y S h hc hS => h.ch hc (fun hx => by have := (hS _ hx).1; omega)) (fun _ _ => by kernel_rfl) ?_).mono ?_
    · intro sv' W0 W hc hcp
      have hcc := hc.trans hcp.2
      obtain ⟨b2, _, hr2⟩ := VRow.of_own hcp.1
      obtain ⟨a2, c2, rfl, _⟩ := hr2.shape
      refine (code_struck (meterPtr mb) qb nb _ W [mb] (fun kb w' => MeterAt w' mb (c + 1) a hw 1) ⟨_, rfl⟩ ⟨_, _, _, rfl⟩ (hcc.heap hq (by simp)) (by simp; exact Nat.lt_of_lt_of_le hmb hcc.size) ?_ (fun kb x y S h hc hS => h.ch hc (fun hx => by have := (hS _ hx).1; have := hcc.size; omega))).mono ?_
      · intro W' hW'
        refine (tick_any mb c a hw 0 W' ((hm.ch hcc (by simp)).ch hW' (by simp)) c0 (by omega) a0 a1 (by omega) (by omega)).mono ?_
        rintro e w' ⟨hch, ⟨hne, _⟩ | ⟨_, kb, rfl, hkb, _, hmt⟩⟩
        · exact absurd hs hne
        · exact ⟨kb, rfl, hkb, by simpa using hmt, hch⟩
      · rintro e w' ⟨kb, rfl, hkb, hT, hc3⟩
        exact ⟨kb, rfl, hkb, hT, (hcp.2.mono (by simp)).trans hc3⟩
    · rintro e w' ⟨kb, fb, rfl, hF, hM, hc⟩
      exact ⟨V.zero, _, rfl, .inr (.inr ⟨by simp [hs], fb, _, _, 1, rfl, ⟨hF, told_mark kb⟩, hM⟩), hc⟩
  · have hcode : ∀ sv' W0 W, Ch [] w W0 → CopiedOwn W0 W sv' l → Calls Tryd.prog 90 (#[sv'] ++ #[.pointer (some ⟨qb, 0, none⟩), .pointer (some ⟨nb, 0, none⟩)]) W fun e w' => e = .returned (.tuple #[.agg (V.arr (extV n l)), .nilIface]) ∧ MeterAt w' mb (c + 1) a hw 0 ∧ Ch [mb] W0 w' := by
      intro sv' W0 W hc hcp
      have hcc := hc.trans hcp.2
      refine code_go n (meterPtr mb) qb nb l sv' W0 W [mb] (fun w' => MeterAt w' mb (c + 1) a hw 0) ⟨_, rfl⟩ hcp (hcc.heap hq (by simp)) (hcc.heap hn (by simp)) hnbm (by simp; exact Nat.lt_of_lt_of_le hmb hc.size) ?_ (fun x y S h hc2 hS => h.ch hc2 (fun hx => by have := hS _ hx; have := hc.size; omega)) ol (by omega)
      intro W' hW'
      refine (tick_any mb c a hw 0 W' ((hm.ch hcc (by simp)).ch hW' (by simp)) c0 (by omega) a0 a1 (by omega) (by omega)).mono ?_
      rintro e w' ⟨hch, ⟨_, rfl, hmt⟩ | ⟨he, _⟩⟩
      · exact ⟨rfl, hmt, hch⟩
      · exact absurd he hs
    have hLs : Lasts w (fun w' => MeterAt w' mb (c + 1) a hw 0) := fun x y S h hc2 hS => h.ch hc2 (fun hx => by have := hS _ hx; omega)
    cases hi : isV (extV n l) with
    | true =>
      refine (extract_ok nm 90 #[.pointer (some ⟨qb, 0, none⟩), .pointer (some ⟨nb, 0, none⟩)] b off sv l w [mb] (fun w' => MeterAt w' mb (c + 1) a hw 0) (extV n l) hr (by omega) (by simpa using hmb) hLs (fun _ _ => by kernel_rfl) hcode (extV_ok n l ol) hi).mono ?_
      rintro e w' ⟨rfl, hM, hc⟩
      exact ⟨_, _, rfl, .inl ⟨by simp [hs], rfl, rfl, hM⟩, hc⟩
    | false =>
      refine (extract_bad nm 90 #[.pointer (some ⟨qb, 0, none⟩), .pointer (some ⟨nb, 0, none⟩)] b off sv l w [mb] (fun w' => MeterAt w' mb (c + 1) a hw 0) (extV n l) hr (by omega) (by simpa using hmb) hLs (fun _ _ => by kernel_rfl) hcode (extV_ok n l ol) hi).mono ?_
      rintro e w' ⟨fb, rfl, hF, hM, hc⟩
      exact ⟨V.zero, _, rfl, .inr (.inr ⟨by simp, fb, _, _, 0, rfl, ⟨hF, told_errno 10⟩, hM⟩), hc⟩
end Go.Proofs.YtiekahnpnaldjaaDoor
