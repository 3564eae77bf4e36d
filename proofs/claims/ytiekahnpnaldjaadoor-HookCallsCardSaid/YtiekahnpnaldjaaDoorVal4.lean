/-
  Rows of values: Few; Copy and slices.Clone; value.Is.
-/
import Derived.Test.YtiekahnpnaldjaaDoorVal3
namespace Go.Proofs.YtiekahnpnaldjaaDoor
open Go.RowKit

theorem flat_len (l : List V) : (flat l).length = l.length * 4 := by
  induction l with
  | nil => rfl
  | cons a l ih => simp [flat, V.cells] at *; omega
theorem flat_get : ∀ (l : List V) (i j : Nat) (v : V), l[i]? = some v → j < 4 → (flat l)[i * 4 + j]? = v.cells[j]?
  | [], i, j, v, h, _ => by simp at h
  | a :: l, 0, j, v, h, hj => by
    simp at h; subst h
    simp only [flat, List.flatMap_cons, Nat.zero_mul, Nat.zero_add]
    rw [List.getElem?_append_left (by simpa [V.cells] using hj)]
  | a :: l, i + 1, j, v, h, hj => by
    have ih := flat_get l i j v (by simpa using h) hj
    simp only [flat, List.flatMap_cons] at ih ⊢
    rw [List.getElem?_append_right (by simp [V.cells]; omega)]
    have : (i + 1) * 4 + j - a.cells.length = i * 4 + j := by simp [V.cells]; omega
    rw [this]; exact ih
theorem VRow.row {w : World} {b off : Nat} {sv : Value} {l : List V} (h : VRow w b off sv l) : ∀ j u, (flat l)[j]? = some u → w.cell? ⟨b, off + j, none⟩ = some u := by
  intro j u hu
  have hj : j < l.length * 4 := by rw [← flat_len]; exact (List.getElem?_eq_some_iff.1 hu).1
  have hi : j / 4 < l.length := by omega
  obtain ⟨v, hv⟩ : ∃ v, l[j / 4]? = some v := ⟨_, List.getElem?_eq_getElem hi⟩
  have h1 := flat_get l (j / 4) (j % 4) v hv (by omega)
  rw [show j / 4 * 4 + j % 4 = j by omega, hu] at h1
  obtain ⟨c0, c1, c2, c3⟩ := h.cells _ v hv
  have hm : j % 4 = 0 ∨ j % 4 = 1 ∨ j % 4 = 2 ∨ j % 4 = 3 := by omega
  rcases hm with hm | hm | hm | hm <;> rw [hm] at h1 <;> simp [V.cells] at h1 <;> subst h1
  · rw [show off + j = off + j / 4 * 4 by omega]; exact c0
  · rw [show off + j = off + j / 4 * 4 + 1 by omega]; exact c1
  · rw [show off + j = off + j / 4 * 4 + 2 by omega]; exact c2
  · rw [show off + j = off + j / 4 * 4 + 3 by omega]; exact c3
/-- Out of a row of cells that the call owns. -/
theorem VRow.of_own {w : World} {base : Nat} {v : Value} {l : List V} (h : w.ownsRow base 38 4 v l.length (flat l)) : ∃ b, base ≤ b ∧ VRow w b 0 v l := by
  rcases h.2 with ⟨rfl, h0⟩ | ⟨g, cap, cur, rfl, hg, hh, _, _, _, ht⟩
  · have : l = [] := List.eq_nil_of_length_eq_zero h0
    subst this
    exact ⟨base, Nat.le_refl _, ⟨none, 0, rfl, by simp⟩, by simp⟩
  · refine ⟨g, hg, ⟨_, cap, rfl, fun _ => rfl⟩, fun i v hv => ?_⟩
    have hi : i < l.length := (List.getElem?_eq_some_iff.1 hv).1
    have key : ∀ j, j < 4 → cur[i * 4 + j]? = v.cells[j]? := by
      intro j hj
      have h1 := flat_get l i j v hv hj
      rw [← h1, ← ht, List.getElem?_take, if_pos (by omega)]
      simp
    refine ⟨?_, ?_, ?_, ?_⟩
    · rw [Nat.zero_add, cell_of hh]; exact key 0 (by omega)
    · rw [Nat.zero_add, cell_of hh]; exact key 1 (by omega)
    · rw [Nat.zero_add, cell_of hh]; exact key 2 (by omega)
    · rw [Nat.zero_add, cell_of hh]; exact key 3 (by omega)

def fewB (l : List V) (many : Nat) : Bool := l.all (fun v => decide (v.s.size ≤ 200)) && decide (l.length ≤ many)

set_option maxRecDepth 100000 in
set_option maxHeartbeats 1000000 in
theorem few_any (l : List V) (b off many : Nat) (sv : Value) (w : World) (h : VRow w b off sv l) (hl : l.length ≤ 9223372036854775807) (okl : OkL l) :
    Calls Tryd.prog 20 #[sv, .int .i64 many] w fun e w' => e = .returned (.bool (fewB l many)) ∧ w = w' := by
  obtain ⟨aa, ca, rfl, hsa⟩ := h.shape
  have HA := Lib.hid (And.intro h.cells (And.intro hsa okl))
  clear h hsa okl
  go_enter Tryd.func20, Tryd.ntmps20
  go_wp2_with fail
  go_loopg [5] l.length (fun k i wr => ∃ m : Nat, k + m = l.length ∧ i = .int .i64 m ∧ (∀ j v, j < m → l[j]? = some v → v.s.size ≤ 200) ∧ wr = w)
  case atStart => exact ⟨0, rfl, rfl, by intro j v hj; omega, rfl⟩
  case round =>
    obtain ⟨m, hkm, rfl, hbig, rfl⟩ := hrel
    by_cases h1 : m < l.length
    · obtain ⟨v, hv⟩ : ∃ v, l[m]? = some v := ⟨_, List.getElem?_eq_getElem h1⟩
      have hra := HA.out.1 m v hv
      have e1 := HA.out.2.1 (by rintro rfl; simp at h1)
      have okv := (HA.out.2.2 v (List.mem_of_getElem? hv)).s
      subst e1
      have p2 := hra.c2
      by_cases hs : v.s.size ≤ 200
      · have HX := Lib.hid (And.intro hkm (And.intro hbig hv))
        clear hkm hbig hv hra
        have i2 : ¬ (200 < (v.s.size : Int)) := by omega
        go_wp2
        go_roundg (gk - 1)
        case measure => have := HX.out.1; omega
        case rel =>
          obtain ⟨hkm, hbig, hv⟩ := HX.out
          refine ⟨m + 1, by omega, by go_num, fun j u hj hu => ?_, rfl⟩
          by_cases hjm : j = m
          · subst hjm; rw [hv] at hu; cases hu; exact hs
          · exact hbig j u (by omega) hu
      · have e : fewB l many = false := by
          unfold fewB
          rw [Bool.and_eq_false_iff]; left
          rw [List.all_eq_false]
          exact ⟨v, List.mem_of_getElem? hv, by simpa using hs⟩
        have E := Lib.hid e
        have i2 : 200 < (v.s.size : Int) := by omega
        clear hkm hbig hv hra e hs
        go_wp2
        go_ret
        exact ⟨by rw [E.out]; rfl, rfl⟩
    · obtain rfl : m = l.length := by omega
      have e : fewB l many = decide (l.length ≤ many) := by
        unfold fewB
        rw [Bool.and_eq_right_iff_imp.2]
        intro _
        rw [List.all_eq_true]
        intro v hv
        obtain ⟨j, hj, hjv⟩ := List.getElem_of_mem hv
        simpa using hbig j v hj (by rw [List.getElem?_eq_getElem hj, hjv])
      have E := Lib.hid e
      clear hkm hbig e
      go_wp2
      go_ret
      exact ⟨by rw [E.out]; simp, rfl⟩

theorem infoV : (Tryd.prog.info? 38).map (fun i => (i.zero, i.size, i.bytes)) = some (some (.agg #[.int .i64 0, .int .i64 0, .string ⟨#[]⟩, .float .f64 0]), 4, 40) := by kernel_rfl
theorem flat_one (l : List V) : ∀ u ∈ flat l, u.oneCell' = true := by
  intro u hu
  simp only [flat, List.mem_flatMap] at hu
  obtain ⟨v, _, hv⟩ := hu
  simp [V.cells] at hv
  rcases hv with rfl | rfl | rfl | rfl <;> rfl

/-- A copy: a row of its own. -/
def Copied (w w' : World) (sv' : Value) (l : List V) : Prop := ∃ b', w.heap.size ≤ b' ∧ VRow w' b' 0 sv' l ∧ Ch [] w w'
/-- A copy, with the row's cells in a block of the call's own. -/
def CopiedOwn (w w' : World) (sv' : Value) (l : List V) : Prop := w'.ownsRow w.heap.size 38 4 sv' l.length (flat l) ∧ Ch [] w w'
theorem CopiedOwn.copied {w w' : World} {sv' : Value} {l : List V} (h : CopiedOwn w w' sv' l) : Copied w w' sv' l := by
  obtain ⟨b, hb, hr⟩ := VRow.of_own h.1
  exact ⟨b, hb, hr, h.2⟩

theorem own_made0 (w : World) : (w.alloc (.cells #[] 38)).ownsRow w.heap.size 38 4 (.slice (some ⟨w.heap.size, 0, none⟩) 0 0) 0 [] :=
  World.ownsRow_made w #[] 0 (Nat.le_refl _) (by decide) rfl
set_option maxRecDepth 100000 in
set_option maxHeartbeats 1000000 in
/-- append(nil, l...) -/
theorem copy_any (l : List V) (b off : Nat) (sv : Value) (w : World) (h : VRow w b off sv l) (hl : l.length * 40 ≤ 140737488355328) :
    Calls Tryd.prog 23 #[sv] w fun e w' => ∃ sv', e = .returned sv' ∧ CopiedOwn w w' sv' l := by
  obtain ⟨i0, hi, hz0, hz1, hz2⟩ := info_parts infoV
  obtain ⟨aa, ca, rfl, hsa⟩ := h.shape
  have hfl := flat_len l
  cases l with
  | nil =>
    clear hsa hfl h
    cases aa
    all_goals
      go_enter Tryd.func23, Tryd.ntmps23
      go_wp2
      go_ret
      exact ⟨_, rfl, World.ownsRow_nil _ _ _ _, Ch.refl _ _⟩
  | cons v l =>
    have e1 := hsa (by simp)
    subst e1
    have hrow := h.row
    have HR := Lib.hid (And.intro hrow (And.intro hfl hl))
    clear hrow hfl h hsa hl
    go_enter Tryd.func23, Tryd.ntmps23
    go_wp2_with (at_builtin; refine wpList_append_own _ rfl _ _ 39 rfl w.heap.size 38 i0 _ 4 40 Tryd.underlying39 hi hz0 hz1 hz2 rfl (by decide) _ _ _ rfl (World.ownsRow_nil _ _ _ _) ⟨b, off, none⟩ (v :: l).length ca (flat (v :: l)) rfl HR.out.2.1 ?c1 ?c2 ?c3 ?c4 ?c5 ?_)
    case c1 => intro j u hu; rw [Addr.add_lit]; exact HR.out.1 j u hu
    case c2 => exact flat_one _
    case c3 => have := HR.out.2.2; unfold maxLen; omega
    case c4 => have := HR.out.2.2; omega
    case c5 => exact Nat.le_refl _
    intro v' w1 hown hg _
    have H1 := Lib.hid (And.intro hown hg)
    clear hown hg
    go_wp2
    go_ret
    exact ⟨_, rfl, H1.out.1, (Ch.refl _ w).grown H1.out.2 (by simp [Value.ownBlock])⟩

set_option maxRecDepth 100000 in
set_option maxHeartbeats 1000000 in
theorem clone_any (l : List V) (b off : Nat) (sv : Value) (w : World) (h : VRow w b off sv l) (hl : l.length * 40 ≤ 140737488355328) :
    Calls Tryd.prog 88 #[sv] w fun e w' => ∃ sv', e = .returned sv' ∧ CopiedOwn w w' sv' l := by
  obtain ⟨i0, hi, hz0, hz1, hz2⟩ := info_parts infoV
  obtain ⟨aa, ca, rfl, hsa⟩ := h.shape
  have hfl := flat_len l
  cases l with
  | nil =>
    clear hsa hfl h
    cases aa
    all_goals
      go_enter Tryd.func88, Tryd.ntmps88
      go_wp2
      go_ret
      exact ⟨_, rfl, by first | exact World.ownsRow_nil _ _ _ _ | exact own_made0 _, by first | exact Ch.refl _ _ | exact (Ch.refl _ _).alloc _⟩
  | cons v l =>
    have e1 := hsa (by simp)
    subst e1
    have hrow := h.row
    have HR := Lib.hid (And.intro hrow (And.intro hfl hl))
    clear hrow hfl h hsa hl
    go_enter Tryd.func88, Tryd.ntmps88
    go_wp2_with (at_builtin; refine wpList_append_own _ rfl _ _ 39 rfl w.heap.size 38 i0 _ 4 40 Tryd.underlying39 hi hz0 hz1 hz2 rfl (by decide) _ _ _ rfl (own_made0 w) ⟨b, off, none⟩ (v :: l).length ca (flat (v :: l)) rfl HR.out.2.1 ?c1 ?c2 ?c3 ?c4 ?c5 ?_)
    case c1 =>
      intro j u hu
      rw [Addr.add_lit]
      have := HR.out.1 j u hu
      exact (World.cell?_alloc_lt _ _ _ (World.block_lt_of_cell? _ _ this)).trans this
    case c2 => exact flat_one _
    case c3 => have := HR.out.2.2; unfold maxLen; omega
    case c4 => have := HR.out.2.2; omega
    case c5 => simp
    intro v' w1 hown hg _
    have H1 := Lib.hid (And.intro hown hg)
    clear hown hg
    go_wp2
    go_ret
    refine ⟨_, rfl, H1.out.1, ((Ch.refl [] w).alloc _).grown H1.out.2 ?_⟩
    intro k hk
    simp [Value.ownBlock] at hk
    right; omega

theorem schemaCopy_any (l : List V) (b off : Nat) (sv : Value) (w : World) (h : VRow w b off sv l) (hl : l.length * 40 ≤ 140737488355328) :
    Calls Tryd.prog 59 #[sv] w fun e w' => ∃ sv', e = .returned sv' ∧ CopiedOwn w w' sv' l := by
  have H := Lib.hid (clone_any l b off sv w h hl)
  clear h hl
  go_enter Tryd.func59, Tryd.ntmps59
  go_wp2_with fail
  refine H.out.mono ?_
  rintro e w' ⟨sv', rfl, hc⟩
  have HC := Lib.hid hc
  clear hc
  go_wp2
  go_ret
  exact ⟨_, rfl, HC.out⟩

/-- Is a value one that may be? -/
def isV (v : V) : Bool :=
  if v.k = 1 then v.s.toList.isEmpty && ((ordF v.f : Nat) : Int) == 9223372036854775808
  else if v.k = 2 then ((v.i == 0) || (v.i == 1)) && v.s.toList.isEmpty && ((ordF v.f : Nat) : Int) == 9223372036854775808
  else if v.k = 3 ∨ v.k = 4 then decide ((v.s.size : Int) ≤ 60) && (v.i == 0) && ((ordF v.f : Nat) : Int) == 9223372036854775808
  else if v.k = 5 then (v.i == 0) && v.s.toList.isEmpty
  else false
def SomeBool (e : Ending) (r : Bool) : Prop := e = .returned (.bool r)

set_option maxRecDepth 100000 in
set_option maxHeartbeats 4000000 in
theorem is_any (v : V) (w : World) (hv : v.Ok) :
    Calls Tryd.prog 60 #[v.val] w fun e w' => SomeBool e (isV v) ∧ Ch [] w w' := by
  obtain ⟨k, i, s, f⟩ := v
  have H := Lib.hid (fun w => order_any f w hv.f)
  have hs := hv.s
  simp only [V.val]
  clear hv
  by_cases k1 : k = 1
  · subst k1
    go_enter Tryd.func60, Tryd.ntmps60
    go_wp2_with (go_at_call 89; refine (H.out _).mono ?_; rintro e w' ⟨rfl, rfl⟩)
    all_goals go_ret
    all_goals refine ⟨?_, (Ch.refl _ _).alloc _⟩
    all_goals (simp_all [SomeBool, isV] <;> (intros; omega))
  by_cases k2 : k = 2
  · subst k2
    go_enter Tryd.func60, Tryd.ntmps60
    go_wp2_with (go_at_call 89; refine (H.out _).mono ?_; rintro e w' ⟨rfl, rfl⟩)
    all_goals go_ret
    all_goals refine ⟨?_, (Ch.refl _ _).alloc _⟩
    all_goals (simp_all [SomeBool, isV] <;> (intros; omega))
  by_cases k3 : k = 3
  · subst k3
    go_enter Tryd.func60, Tryd.ntmps60
    go_wp2_with (go_at_call 89; refine (H.out _).mono ?_; rintro e w' ⟨rfl, rfl⟩)
    all_goals go_ret
    all_goals refine ⟨?_, (Ch.refl _ _).alloc _⟩
    all_goals (simp_all [SomeBool, isV] <;> (intros; omega))
  by_cases k4 : k = 4
  · subst k4
    go_enter Tryd.func60, Tryd.ntmps60
    go_wp2_with (go_at_call 89; refine (H.out _).mono ?_; rintro e w' ⟨rfl, rfl⟩)
    all_goals go_ret
    all_goals refine ⟨?_, (Ch.refl _ _).alloc _⟩
    all_goals (simp_all [SomeBool, isV] <;> (intros; omega))
  by_cases k5 : k = 5
  · subst k5
    go_enter Tryd.func60, Tryd.ntmps60
    go_wp2_with (go_at_call 89; refine (H.out _).mono ?_; rintro e w' ⟨rfl, rfl⟩)
    all_goals go_ret
    all_goals refine ⟨?_, (Ch.refl _ _).alloc _⟩
    all_goals (simp_all [SomeBool, isV] <;> (intros; omega))
  have t1 : (k == 1) = false := by rw [beq_eq_false_iff_ne]; exact k1
  have t2 : (k == 2) = false := by rw [beq_eq_false_iff_ne]; exact k2
  have t3 : (k == 3) = false := by rw [beq_eq_false_iff_ne]; exact k3
  have t4 : (k == 4) = false := by rw [beq_eq_false_iff_ne]; exact k4
  have t5 : (k == 5) = false := by rw [beq_eq_false_iff_ne]; exact k5
  go_enter Tryd.func60, Tryd.ntmps60
  go_wp2_with (go_at_call 89; refine (H.out _).mono ?_; rintro e w' ⟨rfl, rfl⟩)
  all_goals go_ret
  all_goals refine ⟨?_, (Ch.refl _ _).alloc _⟩
  all_goals (simp_all [SomeBool, isV] <;> (intros; omega))
end Go.Proofs.YtiekahnpnaldjaaDoor
