/-
  slices.Clone at []int64 and []*node. (printed by wip/gen_tree.py)
-/
import Derived.Test.YtjecadkmlakncaaRw
namespace Go.Proofs.Ytjecadkmlakncaa
open Go.RowKit

theorem own_made1 (T : TypeId) (w : World) : (w.alloc (.cells #[] T)).ownsRow w.heap.size T 1 (.slice (some ⟨w.heap.size, 0, none⟩) 0 0) 0 [] :=
  World.ownsRow_made w #[] 0 (Nat.le_refl _) (by decide) rfl

theorem infoI : (Try.prog.info? 2).map (fun i => (i.zero, i.size, i.bytes)) = some (some (.int .i64 0), 1, 8) := by kernel_rfl
set_option maxRecDepth 100000 in
set_option maxHeartbeats 1000000 in
theorem cloneI (l : List Value) (b off : Nat) (sv : Value) (w : World) (h : Row1 2 w b off sv l) (h1 : ∀ u ∈ l, u.oneCell' = true) (hl : l.length ≤ 10000) :
    Calls Try.prog 60 #[sv] w fun e w' => ∃ sv', e = .returned sv' ∧ w'.ownsRow w.heap.size 2 1 sv' l.length l ∧ Ch [] w w' := by
  obtain ⟨i0, hi, hz0, hz1, hz2⟩ := info_parts infoI
  obtain ⟨aa, ca, rfl, _, hsa⟩ := h.shape
  cases l with
  | nil =>
    clear hsa h
    cases aa
    all_goals
      go_enter Try.func60, Try.ntmps60
      go_wp2
      go_ret
      exact ⟨_, rfl, by first | exact World.ownsRow_nil _ _ _ _ | exact own_made1 _ _, by first | exact Ch.refl _ _ | exact (Ch.refl _ _).alloc _⟩
  | cons v l =>
    have e1 := hsa (by simp)
    subst e1
    have hrow := h.get
    have HR := Lib.hid (And.intro hrow (And.intro h1 hl))
    clear hrow h hsa hl h1
    go_enter Try.func60, Try.ntmps60
    go_wp2_with (at_builtin; refine wpList_append_own _ rfl _ _ 38 rfl w.heap.size 2 i0 _ 1 8 Try.underlying38 hi hz0 hz1 hz2 rfl (by decide) _ _ _ rfl (own_made1 _ w) ⟨b, off, none⟩ (v :: l).length ca (v :: l) rfl (by simp) ?c1 ?c2 ?c3 ?c4 ?c5 ?_)
    case c1 =>
      intro j u hu
      rw [Addr.add_lit]
      have := HR.out.1 j u hu
      exact (World.cell?_alloc_lt _ _ _ (World.block_lt_of_cell? _ _ this)).trans this
    case c2 => exact HR.out.2.1
    case c3 => have := HR.out.2.2; unfold maxLen; omega
    case c4 => have := HR.out.2.2; omega
    case c5 => simp
    intro v' w1 hown hg _
    have H1 := Lib.hid (And.intro hown hg)
    clear hown hg
    go_wp2
    go_ret
    refine ⟨_, rfl, by simpa using H1.out.1, ((Ch.refl [] w).alloc _).grown H1.out.2 ?_⟩
    intro k hk
    simp [Value.ownBlock] at hk
    right; omega

theorem infoN : (Try.prog.info? 74).map (fun i => (i.zero, i.size, i.bytes)) = some (some (.pointer none), 1, 8) := by kernel_rfl
set_option maxRecDepth 100000 in
set_option maxHeartbeats 1000000 in
theorem cloneN (l : List Value) (b off : Nat) (sv : Value) (w : World) (h : Row1 74 w b off sv l) (h1 : ∀ u ∈ l, u.oneCell' = true) (hl : l.length ≤ 10000) :
    Calls Try.prog 63 #[sv] w fun e w' => ∃ sv', e = .returned sv' ∧ w'.ownsRow w.heap.size 74 1 sv' l.length l ∧ Ch [] w w' := by
  obtain ⟨i0, hi, hz0, hz1, hz2⟩ := info_parts infoN
  obtain ⟨aa, ca, rfl, _, hsa⟩ := h.shape
  cases l with
  | nil =>
    clear hsa h
    cases aa
    all_goals
      go_enter Try.func63, Try.ntmps63
      go_wp2
      go_ret
      exact ⟨_, rfl, by first | exact World.ownsRow_nil _ _ _ _ | exact own_made1 _ _, by first | exact Ch.refl _ _ | exact (Ch.refl _ _).alloc _⟩
  | cons v l =>
    have e1 := hsa (by simp)
    subst e1
    have hrow := h.get
    have HR := Lib.hid (And.intro hrow (And.intro h1 hl))
    clear hrow h hsa hl h1
    go_enter Try.func63, Try.ntmps63
    go_wp2_with (at_builtin; refine wpList_append_own _ rfl _ _ 78 rfl w.heap.size 74 i0 _ 1 8 Try.underlying78 hi hz0 hz1 hz2 rfl (by decide) _ _ _ rfl (own_made1 _ w) ⟨b, off, none⟩ (v :: l).length ca (v :: l) rfl (by simp) ?c1 ?c2 ?c3 ?c4 ?c5 ?_)
    case c1 =>
      intro j u hu
      rw [Addr.add_lit]
      have := HR.out.1 j u hu
      exact (World.cell?_alloc_lt _ _ _ (World.block_lt_of_cell? _ _ this)).trans this
    case c2 => exact HR.out.2.1
    case c3 => have := HR.out.2.2; unfold maxLen; omega
    case c4 => have := HR.out.2.2; omega
    case c5 => simp
    intro v' w1 hown hg _
    have H1 := Lib.hid (And.intro hown hg)
    clear hown hg
    go_wp2
    go_ret
    refine ⟨_, rfl, by simpa using H1.out.1, ((Ch.refl [] w).alloc _).grown H1.out.2 ?_⟩
    intro k hk
    simp [Value.ownBlock] at hk
    right; omega
end Go.Proofs.Ytjecadkmlakncaa
