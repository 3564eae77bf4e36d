/-
  The log: New, Add, Len, Mark, in.
-/
import Derived.Test.YtiekahnpnaldjaaDoorKit
namespace Go.Proofs.YtiekahnpnaldjaaDoor
open Go.RowKit

theorem infoFn : (Tryd.prog.info? 1).map (fun i => (i.zero, i.size, i.bytes)) = some (some .nilFunc, 1, 8) := by kernel_rfl

/-- The log at block lb, whose slice is sv (its array from block D on), holds the functions fs. -/
structure LogAt (D : Nat) (w : World) (lb : Nat) (sv : Value) (fs : List Value) : Prop where
  blk : w.heap[lb]? = some (.cells #[sv] 96 (0, 0))
  own : w.ownsRow D 1 1 sv fs.length fs

theorem new_any (w : World) : Calls Tryd.prog 11 #[] w fun e w' => e = .returned (.pointer (some ⟨w.heap.size, 0, none⟩)) ∧ w' = w.alloc (.cells #[.slice none 0 0] 96) := by
  go_enter Tryd.func11, Tryd.ntmps11
  go_wp2
  go_ret
  exact ⟨rfl, rfl⟩

/-- What a change of the log writes: the log's own cell, its array. -/
def logKinds : List (Option TypeId) := [some 96, some 1]

set_option maxRecDepth 100000 in
set_option maxHeartbeats 400000 in
theorem add_any (D : Nat) (w : World) (lb : Nat) (fn : Fn) (first cap : Array Value) (sv : Value) (fs : List Value) (hn : fs.length < 1000) (hD : D ≤ w.heap.size) (hlD : D ≤ lb) (hl : LogAt D w lb sv fs) :
    Calls Tryd.prog 12 #[.pointer (some ⟨lb, 0, none⟩), .func fn first cap] w fun e w' => e = .returned (.tuple #[]) ∧
      ∃ sv', LogAt D w' lb sv' (fs ++ [.func fn first cap]) ∧ Fr D logKinds w w' := by
  obtain ⟨hb, ho⟩ := hl
  obtain ⟨i0, hi, hz0, hz1, hz2⟩ := info_parts infoFn
  have hc := cell_of_one hb
  have hfr := free_of_one hb
  have hlt := lt_of_block hb
  go_enter Tryd.func12, Tryd.ntmps12
  go_wp2_with (at_builtin; refine wpList_append_own _ rfl _ _ 94 rfl D 1 i0 .nilFunc 1 8 Tryd.underlying94 hi hz0 hz1 hz2 rfl (by decide) _ _ _ rfl (ho.alloc _) ⟨w.heap.size, 0, none⟩ 1 1 [.func fn first cap] rfl rfl ?c1 ?c2 ?c3 ?c4 ?c5 ?_)
  case c1 => exact cell_one_new _ _ _
  case c2 => intro u hu; simp at hu; subst hu; rfl
  case c3 => unfold maxLen; omega
  case c4 => omega
  case c5 => simp; omega
  intro v' w1 hown hg hne
  have hch : Ch (lb :: sv.ownBlock.toList) w w1 := ((Ch.refl _ w).alloc _).grown hg (by intro k hk; left; simp [hk])
  have hb1 : w1.heap[lb]? = some (.cells #[sv] 96 (0, 0)) := by
    rw [hg.block lb (by simp; omega) (by intro e; exact own_ne ho hb (by decide) e.symm)]
    exact heap_alloc_past hb
  have k1 := cell_of_one hb1
  have k2 := free_of_one hb1
  have hfr1 : Fr D logKinds w w1 := Fr.of_ch hch hD (by
    intro x hx; simp at hx
    rcases hx with rfl | hx
    · exact ⟨hlD, fun o ho' => by rw [hb] at ho'; cases ho'; simp [kindOf, logKinds]⟩
    · exact ⟨(own_base ho hx).1, fun o ho' => by rw [own_kind ho hx ho']; simp [logKinds]⟩)
  obtain ⟨g, cap', rfl⟩ : ∃ g cap', v' = .slice (some ⟨g, 0, none⟩) (fs.length + 1) cap' := by
    rcases hown.2 with ⟨_, h⟩ | ⟨g, cap', _, h, _⟩
    · omega
    · exact ⟨g, cap', h⟩
  clear hc hfr hb ho hg hne hch
  go_wp2
  go_end0
  refine ⟨rfl, _, ⟨one_setCell hb1, ?_⟩, hfr1.setCell hb1 hlD (by simp [logKinds]) _⟩
  have := ownsRow_setCell_other hown (a := ⟨lb, 0, none⟩) (own_ne hown hb1 (by decide)) (.slice (some ⟨g, 0, none⟩) (fs.length + 1) cap')
  simpa using this

theorem len_any (D : Nat) (w : World) (lb : Nat) (sv : Value) (fs : List Value) (hl : LogAt D w lb sv fs) :
    Calls Tryd.prog 17 #[.pointer (some ⟨lb, 0, none⟩)] w fun e w' => e = .returned (.int .i64 fs.length) ∧ w = w' := by
  obtain ⟨a, c, rfl⟩ : ∃ a c, sv = .slice a fs.length c := by
    rcases hl.own.2 with ⟨h, h0⟩ | ⟨g, cap', _, h, _⟩
    · exact ⟨_, _, by rw [h0]; exact h⟩
    · exact ⟨_, cap', h⟩
  have hc := cell_of_one hl.blk
  go_enter Tryd.func17, Tryd.ntmps17
  go_wp2
  go_ret
  exact ⟨rfl, rfl⟩

theorem mark_any (D : Nat) (w : World) (lb : Nat) (sv : Value) (fs : List Value) (hl : LogAt D w lb sv fs) :
    Calls Tryd.prog 50 #[.pointer (some ⟨lb, 0, none⟩)] w fun e w' => e = .returned (.int .i64 fs.length) ∧ w = w' := by
  obtain ⟨a, c, rfl⟩ : ∃ a c, sv = .slice a fs.length c := by
    rcases hl.own.2 with ⟨h, h0⟩ | ⟨g, cap', _, h, _⟩
    · exact ⟨_, _, by rw [h0]; exact h⟩
    · exact ⟨_, cap', h⟩
  have hc := cell_of_one hl.blk
  go_enter Tryd.func50, Tryd.ntmps50
  go_wp2
  go_ret
  exact ⟨rfl, rfl⟩

theorem in_any (D : Nat) (w : World) (lb : Nat) (mark : Nat) (sv : Value) (fs : List Value) (hl : LogAt D w lb sv fs) :
    Calls Tryd.prog 81 #[.pointer (some ⟨lb, 0, none⟩), .int .i64 mark] w fun e w' => e = .returned (.bool (decide (mark ≤ fs.length))) ∧ w = w' := by
  obtain ⟨a, c, rfl⟩ : ∃ a c, sv = .slice a fs.length c := by
    rcases hl.own.2 with ⟨h, h0⟩ | ⟨g, cap', _, h, _⟩
    · exact ⟨_, _, by rw [h0]; exact h⟩
    · exact ⟨_, cap', h⟩
  have hc := cell_of_one hl.blk
  go_enter Tryd.func81, Tryd.ntmps81
  go_wp2
  go_ret
  exact ⟨by simp, rfl⟩
end Go.Proofs.YtiekahnpnaldjaaDoor
