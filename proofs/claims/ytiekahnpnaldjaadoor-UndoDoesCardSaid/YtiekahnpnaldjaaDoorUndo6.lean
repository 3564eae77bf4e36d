/-
  The statement's own check 'known': two backs, called in the opposite order.
-/
import Derived.Test.YtiekahnpnaldjaaDoorUndo5
namespace Go.Proofs.YtiekahnpnaldjaaDoor
open Go.RowKit

theorem known2_any (sb : Nat) (s : ByteArray) (w : World) (hsz : s.size ≤ 10) (h : w.heap[sb]? = some (.cells #[.string s] 9 (0, 0))) :
    Calls Tryd.prog 49 #[.pointer (some ⟨sb, 0, none⟩)] w fun e w' => e = .returned (.tuple #[]) ∧ w' = w.setCell ⟨sb, 0, none⟩ (.string (s ++ ⟨#[98]⟩)) := by
  have k1 := cell_of_one h
  have k2 := free_of_one h
  go_enter Tryd.func49, Tryd.ntmps49
  go_wp2
  go_end0
  exact ⟨rfl, rfl⟩
theorem known1_any (sb : Nat) (s : ByteArray) (w : World) (hsz : s.size ≤ 10) (h : w.heap[sb]? = some (.cells #[.string s] 9 (0, 0))) :
    Calls Tryd.prog 48 #[.pointer (some ⟨sb, 0, none⟩)] w fun e w' => e = .returned (.tuple #[]) ∧ w' = w.setCell ⟨sb, 0, none⟩ (.string (s ++ ⟨#[97]⟩)) := by
  have k1 := cell_of_one h
  have k2 := free_of_one h
  go_enter Tryd.func48, Tryd.ntmps48
  go_wp2
  go_end0
  exact ⟨rfl, rfl⟩

/-- The text behind the backs that were called. -/
def stBA : Nat → ByteArray
  | 0 => ((⟨#[]⟩ : ByteArray) ++ ⟨#[98]⟩) ++ ⟨#[97]⟩
  | 1 => (⟨#[]⟩ : ByteArray) ++ ⟨#[98]⟩
  | _ => ⟨#[]⟩
def fsBA (sb : Nat) : List Value := [.func (.func 48) #[] #[.pointer (some ⟨sb, 0, none⟩)], .func (.func 49) #[] #[.pointer (some ⟨sb, 0, none⟩)]]

theorem back_known (D : Nat) (w : World) (lb sb : Nat) (sv : Value) (hl : LogAt D w lb sv (fsBA sb)) (hs : w.heap[sb]? = some (.cells #[.string ⟨#[]⟩] 9 (0, 0))) (hlD : D ≤ lb) (hsD : D ≤ sb) (hD : D ≤ w.heap.size) :
    Calls Tryd.prog 51 #[.pointer (some ⟨lb, 0, none⟩), .int .i64 0] w fun e w' => e = .returned (.bool true) ∧ w'.heap[sb]? = some (.cells #[.string (stBA 0)] 9 (0, 0)) ∧ Below D w w' ∧ ∃ sv', LogAt D w' lb sv' [] := by
  have hls := ne_of_elem hl.blk hs (by decide)
  obtain ⟨g, hgown, hgs⟩ : ∃ g, (∀ x, sv.ownBlock = some x → x = g ∧ D ≤ x) ∧ g ≠ sb := by
    rcases hl.own.2 with ⟨_, h0⟩ | ⟨g', cap, cur, rfl, hDg, hh, _⟩
    · simp [fsBA] at h0
    · exact ⟨g', by intro x hx; simp [Value.ownBlock] at hx; subst hx; exact ⟨rfl, hDg⟩, ne_of_elem hh hs (by decide)⟩
  refine (back_any D w D lb g 0 2 sv _ (fun k W => W.heap[sb]? = some (.cells #[.string (stBA k)] 9 (0, 0))) hl rfl (by omega) (by omega) hlD hD hgown hs ?_ ?_).mono ?_
  · intro k W W' h1 _ h2
    exact (h2 sb hls.symm hgs.symm).trans h1
  · intro k f _ hf
    match k, hf with
    | 0, hf =>
      simp [fsBA] at hf; subst hf
      refine ⟨_, _, rfl, fun W => by simp [go_sem], fun W h1 _ => (known1_any sb _ W (by decide) h1).mono ?_⟩
      rintro e W' ⟨rfl, rfl⟩
      exact ⟨rfl, one_setCell h1, (Below.refl _ _).setCell hsD _, fun _ => heap_setCell_other hls, fun _ => heap_setCell_other hgs⟩
    | 1, hf =>
      simp [fsBA] at hf; subst hf
      refine ⟨_, _, rfl, fun W => by simp [go_sem], fun W h1 _ => (known2_any sb _ W (by decide) h1).mono ?_⟩
      rintro e W' ⟨rfl, rfl⟩
      exact ⟨rfl, one_setCell h1, (Below.refl _ _).setCell hsD _, fun _ => heap_setCell_other hls, fun _ => heap_setCell_other hgs⟩
    | k + 2, hf => simp [fsBA] at hf
  · rintro e w' ⟨rfl, h1, h2, sv', h3⟩
    exact ⟨rfl, h1, h2, sv', h3⟩

set_option maxRecDepth 100000 in
set_option maxHeartbeats 2000000 in
theorem known_any (w : World) : Calls Tryd.prog 10 #[] w fun e w' => e = .returned (.bool true) ∧ Below w.heap.size w w' := by
  have L0 : LogAt w.heap.size ((w.alloc (.cells #[.slice none 0 0] 96)).alloc (.cells #[.string ⟨#[]⟩] 9)) w.heap.size (.slice none 0 0) [] :=
    ⟨heap_alloc_past (heap_alloc_same _ _), World.ownsRow_nil _ _ _ _⟩
  have H1 := Lib.hid (add_any w.heap.size _ w.heap.size (.func 48) #[] #[.pointer (some ⟨w.heap.size + 1, 0, none⟩)] _ [] (by simp) (by simp; omega) (Nat.le_refl _) L0)
  clear L0
  go_enter Tryd.func10, Tryd.ntmps10
  go_wp2_with (go_at_call 11; refine (new_any w).mono ?_; rintro e w' ⟨rfl, rfl⟩)
  refine H1.out.mono ?_
  rintro e w1 ⟨rfl, sv1, hl1, hfr1⟩
  have hs1 := hfr1.heap (k := w.heap.size + 1) (by simpa using heap_alloc_same (w.alloc (.cells #[.slice none 0 0] 96)) (.cells #[.string ⟨#[]⟩] 9)) (by simp [logKinds])
  have z1 := hfr1.size
  simp at z1
  have H2 := Lib.hid (add_any w.heap.size w1 w.heap.size (.func 49) #[] #[.pointer (some ⟨w.heap.size + 1, 0, none⟩)] _ _ (by simp) (by omega) (Nat.le_refl _) hl1)
  have F1 := Lib.hid (And.intro hfr1 hs1)
  clear hfr1 hs1 hl1 H1
  go_wp2_with fail
  refine H2.out.mono ?_
  rintro e w2 ⟨rfl, sv2, hl2, hfr2⟩
  have hs2 := hfr2.heap F1.out.2 (by simp [logKinds])
  have hm := mark_any _ w2 _ _ _ hl2
  have z2 := hfr2.size
  have H3 := Lib.hid (back_known w.heap.size w2 w.heap.size (w.heap.size + 1) sv2 hl2 hs2 (Nat.le_refl _) (by omega) (by omega))
  have F2 := Lib.hid hfr2
  have HM := Lib.hid hm
  clear hfr2 hl2 hs2 H2 hm
  go_wp2_with (go_at_call 50; refine HM.out.mono ?_; rintro e w' ⟨rfl, rfl⟩)
  refine H3.out.mono ?_
  rintro e w3 ⟨rfl, hs3, hb3, sv3, hl3⟩
  have k3 := cell_of_one hs3
  have HL := Lib.hid (len_any _ w3 _ _ _ hl3)
  have HB := Lib.hid (back_out _ w3 w.heap.size 1 sv3 [] hl3 (by simp))
  have F3 := Lib.hid hb3
  have e1 : (stBA 0).toList = [98, 97] := by kernel_rfl
  clear H3 hb3 hl3 hs3 HM
  go_wp2_with (first | (go_at_call 17; refine HL.out.mono ?_; rintro e w' ⟨rfl, rfl⟩) | (go_at_call 51; refine HB.out.mono ?_; rintro e w' ⟨rfl, rfl⟩))
  go_ret
  refine ⟨rfl, ?_⟩
  have b1 := ((Fr.refl w.heap.size logKinds w).alloc (Nat.le_refl _) (.cells #[.slice none 0 0] 96)).alloc (by simp) (.cells #[.string ⟨#[]⟩] 9)
  exact ((b1.trans F1.out.1).trans F2.out).to_below.trans F3.out
end Go.Proofs.YtiekahnpnaldjaaDoor
