/-
  slices.Index at []int64.
-/
import Derived.Test.YtjecadkmlakncaaIx1
import Derived.Deep.RegionHeld3
namespace Go.Proofs.Ytjecadkmlakncaa
open Go.RowKit

theorem first_of {xs : List Int} (hn : xs.Nodup) {i : Nat} {z : Int} (hz : xs[i]? = some z) : ∀ j, j < i → xs[j]? ≠ some z := by
  intro j hj h
  have hi : i < xs.length := (List.getElem?_eq_some_iff.1 hz).1
  obtain ⟨h1, h2⟩ := List.getElem?_eq_some_iff.1 h
  obtain ⟨h3, h4⟩ := List.getElem?_eq_some_iff.1 hz
  have := List.pairwise_iff_getElem.1 hn j i h1 h3 hj
  exact this (h2.trans h4.symm)
set_option maxRecDepth 100000 in
set_option maxHeartbeats 1000000 in
/-- slices.Index: the first place. -/
theorem index_any (w : World) (b off i : Nat) (sv : Value) (z : Int) (xs : List Int) (hr : Row1 2 w b off sv (ids xs)) (hN : xs.length ≤ 5000) (hz : xs[i]? = some z) (hf : ∀ j, j < i → xs[j]? ≠ some z) :
    Calls Try.prog 34 #[sv, .int .i64 z] w fun e w' => e = .returned (.int .i64 i) ∧ w = w' := by
  obtain ⟨aa, ca, rfl, _, ha⟩ := hr.shape
  have hi : i < xs.length := (List.getElem?_eq_some_iff.1 hz).1
  have hne : ids xs ≠ [] := by intro h; have := ids_len xs; rw [h] at this; simp at this; omega
  obtain rfl := ha hne
  rw [ids_len] at hr ⊢
  have hget : ∀ j y, xs[j]? = some y → w.cell? ⟨b, off + j, none⟩ = some (.int .i64 y) := fun j y hy => hr.get j _ (ids_get hy)
  have H := Lib.hid (And.intro hget (And.intro hz hf))
  clear hr hget hz hf hne ha
  go_enter Try.func34, Try.ntmps34
  go_wp2
  go_loopg [8] xs.length (fun g iv wr => ∃ j : Nat, g + j = xs.length ∧ j ≤ i ∧ iv = .int .i64 j ∧ w = wr)
  case atStart => exact ⟨0, rfl, Nat.zero_le _, rfl, rfl⟩
  case round =>
    obtain ⟨j, hgj, hji, rfl, rfl⟩ := hrel
    have hjl : j < xs.length := by omega
    obtain ⟨y, hy⟩ : ∃ y, xs[j]? = some y := ⟨_, List.getElem?_eq_getElem hjl⟩
    have c1 := H.out.1 j y hy
    have j1 : (j : Int) < (xs.length : Int) := by omega
    by_cases he : y = z
    · subst he
      have hji' : j = i := by
        rcases Nat.lt_or_ge j i with h | h
        · exact absurd hy (H.out.2.2 j h)
        · omega
      subst hji'
      clear hgj hy
      go_wp2
      go_ret
      exact ⟨rfl, rfl⟩
    · have hne : ¬ (j = i) := by
        rintro rfl
        have := H.out.2.1
        rw [hy] at this
        exact he (Option.some.inj this)
      have e1 : (z == y) = false := by rw [beq_eq_false_iff_ne]; exact fun h => he h.symm
      have HG := Lib.hid (And.intro hgj (And.intro hji hne))
      clear hgj hji hne hy
      go_wp2
      go_roundg (gk - 1)
      case measure => have := HG.out; omega
      case rel => exact ⟨j + 1, by have := HG.out; omega, by have := HG.out; omega, by go_num, rfl⟩
end Go.Proofs.Ytjecadkmlakncaa
