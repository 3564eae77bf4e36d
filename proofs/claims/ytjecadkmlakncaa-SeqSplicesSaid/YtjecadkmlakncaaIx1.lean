/-
  The index of positions: what stands in memory; New, Len, At, Writes, All.
-/
import Derived.Test.YtjecadkmlakncaaTf3
import Derived.Maps.OwnSet
import Derived.Deep.QuietTactic
namespace Go.Proofs.Ytjecadkmlakncaa
open Go.RowKit

theorem lawI : Go.Maps.Keyed Try.prog 2 := Go.Maps.int_keyed Try.underlying2
theorem zeroS (w : World) : (zeroValue 63).run Try.prog w = .ok (.agg #[]) w := by kernel_rfl
abbrev Wf (z : Int) : Prop := (Lit.int .i64 z).wf = true
/-- Rows' numbers as values. -/
def ids (xs : List Int) : List Value := xs.map (Value.int .i64)
theorem ids_len (xs : List Int) : (ids xs).length = xs.length := List.length_map ..
theorem ids_get {xs : List Int} {i : Nat} {z : Int} (h : xs[i]? = some z) : (ids xs)[i]? = some (.int .i64 z) := by unfold ids; rw [List.getElem?_map, h]; rfl
theorem ids_ins (xs : List Int) (i : Nat) (z : Int) : insL (ids xs) i (.int .i64 z) = ids (xs.take i ++ [z] ++ xs.drop i) := by unfold insL ids; simp
theorem ids_era (xs : List Int) (i : Nat) : eraL (ids xs) i = ids (xs.take i ++ xs.drop (i + 1)) := by unfold eraL ids; simp
theorem ids_set (xs : List Int) (i : Nat) (z : Int) : (ids xs).set i (.int .i64 z) = ids (xs.set i z) := by unfold ids; rw [List.map_set]
/-- The map at block mb has just these keys. -/
def SetIs (w : World) (mb n : Nat) (xs : List Int) : Prop :=
  ∃ D : DataW Unit, w.ownsMap Try.prog 2 (unitElem (H := Unit)) mb n D ∧ ∀ z, Wf z → Maps.has D (.int .i64 z) = decide (z ∈ xs)
/-- An index of kind T: its tree, its set. -/
structure IxAt (T : TypeId) (w : World) (P : Nat → Prop) (xb tb mb : Nat) (xs : List Int) (wr n : Nat) : Prop where
  blk : w.heap[xb]? = some (.cells #[PN tb, .map (some mb)] T (0, 0))
  tree : TreeIs w P tb (ids xs) wr
  set : SetIs w mb n xs
  nodup : xs.Nodup
  wf : ∀ z ∈ xs, Wf z
theorem SetIs.ch {w w' : World} {S : List Nat} {mb n : Nat} {xs : List Int} (h : SetIs w mb n xs) (hc : Ch S w w') (hS : mb ∉ S) : SetIs w' mb n xs := by
  obtain ⟨D, ⟨es, clock, hb, r⟩, hh⟩ := h
  exact ⟨D, ⟨es, clock, hc.heap hb hS, r⟩, hh⟩
theorem SetIs.blk {w : World} {mb n : Nat} {xs : List Int} (h : SetIs w mb n xs) : ∃ es clock, w.heap[mb]? = some (.map es clock) := by
  obtain ⟨D, ⟨es, clock, hb, _⟩, _⟩ := h
  exact ⟨es, clock, hb⟩
/-- Blocks that an index knows nothing of. -/
def Aside (T : TypeId) (w : World) (P : Nat → Prop) (S : List Nat) : Prop := ∀ x, x ∈ S → ∃ cs K f, w.heap[x]? = some (.cells cs K f) ∧ K ≠ T ∧ K ≠ 76 ∧ (P x → K ≠ 83 ∧ K ≠ 2 ∧ K ≠ 74)
theorem IxAt.ch {T : TypeId} {w w' : World} {P : Nat → Prop} {xb tb mb wr n : Nat} {xs : List Int} {S : List Nat} (h : IxAt T w P xb tb mb xs wr n) (hc : Ch S w w') (hS : Aside T w P S) : IxAt T w' P xb tb mb xs wr n := by
  refine ⟨hc.heap h.blk (fun hx => ?_), h.tree.ch hc (fun x hx cs K f hh => ?_), h.set.ch hc (fun hx => ?_), h.nodup, h.wf⟩
  · obtain ⟨cs, K, f, hb, h1, _⟩ := hS xb hx
    rw [h.blk] at hb; cases hb; exact h1 rfl
  · obtain ⟨cs', K', f', hb, h1, h2, h3⟩ := hS x hx
    rw [hh] at hb; cases hb; exact ⟨h2, h3⟩
  · obtain ⟨cs, K, f, hb, _⟩ := hS mb hx
    obtain ⟨es, clock, hm⟩ := h.set.blk
    rw [hm] at hb; cases hb
theorem IxAt.ch0 {T : TypeId} {w w' : World} {P : Nat → Prop} {xb tb mb wr n : Nat} {xs : List Int} (h : IxAt T w P xb tb mb xs wr n) (hc : Ch [] w w') : IxAt T w' P xb tb mb xs wr n := h.ch hc (fun x hx => by cases hx)
theorem IxAt.sub {T : TypeId} {w : World} {P Q : Nat → Prop} {xb tb mb wr n : Nat} {xs : List Int} (h : IxAt T w P xb tb mb xs wr n) (hPQ : ∀ k, P k → k < w.heap.size → Q k) : IxAt T w Q xb tb mb xs wr n := ⟨h.blk, h.tree.sub hPQ, h.set, h.nodup, h.wf⟩
theorem IxAt.cells {T : TypeId} {w : World} {P : Nat → Prop} {xb tb mb wr n : Nat} {xs : List Int} (h : IxAt T w P xb tb mb xs wr n) : w.cell? ⟨xb, 0, none⟩ = some (PN tb) ∧ w.cell? ⟨xb, 1, none⟩ = some (.map (some mb)) := by
  constructor <;> (rw [cell_of h.blk]; rfl)
theorem mem_ins (xs : List Int) (i : Nat) (z y : Int) : y ∈ xs.take i ++ [z] ++ xs.drop i ↔ y = z ∨ y ∈ xs := by
  have h : y ∈ xs ↔ y ∈ xs.take i ∨ y ∈ xs.drop i := by rw [← List.mem_append, List.take_append_drop]
  rw [h]
  simp only [List.mem_append, List.mem_singleton]
  constructor
  · rintro ((h | h) | h)
    · exact .inr (.inl h)
    · exact .inl h
    · exact .inr (.inr h)
  · rintro (h | h | h)
    · exact .inl (.inr h)
    · exact .inl (.inl h)
    · exact .inr h
theorem mem_era {xs : List Int} {i : Nat} {z : Int} (hz : xs[i]? = some z) (hn : xs.Nodup) (y : Int) : y ∈ xs.take i ++ xs.drop (i + 1) ↔ y ≠ z ∧ y ∈ xs := by
  have hi : i < xs.length := (List.getElem?_eq_some_iff.1 hz).1
  have e : xs = xs.take i ++ z :: xs.drop (i + 1) := by
    have h1 := List.take_append_drop i xs
    rw [List.drop_eq_getElem_cons hi, (List.getElem?_eq_some_iff.1 hz).2] at h1
    exact h1.symm
  have hn' := hn
  rw [e] at hn'
  rw [List.nodup_append] at hn'
  obtain ⟨_, h2, h3⟩ := hn'
  rw [List.nodup_cons] at h2
  conv => rhs; rw [e]
  simp only [List.mem_append, List.mem_cons]
  constructor
  · rintro (h | h)
    · exact ⟨fun he => h3 y h z (by simp) he, .inl h⟩
    · exact ⟨fun he => h2.1 (he ▸ h), .inr (.inr h)⟩
  · rintro ⟨hne, h | h | h⟩
    · exact .inl h
    · exact absurd h hne
    · exact .inr h
theorem nodup_ins {xs : List Int} {i : Nat} {z : Int} (hn : xs.Nodup) (hz : z ∉ xs) : (xs.take i ++ [z] ++ xs.drop i).Nodup := by
  have h1 := List.take_append_drop i xs
  rw [← h1] at hn hz
  rw [List.nodup_append] at hn
  obtain ⟨a, b, c⟩ := hn
  simp only [List.mem_append, not_or] at hz
  rw [List.append_assoc, List.nodup_append]
  refine ⟨a, by simp [List.nodup_cons, b, hz.2], fun x hx y hy => ?_⟩
  simp only [List.singleton_append, List.mem_cons] at hy
  rcases hy with rfl | hy
  · rintro rfl; exact hz.1 hx
  · exact c x hx y hy
theorem nodup_era {xs : List Int} {i : Nat} (hn : xs.Nodup) : (xs.take i ++ xs.drop (i + 1)).Nodup := by
  have h1 : (xs.take i ++ xs.drop (i + 1)).Sublist (xs.take i ++ xs.drop i) := List.Sublist.append_left (by rw [← List.drop_drop]; exact List.drop_sublist 1 _) _
  rw [List.take_append_drop] at h1
  exact List.Nodup.sublist h1 hn
end Go.Proofs.Ytjecadkmlakncaa
