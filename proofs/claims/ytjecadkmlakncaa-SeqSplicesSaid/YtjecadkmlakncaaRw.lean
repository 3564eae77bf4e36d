/-
  Rows of one-cell elements: rows that are read, rows of the call's own, cells written in a row.
-/
import Derived.Test.YtjecadkmlakncaaKit
import Derived.Lib.Hide
import Derived.Laws.IdiomCopy
import Derived.Lib.JoinLaws
import Derived.Laws.OwnMore
namespace Go.Proofs.Ytjecadkmlakncaa
open Go.RowKit

/-- A row that is read: its block's kind, its cells. -/
def Row1 (T : TypeId) (w : World) (b off : Nat) (v : Value) (xs : List Value) : Prop :=
  (∃ a c, v = .slice a xs.length c ∧ xs.length ≤ c ∧ (xs ≠ [] → a = some ⟨b, off, none⟩)) ∧ (xs ≠ [] → ∃ cur, w.heap[b]? = some (.cells cur T (0, 0)) ∧ (cur.toList.drop off).take xs.length = xs)
theorem Row1.shape {T : TypeId} {w : World} {b off : Nat} {v : Value} {xs : List Value} (h : Row1 T w b off v xs) : ∃ a c, v = .slice a xs.length c ∧ xs.length ≤ c ∧ (xs ≠ [] → a = some ⟨b, off, none⟩) := h.1
theorem take_drop_get {α : Type} {l xs : List α} {off : Nat} (h : (l.drop off).take xs.length = xs) {j : Nat} {u : α} (hu : xs[j]? = some u) : l[off + j]? = some u := by
  have hj : j < xs.length := (List.getElem?_eq_some_iff.1 hu).1
  rw [← h, List.getElem?_take, if_pos hj, List.getElem?_drop] at hu
  exact hu
theorem Row1.get {T : TypeId} {w : World} {b off : Nat} {v : Value} {xs : List Value} (h : Row1 T w b off v xs) : ∀ j u, xs[j]? = some u → w.cell? ⟨b, off + j, none⟩ = some u := by
  intro j u hu
  have hne : xs ≠ [] := by rintro rfl; simp at hu
  obtain ⟨cur, hb, ht⟩ := h.2 hne
  rw [cell_of hb]
  have := take_drop_get ht hu
  simpa using this
theorem Row1.lt {T : TypeId} {w : World} {b off : Nat} {v : Value} {xs : List Value} (h : Row1 T w b off v xs) (hne : xs ≠ []) : b < w.heap.size := by
  obtain ⟨cur, hb, _⟩ := h.2 hne
  exact lt_of_block hb
theorem Row1.ch {T : TypeId} {w w' : World} {S : List Nat} {b off : Nat} {v : Value} {xs : List Value} (h : Row1 T w b off v xs) (hc : Ch S w w') (hn : xs ≠ [] → b ∉ S) : Row1 T w' b off v xs :=
  ⟨h.1, fun hne => by
    obtain ⟨cur, hb, ht⟩ := h.2 hne
    exact ⟨cur, hc.heap hb (hn hne), ht⟩⟩
theorem Row1.ne {T T' : TypeId} {w : World} {b off : Nat} {v : Value} {xs : List Value} (h : Row1 T w b off v xs) (hne : xs ≠ []) {k : Nat} {cs : Array Value} {f : Nat × Nat} (hk : w.heap[k]? = some (.cells cs T' f)) (ht : T ≠ T') : b ≠ k := by
  obtain ⟨cur, hb, _⟩ := h.2 hne
  rintro rfl
  rw [hb] at hk
  simp at hk
  exact ht hk.2.1
theorem Row1.nil (T : TypeId) (w : World) (b off c : Nat) (a : Option Addr) : Row1 T w b off (.slice a 0 c) [] := ⟨⟨a, c, rfl, Nat.zero_le _, fun h => absurd rfl h⟩, fun h => absurd rfl h⟩
/-- A row of the call's own is a row that is read. -/
theorem Row1.of_own {T : TypeId} {w : World} {base n : Nat} {v : Value} {xs : List Value} (h : w.ownsRow base T 1 v n xs) (hn : n = xs.length) : ∃ b, base ≤ b ∧ Row1 T w b 0 v xs := by
  subst hn
  rcases h.2 with ⟨rfl, h0⟩ | ⟨g, cap, cur, rfl, hg, hh, hc1, _, hc2, ht⟩
  · have : xs = [] := List.eq_nil_of_length_eq_zero h0
    subst this
    exact ⟨base, Nat.le_refl _, Row1.nil _ _ _ _ _ _⟩
  · exact ⟨g, hg, ⟨_, cap, rfl, hc1, fun _ => rfl⟩, fun _ => ⟨cur, hh, by simpa using ht⟩⟩
theorem Row1.sub {T : TypeId} {w : World} {b off : Nat} {a : Option Addr} {n c : Nat} {xs : List Value} (h : Row1 T w b off (.slice a n c) xs) (i j c2 : Nat) (hij : i ≤ j) (hj : j ≤ xs.length) (hc2 : j - i ≤ c2) (a2 : Option Addr) (ha2 : i < j → a2 = some ⟨b, off + i, none⟩) :
    Row1 T w b (off + i) (.slice a2 (j - i) c2) ((xs.drop i).take (j - i)) := by
  have hl : ((xs.drop i).take (j - i)).length = j - i := by rw [List.length_take, List.length_drop]; omega
  refine ⟨⟨a2, c2, by rw [hl], by omega, fun hne => ha2 ?_⟩, fun hne => ?_⟩
  · have := List.length_pos_iff.2 hne; omega
  · have hne' : xs ≠ [] := by rintro rfl; simp at hne
    obtain ⟨cur, hb, ht⟩ := h.2 hne'
    refine ⟨cur, hb, ?_⟩
    rw [hl]
    have : xs.drop i = ((cur.toList.drop (off + i)).take (xs.length - i)) := by
      conv => lhs; rw [← ht]
      rw [List.drop_take, List.drop_drop]
    rw [this, List.take_take]
    congr 1
    omega

/-- Cells written in the midst of a block. -/
theorem set_take {α : Type} (l : List α) (o : Nat) (v : α) (h : o < l.length) : (l.set o v).take (o + 1) = l.take o ++ [v] := by
  apply List.ext_getElem?
  intro k
  rw [List.getElem?_take, List.getElem?_set, List.getElem?_append, List.length_take, List.getElem?_take]
  by_cases h1 : k < o
  · rw [if_pos (by omega), if_neg (by omega), if_pos (by omega), if_pos h1]
  · by_cases h2 : k = o
    · subst h2
      rw [if_pos (by omega), if_pos rfl, if_pos h, if_neg (by omega)]
      simp [Nat.min_eq_left (Nat.le_of_lt h)]
    · rw [if_neg (by omega), if_neg (by omega)]
      simp; omega
theorem set_drop {α : Type} (l : List α) (o k : Nat) (v : α) (h : o < k) : (l.set o v).drop k = l.drop k := by
  apply List.ext_getElem?
  intro j
  rw [List.getElem?_drop, List.getElem?_drop, List.getElem?_set, if_neg (by omega)]
theorem setCells_block (b : Nat) (T : TypeId) : ∀ (vs : List Value) (o : Nat) (w : World) (cur : Array Value), w.heap[b]? = some (.cells cur T (0, 0)) → o + vs.length ≤ cur.size →
    ∃ cur', (w.setCells b o vs).heap[b]? = some (.cells cur' T (0, 0)) ∧ cur'.toList = cur.toList.take o ++ vs ++ cur.toList.drop (o + vs.length)
  | [], o, w, cur, h, _ => ⟨cur, h, by simp⟩
  | v :: r, o, w, cur, h, hl => by
    simp only [List.length_cons] at hl
    have h1 : (w.setCell ⟨b, o, none⟩ v).heap[b]? = _ := heap_setCell_same h
    obtain ⟨cur', h2, h3⟩ := setCells_block b T r (o + 1) _ _ h1 (by simp; omega)
    refine ⟨cur', h2, ?_⟩
    rw [h3, Array.toList_setIfInBounds, set_take _ _ _ (by simp; omega), set_drop _ _ _ _ (by omega)]
    rw [show o + 1 + r.length = o + (v :: r).length by simp; omega]
    simp
theorem setCells_block2 (b : Nat) (T : TypeId) (vs : List Value) (o : Nat) (w : World) (cur : Array Value) (h : w.heap[b]? = some (.cells cur T (0, 0))) (hl : o + vs.length ≤ cur.size) :
    ∃ cur', (w.setCells b o vs).heap[b]? = some (.cells cur' T (0, 0)) ∧ cur'.toList = cur.toList.take o ++ vs ++ cur.toList.drop (o + vs.length) ∧ cur'.size = cur.size := by
  obtain ⟨c, hc, ht⟩ := setCells_block b T vs o w cur h hl
  refine ⟨c, hc, ht, ?_⟩
  have h2 := congrArg List.length ht
  simp only [List.length_append, List.length_take, List.length_drop, Array.length_toList] at h2
  omega
theorem setCells_ch {S : List Nat} {a : World} (b : Nat) : ∀ (vs : List Value) (o : Nat) (w : World), Ch S a w → (b ∈ S ∨ a.heap.size ≤ b) → Ch S a (w.setCells b o vs)
  | [], _, _, h, _ => h
  | v :: r, o, w, h, hb => setCells_ch b r (o + 1) _ (h.setCell (p := ⟨b, o, none⟩) hb v) hb

theorem ins_list {α : Type} (cs cur vs : List α) (i : Nat) (hi : i ≤ cs.length) (ht : cur.take cs.length = cs) :
    (((cur.take (i + vs.length) ++ cs.drop i ++ cur.drop (cs.length + vs.length)).take i ++ vs ++ (cur.take (i + vs.length) ++ cs.drop i ++ cur.drop (cs.length + vs.length)).drop (i + vs.length)).take (cs.length + vs.length) = cs.take i ++ vs ++ cs.drop i) ∨ cur.length < cs.length + vs.length := by
  by_cases hc : cur.length < cs.length + vs.length
  · exact .inr hc
  · left
    have e1 : (cur.take (i + vs.length)).length = i + vs.length := by rw [List.length_take]; omega
    have e2 : (cur.take (i + vs.length) ++ cs.drop i ++ cur.drop (cs.length + vs.length)).take i = cs.take i := by
      rw [List.append_assoc, List.take_append_of_le_length (by omega), List.take_take, Nat.min_eq_left (by omega)]
      conv => rhs; rw [← ht]
      rw [List.take_take, Nat.min_eq_left hi]
    have e3 : (cur.take (i + vs.length) ++ cs.drop i ++ cur.drop (cs.length + vs.length)).drop (i + vs.length) = cs.drop i ++ cur.drop (cs.length + vs.length) := by
      rw [List.append_assoc]
      exact List.drop_left' e1
    rw [e2, e3, ← List.append_assoc]
    have e4 : (cs.take i ++ vs ++ cs.drop i).length = cs.length + vs.length := by simp [List.length_take, List.length_drop]; omega
    exact List.take_left' e4
end Go.Proofs.Ytjecadkmlakncaa
