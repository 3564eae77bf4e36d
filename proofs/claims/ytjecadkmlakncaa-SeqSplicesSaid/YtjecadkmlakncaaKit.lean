/-
  Heap lemmas of this claim: what a call leaves as it was ('Ch'), one-cell blocks, owned rows, closed facts of the program.
-/
import Derived.Test.YtjecadkmlakncaaProg
import Derived.WalkKit
import Derived.WalkLawsBesides
import Derived.WalkSpells
import Derived.LaidEql
import Derived.Stop.Asserts
import Derived.Lib.Hide
import Derived.Lib.SliceRun
import Derived.Laws.EntriesVeiled
import Derived.Deep.LoopGhost
import Derived.Deep.QuietTactic
import Derived.BigQuiet
namespace Go.Proofs.Ytjecadkmlakncaa
open Go.RowKit

/-- Outside the blocks of S what was there is as it was. -/
structure Ch (S : List Nat) (w w' : World) : Prop where
  os : w'.os = w.os
  tape : w'.tape = w.tape
  output : w'.output = w.output
  size : w.heap.size ≤ w'.heap.size
  block : ∀ k, k < w.heap.size → k ∉ S → w'.heap[k]? = w.heap[k]?

theorem Ch.refl (S : List Nat) (w : World) : Ch S w w := ⟨rfl, rfl, rfl, Nat.le_refl _, fun _ _ _ => rfl⟩
theorem Ch.trans' {S S' : List Nat} {a b c : World} (h : Ch S a b) (k : Ch S' b c) (hs : ∀ x, x ∈ S' → x ∈ S ∨ a.heap.size ≤ x) : Ch S a c :=
  ⟨k.os.trans h.os, k.tape.trans h.tape, k.output.trans h.output, Nat.le_trans h.size k.size, fun i hi hn =>
    (k.block i (Nat.lt_of_lt_of_le hi h.size) (fun hm => (hs i hm).elim hn (fun hx => absurd hx (Nat.not_le.2 hi)))).trans (h.block i hi hn)⟩
theorem Ch.mono {S S' : List Nat} {a b : World} (h : Ch S a b) (hs : ∀ x, x ∈ S → x ∈ S' ∨ a.heap.size ≤ x) : Ch S' a b :=
  ⟨h.os, h.tape, h.output, h.size, fun i hi hn => h.block i hi (fun hm => (hs i hm).elim hn (fun hx => absurd hx (Nat.not_le.2 hi)))⟩
theorem Ch.trans {S : List Nat} {a b c : World} (h : Ch S a b) (k : Ch S b c) : Ch S a c := h.trans' k (fun _ hx => .inl hx)
theorem Ch.drew {S : List Nat} {a b : World} (h : Ch S a b) : Ch S a b.drew := ⟨h.os, h.tape, h.output, h.size, h.block⟩
theorem Ch.alloc {S : List Nat} {a b : World} (h : Ch S a b) (o : Obj) : Ch S a (b.alloc o) :=
  h.trans ⟨rfl, rfl, rfl, by simp, fun k hk _ => Below.heap_alloc _ _ _ hk⟩
theorem Ch.setCell {S : List Nat} {a b : World} (h : Ch S a b) {p : Addr} (hp : p.block ∈ S ∨ a.heap.size ≤ p.block) (u : Value) : Ch S a (b.setCell p u) :=
  h.trans' (S' := [p.block]) ⟨rfl, rfl, rfl, by simp, fun k _ hn => Below.heap_setCell _ _ _ _ (by simpa using hn)⟩ (by intro x hx; simp at hx; subst hx; exact hp)
theorem Ch.grown {S : List Nat} {a b c : World} {row : Option Nat} (h : Ch S a b) (hg : b.grownBy c row) (hr : ∀ k, row = some k → k ∈ S ∨ a.heap.size ≤ k) : Ch S a c :=
  h.trans' (S' := row.toList) ⟨hg.os, hg.tape, hg.output, hg.size, fun k hk hn => hg.block k hk (by intro e; subst e; simp at hn)⟩ (by intro x hx; exact hr x (by simpa using hx))
theorem Ch.below {a b : World} (h : Ch [] a b) : Below a.heap.size a b := ⟨h.os, h.tape, h.output, h.size, fun k hk => h.block k hk (by simp)⟩
theorem Ch.of_below {a b : World} (h : Below a.heap.size a b) (S : List Nat) : Ch S a b := ⟨h.os, h.tape, h.output, h.size, fun k hk _ => h.block k hk⟩
theorem Ch.heap {S : List Nat} {a b : World} (h : Ch S a b) {k : Nat} {o : Obj} (hk : a.heap[k]? = some o) (hn : k ∉ S) : b.heap[k]? = some o :=
  (h.block k (lt_of_block hk) hn).trans hk
/-- The rules that the walk uses behind a contract: what was there reads as it read. -/
theorem Ch.rules {S : List Nat} {a b : World} (h : Ch S a b) :
    (∀ k o, k < a.heap.size → k ∉ S → b.cell? ⟨k, o, none⟩ = a.cell? ⟨k, o, none⟩) ∧ (∀ k o, k < a.heap.size → k ∉ S → b.frozen? ⟨k, o, none⟩ = a.frozen? ⟨k, o, none⟩) :=
  ⟨fun k _ hk hn => World.cell?_of_block (w := a) (h.block k hk hn), fun k _ hk hn => World.frozen?_of_block (w := a) (h.block k hk hn)⟩
theorem Ch.rules0 {a b : World} (h : Ch [] a b) :
    (∀ k o, k < a.heap.size → b.cell? ⟨k, o, none⟩ = a.cell? ⟨k, o, none⟩) ∧ (∀ k o, k < a.heap.size → b.frozen? ⟨k, o, none⟩ = a.frozen? ⟨k, o, none⟩) :=
  ⟨fun k o hk => h.rules.1 k o hk (by simp), fun k o hk => h.rules.2 k o hk (by simp)⟩

/-- Below block B, but for the blocks of S, the world is as it was. -/
structure Bel (B : Nat) (S : List Nat) (w w' : World) : Prop where
  os : w'.os = w.os
  tape : w'.tape = w.tape
  output : w'.output = w.output
  size : w.heap.size ≤ w'.heap.size
  block : ∀ k, k < B → k ∉ S → w'.heap[k]? = w.heap[k]?
theorem Bel.refl (B : Nat) (S : List Nat) (w : World) : Bel B S w w := ⟨rfl, rfl, rfl, Nat.le_refl _, fun _ _ _ => rfl⟩
theorem Bel.trans {B : Nat} {S : List Nat} {a b c : World} (h : Bel B S a b) (k : Bel B S b c) : Bel B S a c :=
  ⟨k.os.trans h.os, k.tape.trans h.tape, k.output.trans h.output, Nat.le_trans h.size k.size, fun i hi hn => (k.block i hi hn).trans (h.block i hi hn)⟩
theorem Bel.mono {B B' : Nat} {S S' : List Nat} {a b : World} (h : Bel B S a b) (hB : B' ≤ B) (hs : ∀ x, x ∈ S → x ∈ S' ∨ B' ≤ x) : Bel B' S' a b :=
  ⟨h.os, h.tape, h.output, h.size, fun i hi hn => h.block i (Nat.lt_of_lt_of_le hi hB) (fun hm => (hs i hm).elim hn (fun hx => absurd hx (Nat.not_le.2 hi)))⟩
theorem Bel.alloc {B : Nat} {S : List Nat} {a b : World} (h : Bel B S a b) (hB : B ≤ b.heap.size) (o : Obj) : Bel B S a (b.alloc o) :=
  h.trans ⟨rfl, rfl, rfl, by simp, fun k hk _ => Below.heap_alloc _ _ _ (by omega)⟩
theorem Bel.drew {B : Nat} {S : List Nat} {a b : World} (h : Bel B S a b) : Bel B S a b.drew := ⟨h.os, h.tape, h.output, h.size, h.block⟩
theorem Bel.setCell {B : Nat} {S : List Nat} {a b : World} (h : Bel B S a b) {p : Addr} (hp : p.block ∈ S ∨ B ≤ p.block) (u : Value) : Bel B S a (b.setCell p u) :=
  h.trans ⟨rfl, rfl, rfl, by simp, fun k hk hn => Below.heap_setCell _ _ _ _ (by rintro rfl; exact hp.elim hn (fun hx => absurd hx (Nat.not_le.2 hk)))⟩
theorem Ch.bel {S S' : List Nat} {B : Nat} {a b : World} (h : Ch S a b) (hB : B ≤ a.heap.size) (hs : ∀ x, x ∈ S → x ∈ S' ∨ B ≤ x) : Bel B S' a b :=
  ⟨h.os, h.tape, h.output, h.size, fun i hi hn => h.block i (Nat.lt_of_lt_of_le hi hB) (fun hm => (hs i hm).elim hn (fun hx => absurd hx (Nat.not_le.2 hi)))⟩
theorem Bel.heap {B : Nat} {S : List Nat} {a b : World} (h : Bel B S a b) {k : Nat} {o : Obj} (hk : a.heap[k]? = some o) (hB : k < B) (hn : k ∉ S) : b.heap[k]? = some o := (h.block k hB hn).trans hk
theorem Bel.below {B : Nat} {a b : World} (h : Bel B [] a b) : Below B a b := ⟨h.os, h.tape, h.output, h.size, fun k hk => h.block k hk (by simp)⟩
theorem Below.bel {B : Nat} {a b : World} (h : Below B a b) (S : List Nat) : Bel B S a b := ⟨h.os, h.tape, h.output, h.size, fun k hk _ => h.block k hk⟩
theorem Bel.own {B : Nat} {S : List Nat} {w w' : World} (h : Bel B S w w') {base : Nat} {e : TypeId} {size : Nat} {v : Value} {n : Nat} {xs : List Value} (ho : w.ownsRow base e size v n xs) (hn : ∀ g, v.ownBlock = some g → g < B ∧ g ∉ S) : w'.ownsRow base e size v n xs := by
  refine ⟨ho.1, ?_⟩
  rcases ho.2 with h2 | ⟨g, cap, cur, rfl, hg, hh, r⟩
  · exact .inl h2
  · exact .inr ⟨g, cap, cur, rfl, hg, h.heap hh (hn g rfl).1 (hn g rfl).2, r⟩
theorem own_mono {w : World} {base base' : Nat} {e : TypeId} {size : Nat} {v : Value} {n : Nat} {xs : List Value} (h : w.ownsRow base e size v n xs) (hb : base' ≤ base) : w.ownsRow base' e size v n xs := by
  refine ⟨h.1, ?_⟩
  rcases h.2 with h2 | ⟨g, cap, cur, r1, r2, r3⟩
  · exact .inl h2
  · exact .inr ⟨g, cap, cur, r1, Nat.le_trans hb r2, r3⟩
theorem own_base {w : World} {base : Nat} {e : TypeId} {size : Nat} {v : Value} {n : Nat} {xs : List Value} (h : w.ownsRow base e size v n xs) {g : Nat} (hg : v.ownBlock = some g) : base ≤ g ∧ g < w.heap.size := h.lt g hg

/-- Blocks of different element types are different. -/
theorem ne_of_elem {w : World} {b c : Nat} {x y : Array Value} {s t : TypeId} {fx fy : Nat × Nat} (hb : w.heap[b]? = some (.cells x s fx)) (hc : w.heap[c]? = some (.cells y t fy)) (h : s ≠ t) : b ≠ c := by
  rintro rfl; rw [hb] at hc; simp at hc; exact h hc.2.1
theorem own_ne {w : World} {base : Nat} {e : TypeId} {size : Nat} {v : Value} {n : Nat} {xs : List Value} (h : w.ownsRow base e size v n xs) {b : Nat} {x : Array Value} {t : TypeId} {f : Nat × Nat} (hb : w.heap[b]? = some (.cells x t f)) (hne : e ≠ t) :
    v.ownBlock ≠ some b := by
  rcases h.2 with ⟨rfl, _⟩ | ⟨g, cap, cur, rfl, _, hg, _⟩
  · simp [Value.ownBlock]
  · simp only [Value.ownBlock]; intro e; exact ne_of_elem hg hb hne (Option.some.inj e)
theorem own_kept {S : List Nat} {w w' : World} (h : Ch S w w') {base : Nat} {e : TypeId} {size : Nat} {v : Value} {n : Nat} {xs : List Value} (ho : w.ownsRow base e size v n xs) (hn : ∀ g, v.ownBlock = some g → g ∉ S) : w'.ownsRow base e size v n xs := by
  refine ⟨ho.1, ?_⟩
  rcases ho.2 with h2 | ⟨g, cap, cur, rfl, hg, hh, r⟩
  · exact .inl h2
  · exact .inr ⟨g, cap, cur, rfl, hg, h.heap hh (hn g rfl), r⟩
theorem cell_of {w : World} {b i : Nat} {x : Array Value} {t : TypeId} {f : Nat × Nat} (h : w.heap[b]? = some (.cells x t f)) : w.cell? ⟨b, i, none⟩ = x[i]? := by simp [World.cell?, h]
theorem free_of {w : World} {b i : Nat} {x : Array Value} {t : TypeId} (h : w.heap[b]? = some (.cells x t (0, 0))) : w.frozen? ⟨b, i, none⟩ = false := by simp [World.frozen?, h]
theorem heap_setCell_same {w : World} {b i : Nat} {x : Array Value} {t : TypeId} {f : Nat × Nat} {u : Value} (h : w.heap[b]? = some (.cells x t f)) : (w.setCell ⟨b, i, none⟩ u).heap[b]? = some (.cells (x.setIfInBounds i u) t f) := by
  have hlt := lt_of_block h
  have h' : w.heap[b] = .cells x t f := by simpa [Array.getElem?_eq_getElem hlt] using h
  show (w.heap.modify b _)[b]? = _
  rw [Array.getElem?_eq_getElem (by simpa using hlt), Array.getElem_modify_self, h']
  rfl
theorem heap_setCell_other {w : World} {b c i : Nat} {u : Value} (h : c ≠ b) : (w.setCell ⟨b, i, none⟩ u).heap[c]? = w.heap[c]? := Below.heap_setCell _ _ _ _ (by simpa using h)
theorem heap_alloc_same (w : World) (o : Obj) : (w.alloc o).heap[w.heap.size]? = some o := heap_alloc_new w o
theorem heap_alloc_past {w : World} {o p : Obj} {k : Nat} (h : w.heap[k]? = some p) : (w.alloc o).heap[k]? = some p := by
  rw [Below.heap_alloc _ _ _ (lt_of_block h)]; exact h

/-- The element type of a block of cells. -/
def kindOf : Obj → Option TypeId
  | .cells _ t _ => some t
  | _ => none
/-- Below block D the world is as it was; from D on every block is, but those of the kinds T. -/
structure Fr (D : Nat) (T : List (Option TypeId)) (w w' : World) : Prop where
  os : w'.os = w.os
  tape : w'.tape = w.tape
  output : w'.output = w.output
  size : w.heap.size ≤ w'.heap.size
  below : ∀ k, k < D → w'.heap[k]? = w.heap[k]?
  kept : ∀ (k : Nat) (o : Obj), w.heap[k]? = some o → kindOf o ∉ T → w'.heap[k]? = some o
theorem Fr.refl (D : Nat) (T : List (Option TypeId)) (w : World) : Fr D T w w := ⟨rfl, rfl, rfl, Nat.le_refl _, fun _ _ => rfl, fun _ _ h _ => h⟩
theorem Fr.trans {D : Nat} {T : List (Option TypeId)} {a b c : World} (h : Fr D T a b) (k : Fr D T b c) : Fr D T a c :=
  ⟨k.os.trans h.os, k.tape.trans h.tape, k.output.trans h.output, Nat.le_trans h.size k.size, fun i hi => (k.below i hi).trans (h.below i hi), fun i o hi ht => k.kept i o (h.kept i o hi ht) ht⟩
theorem Fr.alloc {D : Nat} {T : List (Option TypeId)} {a b : World} (h : Fr D T a b) (hD : D ≤ b.heap.size) (o : Obj) : Fr D T a (b.alloc o) :=
  h.trans ⟨rfl, rfl, rfl, by simp, fun k hk => Below.heap_alloc _ _ _ (by omega), fun k p hp _ => by rw [Below.heap_alloc _ _ _ (lt_of_block hp)]; exact hp⟩
theorem Fr.drew {D : Nat} {T : List (Option TypeId)} {a b : World} (h : Fr D T a b) : Fr D T a b.drew := ⟨h.os, h.tape, h.output, h.size, h.below, h.kept⟩
theorem Fr.setCell {D : Nat} {T : List (Option TypeId)} {a b : World} (h : Fr D T a b) {n i : Nat} {c : Array Value} {t : TypeId} {f : Nat × Nat} (hb : b.heap[n]? = some (.cells c t f)) (hD : D ≤ n) (ht : some t ∈ T) (u : Value) : Fr D T a (b.setCell ⟨n, i, none⟩ u) :=
  h.trans ⟨rfl, rfl, rfl, by simp, fun k hk => Below.heap_setCell _ _ _ _ (by simp; omega), fun k p hp hn => by
    rw [Below.heap_setCell _ _ _ _ (by rintro rfl; rw [hb] at hp; cases hp; exact hn ht)]; exact hp⟩
theorem Fr.heap {D : Nat} {T : List (Option TypeId)} {a b : World} (h : Fr D T a b) {k : Nat} {c : Array Value} {t : TypeId} {f : Nat × Nat} (hk : a.heap[k]? = some (.cells c t f)) (hn : some t ∉ T) : b.heap[k]? = some (.cells c t f) := h.kept k _ hk hn
theorem Fr.to_below {D : Nat} {T : List (Option TypeId)} {a b : World} (h : Fr D T a b) : Below D a b := ⟨h.os, h.tape, h.output, h.size, h.below⟩
theorem Fr.mono {D D' : Nat} {T T' : List (Option TypeId)} {a b : World} (h : Fr D T a b) (hD : D' ≤ D) (hT : ∀ t, t ∈ T → t ∈ T') : Fr D' T' a b :=
  ⟨h.os, h.tape, h.output, h.size, fun k hk => h.below k (Nat.lt_of_lt_of_le hk hD), fun k o hk hn => h.kept k o hk (fun hm => hn (hT _ hm))⟩
theorem Fr.of_below {D : Nat} {T : List (Option TypeId)} {a b : World} (h : Below a.heap.size a b) (hD : D ≤ a.heap.size) : Fr D T a b :=
  ⟨h.os, h.tape, h.output, h.size, fun k hk => h.block k (by omega), fun k o hk _ => (h.block k (lt_of_block hk)).trans hk⟩
theorem Fr.of_ch {D : Nat} {T : List (Option TypeId)} {S : List Nat} {a b : World} (h : Ch S a b) (hD : D ≤ a.heap.size) (hs : ∀ x, x ∈ S → D ≤ x ∧ ∀ o, a.heap[x]? = some o → kindOf o ∈ T) : Fr D T a b :=
  ⟨h.os, h.tape, h.output, h.size, fun k hk => h.block k (by omega) (fun hm => by have := (hs k hm).1; omega), fun k o hk hn => (h.block k (lt_of_block hk) (fun hm => hn ((hs k hm).2 o hk))).trans hk⟩
theorem own_kind {w : World} {base : Nat} {e : TypeId} {size : Nat} {v : Value} {n : Nat} {xs : List Value} (h : w.ownsRow base e size v n xs) {g : Nat} (hg : v.ownBlock = some g) {o : Obj} (ho : w.heap[g]? = some o) : kindOf o = some e := by
  rcases h.2 with ⟨rfl, _⟩ | ⟨g', cap, cur, rfl, _, hh, _⟩
  · simp [Value.ownBlock] at hg
  · simp [Value.ownBlock] at hg; subst hg; rw [hh] at ho; cases ho; rfl
theorem Fr.own {D : Nat} {T : List (Option TypeId)} {w w' : World} (h : Fr D T w w') {base : Nat} {e : TypeId} {size : Nat} {v : Value} {n : Nat} {xs : List Value} (ho : w.ownsRow base e size v n xs) (hn : some e ∉ T) : w'.ownsRow base e size v n xs := by
  refine ⟨ho.1, ?_⟩
  rcases ho.2 with h2 | ⟨g, cap, cur, rfl, hg, hh, r⟩
  · exact .inl h2
  · exact .inr ⟨g, cap, cur, rfl, hg, h.heap hh hn, r⟩
theorem Fr.rules0 {D : Nat} {T : List (Option TypeId)} {a b : World} (h : Fr D T a b) {k : Nat} {c : Array Value} {t : TypeId} (hk : a.heap[k]? = some (.cells c t (0, 0))) (hn : some t ∉ T) (i : Nat) : b.cell? ⟨k, i, none⟩ = c[i]? ∧ b.frozen? ⟨k, i, none⟩ = false :=
  ⟨cell_of (h.heap hk hn), free_of (h.heap hk hn)⟩
/-- A store of what stands there changes nothing. -/
theorem setCell_id {w : World} {b : Nat} {v : Value} {t : TypeId} {f : Nat × Nat} (h : w.heap[b]? = some (.cells #[v] t f)) : w.setCell ⟨b, 0, none⟩ v = w := by
  have hlt := lt_of_block h
  have h' : w.heap[b] = .cells #[v] t f := by simpa [Array.getElem?_eq_getElem hlt] using h
  have e : w.heap.modify b (fun | .cells c elem frozen => .cells (if (none : Option Nat).isSome then c else c.setIfInBounds 0 v) elem frozen | o => o) = w.heap := by
    apply Array.ext_getElem?
    intro i
    rw [Array.getElem?_modify]
    split
    · rename_i hi; subst hi; rw [h]; simp
    · rfl
  show { w with heap := _ } = w
  exact congrArg (fun hp => { w with heap := hp }) e
@[go_sem] theorem run_makeFunc_any {P : Program} (fn : Fn) (first cap : Array Value) (w : World) : (Instr.makeFunc fn first cap).run P w = .ok (.func fn first cap) w := rfl

/-- The element type of a slice type. -/
@[go_sem] def sliceElem (P : Program) (t : TypeId) : TypeId :=
  match P.underlying t with
  | some (.slice e) => e
  | _ => 0
@[go_sem] theorem run_eql_slice_nil_at {P : Program} (w : World) (t : TypeId) (a : Option Addr) (n c n' c' : Nat) (h : P.underlying t = some (.slice (sliceElem P t))) :
    (binOp .eql t (.slice a n c) (.slice none n' c')).run P w = .ok (.bool a.isNone) w := Lib.run_eql_slice_nil w t _ a n c n' c' h
end Go.Proofs.Ytjecadkmlakncaa
