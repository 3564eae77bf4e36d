/-
  The tree's nodes: what stands in the blocks.
-/
import Derived.Test.YtjecadkmlakncaaRw
import Derived.Test.YtjecadkmlakncaaLs1
namespace Go.Proofs.Ytjecadkmlakncaa
open Go.RowKit

abbrev PN (k : Nat) : Value := .pointer (some ⟨k, 0, none⟩)
/-- A node of elements. -/
structure LeafAt (w : World) (b : Nat) (xs : List Value) (lv kv : Value) (b1 o1 : Nat) : Prop where
  blk : w.heap[b]? = some (.cells #[lv, kv, .int .i64 xs.length] 83 (0, 0))
  kid : ∃ a c, kv = .slice a 0 c
  row : Row1 2 w b1 o1 lv xs
  one : ∀ u ∈ xs, u.oneCell' = true
  le : xs.length ≤ 8
/-- A node of nodes; n: how many elements there are below it. -/
structure InnerAt (w : World) (b : Nat) (ks : List Nat) (n : Nat) (lv kv : Value) (b1 o1 : Nat) : Prop where
  blk : w.heap[b]? = some (.cells #[lv, kv, .int .i64 n] 83 (0, 0))
  el : ∃ a c, lv = .slice a 0 c
  row : Row1 74 w b1 o1 kv (ks.map PN)
  le : ks.length ≤ 8
/-- A node of height h whose elements are xs. 'lo' and 'ko': how many elements a leaf, how many nodes an inner node must have. P: where its blocks lie. -/
def NodeW (w : World) (P : Nat → Prop) : Nat → Nat → Nat → Nat → List Value → Prop
  | lo, _, 0, b, xs => ∃ lv kv b1 o1, LeafAt w b xs lv kv b1 o1 ∧ lo ≤ xs.length ∧ P b ∧ (xs ≠ [] → P b1)
  | _, ko, h + 1, b, xs => ∃ (lv kv : Value) (b1 o1 : Nat) (ks : List Nat) (yss : List (List Value)), InnerAt w b ks xs.length lv kv b1 o1 ∧ ks.length = yss.length ∧ xs = yss.flatten ∧ ko ≤ ks.length ∧ P b ∧ (ks ≠ [] → P b1) ∧
      ∀ (i k : Nat) (ys : List Value), ks[i]? = some k → yss[i]? = some ys → NodeW w P 1 2 h k ys
/-- Many nodes of height h. -/
def NodesW (w : World) (P : Nat → Prop) (h : Nat) (ks : List Nat) (yss : List (List Value)) : Prop := ∀ (i k : Nat) (ys : List Value), ks[i]? = some k → yss[i]? = some ys → NodeW w P 1 2 h k ys
theorem NodeW.mono {w : World} {P Q : Nat → Prop} (hPQ : ∀ k, P k → k < w.heap.size → Q k) : ∀ {h lo lo' ko ko' b : Nat} {xs : List Value}, lo' ≤ lo → ko' ≤ ko → NodeW w P lo ko h b xs → NodeW w Q lo' ko' h b xs
  | 0, _, _, _, _, _, _, hl, _, ⟨lv, kv, b1, o1, h1, h2, h3, h4⟩ => ⟨lv, kv, b1, o1, h1, Nat.le_trans hl h2, hPQ _ h3 (lt_of_block h1.blk), fun hne => hPQ _ (h4 hne) (h1.row.lt hne)⟩
  | _ + 1, _, _, _, _, _, _, _, hk, ⟨lv, kv, b1, o1, ks, yss, h1, h2, h3, h4, h5, h6, h7⟩ =>
    ⟨lv, kv, b1, o1, ks, yss, h1, h2, h3, Nat.le_trans hk h4, hPQ _ h5 (lt_of_block h1.blk), fun hne => hPQ _ (h6 hne) (h1.row.lt (by simpa using hne)), fun i k ys hi hy => NodeW.mono hPQ (Nat.le_refl _) (Nat.le_refl _) (h7 i k ys hi hy)⟩
theorem NodeW.sub {w : World} {P Q : Nat → Prop} (hPQ : ∀ k, P k → k < w.heap.size → Q k) {h lo ko b : Nat} {xs : List Value} (hn : NodeW w P lo ko h b xs) : NodeW w Q lo ko h b xs := hn.mono hPQ (Nat.le_refl _) (Nat.le_refl _)
theorem NodesW.sub {w : World} {P Q : Nat → Prop} (hPQ : ∀ k, P k → k < w.heap.size → Q k) {h : Nat} {ks : List Nat} {yss : List (List Value)} (hn : NodesW w P h ks yss) : NodesW w Q h ks yss := fun i k ys hi hy => (hn i k ys hi hy).sub hPQ
/-- What stands in a node's block. -/
theorem NodeW.blk {w : World} {P : Nat → Prop} {lo ko : Nat} : ∀ {h b : Nat} {xs : List Value}, NodeW w P lo ko h b xs → ∃ lv kv, w.heap[b]? = some (.cells #[lv, kv, .int .i64 xs.length] 83 (0, 0))
  | 0, _, _, ⟨lv, kv, _, _, h1, _⟩ => ⟨lv, kv, h1.blk⟩
  | _ + 1, _, _, ⟨lv, kv, _, _, _, _, h1, _⟩ => ⟨lv, kv, h1.blk⟩
theorem NodeW.lt {w : World} {P : Nat → Prop} {lo ko h b : Nat} {xs : List Value} (hn : NodeW w P lo ko h b xs) : b < w.heap.size := by
  obtain ⟨lv, kv, hb⟩ := hn.blk
  exact lt_of_block hb
theorem NodeW.one {w : World} {P : Nat → Prop} : ∀ {h lo ko b : Nat} {xs : List Value}, NodeW w P lo ko h b xs → ∀ u ∈ xs, u.oneCell' = true
  | 0, _, _, _, _, ⟨_, _, _, _, h1, _⟩, u, hu => h1.one u hu
  | h + 1, _, _, _, _, ⟨_, _, _, _, ks, yss, _, h2, h3, _, _, _, h7⟩, u, hu => by
    rw [h3] at hu
    obtain ⟨ys, hys, hu⟩ := List.mem_flatten.1 hu
    obtain ⟨i, hi, hy⟩ := List.getElem_of_mem hys
    exact NodeW.one (h7 i _ ys (List.getElem?_eq_getElem (by omega)) (by rw [List.getElem?_eq_getElem hi, hy])) u hu
/-- The blocks of S are no blocks of such a node: they lie elsewhere, or are of other kinds. -/
def Apart (w : World) (P : Nat → Prop) (S : List Nat) : Prop := ∀ x, x ∈ S → P x → ∀ cs T f, w.heap[x]? = some (.cells cs T f) → T ≠ 83 ∧ T ≠ 2 ∧ T ≠ 74
theorem Apart.nil (w : World) (P : Nat → Prop) : Apart w P [] := fun x h => by cases h
theorem Apart.tree {w : World} {P : Nat → Prop} {tb : Nat} {cs : Array Value} {f : Nat × Nat} (ht : w.heap[tb]? = some (.cells cs 76 f)) : Apart w P [tb] := by
  intro x hx _ cs' T f' h
  simp at hx
  subst hx
  rw [ht] at h
  cases h
  decide
theorem Apart.out {w : World} {P : Nat → Prop} {S : List Nat} (h : ∀ x, x ∈ S → ¬ P x) : Apart w P S := fun x hx hp => absurd hp (h x hx)
/-- Nodes stay as they are when only other blocks are written. -/
theorem NodeW.ch {w w' : World} {P : Nat → Prop} {S : List Nat} (hc : Ch S w w') (hS : Apart w P S) : ∀ {h lo ko b : Nat} {xs : List Value}, NodeW w P lo ko h b xs → NodeW w' P lo ko h b xs
  | 0, lo, ko, b, xs, ⟨lv, kv, b1, o1, h1, h2, h3, h4⟩ => ⟨lv, kv, b1, o1, ⟨hc.heap h1.blk (fun h => (hS b h h3 _ _ _ h1.blk).1 rfl), h1.kid, h1.row.ch hc (fun hne hm => by
      obtain ⟨cur, hb, _⟩ := h1.row.2 hne
      exact (hS b1 hm (h4 hne) _ _ _ hb).2.1 rfl), h1.one, h1.le⟩, h2, h3, h4⟩
  | h + 1, lo, ko, b, xs, ⟨lv, kv, b1, o1, ks, yss, h1, h2, h3, h4, h5, h6, h7⟩ =>
    ⟨lv, kv, b1, o1, ks, yss, ⟨hc.heap h1.blk (fun h => (hS b h h5 _ _ _ h1.blk).1 rfl), h1.el, h1.row.ch hc (fun hne hm => by
      obtain ⟨cur, hb, _⟩ := h1.row.2 hne
      exact (hS b1 hm (h6 (by simpa using hne)) _ _ _ hb).2.2 rfl), h1.le⟩, h2, h3, h4, h5, h6, fun i k ys hi hy => NodeW.ch hc hS (h7 i k ys hi hy)⟩
theorem NodesW.ch {w w' : World} {P : Nat → Prop} {S : List Nat} {h : Nat} {ks : List Nat} {yss : List (List Value)} (hn : NodesW w P h ks yss) (hc : Ch S w w') (hS : Apart w P S) : NodesW w' P h ks yss := fun i k ys hi hy => (hn i k ys hi hy).ch hc hS
/-- A tree's block. -/
abbrev TreeBlk (w : World) (tb : Nat) (root : Value) (wr : Nat) : Prop := w.heap[tb]? = some (.cells #[root, .int .i64 wr] 76 (0, 0))
theorem pn_one (ks : List Nat) : ∀ u ∈ ks.map PN, u.oneCell' = true := by
  intro u hu
  obtain ⟨k, _, rfl⟩ := List.mem_map.1 hu
  rfl
end Go.Proofs.Ytjecadkmlakncaa
