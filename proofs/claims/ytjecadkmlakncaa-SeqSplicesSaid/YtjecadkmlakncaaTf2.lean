/-
  The tree: its calls.
-/
import Derived.Test.YtjecadkmlakncaaTe4
import Derived.Test.YtjecadkmlakncaaTe9
import Derived.Test.YtjecadkmlakncaaTf1
namespace Go.Proofs.Ytjecadkmlakncaa
open Go.RowKit

/-- The tree at block tb holds xs; so many nodes were written. -/
def TreeIs (w : World) (P : Nat → Prop) (tb : Nat) (xs : List Value) (wr : Nat) : Prop :=
  ∃ root, TreeBlk w tb root wr ∧ ((root = .pointer none ∧ xs = []) ∨ ∃ h rb, root = PN rb ∧ NodeW w P 1 2 h rb xs)
/-- Few nodes: at most three a level. -/
def Few (n d : Nat) : Prop := ∃ h, 2 ^ h ≤ n + 1 ∧ d ≤ 3 * h + 3
theorem NodeW.pow {w : World} {P : Nat → Prop} : ∀ {h b : Nat} {xs : List Value}, NodeW w P 1 2 h b xs → 2 ^ h ≤ xs.length
  | 0, _, _, hn => by have := hn.pos; simpa using this
  | h + 1, _, xs, ⟨_, _, _, _, ks, yss, _, h2, h3, h4, _, _, h7⟩ => by
    obtain ⟨q, hq⟩ : ∃ q, ks[0]? = some q := ⟨_, List.getElem?_eq_getElem (by omega)⟩
    obtain ⟨ys, hy⟩ : ∃ ys, yss[0]? = some ys := ⟨_, List.getElem?_eq_getElem (by omega)⟩
    obtain ⟨q', hq'⟩ : ∃ q, ks[1]? = some q := ⟨_, List.getElem?_eq_getElem (by omega)⟩
    obtain ⟨ys', hy'⟩ : ∃ ys, yss[1]? = some ys := ⟨_, List.getElem?_eq_getElem (by omega)⟩
    have a1 := NodeW.pow (h7 0 q ys hq hy)
    have a2 := NodeW.pow (h7 1 q' ys' hq' hy')
    have h5 := lies_len hy'
    rw [take_succ_len hy, ← h3] at h5
    rw [Nat.pow_succ]
    omega
theorem pow_small {h n : Nat} (hp : 2 ^ h ≤ n) (hn : n ≤ 5000) : h ≤ 12 := by
  rcases Nat.lt_or_ge 12 h with h1 | h1
  · have := Nat.pow_le_pow_right (show 0 < 2 by omega) h1
    omega
  · exact h1
theorem TreeIs.ch {w w' : World} {P : Nat → Prop} {tb wr : Nat} {xs : List Value} {S : List Nat} (ht : TreeIs w P tb xs wr) (hc : Ch S w w') (hS : ∀ x, x ∈ S → ∀ cs T f, w.heap[x]? = some (.cells cs T f) → T ≠ 76 ∧ (P x → T ≠ 83 ∧ T ≠ 2 ∧ T ≠ 74)) : TreeIs w' P tb xs wr := by
  obtain ⟨root, hb, h⟩ := ht
  refine ⟨root, hc.heap hb (fun hx => (hS tb hx _ _ _ hb).1 rfl), ?_⟩
  rcases h with h | ⟨h, rb, hr, hn⟩
  · exact .inl h
  · exact .inr ⟨h, rb, hr, hn.ch hc (fun x hx hp cs T f hh => (hS x hx cs T f hh).2 hp)⟩
theorem TreeIs.ch0 {w w' : World} {P : Nat → Prop} {tb wr : Nat} {xs : List Value} (ht : TreeIs w P tb xs wr) (hc : Ch [] w w') : TreeIs w' P tb xs wr := ht.ch hc (fun x hx => by cases hx)
theorem TreeIs.sub {w : World} {P Q : Nat → Prop} {tb wr : Nat} {xs : List Value} (ht : TreeIs w P tb xs wr) (hPQ : ∀ k, P k → k < w.heap.size → Q k) : TreeIs w Q tb xs wr := by
  obtain ⟨root, hb, h⟩ := ht
  refine ⟨root, hb, ?_⟩
  rcases h with h | ⟨h, rb, hr, hn⟩
  · exact .inl h
  · exact .inr ⟨h, rb, hr, hn.sub hPQ⟩
theorem TreeIs.one {w : World} {P : Nat → Prop} {tb wr : Nat} {xs : List Value} (ht : TreeIs w P tb xs wr) : ∀ u ∈ xs, u.oneCell' = true := by
  obtain ⟨root, hb, h⟩ := ht
  rcases h with ⟨_, rfl⟩ | ⟨h, rb, hr, hn⟩
  · simp
  · exact hn.one
theorem TreeIs.blk {w : World} {P : Nat → Prop} {tb wr : Nat} {xs : List Value} (ht : TreeIs w P tb xs wr) : ∃ root, TreeBlk w tb root wr := by
  obtain ⟨root, hb, _⟩ := ht
  exact ⟨root, hb⟩

/-- New: an empty tree. -/
theorem tnew_any (w : World) : Calls Try.prog 30 #[] w fun e w' => e = .returned (PN w.heap.size) ∧ w' = w.alloc (.cells #[.pointer none, .int .i64 0] 76) := by
  go_enter Try.func30, Try.ntmps30
  go_wp2
  go_ret
  exact ⟨rfl, rfl⟩
theorem tnew_is (w : World) (P : Nat → Prop) : TreeIs (w.alloc (.cells #[.pointer none, .int .i64 0] 76)) P w.heap.size [] 0 := ⟨.pointer none, heap_alloc_same _ _, .inl ⟨rfl, rfl⟩⟩
theorem tlen_any (w : World) (P : Nat → Prop) (tb wr : Nat) (xs : List Value) (ht : TreeIs w P tb xs wr) : Calls Try.prog 47 #[PN tb] w fun e w' => e = .returned (.int .i64 xs.length) ∧ w = w' := by
  obtain ⟨root, hb, h⟩ := ht
  rcases h with ⟨rfl, rfl⟩ | ⟨h, rb, rfl, hn⟩
  · exact len_none w tb wr hb
  · obtain ⟨lv, kv, hblk⟩ := hn.blk
    exact len_some w tb wr rb xs.length lv kv hb hblk
theorem twrites_any (w : World) (P : Nat → Prop) (tb wr : Nat) (xs : List Value) (ht : TreeIs w P tb xs wr) : Calls Try.prog 44 #[PN tb] w fun e w' => e = .returned (.int .i64 wr) ∧ w = w' := by
  obtain ⟨root, hb, _⟩ := ht
  have t1 : w.cell? ⟨tb, 1, none⟩ = some (.int .i64 wr) := by rw [cell_of hb]; rfl
  clear hb
  go_enter Try.func44, Try.ntmps44
  go_wp2
  go_ret
  exact ⟨rfl, rfl⟩
theorem tat_ok (w : World) (P : Nat → Prop) (tb wr i : Nat) (xs : List Value) (z : Int) (ht : TreeIs w P tb xs wr) (hN : xs.length ≤ 10000) (hv : xs[i]? = some (.int .i64 z)) :
    Calls Try.prog 35 #[PN tb, .int .i64 i] w fun e w' => e = .returned (.tuple #[.int .i64 z, .bool true]) ∧ w = w' := by
  obtain ⟨root, hb, h⟩ := ht
  rcases h with ⟨rfl, rfl⟩ | ⟨h, rb, rfl, hn⟩
  · simp at hv
  · exact at_ok w _ tb wr h rb i xs z hb hn hN hv
theorem tat_no (w : World) (P : Nat → Prop) (tb wr : Nat) (i : Int) (xs : List Value) (ht : TreeIs w P tb xs wr) (hi : i < 0 ∨ (xs.length : Int) ≤ i) :
    Calls Try.prog 35 #[PN tb, .int .i64 i] w fun e w' => e = .returned (.tuple #[.int .i64 0, .bool false]) ∧ w = w' := by
  by_cases h0 : i < 0
  · exact at_neg w tb i h0
  · exact at_past w tb xs.length i (tlen_any w P tb wr xs ht) (by omega) (by omega)

set_option maxRecDepth 100000 in
set_option maxHeartbeats 1000000 in
theorem tslice_any (w : World) (P : Nat → Prop) (tb wr : Nat) (xs : List Value) (ht : TreeIs w P tb xs wr) (hN : xs.length ≤ 10000) :
    Calls Try.prog 38 #[PN tb, .int .i64 0, .int .i64 xs.length] w fun e w' => ∃ sv, e = .returned sv ∧ w'.ownsRow w.heap.size 2 1 sv xs.length xs ∧ Ch [] w w' := by
  have hlen := Lib.hid (tlen_any w P tb wr xs ht)
  obtain ⟨root, hb, h⟩ := ht
  have t1 : w.cell? ⟨tb, 0, none⟩ = some root := by rw [cell_of hb]; rfl
  clear hb
  rcases h with ⟨rfl, rfl⟩ | ⟨h, rb, rfl, hn⟩
  · go_enter Try.func38, Try.ntmps38
    go_wp2_with fail
    refine hlen.out.mono ?_
    rintro e w' ⟨rfl, rfl⟩
    go_wp2
    go_ret
    exact ⟨_, rfl, World.ownsRow_nil _ _ _ _, Ch.refl _ _⟩
  · have hpos := hn.pos
    have m1 : min (xs.length : Int) (xs.length : Int) = (xs.length : Int) := by omega
    have m2 : (0 : Int) < (xs.length : Int) := by omega
    have m3 : 0 < xs.length := by omega
    have m4 : ¬ (xs = []) := by rintro rfl; simp at m3
    have m5 : decide (xs = []) = false := by simpa using m4
    have hg := Lib.hid (gathers_all w P h w rb 0 xs [] (.slice none 0 0) 0 xs.length hn (Ch.refl _ _) (World.ownsRow_nil _ _ _ _) (by omega) (by omega) (by omega) (by omega) (by omega))
    clear hn hpos
    go_enter Try.func38, Try.ntmps38
    go_wp2_with fail
    refine hlen.out.mono ?_
    rintro e w' ⟨rfl, rfl⟩
    go_wp2_with fail
    refine hg.out.mono ?_
    rintro e w2 ⟨ov, rfl, ho, hc⟩
    have H2 := Lib.hid (And.intro ho hc)
    clear ho hc
    go_wp2
    go_ret
    exact ⟨_, rfl, by simpa using H2.out.1, H2.out.2⟩

theorem tinsert_bad_neg (w : World) (tb : Nat) (i z : Int) (h0 : i < 0) :
    Calls Try.prog 31 #[PN tb, .int .i64 i, .int .i64 z] w fun e w' => e = .returned (.int .i64 73) ∧ w = w' := by
  go_enter Try.func31, Try.ntmps31
  go_wp2_with fail
  go_ret
  exact ⟨rfl, rfl⟩
theorem tinsert_bad_past (w : World) (P : Nat → Prop) (tb wr : Nat) (i z : Int) (xs : List Value) (ht : TreeIs w P tb xs wr) (h0 : 0 ≤ i) (h1 : (xs.length : Int) < i) :
    Calls Try.prog 31 #[PN tb, .int .i64 i, .int .i64 z] w fun e w' => e = .returned (.int .i64 73) ∧ w = w' := by
  have hlen := Lib.hid (tlen_any w P tb wr xs ht)
  have h2 : ¬ (i < 0) := by omega
  clear ht
  go_enter Try.func31, Try.ntmps31
  go_wp2_with fail
  refine hlen.out.mono ?_
  rintro e w' ⟨rfl, rfl⟩
  go_wp2
  go_ret
  exact ⟨rfl, rfl⟩
/-- InsertAt: at a place that there is. -/
def Inserted (w : World) (P : Nat → Prop) (tb wr : Nat) (ys : List Value) (n : Nat) (e : Ending) (w' : World) : Prop := ∃ d, e = .returned (.int .i64 0) ∧ TreeIs w' (fun k => P k ∨ w.heap.size ≤ k) tb ys (wr + d) ∧ Ch [tb] w w' ∧ Few n d
theorem tree_set {w : World} {tb wr : Nat} {root : Value} (ht : TreeBlk w tb root wr) (u : Value) : TreeBlk (w.setCell ⟨tb, 0, none⟩ u) tb u wr := heap_setCell_same ht
set_option maxRecDepth 100000 in
set_option maxHeartbeats 2000000 in
theorem tinsert_ok (w : World) (P : Nat → Prop) (tb wr i : Nat) (z : Int) (xs : List Value) (ht : TreeIs w P tb xs wr) (hi : i ≤ xs.length) (hN : xs.length ≤ 5000) (hwr : wr ≤ 1152921504606846976) :
    Calls Try.prog 31 #[PN tb, .int .i64 i, .int .i64 z] w (Inserted w P tb wr (insL xs i (.int .i64 z)) xs.length) := by
  have hlen := Lib.hid (tlen_any w P tb wr xs ht)
  obtain ⟨root, hb, h⟩ := ht
  have t1 : w.cell? ⟨tb, 0, none⟩ = some root := by rw [cell_of hb]; rfl
  have f1 : w.frozen? ⟨tb, 0, none⟩ = false := free_of hb
  have d1 : decide ((i : Int) < 0) = false := by simp
  have d2 : ¬ ((xs.length : Int) < (i : Int)) := by omega
  have d3 : decide (xs.length < i) = false := by simp; omega
  rcases h with ⟨rfl, rfl⟩ | ⟨h, rb, rfl, hn⟩
  · obtain rfl : i = 0 := by simpa using hi
    have hL := Lib.hid (leaf_any (w.alloc (.cells #[.int .i64 z] 2)) (fun k => w.heap.size ≤ k) tb wr (.pointer none) (.slice (some ⟨w.heap.size, 0, none⟩) 1 1) w.heap.size 0 [.int .i64 z] (fun _ => Nat.le_refl _) (heap_alloc_past hb) (by omega) ⟨⟨_, 1, rfl, by simp, fun _ => rfl⟩, fun _ => ⟨_, heap_alloc_same _ _, by simp⟩⟩ (by simp [Value.oneCell']) (by simp))
    have HB := Lib.hid hb
    clear hb hi
    go_enter Try.func31, Try.ntmps31
    go_wp2_with fail
    refine hlen.out.mono ?_
    rintro e w' ⟨rfl, rfl⟩
    go_wp2_with fail
    refine hL.out.mono ?_
    rintro e w2 ⟨rfl, hnode, hch, ht2⟩
    have t2 : w2.cell? ⟨tb, 0, none⟩ = some (.pointer none) := by rw [cell_of ht2]; rfl
    have f2 : w2.frozen? ⟨tb, 0, none⟩ = false := free_of ht2
    have HE := Lib.hid (show Inserted w P tb wr (insL [] 0 (.int .i64 z)) 0 (.returned (.int .i64 0)) (w2.setCell ⟨tb, 0, none⟩ (PN (w.alloc (.cells #[.int .i64 z] 2)).heap.size)) from
      ⟨1, rfl, ⟨_, tree_set ht2 _, .inr ⟨0, _, rfl, (hnode.mono (fun k hk _ => hk.elim .inr (fun h => .inr (by simp at h; omega))) (by simp) (Nat.le_refl _)).ch ((Ch.refl [tb] w2).setCell (p := ⟨tb, 0, none⟩) (.inl (by simp)) _) (Apart.tree ht2)⟩⟩,
        (((Ch.refl [tb] w).alloc _).trans hch).setCell (p := ⟨tb, 0, none⟩) (.inl (by simp)) _, ⟨0, by simp, by omega⟩⟩)
    simp only [World.size_alloc] at HE
    clear hnode hch ht2 hL t1 f1
    go_wp2
    go_ret
    exact HE.out
  · have hpw := hn.pow
    have hh := pow_small hpw hN
    have hI := Lib.hid (inserted_any tb z (PN rb) h w P wr rb i xs hb (by omega) hn hi hN)
    clear hn
    go_enter Try.func31, Try.ntmps31
    go_wp2_with fail
    refine hlen.out.mono ?_
    rintro e w' ⟨rfl, rfl⟩
    go_wp2_with fail
    refine hI.out.mono ?_
    rintro e w2 ⟨n, g, c, d, ks, yss, rfl, hn2, hkl, hyl, hown, hnodes, hflat, hch, ht2, hd⟩
    have hpos := two_pos hn2
    obtain ⟨q, hq⟩ : ∃ q, ks[0]? = some q := ⟨_, List.getElem?_eq_getElem (by omega)⟩
    obtain ⟨ys, hy⟩ : ∃ ys, yss[0]? = some ys := ⟨_, List.getElem?_eq_getElem (by omega)⟩
    have c0 : w2.cell? ⟨g, 0, none⟩ = some (PN q) := (own_cells hown hpos).1 (PN q) (by rw [List.getElem?_map, hq]; rfl)
    have t2 : w2.cell? ⟨tb, 0, none⟩ = some (PN rb) := by rw [cell_of ht2]; rfl
    have f2 : w2.frozen? ⟨tb, 0, none⟩ = false := free_of ht2
    have hgtb : g ≠ tb := fun hh => by
      obtain ⟨cs, f, hb2⟩ := own_blk hown hpos
      exact ne_of_elem hb2 ht2 (by decide) hh
    have hch3 : Ch [tb] w (w2.setCell ⟨tb, 0, none⟩ (PN q)) := hch.setCell (p := ⟨tb, 0, none⟩) (.inl (by simp)) _
    have hc3 : Ch [tb] w2 (w2.setCell ⟨tb, 0, none⟩ (PN q)) := (Ch.refl [tb] w2).setCell (p := ⟨tb, 0, none⟩) (.inl (by simp)) _
    have ht3 := tree_set ht2 (PN q)
    have hnodes3 := hnodes.ch hc3 (Apart.tree ht2)
    have hr3 := (row_of_own hown hpos).1.ch hc3 (fun _ hm => by simp at hm; exact hgtb hm)
    have n1 : (1 : Int) < (n : Int) ↔ n = 2 := by omega
    rcases hn2 with rfl | rfl
    · have HE := Lib.hid (show Inserted w P tb wr (insL xs i (.int .i64 z)) xs.length (.returned (.int .i64 0)) (w2.setCell ⟨tb, 0, none⟩ (PN q)) from by
        refine ⟨d, rfl, ⟨_, ht3, .inr ⟨h, q, rfl, ?_⟩⟩, hch3, h, by omega, by omega⟩
        have e1 : yss = [ys] := by
          match yss, hyl, hy with
          | [y], _, hy => simp at hy; rw [hy]
        rw [← hflat, e1]
        simp only [List.flatten_cons, List.flatten_nil, List.append_nil]
        exact hnodes3 0 q ys hq hy)
      clear hkl hyl hown hnodes hflat hch ht2 hd hq hy hgtb hch3 hc3 ht3 hnodes3 hr3 n1 t1 f1 hI
      go_wp2
      go_ret
      exact HE.out
    · have hIn := Lib.hid (inner_any (w2.setCell ⟨tb, 0, none⟩ (PN q)) (fun k => P k ∨ w.heap.size ≤ k) tb (wr + d) h g 0 (PN q) (.slice (some ⟨g, 0, none⟩) 2 c) ks yss _ ht3 (by omega) hr3 (by omega) hflat.symm (by omega) (by rw [insL_len xs i _ hi]; omega) hnodes3 (fun _ => .inr (row_of_own hown hpos).2.1))
      have H3 := Lib.hid hch3
      have hch := hch
      clear hyl hown hnodes hflat ht2 hq hy hgtb hch3 hc3 ht3 hnodes3 hr3 n1 t1 f1 hI
      go_wp2_with fail
      refine hIn.out.mono ?_
      rintro e w4 ⟨rfl, hnode4, hch4, ht4⟩
      have t4 : w4.cell? ⟨tb, 0, none⟩ = some (PN q) := by rw [cell_of ht4]; rfl
      have f4 : w4.frozen? ⟨tb, 0, none⟩ = false := free_of ht4
      have HE := Lib.hid (show Inserted w P tb wr (insL xs i (.int .i64 z)) xs.length (.returned (.int .i64 0)) (w4.setCell ⟨tb, 0, none⟩ (PN (w2.setCell ⟨tb, 0, none⟩ (PN q)).heap.size)) from
        ⟨d + 1, rfl, ⟨_, tree_set ht4 _, .inr ⟨h + 1, _, rfl, (hnode4.mono (fun k hk _ => hk.elim (fun h => h) (fun h => .inr (by have := hch.size; simp at h; omega))) (Nat.le_refl _) (by omega)).ch ((Ch.refl [tb] w4).setCell (p := ⟨tb, 0, none⟩) (.inl (by simp)) _) (Apart.tree ht4)⟩⟩, (H3.out.trans hch4).setCell (p := ⟨tb, 0, none⟩) (.inl (by simp)) _, ⟨h, by omega, by omega⟩⟩)
      rw [show (w2.setCell ⟨tb, 0, none⟩ (PN q)).heap.size = w2.heap.size by simp] at HE
      clear hnode4 hch4 ht4 hIn hch c0 t2 f2 hkl hd
      go_wp2
      go_ret
      exact HE.out
end Go.Proofs.Ytjecadkmlakncaa
