/-
  posidx: Swap.
-/
import Derived.Test.YtjecadkmlakncaaPx3
namespace Go.Proofs.Ytjecadkmlakncaa
open Go.RowKit

/-- Two rows change places. -/
def swapL (xs : List Int) (i k : Nat) (a b : Int) : List Int := (xs.set i b).set k a
theorem swapL_len (xs : List Int) (i k : Nat) (a b : Int) : (swapL xs i k a b).length = xs.length := by unfold swapL; simp
/-- Where a place's row stood. -/
def sw (i k j : Nat) : Nat := if j = k then i else if j = i then k else j
theorem swapL_get {xs : List Int} {i k : Nat} {a b : Int} (hi : xs[i]? = some a) (hk : xs[k]? = some b) (j : Nat) : (swapL xs i k a b)[j]? = xs[sw i k j]? := by
  have h1 : i < xs.length := (List.getElem?_eq_some_iff.1 hi).1
  have h2 : k < xs.length := (List.getElem?_eq_some_iff.1 hk).1
  unfold swapL sw
  rw [List.getElem?_set, List.getElem?_set]
  by_cases e1 : j = k
  · subst e1; simp [h2, hi]
  · rw [if_neg (fun h => e1 h.symm), if_neg e1]
    by_cases e2 : j = i
    · subst e2; simp [h1, hk]
    · rw [if_neg (fun h => e2 h.symm), if_neg e2]
theorem sw_inj {i k x y : Nat} (h : sw i k x = sw i k y) : x = y := by
  unfold sw at h
  repeat' split at h
  all_goals omega
theorem sw_lt {i k j n : Nat} (hi : i < n) (hk : k < n) : sw i k j < n ↔ j < n := by
  unfold sw
  repeat' split
  all_goals omega
theorem sw_sw (i k j : Nat) : sw i k (sw i k j) = j := by
  unfold sw
  repeat' split
  all_goals omega
theorem nodup_of_get {xs : List Int} (h : ∀ (i j : Nat) (z : Int), xs[i]? = some z → xs[j]? = some z → i = j) : xs.Nodup := by
  rw [List.nodup_iff_pairwise_ne, List.pairwise_iff_getElem]
  intro i j hi hj hij he
  have := h i j xs[i] (List.getElem?_eq_getElem hi) (by rw [he]; exact List.getElem?_eq_getElem hj)
  omega
theorem get_of_nodup {xs : List Int} (h : xs.Nodup) {i j : Nat} {z : Int} (hi : xs[i]? = some z) (hj : xs[j]? = some z) : i = j := by
  rcases Nat.lt_trichotomy i j with h1 | h1 | h1
  · exact absurd hi (first_of h hj i h1)
  · exact h1
  · exact absurd hj (first_of h hi j h1)
theorem mem_swapL {xs : List Int} {i k : Nat} {a b : Int} (hi : xs[i]? = some a) (hk : xs[k]? = some b) (y : Int) : y ∈ swapL xs i k a b ↔ y ∈ xs := by
  constructor
  · intro h
    obtain ⟨j, hj⟩ := List.mem_iff_getElem?.1 h
    rw [swapL_get hi hk] at hj
    exact List.mem_of_getElem? hj
  · intro h
    obtain ⟨j, hj⟩ := List.mem_iff_getElem?.1 h
    have := swapL_get hi hk (sw i k j)
    rw [sw_sw, hj] at this
    exact List.mem_of_getElem? this
theorem nodup_swapL {xs : List Int} {i k : Nat} {a b : Int} (hi : xs[i]? = some a) (hk : xs[k]? = some b) (hn : xs.Nodup) : (swapL xs i k a b).Nodup := by
  refine nodup_of_get (fun x y z hx hy => ?_)
  rw [swapL_get hi hk] at hx hy
  exact sw_inj (get_of_nodup hn hx hy)

set_option maxRecDepth 100000 in
set_option maxHeartbeats 1000000 in
theorem pswap_bad (w : World) (P : Nat → Prop) (xb tb mb wr n : Nat) (i k : Int) (xs : List Int) (h : IxAt PosT w P xb tb mb xs wr n) (hik : (i < 0 ∨ (xs.length : Int) ≤ i) ∨ (k < 0 ∨ (xs.length : Int) ≤ k)) :
    Calls Try.prog 20 #[PN xb, .int .i64 i, .int .i64 k] w fun e w' => e = .returned (.int .i64 73) ∧ w = w' := by
  by_cases hi : i < 0 ∨ (xs.length : Int) ≤ i
  · have hI := Lib.hid (pin_no w P xb tb mb wr n i xs h hi)
    clear h hik hi
    go_enter Try.func20, Try.ntmps20
    go_wp2_with fail
    refine hI.out.mono ?_
    rintro e w' ⟨rfl, rfl⟩
    go_wp2
    go_ret
    exact ⟨rfl, rfl⟩
  · have hI := Lib.hid (pin_yes w P xb tb mb wr n i xs h (by omega) (by omega))
    have hK := Lib.hid (pin_no w P xb tb mb wr n k xs h (by omega))
    clear h hik hi
    go_enter Try.func20, Try.ntmps20
    go_wp2_with fail
    refine hI.out.mono ?_
    rintro e w' ⟨rfl, rfl⟩
    go_wp2_with fail
    refine hK.out.mono ?_
    rintro e w' ⟨rfl, rfl⟩
    go_wp2
    go_ret
    exact ⟨rfl, rfl⟩
set_option maxRecDepth 100000 in
set_option maxHeartbeats 2000000 in
theorem pswap_ok (w : World) (P : Nat → Prop) (xb tb mb wr n i k : Nat) (a b : Int) (xs : List Int) (h : IxAt PosT w P xb tb mb xs wr n) (hN : xs.length ≤ 4999) (hwr : wr ≤ 1152921504606840000) (hi : xs[i]? = some a) (hk : xs[k]? = some b) :
    Calls Try.prog 20 #[PN xb, .int .i64 i, .int .i64 k] w (IxRes PosT w P xb tb mb wr n xs.length (swapL xs i k a b) (.int .i64 0)) := by
  have hil : i < xs.length := (List.getElem?_eq_some_iff.1 hi).1
  have hkl : k < xs.length := (List.getElem?_eq_some_iff.1 hk).1
  have hI := Lib.hid (pin_yes w P xb tb mb wr n i xs h (by omega) (by omega))
  have hK := Lib.hid (pin_yes w P xb tb mb wr n k xs h (by omega) (by omega))
  have hA := Lib.hid (tat_ok w P tb wr i (ids xs) a h.tree (by rw [ids_len]; omega) (ids_get hi))
  have hB := Lib.hid (tat_ok w P tb wr k (ids xs) b h.tree (by rw [ids_len]; omega) (ids_get hk))
  have hS := Lib.hid (tset_ok w P tb wr i b (ids xs) h.tree (by rw [ids_len]; exact hil) (by rw [ids_len]; omega) (by omega))
  rw [ids_set, ids_len] at hS
  have c0 := h.cells.1
  have H := Lib.hid (And.intro h (And.intro hi (And.intro hk (And.intro hil hkl))))
  clear h hi hk hil hkl
  go_enter Try.func20, Try.ntmps20
  go_wp2_with fail
  refine hI.out.mono ?_
  rintro e w' ⟨rfl, rfl⟩
  go_wp2_with fail
  refine hK.out.mono ?_
  rintro e w' ⟨rfl, rfl⟩
  go_wp2_with fail
  refine hA.out.mono ?_
  rintro e w' ⟨rfl, rfl⟩
  go_wp2_with fail
  refine hB.out.mono ?_
  rintro e w' ⟨rfl, rfl⟩
  go_wp2_with fail
  refine hS.out.mono ?_
  rintro e w2 ⟨d, rfl, ht2, hc2, hd2⟩
  obtain ⟨h, hi, hk, hil, hkl⟩ := H.out
  have hap := h.apart (by decide)
  have c2 : w2.cell? ⟨xb, 0, none⟩ = some (PN tb) := by rw [cell_of (hc2.heap h.blk hap.2.1)]; rfl
  have hd39 := hd2.le hN
  have hS2 := Lib.hid (tset_ok w2 _ tb (wr + d) k a _ ht2 (by rw [ids_len, List.length_set]; exact hkl) (by rw [ids_len, List.length_set]; omega) (by omega))
  rw [ids_set, ids_len, List.length_set] at hS2
  have H2 := Lib.hid (And.intro hc2 hd2)
  clear h hi hk hil hkl hap ht2 hc2 hd2 hd39 c0 hI hK hA hB hS
  go_wp2_with fail
  refine hS2.out.mono ?_
  rintro e w3 ⟨d3, rfl, ht3, hc3, hd3⟩
  have H3 := Lib.hid (And.intro ht3 (And.intro hc3 hd3))
  clear ht3 hc3 hd3
  go_wp2
  go_ret
  obtain ⟨h, hi, hk, hil, hkl⟩ := H.out
  obtain ⟨hc2, hd2⟩ := H2.out
  obtain ⟨ht3, hc3, hd3⟩ := H3.out
  have hap := h.apart (by decide)
  have hc13 := hc2.trans hc3
  have := h.turn (w1 := w3) (w2 := w3) (by decide) hc13 (Ch.refl _ _) (ht3.sub (Q := fun k => P k ∨ w.heap.size ≤ k) (fun k hk _ => by
    have s2 := hc2.size
    rcases hk with hk | hk
    · exact hk
    · right; omega)) ((h.set.ch hc13 hap.1).congr (mem_swapL hi hk)) (nodup_swapL hi hk h.nodup) (fun y hy => h.wf y ((mem_swapL hi hk y).1 hy))
  exact ⟨d + d3, rfl, by rw [← Nat.add_assoc]; exact this.1, this.2, d, d3, rfl, hd2, hd3⟩
end Go.Proofs.Ytjecadkmlakncaa
