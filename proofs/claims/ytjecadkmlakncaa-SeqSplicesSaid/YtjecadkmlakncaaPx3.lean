/-
  posidx: EraseAt, Move, Swap.
-/
import Derived.Test.YtjecadkmlakncaaPx2
namespace Go.Proofs.Ytjecadkmlakncaa
open Go.RowKit

theorem IxAt.apart {T : TypeId} {w : World} {P : Nat → Prop} {xb tb mb wr n : Nat} {xs : List Int} (h : IxAt T w P xb tb mb xs wr n) (hT : T ≠ 76) : mb ∉ [tb] ∧ xb ∉ [tb] ∧ xb ≠ mb := by
  obtain ⟨root, hb⟩ := h.tree.blk
  obtain ⟨es, clock, hm⟩ := h.set.blk
  refine ⟨?_, ?_, ?_⟩
  · simp; rintro rfl; rw [hb] at hm; cases hm
  · simp; exact ne_of_elem h.blk hb hT
  · rintro rfl; have := h.blk; rw [hm] at this; cases this
theorem perase_bad (w : World) (P : Nat → Prop) (xb tb mb wr n : Nat) (i : Int) (xs : List Int) (h : IxAt PosT w P xb tb mb xs wr n) (hi : i < 0 ∨ (xs.length : Int) ≤ i) : Calls Try.prog 23 #[PN xb, .int .i64 i] w fun e w' => e = .returned (.tuple #[.int .i64 0, .int .i64 73]) ∧ w = w' := by
  have c0 := h.cells.1
  have hE := Lib.hid (terase_bad w P tb wr i (ids xs) h.tree (by rw [ids_len]; exact hi))
  clear h hi
  go_enter Try.func23, Try.ntmps23
  go_wp2_with fail
  refine hE.out.mono ?_
  rintro e w2 ⟨rfl, rfl⟩
  go_wp2
  go_ret2
  exact ⟨rfl, rfl⟩
set_option maxRecDepth 100000 in
set_option maxHeartbeats 2000000 in
theorem perase_ok (w : World) (P : Nat → Prop) (xb tb mb wr n i : Nat) (z : Int) (xs : List Int) (h : IxAt PosT w P xb tb mb xs wr n) (hz : xs[i]? = some z) (hN : xs.length ≤ 4999) (hwr : wr ≤ 1152921504606846976) :
    Calls Try.prog 23 #[PN xb, .int .i64 i] w (IxRes PosT w P xb tb mb wr n xs.length (xs.take i ++ xs.drop (i + 1)) (.tuple #[.int .i64 z, .int .i64 0])) := by
  obtain ⟨D, hown, hhas⟩ := h.set
  have hw := h.wf z (List.mem_of_getElem? hz)
  have c0 := h.cells.1
  have hkey := Go.Maps.keyOf_int_mk (P := Try.prog) (k := 2) Try.underlying2 (a := z) hw
  have hE := Lib.hid (terase_ok w P tb wr i z (ids xs) h.tree (ids_get hz) (by rw [ids_len]; omega) hwr)
  rw [ids_era, ids_len] at hE
  have H := Lib.hid (And.intro h (And.intro hz (And.intro hhas hown)))
  clear h hz hhas hw hown
  go_enter Try.func23, Try.ntmps23
  go_wp2_with fail
  refine hE.out.mono ?_
  rintro e w2 ⟨d, rfl, ht2, hc2, hd2⟩
  obtain ⟨h, hz, hhas, hown⟩ := H.out
  have hap := h.apart (by decide)
  have c2 : w2.cell? ⟨xb, 1, none⟩ = some (.map (some mb)) := by rw [cell_of (hc2.heap h.blk hap.2.1)]; rfl
  have hown2 : w2.ownsMap Try.prog 2 (unitElem (H := Unit)) mb n D := by
    obtain ⟨es', clock', hb', r⟩ := hown
    exact ⟨es', clock', hc2.heap hb' hap.1, r⟩
  have H2 := Lib.hid (And.intro ht2 (And.intro hc2 hd2))
  clear ht2 hd2 hc2 hhas hz h hap hown c0 hE
  go_wp2_with (at_delete; refine wpList_delete_own _ rfl _ _ 60 2 rfl 63 lawI Try.underlying60 (unitElem (H := Unit)) mb n D rfl hown2 _ _ rfl hkey ?_)
  intro w3 hown3 hturn3
  have H3 := Lib.hid (And.intro hown3 hturn3)
  clear hown3 hturn3
  go_wp2
  go_ret2
  obtain ⟨h, hz, hhas, hown⟩ := H.out
  obtain ⟨ht2, hc2, hd2⟩ := H2.out
  obtain ⟨hown3, hturn3⟩ := H3.out
  have hset : SetIs w3 mb n (xs.take i ++ xs.drop (i + 1)) := by
    refine ⟨_, hown3, fun y hy => ?_⟩
    by_cases he : y = z
    · subst he
      rw [Go.Maps.has_del_same, eq_comm, decide_eq_false_iff_not, mem_era hz h.nodup]
      simp
    · rw [Go.Maps.has_del_other (by simpa using he), hhas y hy]
      congr 1
      rw [mem_era hz h.nodup]
      simp [he]
  have := h.turn (by decide) hc2 (turned_ch hturn3) ht2 hset (nodup_era h.nodup) (fun y hy => h.wf y ((mem_era hz h.nodup y).1 hy).2)
  exact ⟨d, rfl, this.1, this.2, hd2.fewer⟩

/-- A row taken out and laid at another place. -/
def moved (xs : List Int) (i to : Nat) (z : Int) : List Int := (xs.take i ++ xs.drop (i + 1)).take to ++ [z] ++ (xs.take i ++ xs.drop (i + 1)).drop to
theorem moved_self {xs : List Int} {i : Nat} {z : Int} (hz : xs[i]? = some z) : moved xs i i z = xs := by
  have hi : i < xs.length := (List.getElem?_eq_some_iff.1 hz).1
  have e1 : (xs.take i).length = i := by rw [List.length_take]; omega
  unfold moved
  rw [List.take_left' e1, List.drop_left' e1]
  have h1 := List.take_append_drop i xs
  rw [List.drop_eq_getElem_cons hi, (List.getElem?_eq_some_iff.1 hz).2] at h1
  simpa using h1
theorem moved_len {xs : List Int} {i to : Nat} {z : Int} (hz : xs[i]? = some z) (ht : to < xs.length) : (moved xs i to z).length = xs.length := by
  have hi : i < xs.length := (List.getElem?_eq_some_iff.1 hz).1
  unfold moved
  simp [List.length_take]; omega
theorem mem_moved {xs : List Int} {i to : Nat} {z : Int} (hz : xs[i]? = some z) (hn : xs.Nodup) (y : Int) : y ∈ moved xs i to z ↔ y ∈ xs := by
  unfold moved
  rw [mem_ins, mem_era hz hn]
  constructor
  · rintro (rfl | h)
    · exact List.mem_of_getElem? hz
    · exact h.2
  · intro h
    by_cases he : y = z
    · exact .inl he
    · exact .inr ⟨he, h⟩
theorem nodup_moved {xs : List Int} {i to : Nat} {z : Int} (hz : xs[i]? = some z) (hn : xs.Nodup) : (moved xs i to z).Nodup :=
  nodup_ins (nodup_era hn) (fun h => ((mem_era hz hn z).1 h).1 rfl)
theorem SetIs.congr {w : World} {mb n : Nat} {xs ys : List Int} (h : SetIs w mb n xs) (he : ∀ y, y ∈ ys ↔ y ∈ xs) : SetIs w mb n ys := by
  obtain ⟨D, h1, h2⟩ := h
  exact ⟨D, h1, fun z hz => by rw [h2 z hz]; congr 1; rw [he]⟩

set_option maxRecDepth 100000 in
set_option maxHeartbeats 1000000 in
theorem pmove_none (w : World) (P : Nat → Prop) (xb tb mb wr n : Nat) (z to : Int) (xs : List Int) (h : IxAt PosT w P xb tb mb xs wr n) (hw : Wf z) (hz : z ∉ xs) :
    Calls Try.prog 11 #[PN xb, .int .i64 z, .int .i64 to] w fun e w' => e = .returned (.tuple #[.int .i64 0, .int .i64 71]) ∧ Ch [] w w' := by
  have hP := Lib.hid (pplace_no w P xb tb mb wr n z xs h hw hz)
  clear h hw hz
  go_enter Try.func11, Try.ntmps11
  go_wp2_with fail
  refine hP.out.mono ?_
  rintro e w1 ⟨rfl, hc⟩
  have H := Lib.hid hc
  clear hc
  go_wp2
  go_ret2
  exact ⟨rfl, H.out⟩
set_option maxRecDepth 100000 in
set_option maxHeartbeats 1000000 in
theorem pmove_bad (w : World) (P : Nat → Prop) (xb tb mb wr n i : Nat) (z to : Int) (xs : List Int) (h : IxAt PosT w P xb tb mb xs wr n) (hN : xs.length ≤ 4999) (hz : xs[i]? = some z) (hto : to < 0 ∨ (xs.length : Int) ≤ to) :
    Calls Try.prog 11 #[PN xb, .int .i64 z, .int .i64 to] w fun e w' => e = .returned (.tuple #[.int .i64 0, .int .i64 73]) ∧ Ch [] w w' := by
  have hP := Lib.hid (pplace_ok w P xb tb mb wr n i z xs h (by omega) hz)
  have HI := Lib.hid (fun w1 (hc : Ch [] w w1) => pin_no w1 P xb tb mb wr n to xs (h.ch0 hc) hto)
  clear h hz hto
  go_enter Try.func11, Try.ntmps11
  go_wp2_with fail
  refine hP.out.mono ?_
  rintro e w1 ⟨rfl, hc⟩
  have hI := Lib.hid (HI.out w1 hc)
  have H := Lib.hid hc
  clear hc
  go_wp2_with fail
  refine hI.out.mono ?_
  rintro e w2 ⟨rfl, rfl⟩
  go_wp2
  go_ret2
  exact ⟨rfl, H.out⟩
set_option maxRecDepth 100000 in
set_option maxHeartbeats 2000000 in
theorem pmove_ok (w : World) (P : Nat → Prop) (xb tb mb wr n i to : Nat) (z : Int) (xs : List Int) (h : IxAt PosT w P xb tb mb xs wr n) (hN : xs.length ≤ 4999) (hwr : wr ≤ 1152921504606840000) (hz : xs[i]? = some z) (hto : to < xs.length) :
    Calls Try.prog 11 #[PN xb, .int .i64 z, .int .i64 to] w (IxRes PosT w P xb tb mb wr n xs.length (moved xs i to z) (.tuple #[.int .i64 i, .int .i64 0])) := by
  have hP := Lib.hid (pplace_ok w P xb tb mb wr n i z xs h (by omega) hz)
  have HI := Lib.hid (fun w1 (hc : Ch [] w w1) => pin_yes w1 P xb tb mb wr n to xs (h.ch0 hc) (by omega) (by omega))
  have hi : i < xs.length := (List.getElem?_eq_some_iff.1 hz).1
  have H := Lib.hid (And.intro h (And.intro hz (And.intro hto hi)))
  by_cases he : i = to
  · subst he
    clear h hz hto hi
    go_enter Try.func11, Try.ntmps11
    go_wp2_with fail
    refine hP.out.mono ?_
    rintro e w1 ⟨rfl, hc⟩
    have hI := Lib.hid (HI.out w1 hc)
    have HC := Lib.hid hc
    clear hc
    go_wp2_with fail
    refine hI.out.mono ?_
    rintro e w2 ⟨rfl, rfl⟩
    go_wp2
    go_ret2
    obtain ⟨h, hz, hto, hi⟩ := H.out
    refine ⟨0, rfl, ?_, HC.out.mono (fun _ h => by cases h), (Few.zero _).fewer⟩
    rw [moved_self hz]
    exact (h.ch0 HC.out).sub (fun k hk _ => .inl hk)
  · have hb : ((i : Int) == (to : Int)) = false := by rw [beq_eq_false_iff_ne]; omega
    clear h hz hto hi
    go_enter Try.func11, Try.ntmps11
    go_wp2_with fail
    refine hP.out.mono ?_
    rintro e w1 ⟨rfl, hc⟩
    obtain ⟨h, hz, hto, hi⟩ := H.out
    have hI := Lib.hid (HI.out w1 hc)
    have h1 := h.ch0 hc
    have c0 := h1.cells.1
    have hap := h1.apart (by decide)
    have hlen : (xs.take i ++ xs.drop (i + 1)).length = xs.length - 1 := by simp [List.length_take]; omega
    have hE := Lib.hid (terase_ok w1 P tb wr i z (ids xs) h1.tree (ids_get hz) (by rw [ids_len]; omega) (by omega))
    rw [ids_era, ids_len] at hE
    have HH := Lib.hid (And.intro h1 (And.intro hc (And.intro hap hlen)))
    clear h hz hto hi hc h1 hap hlen
    go_wp2_with fail
    refine hI.out.mono ?_
    rintro e w' ⟨rfl, rfl⟩
    go_wp2_with fail
    refine hE.out.mono ?_
    rintro e w2 ⟨d, rfl, ht2, hc2, hd2⟩
    obtain ⟨h1, hc, hap, hlen⟩ := HH.out
    have c2 : w2.cell? ⟨xb, 0, none⟩ = some (PN tb) := by rw [cell_of (hc2.heap h1.blk hap.2.1)]; rfl
    have hd39 := hd2.le hN
    have hI2 := Lib.hid (tinsert_ok w2 _ tb (wr + d) to z _ ht2 (by rw [ids_len, hlen]; have := H.out.2.2; omega) (by rw [ids_len, hlen]; omega) (by omega))
    rw [ids_ins, ids_len, hlen] at hI2
    have H2 := Lib.hid (And.intro hc2 hd2)
    clear h1 hc hap hlen ht2 hc2 hd2 c0 hd39
    go_wp2_with fail
    refine hI2.out.mono ?_
    rintro e w3 ⟨d3, rfl, ht3, hc3, hd3⟩
    have H3 := Lib.hid (And.intro ht3 (And.intro hc3 hd3))
    clear ht3 hc3 hd3
    go_wp2
    go_ret2
    obtain ⟨h, hz, hto, hi⟩ := H.out
    obtain ⟨h1, hc, hap, hlen⟩ := HH.out
    obtain ⟨hc2, hd2⟩ := H2.out
    obtain ⟨ht3, hc3, hd3⟩ := H3.out
    have hc13 := hc2.trans hc3
    have := h1.turn (w1 := w3) (w2 := w3) (by decide) hc13 (Ch.refl _ _) (ht3.sub (Q := fun k => P k ∨ w.heap.size ≤ k) (fun k hk _ => by
      have s1 := hc.size
      have s2 := hc2.size
      rcases hk with (hk | hk) | hk
      · exact .inl hk
      · right; omega
      · right; omega)) ((h1.set.ch hc13 hap.1).congr (mem_moved (to := to) hz h1.nodup)) (nodup_moved hz h1.nodup) (fun y hy => h1.wf y ((mem_moved hz h1.nodup y).1 hy))
    exact ⟨d + d3, rfl, by rw [← Nat.add_assoc]; exact this.1, (hc.mono (fun _ h => by cases h)).trans this.2, d, d3, rfl, hd2, hd3.mono (by omega)⟩
end Go.Proofs.Ytjecadkmlakncaa
