/-
  posidx: New, Len, At, All, Place. (printed by wip/gen_ix.py)
-/
import Derived.Test.YtjecadkmlakncaaIx2
namespace Go.Proofs.Ytjecadkmlakncaa
open Go.RowKit

abbrev PosT : TypeId := 62
set_option maxRecDepth 100000 in
theorem pnew (w : World) : Calls Try.prog 9 #[] w fun e w' => ∃ xb tb mb, e = .returned (PN xb) ∧ (∀ P, IxAt PosT w' P xb tb mb [] 0 0) ∧ Ch [] w w' ∧ w.heap.size ≤ tb ∧ w.heap.size ≤ mb := by
  have hmm := @run_makeMap Try.prog
  have hN := Lib.hid (tnew_any w)
  go_enter Try.func9, Try.ntmps9
  go_wp2_with fail
  refine hN.out.mono ?_
  rintro e w1 ⟨rfl, rfl⟩
  go_wp2
  go_ret
  have hc : Ch [] (w.alloc (.cells #[.pointer none, .int .i64 0] 76)) ((w.alloc (.cells #[.pointer none, .int .i64 0] 76)).alloc (.map #[] 0)) := (Ch.refl [] _).alloc _
  have ho := World.ownsMap_made (H := Unit) (w.alloc (.cells #[.pointer none, .int .i64 0] 76)) Try.prog 2 unitElem
  simp only [World.size_alloc] at ho
  refine ⟨_, w.heap.size, w.heap.size + 1, rfl, fun P => ⟨?_, ((tnew_is w P).ch0 hc).ch0 ((Ch.refl [] _).alloc _), ⟨_, ho.alloc _, fun z _ => by simp [Maps.has]⟩, by simp, by simp⟩, ((Ch.refl [] w).alloc _).trans (hc.alloc _), Nat.le_refl _, by omega⟩
  have := heap_alloc_same ((w.alloc (.cells #[.pointer none, .int .i64 0] 76)).alloc (.map #[] 0)) (.cells #[PN w.heap.size, .map (some (w.heap.size + 1))] PosT)
  simpa using this
theorem plen (w : World) (P : Nat → Prop) (xb tb mb wr n : Nat) (xs : List Int) (h : IxAt PosT w P xb tb mb xs wr n) : Calls Try.prog 26 #[PN xb] w fun e w' => e = .returned (.int .i64 xs.length) ∧ w = w' := by
  have c0 := h.cells.1
  have hL := Lib.hid (tlen_any w P tb wr (ids xs) h.tree)
  rw [ids_len] at hL
  clear h
  go_enter Try.func26, Try.ntmps26
  go_wp2_with fail
  refine hL.out.mono ?_
  rintro e w' ⟨rfl, rfl⟩
  go_wp2
  go_ret
  exact ⟨rfl, rfl⟩
set_option maxRecDepth 100000 in
set_option maxHeartbeats 1000000 in
theorem pall (w : World) (P : Nat → Prop) (xb tb mb wr n : Nat) (xs : List Int) (h : IxAt PosT w P xb tb mb xs wr n) (hN : xs.length ≤ 5000) : Calls Try.prog 28 #[PN xb] w fun e w' => ∃ sv, e = .returned sv ∧ w'.ownsRow w.heap.size 2 1 sv xs.length (ids xs) ∧ Ch [] w w' := by
  have c0 := h.cells.1
  have hx := Lib.hid h.blk
  have hl := Lib.hid (plen w.drew P xb tb mb wr n xs (h.ch0 (Ch.refl [] w).drew))
  have hS := Lib.hid (tslice_any w.drew P tb wr (ids xs) (h.tree.ch0 (Ch.refl [] w).drew) (by rw [ids_len]; omega))
  rw [ids_len] at hS
  clear h
  go_enter Try.func28, Try.ntmps28
  go_wp2_with fail
  go_region_held3 (fun W => W.cell? ⟨xb, 0, none⟩ = some (PN tb))
    (first | exact c0 | (rw [cell_of (hc2.heap hx.out (by simp))]; rfl))
    (first
      | (go_at_call 26; refine hl.out.mono ?_; rintro e w' ⟨rfl, rfl⟩)
      | (go_at_call 38; refine hS.out.mono ?_; rintro e w2 ⟨sv, rfl, ho, hc⟩; have hc2 : Ch [] w w2 := (Ch.refl [] w).drew.trans hc))
  have H := Lib.hid (And.intro ho hc2)
  clear ho hc hc2 hx hl hS c0
  go_wp2
  go_ret
  exact ⟨_, rfl, H.out.1, H.out.2⟩
theorem pat_ok (w : World) (P : Nat → Prop) (xb tb mb wr n i : Nat) (z : Int) (xs : List Int) (h : IxAt PosT w P xb tb mb xs wr n) (hN : xs.length ≤ 5000) (hz : xs[i]? = some z) : Calls Try.prog 13 #[PN xb, .int .i64 i] w fun e w' => e = .returned (.tuple #[.int .i64 z, .bool true]) ∧ w = w' := by
  have c0 := h.cells.1
  have hA := Lib.hid (tat_ok w P tb wr i (ids xs) z h.tree (by rw [ids_len]; omega) (ids_get hz))
  clear h
  go_enter Try.func13, Try.ntmps13
  go_wp2_with fail
  refine hA.out.mono ?_
  rintro e w' ⟨rfl, rfl⟩
  go_wp2
  go_ret2
  exact ⟨rfl, rfl⟩

set_option maxRecDepth 100000 in
set_option maxHeartbeats 1000000 in
theorem pplace_no (w : World) (P : Nat → Prop) (xb tb mb wr n : Nat) (z : Int) (xs : List Int) (h : IxAt PosT w P xb tb mb xs wr n) (hw : Wf z) (hz : z ∉ xs) : Calls Try.prog 12 #[PN xb, .int .i64 z] w fun e w' => e = .returned (.tuple #[.int .i64 0, .bool false]) ∧ Ch [] w w' := by
  obtain ⟨D, hown, hhas⟩ := h.set
  have hd := hhas z hw
  rw [decide_eq_false hz] at hd
  obtain ⟨c0, c1⟩ := h.cells
  have hkey := Go.Maps.keyOf_int_mk (P := Try.prog) (k := 2) Try.underlying2 (a := z) hw
  clear h hhas hz hw
  go_enter Try.func12, Try.ntmps12
  go_wp2_with (at_lookup; refine wpList_lookup_own_unit _ rfl _ _ 60 rfl 2 63 lawI Try.underlying60 (zeroS _) mb n D rfl hown _ _ rfl hkey ?_)
  go_wp2
  go_ret2
  exact ⟨rfl, (Ch.refl _ _).alloc _⟩
set_option maxRecDepth 100000 in
set_option maxHeartbeats 1000000 in
theorem pplace_ok (w : World) (P : Nat → Prop) (xb tb mb wr n i : Nat) (z : Int) (xs : List Int) (h : IxAt PosT w P xb tb mb xs wr n) (hN : xs.length ≤ 5000) (hz : xs[i]? = some z) : Calls Try.prog 12 #[PN xb, .int .i64 z] w fun e w' => e = .returned (.tuple #[.int .i64 i, .bool true]) ∧ Ch [] w w' := by
  obtain ⟨D, hown, hhas⟩ := h.set
  have hw := h.wf z (List.mem_of_getElem? hz)
  have hd := hhas z hw
  rw [decide_eq_true (List.mem_of_getElem? hz)] at hd
  obtain ⟨c0, c1⟩ := h.cells
  have hkey := Go.Maps.keyOf_int_mk (P := Try.prog) (k := 2) Try.underlying2 (a := z) hw
  have hc1 : Ch [] w (w.alloc (.cells #[] 63)) := (Ch.refl [] w).alloc _
  have hA := Lib.hid (pall _ P xb tb mb wr n xs (h.ch0 hc1) hN)
  have hI := Lib.hid (And.intro hN (And.intro hz (first_of h.nodup hz)))
  clear h hhas hz hw hN hc1
  go_enter Try.func12, Try.ntmps12
  go_wp2_with (at_lookup; refine wpList_lookup_own_unit _ rfl _ _ 60 rfl 2 63 lawI Try.underlying60 (zeroS _) mb n D rfl hown _ _ rfl hkey ?_)
  go_wp2_with fail
  refine hA.out.mono ?_
  rintro e w2 ⟨sv, rfl, ho, hc⟩
  obtain ⟨b2, _, hr⟩ := Row1.of_own ho (ids_len xs).symm
  have hX := Lib.hid (index_any w2 b2 0 i sv z xs hr hI.out.1 hI.out.2.1 hI.out.2.2)
  have hC := Lib.hid (show Ch [] w w2 from ((Ch.refl [] w).alloc _).trans hc)
  clear ho hc hr hA
  go_wp2_with fail
  refine hX.out.mono ?_
  rintro e w3 ⟨rfl, rfl⟩
  go_wp2
  go_ret2
  exact ⟨rfl, hC.out⟩
end Go.Proofs.Ytjecadkmlakncaa
