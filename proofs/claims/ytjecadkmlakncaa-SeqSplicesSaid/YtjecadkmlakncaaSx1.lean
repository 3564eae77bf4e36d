/-
  seqidx: New, Len, At, All, Place. (printed by wip/gen_ix.py)
-/
import Derived.Test.YtjecadkmlakncaaIx2
namespace Go.Proofs.Ytjecadkmlakncaa
open Go.RowKit

abbrev SeqT : TypeId := 67
set_option maxRecDepth 100000 in
theorem snew (w : World) : Calls Try.prog 15 #[] w fun e w' => ∃ xb tb mb, e = .returned (PN xb) ∧ (∀ P, IxAt SeqT w' P xb tb mb [] 0 0) ∧ Ch [] w w' ∧ w.heap.size ≤ tb ∧ w.heap.size ≤ mb := by
  have hmm := @run_makeMap Try.prog
  have hN := Lib.hid (tnew_any w)
  go_enter Try.func15, Try.ntmps15
  go_wp2_with fail
  refine hN.out.mono ?_
  rintro e w1 ⟨rfl, rfl⟩
  go_wp2
  go_ret
  have hc : Ch [] (w.alloc (.cells #[.pointer none, .int .i64 0] 76)) ((w.alloc (.cells #[.pointer none, .int .i64 0] 76)).alloc (.map #[] 0)) := (Ch.refl [] _).alloc _
  have ho := World.ownsMap_made (H := Unit) (w.alloc (.cells #[.pointer none, .int .i64 0] 76)) Try.prog 2 unitElem
  simp only [World.size_alloc] at ho
  refine ⟨_, w.heap.size, w.heap.size + 1, rfl, fun P => ⟨?_, ((tnew_is w P).ch0 hc).ch0 ((Ch.refl [] _).alloc _), ⟨_, ho.alloc _, fun z _ => by simp [Maps.has]⟩, by simp, by simp⟩, ((Ch.refl [] w).alloc _).trans (hc.alloc _), Nat.le_refl _, by omega⟩
  have := heap_alloc_same ((w.alloc (.cells #[.pointer none, .int .i64 0] 76)).alloc (.map #[] 0)) (.cells #[PN w.heap.size, .map (some (w.heap.size + 1))] SeqT)
  simpa using this
theorem slen (w : World) (P : Nat → Prop) (xb tb mb wr n : Nat) (xs : List Int) (h : IxAt SeqT w P xb tb mb xs wr n) : Calls Try.prog 37 #[PN xb] w fun e w' => e = .returned (.int .i64 xs.length) ∧ w = w' := by
  have c0 := h.cells.1
  have hL := Lib.hid (tlen_any w P tb wr (ids xs) h.tree)
  rw [ids_len] at hL
  clear h
  go_enter Try.func37, Try.ntmps37
  go_wp2_with fail
  refine hL.out.mono ?_
  rintro e w' ⟨rfl, rfl⟩
  go_wp2
  go_ret
  exact ⟨rfl, rfl⟩
set_option maxRecDepth 100000 in
set_option maxHeartbeats 1000000 in
theorem sall (w : World) (P : Nat → Prop) (xb tb mb wr n : Nat) (xs : List Int) (h : IxAt SeqT w P xb tb mb xs wr n) (hN : xs.length ≤ 5000) : Calls Try.prog 17 #[PN xb] w fun e w' => ∃ sv, e = .returned sv ∧ w'.ownsRow w.heap.size 2 1 sv xs.length (ids xs) ∧ Ch [] w w' := by
  have c0 := h.cells.1
  have hx := Lib.hid h.blk
  have hl := Lib.hid (slen w.drew P xb tb mb wr n xs (h.ch0 (Ch.refl [] w).drew))
  have hS := Lib.hid (tslice_any w.drew P tb wr (ids xs) (h.tree.ch0 (Ch.refl [] w).drew) (by rw [ids_len]; omega))
  rw [ids_len] at hS
  clear h
  go_enter Try.func17, Try.ntmps17
  go_wp2_with fail
  go_region_held3 (fun W => W.cell? ⟨xb, 0, none⟩ = some (PN tb))
    (first | exact c0 | (rw [cell_of (hc2.heap hx.out (by simp))]; rfl))
    (first
      | (go_at_call 37; refine hl.out.mono ?_; rintro e w' ⟨rfl, rfl⟩)
      | (go_at_call 38; refine hS.out.mono ?_; rintro e w2 ⟨sv, rfl, ho, hc⟩; have hc2 : Ch [] w w2 := (Ch.refl [] w).drew.trans hc))
  have H := Lib.hid (And.intro ho hc2)
  clear ho hc hc2 hx hl hS c0
  go_wp2
  go_ret
  exact ⟨_, rfl, H.out.1, H.out.2⟩
end Go.Proofs.Ytjecadkmlakncaa
