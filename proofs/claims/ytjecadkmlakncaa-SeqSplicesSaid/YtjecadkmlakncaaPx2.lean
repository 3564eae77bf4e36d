/-
  posidx: InsertAt, EraseAt, in, Move, Swap, Writes.
-/
import Derived.Test.YtjecadkmlakncaaPx1
namespace Go.Proofs.Ytjecadkmlakncaa
open Go.RowKit

theorem Few.zero (n : Nat) : Few n 0 := ⟨0, by simp, by omega⟩
theorem Few.mono {n m d : Nat} (h : Few n d) (hm : n ≤ m) : Few m d := by
  obtain ⟨k, h1, h2⟩ := h
  exact ⟨k, by omega, h2⟩
theorem Few.le {n d : Nat} (h : Few n d) (hn : n ≤ 4999) : d ≤ 39 := by
  obtain ⟨k, h1, h2⟩ := h
  have := pow_small h1 (by omega)
  omega
/-- Two times few. -/
def Fewer (n d : Nat) : Prop := ∃ d1 d2, d = d1 + d2 ∧ Few n d1 ∧ Few n d2
theorem Few.fewer {n d : Nat} (h : Few n d) : Fewer n d := ⟨d, 0, rfl, h, Few.zero n⟩
/-- What a call that writes leaves. -/
def IxRes (T : TypeId) (w : World) (P : Nat → Prop) (xb tb mb wr n' m : Nat) (ys : List Int) (ev : Value) (e : Ending) (w' : World) : Prop :=
  ∃ d, e = .returned ev ∧ IxAt T w' (fun k => P k ∨ w.heap.size ≤ k) xb tb mb ys (wr + d) n' ∧ Ch [tb, mb] w w' ∧ Fewer m d
theorem turned_ch {w w' : World} {mb : Nat} (h : w.mapTurned w' mb) : Ch [mb] w w' := (Ch.refl [mb] w).grown h.grown (fun k hk => by cases hk; exact .inl (by simp))
/-- The tree's call wrote the tree alone. -/
theorem IxAt.turn {T : TypeId} {w w1 w2 : World} {P Q : Nat → Prop} {xb tb mb wr wr' n n' : Nat} {xs ys : List Int} (h : IxAt T w P xb tb mb xs wr n) (hT : T ≠ 76) (hc1 : Ch [tb] w w1) (hc2 : Ch [mb] w1 w2) (ht : TreeIs w1 Q tb (ids ys) wr') (hs : SetIs w2 mb n' ys) (hn : ys.Nodup) (hw : ∀ z ∈ ys, Wf z) :
    IxAt T w2 Q xb tb mb ys wr' n' ∧ Ch [tb, mb] w w2 := by
  obtain ⟨root, hb⟩ := h.tree.blk
  obtain ⟨es, clock, hm⟩ := h.set.blk
  have hx1 := hc1.heap h.blk (by simp; exact ne_of_elem h.blk hb hT)
  have hm1 : w1.heap[mb]? = some (.map es clock) := hc1.heap hm (by simp; rintro rfl; rw [hb] at hm; cases hm)
  have hxm : xb ≠ mb := by rintro rfl; have := h.blk; rw [hm] at this; cases this
  refine ⟨⟨hc2.heap hx1 (by simpa using hxm), ht.ch hc2 (fun x hx cs K f hh => ?_), hs, hn, hw⟩, (hc1.mono (by simp)).trans (hc2.mono (by simp))⟩
  simp at hx; subst hx
  rw [hm1] at hh; cases hh

set_option maxRecDepth 100000 in
set_option maxHeartbeats 1000000 in
theorem pwrites (w : World) (P : Nat → Prop) (xb tb mb wr n : Nat) (xs : List Int) (h : IxAt PosT w P xb tb mb xs wr n) : Calls Try.prog 21 #[PN xb] w fun e w' => e = .returned (.int .i64 wr) ∧ w = w' := by
  have c0 := h.cells.1
  have hL := Lib.hid (twrites_any w P tb wr (ids xs) h.tree)
  clear h
  go_enter Try.func21, Try.ntmps21
  go_wp2_with fail
  refine hL.out.mono ?_
  rintro e w' ⟨rfl, rfl⟩
  go_wp2
  go_ret
  exact ⟨rfl, rfl⟩
theorem pin_yes (w : World) (P : Nat → Prop) (xb tb mb wr n : Nat) (i : Int) (xs : List Int) (h : IxAt PosT w P xb tb mb xs wr n) (h0 : 0 ≤ i) (h1 : i < xs.length) : Calls Try.prog 32 #[PN xb, .int .i64 i] w fun e w' => e = .returned (.bool true) ∧ w = w' := by
  have hL := Lib.hid (plen w P xb tb mb wr n xs h)
  clear h
  go_enter Try.func32, Try.ntmps32
  go_wp2_with fail
  refine hL.out.mono ?_
  rintro e w' ⟨rfl, rfl⟩
  go_wp2
  go_ret
  exact ⟨rfl, rfl⟩
theorem pin_no (w : World) (P : Nat → Prop) (xb tb mb wr n : Nat) (i : Int) (xs : List Int) (h : IxAt PosT w P xb tb mb xs wr n) (hi : i < 0 ∨ (xs.length : Int) ≤ i) : Calls Try.prog 32 #[PN xb, .int .i64 i] w fun e w' => e = .returned (.bool false) ∧ w = w' := by
  have hL := Lib.hid (plen w P xb tb mb wr n xs h)
  clear h
  by_cases h0 : i < 0
  · go_enter Try.func32, Try.ntmps32
    go_wp2_with fail
    go_ret
    exact ⟨rfl, rfl⟩
  · have h1 : decide (i < (xs.length : Int)) = false := by simp; omega
    have h2 : 0 ≤ i := by omega
    go_enter Try.func32, Try.ntmps32
    go_wp2_with fail
    refine hL.out.mono ?_
    rintro e w' ⟨rfl, rfl⟩
    go_wp2
    go_ret
    exact ⟨rfl, rfl⟩
set_option maxRecDepth 100000 in
set_option maxHeartbeats 1000000 in
theorem pinsert_there (w : World) (P : Nat → Prop) (xb tb mb wr n : Nat) (i z : Int) (xs : List Int) (h : IxAt PosT w P xb tb mb xs wr n) (hz : z ∈ xs) : Calls Try.prog 10 #[PN xb, .int .i64 i, .int .i64 z] w fun e w' => e = .returned (.int .i64 72) ∧ Ch [] w w' := by
  obtain ⟨D, hown, hhas⟩ := h.set
  have hw := h.wf z hz
  have hd := hhas z hw
  rw [decide_eq_true hz] at hd
  obtain ⟨c0, c1⟩ := h.cells
  have hkey := Go.Maps.keyOf_int_mk (P := Try.prog) (k := 2) Try.underlying2 (a := z) hw
  clear h hhas hz hw
  go_enter Try.func10, Try.ntmps10
  go_wp2_with (at_lookup; refine wpList_lookup_own_unit _ rfl _ _ 60 rfl 2 63 lawI Try.underlying60 (zeroS _) mb n D rfl hown _ _ rfl hkey ?_)
  go_wp2
  go_ret
  exact ⟨rfl, (Ch.refl _ _).alloc _⟩
set_option maxRecDepth 100000 in
set_option maxHeartbeats 1000000 in
theorem pinsert_bad (w : World) (P : Nat → Prop) (xb tb mb wr n : Nat) (i z : Int) (xs : List Int) (h : IxAt PosT w P xb tb mb xs wr n) (hw : Wf z) (hz : z ∉ xs) (hi : i < 0 ∨ (xs.length : Int) < i) : Calls Try.prog 10 #[PN xb, .int .i64 i, .int .i64 z] w fun e w' => e = .returned (.int .i64 73) ∧ Ch [] w w' := by
  obtain ⟨D, hown, hhas⟩ := h.set
  have hd := hhas z hw
  rw [decide_eq_false hz] at hd
  obtain ⟨c0, c1⟩ := h.cells
  have hkey := Go.Maps.keyOf_int_mk (P := Try.prog) (k := 2) Try.underlying2 (a := z) hw
  have hc1 : Ch [] w (w.alloc (.cells #[] 63)) := (Ch.refl [] w).alloc _
  have c3 := (h.ch0 hc1).cells.1
  have hI : Hid (Calls Try.prog 31 #[PN tb, .int .i64 i, .int .i64 z] (w.alloc (.cells #[] 63)) fun e w' => e = .returned (.int .i64 73) ∧ (w.alloc (.cells #[] 63)) = w') := by
    by_cases h0 : i < 0
    · exact tinsert_bad_neg _ tb i z h0
    · exact tinsert_bad_past _ P tb wr i z (ids xs) (h.tree.ch0 hc1) (by omega) (by rw [ids_len]; omega)
  clear h hhas hz hw hc1
  go_enter Try.func10, Try.ntmps10
  go_wp2_with (at_lookup; refine wpList_lookup_own_unit _ rfl _ _ 60 rfl 2 63 lawI Try.underlying60 (zeroS _) mb n D rfl hown _ _ rfl hkey ?_)
  go_wp2_with fail
  refine hI.out.mono ?_
  rintro e w2 ⟨rfl, rfl⟩
  go_wp2
  go_ret
  exact ⟨rfl, (Ch.refl _ _).alloc _⟩
set_option maxRecDepth 100000 in
set_option maxHeartbeats 2000000 in
theorem pinsert_ok (w : World) (P : Nat → Prop) (xb tb mb wr n i : Nat) (z : Int) (xs : List Int) (h : IxAt PosT w P xb tb mb xs wr n) (hw : Wf z) (hz : z ∉ xs) (hi : i ≤ xs.length) (hN : xs.length ≤ 4999) (hwr : wr ≤ 1152921504606846976) (hn : n ≤ 1000000) :
    Calls Try.prog 10 #[PN xb, .int .i64 i, .int .i64 z] w (IxRes PosT w P xb tb mb wr (n + 1) xs.length (xs.take i ++ [z] ++ xs.drop i) (.int .i64 0)) := by
  obtain ⟨D, hown, hhas⟩ := h.set
  have hd := hhas z hw
  rw [decide_eq_false hz] at hd
  obtain ⟨c0, c1⟩ := h.cells
  have hkey := Go.Maps.keyOf_int_mk (P := Try.prog) (k := 2) Try.underlying2 (a := z) hw
  have hc1 : Ch [] w (w.alloc (.cells #[] 63)) := (Ch.refl [] w).alloc _
  have c3 := (h.ch0 hc1).cells.1
  have hI := Lib.hid (tinsert_ok _ P tb wr i z (ids xs) (h.tree.ch0 hc1) (by rw [ids_len]; exact hi) (by rw [ids_len]; omega) hwr)
  rw [ids_ins, ids_len] at hI
  have hn47 : n < maxLen := by unfold maxLen; omega
  have H := Lib.hid (And.intro h (And.intro hw (And.intro hz (And.intro hhas hc1))))
  clear h hhas hz hw hc1
  go_enter Try.func10, Try.ntmps10
  go_wp2_with (at_lookup; refine wpList_lookup_own_unit _ rfl _ _ 60 rfl 2 63 lawI Try.underlying60 (zeroS _) mb n D rfl hown _ _ rfl hkey ?_)
  go_wp2_with fail
  refine hI.out.mono ?_
  rintro e w2 ⟨d, rfl, ht2, hc2, hd2⟩
  obtain ⟨h, hw, hz, hhas, hc1⟩ := H.out
  have hc12 : Ch [tb] w w2 := (hc1.mono (fun _ h => by cases h)).trans hc2
  obtain ⟨root, hb⟩ := h.tree.blk
  obtain ⟨es, clock, hm⟩ := h.set.blk
  have hmt : mb ∉ [tb] := by simp; rintro rfl; rw [hb] at hm; cases hm
  have hxt : xb ∉ [tb] := by simp; exact ne_of_elem h.blk hb (by decide)
  have c2 : w2.cell? ⟨xb, 1, none⟩ = some (.map (some mb)) := by rw [cell_of (hc12.heap h.blk hxt)]; rfl
  have hown2 : w2.ownsMap Try.prog 2 (unitElem (H := Unit)) mb n D := by
    obtain ⟨es', clock', hb', r⟩ := hown
    exact ⟨es', clock', hc12.heap hb' hmt, r⟩
  have H2 := Lib.hid (And.intro ht2 (And.intro hc12 hd2))
  clear ht2 hc12 hd2 hc2 hc1 hhas hz hw h hb hm hmt hxt hown c0 c1 c3 hI
  go_wp2_with (at_mapUpdate; refine wpList_mapUpdate_in _ rfl _ _ _ 60 rfl 2 63 lawI Try.underlying60 (unitElem (H := Unit)) mb n D rfl hown2 hn47 _ _ _ rfl rfl hkey (.agg []) [] unitElem_mk ?_)
  intro w3 hown3 hturn3
  have H3 := Lib.hid (And.intro hown3 hturn3)
  clear hown3 hturn3
  go_wp2
  go_ret
  obtain ⟨h, hw, hz, hhas, hc1⟩ := H.out
  obtain ⟨ht2, hc12, hd2⟩ := H2.out
  obtain ⟨hown3, hturn3⟩ := H3.out
  have hset : SetIs w3 mb (n + 1) (xs.take i ++ [z] ++ xs.drop i) := by
    refine ⟨_, hown3, fun y hy => ?_⟩
    have hkl : WideAt.IsKeyLit (.int .i64 z) := lawI.key hkey
    by_cases he : y = z
    · subst he
      rw [Go.Maps.has_put_same hown2.isMap hkl, decide_eq_true ((mem_ins xs i y y).2 (.inl rfl))]
    · rw [Go.Maps.has_put_other (by simpa using he), hhas y hy]
      congr 1
      rw [mem_ins]
      simp [he]
  have := h.turn (by decide) hc12 (turned_ch hturn3) (ht2.sub (Q := fun k => P k ∨ w.heap.size ≤ k) (fun k hk _ => hk.elim .inl (fun h => .inr (by simp at h; omega)))) hset (nodup_ins h.nodup hz) (fun y hy => by
    rcases (mem_ins xs i z y).1 hy with rfl | hy
    · exact hw
    · exact h.wf y hy)
  exact ⟨d, rfl, this.1, this.2, hd2.fewer⟩
end Go.Proofs.Ytjecadkmlakncaa
