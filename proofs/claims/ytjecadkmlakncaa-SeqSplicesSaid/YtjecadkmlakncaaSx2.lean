/-
  seqidx: has, target, Place, ahead, puts, Add, Move.
-/
import Derived.Test.YtjecadkmlakncaaSx1
import Derived.Test.YtjecadkmlakncaaPh2
namespace Go.Proofs.Ytjecadkmlakncaa
open Go.RowKit

set_option maxRecDepth 100000 in
theorem shas (w : World) (P : Nat → Prop) (xb tb mb wr n : Nat) (z : Int) (xs : List Int) (bv : Bool) (h : IxAt SeqT w P xb tb mb xs wr n) (hw : Wf z) (hz : decide (z ∈ xs) = bv) : Calls Try.prog 42 #[PN xb, .int .i64 z] w fun e w' => e = .returned (.bool bv) ∧ Ch [] w w' := by
  obtain ⟨D, hown, hhas⟩ := h.set
  have hd := hhas z hw
  rw [hz] at hd
  obtain ⟨c0, c1⟩ := h.cells
  have hkey := Go.Maps.keyOf_int_mk (P := Try.prog) (k := 2) Try.underlying2 (a := z) hw
  clear h hhas hz hw
  go_enter Try.func42, Try.ntmps42
  go_wp2_with (at_lookup; refine wpList_lookup_own_unit _ rfl _ _ 60 rfl 2 63 lawI Try.underlying60 (zeroS _) mb n D rfl hown _ _ rfl hkey ?_)
  go_wp2
  go_ret
  exact ⟨rfl, (Ch.refl _ _).alloc _⟩
theorem starget_zero (w : World) (xb : Nat) : Calls Try.prog 39 #[PN xb, .int .i64 0] w fun e w' => e = .returned (.bool true) ∧ Ch [] w w' := by
  go_enter Try.func39, Try.ntmps39
  go_wp2_with fail
  go_ret
  exact ⟨rfl, Ch.refl _ _⟩
theorem starget_has (w : World) (P : Nat → Prop) (xb tb mb wr n : Nat) (z : Int) (xs : List Int) (h : IxAt SeqT w P xb tb mb xs wr n) (h0 : z ≠ 0) (hz : z ∈ xs) : Calls Try.prog 39 #[PN xb, .int .i64 z] w fun e w' => e = .returned (.bool true) ∧ Ch [] w w' := by
  have hH := Lib.hid (shas w P xb tb mb wr n z xs true h (h.wf z hz) (decide_eq_true hz))
  have e0 : (z == 0) = false := by rw [beq_eq_false_iff_ne]; exact h0
  clear h hz
  go_enter Try.func39, Try.ntmps39
  go_wp2_with fail
  refine hH.out.mono ?_
  rintro e w1 ⟨rfl, hc⟩
  have H := Lib.hid hc
  clear hc
  go_wp2
  go_ret
  exact ⟨rfl, H.out⟩
set_option maxRecDepth 100000 in
set_option maxHeartbeats 1000000 in
theorem splace_ok (w : World) (P : Nat → Prop) (xb tb mb wr n i : Nat) (z : Int) (xs : List Int) (h : IxAt SeqT w P xb tb mb xs wr n) (hN : xs.length ≤ 5000) (hz : xs[i]? = some z) : Calls Try.prog 19 #[PN xb, .int .i64 z] w fun e w' => e = .returned (.tuple #[.int .i64 i, .bool true]) ∧ Ch [] w w' := by
  have hm := List.mem_of_getElem? hz
  have hH := Lib.hid (shas w P xb tb mb wr n z xs true h (h.wf z hm) (decide_eq_true hm))
  have HA := Lib.hid (fun W (hc : Ch [] w W) => sall W P xb tb mb wr n xs (h.ch0 hc) hN)
  have hI := Lib.hid (And.intro hN (And.intro hz (first_of h.nodup hz)))
  clear h hz hN hm
  go_enter Try.func19, Try.ntmps19
  go_wp2_with fail
  refine hH.out.mono ?_
  rintro e w1 ⟨rfl, hc1⟩
  have hA := Lib.hid (HA.out w1 hc1)
  have HC := Lib.hid hc1
  clear hc1
  go_wp2_with fail
  refine hA.out.mono ?_
  rintro e w2 ⟨sv, rfl, ho, hc⟩
  obtain ⟨b2, _, hr⟩ := Row1.of_own ho (ids_len xs).symm
  have hX := Lib.hid (index_any w2 b2 0 i sv z xs hr hI.out.1 hI.out.2.1 hI.out.2.2)
  have hC := Lib.hid (HC.out.trans hc)
  clear ho hc hr hA
  go_wp2_with fail
  refine hX.out.mono ?_
  rintro e w3 ⟨rfl, rfl⟩
  go_wp2
  go_ret2
  exact ⟨rfl, hC.out⟩
theorem sahead_zero (w : World) (P : Nat → Prop) (xb tb mb wr n : Nat) (xs : List Int) (h : IxAt SeqT w P xb tb mb xs wr n) : Calls Try.prog 41 #[PN xb, .int .i64 0] w fun e w' => e = .returned (.int .i64 xs.length) ∧ Ch [] w w' := by
  have hL := Lib.hid (slen w P xb tb mb wr n xs h)
  clear h
  go_enter Try.func41, Try.ntmps41
  go_wp2_with fail
  refine hL.out.mono ?_
  rintro e w1 ⟨rfl, rfl⟩
  go_wp2
  go_ret
  exact ⟨rfl, Ch.refl _ _⟩
theorem sahead_place (w : World) (P : Nat → Prop) (xb tb mb wr n i : Nat) (z : Int) (xs : List Int) (h : IxAt SeqT w P xb tb mb xs wr n) (hN : xs.length ≤ 5000) (h0 : z ≠ 0) (hz : xs[i]? = some z) : Calls Try.prog 41 #[PN xb, .int .i64 z] w fun e w' => e = .returned (.int .i64 i) ∧ Ch [] w w' := by
  have hP := Lib.hid (splace_ok w P xb tb mb wr n i z xs h hN hz)
  have e0 : (z == 0) = false := by rw [beq_eq_false_iff_ne]; exact h0
  clear h hz
  go_enter Try.func41, Try.ntmps41
  go_wp2_with fail
  refine hP.out.mono ?_
  rintro e w1 ⟨rfl, hc⟩
  have H := Lib.hid hc
  clear hc
  go_wp2
  go_ret
  exact ⟨rfl, H.out⟩
set_option maxRecDepth 100000 in
set_option maxHeartbeats 2000000 in
theorem sputs (w : World) (P : Nat → Prop) (xb tb mb wr n i : Nat) (z : Int) (xs : List Int) (h : IxAt SeqT w P xb tb mb xs wr n) (hw : Wf z) (hz : z ∉ xs) (hi : i ≤ xs.length) (hN : xs.length ≤ 4999) (hwr : wr ≤ 1152921504606846976) (hn : n ≤ 1000000) :
    Calls Try.prog 40 #[PN xb, .int .i64 i, .int .i64 z] w (IxRes SeqT w P xb tb mb wr (n + 1) xs.length (xs.take i ++ [z] ++ xs.drop i) (.tuple #[])) := by
  obtain ⟨D, hown, hhas⟩ := h.set
  obtain ⟨c0, c1⟩ := h.cells
  have hkey := Go.Maps.keyOf_int_mk (P := Try.prog) (k := 2) Try.underlying2 (a := z) hw
  have hI := Lib.hid (tinsert_ok _ P tb wr i z (ids xs) h.tree (by rw [ids_len]; exact hi) (by rw [ids_len]; omega) hwr)
  rw [ids_ins, ids_len] at hI
  have hn47 : n < maxLen := by unfold maxLen; omega
  have H := Lib.hid (And.intro h (And.intro hw (And.intro hz (And.intro hhas hown))))
  clear h hhas hz hw hown
  go_enter Try.func40, Try.ntmps40
  go_wp2_with fail
  refine hI.out.mono ?_
  rintro e w2 ⟨d, rfl, ht2, hc2, hd2⟩
  obtain ⟨h, hw, hz, hhas, hown⟩ := H.out
  have hap := h.apart (by decide)
  have c2 : w2.cell? ⟨xb, 1, none⟩ = some (.map (some mb)) := by rw [cell_of (hc2.heap h.blk hap.2.1)]; rfl
  have hown2 : w2.ownsMap Try.prog 2 (unitElem (H := Unit)) mb n D := by
    obtain ⟨es', clock', hb', r⟩ := hown
    exact ⟨es', clock', hc2.heap hb' hap.1, r⟩
  have H2 := Lib.hid (And.intro ht2 (And.intro hc2 hd2))
  clear ht2 hd2 hc2 hhas hz hw h hap hown c0 c1 hI
  go_wp2_with (at_mapUpdate; refine wpList_mapUpdate_in _ rfl _ _ _ 60 rfl 2 63 lawI Try.underlying60 (unitElem (H := Unit)) mb n D rfl hown2 hn47 _ _ _ rfl rfl hkey (.agg []) [] unitElem_mk ?_)
  intro w3 hown3 hturn3
  have H3 := Lib.hid (And.intro hown3 hturn3)
  clear hown3 hturn3
  go_wp2
  go_end0
  obtain ⟨h, hw, hz, hhas, hown⟩ := H.out
  obtain ⟨ht2, hc2, hd2⟩ := H2.out
  obtain ⟨hown3, hturn3⟩ := H3.out
  have hset : SetIs w3 mb (n + 1) (xs.take i ++ [z] ++ xs.drop i) := by
    refine ⟨_, hown3, fun y hy => ?_⟩
    have hkl : WideAt.IsKeyLit (.int .i64 z) := lawI.key hkey
    by_cases he : y = z
    · subst he
      rw [Go.Maps.has_put_same hown2.isMap hkl, decide_eq_true ((mem_ins xs i y y).2 (.inl rfl))]
    · rw [Go.Maps.has_put_other (by simpa using he), hhas y hy]
      congr 1
      rw [mem_ins]
      simp [he]
  have := h.turn (by decide) hc2 (turned_ch hturn3) ht2 hset (nodup_ins h.nodup hz) (fun y hy => by
    rcases (mem_ins xs i z y).1 hy with rfl | hy
    · exact hw
    · exact h.wf y hy)
  have h1 := this.1
  rw [List.append_assoc] at h1
  exact ⟨d, rfl, h1, this.2, hd2.fewer⟩

set_option maxRecDepth 100000 in
set_option maxHeartbeats 1000000 in
theorem sadd_there (w : World) (P : Nat → Prop) (xb tb mb wr n : Nat) (z : Int) (xs : List Int) (h : IxAt SeqT w P xb tb mb xs wr n) (hz : z ∈ xs) :
    Calls Try.prog 16 #[PN xb, .int .i64 z] w fun e w' => e = .returned (.int .i64 72) ∧ Ch [] w w' := by
  have hL := Lib.hid (slen w P xb tb mb wr n xs h)
  have hH := Lib.hid (shas w P xb tb mb wr n z xs true h (h.wf z hz) (decide_eq_true hz))
  have hI : Hid (Calls Try.prog 36 #[PN xb, .int .i64 xs.length, .int .i64 z] w fun e w' => e = .returned (.int .i64 72) ∧ Ch [] w w') := by
    clear h hz hL
    go_enter Try.func36, Try.ntmps36
    go_wp2_with fail
    refine hH.out.mono ?_
    rintro e w1 ⟨rfl, hc⟩
    have H := Lib.hid hc
    clear hc
    go_wp2
    go_ret
    exact ⟨rfl, H.out⟩
  clear h hz hH
  go_enter Try.func16, Try.ntmps16
  go_wp2_with fail
  refine hL.out.mono ?_
  rintro e w1 ⟨rfl, rfl⟩
  go_wp2_with fail
  refine hI.out.mono ?_
  rintro e w2 ⟨rfl, hc⟩
  have H := Lib.hid hc
  clear hc
  go_wp2
  go_ret
  exact ⟨rfl, H.out⟩
set_option maxRecDepth 100000 in
set_option maxHeartbeats 1000000 in
theorem sadd_ok (w : World) (P : Nat → Prop) (xb tb mb wr n : Nat) (z : Int) (xs : List Int) (h : IxAt SeqT w P xb tb mb xs wr n) (hw : Wf z) (hz : z ∉ xs) (hN : xs.length ≤ 4999) (hwr : wr ≤ 1152921504606846976) (hn : n ≤ 1000000) :
    Calls Try.prog 16 #[PN xb, .int .i64 z] w (IxRes SeqT w P xb tb mb wr (n + 1) xs.length (xs ++ [z]) (.int .i64 0)) := by
  have hL := Lib.hid (slen w P xb tb mb wr n xs h)
  have hH := Lib.hid (shas w P xb tb mb wr n z xs false h hw (decide_eq_false hz))
  have HL := Lib.hid (fun W (hc : Ch [] w W) => slen W P xb tb mb wr n xs (h.ch0 hc))
  have HP := Lib.hid (fun W (hc : Ch [] w W) => sputs W P xb tb mb wr n xs.length z xs (h.ch0 hc) hw hz (Nat.le_refl _) hN hwr hn)
  have hI : Hid (Calls Try.prog 36 #[PN xb, .int .i64 xs.length, .int .i64 z] w (IxRes SeqT w P xb tb mb wr (n + 1) xs.length (xs ++ [z]) (.int .i64 0))) := by
    clear h hz hL
    have e1 : decide ((xs.length : Int) < (xs.length : Int)) = false := by simp
    go_enter Try.func36, Try.ntmps36
    go_wp2_with fail
    refine hH.out.mono ?_
    rintro e w1 ⟨rfl, hc⟩
    have hL1 := Lib.hid (HL.out w1 hc)
    have hP1 := Lib.hid (HP.out w1 hc)
    have H := Lib.hid hc
    clear hc
    go_wp2_with fail
    refine hL1.out.mono ?_
    rintro e w2 ⟨rfl, rfl⟩
    go_wp2_with fail
    refine hP1.out.mono ?_
    rintro e w3 ⟨d, rfl, hx, hc3, hd⟩
    have H3 := Lib.hid (And.intro hx (And.intro hc3 hd))
    clear hx hc3 hd
    go_wp2
    go_ret
    obtain ⟨hx, hc3, hd⟩ := H3.out
    rw [List.take_length, List.drop_length, List.append_nil] at hx
    exact ⟨d, rfl, hx.sub (fun k hk _ => hk.elim .inl (fun h => .inr (Nat.le_trans H.out.size h))), (H.out.mono (fun _ h => by cases h)).trans hc3, hd⟩
  clear h hz hH HL HP
  go_enter Try.func16, Try.ntmps16
  go_wp2_with fail
  refine hL.out.mono ?_
  rintro e w1 ⟨rfl, rfl⟩
  go_wp2_with fail
  refine hI.out.mono ?_
  rintro e w2 ⟨d, rfl, hm⟩
  have H := Lib.hid hm
  clear hm
  go_wp2
  go_ret
  exact ⟨d, rfl, H.out⟩

set_option maxRecDepth 100000 in
set_option maxHeartbeats 1000000 in
theorem smove_self (w : World) (P : Nat → Prop) (xb tb mb wr n i : Nat) (z : Int) (xs : List Int) (h : IxAt SeqT w P xb tb mb xs wr n) (hN : xs.length ≤ 4999) (hz : xs[i]? = some z) (h0 : z ≠ 0) :
    Calls Try.prog 18 #[PN xb, .int .i64 z, .int .i64 z] w fun e w' => e = .returned (.tuple #[.int .i64 i, .int .i64 0]) ∧ Ch [] w w' := by
  have hP := Lib.hid (splace_ok w P xb tb mb wr n i z xs h (by omega) hz)
  have HT := Lib.hid (fun W (hc : Ch [] w W) => starget_has W P xb tb mb wr n z xs (h.ch0 hc) h0 (List.mem_of_getElem? hz))
  have e0 : (z != 0) = true := by simpa using h0
  have e1 : (z == z) = true := by simp
  clear h hz h0
  go_enter Try.func18, Try.ntmps18
  go_wp2_with fail
  refine hP.out.mono ?_
  rintro e w1 ⟨rfl, hc⟩
  have hT := Lib.hid (HT.out w1 hc)
  have H := Lib.hid hc
  clear hc
  go_wp2_with fail
  refine hT.out.mono ?_
  rintro e w2 ⟨rfl, hc⟩
  have H2 := Lib.hid (H.out.trans hc)
  clear hc
  go_wp2
  go_ret2
  exact ⟨rfl, H2.out⟩
/-- What a call that writes leaves: no more than so many nodes. -/
def IxRes2 (T : TypeId) (w : World) (P : Nat → Prop) (xb tb mb wr n' : Nat) (ys : List Int) (ev : Value) (e : Ending) (w' : World) : Prop :=
  ∃ d, e = .returned ev ∧ d ≤ 200 ∧ IxAt T w' (fun k => P k ∨ w.heap.size ≤ k) xb tb mb ys (wr + d) n' ∧ Ch [tb, mb] w w'
theorem IxRes.two {T : TypeId} {w w' : World} {P : Nat → Prop} {xb tb mb wr n' m : Nat} {ys : List Int} {ev : Value} {e : Ending} (h : IxRes T w P xb tb mb wr n' m ys ev e w') (hm : m ≤ 4999) : IxRes2 T w P xb tb mb wr n' ys ev e w' := by
  obtain ⟨d, he, hx, hc, hf⟩ := h
  exact ⟨d, he, by have := hf.le hm; omega, hx, hc⟩
/-- Where a row goes that is moved ahead of another one (0: last). -/
def Goes (xs : List Int) (i j : Nat) (z b : Int) : Prop := (b = 0 ∧ j + 1 = xs.length) ∨ (b ≠ 0 ∧ b ≠ z ∧ b ∈ xs ∧ (xs.take i ++ xs.drop (i + 1))[j]? = some b)
set_option maxRecDepth 100000 in
set_option maxHeartbeats 4000000 in
theorem smove_ok (w : World) (P : Nat → Prop) (xb tb mb wr n i j : Nat) (z b : Int) (xs : List Int) (h : IxAt SeqT w P xb tb mb xs wr n) (hN : xs.length ≤ 4999) (hwr : wr ≤ 1152921504606840000) (hn : n ≤ 1000000) (hz : xs[i]? = some z) (hz0 : z ≠ 0) (hg : Goes xs i j z b) :
    Calls Try.prog 18 #[PN xb, .int .i64 z, .int .i64 b] w (IxRes2 SeqT w P xb tb mb wr (n + 1) (moved xs i j z) (.tuple #[.int .i64 i, .int .i64 0])) := by
  have hP := Lib.hid (splace_ok w P xb tb mb wr n i z xs h (by omega) hz)
  have HT : Hid (∀ W, Ch [] w W → Calls Try.prog 39 #[PN xb, .int .i64 b] W fun e w' => e = .returned (.bool true) ∧ Ch [] W w') := fun W hc => by
    rcases hg with ⟨rfl, _⟩ | ⟨h0, _, hm, _⟩
    · exact starget_zero W xb
    · exact starget_has W P xb tb mb wr n b xs (h.ch0 hc) h0 hm
  have hi : i < xs.length := (List.getElem?_eq_some_iff.1 hz).1
  have hw := h.wf z (List.mem_of_getElem? hz)
  have hkey := Go.Maps.keyOf_int_mk (P := Try.prog) (k := 2) Try.underlying2 (a := z) hw
  have hne : (z == b) = false := by
    rw [beq_eq_false_iff_ne]
    rcases hg with ⟨rfl, _⟩ | ⟨_, h1, _⟩
    · exact hz0
    · exact fun h => h1 h.symm
  have hlen : (xs.take i ++ xs.drop (i + 1)).length = xs.length - 1 := by simp [List.length_take]; omega
  have hjl : j ≤ (xs.take i ++ xs.drop (i + 1)).length := by
    rcases hg with ⟨_, h1⟩ | ⟨_, _, _, h1⟩
    · omega
    · have := (List.getElem?_eq_some_iff.1 h1).1; omega
  have HAh : Hid (∀ W Q wr' n', IxAt SeqT W Q xb tb mb (xs.take i ++ xs.drop (i + 1)) wr' n' → Calls Try.prog 41 #[PN xb, .int .i64 b] W fun e w' => e = .returned (.int .i64 j) ∧ Ch [] W w') := fun W Q wr' n' hx => by
    rcases hg with ⟨rfl, h1⟩ | ⟨h0, _, _, h1⟩
    · have := sahead_zero W Q xb tb mb wr' n' _ hx
      rw [hlen, show xs.length - 1 = j by omega] at this
      exact this
    · exact sahead_place W Q xb tb mb wr' n' j b _ hx (by omega) h0 h1
  have H := Lib.hid (And.intro h (And.intro hz (And.intro hi (And.intro hlen hjl))))
  clear h hz hg hi hw hlen hjl hz0
  go_enter Try.func18, Try.ntmps18
  go_wp2_with fail
  refine hP.out.mono ?_
  rintro e w1 ⟨rfl, hc1⟩
  have hT := Lib.hid (HT.out w1 hc1)
  have HC1 := Lib.hid hc1
  clear hc1
  go_wp2_with fail
  refine hT.out.mono ?_
  rintro e w2 ⟨rfl, hc2⟩
  obtain ⟨h, hz, hi, hlen, hjl⟩ := H.out
  have hc2' := HC1.out.trans hc2
  have h2 := h.ch0 hc2'
  have c0 := h2.cells.1
  have hE := Lib.hid (terase_ok w2 P tb wr i z (ids xs) h2.tree (ids_get hz) (by rw [ids_len]; omega) (by omega))
  rw [ids_era, ids_len] at hE
  have HC2 := Lib.hid (And.intro hc2' h2)
  clear h hz hi hlen hjl hc2 hc2' h2
  go_wp2_with fail
  refine hE.out.mono ?_
  rintro e w3 ⟨d, rfl, ht3, hc3, hd3⟩
  obtain ⟨hc2, h2⟩ := HC2.out
  have hap := h2.apart (by decide)
  obtain ⟨D, hown, hhas⟩ := h2.set
  have c3 : w3.cell? ⟨xb, 1, none⟩ = some (.map (some mb)) := by rw [cell_of (hc3.heap h2.blk hap.2.1)]; rfl
  have hown3 : w3.ownsMap Try.prog 2 (unitElem (H := Unit)) mb n D := by
    obtain ⟨es', clock', hb', r⟩ := hown
    exact ⟨es', clock', hc3.heap hb' hap.1, r⟩
  have H3 := Lib.hid (And.intro ht3 (And.intro hc3 (And.intro hd3 hhas)))
  clear ht3 hc3 hd3 hhas hap hown h2 hc2 c0 hE
  go_wp2_with (at_delete; refine wpList_delete_own _ rfl _ _ 60 2 rfl 63 lawI Try.underlying60 (unitElem (H := Unit)) mb n D rfl hown3 _ _ rfl hkey ?_)
  intro w4 hown4 hturn4
  obtain ⟨h, hz, hi, hlen, hjl⟩ := H.out
  obtain ⟨hc2, h2⟩ := HC2.out
  obtain ⟨ht3, hc3, hd3, hhas⟩ := H3.out
  have hset : SetIs w4 mb n (xs.take i ++ xs.drop (i + 1)) := by
    refine ⟨_, hown4, fun y hy => ?_⟩
    by_cases he : y = z
    · subst he
      rw [Go.Maps.has_del_same, eq_comm, decide_eq_false_iff_not, mem_era hz h.nodup]
      simp
    · rw [Go.Maps.has_del_other (by simpa using he), hhas y hy]
      congr 1
      rw [mem_era hz h.nodup]
      simp [he]
  have hx4 := h2.turn (by decide) hc3 (turned_ch hturn4) ht3 hset (nodup_era h.nodup) (fun y hy => h.wf y ((mem_era hz h.nodup y).1 hy).2)
  have hA := Lib.hid (HAh.out w4 _ _ _ hx4.1)
  have hd39 := hd3.le hN
  have HP2 := Lib.hid (fun W (hc : Ch [] w4 W) => sputs W _ xb tb mb (wr + d) n j z _ (hx4.1.ch0 hc) (h.wf z (List.mem_of_getElem? hz)) (fun hm => ((mem_era hz h.nodup z).1 hm).1 rfl) hjl (by omega) (by omega) hn)
  have H4 := Lib.hid (And.intro hx4.2 hd3)
  clear h hz hi hlen hjl hc2 h2 ht3 hc3 hd3 hhas hset hx4 hown4 hturn4 hown3 c3 hd39
  go_wp2_with fail
  refine hA.out.mono ?_
  rintro e w5 ⟨rfl, hc5⟩
  have hP2 := Lib.hid (HP2.out w5 hc5)
  have H5 := Lib.hid hc5
  clear hc5
  go_wp2_with fail
  refine hP2.out.mono ?_
  rintro e w6 ⟨d6, rfl, hx6, hc6, hd6⟩
  have H6 := Lib.hid (And.intro hx6 (And.intro hc6 hd6))
  clear hx6 hc6 hd6
  go_wp2
  go_ret2
  obtain ⟨h, hz, hi, hlen, hjl⟩ := H.out
  obtain ⟨hc2, h2⟩ := HC2.out
  obtain ⟨hc4, hd3⟩ := H4.out
  obtain ⟨hx6, hc6, hd6⟩ := H6.out
  have hle6 := hd6.le (by omega)
  have hle3 := hd3.le hN
  have hc46 := hc4.trans ((H5.out.mono (fun _ h => by cases h)).trans hc6)
  refine ⟨d + d6, rfl, by omega, ?_, (hc2.mono (fun _ h => by cases h)).trans hc46⟩
  rw [← Nat.add_assoc]
  exact hx6.sub (fun k hk _ => by
      have s1 := hc2.size
      have s2 := hc4.size
      have s3 := H5.out.size
      rcases hk with (hk | hk) | hk
      · exact .inl hk
      · right; omega
      · right; omega)
end Go.Proofs.Ytjecadkmlakncaa
