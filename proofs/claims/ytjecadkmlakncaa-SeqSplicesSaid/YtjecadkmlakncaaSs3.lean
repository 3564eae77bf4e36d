/-
  seqidx: Splice.
-/
import Derived.Test.YtjecadkmlakncaaSs1
import Derived.Test.YtjecadkmlakncaaSs2
namespace Go.Proofs.Ytjecadkmlakncaa
open Go.RowKit

/-- What a splice is asked. -/
structure SpliceOf (xs cs : List Int) (b : Int) : Prop where
  nodup : cs.Nodup
  mem : ∀ c, c ∈ cs → c ∈ xs ∧ c ≠ 0 ∧ c ≠ b
  before : b ∉ xs ∧ b = 0 ∨ b ∈ xs ∧ b ∉ cs ∧ b ≠ 0
  len : xs.length ≤ 1000
  clen : cs.length ≤ 100
set_option maxRecDepth 100000 in
set_option maxHeartbeats 8000000 in
theorem ssplice_ok (w : World) (xb tb mb wn n b0 o0 : Nat) (sv : Value) (cs xs : List Int) (b : Int) (h : IxAt SeqT w PT xb tb mb xs wn n) (hr : Row1 2 w b0 o0 sv (ids cs)) (hs : SpliceOf xs cs b) (hwn : wn ≤ 1000000) (hn : n ≤ 10000) :
    Calls Try.prog 29 #[PN xb, sv, .int .i64 b] w fun e w' => e = .returned (.int .i64 0) ∧ ∃ d n', d ≤ 200 * cs.length ∧ n' ≤ n + cs.length ∧ IxAt SeqT w' PT xb tb mb (res xs cs b) (wn + d) n' ∧ Ch [tb, mb] w w' := by
  have hmm := @run_makeMap Try.prog
  obtain ⟨aa, ca, rfl, _, ha⟩ := hr.shape
  have hc0 : Ch [] w (w.alloc (.cells #[PN xb] 35)) := (Ch.refl [] w).alloc _
  have hbx0 : (w.alloc (.cells #[PN xb] 35)).cell? ⟨w.heap.size, 0, none⟩ = some (PN xb) := by rw [cell_of (heap_alloc_same _ _)]; rfl
  have hT : Hid (Calls Try.prog 39 #[PN xb, .int .i64 b] (w.alloc (.cells #[PN xb] 35)) fun e w' => e = .returned (.bool true) ∧ Ch [] (w.alloc (.cells #[PN xb] 35)) w') := by
    rcases hs.before with ⟨_, rfl⟩ | ⟨h1, _, h2⟩
    · exact starget_zero _ xb
    · exact starget_has _ PT xb tb mb wn n b xs (h.ch0 hc0) h2 h1
  have hCF := Lib.hid (fun W (hc : Ch [] (w.alloc (.cells #[PN xb] 35)) W) => containsFunc_any W PT xb tb mb wn n w.heap.size b0 o0 (.slice aa (ids cs).length ca) cs xs (hc.cell0 hbx0) (h.ch0 (hc0.trans hc)) (hr.ch (hc0.trans hc) (by simp)) (fun c hc => (hs.mem c hc).1) (by have := hs.clen; omega))
  rw [ids_len] at hCF ⊢
  have hlen := hs.clen
  have hstep : ∀ j, j < cs.length → ∃ z, cs[j]? = some z ∧ aa = some ⟨b0, o0, none⟩ := fun j hj => ⟨cs[j], List.getElem?_eq_getElem hj, ha (by intro h; have := ids_len cs; rw [h] at this; simp at this; omega)⟩
  have HS := Lib.hid hstep
  have H := Lib.hid (And.intro h (And.intro hr (And.intro hs (And.intro hc0 hbx0))))
  clear h hr hs hc0 hstep ha
  go_enter Try.func29, Try.ntmps29
  go_wp2_with fail
  (with_reducible refine hT.out.mono ?_)
  rintro e w1 ⟨rfl, hc1⟩
  have hCF1 := Lib.hid (hCF.out w1 hc1)
  have HC1 := Lib.hid hc1
  clear hc1 hCF hT hbx0
  go_wp2_with fail
  (with_reducible refine hCF1.out.mono ?_)
  rintro e w2 ⟨rfl, hc2⟩
  have HC2 := Lib.hid ((H.out.2.2.2.1.trans HC1.out).trans hc2)
  have HB2 := Lib.hid ((HC1.out.trans hc2).cell0 H.out.2.2.2.2)
  clear hc2 hCF1 HC1
  go_wp2_with fail
  go_loopg [26] cs.length (fun g iv wr => ∃ j : Nat, g + j = cs.length ∧ iv = .int .i64 j ∧ SetIs wr w2.heap.size j (cs.take j) ∧ Ch [] w2 wr)
  case atStart => exact ⟨0, rfl, rfl, ⟨_, World.ownsMap_made (H := Unit) w2 Try.prog 2 unitElem, fun z _ => by simp [Maps.has]⟩, (Ch.refl [] w2).alloc _⟩
  case round =>
    obtain ⟨j, hgj, rfl, hset, hc⟩ := hrel
    have HG := Lib.hid hgj
    have hjl : j ≤ cs.length := by omega
    clear hgj
    by_cases hlt : j < cs.length
    · obtain ⟨z, hz, rfl⟩ := HS.out j hlt
      have hm := H.out.2.2.1.mem z (List.mem_of_getElem? hz)
      have hwz := H.out.1.wf z hm.1
      have k1 : wr.cell? ⟨b0, o0 + j, none⟩ = some (.int .i64 z) := ((H.out.2.1.ch (HC2.out.trans hc) (by simp)).get j _ (ids_get hz))
      have j1 : (j : Int) < (cs.length : Int) := by omega
      obtain ⟨D, hown, hhas⟩ := hset
      have hnot : z ∉ cs.take j := fun hmem => by
        obtain ⟨t, ht⟩ := List.mem_iff_getElem?.1 hmem
        rw [List.getElem?_take] at ht
        split at ht
        · rename_i htj
          exact first_of H.out.2.2.1.nodup hz t htj ht
        · cases ht
      have hd := hhas z hwz
      rw [decide_eq_false hnot] at hd
      have hkey := Go.Maps.keyOf_int_mk (P := Try.prog) (k := 2) Try.underlying2 (a := z) hwz
      have hown2 := hown.alloc (.cells #[] 63)
      have hn47 : j < maxLen := by unfold maxLen; omega
      have e1 : (z == b) = false := by rw [beq_eq_false_iff_ne]; exact hm.2.2
      have HC := Lib.hid (And.intro hc (And.intro hz hhas))
      clear hc hz hhas hnot hwz
      go_wp2_with (first
        | (at_lookup; refine wpList_lookup_own_unit _ rfl _ _ 60 rfl 2 63 lawI Try.underlying60 (zeroS _) w2.heap.size j D rfl hown _ _ rfl hkey ?_)
        | (at_mapUpdate; refine wpList_mapUpdate_in _ rfl _ _ _ 60 rfl 2 63 lawI Try.underlying60 (unitElem (H := Unit)) w2.heap.size j D rfl hown2 hn47 _ _ _ rfl rfl hkey (.agg []) [] unitElem_mk ?_))
      intro w3 hown3 hturn3
      have hset3 : SetIs w3 w2.heap.size (j + 1) (cs.take (j + 1)) := by
        refine ⟨_, hown3, fun y hy => ?_⟩
        have hkl : WideAt.IsKeyLit (.int .i64 z) := lawI.key hkey
        rw [List.take_add_one, HC.out.2.1]
        by_cases he : y = z
        · subst he
          rw [Go.Maps.has_put_same hown2.isMap hkl]
          simp
        · rw [Go.Maps.has_put_other (by simpa using he), HC.out.2.2 y hy]
          congr 1
          simp [he]
      have hc3 : Ch [] w2 w3 := (HC.out.1.alloc _).trans' (turned_ch hturn3) (fun x hx => by simp at hx; subst hx; exact .inr (Nat.le_refl _))
      have H3 := Lib.hid (And.intro hset3 hc3)
      clear hown3 hturn3 hset3 hc3 hown hown2 hd hkey k1 hm
      go_wp2
      go_roundg (gk - 1)
      case measure => have := HG.out; omega
      case rel => exact ⟨j + 1, by have := HG.out; omega, by go_num, H3.out.1, H3.out.2⟩
    · obtain rfl : j = cs.length := by omega
      have hcw := HC2.out.trans hc
      have h2 := H.out.1.ch0 hcw
      have hsz := hcw.size
      have hbxlt : w.heap.size < wr.heap.size := by
        have := block_lt_of_cell (hc.cell0 HB2.out)
        exact this
      have hap : tb < w.heap.size ∧ mb < w.heap.size := by
        obtain ⟨root, hb⟩ := H.out.1.tree.blk
        obtain ⟨es, clock, hm⟩ := H.out.1.set.blk
        exact ⟨lt_of_block hb, lt_of_block hm⟩
      have HW := Lib.hid (And.intro hcw (And.intro h2 (And.intro (hc.cell0 HB2.out) (And.intro hbxlt (And.intro hap (H.out.2.1.ch hcw (by simp)))))))
      clear hset hc hlt hjl hcw h2 hsz hbxlt hap HB2 HC2
      go_wp2_with fail
      obtain ⟨w5, hw5⟩ : ∃ w5, w5 = wr := ⟨_, rfl⟩
      rw [← hw5] at HW ⊢
      clear hw5
      go_loopg [52] cs.length (fun g iv wr => ∃ j d nn : Nat, g + j = cs.length ∧ iv = .int .i64 j ∧ d ≤ 200 * j ∧ nn ≤ n + j ∧ IxAt SeqT wr PT xb tb mb (res xs (cs.take j) b) (wn + d) nn ∧ ((∀ y, y ∈ res xs (cs.take j) b ↔ y ∈ xs) ∧ (res xs (cs.take j) b).length = xs.length) ∧ Ch [tb, mb] w5 wr)
      case atStart => exact ⟨0, 0, n, rfl, rfl, by omega, by omega, by rw [List.take_zero, res_nil]; exact HW.out.2.1, ⟨fun y => by rw [List.take_zero, res_nil], by rw [List.take_zero, res_nil]⟩, Ch.refl _ _⟩
      case round =>
        obtain ⟨j, d, nn, hgj, rfl, hd, hnn, hx, hmem, hc⟩ := hrel
        have HG := Lib.hid (And.intro hgj (And.intro hd hnn))
        have hjl : j ≤ cs.length := by omega
        have hd2 : d ≤ 20000 := by omega
        have hnn2 : nn ≤ 20000 := by omega
        clear hgj hd hnn
        by_cases hlt : j < cs.length
        · obtain ⟨z, hz, rfl⟩ := HS.out j hlt
          have hm := H.out.2.2.1.mem z (List.mem_of_getElem? hz)
          have k1 : wr.cell? ⟨b0, o0 + j, none⟩ = some (.int .i64 z) := (HW.out.2.2.2.2.2.ix HW.out.2.1 hc).get j _ (ids_get hz)
          have k2 : wr.cell? ⟨w.heap.size, 0, none⟩ = some (PN xb) := by
            rw [hc.rules.1 w.heap.size 0 HW.out.2.2.2.1 (by simp; have := HW.out.2.2.2.2.1; omega)]
            exact HW.out.2.2.1
          have j1 : (j : Int) < (cs.length : Int) := by omega
          obtain ⟨hmem, hle⟩ := hmem
          obtain ⟨i, hi⟩ := List.mem_iff_getElem?.1 ((hmem z).2 hm.1)
          have hlenL : (res xs (cs.take j) b).length ≤ 4999 := by
            have := H.out.2.2.1.len
            omega
          have hM := Lib.hid (smove_any wr PT xb tb mb (wn + d) nn i z b _ hx hlenL (by omega) (by omega) hi hm.2.1 (by
            rcases H.out.2.2.1.before with ⟨_, h⟩ | ⟨h, _, _⟩
            · exact .inl h
            · exact .inr ((hmem b).2 h)))
          have HX := Lib.hid (And.intro hx (And.intro hmem (And.intro hc (And.intro hz (And.intro hi (And.intro hle hm))))))
          clear hx hmem hc hz hi hm hlenL hle
          go_wp2_with fail
          (with_reducible refine hM.out.mono ?_)
          rintro e w6 ⟨ys, a, n6, hmt, hn6, hres⟩
          obtain ⟨hx, hmem, hc, hz, hi, hle, hm⟩ := HX.out
          have hc6 := hres.ch
          obtain ⟨d6, rfl, hd6, hx6, _⟩ := hres
          have hnot : z ∉ cs.take j := fun hmem => by
            obtain ⟨t, ht⟩ := List.mem_iff_getElem?.1 hmem
            rw [List.getElem?_take] at ht
            split at ht
            · rename_i htj
              exact first_of H.out.2.2.1.nodup hz t htj ht
            · cases ht
          have hbf : b ∉ xs ∧ b = 0 ∨ b ∈ xs ∧ b ∉ cs.take j ∧ b ≠ 0 := by
            rcases H.out.2.2.1.before with h | ⟨h1, h2, h3⟩
            · exact .inl h
            · exact .inr ⟨h1, fun h => h2 (List.mem_of_mem_take h), h3⟩
          have hys := res_step hx.nodup hi hnot hm.2.2 hbf hmt
          have htk : cs.take (j + 1) = cs.take j ++ [z] := by rw [List.take_add_one, hz]; rfl
          rw [← htk] at hys
          have hx7 : IxAt SeqT w6 PT xb tb mb (res xs (cs.take (j + 1)) b) (wn + (d + d6)) n6 := by
            rw [← hys, ← Nat.add_assoc]
            exact hx6.sub (fun _ _ _ => trivial)
          have hmm7 : (∀ y, y ∈ res xs (cs.take (j + 1)) b ↔ y ∈ xs) ∧ (res xs (cs.take (j + 1)) b).length = xs.length := by
            rw [← hys]
            exact ⟨fun y => (hmt.mem y).trans (hmem y), hmt.len.trans hle⟩
          have H7 := Lib.hid (And.intro hx7 (And.intro hmm7 (hc.trans hc6)))
          clear hx hmem hc hz hi hm hc6 hx6 hnot hbf hys htk hx7 hmm7 hmt hM HX hle k1 k2
          go_wp2
          go_roundg (gk - 1)
          case measure => have := HG.out; omega
          case rel => exact ⟨j + 1, d + d6, n6, by have := HG.out; omega, by go_num, by have := HG.out; omega, by have := HG.out; omega, H7.out.1, H7.out.2.1, H7.out.2.2⟩
        · obtain rfl : j = cs.length := by omega
          have HE := Lib.hid (And.intro hx hc)
          clear hx hc hmem hlt
          go_wp2
          go_ret
          have hf := HE.out
          rw [List.take_length] at hf
          exact ⟨rfl, d, nn, by have := HG.out; omega, by have := HG.out; omega, hf.1, (HW.out.1.mono (fun _ h => by cases h)).trans hf.2⟩
end Go.Proofs.Ytjecadkmlakncaa
