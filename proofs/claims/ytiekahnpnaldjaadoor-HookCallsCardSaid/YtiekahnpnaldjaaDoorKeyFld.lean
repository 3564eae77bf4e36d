/-
  KeyFields: a key of fields is these values, in the order of its parts. The walk.
-/
import Derived.Test.YtiekahnpnaldjaaDoorKey3
import Derived.Deep.Cut
namespace Go.Proofs.YtiekahnpnaldjaaDoor
open Go.RowKit

theorem infoP : (Tryd.prog.info? 66).map (fun i => (i.zero, i.size, i.bytes)) = some (some (.agg #[.int .i64 0, .int .i64 0]), 2, 16) := by kernel_rfl
def flatP (l : List (Int × Int)) : List Value := l.flatMap fun p => [.int .i64 p.1, .int .i64 p.2]
theorem flatP_get : ∀ (l : List (Int × Int)) (i j : Nat) (p : Int × Int), l[i]? = some p → j < 2 → (flatP l)[i * 2 + j]? = [Value.int .i64 p.1, Value.int .i64 p.2][j]?
  | [], i, j, v, h, _ => by simp at h
  | a :: l, 0, j, v, h, hj => by
    simp at h
    subst h
    have e : j = 0 ∨ j = 1 := by omega
    rcases e with rfl | rfl <;> simp [flatP]
  | a :: l, i + 1, j, v, h, hj => by
    have ih := flatP_get l i j v (by simpa using h) hj
    have e : (i + 1) * 2 + j = (i * 2 + j) + 2 := by omega
    rw [e]
    exact ih
theorem flatP_len (l : List (Int × Int)) : (flatP l).length = l.length * 2 := by
  induction l with
  | nil => rfl
  | cons a l ih => simp [flatP] at ih ⊢; omega
theorem flatP_take {vs : List (Int × Int)} {m : Nat} {v : Int × Int} (h : vs[m]? = some v) : flatP (vs.take (m + 1)) = flatP (vs.take m) ++ [.int .i64 v.1, .int .i64 v.2] := by
  rw [List.take_add_one, h]
  simp [flatP]
/-- A row of parts of one's own. -/
theorem parts_of_own {w : World} {base : Nat} {v : Value} {l : List (Int × Int)} (h : w.ownsRow base 66 2 v l.length (flatP l)) :
    ∃ pb pc pa, v = .slice pa l.length pc ∧ (l ≠ [] → pa = some ⟨pb, 0, none⟩) ∧ PartsAt w pb 0 l := by
  rcases h.2 with ⟨rfl, h0⟩ | ⟨g, cap, cur, rfl, hg, hh, _, _, _, ht⟩
  · have : l = [] := List.eq_nil_of_length_eq_zero h0
    subst this
    exact ⟨0, 0, none, rfl, by simp, fun j f h hj => by simp at hj⟩
  · refine ⟨g, cap, some ⟨g, 0, none⟩, rfl, fun _ => rfl, fun j f q hj => ?_⟩
    have hlt : j < l.length := (List.getElem?_eq_some_iff.1 hj).1
    have key : ∀ i u, (flatP l)[i]? = some u → w.cell? ⟨g, i, none⟩ = some u := by
      intro i u hu
      rw [cell_of hh]
      rw [← ht] at hu
      rw [List.getElem?_take] at hu
      split at hu
      · simpa using hu
      · simp at hu
    have e0 := flatP_get l j 0 (f, q) hj (by omega)
    have e1 := flatP_get l j 1 (f, q) hj (by omega)
    exact ⟨by rw [Nat.zero_add]; exact key _ _ e0, by rw [Nat.zero_add]; exact key _ _ e1⟩

/-- Bytes that lie in memory. -/
def BytesAt (w : World) (b o : Nat) (bs : List Int) : Prop := ∀ j x, bs[j]? = some x → w.cell? ⟨b, o + j, none⟩ = some (.int .u8 x)
theorem BytesAt.ch {w w' : World} {S : List Nat} {b o : Nat} {bs : List Int} (h : BytesAt w b o bs) (hc : Ch S w w') (hn : b ∉ S) : BytesAt w' b o bs := fun j x hj =>
  (hc.rules.1 _ _ (World.block_lt_of_cell? _ _ (h j x hj)) hn).trans (h j x hj)
def fld (l : List V) (x : Int) : Nat := (x % (l.length : Int)).toNat
def fldParts (l : List V) (bs : List Int) : List (Int × Int) := bs.map fun x => ((fld l x : Int), 0)
def fldVals (l : List V) (bs : List Int) : List V := bs.map fun x => l.getD (fld l x) V.zero
theorem fldVals_get {l : List V} {bs : List Int} {m : Nat} {x : Int} (h : bs[m]? = some x) {v : V} (hv : l[fld l x]? = some v) : (fldVals l bs)[m]? = some v := by
  unfold fldVals
  rw [List.getElem?_map, h]
  simp [List.getD, hv]
theorem fldParts_get {l : List V} {bs : List Int} {m : Nat} {x : Int} (h : bs[m]? = some x) : (fldParts l bs)[m]? = some ((fld l x : Int), 0) := by
  unfold fldParts
  rw [List.getElem?_map, h]
  rfl
theorem fld_lt {l : List V} {x : Int} (hl : 0 < l.length) (hx : 0 ≤ x) : fld l x < l.length ∧ x % (l.length : Int) = (fld l x : Int) := by
  unfold fld
  have h1 := Int.emod_lt_of_pos x (b := (l.length : Int)) (by omega)
  have h2 := Int.emod_nonneg x (b := (l.length : Int)) (by omega)
  exact ⟨by omega, by omega⟩
theorem own_shape {w : World} {base : Nat} {e : TypeId} {size : Nat} {v : Value} {n : Nat} {xs : List Value} (h : w.ownsRow base e size v n xs) : ∃ a c, v = .slice a n c := by
  rcases h.2 with ⟨rfl, h0⟩ | ⟨g, cap, cur, rfl, _⟩
  · exact ⟨none, 0, by rw [h0]⟩
  · exact ⟨_, _, rfl⟩
/-- The loop's state. -/
def FldAt (w1 : World) (l : List V) (bs : List Int) (m : Nat) (s7 : Value) (wr : World) : Prop :=
  ∃ pa pc, wr.ownsRow w1.heap.size 38 4 s7 m (flat ((fldVals l bs).take m)) ∧ wr.ownsRow w1.heap.size 66 2 (.slice pa m pc) m (flatP ((fldParts l bs).take m)) ∧ MeterAt wr w1.heap.size 0 0 0 0 ∧
    wr.heap[w1.heap.size + 1]? = some (.cells #[.string ⟨#[120]⟩, .int .i64 1, .slice pa m pc, .int .i64 (-1)] 53 (0, 0)) ∧ Ch [] w1 wr
theorem fldAt_start (w1 : World) (l : List V) (bs : List Int) : FldAt w1 l bs 0 (.slice none 0 0) ((w1.alloc (.cells #[.int .i64 0, .int .i64 0, .int .i64 0, .int .i64 0] 57)).alloc (.cells #[.string ⟨#[120]⟩, .int .i64 1, .slice none 0 0, .int .i64 (-1)] 53)) :=
  ⟨none, 0, World.ownsRow_nil _ _ _ _, World.ownsRow_nil _ _ _ _, heap_alloc_past (heap_alloc_same _ _), by simpa using heap_alloc_same (w1.alloc (.cells #[.int .i64 0, .int .i64 0, .int .i64 0, .int .i64 0] 57)) (.cells #[.string ⟨#[120]⟩, .int .i64 1, .slice none 0 0, .int .i64 (-1)] 53), ((Ch.refl _ _).alloc _).alloc _⟩

/-- What key.Of tells where every part is a field. -/
def KeyIs (w : World) (vs : List V) (e : Ending) (w' : World) : Prop := ∃ a c b, e = .returned (.tuple #[.slice a vs.length c, .nilIface]) ∧ VRow w' b 0 (.slice a vs.length c) vs ∧ Ch [] w w'
theorem fields_key (nm : ByteArray) (kd cm : Int) (l : List V) (b off : Nat) (sv : Value) (vs : List V) (ps : List (Int × Int)) (pb n pc xn xc cn cc : Nat) (pa xa ca : Option Addr) (w : World) (hr : VRow w b off sv l) (hn : ps.length = n) (hpa : ps ≠ [] → pa = some ⟨pb, 0, none⟩) (hps : PartsAt w pb 0 ps)
    (hl : ps.length ≤ 100) (hvs : vs.length = ps.length) (hall : ∀ (j : Nat) (f h : Int), ps[j]? = some (f, h) → ∃ (m : Nat) (v : V), f = m ∧ l[m]? = some v ∧ vs[j]? = some v) :
    Calls Tryd.prog 32 #[defVal nm kd (.slice pa n pc) cm, .agg #[.slice xa xn xc, .slice ca cn cc], sv] w (KeyIs w vs) := by
  subst hn
  obtain ⟨aa, cap, rfl, _⟩ := hr.shape
  refine (keyOf_gen nm kd cm pb 0 pc xn xc cn cc pa xa ca ps vs _ w [] (fun _ _ => True) (fun _ _ _ _ => False) hpa hps (by simp) hl (by simp) (fun _ => lasts_true w) (fun _ _ _ _ _ h _ => h) trivial ⟨_, _, _, rfl⟩ hvs ?_).mono ?_
  · intro j f h W hj hcW _
    obtain ⟨m, v, rfl, h1, h2⟩ := hall j f h hj
    exact (part_field nm kd cm h _ _ _ _ _ _ _ _ _ m l v b off _ W (hr.ch0 hcW) h1).mono fun e w' hh => ⟨v, .nilIface, hh.1, hh.2, .inl ⟨rfl, h2, trivial⟩⟩
  · rintro e w' ⟨hc, ⟨kv, rfl, _, ho, _⟩ | ⟨_, _, _, _, _, hf⟩⟩
    · rw [← hvs] at ho
      obtain ⟨a, c, rfl⟩ := own_shape ho
      obtain ⟨kb, _, hk⟩ := VRow.of_own ho
      exact ⟨a, c, kb, rfl, hk, hc⟩
    · exact hf.elim
theorem vals_same_of (l : List V) : decide (cmpRows l l = 0) = true := by rw [rows_refl]; rfl
theorem parts_at {w : World} {base n pc : Nat} {pa : Option Addr} {l : List (Int × Int)} (hn : l.length = n) (h : w.ownsRow base 66 2 (.slice pa n pc) n (flatP l)) : ∃ pb, (l ≠ [] → pa = some ⟨pb, 0, none⟩) ∧ PartsAt w pb 0 l := by
  subst hn
  obtain ⟨pb, pc', pa', e, h1, h2⟩ := parts_of_own h
  simp only [Value.slice.injEq] at e
  obtain ⟨rfl, -, rfl⟩ := e
  exact ⟨pb, h1, h2⟩
theorem fld_all {l : List V} {bs : List Int} (hl : 0 < l.length) (hx : ∀ x, x ∈ bs → 0 ≤ x ∧ x ≤ 255) (j : Nat) (f h : Int) (hj : (fldParts l bs)[j]? = some (f, h)) : ∃ (m : Nat) (v : V), f = m ∧ l[m]? = some v ∧ (fldVals l bs)[j]? = some v := by
  unfold fldParts at hj
  rw [List.getElem?_map] at hj
  obtain ⟨x, hx1, hx2⟩ := Option.map_eq_some_iff.1 hj
  simp only [Prod.mk.injEq] at hx2
  obtain ⟨fl, _⟩ := fld_lt hl (hx x (List.mem_of_getElem? hx1)).1
  have hv : l[fld l x]? = some l[fld l x] := List.getElem?_eq_getElem fl
  exact ⟨fld l x, _, hx2.1.symm, hv, fldVals_get hx1 hv⟩
theorem fldVals_ok {l : List V} {bs : List Int} (ol : OkL l) (hl : 0 < l.length) (hx : ∀ x, x ∈ bs → 0 ≤ x ∧ x ≤ 255) : OkL (fldVals l bs) := by
  intro v hv
  obtain ⟨j, hj⟩ := List.mem_iff_getElem?.1 hv
  have hlen : j < (fldParts l bs).length := by
    have := (List.getElem?_eq_some_iff.1 hj).1
    simpa [fldVals, fldParts] using this
  obtain ⟨m, v', _, h1, h2⟩ := fld_all hl hx j _ _ (show (fldParts l bs)[j]? = some ((fldParts l bs)[j].1, (fldParts l bs)[j].2) from List.getElem?_eq_getElem hlen)
  rw [hj] at h2
  obtain rfl := Option.some.inj h2
  exact ol _ (List.mem_of_getElem? h1)

set_option maxRecDepth 100000 in
set_option maxHeartbeats 2000000 in
theorem keyFields_any (l : List V) (b off : Nat) (sv : Value) (bs : List Int) (b8 o8 c8 : Nat) (a8 : Option Addr) (w : World) (hr : VRow w b off sv l) (ol : OkL l) (hl : l.length ≤ 9223372036854775807) (h8a : bs ≠ [] → a8 = some ⟨b8, o8, none⟩) (h8 : BytesAt w b8 o8 bs)
    (hx8 : ∀ x, x ∈ bs → 0 ≤ x ∧ x ≤ 255) (hl8 : bs.length ≤ 9223372036854775807) (hg : Glob w) :
    Calls Tryd.prog 6 #[sv, .slice a8 bs.length c8] w fun e w' => e = .returned (.bool true) ∧ Ch [] w w' := by
  obtain ⟨aa, ca, rfl, hsa⟩ := hr.shape
  obtain ⟨iP, hiP, hp0, hp1, hp2⟩ := info_parts infoP
  obtain ⟨iV, hiV, hv0, hv1, hv2⟩ := info_parts infoV
  have HG := Lib.hid hg
  have HR := Lib.hid (And.intro hr (And.intro ol (And.intro hl hsa)))
  have H8 := Lib.hid (And.intro h8a (And.intro h8 hx8))
  clear hr ol hsa h8a h8 hx8 hg hl
  go_enter Tryd.func6, Tryd.ntmps6
  go_wp2_with fail
  refine (known7_any _ HG.out).mono ?_
  rintro e w1 ⟨rfl, hc1⟩
  have C1 := Lib.hid hc1
  have F1 := Lib.hid (few_any l b off 8 _ w1 (HR.out.1.ch0 hc1) HR.out.2.2.1 HR.out.2.1)
  clear hc1
  go_wp2_with fail
  refine F1.out.mono ?_
  rintro e w' ⟨rfl, rfl⟩
  rcases hf : fewB l 8 with _ | _
  · clear hf
    go_wp2
    go_ret
    exact ⟨rfl, C1.out⟩
  have h8 := fewB_len hf
  clear hf F1
  by_cases hn : l = []
  · have h0 : l.length = 0 := by rw [hn]; rfl
    have t1 : ((l.length : Int) == 0) = true := by rw [h0]; rfl
    clear hn h0 h8
    go_wp2
    go_ret
    exact ⟨rfl, C1.out⟩
  have hpos : 0 < l.length := List.length_pos_iff.2 hn
  have t1 : ((l.length : Int) == 0) = false := by rw [beq_eq_false_iff_ne]; omega
  have HN := Lib.hid (And.intro hpos hn)
  clear hn
  by_cases hb : 8 < bs.length
  · have hb' : (8 : Int) < (bs.length : Int) := by omega
    go_wp2
    go_ret
    exact ⟨rfl, C1.out⟩
  have hb' : (bs.length : Int) ≤ 8 := by omega
  go_wp2_with fail
  go_loopg [7, 8] bs.length (fun k s7 i wr => ∃ m : Nat, k + m = bs.length ∧ i = .int .i64 m ∧ FldAt w1 l bs m s7 wr)
  case atStart => exact ⟨0, rfl, rfl, fldAt_start w1 l bs⟩
  case round =>
    obtain ⟨m, hkm, rfl, pa, pc, hwant, hparts, hmet, hdef, hch⟩ := hrel
    by_cases hlt : m < bs.length
    · obtain ⟨x, hx⟩ : ∃ x, bs[m]? = some x := ⟨_, List.getElem?_eq_getElem hlt⟩
      have hxm := List.mem_of_getElem? hx
      have hne : bs ≠ [] := fun e => by rw [e] at hlt; simp at hlt
      obtain rfl := H8.out.1 hne
      obtain ⟨x0, x1⟩ := H8.out.2.2 x hxm
      obtain ⟨fl, fq⟩ := fld_lt HN.out.1 x0
      obtain ⟨v, hv⟩ : ∃ v, l[fld l x]? = some v := ⟨_, List.getElem?_eq_getElem fl⟩
      have g1 := fldVals_get hx hv
      have g2 := fldParts_get (l := l) hx
      have g3 := HR.out.2.2.2 HN.out.2
      subst g3
      have hcw := C1.out.trans hch
      have p8 := (H8.out.2.1.ch hcw (by simp)) m x hx
      have j0 : (m : Int) < (bs.length : Int) := by omega
      have d0 := (cell_of (i := 2) hdef).trans rfl
      have z0 := lt_of_block hdef
      have f0 := free_of (i := 2) hdef
      have hsz := hch.size
      generalize fld l x = f at *
      have jf : (f : Int) < (l.length : Int) := by omega
      have HM := Lib.hid (And.intro hkm (And.intro hwant (And.intro hparts (And.intro hmet (And.intro hdef (And.intro hch (And.intro g1 (And.intro g2 hv))))))))
      clear hkm hwant hparts hmet hdef hch hx hxm hne g1 g2 hv hcw
      go_wp2_with (at_builtin; refine wpList_append_own _ rfl _ _ 51 rfl w1.heap.size 66 iP _ 2 16 Tryd.underlying51 hiP hp0 hp1 hp2 rfl (by decide) _ _ _ rfl (HM.out.2.2.1.alloc _) ⟨wr.heap.size, 0, none⟩ 1 1 [.int .i64 f, .int .i64 0] rfl rfl ?c1 ?c2 ?c3 ?c4 ?c5 ?_)
      case c2 => exact ⟨rfl, rfl⟩
      case c3 => unfold maxLen; omega
      case c4 => omega
      case c5 => omega
      intro v' w3 hown3 hg3 _
      obtain ⟨hkm, hwant, hparts, hmet, hdef, hch, g1, g2, hv⟩ := HM.out
      have fr1 : Fr w1.heap.size [some 66] wr w3 := Fr.grown ((Fr.refl _ _ wr).alloc hsz _) (by simp; omega) (hparts.alloc _) hg3 (by simp)
      have hdef3 := fr1.heap hdef (by decide)
      have e2 := flatP_take g2
      simp only at e2
      rw [← e2] at hown3
      obtain ⟨qa, qc, hv'⟩ := own_shape hown3
      have hch3 := (hch.alloc (.cells #[.int .i64 f, .int .i64 0] 66)).grown hg3 (fun k hk => .inr (own_base hparts hk).1)
      have hc4 := hch3.setCell (p := ⟨w1.heap.size + 1, 2, none⟩) (.inr (by simp)) (.slice qa (m + 1) qc)
      have fr2 : Fr w1.heap.size [some 66, some 53] wr (w3.setCell ⟨w1.heap.size + 1, 2, none⟩ (.slice qa (m + 1) qc)) := (fr1.mono (Nat.le_refl _) (by simp)).setCell hdef3 (by omega) (by simp) _
      have fr3 : Fr w1.heap.size [some 53] w3 (w3.setCell ⟨w1.heap.size + 1, 2, none⟩ (.slice qa (m + 1) qc)) := (Fr.refl _ _ w3).setCell hdef3 (by omega) (by simp) _
      have hdef4 := heap_setCell_same (i := 2) (u := .slice qa (m + 1) qc) hdef3
      have hwant4 := fr2.own hwant (by decide)
      rw [hv'] at hown3
      have hparts4 := fr3.own hown3 (by decide)
      have hmet4 : MeterAt _ w1.heap.size 0 0 0 0 := fr2.heap hmet (by decide)
      obtain ⟨c0, c1, c2, c3⟩ := (HR.out.1.ch0 (C1.out.trans hc4)).cells f v hv
      have d3 := (cell_of (i := 2) hdef3).trans rfl
      have y3 := free_of (i := 2) hdef3
      have hz3 := lt_of_block hdef3
      generalize hW4 : w3.setCell ⟨w1.heap.size + 1, 2, none⟩ (.slice qa (m + 1) qc) = w4 at *
      have H4 := Lib.hid (And.intro hwant4 (And.intro hparts4 (And.intro hmet4 (And.intro hdef4 (And.intro hc4 hW4)))))
      obtain ⟨sa, sc, hs7⟩ := own_shape hwant4
      have hsz4 := hc4.size
      rw [hv']
      subst hs7
      clear hkm hwant hparts hmet hdef hch g1 g2 hv fr1 fr2 fr3 hown3 hg3 e2 hv' hch3 hc4 hdef4 hwant4 hparts4 hmet4 hW4 hdef3
      go_upto_region 13 with (fail)
      rw [H4.out.2.2.2.2.2]
      go_wp2_with (at_builtin; refine wpList_append_own _ rfl _ _ 39 rfl w1.heap.size 38 iV _ 4 40 Tryd.underlying39 hiV hv0 hv1 hv2 rfl (by decide) _ _ _ rfl (H4.out.1.alloc _) ⟨w4.heap.size, 0, none⟩ 1 1 [.int .i64 v.k, .int .i64 v.i, .string v.s, .float .f64 v.f] rfl rfl ?e1 ?e2 ?e3 ?e4 ?e5 ?_)
      case e1 => exact World.news_of_block (cs := #[.int .i64 v.k, .int .i64 v.i, .string v.s, .float .f64 v.f]) (t := 38) (fr := (0, 0)) (heap_alloc_same _ _)
      case e2 => intro u hu; simp at hu; rcases hu with rfl | rfl | rfl | rfl <;> rfl
      case e3 => unfold maxLen; omega
      case e4 => omega
      case e5 => simp; omega
      intro v' w5 hown5 hg5 _
      obtain ⟨hwant4, hparts4, hmet4, hdef4, hc4, -⟩ := H4.out
      obtain ⟨hkm, -, -, -, -, -, g1, -, -⟩ := HM.out
      rw [← flat_take g1] at hown5
      have fr5 : Fr w1.heap.size [some 38] w4 w5 := Fr.grown ((Fr.refl _ _ w4).alloc hsz4 _) (by simp; omega) (hwant4.alloc _) hg5 (by simp)
      have hp5 := fr5.own hparts4 (by decide)
      have hm5 : MeterAt _ w1.heap.size 0 0 0 0 := fr5.heap hmet4 (by decide)
      have hd5 := fr5.heap hdef4 (by decide)
      have hc5 := (hc4.alloc (.cells #[.int .i64 v.k, .int .i64 v.i, .string v.s, .float .f64 v.f] 38)).grown hg5 (fun k hk => .inr (own_base hwant4 hk).1)
      have HF := Lib.hid (show FldAt w1 l bs (m + 1) v' w5 from ⟨_, _, hown5, hp5, hm5, hd5, hc5⟩)
      have HN1 := Lib.hid hkm
      clear hwant4 hparts4 hmet4 hdef4 hc4 hkm g1 hown5 hg5 fr5 hp5 hm5 hd5 hc5 H4 HM c0 c1 c2 c3 d3 y3 hz3 hsz4 d0 z0 f0 hsz p8
      go_wp2
      go_roundg (gk - 1)
      case measure => have := HN1.out; omega
      case rel => exact ⟨m + 1, by have := HN1.out; omega, by go_num, HF.out⟩
    · obtain rfl : m = bs.length := by omega
      have lp : (fldParts l bs).length = bs.length := by simp [fldParts]
      have lv : (fldVals l bs).length = bs.length := by simp [fldVals]
      rw [List.take_of_length_le (by omega)] at hwant hparts
      obtain ⟨pb, hpa, hpat⟩ := parts_at lp hparts
      rw [← lv] at hwant
      obtain ⟨sa, sc, hs7⟩ := own_shape hwant
      obtain ⟨vb, _, hvr⟩ := VRow.of_own hwant
      subst hs7
      have HD := Lib.hid (fun (W : World) (hc : Ch [] wr W) => (show W.cell? ⟨w1.heap.size + 1, 0, none⟩ = some (.string ⟨#[120]⟩) ∧ W.cell? ⟨w1.heap.size + 1, 1, none⟩ = some (.int .i64 1) ∧ W.cell? ⟨w1.heap.size + 1, 2, none⟩ = some (.slice pa bs.length pc) ∧ W.cell? ⟨w1.heap.size + 1, 3, none⟩ = some (.int .i64 (-1)) from
        ⟨(cell_of (i := 0) (hc.heap hdef (by simp))).trans rfl, (cell_of (i := 1) (hc.heap hdef (by simp))).trans rfl, (cell_of (i := 2) (hc.heap hdef (by simp))).trans rfl, (cell_of (i := 3) (hc.heap hdef (by simp))).trans rfl⟩))
      have HU := Lib.hid (fun (W : World) (hc : Ch [] wr W) => (cell_of (i := 0) (hc.heap hmet (by simp))).trans (show _ = some (Value.int .i64 0) from rfl))
      have HKey := Lib.hid (fun (W : World) (hc : Ch [] wr W) (xa ca : Option Addr) (xn xc cn cc : Nat) => fields_key ⟨#[120]⟩ 1 (-1) l b off _ (fldVals l bs) (fldParts l bs) pb bs.length pc xn xc cn cc pa xa ca W (HR.out.1.ch0 (C1.out.trans (hch.trans hc))) lp hpa (hpat.ch hc (by simp)) (by omega) (by omega) (fld_all HN.out.1 H8.out.2.2))
      have okv := fldVals_ok HR.out.2.1 HN.out.1 H8.out.2.2
      have HV := Lib.hid (fun (W : World) (hc : Ch [] wr W) (kb : Nat) (ks : Value) (hk : VRow W kb 0 ks (fldVals l bs)) => vals_any (fldVals l bs) (fldVals l bs) kb 0 vb 0 ks _ W hk (hvr.ch0 hc) okv okv (by omega) (by omega))
      have HE := Lib.hid (C1.out.trans hch)
      have HL := Lib.hid lv
      have zD := lt_of_block hmet
      have HZ := Lib.hid zD
      clear hkm hwant hparts hmet hdef hch lp lv hpa hpat hvr okv hlt zD
      go_wp2_with fail
      obtain ⟨s0, s1, s2, s3⟩ := HD.out _ (Ch.refl _ _)
      go_region_held3 (fun w' => w'.cell? ⟨w1.heap.size + 1, 0, none⟩ = some (.string ⟨#[120]⟩) ∧ w'.cell? ⟨w1.heap.size + 1, 1, none⟩ = some (.int .i64 1) ∧ w'.cell? ⟨w1.heap.size + 1, 2, none⟩ = some (.slice pa bs.length pc) ∧ w'.cell? ⟨w1.heap.size + 1, 3, none⟩ = some (.int .i64 (-1)))
        (first | exact HD.out _ c4 | exact HD.out _ c3 | exact HD.out _ (Ch.refl _ _) | exact HD.out _ (Ch.refl _ _).drew)
        (first
          | (go_at_call 30; refine (hooks_any (.pointer (some ⟨w1.heap.size, 0, none⟩)) _ ⟨_, rfl⟩).mono ?_; rintro e w3 ⟨hx, hcm, rfl, hh1, hh2, hc3⟩; have c3 := ((Ch.refl [] wr).drew).trans hc3)
          | (go_at_call 32; obtain ⟨gx, cx, rfl, _, _⟩ := hh1.at (by omega); obtain ⟨gc, cc, rfl, _, _⟩ := hh2.at (by omega); refine (HKey.out _ c3 _ _ _ _ _ _).mono ?_; rintro e w4 ⟨ka, kc, kb, rfl, hk, hc4⟩; have c4 := c3.trans hc4))
      have H4 := Lib.hid (And.intro hk c4)
      clear hk c4 c3 hc3 hc4 hh1 hh2 s0 s1 s2 s3 HKey HD
      go_wp2_with fail
      refine (HV.out _ H4.out.2 _ _ H4.out.1).mono ?_
      rintro e w5 ⟨rfl, hc5⟩
      rw [vals_same_of]
      have c5 := H4.out.2.trans hc5
      have u5 := HU.out _ c5
      have H5 := Lib.hid (HE.out.trans c5)
      clear c5 hc5 H4 HV HU
      go_wp2
      go_ret
      exact ⟨rfl, H5.out⟩
end Go.Proofs.YtiekahnpnaldjaaDoor
