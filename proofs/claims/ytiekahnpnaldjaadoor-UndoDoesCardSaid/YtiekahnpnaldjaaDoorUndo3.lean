/-
  The statement's own functions: the back that notes its number; what is done within the log.
-/
import Derived.Test.YtiekahnpnaldjaaDoorUndo2
namespace Go.Proofs.YtiekahnpnaldjaaDoor
open Go.RowKit

theorem infoI64 : (Tryd.prog.info? 2).map (fun i => (i.zero, i.size, i.bytes)) = some (some (.int .i64 0), 1, 8) := by kernel_rfl

/-- The box gb holds the slice gv, whose numbers are xs. -/
structure GotAt (D : Nat) (w : World) (gb : Nat) (gv : Value) (xs : List Value) : Prop where
  blk : w.heap[gb]? = some (.cells #[gv] 25 (0, 0))
  own : w.ownsRow D 2 1 gv xs.length xs

set_option maxRecDepth 100000 in
set_option maxHeartbeats 400000 in
theorem note_any (D : Nat) (w : World) (gb xb : Nat) (gv : Value) (xs : List Value) (i : Int) (hx : w.heap[xb]? = some (.cells #[.int .i64 i] 2 (0, 0))) (hn : xs.length < 1000) (hD : D ≤ w.heap.size) (hgD : gb < D) (hl : GotAt D w gb gv xs) :
    Calls Tryd.prog 16 #[.pointer (some ⟨gb, 0, none⟩), .pointer (some ⟨xb, 0, none⟩)] w fun e w' => e = .returned (.tuple #[]) ∧
      ∃ gv', GotAt D w' gb gv' (xs ++ [.int .i64 i]) ∧ Bel D [gb] w w' := by
  obtain ⟨hb, ho⟩ := hl
  obtain ⟨i0, hi, hz0, hz1, hz2⟩ := info_parts infoI64
  have hc := cell_of_one hb
  have hcx := cell_of_one hx
  have hfr := free_of_one hb
  have hlt := lt_of_block hb
  go_enter Tryd.func16, Tryd.ntmps16
  go_wp2_with (at_builtin; refine wpList_append_own _ rfl _ _ 25 rfl D 2 i0 (.int .i64 0) 1 8 Tryd.underlying25 hi hz0 hz1 hz2 rfl (by decide) _ _ _ rfl (ho.alloc _) ⟨w.heap.size, 0, none⟩ 1 1 [.int .i64 i] rfl rfl ?c1 ?c2 ?c3 ?c4 ?c5 ?_)
  case c1 => exact cell_one_new _ _ _
  case c2 => intro u hu; simp at hu; subst hu; rfl
  case c3 => unfold maxLen; omega
  case c4 => omega
  case c5 => simp; omega
  intro v' w1 hown hg hne
  have hch : Ch (gb :: gv.ownBlock.toList) w w1 := ((Ch.refl _ w).alloc _).grown hg (by intro k hk; left; simp [hk])
  have hb1 : w1.heap[gb]? = some (.cells #[gv] 25 (0, 0)) := by
    rw [hg.block gb (by simp; omega) (by intro e; exact own_ne ho hb (by decide) e.symm)]
    exact heap_alloc_past hb
  have k1 := cell_of_one hb1
  have k2 := free_of_one hb1
  have hbel : Bel D [gb] w w1 := hch.bel hD (by
    intro x hx; simp at hx
    rcases hx with rfl | hx
    · left; simp
    · right; exact (own_base ho hx).1)
  obtain ⟨g, cap', rfl⟩ : ∃ g cap', v' = .slice (some ⟨g, 0, none⟩) (xs.length + 1) cap' := by
    rcases hown.2 with ⟨_, h⟩ | ⟨g, cap', _, h, _⟩
    · omega
    · exact ⟨g, cap', h⟩
  clear hc hfr hb ho hg hne hch
  go_wp2
  go_end0
  refine ⟨rfl, _, ⟨one_setCell hb1, ?_⟩, hbel.setCell (by simp) _⟩
  have := ownsRow_setCell_other hown (a := ⟨gb, 0, none⟩) (own_ne hown hb1 (by decide)) (.slice (some ⟨g, 0, none⟩) (xs.length + 1) cap')
  simpa using this

/-- The back with the number box x. -/
def noteFn (gb : Nat) (x : Nat) : Value := .func (.func 16) #[] #[.pointer (some ⟨gb, 0, none⟩), .pointer (some ⟨x, 0, none⟩)]

/-- What is done within: j backs are added, each with a box of its own. -/
structure Added (D : Nat) (w0 : World) (lb gb : Nat) (fs : List Value) (j : Nat) (w : World) : Prop where
  log : ∃ (sv : Value) (xb : Nat → Nat), LogAt D w lb sv (fs ++ (List.range j).map fun i => noteFn gb (xb i)) ∧ ∀ i, i < j → w.heap[xb i]? = some (.cells #[.int .i64 i] 2 (0, 0))
  fr : Fr D logKinds w0 w

theorem Added.step {D : Nat} {w0 : World} {lb gb : Nat} {fs : List Value} {j : Nat} {w w' : World} {sv sv' : Value} {xb : Nat → Nat} (_hlog : LogAt D w lb sv (fs ++ (List.range j).map fun i => noteFn gb (xb i)))
    (hxb : ∀ i, i < j → w.heap[xb i]? = some (.cells #[.int .i64 i] 2 (0, 0))) (hfr : Fr D logKinds w0 w) (hD : D ≤ w.heap.size)
    (hl' : LogAt D w' lb sv' ((fs ++ (List.range j).map fun i => noteFn gb (xb i)) ++ [noteFn gb w.heap.size]))
    (hfr' : Fr D logKinds (w.alloc (.cells #[.int .i64 j] 2)) w') : Added D w0 lb gb fs (j + 1) w' := by
  refine ⟨⟨sv', fun i => if i = j then w.heap.size else xb i, ?_, ?_⟩, (hfr.alloc hD _).trans hfr'⟩
  · have e : (fs ++ (List.range (j + 1)).map fun i => noteFn gb (if i = j then w.heap.size else xb i)) = (fs ++ (List.range j).map fun i => noteFn gb (xb i)) ++ [noteFn gb w.heap.size] := by
      rw [List.range_succ, List.map_append, List.append_assoc]
      congr 2
      · apply List.map_congr_left; intro a ha; simp at ha; rw [if_neg (by omega)]
      · simp
    rw [e]; exact hl'
  · intro i hi
    by_cases hij : i = j
    · subst hij
      simp only [if_true]
      exact hfr'.heap (heap_alloc_same _ _) (by simp [logKinds])
    · simp only [if_neg hij]
      exact hfr'.heap (heap_alloc_past (hxb i (by omega))) (by simp [logKinds])

/-- The boxes that the function has captured. -/
structure Caps (w : World) (bb lbx hb lb b : Nat) (how : Int) : Prop where
  b : w.heap[bb]? = some (.cells #[.int .i64 b] 3 (0, 0))
  l : w.heap[lbx]? = some (.cells #[.pointer (some ⟨lb, 0, none⟩)] 23 (0, 0))
  h : w.heap[hb]? = some (.cells #[.int .i64 how] 3 (0, 0))
theorem Caps.fr {w w' : World} {bb lbx hb lb b : Nat} {how : Int} (h : Caps w bb lbx hb lb b how) {D : Nat} (hf : Fr D logKinds w w') : Caps w' bb lbx hb lb b how :=
  ⟨hf.heap h.b (by simp [logKinds]), hf.heap h.l (by simp [logKinds]), hf.heap h.h (by simp [logKinds])⟩
theorem Caps.alloc {w : World} {bb lbx hb lb b : Nat} {how : Int} (h : Caps w bb lbx hb lb b how) (o : Obj) : Caps (w.alloc o) bb lbx hb lb b how :=
  ⟨heap_alloc_past h.b, heap_alloc_past h.l, heap_alloc_past h.h⟩
theorem LogAt.alloc {D : Nat} {w : World} {lb : Nat} {sv : Value} {fs : List Value} (h : LogAt D w lb sv fs) (o : Obj) : LogAt D (w.alloc o) lb sv fs := ⟨heap_alloc_past h.blk, h.own.alloc o⟩

/-- How what is done within ends. -/
def within (how : Int) : Ending :=
  if bits .and .i64 how 3 = 1 then .returned (.iface 31 (.int .i64 70)) else if bits .and .i64 how 3 = 2 then .panicked [{ v := .iface 3 (.int .i64 how), recovered := false }] else .returned .nilIface

set_option maxRecDepth 100000 in
set_option maxHeartbeats 1000000 in
theorem within_any (D : Nat) (w : World) (bb lbx gb hb lb b : Nat) (how : Int) (sv : Value) (fs : List Value) (hcaps : Caps w bb lbx hb lb b how) (hl : LogAt D w lb sv fs) (hlD : D ≤ lb) (hD : D ≤ w.heap.size) (hb10 : b < 10) (hfs : fs.length < 100) :
    Calls Tryd.prog 15 #[.pointer (some ⟨bb, 0, none⟩), .pointer (some ⟨lbx, 0, none⟩), .pointer (some ⟨gb, 0, none⟩), .pointer (some ⟨hb, 0, none⟩)] w fun e w' => e = within how ∧ Added D w lb gb fs b w' := by
  go_enter Tryd.func15, Tryd.ntmps15
  go_wp2_with fail
  go_loopg [5] b (fun k i wr => ∃ j : Nat, k + j = b ∧ i = .int .i64 j ∧ Added D w lb gb fs j wr)
  case atStart => exact ⟨0, rfl, rfl, ⟨sv, fun _ => 0, by simpa using hl, by intro i hi; omega⟩, Fr.refl _ _ _⟩
  case round =>
    obtain ⟨j, hkj, rfl, hadd⟩ := hrel
    have hcap := hcaps.fr hadd.fr
    have c1 := cell_of_one hcap.b
    have c2 := cell_of_one hcap.l
    have c3 := cell_of_one hcap.h
    have z1 := lt_of_block hcap.b
    have z2 := lt_of_block hcap.l
    have z3 := lt_of_block hcap.h
    by_cases hlt : j < b
    · obtain ⟨⟨sv1, xb, hlog, hxb⟩, hbel⟩ := hadd
      have hDr : D ≤ wr.heap.size := Nat.le_trans hD hbel.size
      have hlog1 : LogAt D (wr.alloc (.cells #[.int .i64 j] 2)) lb sv1 (fs ++ (List.range j).map fun i => noteFn gb (xb i)) := ⟨heap_alloc_past hlog.blk, hlog.own.alloc _⟩
      have hadd1 := add_any D _ lb (.func 16) #[] #[.pointer (some ⟨gb, 0, none⟩), .pointer (some ⟨wr.heap.size, 0, none⟩)] sv1 _ (by simp; omega) (by simp; omega) hlD hlog1
      have HA := Lib.hid hadd1
      have HL := Lib.hid (And.intro hlog (And.intro hxb hbel))
      have HK := Lib.hid hkj
      have HC := Lib.hid hcap
      clear hadd1 hlog hxb hbel hlog1 hkj hcap hcaps hl
      go_wp2_with fail
      refine HA.out.mono ?_
      rintro e w2 ⟨rfl, sv2, hl2, hch2⟩
      obtain ⟨hlog, hxb, hbel⟩ := HL.out
      have hadd2 := Added.step hlog hxb hbel hDr hl2 hch2
      clear HA HL hlog hxb hbel hl2 hch2 c1 c2 c3
      go_wp2
      go_roundg (gk - 1)
      case measure => have := HK.out; omega
      case rel => exact ⟨j + 1, by have := HK.out; omega, by go_num, hadd2⟩
    · obtain rfl : j = b := by omega
      have HA := Lib.hid hadd
      clear hadd hcap hcaps hl hkj hlt
      by_cases h1 : bits .and .i64 how 3 = 1
      · have t1 : (bits .and .i64 how 3 == 1) = true := by simp [h1]
        have H1 := Lib.hid h1
        clear h1
        go_wp2
        go_ret
        exact ⟨by rw [within, if_pos H1.out]; rfl, HA.out⟩
      · have t1 : (bits .and .i64 how 3 == 1) = false := by simp [h1]
        by_cases h2 : bits .and .i64 how 3 = 2
        · have t2 : (bits .and .i64 how 3 == 2) = true := by simp [h2]
          have H1 := Lib.hid h1
          have H2 := Lib.hid h2
          clear h1 h2
          go_wp2
          exact ⟨rfl, by rw [within, if_neg H1.out, if_pos H2.out], HA.out⟩
        · have t2 : (bits .and .i64 how 3 == 2) = false := by simp [h2]
          have H1 := Lib.hid h1
          have H2 := Lib.hid h2
          clear h1 h2
          go_wp2
          go_ret
          exact ⟨by rw [within, if_neg H1.out, if_neg H2.out]; rfl, HA.out⟩
end Go.Proofs.YtiekahnpnaldjaaDoor
