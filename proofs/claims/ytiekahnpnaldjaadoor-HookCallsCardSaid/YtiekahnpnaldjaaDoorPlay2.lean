/-
  The statements' own user code: all of it, counted by a meter.
-/
import Derived.Test.YtiekahnpnaldjaaDoorPlay1
import Derived.Deep.RegionHeld3
import Derived.Deep.AppendLies
import Derived.Deep.RegionLaw
namespace Go.Proofs.YtiekahnpnaldjaaDoor
open Go.RowKit

theorem infoE : (Tryd.prog.info? 77).map (fun i => (i.zero, i.size, i.bytes)) = some (some .nilFunc, 1, 8) := by kernel_rfl
theorem infoC : (Tryd.prog.info? 83).map (fun i => (i.zero, i.size, i.bytes)) = some (some .nilFunc, 1, 8) := by kernel_rfl

/-- A piece of user code: the function f, which has captured the meter and its number. -/
abbrev codeFn (f : FuncId) (mb nb : Nat) : Value := .func (.func f) #[] #[.pointer (some ⟨mb, 0, none⟩), .pointer (some ⟨nb, 0, none⟩)]
theorem extractor_any (n : Int) (m : Value) (w : World) (hm : m.oneCell' = true) (hp : ∃ a, m = .pointer a) :
    Calls Tryd.prog 63 #[.int .i64 n, m] w fun e w' => e = .returned (codeFn 90 (w.heap.size + 1) w.heap.size) ∧ w' = (w.alloc (.cells #[.int .i64 n] 3)).alloc (.cells #[m] 55) := by
  obtain ⟨a, rfl⟩ := hp
  clear hm
  go_enter Tryd.func63, Tryd.ntmps63
  go_wp2
  go_ret
  exact ⟨rfl, rfl⟩
theorem comparator_any (n : Int) (m : Value) (w : World) (hm : m.oneCell' = true) (hp : ∃ a, m = .pointer a) :
    Calls Tryd.prog 64 #[.int .i64 n, m] w fun e w' => e = .returned (codeFn 91 (w.heap.size + 1) w.heap.size) ∧ w' = (w.alloc (.cells #[.int .i64 n] 3)).alloc (.cells #[m] 55) := by
  obtain ⟨a, rfl⟩ := hp
  clear hm
  go_enter Tryd.func64, Tryd.ntmps64
  go_wp2
  go_ret
  exact ⟨rfl, rfl⟩

/-- The piece with the number i stands in memory. -/
def CodeAt (w : World) (D : Nat) (f : FuncId) (m : Value) (i : Nat) (fv : Value) : Prop :=
  ∃ mb nb, fv = codeFn f mb nb ∧ D ≤ mb ∧ D ≤ nb ∧ w.heap[mb]? = some (.cells #[m] 55 (0, 0)) ∧ w.heap[nb]? = some (.cells #[.int .i64 i] 3 (0, 0))
/-- k pieces of user code, in a row. -/
def Hooked (w : World) (D : Nat) (f : FuncId) (T : TypeId) (m : Value) (k : Nat) (hx : Value) : Prop :=
  ∃ fs, w.ownsRow D T 1 hx k fs ∧ ∀ i fv, fs[i]? = some fv → CodeAt w D f m i fv

theorem CodeAt.fr {w w' : World} {D D' : Nat} {f : FuncId} {m : Value} {i : Nat} {fv : Value} {K : List (Option TypeId)} (h : CodeAt w D f m i fv) (hf : Fr D' K w w') (h1 : some 55 ∉ K) (h2 : some 3 ∉ K) : CodeAt w' D f m i fv := by
  obtain ⟨mb, nb, e, d1, d2, b1, b2⟩ := h
  exact ⟨mb, nb, e, d1, d2, hf.heap b1 h1, hf.heap b2 h2⟩
theorem Hooked.fr {w w' : World} {D D' : Nat} {f : FuncId} {T : TypeId} {m : Value} {k : Nat} {hx : Value} {K : List (Option TypeId)} (h : Hooked w D f T m k hx) (hf : Fr D' K w w') (h0 : some T ∉ K) (h1 : some 55 ∉ K) (h2 : some 3 ∉ K) : Hooked w' D f T m k hx := by
  obtain ⟨fs, ho, hc⟩ := h
  exact ⟨fs, hf.own ho h0, fun i fv hi => (hc i fv hi).fr hf h1 h2⟩

theorem Hooked.shape {w : World} {D : Nat} {f : FuncId} {T : TypeId} {m : Value} {k : Nat} {hx : Value} (h : Hooked w D f T m k hx) : ∃ a n c, hx = .slice a n c := by
  obtain ⟨fs, ho, _⟩ := h
  rcases ho.2 with ⟨rfl, _⟩ | ⟨g, cap, cur, rfl, _⟩
  · exact ⟨_, _, _, rfl⟩
  · exact ⟨_, _, _, rfl⟩
/-- The kinds of blocks that Hooks writes. -/
def hookKinds : List (Option TypeId) := [some 61, some 77]
def hookKinds2 : List (Option TypeId) := [some 61, some 83]

theorem Fr.grown {D : Nat} {K : List (Option TypeId)} {a b c : World} (h : Fr D K a b) (hD : D ≤ b.heap.size) {T : TypeId} {size n : Nat} {v : Value} {xs : List Value} (ho : b.ownsRow D T size v n xs) (hg : b.grownBy c v.ownBlock) (hT : some T ∈ K) : Fr D K a c :=
  h.trans ⟨hg.os, hg.tape, hg.output, hg.size, fun k hk => hg.block k (by omega) (fun e => by have := (own_base ho e.symm).1; omega),
    fun k o hk hn => (hg.block k (lt_of_block hk) (fun e => hn (by rw [own_kind ho e.symm hk]; exact hT))).trans hk⟩

/-- One piece more. -/
theorem hook_step {D : Nat} {f : FuncId} {T : TypeId} {m hx v : Value} {j hb : Nat} {fs : List Value} {hy : Array Value} {wr w1 : World} {K : List (Option TypeId)} (hT : some T ∈ K) (nT : some 61 ∈ K) (k1 : some 55 ∉ K) (k2 : some 3 ∉ K) (hTn : T ≠ 61) (hD : D ≤ hb) (hbk : wr.heap[hb]? = some (.cells hy 61 (0, 0))) (hcode : ∀ i fv, fs[i]? = some fv → CodeAt wr D f m i fv) (hown : wr.ownsRow D T 1 hx j fs)
    (hg : (((wr.alloc (.cells #[.int .i64 j] 3)).alloc (.cells #[m] 55)).alloc (.cells #[codeFn f (wr.heap.size + 1) wr.heap.size] T)).drew.grownBy w1 hx.ownBlock) (hown1 : w1.ownsRow D T 1 v (j + 1) (fs ++ [codeFn f (wr.heap.size + 1) wr.heap.size])) (n : Nat) (u : Value) :
    Hooked (w1.setCell ⟨hb, n, none⟩ u) D f T m (j + 1) v ∧ Fr D K wr (w1.setCell ⟨hb, n, none⟩ u) ∧
      ∀ k c, wr.heap[k]? = some (.cells c 61 (0, 0)) → k ≠ hb → (w1.setCell ⟨hb, n, none⟩ u).heap[k]? = some (.cells c 61 (0, 0)) := by
  have hlt := lt_of_block hbk
  have f0 : Fr D K wr ((wr.alloc (.cells #[.int .i64 j] 3)).alloc (.cells #[m] 55)) := ((Fr.refl D K wr).alloc (by omega) _).alloc (by simp; omega) _
  have f1 : Fr D K ((wr.alloc (.cells #[.int .i64 j] 3)).alloc (.cells #[m] 55)) w1 :=
    (((Fr.refl D K _).alloc (by simp; omega) (.cells #[codeFn f (wr.heap.size + 1) wr.heap.size] T)).drew).grown (by simp; omega) (((hown.alloc _).alloc _).alloc _).drew hg hT
  have hb0 : (((wr.alloc (.cells #[.int .i64 j] 3)).alloc (.cells #[m] 55)).alloc (.cells #[codeFn f (wr.heap.size + 1) wr.heap.size] T)).drew.heap[hb]? = some (.cells hy 61 (0, 0)) := heap_alloc_past (heap_alloc_past (heap_alloc_past hbk))
  have hb1 := (hg.block hb (lt_of_block hb0) (fun e => own_ne hown hbk hTn e.symm)).trans hb0
  have f2 : Fr D K w1 (w1.setCell ⟨hb, n, none⟩ u) := (Fr.refl D K w1).setCell hb1 hD nT u
  have f3 := (f0.trans f1).trans f2
  have hown2 := ownsRow_setCell_other hown1 (a := ⟨hb, n, none⟩) (own_ne hown1 hb1 hTn) u
  refine ⟨⟨_, hown2, fun i fv hi => ?_⟩, f3, fun k c hk hne => by
    have hk0 : (((wr.alloc (.cells #[.int .i64 j] 3)).alloc (.cells #[m] 55)).alloc (.cells #[codeFn f (wr.heap.size + 1) wr.heap.size] T)).drew.heap[k]? = some (.cells c 61 (0, 0)) := heap_alloc_past (heap_alloc_past (heap_alloc_past hk))
    rw [heap_setCell_other hne]
    exact (hg.block k (lt_of_block hk0) (fun e => own_ne hown hk hTn e.symm)).trans hk0⟩
  by_cases hij : i < fs.length
  · rw [List.getElem?_append_left hij] at hi
    exact (hcode i fv hi).fr f3 k1 k2
  · have hl := hown.1
    have hi2 : i = fs.length := by
      have := (List.getElem?_eq_some_iff.1 hi).1
      simp at this
      omega
    rw [List.getElem?_append_right (by omega), hi2] at hi
    simp at hi
    subst hi
    have ej : i = j := by omega
    subst ej
    refine ⟨_, _, rfl, by omega, by omega, (f1.trans f2).heap ?_ k1, (f1.trans f2).heap (heap_alloc_past (heap_alloc_same _ _)) k2⟩
    simpa using heap_alloc_same (wr.alloc (.cells #[.int .i64 i] 3)) (.cells #[m] 55)

/-- A struct of two cells, behind three new blocks and an append to a row that is not it. -/
theorem grown_at {w : World} {hb : Nat} {hx hy : Value} {t : TypeId} {v : Value} (h : w.heap[hb]? = some (.cells #[hx, hy] t (0, 0))) (A B C : Obj) (hne : v.ownBlock ≠ some hb) (w1 : World) (hg : (((w.alloc A).alloc B).alloc C).drew.grownBy w1 v.ownBlock) :
    w1.cell? ⟨hb, 0, none⟩ = some hx ∧ w1.frozen? ⟨hb, 0, none⟩ = false ∧ w1.cell? ⟨hb, 1, none⟩ = some hy ∧ w1.heap[hb]? = some (.cells #[hx, hy] t (0, 0)) ∧ w1.frozen? ⟨hb, 1, none⟩ = false := by
  have h3 : (((w.alloc A).alloc B).alloc C).drew.heap[hb]? = some (.cells #[hx, hy] t (0, 0)) := heap_alloc_past (heap_alloc_past (heap_alloc_past h))
  have h4 := (hg.block hb (lt_of_block h3) (fun e => hne e.symm)).trans h3
  exact ⟨(cell_of (i := 0) h4).trans rfl, free_of h4, (cell_of (i := 1) h4).trans rfl, h4, free_of h4⟩

set_option maxRecDepth 100000 in
set_option maxHeartbeats 4000000 in
theorem hooks_any (m : Value) (w : World) (hp : ∃ a, m = .pointer a) :
    Calls Tryd.prog 30 #[m] w fun e w' => ∃ hx hc, e = .returned (.agg #[hx, hc]) ∧ Hooked w' w.heap.size 90 77 m 5 hx ∧ Hooked w' w.heap.size 91 83 m 3 hc ∧ Ch [] w w' := by
  obtain ⟨ie, hie, he0, he1, he2⟩ := info_parts infoE
  obtain ⟨ic, hic, hc0, hc1, hc2⟩ := info_parts infoC
  obtain ⟨a, rfl⟩ := hp
  go_enter Tryd.func30, Tryd.ntmps30
  go_wp2_with fail
  go_loopg [4] 5 (fun k i wr => ∃ j : Nat, k + j = 5 ∧ i = .int .i64 j ∧ ∃ hx, wr.heap[w.heap.size]? = some (.cells #[.slice none 0 0, .slice none 0 0] 61 (0, 0)) ∧ wr.heap[w.heap.size + 1]? = some (.cells #[hx, .slice none 0 0] 61 (0, 0)) ∧ Hooked wr w.heap.size 90 77 (.pointer a) j hx ∧ Fr w.heap.size hookKinds w wr)
  case atStart =>
    refine ⟨0, rfl, rfl, .slice none 0 0, heap_alloc_past (heap_alloc_same _ _), by simpa using heap_alloc_same (w.alloc (.cells #[.slice none 0 0, .slice none 0 0] 61)) (.cells #[.slice none 0 0, .slice none 0 0] 61), ⟨[], World.ownsRow_nil _ _ _ _, by simp⟩, ((Fr.refl _ _ w).alloc (Nat.le_refl _) _).alloc (by simp) _⟩
  case round =>
    obtain ⟨j, hkj, rfl, hx, hb2, hb3, ⟨fs, hown, hcode⟩, hfr⟩ := hrel
    have c0 := (cell_of (i := 0) hb3).trans rfl
    have f0 := free_of (i := 0) hb3
    have z0 := lt_of_block hb3
    have hsz := hfr.size
    have hne : hx.ownBlock ≠ some (w.heap.size + 1) := own_ne hown hb3 (by decide)
    by_cases hlt : j < 5
    · have hnew : (((wr.alloc (.cells #[.int .i64 j] 3)).alloc (.cells #[.pointer a] 55)).alloc (.cells #[codeFn 90 (wr.heap.size + 1) wr.heap.size] 77)).heap[wr.heap.size + 1 + 1]? = some (.cells #[codeFn 90 (wr.heap.size + 1) wr.heap.size] 77 (0, 0)) := by
        simpa using heap_alloc_same ((wr.alloc (.cells #[.int .i64 j] 3)).alloc (.cells #[.pointer a] 55)) (.cells #[codeFn 90 (wr.heap.size + 1) wr.heap.size] 77)
      have HX := Lib.hid (fun W => extractor_any j (.pointer a) W rfl ⟨a, rfl⟩)
      have HN := Lib.hid (And.intro hnew (And.intro hkj (And.intro hb2 (And.intro hb3 (And.intro hcode hfr)))))
      have HW := Lib.hid hown
      have HO := Lib.hid (((hown.alloc (.cells #[.int .i64 j] 3)).alloc (.cells #[.pointer a] 55)).alloc (.cells #[codeFn 90 (wr.heap.size + 1) wr.heap.size] 77))
      have HZ := Lib.hid (grown_at (w := wr) (hb := w.heap.size + 1) (hx := hx) (hy := .slice none 0 0) (t := 61) hb3 (.cells #[.int .i64 j] 3) (.cells #[.pointer a] 55) (.cells #[codeFn 90 (wr.heap.size + 1) wr.heap.size] 77) hne)
      have c1 := (cell_of (i := 0) (heap_alloc_past (o := .cells #[.pointer a] 55) (heap_alloc_past (o := .cells #[.int .i64 j] 3) hb3))).trans rfl
      have c2 := (cell_of (i := 0) (heap_alloc_past (o := .cells #[codeFn 90 (wr.heap.size + 1) wr.heap.size] 77) (heap_alloc_past (o := .cells #[.pointer a] 55) (heap_alloc_past (o := .cells #[.int .i64 j] 3) hb3)))).trans rfl
      clear hnew hkj hb2 hb3 hcode hfr hown
      go_wp2_with fail
      go_region_law (first
          | (refine step_append_lies _ (by rfl) _ _ _ (by rfl) w.heap.size 77 ie _ 1 8 Tryd.underlying58 hie he0 he1 he2 rfl (by omega) hx j fs (by rfl) HO.out.drew
              ⟨wr.heap.size + 1 + 1, 0, none⟩ 1 1 [codeFn 90 (wr.heap.size + 1) wr.heap.size] (by rfl) (by rfl) (World.news_of_block (cs := #[codeFn 90 (wr.heap.size + 1) wr.heap.size]) (t := 77) (fr := (0, 0)) HN.out.1) (by simp [Value.oneCell'])
              (by omega) (by unfold maxLen; omega) (by omega) (by simp; omega) (wr.heap.size + 1 + 1 + 1) (by simp) ?_; intro gg gc w1 hown1 hgrow hat hlt1; have fz0 := (HZ.out _ hgrow).1; have fz1 := (HZ.out _ hgrow).2.1)
          | (go_simp; go_at_call 63; refine (HX.out _).mono ?_; rintro e w' ⟨rfl, rfl⟩))
      all_goals
        have hst := hook_step (K := hookKinds) (v := .slice (some ⟨gg, 0, none⟩) (j + 1) gc) (by simp [hookKinds]) (by simp [hookKinds]) (by simp [hookKinds]) (by simp [hookKinds]) (by decide) (show w.heap.size ≤ w.heap.size + 1 by omega) HN.out.2.2.2.1 HN.out.2.2.2.2.1 HW.out hgrow hown1 0 (.slice (some ⟨gg, 0, none⟩) (j + 1) gc)
        have hb' := heap_setCell_same (i := 0) (u := .slice (some ⟨gg, 0, none⟩) (j + 1) gc) (HZ.out _ hgrow).2.2.2.1
        have hb2' := hst.2.2 _ _ HN.out.2.2.1 (by omega)
        have HS := Lib.hid (And.intro hst (And.intro hb' hb2'))
        clear hst hb' hgrow hown1 hat hlt1 fz0 fz1 c1 c2 hb2'
        go_wp2
        go_roundg (gk - 1)
        case measure => have := HN.out.2.1; omega
        case rel => exact ⟨j + 1, by have := HN.out.2.1; omega, by go_num, _, HS.out.2.2, HS.out.2.1, HS.out.1.1, HN.out.2.2.2.2.2.trans HS.out.1.2.1⟩
    · obtain rfl : j = 5 := by omega
      have HX := Lib.hid (show Hooked wr w.heap.size 90 77 (.pointer a) 5 hx from ⟨fs, hown, hcode⟩)
      have HF := Lib.hid hfr
      have HB := Lib.hid (And.intro hb2 hb3)
      clear hkj hb2 hb3 hcode hfr hown hlt hne c0 f0 z0
      obtain ⟨w0, rfl⟩ : ∃ w0, w0 = wr := ⟨_, rfl⟩
      go_wp2_with fail
      go_loopg [5] 3 (fun k i wq => ∃ j : Nat, k + j = 3 ∧ i = .int .i64 j ∧ ∃ hc, wq.heap[w.heap.size]? = some (.cells #[.slice none 0 0, .slice none 0 0] 61 (0, 0)) ∧ wq.heap[w.heap.size + 1]? = some (.cells #[hx, hc] 61 (0, 0)) ∧ Hooked wq w.heap.size 91 83 (.pointer a) j hc ∧ Fr w.heap.size hookKinds2 w0 wq)
      case atStart => exact ⟨0, rfl, rfl, .slice none 0 0, HB.out.1, HB.out.2, ⟨[], World.ownsRow_nil _ _ _ _, by simp⟩, Fr.refl _ _ w0⟩
      case round =>
        obtain ⟨j, hkj, rfl, hc, hb2, hb3, ⟨fs, hown, hcode⟩, hfr⟩ := hrel
        have c0 := (cell_of (i := 1) hb3).trans rfl
        have f0 := free_of (i := 1) hb3
        have z0 := lt_of_block hb3
        have hsz2 := hfr.size
        have hne : hc.ownBlock ≠ some (w.heap.size + 1) := own_ne hown hb3 (by decide)
        by_cases hlt : j < 3
        · have hnew : (((wr.alloc (.cells #[.int .i64 j] 3)).alloc (.cells #[.pointer a] 55)).alloc (.cells #[codeFn 91 (wr.heap.size + 1) wr.heap.size] 83)).heap[wr.heap.size + 1 + 1]? = some (.cells #[codeFn 91 (wr.heap.size + 1) wr.heap.size] 83 (0, 0)) := by
            simpa using heap_alloc_same ((wr.alloc (.cells #[.int .i64 j] 3)).alloc (.cells #[.pointer a] 55)) (.cells #[codeFn 91 (wr.heap.size + 1) wr.heap.size] 83)
          have HX := Lib.hid (fun W => comparator_any j (.pointer a) W rfl ⟨a, rfl⟩)
          have HN := Lib.hid (And.intro hnew (And.intro hkj (And.intro hb2 (And.intro hb3 (And.intro hcode hfr)))))
          have HW := Lib.hid hown
          have HO := Lib.hid (((hown.alloc (.cells #[.int .i64 j] 3)).alloc (.cells #[.pointer a] 55)).alloc (.cells #[codeFn 91 (wr.heap.size + 1) wr.heap.size] 83))
          have HZ := Lib.hid (grown_at (w := wr) (hb := w.heap.size + 1) (hx := hx) (hy := hc) (t := 61) hb3 (.cells #[.int .i64 j] 3) (.cells #[.pointer a] 55) (.cells #[codeFn 91 (wr.heap.size + 1) wr.heap.size] 83) hne)
          have c1 := (cell_of (i := 1) (heap_alloc_past (o := .cells #[.pointer a] 55) (heap_alloc_past (o := .cells #[.int .i64 j] 3) hb3))).trans rfl
          have c2 := (cell_of (i := 1) (heap_alloc_past (o := .cells #[codeFn 91 (wr.heap.size + 1) wr.heap.size] 83) (heap_alloc_past (o := .cells #[.pointer a] 55) (heap_alloc_past (o := .cells #[.int .i64 j] 3) hb3)))).trans rfl
          clear hnew hkj hb2 hb3 hcode hfr hown
          go_wp2_with fail
          go_region_law (first
              | (refine step_append_lies _ (by rfl) _ _ _ (by rfl) w.heap.size 83 ic _ 1 8 Tryd.underlying59 hic hc0 hc1 hc2 rfl (by omega) hc j fs (by rfl) HO.out.drew
                  ⟨wr.heap.size + 1 + 1, 0, none⟩ 1 1 [codeFn 91 (wr.heap.size + 1) wr.heap.size] (by rfl) (by rfl) (World.news_of_block (cs := #[codeFn 91 (wr.heap.size + 1) wr.heap.size]) (t := 83) (fr := (0, 0)) HN.out.1) (by simp [Value.oneCell'])
                  (by omega) (by unfold maxLen; omega) (by omega) (by simp; omega) (wr.heap.size + 1 + 1 + 1) (by simp) ?_; intro gg gc w1 hown1 hgrow hat hlt1; have fz0 := (HZ.out _ hgrow).2.2.1; have fz1 := (HZ.out _ hgrow).2.2.2.2)
              | (go_simp; go_at_call 64; refine (HX.out _).mono ?_; rintro e w' ⟨rfl, rfl⟩))
          all_goals
            have hst := hook_step (K := hookKinds2) (v := .slice (some ⟨gg, 0, none⟩) (j + 1) gc) (by simp [hookKinds2]) (by simp [hookKinds2]) (by simp [hookKinds2]) (by simp [hookKinds2]) (by decide) (show w.heap.size ≤ w.heap.size + 1 by omega) HN.out.2.2.2.1 HN.out.2.2.2.2.1 HW.out hgrow hown1 1 (.slice (some ⟨gg, 0, none⟩) (j + 1) gc)
            have hb' := heap_setCell_same (i := 1) (u := .slice (some ⟨gg, 0, none⟩) (j + 1) gc) (HZ.out _ hgrow).2.2.2.1
            have hb2' := hst.2.2 _ _ HN.out.2.2.1 (by omega)
            have HS := Lib.hid (And.intro hst (And.intro hb' hb2'))
            clear hst hb' hgrow hown1 hat hlt1 fz0 fz1 c1 c2 hb2'
            go_wp2
            go_roundg (gk - 1)
            case measure => have := HN.out.2.1; omega
            case rel => exact ⟨j + 1, by have := HN.out.2.1; omega, by go_num, _, HS.out.2.2, HS.out.2.1, HS.out.1.1, HN.out.2.2.2.2.2.trans HS.out.1.2.1⟩
        · obtain rfl : j = 3 := by omega
          have HC := Lib.hid (show Hooked wr w.heap.size 91 83 (.pointer a) 3 hc from ⟨fs, hown, hcode⟩)
          have HX2 := Lib.hid (HX.out.fr hfr (by simp [hookKinds2]) (by simp [hookKinds2]) (by simp [hookKinds2]))
          have HF2 := Lib.hid (HF.out.to_below.trans hfr.to_below)
          have HB2 := Lib.hid (And.intro hb2 hb3)
          obtain ⟨x0, x1, x2, rfl⟩ := HX2.out.shape
          obtain ⟨y0, y1, y2, rfl⟩ := HC.out.shape
          have d0 := (cell_of (i := 0) hb3).trans rfl
          have p0 := (cell_of (i := 0) hb2).trans rfl
          have p1 := (cell_of (i := 1) hb2).trans rfl
          have q0 := free_of (i := 0) hb2
          have q1 := free_of (i := 1) hb2
          have zz := lt_of_block hb2
          have hend : (((wr.setCell ⟨w.heap.size, 0, none⟩ (.slice x0 x1 x2)).setCell ⟨w.heap.size, 1, none⟩ (.slice y0 y1 y2))).heap[w.heap.size]? = some (.cells #[.slice x0 x1 x2, .slice y0 y1 y2] 61 (0, 0)) := heap_setCell_same (heap_setCell_same hb2)
          have HE := Lib.hid hend
          clear hkj hb2 hb3 hcode hfr hown hlt hne HX HF HB hend
          go_wp2
          try simp only [Exit.inBlock, Exit.then]
          refine bodyPost_ret (results_cell_row rfl _ _ _ _ _ _ _ rfl HE.out Tryd.underlying61 rfl (by kernel_rfl)) rfl ?_
          have hfr3 : Fr w.heap.size [some 61] wr (((wr.setCell ⟨w.heap.size, 0, none⟩ (.slice x0 x1 x2)).setCell ⟨w.heap.size, 1, none⟩ (.slice y0 y1 y2))) :=
            ((Fr.refl _ _ wr).setCell HB2.out.1 (Nat.le_refl _) (by simp) _).setCell (heap_setCell_same HB2.out.1) (Nat.le_refl _) (by simp) _
          exact ⟨_, _, rfl, HX2.out.fr hfr3 (by simp) (by simp) (by simp), HC.out.fr hfr3 (by simp) (by simp) (by simp), Ch.of_below (HF2.out.trans hfr3.to_below) []⟩
end Go.Proofs.YtiekahnpnaldjaaDoor
