/-
  The statements' setter; told; Same.
-/
import Derived.Test.YtiekahnpnaldjaaDoorHc1
import Derived.Deep.Cut
namespace Go.Proofs.YtiekahnpnaldjaaDoor
open Go.RowKit

/-- Values with a field set. -/
def setV (l : List V) (f : Int) (v : V) : List V := if 0 ≤ f ∧ f < l.length then l.set f.toNat v else l ++ [v]
theorem flat_append (l m : List V) : flat (l ++ m) = flat l ++ flat m := by simp [flat]
theorem flat_set : ∀ (l : List V) (n : Nat) (v : V), n < l.length → flat (l.set n v) = ((((flat l).set (n * 4) (.int .i64 v.k)).set (n * 4 + 1) (.int .i64 v.i)).set (n * 4 + 2) (.string v.s)).set (n * 4 + 3) (.float .f64 v.f)
  | [], n, v, h => by simp at h
  | a :: l, 0, v, _ => by simp [flat, V.cells]
  | a :: l, n + 1, v, h => by
    have ih := flat_set l n v (by simpa using h)
    have e : flat (a :: l) = [.int .i64 a.k, .int .i64 a.i, .string a.s, .float .f64 a.f] ++ flat l := rfl
    have e2 : flat ((a :: l).set (n + 1) v) = [.int .i64 a.k, .int .i64 a.i, .string a.s, .float .f64 a.f] ++ flat (l.set n v) := rfl
    rw [e, e2, ih]
    have h4 : (n + 1) * 4 = n * 4 + 1 + 1 + 1 + 1 := by omega
    rw [h4]
    simp [List.set_cons_succ]
theorem setV_len (l : List V) (f : Int) (v : V) : (setV l f v).length ≤ l.length + 1 := by unfold setV; split <;> simp
theorem setV_ok {l : List V} {v : V} (ol : OkL l) (hv : v.Ok) (f : Int) : OkL (setV l f v) := by
  unfold setV
  split
  · intro x hx
    rcases List.mem_or_eq_of_mem_set hx with h | rfl
    · exact ol _ h
    · exact hv
  · intro x hx
    rcases List.mem_append.1 hx with h | h
    · exact ol _ h
    · simp at h; subst h; exact hv

set_option maxRecDepth 100000 in
set_option maxHeartbeats 2000000 in
theorem setRow_any (l : List V) (b off : Nat) (sv : Value) (f : Int) (v : V) (w : World) (hr : VRow w b off sv l) (hl : l.length ≤ 1000) (hf : f ≤ 9223372036854775807) :
    Calls Tryd.prog 41 #[sv, .int .i64 f, .agg (V.arr v)] w fun e w' => ∃ a n c, e = .returned (.slice a n c) ∧ n = (setV l f v).length ∧ w'.ownsRow w.heap.size 38 4 (.slice a n c) n (flat (setV l f v)) ∧ Ch [] w w' := by
  obtain ⟨i0, hi, hz0, hz1, hz2⟩ := info_parts infoV
  obtain ⟨aa, ca, rfl, hsa⟩ := hr.shape
  have hfl := flat_len l
  have hbx := heap_alloc_same w (.cells (V.arr v) 38)
  have HB := Lib.hid hbx
  have hcw : Ch [] w (w.alloc (.cells (V.arr v) 38)) := (Ch.refl _ _).alloc _
  have hrow := (hr.ch0 hcw).row
  have HR := Lib.hid (And.intro hrow (And.intro hfl hsa))
  clear hrow hfl hr hsa hbx hcw
  unfold V.arr at *
  have q0 := (cell_of (i := 0) HB.out).trans rfl
  have q1 := (cell_of (i := 1) HB.out).trans rfl
  have q2 := (cell_of (i := 2) HB.out).trans rfl
  have q3 := (cell_of (i := 3) HB.out).trans rfl
  by_cases h0 : l = []
  · have e0 : setV l f v = [v] := by subst h0; unfold setV; rw [if_neg (by simp <;> omega)]; rfl
    have hz : l.length = 0 := by rw [h0]; rfl
    have e1 : flat [v] = [.int .i64 v.k, .int .i64 v.i, .string v.s, .float .f64 v.f] := rfl
    rw [e0, hz, e1]
    clear e0 h0 hz e1 HR
    have hd : decide (f < 0) = true ∨ 0 ≤ f := by by_cases h : f < 0 <;> simp [h]; omega
    cases aa
    all_goals
      by_cases hneg : 0 ≤ f
      all_goals
        go_enter Tryd.func41, Tryd.ntmps41
        go_upto_region 5 with (fail)
        go_wp2_with (at_builtin; refine wpList_append_own _ rfl _ _ 39 rfl w.heap.size 38 i0 _ 4 40 Tryd.underlying39 hi hz0 hz1 hz2 rfl (by decide) _ _ _ rfl (World.ownsRow_nil _ _ _ _) ⟨w.heap.size + 1, 0, none⟩ 1 1 [.int .i64 v.k, .int .i64 v.i, .string v.s, .float .f64 v.f] rfl rfl ?_ ?_ ?_ ?_ ?_ ?_)
        any_goals (first | (exact World.news_of_block (w := (w.alloc (.cells #[.int .i64 v.k, .int .i64 v.i, .string v.s, .float .f64 v.f] 38)).alloc (.cells #[.int .i64 v.k, .int .i64 v.i, .string v.s, .float .f64 v.f] 38)) (cs := #[.int .i64 v.k, .int .i64 v.i, .string v.s, .float .f64 v.f]) (t := 38) (fr := (0, 0)) (by simpa using heap_alloc_same (w.alloc (.cells #[.int .i64 v.k, .int .i64 v.i, .string v.s, .float .f64 v.f] 38)) (.cells #[.int .i64 v.k, .int .i64 v.i, .string v.s, .float .f64 v.f] 38))) | (intro u hu; simp at hu; rcases hu with rfl | rfl | rfl | rfl <;> rfl) | (exact ⟨rfl, rfl, rfl, rfl⟩) | (show _ ≤ _; unfold maxLen; omega) | (show _ ≤ _; omega) | (show _ ≤ _; simp <;> omega))
        intro v' w1 hown hg _
        try rw [List.nil_append] at hown
        obtain ⟨qa, qc, rfl⟩ := own_shape hown
        have hc1 : Ch [] w w1 := (((Ch.refl [] w).alloc (.cells #[.int .i64 v.k, .int .i64 v.i, .string v.s, .float .f64 v.f] 38)).alloc (.cells #[.int .i64 v.k, .int .i64 v.i, .string v.s, .float .f64 v.f] 38)).grown hg (by simp [Value.ownBlock])
        have HF := Lib.hid (And.intro hown hc1)
        clear hown hg hc1
        go_wp2
        go_ret
        exact ⟨_, _, _, rfl, rfl, HF.out.1, HF.out.2⟩
  · have hpos : 0 < l.length := List.length_pos_iff.2 h0
    obtain rfl := HR.out.2.2 h0
    have HN := Lib.hid h0
    clear h0
    go_enter Tryd.func41, Tryd.ntmps41
    go_wp2_with (at_builtin; refine wpList_append_own _ rfl _ _ 39 rfl w.heap.size 38 i0 _ 4 40 Tryd.underlying39 hi hz0 hz1 hz2 rfl (by decide) _ _ _ rfl (World.ownsRow_nil _ _ _ _) ⟨b, off, none⟩ l.length ca (flat l) rfl HR.out.2.1 ?c1 ?c2 ?c3 ?c4 ?c5 ?_)
    case c1 => intro j u hu; (try rw [Addr.add_lit]); exact HR.out.1 j u hu
    case c2 => exact flat_one _
    case c3 => unfold maxLen; omega
    case c4 => omega
    intro v' w1 hown hg _
    try rw [Nat.zero_add] at hown
    try rw [List.nil_append] at hown
    obtain ⟨g, gc, rfl⟩ : ∃ g gc, v' = .slice (some ⟨g, 0, none⟩) l.length gc := by
      rcases hown.2 with ⟨_, h0⟩ | ⟨g, cap, cur, rfl, _⟩
      · omega
      · exact ⟨g, cap, rfl⟩
    have hc1 : Ch [] w w1 := ((Ch.refl [] w).alloc (.cells #[.int .i64 v.k, .int .i64 v.i, .string v.s, .float .f64 v.f] 38)).grown hg (by simp [Value.ownBlock])
    have hb1 := (hg.block _ (lt_of_block HB.out) (by simp [Value.ownBlock])).trans HB.out
    have k0 := (cell_of (i := 0) hb1).trans rfl
    have k1 := (cell_of (i := 1) hb1).trans rfl
    have k2 := (cell_of (i := 2) hb1).trans rfl
    have k3 := (cell_of (i := 3) hb1).trans rfl
    have z1 := lt_of_block hb1
    have hgz := own_base hown (g := g) rfl
    clear q0 q1 q2 q3 hg hb1
    by_cases hin : 0 ≤ f ∧ f < l.length
    · obtain ⟨n, rfl⟩ : ∃ n : Nat, f = n := ⟨f.toNat, by omega⟩
      have hn : n < l.length := by omega
      have e0 : setV l n v = l.set n v := by unfold setV; rw [if_pos hin]; simp
      have e1 := flat_set l n v hn
      have s0 := hown.stored (n * 4) (.int .i64 v.k)
      have s1 := s0.1.stored (n * 4 + 1) (.int .i64 v.i)
      have s2 := s1.1.stored (n * 4 + 2) (.string v.s)
      have s3 := s2.1.stored (n * 4 + 3) (.float .f64 v.f)
      have hl4 : (flat l).length = l.length * 4 := flat_len l
      have t0 := hown.cellAt (n * 4) (by omega)
      have t1 := hown.cellAt (n * 4 + 1) (by omega)
      have t2 := hown.cellAt (n * 4 + 2) (by omega)
      have t3 := hown.cellAt (n * 4 + 3) (by omega)
      obtain ⟨v0, x0⟩ : ∃ v0, (flat l)[n * 4]? = some v0 := ⟨_, List.getElem?_eq_getElem (by omega)⟩
      obtain ⟨v1, x1⟩ : ∃ v0, (flat l)[n * 4 + 1]? = some v0 := ⟨_, List.getElem?_eq_getElem (by omega)⟩
      obtain ⟨v2, x2⟩ : ∃ v0, (flat l)[n * 4 + 2]? = some v0 := ⟨_, List.getElem?_eq_getElem (by omega)⟩
      obtain ⟨v3, x3⟩ : ∃ v0, (flat l)[n * 4 + 3]? = some v0 := ⟨_, List.getElem?_eq_getElem (by omega)⟩
      rw [x0] at t0
      rw [x1] at t1
      rw [x2] at t2
      rw [x3] at t3
      have f0 := hown.frozenAt (n * 4)
      have f1 := hown.frozenAt (n * 4 + 1)
      have f2 := hown.frozenAt (n * 4 + 2)
      have f3 := hown.frozenAt (n * 4 + 3)
      have hcc := (((hc1.setCell (p := ⟨g, n * 4, none⟩) (.inr hgz.1) (.int .i64 v.k)).setCell (p := ⟨g, n * 4 + 1, none⟩) (.inr hgz.1) (.int .i64 v.i)).setCell (p := ⟨g, n * 4 + 2, none⟩) (.inr hgz.1) (.string v.s)).setCell (p := ⟨g, n * 4 + 3, none⟩) (.inr hgz.1) (.float .f64 v.f)
      have hfin := s3.1
      rw [← e1, ← e0] at hfin
      have hlen : (setV l n v).length = l.length := by rw [e0]; simp
      have HF := Lib.hid (And.intro hfin (And.intro hcc hlen))
      have j0 : (n : Int) < (l.length : Int) := by omega
      have gz := hgz.2
      clear hown hc1 e0 e1 s0 s1 s2 s3 hfin hcc hlen x0 x1 x2 x3 hin hl4
      go_wp2
      go_ret
      exact ⟨_, _, _, rfl, HF.out.2.2.symm, HF.out.1, HF.out.2.1⟩
    · have e0 : setV l f v = l ++ [v] := by unfold setV; rw [if_neg hin]
      have e1 : flat (l ++ [v]) = flat l ++ [.int .i64 v.k, .int .i64 v.i, .string v.s, .float .f64 v.f] := flat_append l [v]
      have hlen : (setV l f v).length = l.length + 1 := by rw [e0]; simp
      have HE := Lib.hid (And.intro e0 (And.intro e1 hlen))
      have HO := Lib.hid (And.intro hown hc1)
      clear hown hc1 e0 e1 hlen
      by_cases hneg : 0 ≤ f
      · have hd : (l.length : Int) ≤ f := by omega
        clear hin
        go_wp2_with (at_builtin; refine wpList_append_own _ rfl _ _ 39 rfl w.heap.size 38 i0 _ 4 40 Tryd.underlying39 hi hz0 hz1 hz2 rfl (by decide) _ _ _ rfl (HO.out.1.alloc _) ⟨w1.heap.size, 0, none⟩ 1 1 [.int .i64 v.k, .int .i64 v.i, .string v.s, .float .f64 v.f] rfl rfl ?e1 ?e2 ?e3 ?e4 ?e5 ?_)
        case e1 => exact World.news_of_block (cs := #[.int .i64 v.k, .int .i64 v.i, .string v.s, .float .f64 v.f]) (t := 38) (fr := (0, 0)) (heap_alloc_same _ _)
        case e2 => intro u hu; simp at hu; rcases hu with rfl | rfl | rfl | rfl <;> rfl
        case e3 => unfold maxLen; omega
        case e4 => omega
        case e5 => have := HO.out.2.size; simp; omega
        intro v' w2 hown2 hg2 _
        rw [← HE.out.2.1, ← HE.out.1] at hown2
        have hc2 : Ch [] w w2 := (HO.out.2.alloc (.cells #[.int .i64 v.k, .int .i64 v.i, .string v.s, .float .f64 v.f] 38)).grown hg2 (fun k hk => .inr (own_base HO.out.1 hk).1)
        obtain ⟨qa, qc, rfl⟩ := own_shape hown2
        have HF := Lib.hid (And.intro hown2 hc2)
        clear hown2 hg2 hc2
        go_wp2
        go_ret
        exact ⟨_, _, _, rfl, HE.out.2.2.symm, HF.out.1, HF.out.2⟩
      · clear hin
        go_wp2_with (at_builtin; refine wpList_append_own _ rfl _ _ 39 rfl w.heap.size 38 i0 _ 4 40 Tryd.underlying39 hi hz0 hz1 hz2 rfl (by decide) _ _ _ rfl (HO.out.1.alloc _) ⟨w1.heap.size, 0, none⟩ 1 1 [.int .i64 v.k, .int .i64 v.i, .string v.s, .float .f64 v.f] rfl rfl ?g1 ?g2 ?g3 ?g4 ?g5 ?_)
        case g2 => exact ⟨rfl, rfl, rfl, rfl⟩
        case g3 => unfold maxLen; omega
        case g4 => omega
        case g5 => have := HO.out.2.size; simp; omega
        intro v' w2 hown2 hg2 _
        rw [← HE.out.2.1, ← HE.out.1] at hown2
        have hc2 : Ch [] w w2 := (HO.out.2.alloc (.cells #[.int .i64 v.k, .int .i64 v.i, .string v.s, .float .f64 v.f] 38)).grown hg2 (fun k hk => .inr (own_base HO.out.1 hk).1)
        obtain ⟨qa, qc, rfl⟩ := own_shape hown2
        have HF := Lib.hid (And.intro hown2 hc2)
        clear hown2 hg2 hc2
        go_wp2
        go_ret
        exact ⟨_, _, _, rfl, HE.out.2.2.symm, HF.out.1, HF.out.2⟩

theorem told_ok : True := trivial
end Go.Proofs.YtiekahnpnaldjaaDoor
