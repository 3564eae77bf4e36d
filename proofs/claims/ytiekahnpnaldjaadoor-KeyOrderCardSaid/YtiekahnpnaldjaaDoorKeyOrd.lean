/-
  KeyOrder: entries stand by key, then number: an order. The walk.
-/
import Derived.Test.YtiekahnpnaldjaaDoorLaw7
namespace Go.Proofs.YtiekahnpnaldjaaDoor
open Go.RowKit

theorem ordE_lex (la lb : List V) (ia ib : Int) : ordE la lb ia ib = lexI (cmpRows la lb) (cmpI ia ib) := rfl
theorem ordr_E : Ordr (fun (p q : List V × Int) => lexI (cmpRows p.1 q.1) (cmpI p.2 q.2)) (fun p => OkL p.1 ∧ True) :=
  Ordr.lex ordr_Rows ordr_I Prod.fst Prod.snd (fun x y h k => by cases x; cases y; simp at h k; rw [h, k])
/-- What the statement asks of three entries. -/
theorem ordE_law (la lb lc : List V) (ia ib ic : Int) (oa : OkL la) (ob : OkL lb) (oc : OkL lc) :
    ordE la lb ia ib = - ordE lb la ib ia ∧ ordE la la ia ia = 0 ∧ (ordE la lb ia ib ≤ 0 → ordE lb lc ib ic ≤ 0 → ordE la lc ia ic ≤ 0) ∧ (ordE la lb ia ib = 0 → ia = ib ∧ cmpRows la lb = 0) ∧
      (-1 ≤ ordE la lb ia ib ∧ ordE la lb ia ib ≤ 1) ∧ (-1 ≤ ordE lb lc ib ic ∧ ordE lb lc ib ic ≤ 1) ∧ (-1 ≤ ordE la lc ia ic ∧ ordE la lc ia ic ≤ 1) ∧ (-1 ≤ ordE lb la ib ia ∧ ordE lb la ib ia ≤ 1) := by
  have three := fun (p q : List V × Int) => ordr_E.three p q
  refine ⟨ordr_E.anti (la, ia) (lb, ib), ordr_E.refl (la, ia), ordr_E.trans (la, ia) (lb, ib) (lc, ic) ⟨oa, trivial⟩ ⟨ob, trivial⟩ ⟨oc, trivial⟩, fun h => ?_, ?_, ?_, ?_, ?_⟩
  · have := ordr_E.eq (la, ia) (lb, ib) ⟨oa, trivial⟩ ⟨ob, trivial⟩ h
    simp at this
    obtain ⟨rfl, rfl⟩ := this
    exact ⟨rfl, rows_refl _⟩
  · have h : ordE la lb ia ib = -1 ∨ ordE la lb ia ib = 0 ∨ ordE la lb ia ib = 1 := three (la, ia) (lb, ib)
    omega
  · have h : ordE lb lc ib ic = -1 ∨ ordE lb lc ib ic = 0 ∨ ordE lb lc ib ic = 1 := three (lb, ib) (lc, ic)
    omega
  · have h : ordE la lc ia ic = -1 ∨ ordE la lc ia ic = 0 ∨ ordE la lc ia ic = 1 := three (la, ia) (lc, ic)
    omega
  · have h : ordE lb la ib ia = -1 ∨ ordE lb la ib ia = 0 ∨ ordE lb la ib ia = 1 := three (lb, ib) (la, ia)
    omega

abbrev entBlk (s : Value) (i : Int) : Obj := .cells #[s, .int .i64 i] 74
theorem entWorld_facts (s0 s1 s2 : Value) (i0 i1 i2 : Int) (w : World) : Ch [] w (((w.alloc (entBlk s0 i0)).alloc (entBlk s1 i1)).alloc (entBlk s2 i2)) ∧
    (((w.alloc (entBlk s0 i0)).alloc (entBlk s1 i1)).alloc (entBlk s2 i2)).heap[w.heap.size]? = some (.cells #[s0, .int .i64 i0] 74 (0, 0)) ∧
    (((w.alloc (entBlk s0 i0)).alloc (entBlk s1 i1)).alloc (entBlk s2 i2)).heap[w.heap.size + 1]? = some (.cells #[s1, .int .i64 i1] 74 (0, 0)) ∧
    (((w.alloc (entBlk s0 i0)).alloc (entBlk s1 i1)).alloc (entBlk s2 i2)).heap[w.heap.size + 1 + 1]? = some (.cells #[s2, .int .i64 i2] 74 (0, 0)) :=
  ⟨(((Ch.refl _ w).alloc _).alloc _).alloc _, heap_alloc_past (heap_alloc_past (heap_alloc_same _ _)), heap_alloc_past (by simpa using heap_alloc_same (w.alloc (entBlk s0 i0)) (entBlk s1 i1)), by simpa using heap_alloc_same ((w.alloc (entBlk s0 i0)).alloc (entBlk s1 i1)) (entBlk s2 i2)⟩

set_option maxRecDepth 100000 in
set_option maxHeartbeats 2000000 in
theorem keyOrder_any (la lb lc : List V) (ba oa bb ob bc oc : Nat) (sa sb sc : Value) (ia ib ic : Int) (w : World) (ha : VRow w ba oa sa la) (hb : VRow w bb ob sb lb) (hc : VRow w bc oc sc lc) (oka : OkL la) (okb : OkL lb) (okc : OkL lc)
    (hla : la.length ≤ 9223372036854775807) (hlb : lb.length ≤ 9223372036854775807) (hlc : lc.length ≤ 9223372036854775807) (hg : Glob w) :
    Calls Tryd.prog 7 #[entVal sa ia, entVal sb ib, entVal sc ic] w fun e w' => e = .returned (.bool true) ∧ Ch [] w w' := by
  obtain ⟨aa, ca, rfl, _⟩ := ha.shape
  obtain ⟨ab, cb, rfl, _⟩ := hb.shape
  obtain ⟨ac, cc, rfl, _⟩ := hc.shape
  obtain ⟨h1, h2, h3, h4⟩ := entWorld_facts (.slice aa la.length ca) (.slice ab lb.length cb) (.slice ac lc.length cc) ia ib ic w
  generalize hW : (((w.alloc (entBlk (.slice aa la.length ca) ia)).alloc (entBlk (.slice ab lb.length cb) ib)).alloc (entBlk (.slice ac lc.length cc) ic)) = W at h1 h2 h3 h4
  have HK := Lib.hid (fun (w1 : World) (hc : Ch [] W w1) => (show w1.cell? ⟨w.heap.size, 0, none⟩ = some (.slice aa la.length ca) ∧ w1.cell? ⟨w.heap.size, 1, none⟩ = some (.int .i64 ia) ∧ w1.cell? ⟨w.heap.size + 1, 0, none⟩ = some (.slice ab lb.length cb) ∧ w1.cell? ⟨w.heap.size + 1, 1, none⟩ = some (.int .i64 ib) ∧ w1.cell? ⟨w.heap.size + 1 + 1, 0, none⟩ = some (.slice ac lc.length cc) ∧ w1.cell? ⟨w.heap.size + 1 + 1, 1, none⟩ = some (.int .i64 ic) from
    ⟨(cell_of (i := 0) (hc.heap h2 (by simp))).trans rfl, (cell_of (i := 1) (hc.heap h2 (by simp))).trans rfl, (cell_of (i := 0) (hc.heap h3 (by simp))).trans rfl, (cell_of (i := 1) (hc.heap h3 (by simp))).trans rfl, (cell_of (i := 0) (hc.heap h4 (by simp))).trans rfl, (cell_of (i := 1) (hc.heap h4 (by simp))).trans rfl⟩))
  have HR := Lib.hid (fun (w1 : World) (hcw : Ch [] W w1) => And.intro (ha.ch0 (h1.trans hcw)) (And.intro (hb.ch0 (h1.trans hcw)) (hc.ch0 (h1.trans hcw))))
  have HL := Lib.hid (And.intro hla (And.intro hlb hlc))
  have HO := Lib.hid (And.intro oka (And.intro okb okc))
  have H1 := Lib.hid (And.intro h1 (hg.ch h1 (by simp)))
  have HW := Lib.hid hW
  clear h1 h2 h3 h4 hW ha hb hc oka okb okc hla hlb hlc hg
  go_enter Tryd.func7, Tryd.ntmps7
  go_wp2_with fail
  rw [HW.out]
  refine (known7_any _ H1.out.2).mono ?_
  rintro e w1 ⟨rfl, hc1⟩
  obtain ⟨k0, k1, k2, k3, k4, k5⟩ := HK.out _ hc1
  have H2 := Lib.hid hc1
  have F1 := Lib.hid (few_any la ba oa 6 _ w1 (HR.out _ hc1).1 HL.out.1 HO.out.1)
  have F2 := Lib.hid (few_any lb bb ob 6 _ w1 (HR.out _ hc1).2.1 HL.out.2.1 HO.out.2.1)
  have F3 := Lib.hid (few_any lc bc oc 6 _ w1 (HR.out _ hc1).2.2 HL.out.2.2 HO.out.2.2)
  have HE := Lib.hid (H1.out.1.trans hc1)
  clear hc1
  go_wp2_with fail
  refine F1.out.mono ?_
  rintro e w' ⟨rfl, rfl⟩
  generalize fewB la 6 = r1
  cases r1
  · go_wp2
    go_ret
    exact ⟨rfl, HE.out⟩
  go_wp2_with fail
  refine F2.out.mono ?_
  rintro e w' ⟨rfl, rfl⟩
  generalize fewB lb 6 = r2
  cases r2
  · go_wp2
    go_ret
    exact ⟨rfl, HE.out⟩
  go_wp2_with fail
  refine F3.out.mono ?_
  rintro e w' ⟨rfl, rfl⟩
  generalize fewB lc 6 = r3
  cases r3
  · go_wp2
    go_ret
    exact ⟨rfl, HE.out⟩
  clear F1 F2 F3
  have P1 := Lib.hid (fun (w1 : World) (hcw : Ch [] W w1) => keyOrder_entry la lb ba oa bb ob _ _ ia ib w1 (HR.out _ hcw).1 (HR.out _ hcw).2.1 HO.out.1 HO.out.2.1 HL.out.1 HL.out.2.1)
  have P2 := Lib.hid (fun (w1 : World) (hcw : Ch [] W w1) => keyOrder_entry lb lc bb ob bc oc _ _ ib ic w1 (HR.out _ hcw).2.1 (HR.out _ hcw).2.2 HO.out.2.1 HO.out.2.2 HL.out.2.1 HL.out.2.2)
  have P3 := Lib.hid (fun (w1 : World) (hcw : Ch [] W w1) => keyOrder_entry la lc ba oa bc oc _ _ ia ic w1 (HR.out _ hcw).1 (HR.out _ hcw).2.2 HO.out.1 HO.out.2.2 HL.out.1 HL.out.2.2)
  have P4 := Lib.hid (fun (w1 : World) (hcw : Ch [] W w1) => keyOrder_entry lb la bb ob ba oa _ _ ib ia w1 (HR.out _ hcw).2.1 (HR.out _ hcw).1 HO.out.2.1 HO.out.1 HL.out.2.1 HL.out.1)
  have P5 := Lib.hid (fun (w1 : World) (hcw : Ch [] W w1) => keyOrder_entry la la ba oa ba oa _ _ ia ia w1 (HR.out _ hcw).1 (HR.out _ hcw).1 HO.out.1 HO.out.1 HL.out.1 HL.out.1)
  have PV := Lib.hid (fun (w1 : World) (hcw : Ch [] W w1) => vals_any la lb ba oa bb ob _ _ w1 (HR.out _ hcw).1 (HR.out _ hcw).2.1 HO.out.1 HO.out.2.1 HL.out.1 HL.out.2.1)
  have A := Lib.hid (ordE_law la lb lc ia ib ic HO.out.1 HO.out.2.1 HO.out.2.2)
  clear HR HO HL
  go_wp2_with fail
  go_region_held3 (fun w' => w'.cell? ⟨w.heap.size, 0, none⟩ = some (.slice aa la.length ca) ∧ w'.cell? ⟨w.heap.size, 1, none⟩ = some (.int .i64 ia) ∧ w'.cell? ⟨w.heap.size + 1, 0, none⟩ = some (.slice ab lb.length cb) ∧ w'.cell? ⟨w.heap.size + 1, 1, none⟩ = some (.int .i64 ib) ∧ w'.cell? ⟨w.heap.size + 1 + 1, 0, none⟩ = some (.slice ac lc.length cc) ∧ w'.cell? ⟨w.heap.size + 1 + 1, 1, none⟩ = some (.int .i64 ic))
    (first | exact HK.out _ H2.out.drew | exact HK.out _ c4 | exact HK.out _ c3 | exact HK.out _ c2 | exact HK.out _ H2.out)
    (first
      | (go_at_call 36; have c3' := c3; refine (P3.out _ c3).mono ?_; rintro e w4 ⟨rfl, hc4⟩; have c4 := c3.trans hc4)
      | (go_at_call 36; have c2' := c2; refine (P2.out _ c2).mono ?_; rintro e w3 ⟨rfl, hc3⟩; have c3 := c2.trans hc3)
      | (go_at_call 36; refine (P1.out _ H2.out.drew).mono ?_; rintro e w2 ⟨rfl, hc2⟩; have c2 := H2.out.drew.trans hc2))
  obtain ⟨a1, a2, a3, a4, ⟨b1, b2⟩, ⟨b3, b4⟩, ⟨b5, b6⟩, b7, b8⟩ := A.out
  rw [a2] at P5
  obtain ⟨k0, k1, k2, k3, k4, k5⟩ := HK.out _ c4
  have C4 := Lib.hid c4
  clear a2 A P1 P2 P3 c2 c3 hc2 hc3 hc4 c4 H2 HE
  generalize ordE la lb ia ib = x at *
  generalize ordE lb lc ib ic = y at *
  generalize ordE la lc ia ic = z at *
  generalize ordE lb la ib ia = x' at *
  have e1 : (x == -x') = true := by rw [beq_iff_eq]; exact a1
  have fin : ∀ W', Ch [] W W' → Ch [] w W' := fun W' h => H1.out.1.trans h
  have HF := Lib.hid fin
  clear a1 fin
  go_wp2_with fail
  refine (P4.out _ C4.out).mono ?_
  rintro e w5 ⟨rfl, hc5⟩
  have C5 := Lib.hid (C4.out.trans hc5)
  obtain ⟨l0, l1, l2, l3, l4, l5⟩ := HK.out _ C5.out
  clear hc5 k0 k1 k2 k3 k4 k5
  go_wp2_with fail
  refine (P5.out _ C5.out).mono ?_
  rintro e w6 ⟨rfl, hc6⟩
  have C6 := Lib.hid (C5.out.trans hc6)
  obtain ⟨m0, m1, m2, m3, m4, m5⟩ := HK.out _ C6.out
  clear hc6 l0 l1 l2 l3 l4 l5 P4 P5
  by_cases x0 : x = 0
  · obtain ⟨hi, hv⟩ := a4 x0
    subst x0 hi
    have PW := Lib.hid ((PV.out _ C6.out).mono (fun e w' h => (show e = .returned (.bool true) ∧ Ch [] w6 w' from ⟨by rw [h.1, hv]; rfl, h.2⟩)))
    clear a4 PV hv
    by_cases py : 0 < y
    · clear a3
      go_wp2_with fail
      refine PW.out.mono ?_
      rintro e w7 ⟨rfl, hc7⟩
      have C7 := Lib.hid (C6.out.trans hc7)
      clear hc7
      go_wp2
      go_ret
      exact ⟨rfl, HF.out _ C7.out⟩
    · have pz : z ≤ 0 := a3 (by omega) (by omega)
      clear a3
      go_wp2_with fail
      refine PW.out.mono ?_
      rintro e w7 ⟨rfl, hc7⟩
      have C7 := Lib.hid (C6.out.trans hc7)
      clear hc7
      go_wp2
      go_ret
      exact ⟨rfl, HF.out _ C7.out⟩
  · have t1 : (x != 0) = true := by rw [bne_iff_ne]; exact x0
    have t2 : (x == 0) = false := by rw [beq_eq_false_iff_ne]; exact x0
    by_cases px : 0 < x
    · clear a3 a4 x0
      go_wp2
      go_ret
      exact ⟨rfl, HF.out _ C6.out⟩
    · by_cases py : 0 < y
      · clear a3 a4 x0
        go_wp2
        go_ret
        exact ⟨rfl, HF.out _ C6.out⟩
      · have pz : z ≤ 0 := a3 (by omega) (by omega)
        clear a3 a4 x0
        go_wp2
        go_ret
        exact ⟨rfl, HF.out _ C6.out⟩
end Go.Proofs.YtiekahnpnaldjaaDoor
