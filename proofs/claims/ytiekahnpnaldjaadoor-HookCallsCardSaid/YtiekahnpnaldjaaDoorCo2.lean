/-
  hook.Run and hook.Compare, whatever the user code tells.
-/
import Derived.Test.YtiekahnpnaldjaaDoorCo1
import Derived.Deep.RegionHeld3
namespace Go.Proofs.YtiekahnpnaldjaaDoor
open Go.RowKit

/-- What is of other kinds than those of T is as it was. -/
def KeptK (T : List (Option TypeId)) (a b : World) : Prop := ∀ (k : Nat) (o : Obj), a.heap[k]? = some o → kindOf o ∉ T → b.heap[k]? = some o
theorem KeptK.refl (T : List (Option TypeId)) (a : World) : KeptK T a a := fun _ _ h _ => h
theorem KeptK.trans {T : List (Option TypeId)} {a b c : World} (h : KeptK T a b) (k : KeptK T b c) : KeptK T a c := fun i o hi ht => k i o (h i o hi ht) ht
theorem KeptK.mono {T T' : List (Option TypeId)} {a b : World} (h : KeptK T a b) (hs : ∀ t, t ∈ T → t ∈ T') : KeptK T' a b := fun i o hi ht => h i o hi (fun hx => ht (hs _ hx))
theorem KeptK.of_ch {T : List (Option TypeId)} {S : List Nat} {a b : World} (h : Ch S a b) (hs : ∀ x, x ∈ S → ∀ o, a.heap[x]? = some o → kindOf o ∈ T) : KeptK T a b := fun i o hi ht =>
  (h.block i (lt_of_block hi) (fun hm => ht (hs i hm o hi))).trans hi
theorem KeptK.of_ch1 {T : List (Option TypeId)} {x : Nat} {a b : World} {c : Array Value} {t : TypeId} {f : Nat × Nat} (h : Ch [x] a b) (hx : a.heap[x]? = some (.cells c t f)) (ht : some t ∈ T) : KeptK T a b :=
  KeptK.of_ch h (fun y hy o ho => by simp at hy; subst hy; rw [hx] at ho; cases ho; exact ht)

/-- The kinds that the plumbing of user code writes. -/
def hookT : List (Option TypeId) := [some 3, some 4, some 28]

set_option maxRecDepth 100000 in
set_option maxHeartbeats 1000000 in
theorem run_both (wh : ByteArray) (fi : FuncId) (cap : Array Value) (w : World) (S : List Nat) (Q : Value → World → Prop) (hS : ∀ x, x ∈ S → x < w.heap.size) (hent : ∀ W, (callFunc fi cap).run Tryd.prog W = .ok (.enter fi cap) W)
    (hf : Calls Tryd.prog fi cap (runWorld wh w) fun e w1 => ∃ er, e = .returned er ∧ (er = .nilIface ∨ ∃ t v, er = .iface t v) ∧ Q er w1 ∧ Ch S (runWorld wh w) w1) :
    Calls Tryd.prog 55 #[.string wh, .func (.func fi) #[] cap] w fun e w' => ∃ er w1, Q er w1 ∧ Ch S (runWorld wh w) w1 ∧ KeptK hookT w1 w' ∧ Ch [w.heap.size + 1, w.heap.size + 1 + 1] w1 w' ∧
      ((er = .nilIface ∧ e = .returned .nilIface) ∨ ∃ fb, (∃ t v, er = .iface t v) ∧ e = .returned (faultVal fb) ∧ w1.heap.size ≤ fb ∧ FaultAt w' fb wh er .nilIface) := by
  obtain ⟨b1, b2, b3⟩ := runWorld_facts wh w
  have HF := Lib.hid hf
  have HS := Lib.hid hS
  clear hf b1 b2 b3 hS
  go_enter_defers Tryd.func55, Tryd.ntmps55
  go_wp2_with (refine HF.out.mono ?_)
  rintro e w1 ⟨er, rfl, hcase, hq, hch⟩
  obtain ⟨b1, b2, b3⟩ := runWorld_kept HS.out hch
  have c2 := cell_of_one b2
  have f2 := free_of_one b2
  have c3 := cell_of_one b3
  have f3 := free_of_one b3
  have c1 := cell_of_one b1
  have z1 := lt_of_block b1
  have z2 := lt_of_block b2
  have z3 := lt_of_block b3
  have HB := Lib.hid (And.intro b1 (And.intro b2 b3))
  have HQ := Lib.hid hq
  have HC := Lib.hid hch
  have hkept : ∀ w', Ch [w.heap.size + 1, w.heap.size + 1 + 1] w1 w' → KeptK hookT w1 w' := fun w' h => KeptK.of_ch h (fun x hx o ho => by
    simp at hx
    rcases hx with rfl | rfl
    · rw [b2] at ho; cases ho; simp [kindOf, hookT]
    · rw [b3] at ho; cases ho; simp [kindOf, hookT])
  have HKP := Lib.hid hkept
  clear b1 b2 b3 hq hch HF hkept
  rcases hcase with rfl | ⟨t, v, rfl⟩
  · go_wp2
    refine leaves_cons (f := 87) (args := #[.pointer (some ⟨w.heap.size, 0, none⟩), .pointer (some ⟨w.heap.size + 1, 0, none⟩), .pointer (some ⟨w.heap.size + 1 + 1, 0, none⟩)]) (by simp) (by simp [go_sem]) ?_
    have hbool : (w1.setCell ⟨w.heap.size + 1 + 1, 0, none⟩ (.bool true)).heap[w.heap.size + 1 + 1]? = some (.cells #[.bool true] 4 (0, 0)) := one_setCell HB.out.2.2
    have herr : (w1.setCell ⟨w.heap.size + 1 + 1, 0, none⟩ (.bool true)).heap[w.heap.size + 1]? = some (.cells #[.nilIface] 28 (0, 0)) := (heap_setCell_other (by omega)).trans HB.out.2.1
    refine (run1_back _ _ _ _ ((heap_setCell_other (by omega)).trans hbool)).mono ?_
    rintro e u' w2 ⟨rfl, rfl, hc⟩
    have e2 := cell_of_one (hc.heap (one_setCell (u := .nilIface) herr) (by simp))
    have hcc := ((((Ch.refl [w.heap.size + 1, w.heap.size + 1 + 1] w1).setCell (p := ⟨w.heap.size + 1 + 1, 0, none⟩) (by simp) (.bool true)).setCell (p := ⟨w.heap.size + 1, 0, none⟩) (by simp) .nilIface).trans' hc (by simp))
    exact ⟨.nilIface, by simp [results, Tryd.results55, go_sem, e2], .nilIface, w1, HQ.out, HC.out, HKP.out _ hcc, hcc, .inl ⟨rfl, rfl⟩⟩
  · go_wp2
    refine leaves_cons (f := 87) (args := #[.pointer (some ⟨w.heap.size, 0, none⟩), .pointer (some ⟨w.heap.size + 1, 0, none⟩), .pointer (some ⟨w.heap.size + 1 + 1, 0, none⟩)]) (by simp) (by simp [go_sem]) ?_
    have hbool : (w1.setCell ⟨w.heap.size + 1 + 1, 0, none⟩ (.bool true)).heap[w.heap.size + 1 + 1]? = some (.cells #[.bool true] 4 (0, 0)) := one_setCell HB.out.2.2
    have herr : (w1.setCell ⟨w.heap.size + 1 + 1, 0, none⟩ (.bool true)).heap[w.heap.size + 1]? = some (.cells #[.nilIface] 28 (0, 0)) := (heap_setCell_other (by omega)).trans HB.out.2.1
    have hx := heap_alloc_past (o := .cells #[.string wh, .iface t v, .nilIface] 107) (one_setCell (u := .iface 102 (.pointer (some ⟨w1.heap.size, 0, none⟩))) herr)
    refine (run1_back _ _ _ _ (heap_alloc_past ((heap_setCell_other (by omega)).trans hbool))).mono ?_
    rintro e u' w2 ⟨rfl, rfl, hc⟩
    have e2 := cell_of_one (hc.heap hx (by simp))
    have hcc := (((((Ch.refl [w.heap.size + 1, w.heap.size + 1 + 1] w1).setCell (p := ⟨w.heap.size + 1 + 1, 0, none⟩) (by simp) (.bool true)).setCell (p := ⟨w.heap.size + 1, 0, none⟩) (by simp) (.iface 102 (.pointer (some ⟨w1.heap.size, 0, none⟩)))).alloc (.cells #[.string wh, .iface t v, .nilIface] 107)).trans' hc (by simp))
    refine ⟨.iface 102 (.pointer (some ⟨w1.heap.size, 0, none⟩)), by simp [results, Tryd.results55, go_sem, e2], .iface t v, w1, HQ.out, HC.out, HKP.out _ hcc, hcc, .inr ⟨w1.heap.size, ⟨t, v, rfl⟩, rfl, Nat.le_refl _, ?_⟩⟩
    refine hc.heap ?_ (by simp)
    simpa using heap_alloc_same ((w1.setCell ⟨w.heap.size + 1 + 1, 0, none⟩ (.bool true)).setCell ⟨w.heap.size + 1, 0, none⟩ (.iface 102 (.pointer (some ⟨w1.heap.size, 0, none⟩)))) (.cells #[.string wh, .iface t v, .nilIface] 107)

set_option maxRecDepth 100000 in
set_option maxHeartbeats 2000000 in
/-- Compare's closure. -/
theorem hookCompare1_any (bf ba bb bo : Nat) (fi : FuncId) (cap : Array Value) (b1 o1 b2 o2 : Nat) (sa sb o0 : Value) (la lb : List V) (w : World) (S : List Nat) (R : Int → Value → World → Prop)
    (hf : w.heap[bf]? = some (.cells #[.func (.func fi) #[] cap] 83 (0, 0))) (hva : w.heap[ba]? = some (.cells #[sa] 39 (0, 0))) (hvb : w.heap[bb]? = some (.cells #[sb] 39 (0, 0))) (ho : w.heap[bo]? = some (.cells #[o0] 3 (0, 0)))
    (hra : VRow w b1 o1 sa la) (hrb : VRow w b2 o2 sb lb) (hla : la.length * 40 ≤ 140737488355328) (hlb : lb.length * 40 ≤ 140737488355328)
    (hent : ∀ A W, (callFunc fi (A ++ cap)).run Tryd.prog W = .ok (.enter fi (A ++ cap)) W)
    (hu : ∀ sva svb W1 W2 W, Ch [] w W1 → CopiedOwn W1 W2 sva la → Ch [] W2 W → CopiedOwn W2 W svb lb → Calls Tryd.prog fi (#[sva, svb] ++ cap) W fun e w' => ∃ cv er, e = .returned (.tuple #[.int .i64 cv, er]) ∧ R cv er w' ∧ Ch S W w') (hS : bo ∉ S ∧ bf ∉ S ∧ ba ∉ S ∧ bb ∉ S) :
    Calls Tryd.prog 75 #[.pointer (some ⟨bf, 0, none⟩), .pointer (some ⟨ba, 0, none⟩), .pointer (some ⟨bb, 0, none⟩), .pointer (some ⟨bo, 0, none⟩)] w fun e w' =>
      ∃ cv er w1, e = .returned er ∧ R cv er w1 ∧ Ch S w w1 ∧ w'.heap[bo]? = some (.cells #[.int .i64 cv] 3 (0, 0)) ∧ Ch [bo] w1 w' ∧ KeptK hookT w1 w' := by
  have HA := Lib.hid (fun W (hc : Ch [] w W) => schemaCopy_any la b1 o1 sa W (hra.ch0 hc) hla)
  have HBc := Lib.hid (fun W (hc : Ch [] w W) => schemaCopy_any lb b2 o2 sb W (hrb.ch0 hc) hlb)
  have HU := Lib.hid hu
  have hne : bf ≠ bo ∧ ba ≠ bo ∧ bb ≠ bo := ⟨ne_of_elem hf ho (by decide), ne_of_elem hva ho (by decide), ne_of_elem hvb ho (by decide)⟩
  have HK5 := Lib.hid (fun (W1 W : World) (u : Value) (h1 : Ch [] w W1) (hc : Ch S W1 W) => (show (W.setCell ⟨bo, 0, none⟩ u).cell? ⟨bf, 0, none⟩ = some (.func (.func fi) #[] cap) ∧ (W.setCell ⟨bo, 0, none⟩ u).cell? ⟨ba, 0, none⟩ = some sa ∧ (W.setCell ⟨bo, 0, none⟩ u).cell? ⟨bb, 0, none⟩ = some sb from
    ⟨cell_of_one ((heap_setCell_other hne.1).trans (hc.heap (h1.heap hf (by simp)) hS.2.1)), cell_of_one ((heap_setCell_other hne.2.1).trans (hc.heap (h1.heap hva (by simp)) hS.2.2.1)), cell_of_one ((heap_setCell_other hne.2.2).trans (hc.heap (h1.heap hvb (by simp)) hS.2.2.2))⟩))
  clear hne
  have HK3 := Lib.hid (fun (W1 W : World) (h1 : Ch [] w W1) (hc : Ch S W1 W) => (show W.cell? ⟨bf, 0, none⟩ = some (.func (.func fi) #[] cap) ∧ W.cell? ⟨ba, 0, none⟩ = some sa ∧ W.cell? ⟨bb, 0, none⟩ = some sb from
    ⟨cell_of_one (hc.heap (h1.heap hf (by simp)) hS.2.1), cell_of_one (hc.heap (h1.heap hva (by simp)) hS.2.2.1), cell_of_one (hc.heap (h1.heap hvb (by simp)) hS.2.2.2)⟩))
  have HK := Lib.hid (fun (W : World) (hc : Ch [] w W) => (show W.cell? ⟨bf, 0, none⟩ = some (.func (.func fi) #[] cap) ∧ W.cell? ⟨ba, 0, none⟩ = some sa ∧ W.cell? ⟨bb, 0, none⟩ = some sb from
    ⟨cell_of_one (hc.heap hf (by simp)), cell_of_one (hc.heap hva (by simp)), cell_of_one (hc.heap hvb (by simp))⟩))
  have HO := Lib.hid (And.intro ho hS)
  obtain ⟨a1, c1, rfl, _⟩ := hra.shape
  obtain ⟨a2, c2, rfl, _⟩ := hrb.shape
  clear hu hra hrb hf hva hvb ho hla hlb hS
  obtain ⟨k0, k1, k2⟩ := HK.out _ (Ch.refl _ _)
  go_enter Tryd.func75, Tryd.ntmps75
  go_wp2_with fail
  go_region_held3 (fun w' => w'.cell? ⟨bf, 0, none⟩ = some (.func (.func fi) #[] cap) ∧ w'.cell? ⟨ba, 0, none⟩ = some (.slice a1 la.length c1) ∧ w'.cell? ⟨bb, 0, none⟩ = some (.slice a2 lb.length c2))
    (first | exact HK3.out _ _ hc2 hc3 | exact HK5.out _ _ _ hc2 hc3 | exact HK.out _ hc2 | exact HK.out _ hc1 | exact HK.out _ (Ch.refl _ _) | exact HK.out _ (Ch.refl _ _).drew)
    (first
      | (go_at_call 59; have hc1' := hc1; refine (HBc.out _ hc1).mono ?_; rintro e w2 ⟨svb, rfl, hcb⟩; have hc2 := hc1.trans hcb.2)
      | (go_at_call 59; refine (HA.out _ (Ch.refl _ _).drew).mono ?_; rintro e w1 ⟨sva, rfl, hca⟩; have hc1 := (Ch.refl [] w).drew.trans hca.2)
      | (refine (HU.out sva svb _ _ _ (Ch.refl _ _).drew hca hcb.2 hcb).mono ?_; rintro e w3 ⟨cv, er, rfl, hR, hc3⟩
         have ho3 := hc3.heap ((hc1.trans hcb.2).heap HO.out.1 (by simp)) HO.out.2.1
         have q0 := cell_of_one ho3
         have q1 := free_of_one ho3
         have q2 := lt_of_block ho3))
  have HF := Lib.hid (And.intro hR (And.intro ((hc2.mono (S' := S) (by simp)).trans hc3) (And.intro ho3 hc2)))
  clear HA HBc HU HK HK3 HK5 hR hc3 ho3 hca hcb hc1 hc2 k0 k1 k2
  go_wp2
  go_ret
  exact ⟨cv, er, w3, rfl, HF.out.1, HF.out.2.1, one_setCell HF.out.2.2.1, (Ch.refl _ _).setCell (by simp) _, KeptK.of_ch1 ((Ch.refl [bo] _).setCell (p := ⟨bo, 0, none⟩) (by simp) _) HF.out.2.2.1 (by simp [hookT])⟩

@[go_sem] theorem eql_cmp_nil (w : World) (fn : Fn) (first cap : Array Value) : (binOp .eql 83 (.func fn first cap) .nilFunc).run Tryd.prog w = .ok (.bool false) w := by kernel_rfl

/-- The blocks of Compare ahead of Run. -/
abbrev cmpWorld (fi : FuncId) (cap : Array Value) (sa sb : Value) (w : World) : World :=
  (((w.alloc (.cells #[.func (.func fi) #[] cap] 83)).alloc (.cells #[sa] 39)).alloc (.cells #[sb] 39)).alloc (.cells #[.int .i64 0] 3)
theorem cmp_facts (fi : FuncId) (cap : Array Value) (sa sb : Value) (w : World) : (cmpWorld fi cap sa sb w).heap.size = w.heap.size + 1 + 1 + 1 + 1 ∧ Ch [] w (cmpWorld fi cap sa sb w) ∧
    (cmpWorld fi cap sa sb w).heap[w.heap.size]? = some (.cells #[.func (.func fi) #[] cap] 83 (0, 0)) ∧ (cmpWorld fi cap sa sb w).heap[w.heap.size + 1]? = some (.cells #[sa] 39 (0, 0)) ∧
    (cmpWorld fi cap sa sb w).heap[w.heap.size + 1 + 1]? = some (.cells #[sb] 39 (0, 0)) ∧ (cmpWorld fi cap sa sb w).heap[w.heap.size + 1 + 1 + 1]? = some (.cells #[.int .i64 0] 3 (0, 0)) := by
  refine ⟨by simp, ((((Ch.refl _ w).alloc _).alloc _).alloc _).alloc _, heap_alloc_past (heap_alloc_past (heap_alloc_past (heap_alloc_same _ _))), heap_alloc_past (heap_alloc_past ?_), heap_alloc_past ?_, ?_⟩
  · simpa using heap_alloc_same (w.alloc (.cells #[.func (.func fi) #[] cap] 83)) (.cells #[sa] 39)
  · simpa using heap_alloc_same ((w.alloc (.cells #[.func (.func fi) #[] cap] 83)).alloc (.cells #[sa] 39)) (.cells #[sb] 39)
  · simpa using heap_alloc_same (((w.alloc (.cells #[.func (.func fi) #[] cap] 83)).alloc (.cells #[sa] 39)).alloc (.cells #[sb] 39)) (.cells #[.int .i64 0] 3)

/-- What hook.Compare leaves. -/
def CmpLeft (wh : ByteArray) (w : World) (S : List Nat) (R : Int → Value → World → Prop) (e : Ending) (w' : World) : Prop :=
  ∃ cv er, R cv er w' ∧ Ch S w w' ∧ ((er = .nilIface ∧ e = .returned (.tuple #[.int .i64 (cmpI cv 0), .nilIface])) ∨
    ∃ fb, (∃ t v, er = .iface t v) ∧ e = .returned (.tuple #[.int .i64 0, faultVal fb]) ∧ w.heap.size ≤ fb ∧ FaultAt w' fb wh er .nilIface)

set_option maxRecDepth 100000 in
set_option maxHeartbeats 2000000 in
theorem hookCompare_any (wh : ByteArray) (fi : FuncId) (cap : Array Value) (b1 o1 b2 o2 : Nat) (sa sb : Value) (la lb : List V) (w : World) (S : List Nat) (R : Int → Value → World → Prop)
    (hra : VRow w b1 o1 sa la) (hrb : VRow w b2 o2 sb lb) (hla : la.length * 40 ≤ 140737488355328) (hlb : lb.length * 40 ≤ 140737488355328) (hS : ∀ x, x ∈ S → x < w.heap.size)
    (hR : ∀ cv er a b, R cv er a → KeptK hookT a b → R cv er b) (hER : ∀ cv er a, R cv er a → er = .nilIface ∨ ∃ t v, er = .iface t v)
    (hent : ∀ A W, (callFunc fi (A ++ cap)).run Tryd.prog W = .ok (.enter fi (A ++ cap)) W)
    (hu : ∀ sva svb W1 W2 W, Ch [] w W1 → CopiedOwn W1 W2 sva la → Ch [] W2 W → CopiedOwn W2 W svb lb → Calls Tryd.prog fi (#[sva, svb] ++ cap) W fun e w' => ∃ cv er, e = .returned (.tuple #[.int .i64 cv, er]) ∧ R cv er w' ∧ Ch S W w') :
    Calls Tryd.prog 39 #[.string wh, .func (.func fi) #[] cap, sa, sb] w (CmpLeft wh w S R) := by
  obtain ⟨e0, e1, e2, e3, e4, e5⟩ := cmp_facts fi cap sa sb w
  have r1 := runWorld_ch wh (cmpWorld fi cap sa sb w)
  have hn : ∀ k, w.heap.size ≤ k → k ∉ S := fun k hk h => by have := hS _ h; omega
  have HR := run_both wh 75 #[.pointer (some ⟨w.heap.size, 0, none⟩), .pointer (some ⟨w.heap.size + 1, 0, none⟩), .pointer (some ⟨w.heap.size + 1 + 1, 0, none⟩), .pointer (some ⟨w.heap.size + 1 + 1 + 1, 0, none⟩)] (cmpWorld fi cap sa sb w) ((w.heap.size + 1 + 1 + 1) :: S)
    (fun er x => ∃ cv, R cv er x ∧ Ch S w x ∧ x.heap[w.heap.size + 1 + 1 + 1]? = some (.cells #[.int .i64 cv] 3 (0, 0))) (by
      intro x hx
      rw [List.mem_cons] at hx
      rcases hx with rfl | hx
      · omega
      · have := hS _ hx; omega) (fun _ => by kernel_rfl) (by
    refine (hookCompare1_any _ _ _ _ fi cap b1 o1 b2 o2 sa sb _ la lb _ S R (r1.heap e2 (by simp)) (r1.heap e3 (by simp)) (r1.heap e4 (by simp)) (r1.heap e5 (by simp)) (hra.ch0 (e1.trans r1)) (hrb.ch0 (e1.trans r1)) hla hlb hent ?_ ⟨hn _ (by omega), hn _ (by omega), hn _ (by omega), hn _ (by omega)⟩).mono ?_
    · intro sva svb W1 W2 W h1 h2 h3 h4
      exact hu sva svb W1 W2 W ((e1.trans r1).trans h1) h2 h3 h4
    · rintro e x ⟨cv, er, w1, rfl, hr, hc1, hb, hc, hk⟩
      refine ⟨er, rfl, hER _ _ _ hr, ⟨cv, hR _ _ _ _ hr hk, ?_, hb⟩, ?_⟩
      · exact (((e1.trans r1).mono (S' := S) (by simp)).trans hc1).trans' hc (by intro y hy; right; simp at hy; omega)
      · exact (hc1.mono (S' := (w.heap.size + 1 + 1 + 1) :: S) (fun y hy => .inl (List.mem_cons_of_mem _ hy))).trans' hc (fun y hy => .inl (by simp at hy; simp [hy])))
  have HRR := Lib.hid HR
  have HX := Lib.hid (And.intro e0 (And.intro hR hS))
  obtain ⟨a1, c1, rfl, _⟩ := hra.shape
  obtain ⟨a2, c2, rfl, _⟩ := hrb.shape
  clear HR hu hS hla hlb e0 e1 e2 e3 e4 e5 r1 hn hra hrb hR hER
  go_enter Tryd.func39, Tryd.ntmps39
  go_wp2_with (go_at_call 55; refine HRR.out.mono ?_)
  rintro e w2 ⟨er, w1, ⟨cv, hr, hcw, hb⟩, hrun, hk, hc, hcase⟩
  have e0 := HX.out.1
  have hsz := hrun.size
  simp at hsz
  have hb2 := hc.heap hb (by simp <;> omega)
  have q0 := cell_of_one hb2
  have hcc : Ch S w w2 := hcw.trans' hc (by intro y hy; right; simp at hy; omega)
  have HF := Lib.hid (And.intro (HX.out.2.1 _ _ _ _ hr hk) hcc)
  clear hr hcw hb hrun hk hc hb2 hcc
  rcases hcase with ⟨rfl, rfl⟩ | ⟨fb, ⟨t, v, rfl⟩, rfl, hfb, hF⟩
  · go_wp2_with (go_at_call 76; refine (cmp_int _ _ _).mono ?_; rintro e w' ⟨rfl, rfl⟩)
    go_ret2
    exact ⟨cv, _, HF.out.1, HF.out.2, .inl ⟨rfl, rfl⟩⟩
  · have HG := Lib.hid (And.intro hF (show w.heap.size ≤ fb by omega))
    clear hF hfb q0
    unfold faultVal
    go_wp2
    go_ret2
    exact ⟨cv, _, HF.out.1, HF.out.2, .inr ⟨fb, ⟨_, _, rfl⟩, rfl, HG.out.2, HG.out.1⟩⟩
end Go.Proofs.YtiekahnpnaldjaaDoor
