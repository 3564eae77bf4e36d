/-
  hook.Mutate: a copy of the row is handed to user code, and a copy of what comes back is told.
-/
import Derived.Test.YtiekahnpnaldjaaDoorHook3
namespace Go.Proofs.YtiekahnpnaldjaaDoor
open Go.RowKit

@[go_sem] theorem eql_mut_nil (w : World) (fn : Fn) (first cap : Array Value) : (binOp .eql 84 (.func fn first cap) .nilFunc).run Tryd.prog w = .ok (.bool false) w := by kernel_rfl

set_option maxRecDepth 100000 in
set_option maxHeartbeats 1000000 in
/-- Mutate's closure, where the user code comes back. -/
theorem mutate1_ret (bf bv bo : Nat) (fi : FuncId) (cap : Array Value) (b off : Nat) (sv : Value) (l : List V) (w : World) (S : List Nat) (R : Value → World → Prop) (err o0 : Value)
    (hf : w.heap[bf]? = some (.cells #[.func (.func fi) #[] cap] 84 (0, 0))) (hv : w.heap[bv]? = some (.cells #[sv] 39 (0, 0))) (ho : w.heap[bo]? = some (.cells #[o0] 39 (0, 0)))
    (hr : VRow w b off sv l) (hl : l.length * 40 ≤ 140737488355328)
    (hent : ∀ A W, (callFunc fi (A ++ cap)).run Tryd.prog W = .ok (.enter fi (A ++ cap)) W)
    (hu : ∀ sv' W, CopiedOwn w W sv' l → Calls Tryd.prog fi (#[sv'] ++ cap) W fun e w' => ∃ a n c, e = .returned (.tuple #[.slice a n c, err]) ∧ R (.slice a n c) w' ∧ Ch S w w') (hS : bo ∉ S) :
    Calls Tryd.prog 61 #[.pointer (some ⟨bf, 0, none⟩), .pointer (some ⟨bv, 0, none⟩), .pointer (some ⟨bo, 0, none⟩)] w fun e w' => e = .returned err ∧ ∃ a n c w1, R (.slice a n c) w1 ∧ w'.heap[bo]? = some (.cells #[.slice a n c] 39 (0, 0)) ∧ Ch [bo] w1 w' := by
  have k1 := cell_of_one hf
  have k2 := cell_of_one hv
  have z1 := lt_of_block hf
  have z2 := lt_of_block hv
  have z3 := lt_of_block ho
  have HC := Lib.hid (copy_from l b off sv w hr hl)
  have HU := Lib.hid hu
  have HS := Lib.hid hS
  clear hS
  have HB := Lib.hid (And.intro hf (And.intro hv ho))
  clear hu hr hf hv ho hl
  go_enter Tryd.func61, Tryd.ntmps61
  go_wp2_with fail
  go_region_with (first
    | (go_at_call 59; refine (HC.out _ ?_).mono ?_; (first | exact .inl rfl | exact .inr rfl); rintro e w1 ⟨sv', rfl, hcp⟩
       have k3 := cell_of_one (hcp.2.heap HB.out.1 (by simp)))
    | (refine (HU.out _ _ ‹_›).mono ?_
       rintro e w2 ⟨ra, rn, rc, rfl, hR, hc2⟩
       have ho2 := hc2.heap HB.out.2.2 HS.out
       have q0 := cell_of_one ho2
       have r0 := free_of_one ho2))
  all_goals
    have HX := Lib.hid (And.intro hR ho2)
    clear HC HU hcp q0 r0 ho2 hR hc2
    go_wp2
    go_ret
    exact ⟨rfl, _, _, _, _, HX.out.1, one_setCell HX.out.2, (Ch.refl _ _).setCell (by simp) _⟩

/-- The blocks of Mutate ahead of Run. -/
abbrev mutWorld (fi : FuncId) (cap : Array Value) (sv : Value) (w : World) : World :=
  ((w.alloc (.cells #[.func (.func fi) #[] cap] 84)).alloc (.cells #[sv] 39)).alloc (.cells #[.slice none 0 0] 39)
theorem mut_facts (fi : FuncId) (cap : Array Value) (sv : Value) (w : World) : (mutWorld fi cap sv w).heap.size = w.heap.size + 1 + 1 + 1 ∧ Ch [] w (mutWorld fi cap sv w) ∧
    (mutWorld fi cap sv w).heap[w.heap.size]? = some (.cells #[.func (.func fi) #[] cap] 84 (0, 0)) ∧ (mutWorld fi cap sv w).heap[w.heap.size + 1]? = some (.cells #[sv] 39 (0, 0)) ∧
    (mutWorld fi cap sv w).heap[w.heap.size + 1 + 1]? = some (.cells #[.slice none 0 0] 39 (0, 0)) := by
  refine ⟨by simp, (((Ch.refl _ w).alloc _).alloc _).alloc _, heap_alloc_past (heap_alloc_past (heap_alloc_same _ _)), heap_alloc_past ?_, ?_⟩
  · simpa using heap_alloc_same (w.alloc (.cells #[.func (.func fi) #[] cap] 84)) (.cells #[sv] 39)
  · simpa using heap_alloc_same ((w.alloc (.cells #[.func (.func fi) #[] cap] 84)).alloc (.cells #[sv] 39)) (.cells #[.slice none 0 0] 39)

/-- Where what user code told lies: in a block that was there ahead of the call, or in one that was made behind Run's boxes. -/
def Lies (w W0 : World) (b2 : Nat) : Prop := b2 < w.heap.size ∨ W0.heap.size ≤ b2

theorem mut_run (fi : FuncId) (cap : Array Value) (b off : Nat) (sv : Value) (l l2 : List V) (w : World) (S : List Nat) (R : World → Prop)
    (hr : VRow w b off sv l) (hl : l.length * 40 ≤ 140737488355328) (hS : ∀ x, x ∈ S → x < w.heap.size) (hL : Lasts w R)
    (hent : ∀ A W, (callFunc fi (A ++ cap)).run Tryd.prog W = .ok (.enter fi (A ++ cap)) W)
    (hu : ∀ sv' W0 W, Ch [] w W0 → CopiedOwn W0 W sv' l → Calls Tryd.prog fi (#[sv'] ++ cap) W fun e w' => ∃ a n c, e = .returned (.tuple #[.slice a n c, .nilIface]) ∧ (∃ b2 off2, VRow w' b2 off2 (.slice a n c) l2 ∧ Lies w W0 b2) ∧ R w' ∧ Ch S W0 w') :
    Calls Tryd.prog 55 #[.string ⟨#[]⟩, .func (.func 61) #[] #[.pointer (some ⟨w.heap.size, 0, none⟩), .pointer (some ⟨w.heap.size + 1, 0, none⟩), .pointer (some ⟨w.heap.size + 1 + 1, 0, none⟩)]] (mutWorld fi cap sv w) fun e w' =>
      e = .returned .nilIface ∧ ∃ a n c b2 off2, VRow w' b2 off2 (.slice a n c) l2 ∧ R w' ∧ w'.heap[w.heap.size + 1 + 1]? = some (.cells #[.slice a n c] 39 (0, 0)) ∧ Ch S w w' := by
  obtain ⟨e0, e1, e2, e3, e4⟩ := mut_facts fi cap sv w
  have r1 := runWorld_ch ⟨#[]⟩ (mutWorld fi cap sv w)
  have rs := runWorld_size ⟨#[]⟩ (mutWorld fi cap sv w)
  have hbo : w.heap.size + 1 + 1 ∉ S := fun h => by have := hS _ h; omega
  refine (run_nil ⟨#[]⟩ 61 _ (mutWorld fi cap sv w) ((w.heap.size + 1 + 1) :: S)
    (fun x => ∃ a n c w1, ((∃ b2 off2, VRow w1 b2 off2 (.slice a n c) l2 ∧ Lies w (runWorld ⟨#[]⟩ (mutWorld fi cap sv w)) b2) ∧ R w1 ∧ Ch S (runWorld ⟨#[]⟩ (mutWorld fi cap sv w)) w1) ∧ x.heap[w.heap.size + 1 + 1]? = some (.cells #[.slice a n c] 39 (0, 0)) ∧ Ch [w.heap.size + 1 + 1] w1 x) ?_ (fun _ => by kernel_rfl) ?_).mono ?_
  · intro x hx
    rw [List.mem_cons] at hx
    rcases hx with rfl | hx
    · omega
    · have := hS _ hx; omega
  · refine (mutate1_ret _ _ _ fi cap b off sv l _ S (fun lv w1 => (∃ b2 off2, VRow w1 b2 off2 lv l2 ∧ Lies w (runWorld ⟨#[]⟩ (mutWorld fi cap sv w)) b2) ∧ R w1 ∧ Ch S (runWorld ⟨#[]⟩ (mutWorld fi cap sv w)) w1) .nilIface _ (r1.heap e2 (by simp)) (r1.heap e3 (by simp)) (r1.heap e4 (by simp)) (hr.ch0 (e1.trans r1)) hl hent ?_ hbo).mono ?_
    · intro sv' W hc
      exact (hu sv' _ W (e1.trans r1) hc).mono fun e w' ⟨a, n, c, h⟩ => ⟨a, n, c, h.1, ⟨h.2.1, h.2.2.1, h.2.2.2⟩, h.2.2.2⟩
    · rintro e x ⟨rfl, a, n, c, w1, hR, hx, hc⟩
      exact ⟨rfl, ⟨a, n, c, w1, hR, hx, hc⟩, (hR.2.2.mono (S' := (w.heap.size + 1 + 1) :: S) (fun y hy => .inl (List.mem_cons_of_mem _ hy))).trans' hc (fun y hy => .inl (by simp at hy; simp [hy]))⟩
  · rintro e w' ⟨rfl, x, ⟨a, n, c, w1, ⟨⟨b2, off2, hv2, hb2⟩, hR, hcS⟩, hx, hc⟩, hc2⟩
    have hs1 := ((e1.trans r1).mono (S' := S) (by simp)).trans hcS
    have hs2 := hs1.trans' hc (by intro y hy; right; simp at hy; omega)
    have hs3 := hs2.trans' hc2 (by intro y hy; right; simp at hy; omega)
    have n1 : b2 ∉ [w.heap.size + 1 + 1] := by unfold Lies at hb2; simp; omega
    have n2 : b2 ∉ [(mutWorld fi cap sv w).heap.size + 1, (mutWorld fi cap sv w).heap.size + 1 + 1] := by unfold Lies at hb2; rw [e0]; simp at hb2 ⊢; omega
    refine ⟨rfl, a, n, c, b2, off2, (hv2.ch hc n1).ch hc2 n2, hL _ _ _ (hL _ _ _ hR hc (by intro y hy; simp at hy; omega)) hc2 (by intro y hy; simp at hy; omega), hc2.heap hx (by simp), hs3⟩

set_option maxRecDepth 100000 in
set_option maxHeartbeats 1000000 in
/-- Mutate, where the user code comes back. -/
theorem mutate_ok (fi : FuncId) (cap : Array Value) (b off : Nat) (sv : Value) (l l2 : List V) (w : World) (S : List Nat) (R : World → Prop)
    (hr : VRow w b off sv l) (hl : l.length * 40 ≤ 140737488355328) (hS : ∀ x, x ∈ S → x < w.heap.size) (hL : Lasts w R)
    (hent : ∀ A W, (callFunc fi (A ++ cap)).run Tryd.prog W = .ok (.enter fi (A ++ cap)) W)
    (hu : ∀ sv' W0 W, Ch [] w W0 → CopiedOwn W0 W sv' l → Calls Tryd.prog fi (#[sv'] ++ cap) W fun e w' => ∃ a n c, e = .returned (.tuple #[.slice a n c, .nilIface]) ∧ (∃ b2 off2, VRow w' b2 off2 (.slice a n c) l2 ∧ Lies w W0 b2) ∧ R w' ∧ Ch S W0 w') (hl2 : l2.length * 40 ≤ 140737488355328) :
    Calls Tryd.prog 24 #[.func (.func fi) #[] cap, sv] w fun e w' => ∃ sv' b', e = .returned (.tuple #[sv', .nilIface]) ∧ w.heap.size ≤ b' ∧ VRow w' b' 0 sv' l2 ∧ R w' ∧ Ch S w w' := by
  have HR := Lib.hid (mut_run fi cap b off sv l l2 w S R hr hl hS hL hent hu)
  have HX := Lib.hid (mut_facts fi cap sv w)
  have HS := Lib.hid (And.intro hS (And.intro hL hl2))
  clear hu hS hL hl hl2
  obtain ⟨aa, ca, rfl, _⟩ := hr.shape
  clear hr
  go_enter Tryd.func24, Tryd.ntmps24
  go_wp2_with (go_at_call 55; refine HR.out.mono ?_)
  rintro e w1 ⟨rfl, ra, rn, rc, b2, off2, hv2, hR, hb, hc⟩
  have q0 := cell_of_one hb
  have p0 := lt_of_block hb
  have HC := Lib.hid (schemaCopy_any l2 b2 off2 _ w1 hv2 HS.out.2.2)
  have HB := Lib.hid (And.intro hR hc)
  clear hR hb hc HR hv2
  go_wp2_with (go_at_call 59; refine HC.out.mono ?_)
  rintro e w2 ⟨sv', rfl, hcp⟩
  have HY := Lib.hid hcp
  clear hcp HC
  go_wp2
  go_ret2
  obtain ⟨b', hb', hrow, hcc⟩ := HY.out.copied
  have hs := HB.out.2.size
  exact ⟨_, b', rfl, by omega, hrow, HS.out.2.1 _ _ _ HB.out.1 hcc (by simp), HB.out.2.trans' hcc (by simp)⟩
end Go.Proofs.YtiekahnpnaldjaaDoor
