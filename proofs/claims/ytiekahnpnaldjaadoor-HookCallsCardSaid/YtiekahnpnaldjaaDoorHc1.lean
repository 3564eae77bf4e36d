/-
  hook.Mutate, whatever the user code tells; the statements' setter.
-/
import Derived.Test.YtiekahnpnaldjaaDoorIs1
import Derived.Laws.OwnMore
namespace Go.Proofs.YtiekahnpnaldjaaDoor
open Go.RowKit

def mutT : List (Option TypeId) := [some 39, some 3, some 4, some 28]
theorem hookT_mutT : ∀ t, t ∈ hookT → t ∈ mutT := by
  intro t ht
  simp only [hookT, mutT, List.mem_cons, List.not_mem_nil, or_false] at *
  rcases ht with h | h | h
  · exact .inr (.inl h)
  · exact .inr (.inr (.inl h))
  · exact .inr (.inr (.inr h))
theorem KeptK.own {T : List (Option TypeId)} {w w' : World} {base : Nat} {e : TypeId} {size : Nat} {v : Value} {n : Nat} {xs : List Value} (h : KeptK T w w') (ho : w.ownsRow base e size v n xs) (ht : some e ∉ T) : w'.ownsRow base e size v n xs := by
  refine ⟨ho.1, ?_⟩
  rcases ho.2 with h2 | ⟨g, cap, cur, rfl, hg, hh, r⟩
  · exact .inl h2
  · exact .inr ⟨g, cap, cur, rfl, hg, h _ _ hh ht, r⟩

set_option maxRecDepth 100000 in
set_option maxHeartbeats 1000000 in
theorem hookMutate1_any (bf bv bo : Nat) (fi : FuncId) (cap : Array Value) (b off : Nat) (sv : Value) (l : List V) (w : World) (S : List Nat) (R : Value → Value → World → Prop) (o0 : Value)
    (hf : w.heap[bf]? = some (.cells #[.func (.func fi) #[] cap] 84 (0, 0))) (hv : w.heap[bv]? = some (.cells #[sv] 39 (0, 0))) (ho : w.heap[bo]? = some (.cells #[o0] 39 (0, 0)))
    (hr : VRow w b off sv l) (hl : l.length * 40 ≤ 140737488355328)
    (hent : ∀ A W, (callFunc fi (A ++ cap)).run Tryd.prog W = .ok (.enter fi (A ++ cap)) W)
    (hu : ∀ sv' W1 W, Ch [] w W1 → CopiedOwn W1 W sv' l → Calls Tryd.prog fi (#[sv'] ++ cap) W fun e w' => ∃ a n c er, e = .returned (.tuple #[.slice a n c, er]) ∧ R (.slice a n c) er w' ∧ Ch S W w') (hS : bo ∉ S) :
    Calls Tryd.prog 61 #[.pointer (some ⟨bf, 0, none⟩), .pointer (some ⟨bv, 0, none⟩), .pointer (some ⟨bo, 0, none⟩)] w fun e w' => ∃ a n c er w1, e = .returned er ∧ R (.slice a n c) er w1 ∧ Ch S w w1 ∧ w'.heap[bo]? = some (.cells #[.slice a n c] 39 (0, 0)) ∧ Ch [bo] w1 w' ∧ KeptK mutT w1 w' := by
  have k1 := cell_of_one hf
  have k2 := cell_of_one hv
  have z1 := lt_of_block hf
  have z2 := lt_of_block hv
  have z3 := lt_of_block ho
  have HC := Lib.hid (fun W (h : Ch [] w W) => schemaCopy_any l b off sv W (hr.ch0 h) hl)
  have HU := Lib.hid hu
  have HS := Lib.hid hS
  clear hS
  have HB := Lib.hid (And.intro hf (And.intro hv ho))
  obtain ⟨aa, ca, rfl, _⟩ := hr.shape
  clear hu hr hf hv ho hl
  go_enter Tryd.func61, Tryd.ntmps61
  go_wp2_with fail
  go_region_with (first
    | (go_at_call 59; refine (HC.out _ (by first | exact (Ch.refl _ _).drew | exact Ch.refl _ _)).mono ?_; rintro e w1 ⟨sv', rfl, hcp⟩
       have hcw : Ch [] w w1 := by first | exact hcp.2 | exact (Ch.refl _ _).drew.trans hcp.2
       have k3 := cell_of_one (hcw.heap HB.out.1 (by simp)))
    | (refine (HU.out _ _ _ (by first | exact (Ch.refl _ _).drew | exact Ch.refl _ _) hcp).mono ?_
       rintro e w2 ⟨ra, rn, rc, er, rfl, hR, hc2⟩
       have ho2 := hc2.heap (hcw.heap HB.out.2.2 (by simp)) HS.out
       have q0 := cell_of_one ho2
       have r0 := free_of_one ho2
       have hcc := (hcw.mono (S' := S) (by simp)).trans hc2))
  all_goals
    have HX := Lib.hid (And.intro hR (And.intro ho2 hcc))
    clear HC HU hcp q0 r0 ho2 hR hc2 hcc hcw
    go_wp2
    go_ret
    exact ⟨_, _, _, er, _, rfl, HX.out.1, HX.out.2.2, one_setCell HX.out.2.1, (Ch.refl _ _).setCell (by simp) _, KeptK.of_ch1 ((Ch.refl [bo] _).setCell (p := ⟨bo, 0, none⟩) (by simp) _) HX.out.2.1 (by simp [mutT])⟩

/-- What hook.Mutate leaves. -/
def MutLeft (w : World) (S : List Nat) (l2 : List V) (R : Value → Value → World → Prop) (e : Ending) (w' : World) : Prop :=
  ∃ lv er, R lv er w' ∧ Ch S w w' ∧ ((er = .nilIface ∧ ∃ a c b', e = .returned (.tuple #[.slice a l2.length c, .nilIface]) ∧ VRow w' b' 0 (.slice a l2.length c) l2 ∧ w.heap.size ≤ b') ∨
    ∃ fb, (∃ t v, er = .iface t v) ∧ e = .returned (.tuple #[.slice none 0 0, faultVal fb]) ∧ FaultAt w' fb ⟨#[]⟩ er .nilIface)

set_option maxRecDepth 100000 in
set_option maxHeartbeats 2000000 in
theorem hookMutate_any (fi : FuncId) (cap : Array Value) (b off : Nat) (sv : Value) (l l2 : List V) (w : World) (S : List Nat) (R : Value → Value → World → Prop)
    (hr : VRow w b off sv l) (hl : l.length * 40 ≤ 140737488355328) (hl2 : l2.length * 40 ≤ 140737488355328) (hS : ∀ x, x ∈ S → x < w.heap.size)
    (hR : ∀ lv er a b, R lv er a → KeptK mutT a b → R lv er b) (hER : ∀ lv er a, R lv er a → (er = .nilIface ∧ ∃ b2 o2, VRow a b2 o2 lv l2) ∨ ∃ t v, er = .iface t v)
    (hent : ∀ A W, (callFunc fi (A ++ cap)).run Tryd.prog W = .ok (.enter fi (A ++ cap)) W)
    (hu : ∀ sv' W1 W, Ch [] w W1 → CopiedOwn W1 W sv' l → Calls Tryd.prog fi (#[sv'] ++ cap) W fun e w' => ∃ a n c er, e = .returned (.tuple #[.slice a n c, er]) ∧ R (.slice a n c) er w' ∧ Ch S W w') :
    Calls Tryd.prog 24 #[.func (.func fi) #[] cap, sv] w (MutLeft w S l2 R) := by
  obtain ⟨e0, e1, e2, e3, e4⟩ := mut_facts fi cap sv w
  have r1 := runWorld_ch ⟨#[]⟩ (mutWorld fi cap sv w)
  have hn : ∀ k, w.heap.size ≤ k → k ∉ S := fun k hk h => by have := hS _ h; omega
  have HR := run_both ⟨#[]⟩ 61 #[.pointer (some ⟨w.heap.size, 0, none⟩), .pointer (some ⟨w.heap.size + 1, 0, none⟩), .pointer (some ⟨w.heap.size + 1 + 1, 0, none⟩)] (mutWorld fi cap sv w) ((w.heap.size + 1 + 1) :: S)
    (fun er x => ∃ a n c, R (.slice a n c) er x ∧ Ch S w x ∧ x.heap[w.heap.size + 1 + 1]? = some (.cells #[.slice a n c] 39 (0, 0))) (by
      intro x hx
      rw [List.mem_cons] at hx
      rcases hx with rfl | hx
      · omega
      · have := hS _ hx; omega) (fun _ => by kernel_rfl) (by
    refine (hookMutate1_any _ _ _ fi cap b off sv l _ S R _ (r1.heap e2 (by simp)) (r1.heap e3 (by simp)) (r1.heap e4 (by simp)) (hr.ch0 (e1.trans r1)) hl hent ?_ (hn _ (by omega))).mono ?_
    · intro sv' W1 W h1 h2
      exact hu sv' W1 W ((e1.trans r1).trans h1) h2
    · rintro e x ⟨a, n, c, er, w1, rfl, hr', hc1, hb, hc, hk⟩
      refine ⟨er, rfl, (hER _ _ _ hr').imp And.left id, ⟨a, n, c, hR _ _ _ _ hr' hk, ?_, hb⟩, ?_⟩
      · exact (((e1.trans r1).mono (S' := S) (by simp)).trans hc1).trans' hc (by intro y hy; right; simp at hy; omega)
      · exact (hc1.mono (S' := (w.heap.size + 1 + 1) :: S) (fun y hy => .inl (List.mem_cons_of_mem _ hy))).trans' hc (fun y hy => .inl (by simp at hy; simp [hy])))
  have HRR := Lib.hid HR
  have HX := Lib.hid (And.intro e0 (And.intro hR (And.intro hER hl2)))
  obtain ⟨a1, c1, rfl, _⟩ := hr.shape
  clear HR hu hS hl hl2 e0 e1 e2 e3 e4 r1 hn hr hR hER
  go_enter Tryd.func24, Tryd.ntmps24
  go_wp2_with (go_at_call 55; refine HRR.out.mono ?_)
  rintro e w2 ⟨er, w1, ⟨a, n, c, hr, hcw, hb⟩, hrun, hk, hc, hcase⟩
  have e0 := HX.out.1
  have hb2 := hc.heap hb (by simp <;> omega)
  have q0 := cell_of_one hb2
  have hcc : Ch S w w2 := hcw.trans' hc (by intro y hy; right; simp at hy; omega)
  have hr2 := HX.out.2.1 _ _ _ _ hr (hk.mono hookT_mutT)
  have HF := Lib.hid (And.intro hr2 hcc)
  have hrow := HX.out.2.2.1 _ _ _ hr2
  clear hr hcw hb hrun hk hc hb2 hcc hr2
  rcases hcase with ⟨rfl, rfl⟩ | ⟨fb, ⟨t, v, rfl⟩, rfl, hfb, hF⟩
  · rcases hrow with ⟨_, b2, o2, hrow⟩ | ⟨t, v, hx⟩
    · have HCp := Lib.hid (schemaCopy_any l2 b2 o2 _ w2 hrow HX.out.2.2.2)
      clear hrow
      go_wp2_with fail
      refine HCp.out.mono ?_
      rintro e w3 ⟨sv', rfl, hcp⟩
      obtain ⟨a3, c3, rfl⟩ := own_shape hcp.1
      obtain ⟨b3, hb3, hr3⟩ := VRow.of_own hcp.1
      have HL := Lib.hid (And.intro hr3 (And.intro hcp.2 hb3))
      clear hcp hr3 hb3
      go_wp2
      go_ret2
      exact ⟨_, _, HX.out.2.1 _ _ _ _ HF.out.1 (KeptK.of_ch HL.out.2.1 (by simp)), HF.out.2.trans (HL.out.2.1.mono (by simp)), .inl ⟨rfl, a3, c3, b3, rfl, HL.out.1, Nat.le_trans HF.out.2.size HL.out.2.2⟩⟩
    · cases hx
  · have HG := Lib.hid hF
    clear hF hfb q0 hrow
    unfold faultVal
    go_wp2
    go_ret2
    exact ⟨_, _, HF.out.1, HF.out.2, .inr ⟨fb, ⟨_, _, rfl⟩, rfl, HG.out⟩⟩
end Go.Proofs.YtiekahnpnaldjaaDoor
