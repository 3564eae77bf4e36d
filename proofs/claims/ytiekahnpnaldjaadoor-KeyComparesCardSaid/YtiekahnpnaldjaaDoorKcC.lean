/-
  KeyCompares: the row, and the tied card.
-/
import Derived.Test.YtiekahnpnaldjaaDoorKc5
import Derived.Test.YtiekahnpnaldjaaDoorLaid
import Derived.Test.YtiekahnpnaldjaaDoorOpen4
import Derived.Test.YtiekahnpnaldjaaDoorCards
import Derived.Test.YtiekahnpnaldjaaDoorTie
import Derived.ProofKit
import Derived.OpenShut
import Derived.SevenTiedAt
import Derived.Carry
namespace Go.Proofs.YtiekahnpnaldjaaDoor
open Go.ChangeShapes Go.WideShapes Go.ChangeAt Go.RowKit

theorem keyCompares_laidOut : laidOutB Tryd.prog = true := by kernel_rfl
set_option maxRecDepth 100000 in
theorem keyCompares_lifted (os : Os) (started : os.Started) (H : Type) (enc : TypeId × Value → H) :
    ReturnsInHanded {} Tryd.checked os 9 .any (fun w args => (Rows.keyComparesSpec.pre enc Tryd.prog Tryd.f9 [] false w args ∧ laidMetH Tryd.prog laidList w) ∧ sizedMet enc Tryd.prog Tryd.f9 (OpenSpec.ofChange Rows.keyComparesSpec) false w args)
      (Rows.keyComparesSpec.post enc Tryd.prog Tryd.f9 false true false false) := by
  refine returnsInHanded_of_change_and (C := Tryd.checked) (X := fun w _ => laidMetH Tryd.prog laidList w) (fun _ _ _ hh h => h.of_heap hh) p_own started (by kernel_rfl) Tryd.func9
    (ChangeSpec.witness_at (enc := enc) (C := Tryd.checked) (os := os) (X := fun w _ => laidMetH Tryd.prog laidList w) false (laidWorld os #[]) #[.agg #[.string ⟨#[]⟩, .int .i64 0, .slice none 0 0, .int .i64 0], .slice none 0 0, .slice none 0 0, .int .i64 0, .int .i64 0, .int .i64 0, .int .i64 0] 8 rfl (by kernel_rfl) (by kernel_rfl) (by kernel_rfl) (by kernel_rfl) (by kernel_rfl) (laidWorld_met os _)) ?_
  intro W base args ds gs before hval0 hW _ hsz hL _
  have hval : ∀ (j : Nat) t v, Tryd.f9.params[j]? = some t → args[j]? = some v → Value.okWide Tryd.prog W .any base t v := hval0
  have hW' := hW
  obtain ⟨p, q, hA0, hV0, rfl, hfz, hnd⟩ := hW
  have hA : DataW.TrodAll enc Tryd.prog W 0 (fun _ => true) true Tryd.f9.params.toList args.toList ds p := hA0
  have hV : DataW.TrodVars enc Tryd.prog W (fun _ => true) [] gs q := hV0
  rw [Tryd.params9] at hA hval
  obtain ⟨v0, vs0, d0, ds0, p0, q0, hargs, rfl, rfl, h0, r0⟩ := trodAll_cons hA
  obtain ⟨v1, vs1, d1, ds1, p1, q1, rfl, rfl, rfl, h1, r1⟩ := trodAll_cons r0
  obtain ⟨v2, vs2, d2, ds2, p2, q2, rfl, rfl, rfl, h2, r2⟩ := trodAll_cons r1
  obtain ⟨v3, vs3, d3, ds3, p3, q3, rfl, rfl, rfl, h3, r3⟩ := trodAll_cons r2
  obtain ⟨v4, vs4, d4, ds4, p4, q4, rfl, rfl, rfl, h4, r4⟩ := trodAll_cons r3
  obtain ⟨v5, vs5, d5, ds5, p5, q5, rfl, rfl, rfl, h5, r5⟩ := trodAll_cons r4
  obtain ⟨v6, vs6, d6, ds6, p6, q6, rfl, rfl, rfl, h6, r6⟩ := trodAll_cons r5
  obtain ⟨rfl, rfl, rfl⟩ := trodAll_nil r6
  obtain rfl : args = #[v0, v1, v2, v3, v4, v5, v6] := by cases args; simp_all
  obtain ⟨rfl, rfl⟩ : gs = [] ∧ q = [] := by
    cases gs with
    | nil => exact ⟨rfl, hV⟩
    | cons g r => exact absurd hV (by intro h; cases h)
  have hlt0 : ∀ x ∈ p0, x.block < W.heap.size := fun x hx => by simpa using hW'.lt x (by simp [hx])
  have hb0 := fun (W' : World) (hn : Below W.heap.size W W') => Below.trod keyCompares_laidOut (by kernel_rfl) (of_decide_eq_true (by kernel_rfl)) h0 hn hlt0
  have hlt1 : ∀ x ∈ p1, x.block < W.heap.size := fun x hx => by simpa using hW'.lt x (by simp [hx])
  have hb1 := fun (W' : World) (hn : Below W.heap.size W W') => Below.trod keyCompares_laidOut (by kernel_rfl) (of_decide_eq_true (by kernel_rfl)) h1 hn hlt1
  have hlt2 : ∀ x ∈ p2, x.block < W.heap.size := fun x hx => by simpa using hW'.lt x (by simp [hx])
  have hb2 := fun (W' : World) (hn : Below W.heap.size W W') => Below.trod keyCompares_laidOut (by kernel_rfl) (of_decide_eq_true (by kernel_rfl)) h2 hn hlt2
  have hlt3 : ∀ x ∈ p3, x.block < W.heap.size := fun x hx => by simpa using hW'.lt x (by simp [hx])
  have hb3 := fun (W' : World) (hn : Below W.heap.size W W') => Below.trod keyCompares_laidOut (by kernel_rfl) (of_decide_eq_true (by kernel_rfl)) h3 hn hlt3
  have hlt4 : ∀ x ∈ p4, x.block < W.heap.size := fun x hx => by simpa using hW'.lt x (by simp [hx])
  have hb4 := fun (W' : World) (hn : Below W.heap.size W W') => Below.trod keyCompares_laidOut (by kernel_rfl) (of_decide_eq_true (by kernel_rfl)) h4 hn hlt4
  have hlt5 : ∀ x ∈ p5, x.block < W.heap.size := fun x hx => by simpa using hW'.lt x (by simp [hx])
  have hb5 := fun (W' : World) (hn : Below W.heap.size W W') => Below.trod keyCompares_laidOut (by kernel_rfl) (of_decide_eq_true (by kernel_rfl)) h5 hn hlt5
  have hlt6 : ∀ x ∈ p6, x.block < W.heap.size := fun x hx => by simpa using hW'.lt x (by simp [hx])
  have hb6 := fun (W' : World) (hn : Below W.heap.size W W') => Below.trod keyCompares_laidOut (by kernel_rfl) (of_decide_eq_true (by kernel_rfl)) h6 hn hlt6
  obtain ⟨nm0, kd0, cm0, ps0, b0, c0, a0, e0, rfl, x0, y0, z0, hp0, m0, l0⟩ := open_def (hval 0 53 v0 rfl rfl) h0
  have q1 := open_cap h1
  obtain ⟨a1, b1, c1, hr1, o1, l1⟩ := open_row (hval 1 39 v1 rfl rfl) h1
  have q2 := open_cap h2
  obtain ⟨a2, b2, c2, hr2, o2, l2⟩ := open_row (hval 2 39 v2 rfl rfl) h2
  obtain ⟨a3, rfl, _, _, w3⟩ := open_int Tryd.underlying2 (hval 3 2 v3 rfl rfl) h3
  obtain ⟨l3, u3⟩ := bounds_i64 w3
  obtain ⟨a4, rfl, _, _, w4⟩ := open_int Tryd.underlying2 (hval 4 2 v4 rfl rfl) h4
  obtain ⟨l4, u4⟩ := bounds_i64 w4
  obtain ⟨a5, rfl, _, _, w5⟩ := open_int Tryd.underlying3 (hval 5 3 v5 rfl rfl) h5
  obtain ⟨l5, u5⟩ := bounds_i64 w5
  obtain ⟨a6, rfl, _, _, w6⟩ := open_int Tryd.underlying3 (hval 6 3 v6 rfl rfl) h6
  obtain ⟨l6, u6⟩ := bounds_i64 w6
  have hg := glob_of_laid hL
  refine (keyCompares_any nm0 kd0 cm0 (.slice a0 ps0.length e0) a0 ps0.length e0 a1 a2 b1 c1 b2 c2 v1 v2 a3 a4 a5 a6 W rfl x0 y0 l0 hr1 hr2 o1 o2 l1 l2 q1 q2 hg).mono fun e W' ⟨he, hc⟩ => ?_
  subst he
  have hb := hc.below
  refine ⟨_, rfl, _, _, _, [], (p0 ++ (p1 ++ (p2 ++ (p3 ++ (p4 ++ (p5 ++ (p6 ++ []))))))), [], hW', ?_, ?_, ?_, hb.frame _, fun h => by cases h⟩
  · exact trodAll_cons_mk (shut_bool Tryd.underlying4 _) trodAll_mk0
  · exact trodAll_cons_mk (hb0 _ hb) (trodAll_cons_mk (hb1 _ hb) (trodAll_cons_mk (hb2 _ hb) (trodAll_cons_mk (hb3 _ hb) (trodAll_cons_mk (hb4 _ hb) (trodAll_cons_mk (hb5 _ hb) (trodAll_cons_mk (hb6 _ hb) trodAll_mk0))))))
  · rfl

theorem keyCompares_said : Rows.KeyComparesSaid :=
  OpenClaim.holds_of_wide 9 Tryd.f9 rfl rfl rfl rfl rfl rfl rfl ⟨rfl, rfl, rfl, rfl, rfl⟩ rfl rfl rfl rfl rfl (by kernel_rfl) Tryd.func9 (by kernel_rfl)
    (of_decide_eq_true (by kernel_rfl)) (by unfold Func.isWrapper; rw [if_neg (of_decide_eq_false (by kernel_rfl))]; exact ⟨rfl, rfl⟩)
    (fun os started H enc _ => keyCompares_lifted os started H enc)

theorem keyCompares_card : Rows.KeyComparesCardSaid :=
  Claim7.holds_tied_plain_at .later [] [.handle] true (true, "bed327c80338be12ae6612f418eee0d72b194a48061c325e7af84dc8a6b2de6f") true
    keyCompares_said (fun _ h => by cases h) (by kernel_rfl) (fun _ h => by cases h) keyCompares_row_tie rfl ⟨rfl, rfl⟩ (by kernel_rfl) rfl
    (fun f fn hf hfn => by
      obtain rfl : f = 9 := Option.some.inj ((show Tryd.prog.funcNamed "rialto/rialtolaw7.KeyCompares" = some 9 by kernel_rfl).symm.trans hf) |>.symm
      obtain rfl : fn = Tryd.f9 := (Option.some.inj (Tryd.func9.symm.trans hfn)).symm
      exact ⟨by kernel_rfl, fun j t ht => by
        rw [Tryd.params9] at ht
        have h3 : t ∈ [53, 39, 39, 2, 2, 3, 3] := by
          have := Array.mem_of_getElem? ht
          simpa using this
        simp only [List.mem_cons, List.not_mem_nil, or_false] at h3
        rcases h3 with rfl | rfl | rfl | rfl | rfl | rfl | rfl
        · exact (show Tryd.prog.wantsStandIn 53 = false by kernel_rfl)
        · exact (show Tryd.prog.wantsStandIn 39 = false by kernel_rfl)
        · exact (show Tryd.prog.wantsStandIn 39 = false by kernel_rfl)
        · exact (show Tryd.prog.wantsStandIn 2 = false by kernel_rfl)
        · exact (show Tryd.prog.wantsStandIn 2 = false by kernel_rfl)
        · exact (show Tryd.prog.wantsStandIn 3 = false by kernel_rfl)
        · exact (show Tryd.prog.wantsStandIn 3 = false by kernel_rfl)⟩)
    (by kernel_rfl)
#print axioms keyCompares_card
end Go.Proofs.YtiekahnpnaldjaaDoor
