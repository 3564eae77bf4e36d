/-
  KeyOrder: the row, and the tied card.
-/
import Derived.Test.YtiekahnpnaldjaaDoorKeyOrd
import Derived.Test.YtiekahnpnaldjaaDoorLaid
import Derived.Test.YtiekahnpnaldjaaDoorOpen2
import Derived.Test.YtiekahnpnaldjaaDoorCards
import Derived.Test.YtiekahnpnaldjaaDoorTie
import Derived.ProofKit
import Derived.OpenShut
import Derived.SevenTiedAt
import Derived.Carry
namespace Go.Proofs.YtiekahnpnaldjaaDoor
open Go.ChangeShapes Go.WideShapes Go.ChangeAt Go.RowKit

theorem keyOrder_laidOut : laidOutB Tryd.prog = true := by kernel_rfl
set_option maxRecDepth 100000 in
theorem keyOrder_lifted (os : Os) (started : os.Started) (H : Type) (enc : TypeId × Value → H) :
    ReturnsInHanded {} Tryd.checked os 7 .any (fun w args => (Rows.keyOrderSpec.pre enc Tryd.prog Tryd.f7 [] false w args ∧ laidMetH Tryd.prog laidList w) ∧ sizedMet enc Tryd.prog Tryd.f7 (OpenSpec.ofChange Rows.keyOrderSpec) false w args)
      (Rows.keyOrderSpec.post enc Tryd.prog Tryd.f7 false true false false) := by
  refine returnsInHanded_of_change_and (C := Tryd.checked) (X := fun w _ => laidMetH Tryd.prog laidList w) (fun _ _ _ hh h => h.of_heap hh) p_own started (by kernel_rfl) Tryd.func7
    (ChangeSpec.witness_at (enc := enc) (C := Tryd.checked) (os := os) (X := fun w _ => laidMetH Tryd.prog laidList w) false (laidWorld os #[]) #[.agg #[.slice none 0 0, .int .i64 0], .agg #[.slice none 0 0, .int .i64 0], .agg #[.slice none 0 0, .int .i64 0]] 8 rfl (by kernel_rfl) (by kernel_rfl) (by kernel_rfl) (by kernel_rfl) (by kernel_rfl) (laidWorld_met os _)) ?_
  intro W base args ds gs before hval0 hW _ hsz hL _
  have hval : ∀ (j : Nat) t v, Tryd.f7.params[j]? = some t → args[j]? = some v → Value.okWide Tryd.prog W .any base t v := hval0
  have hW' := hW
  obtain ⟨p, q, hA0, hV0, rfl, hfz, hnd⟩ := hW
  have hA : DataW.TrodAll enc Tryd.prog W 0 (fun _ => true) true Tryd.f7.params.toList args.toList ds p := hA0
  have hV : DataW.TrodVars enc Tryd.prog W (fun _ => true) [] gs q := hV0
  rw [Tryd.params7] at hA hval
  obtain ⟨v0, vs0, d0, ds0, p0, q0, hargs, rfl, rfl, h0, r0⟩ := trodAll_cons hA
  obtain ⟨v1, vs1, d1, ds1, p1, q1, rfl, rfl, rfl, h1, r1⟩ := trodAll_cons r0
  obtain ⟨v2, vs2, d2, ds2, p2, q2, rfl, rfl, rfl, h2, r2⟩ := trodAll_cons r1
  obtain ⟨rfl, rfl, rfl⟩ := trodAll_nil r2
  obtain rfl : args = #[v0, v1, v2] := by cases args; simp_all
  obtain ⟨rfl, rfl⟩ : gs = [] ∧ q = [] := by
    cases gs with
    | nil => exact ⟨rfl, hV⟩
    | cons g r => exact absurd hV (by intro h; cases h)
  have hlt0 : ∀ x ∈ p0, x.block < W.heap.size := fun x hx => by simpa using hW'.lt x (by simp [hx])
  have hb0 := fun (W' : World) (hn : Below W.heap.size W W') => Below.trod keyOrder_laidOut (by kernel_rfl) (of_decide_eq_true (by kernel_rfl)) h0 hn hlt0
  have hlt1 : ∀ x ∈ p1, x.block < W.heap.size := fun x hx => by simpa using hW'.lt x (by simp [hx])
  have hb1 := fun (W' : World) (hn : Below W.heap.size W W') => Below.trod keyOrder_laidOut (by kernel_rfl) (of_decide_eq_true (by kernel_rfl)) h1 hn hlt1
  have hlt2 : ∀ x ∈ p2, x.block < W.heap.size := fun x hx => by simpa using hW'.lt x (by simp [hx])
  have hb2 := fun (W' : World) (hn : Below W.heap.size W W') => Below.trod keyOrder_laidOut (by kernel_rfl) (of_decide_eq_true (by kernel_rfl)) h2 hn hlt2
  obtain ⟨s0, i0, a0, b0, c0, rfl, hr0, o0, l0⟩ := open_ent (hval 0 74 v0 rfl rfl) h0
  obtain ⟨s1, i1, a1, b1, c1, rfl, hr1, o1, l1⟩ := open_ent (hval 1 74 v1 rfl rfl) h1
  obtain ⟨s2, i2, a2, b2, c2, rfl, hr2, o2, l2⟩ := open_ent (hval 2 74 v2 rfl rfl) h2
  have hg := glob_of_laid hL
  refine (keyOrder_any a0 a1 a2 b0 c0 b1 c1 b2 c2 s0 s1 s2 i0 i1 i2 W hr0 hr1 hr2 o0 o1 o2 l0 l1 l2 hg).mono fun e W' ⟨he, hc⟩ => ?_
  subst he
  have hb := hc.below
  refine ⟨_, rfl, _, _, _, [], (p0 ++ (p1 ++ (p2 ++ []))), [], hW', ?_, ?_, ?_, hb.frame _, fun h => by cases h⟩
  · exact trodAll_cons_mk (shut_bool Tryd.underlying4 _) trodAll_mk0
  · exact trodAll_cons_mk (hb0 _ hb) (trodAll_cons_mk (hb1 _ hb) (trodAll_cons_mk (hb2 _ hb) trodAll_mk0))
  · rfl

theorem keyOrder_said : Rows.KeyOrderSaid :=
  OpenClaim.holds_of_wide 7 Tryd.f7 rfl rfl rfl rfl rfl rfl rfl ⟨rfl, rfl, rfl, rfl, rfl⟩ rfl rfl rfl rfl rfl (by kernel_rfl) Tryd.func7 (by kernel_rfl)
    (of_decide_eq_true (by kernel_rfl)) (by unfold Func.isWrapper; rw [if_neg (of_decide_eq_false (by kernel_rfl))]; exact ⟨rfl, rfl⟩)
    (fun os started H enc _ => keyOrder_lifted os started H enc)

theorem keyOrder_card : Rows.KeyOrderCardSaid :=
  Claim7.holds_tied_plain_at .later [] [.handle] true (true, "bed327c80338be12ae6612f418eee0d72b194a48061c325e7af84dc8a6b2de6f") true
    keyOrder_said (fun _ h => by cases h) (by kernel_rfl) (fun _ h => by cases h) keyOrder_row_tie rfl ⟨rfl, rfl⟩ (by kernel_rfl) rfl
    (fun f fn hf hfn => by
      obtain rfl : f = 7 := Option.some.inj ((show Tryd.prog.funcNamed "rialto/rialtolaw7.KeyOrder" = some 7 by kernel_rfl).symm.trans hf) |>.symm
      obtain rfl : fn = Tryd.f7 := (Option.some.inj (Tryd.func7.symm.trans hfn)).symm
      exact ⟨by kernel_rfl, fun j t ht => by
        rw [Tryd.params7] at ht
        have h3 : t ∈ [74, 74, 74] := by
          have := Array.mem_of_getElem? ht
          simpa using this
        simp only [List.mem_cons, List.not_mem_nil, or_false] at h3
        rcases h3 with rfl | rfl | rfl
        · exact (show Tryd.prog.wantsStandIn 74 = false by kernel_rfl)
        · exact (show Tryd.prog.wantsStandIn 74 = false by kernel_rfl)
        · exact (show Tryd.prog.wantsStandIn 74 = false by kernel_rfl)⟩)
    (by kernel_rfl)
#print axioms keyOrder_card
end Go.Proofs.YtiekahnpnaldjaaDoor
