/-
  HookValues: the row, and the tied card.
-/
import Derived.Test.YtiekahnpnaldjaaDoorHook5
import Derived.Test.YtiekahnpnaldjaaDoorLaid
import Derived.Test.YtiekahnpnaldjaaDoorOpen
import Derived.Test.YtiekahnpnaldjaaDoorCards
import Derived.Test.YtiekahnpnaldjaaDoorTie
import Derived.ProofKit
import Derived.OpenShut
import Derived.SevenTiedAt
import Derived.Carry
namespace Go.Proofs.YtiekahnpnaldjaaDoor
open Go.ChangeShapes Go.WideShapes Go.ChangeAt Go.RowKit

theorem hookValues_laidOut : laidOutB Tryd.prog = true := by kernel_rfl
set_option maxRecDepth 100000 in
theorem hookValues_lifted (os : Os) (started : os.Started) (H : Type) (enc : TypeId × Value → H) :
    ReturnsInHanded {} Tryd.checked os 4 .any (fun w args => (Rows.hookValuesSpec.pre enc Tryd.prog Tryd.f4 [] false w args ∧ laidMetH Tryd.prog laidList w) ∧ sizedMet enc Tryd.prog Tryd.f4 (OpenSpec.ofChange Rows.hookValuesSpec) false w args)
      (Rows.hookValuesSpec.post enc Tryd.prog Tryd.f4 false true false false) := by
  refine returnsInHanded_of_change_and (C := Tryd.checked) (X := fun w _ => laidMetH Tryd.prog laidList w) (fun _ _ _ hh h => h.of_heap hh) p_own started (by kernel_rfl) Tryd.func4
    (ChangeSpec.witness_at (enc := enc) (C := Tryd.checked) (os := os) (X := fun w _ => laidMetH Tryd.prog laidList w) false (laidWorld os #[]) #[.agg #[.int .i64 0, .int .i64 0, .string ⟨#[]⟩, .float .f64 0], .slice none 0 0] 8 rfl (by kernel_rfl) (by kernel_rfl) (by kernel_rfl) (by kernel_rfl) (by kernel_rfl) (laidWorld_met os _)) ?_
  intro W base args ds gs before hval0 hW _ hsz hL _
  have hval : ∀ (j : Nat) t v, Tryd.f4.params[j]? = some t → args[j]? = some v → Value.okWide Tryd.prog W .any base t v := hval0
  have hW' := hW
  obtain ⟨p, q, hA0, hV0, rfl, hfz, hnd⟩ := hW
  have hA : DataW.TrodAll enc Tryd.prog W 0 (fun _ => true) true Tryd.f4.params.toList args.toList ds p := hA0
  have hV : DataW.TrodVars enc Tryd.prog W (fun _ => true) [] gs q := hV0
  rw [Tryd.params4] at hA hval
  obtain ⟨v0, vs0, d0, ds0, p0, q0, hargs, rfl, rfl, h0, r0⟩ := trodAll_cons hA
  obtain ⟨v1, vs1, d1, ds1, p1, q1, rfl, rfl, rfl, h1, r1⟩ := trodAll_cons r0
  obtain ⟨rfl, rfl, rfl⟩ := trodAll_nil r1
  obtain rfl : args = #[v0, v1] := by cases args; simp_all
  obtain ⟨rfl, rfl⟩ : gs = [] ∧ q = [] := by
    cases gs with
    | nil => exact ⟨rfl, hV⟩
    | cons g r => exact absurd hV (by intro h; cases h)
  have hlt0 : ∀ x ∈ p0, x.block < W.heap.size := fun x hx => by simpa using hW'.lt x (by simp [hx])
  have hb0 := fun (W' : World) (hn : Below W.heap.size W W') => Below.trod hookValues_laidOut (by kernel_rfl) (of_decide_eq_true (by kernel_rfl)) h0 hn hlt0
  have hlt1 : ∀ x ∈ p1, x.block < W.heap.size := fun x hx => by simpa using hW'.lt x (by simp [hx])
  have hb1 := fun (W' : World) (hn : Below W.heap.size W W') => Below.trod hookValues_laidOut (by kernel_rfl) (of_decide_eq_true (by kernel_rfl)) h1 hn hlt1
  obtain ⟨a0, o0, rfl⟩ := open_arg (hval 0 38 v0 rfl rfl) h0
  obtain ⟨a1, b1, c1, hr1, o1, l1⟩ := open_row (hval 1 39 v1 rfl rfl) h1
  have hg := glob_of_laid hL
  refine (hookValues_any a0 a1 b1 c1 v1 W o0 o1 hr1 l1 hg).mono fun e W' ⟨he, hc⟩ => ?_
  subst he
  have hb := hc.below
  refine ⟨_, rfl, _, _, _, [], (p0 ++ (p1 ++ [])), [], hW', ?_, ?_, ?_, hb.frame _, fun h => by cases h⟩
  · exact trodAll_cons_mk (shut_bool Tryd.underlying4 _) trodAll_mk0
  · exact trodAll_cons_mk (hb0 _ hb) (trodAll_cons_mk (hb1 _ hb) trodAll_mk0)
  · rfl

theorem hookValues_said : Rows.HookValuesSaid :=
  OpenClaim.holds_of_wide 4 Tryd.f4 rfl rfl rfl rfl rfl rfl rfl ⟨rfl, rfl, rfl, rfl, rfl⟩ rfl rfl rfl rfl rfl (by kernel_rfl) Tryd.func4 (by kernel_rfl)
    (of_decide_eq_true (by kernel_rfl)) (by unfold Func.isWrapper; rw [if_neg (of_decide_eq_false (by kernel_rfl))]; exact ⟨rfl, rfl⟩)
    (fun os started H enc _ => hookValues_lifted os started H enc)

theorem hookValues_card : Rows.HookValuesCardSaid :=
  Claim7.holds_tied_plain_at .later [] [.handle] true (true, "bed327c80338be12ae6612f418eee0d72b194a48061c325e7af84dc8a6b2de6f") true
    hookValues_said (fun _ h => by cases h) (by kernel_rfl) (fun _ h => by cases h) hookValues_row_tie rfl ⟨rfl, rfl⟩ (by kernel_rfl) rfl
    (fun f fn hf hfn => by
      obtain rfl : f = 4 := Option.some.inj ((show Tryd.prog.funcNamed "rialto/rialtolaw6.HookValues" = some 4 by kernel_rfl).symm.trans hf) |>.symm
      obtain rfl : fn = Tryd.f4 := (Option.some.inj (Tryd.func4.symm.trans hfn)).symm
      exact ⟨by kernel_rfl, fun j t ht => by
        rw [Tryd.params4] at ht
        have h3 : t ∈ [38, 39] := by
          have := Array.mem_of_getElem? ht
          simpa using this
        simp only [List.mem_cons, List.not_mem_nil, or_false] at h3
        rcases h3 with rfl | rfl
        · exact (show Tryd.prog.wantsStandIn 38 = false by kernel_rfl)
        · exact (show Tryd.prog.wantsStandIn 39 = false by kernel_rfl)⟩)
    (by kernel_rfl)
#print axioms hookValues_card
end Go.Proofs.YtiekahnpnaldjaaDoor
