/-
  HookCalls: the row, and the tied card.
-/
import Derived.Test.YtiekahnpnaldjaaDoorHc5
import Derived.Test.YtiekahnpnaldjaaDoorLaid
import Derived.Test.YtiekahnpnaldjaaDoorOpen4
import Derived.Test.YtiekahnpnaldjaaDoorCards
import Derived.Test.YtiekahnpnaldjaaDoorTie
import Derived.ProofKit
import Derived.OpenShut
import Derived.SevenTiedAt
import Derived.Carry
namespace Go.Proofs.YtiekahnpnaldjaaDoor
open Go.ChangeShapes Go.WideShapes Go.ChangeAt Go.RowKit

theorem hookCalls_laidOut : laidOutB Tryd.prog = true := by kernel_rfl
set_option maxRecDepth 100000 in
theorem hookCalls_lifted (os : Os) (started : os.Started) (H : Type) (enc : TypeId × Value → H) :
    ReturnsInHanded {} Tryd.checked os 8 .any (fun w args => (Rows.hookCallsSpec.pre enc Tryd.prog Tryd.f8 [] false w args ∧ laidMetH Tryd.prog laidList w) ∧ sizedMet enc Tryd.prog Tryd.f8 (OpenSpec.ofChange Rows.hookCallsSpec) false w args)
      (Rows.hookCallsSpec.post enc Tryd.prog Tryd.f8 false true false false) := by
  refine returnsInHanded_of_change_and (C := Tryd.checked) (X := fun w _ => laidMetH Tryd.prog laidList w) (fun _ _ _ hh h => h.of_heap hh) p_own started (by kernel_rfl) Tryd.func8
    (ChangeSpec.witness_at (enc := enc) (C := Tryd.checked) (os := os) (X := fun w _ => laidMetH Tryd.prog laidList w) false (laidWorld os #[]) #[.int .i64 0, .slice none 0 0, .slice none 0 0, .int .i64 0, .int .i64 0] 8 rfl (by kernel_rfl) (by kernel_rfl) (by kernel_rfl) (by kernel_rfl) (by kernel_rfl) (laidWorld_met os _)) ?_
  intro W base args ds gs before hval0 hW _ hsz hL _
  have hval : ∀ (j : Nat) t v, Tryd.f8.params[j]? = some t → args[j]? = some v → Value.okWide Tryd.prog W .any base t v := hval0
  have hW' := hW
  obtain ⟨p, q, hA0, hV0, rfl, hfz, hnd⟩ := hW
  have hA : DataW.TrodAll enc Tryd.prog W 0 (fun _ => true) true Tryd.f8.params.toList args.toList ds p := hA0
  have hV : DataW.TrodVars enc Tryd.prog W (fun _ => true) [] gs q := hV0
  rw [Tryd.params8] at hA hval
  obtain ⟨v0, vs0, d0, ds0, p0, q0, hargs, rfl, rfl, h0, r0⟩ := trodAll_cons hA
  obtain ⟨v1, vs1, d1, ds1, p1, q1, rfl, rfl, rfl, h1, r1⟩ := trodAll_cons r0
  obtain ⟨v2, vs2, d2, ds2, p2, q2, rfl, rfl, rfl, h2, r2⟩ := trodAll_cons r1
  obtain ⟨v3, vs3, d3, ds3, p3, q3, rfl, rfl, rfl, h3, r3⟩ := trodAll_cons r2
  obtain ⟨v4, vs4, d4, ds4, p4, q4, rfl, rfl, rfl, h4, r4⟩ := trodAll_cons r3
  obtain ⟨rfl, rfl, rfl⟩ := trodAll_nil r4
  obtain rfl : args = #[v0, v1, v2, v3, v4] := by cases args; simp_all
  obtain ⟨rfl, rfl⟩ : gs = [] ∧ q = [] := by
    cases gs with
    | nil => exact ⟨rfl, hV⟩
    | cons g r => exact absurd hV (by intro h; cases h)
  have hlt0 : ∀ x ∈ p0, x.block < W.heap.size := fun x hx => by simpa using hW'.lt x (by simp [hx])
  have hb0 := fun (W' : World) (hn : Below W.heap.size W W') => Below.trod hookCalls_laidOut (by kernel_rfl) (of_decide_eq_true (by kernel_rfl)) h0 hn hlt0
  have hlt1 : ∀ x ∈ p1, x.block < W.heap.size := fun x hx => by simpa using hW'.lt x (by simp [hx])
  have hb1 := fun (W' : World) (hn : Below W.heap.size W W') => Below.trod hookCalls_laidOut (by kernel_rfl) (of_decide_eq_true (by kernel_rfl)) h1 hn hlt1
  have hlt2 : ∀ x ∈ p2, x.block < W.heap.size := fun x hx => by simpa using hW'.lt x (by simp [hx])
  have hb2 := fun (W' : World) (hn : Below W.heap.size W W') => Below.trod hookCalls_laidOut (by kernel_rfl) (of_decide_eq_true (by kernel_rfl)) h2 hn hlt2
  have hlt3 : ∀ x ∈ p3, x.block < W.heap.size := fun x hx => by simpa using hW'.lt x (by simp [hx])
  have hb3 := fun (W' : World) (hn : Below W.heap.size W W') => Below.trod hookCalls_laidOut (by kernel_rfl) (of_decide_eq_true (by kernel_rfl)) h3 hn hlt3
  have hlt4 : ∀ x ∈ p4, x.block < W.heap.size := fun x hx => by simpa using hW'.lt x (by simp [hx])
  have hb4 := fun (W' : World) (hn : Below W.heap.size W W') => Below.trod hookCalls_laidOut (by kernel_rfl) (of_decide_eq_true (by kernel_rfl)) h4 hn hlt4
  obtain ⟨a0, rfl, _, _, w0⟩ := open_int Tryd.underlying3 (hval 0 3 v0 rfl rfl) h0
  obtain ⟨l0, u0⟩ := bounds_i64 w0
  obtain ⟨a1, b1, c1, hr1, o1, l1⟩ := open_row (hval 1 39 v1 rfl rfl) h1
  obtain ⟨a2, b2, c2, hr2, o2, l2⟩ := open_row (hval 2 39 v2 rfl rfl) h2
  obtain ⟨a3, rfl, _, _, w3⟩ := open_int Tryd.underlying3 (hval 3 3 v3 rfl rfl) h3
  obtain ⟨l3, u3⟩ := bounds_i64 w3
  obtain ⟨a4, rfl, _, _, w4⟩ := open_int Tryd.underlying3 (hval 4 3 v4 rfl rfl) h4
  obtain ⟨l4, u4⟩ := bounds_i64 w4
  have hg := glob_of_laid hL
  refine (hookCalls_any a0 a1 a2 b1 c1 b2 c2 v1 v2 a3 a4 W u0 hr1 hr2 o1 o2 l1 l2 hg).mono fun e W' ⟨he, hc⟩ => ?_
  subst he
  have hb := hc.below
  refine ⟨_, rfl, _, _, _, [], (p0 ++ (p1 ++ (p2 ++ (p3 ++ (p4 ++ []))))), [], hW', ?_, ?_, ?_, hb.frame _, fun h => by cases h⟩
  · exact trodAll_cons_mk (shut_bool Tryd.underlying4 _) trodAll_mk0
  · exact trodAll_cons_mk (hb0 _ hb) (trodAll_cons_mk (hb1 _ hb) (trodAll_cons_mk (hb2 _ hb) (trodAll_cons_mk (hb3 _ hb) (trodAll_cons_mk (hb4 _ hb) trodAll_mk0))))
  · rfl

theorem hookCalls_said : Rows.HookCallsSaid :=
  OpenClaim.holds_of_wide 8 Tryd.f8 rfl rfl rfl rfl rfl rfl rfl ⟨rfl, rfl, rfl, rfl, rfl⟩ rfl rfl rfl rfl rfl (by kernel_rfl) Tryd.func8 (by kernel_rfl)
    (of_decide_eq_true (by kernel_rfl)) (by unfold Func.isWrapper; rw [if_neg (of_decide_eq_false (by kernel_rfl))]; exact ⟨rfl, rfl⟩)
    (fun os started H enc _ => hookCalls_lifted os started H enc)

theorem hookCalls_card : Rows.HookCallsCardSaid :=
  Claim7.holds_tied_plain_at .later [] [.handle] true (true, "bed327c80338be12ae6612f418eee0d72b194a48061c325e7af84dc8a6b2de6f") true
    hookCalls_said (fun _ h => by cases h) (by kernel_rfl) (fun _ h => by cases h) hookCalls_row_tie rfl ⟨rfl, rfl⟩ (by kernel_rfl) rfl
    (fun f fn hf hfn => by
      obtain rfl : f = 8 := Option.some.inj ((show Tryd.prog.funcNamed "rialto/rialtolaw6.HookCalls" = some 8 by kernel_rfl).symm.trans hf) |>.symm
      obtain rfl : fn = Tryd.f8 := (Option.some.inj (Tryd.func8.symm.trans hfn)).symm
      exact ⟨by kernel_rfl, fun j t ht => by
        rw [Tryd.params8] at ht
        have h3 : t ∈ [3, 39, 39, 3, 3] := by
          have := Array.mem_of_getElem? ht
          simpa using this
        simp only [List.mem_cons, List.not_mem_nil, or_false] at h3
        rcases h3 with rfl | rfl | rfl | rfl | rfl
        · exact (show Tryd.prog.wantsStandIn 3 = false by kernel_rfl)
        · exact (show Tryd.prog.wantsStandIn 39 = false by kernel_rfl)
        · exact (show Tryd.prog.wantsStandIn 39 = false by kernel_rfl)
        · exact (show Tryd.prog.wantsStandIn 3 = false by kernel_rfl)
        · exact (show Tryd.prog.wantsStandIn 3 = false by kernel_rfl)⟩)
    (by kernel_rfl)
#print axioms hookCalls_card
end Go.Proofs.YtiekahnpnaldjaaDoor
