/-
  rialtolaw7.known (under way).
-/
import Derived.Test.YtiekahnpnaldjaaDoorKey2
import Derived.Test.YtiekahnpnaldjaaDoorCmp4
namespace Go.Proofs.YtiekahnpnaldjaaDoor
open Go.RowKit

set_option maxRecDepth 100000 in
/-- A piece of user code without a meter, as hook.Extract calls it. -/
theorem extract_nilMeter (nm : ByteArray) (n : Int) (mb nb : Nat) (l : List V) (b off : Nat) (sv : Value) (w : World) (hr : VRow w b off sv l) (ol : OkL l) (hl : l.length ≤ 1000) (hm : w.heap[mb]? = some (.cells #[.pointer none] 55 (0, 0))) (hn : w.heap[nb]? = some (.cells #[.int .i64 n] 3 (0, 0)))
    (hv : (extV n l).Ok) (hi : isV (extV n l) = true) :
    Calls Tryd.prog 21 #[.string nm, codeFn 90 mb nb, sv] w fun e w' => e = .returned (.tuple #[.agg (V.arr (extV n l)), .nilIface]) ∧ Ch [] w w' := by
  refine (extract_ok nm 90 #[.pointer (some ⟨mb, 0, none⟩), .pointer (some ⟨nb, 0, none⟩)] b off sv l w [] (fun _ => True) (extV n l) hr (by omega) (by simp) (lasts_true w) (fun _ _ => by kernel_rfl) ?_ hv hi).mono fun e w' h => ⟨h.1, h.2.2⟩
  intro sv' W0 W hc hcp
  have hcc := hc.trans hcp.2
  exact (code_go n (.pointer none) mb nb l sv' W0 W [] (fun _ => True) ⟨none, rfl⟩ hcp (hcc.heap hm (by simp)) (hcc.heap hn (by simp)) (by simp) (by simp) (fun W' _ => (tick_nil W').mono fun _ _ h => ⟨h.1, trivial, h.2 ▸ Ch.refl _ _⟩) (lasts_true W0) ol (by omega)).mono fun _ _ h => ⟨h.1, trivial, h.2.2⟩

/-- The cells of a row of pieces. -/
theorem Hooked.at {w : World} {D : Nat} {f : FuncId} {T : TypeId} {m : Value} {k : Nat} {hx : Value} (h : Hooked w D f T m k hx) (hk : 0 < k) :
    ∃ g c, hx = .slice (some ⟨g, 0, none⟩) k c ∧ D ≤ g ∧ ∀ i, i < k → ∃ fv, w.cell? ⟨g, i, none⟩ = some fv ∧ CodeAt w D f m i fv := by
  obtain ⟨fs, ho, hc⟩ := h
  have hl := ho.1
  rcases ho.2 with ⟨_, h0⟩ | ⟨g, cap, cur, rfl, hg, hh, hn, _, hs, ht⟩
  · omega
  · refine ⟨g, cap, rfl, hg, fun i hi => ?_⟩
    have hf : fs[i]? = some fs[i] := List.getElem?_eq_getElem (by omega)
    refine ⟨fs[i], ?_, hc i _ hf⟩
    rw [cell_of hh]
    have h2 : cur.toList[i]? = fs[i]? := by
      rw [← ht, List.getElem?_take, if_pos (by omega)]
    rw [hf] at h2
    simpa using h2

theorem ext0_known : extV 0 [numV 5, numV 6] = numV 11 := by
  have e : wrap64 (IntKind.u64.wrap (IntKind.u64.wrap (wrap64 (IntKind.u64.wrap (IntKind.u64.wrap 0 + IntKind.u64.wrap 5))) + IntKind.u64.wrap 6)) = 11 := by kernel_rfl
  simp [extV, looked, ES.step, ES.zero, e]
theorem numV_ok (n : Int) (h0 : -9223372036854775808 ≤ n) (h1 : n ≤ 9223372036854775807) : (numV n).Ok := ⟨by simp, by simp, h0, h1, by simp, Nat.zero_le _⟩

theorem isV_11 : isV (numV 11) = true := by
  simp [isV, ordF]
set_option maxRecDepth 100000 in
theorem known_key1 (D pb rb : Nat) (hx : Value) (xa : Option Addr) (xn xc : Nat) (w : World) (hp : PartsAt w pb 0 [(1, 0), (-1, 0)]) (hh : Hooked w D 90 77 (.pointer none) 5 hx) (hr : VRow w rb 0 (.slice (some ⟨rb, 0, none⟩) 2 2) [numV 5, numV 6]) :
    Calls Tryd.prog 32 #[defVal ⟨#[120]⟩ 1 (.slice (some ⟨pb, 0, none⟩) 2 2) (-1), .agg #[hx, .slice xa xn xc], .slice (some ⟨rb, 0, none⟩) 2 2] w fun e w' => KeyTold w [] [numV 6, numV 11] 2 (fun _ _ => True) (fun _ _ _ _ => False) e w' := by
  obtain ⟨g, c, rfl, hg, hat⟩ := hh.at (by omega)
  obtain ⟨fv, hc0, mb, nb, rfl, _, _, hm, hn⟩ := hat 0 (by omega)
  refine keyOf_any ⟨#[120]⟩ 1 (-1) pb 0 2 5 c xn xc (some ⟨g, 0, none⟩) xa [(1, 0), (-1, 0)] [numV 6, numV 11] _ w [] (fun _ _ => True) (fun _ _ _ _ => False) hp (by simp) (by simp) (by simp) (fun _ _ _ _ _ _ _ => trivial) (fun _ _ _ _ _ h _ => h) trivial ⟨_, _, _, rfl⟩ rfl ?_
  intro j f h W hj hcW _
  have ol : OkL [numV 5, numV 6] := fun v hv => by simp at hv; rcases hv with rfl | rfl <;> exact numV_ok _ (by omega) (by omega)
  match j, hj with
  | 0, hj =>
    simp at hj
    obtain ⟨rfl, rfl⟩ := hj
    exact (part_field ⟨#[120]⟩ 1 (-1) 0 _ _ _ 2 2 5 c xn xc 1 [numV 5, numV 6] (numV 6) rb 0 _ W (hr.ch0 hcW) rfl).mono fun e w' hh => ⟨numV 6, .nilIface, hh.1, hh.2, .inl ⟨rfl, rfl, trivial⟩⟩
  | 1, hj =>
    simp at hj
    obtain ⟨rfl, rfl⟩ := hj
    refine (part_hook ⟨#[120]⟩ 1 (-1) 0 g 0 _ _ 2 2 5 c xn xc 90 _ _ W [] (fun v er _ => v = numV 11 ∧ er = .nilIface) ⟨_, _, _, rfl⟩ (by omega) ((hcW.rules0.1 _ _ (World.block_lt_of_cell? _ _ hc0)).trans hc0) (fun _ _ _ _ _ _ h _ _ => h) (by simp) ?_).mono ?_
    · intro W' hW'
      have hcc := hcW.trans hW'
      refine (extract_nilMeter ⟨#[120]⟩ 0 mb nb [numV 5, numV 6] rb 0 _ W' (hr.ch0 hcc) ol (by simp) (hcc.heap hm (by simp)) (hcc.heap hn (by simp)) (by rw [ext0_known]; exact numV_ok _ (by omega) (by omega)) (by rw [ext0_known]; exact isV_11)).mono ?_
      rintro e w' ⟨rfl, hc⟩
      rw [ext0_known]
      exact ⟨_, _, rfl, ⟨rfl, rfl⟩, hc⟩
    · rintro e w' ⟨v, er, rfl, ⟨rfl, rfl⟩, hc⟩
      exact ⟨_, _, rfl, hc, .inl ⟨rfl, rfl, trivial⟩⟩

set_option maxRecDepth 100000 in
theorem known_key2 (pb rb : Nat) (w : World) (hp : PartsAt w pb 0 [(1, 0), (-1, 0)]) (hr : VRow w rb 0 (.slice (some ⟨rb, 0, none⟩) 2 2) [numV 5, numV 6]) :
    Calls Tryd.prog 32 #[defVal ⟨#[120]⟩ 1 (.slice (some ⟨pb, 0, none⟩) 2 2) (-1), .agg #[.slice none 0 0, .slice none 0 0], .slice (some ⟨rb, 0, none⟩) 2 2] w fun e w' => e = .returned (.tuple #[.slice none 0 0, .iface 31 (.int .i64 60)]) ∧ Ch [] w w' := by
  refine (keyOf_any ⟨#[120]⟩ 1 (-1) pb 0 2 0 0 0 0 none none [(1, 0), (-1, 0)] [numV 6, numV 6] _ w [] (fun j _ => j ≤ 1) (fun _ t x _ => t = 31 ∧ x = .int .i64 60) hp (by simp) (by simp) (by simp) (fun _ _ _ _ h _ _ => h) (fun _ _ _ _ _ h _ => h) (by simp) ⟨_, _, _, rfl⟩ rfl ?_).mono ?_
  · intro j f h W hj hcW _
    match j, hj with
    | 0, hj =>
      simp at hj
      obtain ⟨rfl, rfl⟩ := hj
      exact (part_field ⟨#[120]⟩ 1 (-1) 0 _ _ _ 2 2 0 0 0 0 1 [numV 5, numV 6] (numV 6) rb 0 _ W (hr.ch0 hcW) rfl).mono fun e w' hh => ⟨numV 6, .nilIface, hh.1, hh.2, .inl ⟨rfl, rfl, by simp⟩⟩
    | 1, hj =>
      simp at hj
      obtain ⟨rfl, rfl⟩ := hj
      exact (part_none ⟨#[120]⟩ 1 (-1) (-1) 0 _ _ _ 2 2 0 0 0 0 [numV 5, numV 6] _ _ W (by simp) (by simp)).mono fun e w' hh => ⟨V.zero, _, hh.1, hh.2, .inr ⟨_, _, rfl, rfl, rfl⟩⟩
  · rintro e w' ⟨hc, ⟨kv, rfl, _, _, ht⟩ | ⟨j, t, x, _, rfl, rfl, rfl⟩⟩
    · exact absurd ht (by simp)
    · exact ⟨rfl, hc⟩

/-- What the first key.Of of 'known' leaves. -/
def KeyGot (w : World) (e : Ending) (w' : World) : Prop := ∃ kv b, e = .returned (.tuple #[kv, .nilIface]) ∧ VRow w' b 0 kv [numV 6, numV 11] ∧ Ch [] w w'
theorem keyGot_of {w : World} {e : Ending} {w' : World} (h : KeyTold w [] [numV 6, numV 11] 2 (fun _ _ => True) (fun _ _ _ _ => False) e w') : KeyGot w e w' := by
  obtain ⟨hc, ⟨kv, rfl, _, ho, _⟩ | ⟨_, _, _, _, _, hf⟩⟩ := h
  · obtain ⟨b, _, hr⟩ := VRow.of_own ho
    exact ⟨kv, b, rfl, hr, hc⟩
  · exact hf.elim

theorem ok_611 : OkL [numV 6, numV 11] := fun v hv => by simp at hv; rcases hv with rfl | rfl <;> exact numV_ok _ (by omega) (by omega)
theorem vals_same : decide (cmpRows [numV 6, numV 11] [numV 6, numV 11] = 0) = true := by rw [rows_refl]; rfl
abbrev numsWorld (a b : Int) (w : World) : World := ((w.alloc (.cells #[.int .i64 1, .int .i64 a, .string ⟨#[]⟩, .float .f64 0] 38)).alloc (.cells #[.int .i64 1, .int .i64 b, .string ⟨#[]⟩, .float .f64 0] 38)).alloc (.cells #[.int .i64 1, .int .i64 a, .string ⟨#[]⟩, .float .f64 0, .int .i64 1, .int .i64 b, .string ⟨#[]⟩, .float .f64 0] 38)
theorem numsWorld_facts (a b : Int) (w : World) : Ch [] w (numsWorld a b w) ∧ VRow (numsWorld a b w) (w.heap.size + 1 + 1) 0 (.slice (some ⟨w.heap.size + 1 + 1, 0, none⟩) 2 2) [numV a, numV b] := by
  have h : (numsWorld a b w).heap[w.heap.size + 1 + 1]? = some (.cells #[.int .i64 1, .int .i64 a, .string ⟨#[]⟩, .float .f64 0, .int .i64 1, .int .i64 b, .string ⟨#[]⟩, .float .f64 0] 38 (0, 0)) := by
    simpa using heap_alloc_same ((w.alloc (.cells #[.int .i64 1, .int .i64 a, .string ⟨#[]⟩, .float .f64 0] 38)).alloc (.cells #[.int .i64 1, .int .i64 b, .string ⟨#[]⟩, .float .f64 0] 38)) (.cells #[.int .i64 1, .int .i64 a, .string ⟨#[]⟩, .float .f64 0, .int .i64 1, .int .i64 b, .string ⟨#[]⟩, .float .f64 0] 38)
  refine ⟨(((Ch.refl _ w).alloc _).alloc _).alloc _, ⟨_, 2, rfl, fun _ => rfl⟩, fun i v hv => ?_⟩
  match i, hv with
  | 0, hv => simp at hv; subst hv; exact ⟨(cell_of (i := 0) h).trans rfl, (cell_of (i := 1) h).trans rfl, (cell_of (i := 2) h).trans rfl, (cell_of (i := 3) h).trans rfl⟩
  | 1, hv => simp at hv; subst hv; exact ⟨(cell_of (i := 4) h).trans rfl, (cell_of (i := 5) h).trans rfl, (cell_of (i := 6) h).trans rfl, (cell_of (i := 7) h).trans rfl⟩
  | i + 2, hv => simp at hv

set_option maxRecDepth 100000 in
set_option maxHeartbeats 2000000 in
theorem known7_any (w : World) (hg : Glob w) : Calls Tryd.prog 28 #[] w fun e w' => e = .returned (.bool true) ∧ Ch [] w w' := by
  have HG := Lib.hid hg
  clear hg
  go_enter Tryd.func28, Tryd.ntmps28
  have hch : Ch [] w ((w.alloc (.cells #[.int .i64 1, .int .i64 0, .int .i64 (-1), .int .i64 0] 66)).alloc (.cells #[.string ⟨#[120]⟩, .int .i64 1, .slice (some ⟨w.heap.size, 0, none⟩) 2 2, .int .i64 (-1)] 53)) := ((Ch.refl _ w).alloc _).alloc _
  have hB : ((w.alloc (.cells #[.int .i64 1, .int .i64 0, .int .i64 (-1), .int .i64 0] 66)).alloc (.cells #[.string ⟨#[120]⟩, .int .i64 1, .slice (some ⟨w.heap.size, 0, none⟩) 2 2, .int .i64 (-1)] 53)).heap[w.heap.size + 1]? = some (.cells #[.string ⟨#[120]⟩, .int .i64 1, .slice (some ⟨w.heap.size, 0, none⟩) 2 2, .int .i64 (-1)] 53 (0, 0)) := by simpa using heap_alloc_same (w.alloc (.cells #[.int .i64 1, .int .i64 0, .int .i64 (-1), .int .i64 0] 66)) (.cells #[.string ⟨#[120]⟩, .int .i64 1, .slice (some ⟨w.heap.size, 0, none⟩) 2 2, .int .i64 (-1)] 53)
  have hA : ((w.alloc (.cells #[.int .i64 1, .int .i64 0, .int .i64 (-1), .int .i64 0] 66)).alloc (.cells #[.string ⟨#[120]⟩, .int .i64 1, .slice (some ⟨w.heap.size, 0, none⟩) 2 2, .int .i64 (-1)] 53)).heap[w.heap.size]? = some (.cells #[.int .i64 1, .int .i64 0, .int .i64 (-1), .int .i64 0] 66 (0, 0)) := heap_alloc_past (heap_alloc_same _ _)
  generalize hW : ((w.alloc (.cells #[.int .i64 1, .int .i64 0, .int .i64 (-1), .int .i64 0] 66)).alloc (.cells #[.string ⟨#[120]⟩, .int .i64 1, .slice (some ⟨w.heap.size, 0, none⟩) 2 2, .int .i64 (-1)] 53)) = W2 at hch hA hB
  have HK := Lib.hid (fun (w1 : World) (hc : Ch [] W2 w1) => (show w1.cell? ⟨w.heap.size + 1, 0, none⟩ = some (.string ⟨#[120]⟩) ∧ w1.cell? ⟨w.heap.size + 1, 1, none⟩ = some (.int .i64 1) ∧ w1.cell? ⟨w.heap.size + 1, 2, none⟩ = some (.slice (some ⟨w.heap.size, 0, none⟩) 2 2) ∧ w1.cell? ⟨w.heap.size + 1, 3, none⟩ = some (.int .i64 (-1)) from
    ⟨(cell_of (i := 0) (hc.heap hB (by simp))).trans rfl, (cell_of (i := 1) (hc.heap hB (by simp))).trans rfl, (cell_of (i := 2) (hc.heap hB (by simp))).trans rfl, (cell_of (i := 3) (hc.heap hB (by simp))).trans rfl⟩))
  have HP := Lib.hid (And.intro hch (And.intro hA hW))
  have HPA := Lib.hid (fun (w1 : World) (hc : Ch [] W2 w1) => (show PartsAt w1 w.heap.size 0 [(1, 0), (-1, 0)] from by
    have h := hc.heap hA (by simp)
    intro j f g hj
    match j, hj with
    | 0, hj => simp at hj; obtain ⟨rfl, rfl⟩ := hj; exact ⟨(cell_of (i := 0) h).trans rfl, (cell_of (i := 1) h).trans rfl⟩
    | 1, hj => simp at hj; obtain ⟨rfl, rfl⟩ := hj; exact ⟨(cell_of (i := 2) h).trans rfl, (cell_of (i := 3) h).trans rfl⟩
    | j + 2, hj => simp at hj))
  clear hch hA hB hW
  go_wp2_with fail
  rw [HP.out.2.2]
  obtain ⟨s0, s1, s2, s3⟩ := HK.out _ (Ch.refl _ _)
  go_region_held3 (fun w' => w'.cell? ⟨w.heap.size + 1, 0, none⟩ = some (.string ⟨#[120]⟩) ∧ w'.cell? ⟨w.heap.size + 1, 1, none⟩ = some (.int .i64 1) ∧ w'.cell? ⟨w.heap.size + 1, 2, none⟩ = some (.slice (some ⟨w.heap.size, 0, none⟩) 2 2) ∧ w'.cell? ⟨w.heap.size + 1, 3, none⟩ = some (.int .i64 (-1)))
    (first | exact HK.out _ hcW2 | go_keep | exact HK.out _ (Ch.refl _ _) | exact HK.out _ (Ch.refl _ _).drew | exact HK.out _ hcW | exact HK.out _ (hcW.alloc _) | exact HK.out _ ((hcW.alloc _).alloc _) | exact HK.out _ (((hcW.alloc _).alloc _).alloc _))
    (first
      | (go_at_call 30; refine (hooks_any (.pointer none) _ ⟨none, rfl⟩).mono ?_; rintro e w1 ⟨hx, hc, rfl, hh1, hh2, hc1⟩; have hcW := ((Ch.refl [] W2).drew).trans hc1)
      | (go_at_call 62; refine (num_any _ _).mono ?_; rintro e w' ⟨rfl, rfl⟩)
      | (go_at_call 32; obtain ⟨gc, cc, rfl, _, _⟩ := hh2.at (by omega); refine (known_key1 _ _ _ hx _ _ _ _ (HPA.out _ (hcW.trans (numsWorld_facts 5 6 w1).1)) (hh1.fr (Fr.of_ch (D := 0) (T := []) (numsWorld_facts 5 6 w1).1 (Nat.zero_le _) (by simp)) (by simp) (by simp) (by simp)) (numsWorld_facts 5 6 w1).2).mono ?_; intro e w2 hk; obtain ⟨kv, kb, rfl, hkr, hk2⟩ := keyGot_of hk; have hcW2 := (hcW.trans (numsWorld_facts 5 6 w1).1).trans hk2))
  obtain ⟨aa, ca, rfl, haa⟩ := hkr.shape
  obtain rfl := haa (by simp)
  have H2 := Lib.hid (show VRow w2 kb 0 (.slice (some ⟨kb, 0, none⟩) 2 ca) [numV 6, numV 11] ∧ Ch [] W2 w2 from And.intro hkr hcW2)
  clear hkr hcW2 hk2 hk haa hcW hh1 hh2 hc1 s0 s1 s2 s3
  go_wp2_with fail
  obtain ⟨s0, s1, s2, s3⟩ := HK.out _ H2.out.2
  go_region_held3 (fun w' => w'.cell? ⟨w.heap.size + 1, 0, none⟩ = some (.string ⟨#[120]⟩) ∧ w'.cell? ⟨w.heap.size + 1, 1, none⟩ = some (.int .i64 1) ∧ w'.cell? ⟨w.heap.size + 1, 2, none⟩ = some (.slice (some ⟨w.heap.size, 0, none⟩) 2 2) ∧ w'.cell? ⟨w.heap.size + 1, 3, none⟩ = some (.int .i64 (-1)))
    (first | exact HK.out _ hcW3 | exact HK.out _ H2.out.2.drew | exact HK.out _ (H2.out.2.alloc _).drew | exact HK.out _ ((H2.out.2.alloc _).alloc _).drew | exact HK.out _ (((H2.out.2.alloc _).alloc _).alloc _).drew | exact HK.out _ H2.out.2 | exact HK.out _ (H2.out.2.alloc _) | exact HK.out _ ((H2.out.2.alloc _).alloc _) | exact HK.out _ (((H2.out.2.alloc _).alloc _).alloc _))
    (first
      | (go_at_call 62; refine (num_any _ _).mono ?_; rintro e w' ⟨rfl, rfl⟩)
      | (go_at_call 32; refine (known_key2 _ _ _ (HPA.out _ (H2.out.2.trans (numsWorld_facts 5 6 w2).1.drew)) ((numsWorld_facts 5 6 w2).2.ch0 (Ch.refl _ _).drew)).mono ?_; rintro e w3 ⟨rfl, hc3⟩; have hcW3 := (H2.out.2.trans (numsWorld_facts 5 6 w2).1.drew).trans hc3))
  have H3 := Lib.hid (And.intro (H2.out.1.ch0 ((numsWorld_facts 5 6 w2).1.drew.trans hc3)) hcW3)
  have HG3 := Lib.hid (HG.out.ch (HP.out.1.trans hcW3) (by simp))
  clear hcW3 hc3 s0 s1 s2 s3
  go_wp2_with (go_at_call 62; refine (num_any _ _).mono ?_; rintro e w' ⟨rfl, rfl⟩)
  have HV := Lib.hid (vals_any [numV 6, numV 11] [numV 6, numV 11] kb 0 _ 0 (.slice (some ⟨kb, 0, none⟩) 2 ca) (.slice (some ⟨w3.heap.size + 1 + 1, 0, none⟩) 2 2) (numsWorld 6 11 w3) (H3.out.1.ch0 (numsWorld_facts 6 11 w3).1) (numsWorld_facts 6 11 w3).2 ok_611 ok_611 (by simp) (by simp))
  have HC := Lib.hid (fun W hW => class_errno 60 W hW)
  go_wp2_with (first
    | (go_at_call 26; refine HV.out.mono ?_; rintro e w4 ⟨rfl, hc4⟩; rw [vals_same])
    | (go_at_call 18; refine (HC.out _ (HG3.out.ch ((numsWorld_facts 6 11 w3).1.trans hc4) (by simp))).mono ?_; rintro e w5 ⟨rfl, hc5⟩))
  have HE := Lib.hid ((HP.out.1.trans H3.out.2).trans (((numsWorld_facts 6 11 w3).1.trans hc4).trans hc5))
  go_ret
  exact ⟨rfl, HE.out⟩
end Go.Proofs.YtiekahnpnaldjaaDoor
