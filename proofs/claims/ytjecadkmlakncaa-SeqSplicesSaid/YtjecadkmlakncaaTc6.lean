/-
  slices.Replace at []*node: in place, no more elements than before. (printed by wip/gen_tree.py)
-/
import Derived.Test.YtjecadkmlakncaaTc5
namespace Go.Proofs.Ytjecadkmlakncaa
open Go.RowKit

set_option maxHeartbeats 4000000 in
set_option maxRecDepth 100000 in
theorem replSameN (b off n c i j vb voff m vc : Nat) (cs vs : List Value) (w : World) (hij : i < j) (hjn : j < n) (hm : 0 < m) (hnc : n ≤ c) (hc63 : c ≤ 9223372036854775807) (hmj : i + m = j) (hvb : vb ≠ b)
    (hcl : cs.length = n) (hvl : vs.length = m)
    (hcs : ∀ t v, cs[t]? = some v → w.cell? ⟨b, off + t, none⟩ = some v) (hfb : ∀ t, w.frozen? ⟨b, t, none⟩ = false)
    (hvs : ∀ t v, vs[t]? = some v → w.cell? ⟨vb, voff + t, none⟩ = some v) (h1c : ∀ v ∈ cs, v.oneCell' = true) (h1v : ∀ v ∈ vs, v.oneCell' = true) :
    Calls Try.prog 62 #[.slice (some ⟨b, off, none⟩) n c, .int .i64 i, .int .i64 j, .slice (some ⟨vb, voff, none⟩) m vc] w fun e w' =>
      e = .returned (.slice (some ⟨b, off, none⟩) (i + m + (n - j)) c) ∧ Like w' (((w.setCells b (off + i) vs).setCells b (off + (i + m)) (cs.drop j))) := by
  obtain ⟨i0, hi0, hz0, hz1', hz2'⟩ := info_parts infoN
  have mixed : Try.prog.follows .mixedOrders = true := by kernel_rfl
  have hsz : (Try.prog.info? 74).map (·.size) = some 1 := by rw [hi0]; simp [hz1']
  have hdl : (cs.drop j).length = n - j := by rw [List.length_drop, hcl]
  have hsp : ∀ t, t < n → (w.cell? ⟨b, off + t, none⟩).isSome = true := fun t ht => by rw [hcs t _ (List.getElem?_eq_getElem (by omega))]; rfl
  have hcp1 : ∀ W : World, Like W w → ∀ ty dl dc, m ≤ dl → (Builtin.copy_ #[78, 78] ty #[.slice (some ⟨b, off + i, none⟩) dl dc, .slice (some ⟨vb, voff, none⟩) m vc]).run Try.prog W = .ok (goInt vs.length) (W.setCells b (off + i) vs) := fun W hW ty dl dc hd =>
    run_copy_cells W _ _ ty 74 b (off + i) dl dc ⟨vb, voff, none⟩ m vc vs Try.underlying78 hsz (by rw [hvl]; simp only [Nat.min_def]; split <;> omega)
      (fun t v ht => by rw [Addr.add_lit, hW.cell]; exact hvs t v ht)
      (fun t ht => by rw [hW.cell, Nat.add_assoc]; exact hsp _ (by omega))
      (fun t ht => by rw [hW.frozen]; exact hfb _) h1v
  have hsp1 : ∀ t, t < n → ((w.setCells b (off + i) vs).cell? ⟨b, off + t, none⟩).isSome = true := fun t ht =>
    isSome_setCells b _ _ _ (fun u hu => by rw [Nat.add_assoc]; exact hsp _ (by omega)) _ (hsp _ ht)
  have hcp2 : ∀ W : World, Like W (w.setCells b (off + i) vs) → ∀ ty dl dc sl sc, dl = n - j → sl = n - j → (Builtin.copy_ #[78, 78] ty #[.slice (some ⟨b, off + (i + m), none⟩) dl dc, .slice (some ⟨b, off + j, none⟩) sl sc]).run Try.prog W = .ok (goInt (cs.drop j).length) (W.setCells b (off + (i + m)) (cs.drop j)) := fun W hW ty dl dc sl sc hd1 hd2 =>
    run_copy_cells W _ _ ty 74 b (off + (i + m)) dl dc ⟨b, off + j, none⟩ sl sc (cs.drop j) Try.underlying78 hsz (by rw [hdl]; simp only [Nat.min_def]; split <;> omega)
      (fun t v ht => by
        rw [Addr.add_lit, Nat.add_assoc, hW.cell, World.cell?_setCells_out b _ _ _ _ (fun _ _ => .inr (by show off + i + vs.length ≤ off + (j + t); omega))]
        exact hcs (j + t) v (by rwa [List.getElem?_drop] at ht))
      (fun t ht => by rw [Nat.add_assoc, hW.cell]; exact hsp1 _ (by omega)) (fun t ht => by rw [hW.frozen, World.frozen?_setCells]; exact hfb _) (fun v hv => h1c v (List.mem_of_mem_drop hv))
  have hsp2 : ∀ t, t < n → (((w.setCells b (off + i) vs).setCells b (off + (i + m)) (cs.drop j)).cell? ⟨b, off + t, none⟩).isSome = true := fun t ht =>
    isSome_setCells b _ _ _ (fun u hu => by rw [Nat.add_assoc]; exact hsp1 _ (by omega)) _ (hsp1 _ ht)
  have hcl3 : ∀ W : World, Like W ((w.setCells b (off + i) vs).setCells b (off + (i + m)) (cs.drop j)) → ∀ ty a cc, (Builtin.clear_ #[78] ty #[.slice a 0 cc]).run Try.prog W = .ok (.tuple #[]) W := fun W hW ty a cc => by
    cases a <;> simp [Builtin.clear_, run_underlying Try.underlying78]
  have hqn : ((n : Int) - (j : Int)) = ((n - j : Nat) : Int) := by omega
  have hij' : ¬ ((i : Int) = (j : Int)) := by omega
  have hjn' : ¬ ((j : Int) = (n : Int)) := by omega
  have hw1 : IntKind.i64.wrap ((i : Int) + (m : Int)) = (i : Int) + (m : Int) := by rw [IntKind.wrap_i64]; omega
  have hw2 : IntKind.i64.wrap ((i : Int) + (m : Int) + ((n - j : Nat) : Int)) = (i : Int) + (m : Int) + ((n - j : Nat) : Int) := by rw [IntKind.wrap_i64]; omega
  have hb0 : (0 : Int) ≤ (i : Int) + (m : Int) := by omega
  have hb1 : (0 : Int) ≤ (i : Int) + (m : Int) + ((n - j : Nat) : Int) := by omega
  have hb2 : (i : Int) + (m : Int) + ((n - j : Nat) : Int) ≤ (c : Int) := by omega
  have hb10 : (i : Int) + (m : Int) + ((n - j : Nat) : Int) ≤ (n : Int) := by omega
  have htn : ((i : Int) + (m : Int)).toNat = i + m := by omega
  have htq : ((i : Int) + (m : Int) + ((n - j : Nat) : Int)).toNat = i + m + (n - j) := by omega
  have hb3 : ¬ (c = i + m) := by omega
  have hb4 : (i : Int) + (m : Int) ≤ (i : Int) + (m : Int) + ((n - j : Nat) : Int) := by omega
  have hb5 : ¬ (c = i) := by omega
  have hb6 : ¬ (c = j) := by omega
  have hb7 : (i : Int) ≤ (j : Int) := by omega
  have hb8 : (j : Int) ≤ (n : Int) := by omega
  have hb9 : (i : Int) + (m : Int) ≤ (j : Int) := by omega
  have hb12 : (i : Int) ≤ (i : Int) + (m : Int) + ((n - j : Nat) : Int) := by omega
  have HC1 := Lib.hid hcp1
  have HC2 := Lib.hid hcp2
  have HC3 := Lib.hid hcl3
  have HMJ := Lib.hid hmj
  clear hi0 hz0 hz1' hz2' hsz hcp1 hcp2 hcl3 hfb hcs hsp hsp1 hsp2 hvs h1c h1v hmj
  go_enter Try.func62, Try.ntmps62
  go_wp2_with (fail)
  go_quiet (fail)
  have L0 := Lib.hid ((Like.refl w).drewN nq)
  generalize hWq : w.drewN nq = W0 at *
  clear hWq
  have hcpA := HC1.out W0 L0.out 3 (i + m + (n - j) - i) (c - i) (by omega)
  go_wp2_with (first | (at_builtin; refine wpList_copy_runI _ rfl _ _ 78 78 rfl _ _ rfl rfl hcpA ?_) | simp only [hcpA])
  have L1 := Lib.hid (Like.setCells (x := W0) (y := w) b vs (off + i) L0.out)
  generalize W0.setCells b (off + i) vs = W1 at *
  go_region_law_o (refine step_copy_runI rfl _ _ 78 78 rfl (.slice (some ⟨b, off + (i + m), none⟩) (i + m + (n - j) - (i + m)) (c - (i + m))) (.slice (some ⟨b, off + j, none⟩) (n - j) (c - j)) (by simp [Act.eval, Act.put]) (by simp [Act.eval, Act.put]) (HC2.out W1.drew L1.out.drew 3 (i + m + (n - j) - (i + m)) (c - (i + m)) (n - j) (c - j) (by omega) rfl) ?_)
  have L2 := Lib.hid (Like.setCells (x := W1) (y := w) b (cs.drop j) (off + (i + m)) L1.out.drew)
  generalize W1.drew.setCells b (off + (i + m)) (cs.drop j) = W2 at *
  clear hcpA
  go_wp2_with (fail)
  all_goals
    have hz0 : n - (i + m + (n - j)) = 0 := by have := HMJ.out; omega
    rw [hz0, HC3.out W2 L2.out]
    go_wp2
    go_ret
    exact ⟨by first | rfl | (go_simp; done) | simp, L2.out⟩

set_option maxHeartbeats 4000000 in
set_option maxRecDepth 100000 in
theorem replLessN (b off n c i j vb voff m vc : Nat) (cs vs : List Value) (w : World) (hij : i < j) (hjn : j < n) (hm : 0 < m) (hnc : n ≤ c) (hc63 : c ≤ 9223372036854775807) (hmj : i + m < j) (hvb : vb ≠ b)
    (hcl : cs.length = n) (hvl : vs.length = m)
    (hcs : ∀ t v, cs[t]? = some v → w.cell? ⟨b, off + t, none⟩ = some v) (hfb : ∀ t, w.frozen? ⟨b, t, none⟩ = false)
    (hvs : ∀ t v, vs[t]? = some v → w.cell? ⟨vb, voff + t, none⟩ = some v) (h1c : ∀ v ∈ cs, v.oneCell' = true) (h1v : ∀ v ∈ vs, v.oneCell' = true) :
    Calls Try.prog 62 #[.slice (some ⟨b, off, none⟩) n c, .int .i64 i, .int .i64 j, .slice (some ⟨vb, voff, none⟩) m vc] w fun e w' =>
      e = .returned (.slice (some ⟨b, off, none⟩) (i + m + (n - j)) c) ∧ Like w' (((w.setCells b (off + i) vs).setCells b (off + (i + m)) (cs.drop j)).setCells b (off + (i + m + (n - j))) (List.replicate (n - (i + m + (n - j))) (.pointer none))) := by
  obtain ⟨i0, hi0, hz0, hz1', hz2'⟩ := info_parts infoN
  have mixed : Try.prog.follows .mixedOrders = true := by kernel_rfl
  have hsz : (Try.prog.info? 74).map (·.size) = some 1 := by rw [hi0]; simp [hz1']
  have hdl : (cs.drop j).length = n - j := by rw [List.length_drop, hcl]
  have hsp : ∀ t, t < n → (w.cell? ⟨b, off + t, none⟩).isSome = true := fun t ht => by rw [hcs t _ (List.getElem?_eq_getElem (by omega))]; rfl
  have hcp1 : ∀ W : World, Like W w → ∀ ty dl dc, m ≤ dl → (Builtin.copy_ #[78, 78] ty #[.slice (some ⟨b, off + i, none⟩) dl dc, .slice (some ⟨vb, voff, none⟩) m vc]).run Try.prog W = .ok (goInt vs.length) (W.setCells b (off + i) vs) := fun W hW ty dl dc hd =>
    run_copy_cells W _ _ ty 74 b (off + i) dl dc ⟨vb, voff, none⟩ m vc vs Try.underlying78 hsz (by rw [hvl]; simp only [Nat.min_def]; split <;> omega)
      (fun t v ht => by rw [Addr.add_lit, hW.cell]; exact hvs t v ht)
      (fun t ht => by rw [hW.cell, Nat.add_assoc]; exact hsp _ (by omega))
      (fun t ht => by rw [hW.frozen]; exact hfb _) h1v
  have hsp1 : ∀ t, t < n → ((w.setCells b (off + i) vs).cell? ⟨b, off + t, none⟩).isSome = true := fun t ht =>
    isSome_setCells b _ _ _ (fun u hu => by rw [Nat.add_assoc]; exact hsp _ (by omega)) _ (hsp _ ht)
  have hcp2 : ∀ W : World, Like W (w.setCells b (off + i) vs) → ∀ ty dl dc sl sc, dl = n - j → sl = n - j → (Builtin.copy_ #[78, 78] ty #[.slice (some ⟨b, off + (i + m), none⟩) dl dc, .slice (some ⟨b, off + j, none⟩) sl sc]).run Try.prog W = .ok (goInt (cs.drop j).length) (W.setCells b (off + (i + m)) (cs.drop j)) := fun W hW ty dl dc sl sc hd1 hd2 =>
    run_copy_cells W _ _ ty 74 b (off + (i + m)) dl dc ⟨b, off + j, none⟩ sl sc (cs.drop j) Try.underlying78 hsz (by rw [hdl]; simp only [Nat.min_def]; split <;> omega)
      (fun t v ht => by
        rw [Addr.add_lit, Nat.add_assoc, hW.cell, World.cell?_setCells_out b _ _ _ _ (fun _ _ => .inr (by show off + i + vs.length ≤ off + (j + t); omega))]
        exact hcs (j + t) v (by rwa [List.getElem?_drop] at ht))
      (fun t ht => by rw [Nat.add_assoc, hW.cell]; exact hsp1 _ (by omega)) (fun t ht => by rw [hW.frozen, World.frozen?_setCells]; exact hfb _) (fun v hv => h1c v (List.mem_of_mem_drop hv))
  have hsp2 : ∀ t, t < n → (((w.setCells b (off + i) vs).setCells b (off + (i + m)) (cs.drop j)).cell? ⟨b, off + t, none⟩).isSome = true := fun t ht =>
    isSome_setCells b _ _ _ (fun u hu => by rw [Nat.add_assoc]; exact hsp1 _ (by omega)) _ (hsp1 _ ht)
  have hcl3 : ∀ W : World, Like W ((w.setCells b (off + i) vs).setCells b (off + (i + m)) (cs.drop j)) → ∀ ty cc, (Builtin.clear_ #[78] ty #[.slice (some ⟨b, off + (i + m + (n - j)), none⟩) (n - (i + m + (n - j))) cc]).run Try.prog W = .ok (.tuple #[]) (W.setCells b (off + (i + m + (n - j))) (List.replicate (n - (i + m + (n - j))) (.pointer none))) := fun W hW ty cc =>
    Lib.run_clear_slice W _ _ ty _ Try.underlying78 (fun _ => by kernel_rfl) rfl rfl b (off + (i + m + (n - j))) _ _ (by omega) (fun t ht => by rw [hW.cell, Nat.add_assoc]; exact hsp2 _ (by omega)) (fun t ht => by rw [hW.frozen, World.frozen?_setCells, World.frozen?_setCells]; exact hfb _)
  have hqn : ((n : Int) - (j : Int)) = ((n - j : Nat) : Int) := by omega
  have hij' : ¬ ((i : Int) = (j : Int)) := by omega
  have hjn' : ¬ ((j : Int) = (n : Int)) := by omega
  have hw1 : IntKind.i64.wrap ((i : Int) + (m : Int)) = (i : Int) + (m : Int) := by rw [IntKind.wrap_i64]; omega
  have hw2 : IntKind.i64.wrap ((i : Int) + (m : Int) + ((n - j : Nat) : Int)) = (i : Int) + (m : Int) + ((n - j : Nat) : Int) := by rw [IntKind.wrap_i64]; omega
  have hb0 : (0 : Int) ≤ (i : Int) + (m : Int) := by omega
  have hb1 : (0 : Int) ≤ (i : Int) + (m : Int) + ((n - j : Nat) : Int) := by omega
  have hb2 : (i : Int) + (m : Int) + ((n - j : Nat) : Int) ≤ (c : Int) := by omega
  have hb10 : (i : Int) + (m : Int) + ((n - j : Nat) : Int) ≤ (n : Int) := by omega
  have htn : ((i : Int) + (m : Int)).toNat = i + m := by omega
  have htq : ((i : Int) + (m : Int) + ((n - j : Nat) : Int)).toNat = i + m + (n - j) := by omega
  have hb3 : ¬ (c = i + m) := by omega
  have hb4 : (i : Int) + (m : Int) ≤ (i : Int) + (m : Int) + ((n - j : Nat) : Int) := by omega
  have hb5 : ¬ (c = i) := by omega
  have hb6 : ¬ (c = j) := by omega
  have hb7 : (i : Int) ≤ (j : Int) := by omega
  have hb8 : (j : Int) ≤ (n : Int) := by omega
  have hb9 : (i : Int) + (m : Int) ≤ (j : Int) := by omega
  have hb12 : (i : Int) ≤ (i : Int) + (m : Int) + ((n - j : Nat) : Int) := by omega
  have HC1 := Lib.hid hcp1
  have HC2 := Lib.hid hcp2
  have HC3 := Lib.hid hcl3
  have HMJ := Lib.hid hmj
  have hb13 : ¬ (c = i + m + (n - j)) := by omega
  clear hi0 hz0 hz1' hz2' hsz hcp1 hcp2 hcl3 hfb hcs hsp hsp1 hsp2 hvs h1c h1v hmj
  go_enter Try.func62, Try.ntmps62
  go_wp2_with (fail)
  go_quiet (fail)
  have L0 := Lib.hid ((Like.refl w).drewN nq)
  generalize hWq : w.drewN nq = W0 at *
  clear hWq
  have hcpA := HC1.out W0 L0.out 3 (i + m + (n - j) - i) (c - i) (by omega)
  go_wp2_with (first | (at_builtin; refine wpList_copy_runI _ rfl _ _ 78 78 rfl _ _ rfl rfl hcpA ?_) | simp only [hcpA])
  have L1 := Lib.hid (Like.setCells (x := W0) (y := w) b vs (off + i) L0.out)
  generalize W0.setCells b (off + i) vs = W1 at *
  go_region_law_o (refine step_copy_runI rfl _ _ 78 78 rfl (.slice (some ⟨b, off + (i + m), none⟩) (i + m + (n - j) - (i + m)) (c - (i + m))) (.slice (some ⟨b, off + j, none⟩) (n - j) (c - j)) (by simp [Act.eval, Act.put]) (by simp [Act.eval, Act.put]) (HC2.out W1.drew L1.out.drew 3 (i + m + (n - j) - (i + m)) (c - (i + m)) (n - j) (c - j) (by omega) rfl) ?_)
  have L2 := Lib.hid (Like.setCells (x := W1) (y := w) b (cs.drop j) (off + (i + m)) L1.out.drew)
  generalize W1.drew.setCells b (off + (i + m)) (cs.drop j) = W2 at *
  clear hcpA
  have hcpC := HC3.out W2 L2.out 0 (c - (i + m + (n - j)))
  go_wp2_with (simp only [hcpC])
  go_ret
  exact ⟨rfl, Like.setCells (x := W2) (y := w) b _ _ L2.out⟩
end Go.Proofs.Ytjecadkmlakncaa
