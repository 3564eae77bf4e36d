/-
  slices.Replace at []*node: the roads. (printed by wip/gen_tree.py)
-/
import Derived.Test.YtjecadkmlakncaaTc4
namespace Go.Proofs.Ytjecadkmlakncaa
open Go.RowKit

/-- Two worlds that differ in the draws alone. -/
structure Like (x y : World) : Prop where
  heap : x.heap = y.heap
  os : x.os = y.os
  tape : x.tape = y.tape
  output : x.output = y.output
theorem Like.refl (x : World) : Like x x := ⟨rfl, rfl, rfl, rfl⟩
theorem Like.drew {x y : World} (h : Like x y) : Like x.drew y := ⟨h.heap, h.os, h.tape, h.output⟩
theorem Like.drewN {x y : World} (h : Like x y) (n : Nat) : Like (x.drewN n) y := ⟨h.heap, h.os, h.tape, h.output⟩
theorem Like.cell {x y : World} (h : Like x y) (a : Addr) : x.cell? a = y.cell? a := by simp [World.cell?, h.heap]
theorem Like.frozen {x y : World} (h : Like x y) (a : Addr) : x.frozen? a = y.frozen? a := by simp [World.frozen?, h.heap]
theorem Like.shape {x y : World} (h : Like x y) (b : Nat) : x.shape? b = y.shape? b := by simp [World.shape?, h.heap]
theorem Like.setCell {x y : World} (h : Like x y) (a : Addr) (u : Value) : Like (x.setCell a u) (y.setCell a u) := by
  refine ⟨?_, ?_, ?_, ?_⟩ <;> simp [World.setCell, h.heap, h.os, h.tape, h.output]
theorem Like.setCells {x y : World} (b : Nat) : ∀ (vs : List Value) (o : Nat) {x y : World}, Like x y → Like (x.setCells b o vs) (y.setCells b o vs)
  | [], _, _, _, h => h
  | v :: r, o, _, _, h => Like.setCells b r (o + 1) (x := x) (y := y) (h.setCell _ _)
theorem Like.own {x y : World} (h : Like x y) {base : Nat} {e : TypeId} {size n : Nat} {v : Value} {xs : List Value} (ho : y.ownsRow base e size v n xs) : x.ownsRow base e size v n xs := by
  unfold World.ownsRow at *
  rw [h.heap]
  exact ho
theorem Like.ch {S : List Nat} {x y z : World} (h : Like x y) (hc : Ch S z y) : Ch S z x :=
  ⟨h.os.trans hc.os, h.tape.trans hc.tape, h.output.trans hc.output, by rw [h.heap]; exact hc.size, fun k hk hn => by rw [h.heap]; exact hc.block k hk hn⟩


set_option maxHeartbeats 4000000 in
set_option maxRecDepth 100000 in
/-- The tail is shifted to the right: there is room. -/
theorem replShiftN (b off n c i j vb voff m vc : Nat) (cs vs : List Value) (w : World) (hij : i < j) (hjn : j < n) (hm : 0 < m) (hroom : i + m + (n - j) ≤ c) (hnc : n ≤ c) (hc63 : c ≤ 9223372036854775807) (hmj : j < i + m) (hvb : vb ≠ b)
    (hcl : cs.length = n) (hvl : vs.length = m)
    (hcs : ∀ t v, cs[t]? = some v → w.cell? ⟨b, off + t, none⟩ = some v) (hsp : ∀ t, t < i + m + (n - j) → (w.cell? ⟨b, off + t, none⟩).isSome = true) (hfz : ∀ k t, w.frozen? ⟨k, t, none⟩ = false ∨ (k ≠ b ∧ k ≠ vb))
    (hvs : ∀ t v, vs[t]? = some v → w.cell? ⟨vb, voff + t, none⟩ = some v) (h1c : ∀ v ∈ cs, v.oneCell' = true) (h1v : ∀ v ∈ vs, v.oneCell' = true)
    (tA tB : TypeId) (kA kB : Nat) (hsa : w.shape? vb = some (tA, kA)) (hsb : w.shape? b = some (tB, kB)) (hkA : kA ≠ 0) :
    Calls Try.prog 62 #[.slice (some ⟨b, off, none⟩) n c, .int .i64 i, .int .i64 j, .slice (some ⟨vb, voff, none⟩) m vc] w fun e w' =>
      e = .returned (.slice (some ⟨b, off, none⟩) (i + m + (n - j)) c) ∧ Like w' ((w.setCells b (off + (i + m)) (cs.drop j)).setCells b (off + i) vs) := by
  obtain ⟨i0, hi0, hz0, hz1', hz2'⟩ := info_parts infoN
  have mixed : Try.prog.follows .mixedOrders = true := by kernel_rfl
  have hsz : (Try.prog.info? 74).map (·.size) = some 1 := by rw [hi0]; simp [hz1']
  have hfb : ∀ t, w.frozen? ⟨b, t, none⟩ = false := fun t => (hfz b t).resolve_right (fun h => h.1 rfl)
  have hfv : ∀ t, w.frozen? ⟨vb, t, none⟩ = false := fun t => (hfz vb t).resolve_right (fun h => h.2 rfl)
  have hov : ∀ W, Like W w → ∀ lb cb, (callFunc 72 #[.slice (some ⟨b, off + (i + m), none⟩) lb cb, .slice (some ⟨vb, voff, none⟩) m vc]).run Try.prog W = .ok (.value (.bool false)) W := fun W hW lb cb => by
    rw [run_callFunc_extern Try.func72 (by kernel_rfl) (by kernel_rfl) (by kernel_rfl) (e := Extern.SlicesOverlaps.overlaps #[78, 78] #[4]) (by kernel_rfl),
      Lib.run_overlaps_apart W 78 4 74 Try.underlying78 1 (fun _ => by kernel_rfl) ⟨b, off + (i + m), none⟩ ⟨vb, voff, none⟩ lb cb m vc (Ne.symm hvb) tB tA kB kA ((hW.shape _).trans hsb) ((hW.shape _).trans hsa) hkA ((hW.frozen _).trans (hfb _)) ((hW.frozen _).trans (hfb _))]
    rfl
  have hdl : (cs.drop j).length = n - j := by rw [List.length_drop, hcl]
  have hcp1 : ∀ W : World, Like W w → ∀ ty dl dc sl sc, dl = n - j → sl = n - j → (Builtin.copy_ #[78, 78] ty #[.slice (some ⟨b, off + (i + m), none⟩) dl dc, .slice (some ⟨b, off + j, none⟩) sl sc]).run Try.prog W = .ok (goInt (cs.drop j).length) (W.setCells b (off + (i + m)) (cs.drop j)) := fun W hW ty dl dc sl sc hd1 hd2 =>
    run_copy_cells W _ _ ty 74 b (off + (i + m)) dl dc ⟨b, off + j, none⟩ sl sc (cs.drop j) Try.underlying78 hsz (by rw [hdl]; simp only [Nat.min_def]; split <;> omega)
      (fun t v ht => by rw [Addr.add_lit, Nat.add_assoc, hW.cell]; exact hcs (j + t) v (by rwa [List.getElem?_drop] at ht))
      (fun t ht => by rw [Nat.add_assoc, hW.cell]; exact hsp _ (by omega)) (fun t ht => by rw [hW.frozen]; exact hfb _) (fun v hv => h1c v (List.mem_of_mem_drop hv))
  have hcp2 : ∀ W : World, Like W (w.setCells b (off + (i + m)) (cs.drop j)) → ∀ ty dl dc, m ≤ dl → (Builtin.copy_ #[78, 78] ty #[.slice (some ⟨b, off + i, none⟩) dl dc, .slice (some ⟨vb, voff, none⟩) m vc]).run Try.prog W = .ok (goInt vs.length) (W.setCells b (off + i) vs) := fun W hW ty dl dc hd =>
    run_copy_cells W _ _ ty 74 b (off + i) dl dc ⟨vb, voff, none⟩ m vc vs Try.underlying78 hsz (by rw [hvl]; simp only [Nat.min_def]; split <;> omega)
      (fun t v ht => by
        rw [Addr.add_lit, hW.cell, World.cell?_setCells_out b _ _ _ _ (fun h _ => absurd h hvb)]
        exact hvs t v ht)
      (fun t ht => by
        rw [hW.cell, Nat.add_assoc]
        exact isSome_setCells b _ _ _ (fun u hu => by rw [Nat.add_assoc]; exact hsp _ (by omega)) _ (hsp _ (by omega)))
      (fun t ht => by rw [hW.frozen, World.frozen?_setCells]; exact hfb _) h1v
  have hqn : ((n : Int) - (j : Int)) = ((n - j : Nat) : Int) := by omega
  have hij' : ¬ ((i : Int) = (j : Int)) := by omega
  have hjn' : ¬ ((j : Int) = (n : Int)) := by omega
  have hw1 : IntKind.i64.wrap ((i : Int) + (m : Int)) = (i : Int) + (m : Int) := by rw [IntKind.wrap_i64]; omega
  have hw2 : IntKind.i64.wrap ((i : Int) + (m : Int) + ((n - j : Nat) : Int)) = (i : Int) + (m : Int) + ((n - j : Nat) : Int) := by rw [IntKind.wrap_i64]; omega
  have hb0 : (0 : Int) ≤ (i : Int) + (m : Int) := by omega
  have hb1 : (0 : Int) ≤ (i : Int) + (m : Int) + ((n - j : Nat) : Int) := by omega
  have hb2 : (i : Int) + (m : Int) + ((n - j : Nat) : Int) ≤ (c : Int) := by omega
  have htn : ((i : Int) + (m : Int)).toNat = i + m := by omega
  have htq : ((i : Int) + (m : Int) + ((n - j : Nat) : Int)).toNat = i + m + (n - j) := by omega
  have hb3 : ¬ (c = i + m) := by omega
  have hb4 : (i : Int) + (m : Int) ≤ (i : Int) + (m : Int) + ((n - j : Nat) : Int) := by omega
  have hb5 : ¬ (c = i) := by omega
  have hb6 : ¬ (c = j) := by omega
  have hb7 : (i : Int) ≤ (j : Int) := by omega
  have hb8 : (j : Int) ≤ (n : Int) := by omega
  have hb9 : ¬ ((i : Int) + (m : Int) ≤ (j : Int)) := by omega
  have HO := Lib.hid hov
  have HC1 := Lib.hid hcp1
  have HC2 := Lib.hid hcp2
  clear hi0 hz0 hz1' hz2' hsz hov hcp1 hcp2 hfz hfb hfv hcs hsp hvs h1c h1v hsa hsb
  go_enter Try.func62, Try.ntmps62
  go_wp2_with (fail)
  go_quiet (fail)
  have L0 := Lib.hid ((Like.refl w).drewN nq)
  generalize hWq : w.drewN nq = W0 at *
  clear hWq
  go_wp2_with (fail)
  have hov := HO.out W0 L0.out
  go_wp2_with (simp only [hov])
  go_region_law_o (refine step_copy_runI rfl _ _ 78 78 rfl (.slice (some ⟨b, off + (i + m), none⟩) (i + m + (n - j) - (i + m)) (c - (i + m))) (.slice (some ⟨b, off + j, none⟩) (n - j) (c - j)) (by simp [Act.eval, Act.put]) (by simp [Act.eval, Act.put]) (HC1.out W0.drew L0.out.drew 3 (i + m + (n - j) - (i + m)) (c - (i + m)) (n - j) (c - j) (by omega) rfl) ?_)
  have L1 := Lib.hid (Like.setCells (x := W0) (y := w) b (cs.drop j) (off + (i + m)) L0.out.drew)
  generalize W0.drew.setCells b (off + (i + m)) (cs.drop j) = W1 at *
  have hcpB := HC2.out W1 L1.out 3 (i + m + (n - j) - i) (c - i) (by omega)
  go_wp2_with (first | (at_builtin; refine wpList_copy_runI _ rfl _ _ 78 78 rfl _ _ rfl rfl hcpB ?_) | simp only [hcpB])
  go_ret
  exact ⟨rfl, Like.setCells (x := W0) (y := w) b vs (off + i) L1.out⟩
end Go.Proofs.Ytjecadkmlakncaa
