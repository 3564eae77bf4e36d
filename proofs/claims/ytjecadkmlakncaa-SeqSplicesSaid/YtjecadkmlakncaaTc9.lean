/-
  slices.Replace at []*node: in the midst, no room. (printed by wip/gen_tree.py)
-/
import Derived.Test.YtjecadkmlakncaaTc8
namespace Go.Proofs.Ytjecadkmlakncaa
open Go.RowKit
theorem Like.alloc {x y : World} (h : Like x y) (o : Obj) : Like (x.alloc o) (y.alloc o) := ⟨congrArg (fun q => q.push o) h.heap, h.os, h.tape, h.output⟩

set_option maxHeartbeats 4000000 in
set_option maxRecDepth 100000 in
theorem replGrowN (b off n c i j vb voff m vc : Nat) (cs vs : List Value) (w : World) (hij : i < j) (hjn : j < n) (hm : 0 < m) (hnc : n ≤ c) (hroom : c < i + m + (n - j)) (hbig : (i + m + (n - j)) * 8 ≤ 140737488355328)
    (hcl : cs.length = n) (hvl : vs.length = m)
    (hcs : ∀ t v, cs[t]? = some v → w.cell? ⟨b, off + t, none⟩ = some v)
    (hvs : ∀ t v, vs[t]? = some v → w.cell? ⟨vb, voff + t, none⟩ = some v) (h1c : ∀ v ∈ cs, v.oneCell' = true) (h1v : ∀ v ∈ vs, v.oneCell' = true) :
    Calls Try.prog 62 #[.slice (some ⟨b, off, none⟩) n c, .int .i64 i, .int .i64 j, .slice (some ⟨vb, voff, none⟩) m vc] w fun e w' =>
      ∃ G row, e = .returned (.slice (some ⟨w.heap.size, 0, none⟩) (i + m + (n - j)) G) ∧ i + m + (n - j) ≤ G ∧ G ≤ maxLen ∧ row.size = G ∧ row.toList.take i = cs.take i ∧
      Like w' (((w.alloc (.cells row 74)).setCells w.heap.size i vs).setCells w.heap.size (i + m) (cs.drop j)) := by
  obtain ⟨i0, hi0, hz0, hzs, hzb⟩ := info_parts infoN
  have mixed : Try.prog.follows .mixedOrders = true := by kernel_rfl
  have hsz : (Try.prog.info? 74).map (·.size) = some 1 := by rw [hi0]; simp [hzs]
  have hbw : b < w.heap.size := block_lt_of_cell (hcs 0 _ (List.getElem?_eq_getElem (by omega)))
  have hvw : vb < w.heap.size := block_lt_of_cell (hvs 0 _ (List.getElem?_eq_getElem (by omega)))
  have hrz : ∀ W : World, Like W w → ∃ G row, (∀ ty, (Builtin.append_ #[78, 3] ty #[.slice (some ⟨b, off, none⟩) i c, .int .i64 (((m + (n - j) : Nat)) : Int)]).run Try.prog W =
      .ok (.slice (some ⟨w.heap.size, 0, none⟩) (i + m + (n - j)) G) (W.drew.alloc (.cells row 74))) ∧ i + m + (n - j) ≤ G ∧ G ≤ maxLen ∧ row.size = G ∧ row.toList.take i = cs.take i := fun W hW => by
    have hold : (Builtin.firstCells i0.size i (.slice (some ⟨b, off, none⟩) i c)).run Try.prog W.drew = .ok (cs.take i).toArray W.drew := by
      rw [hzs]
      exact run_firstCells_some W.drew 1 i ⟨b, off, none⟩ i c (cs.take i) (by rw [List.length_take]; omega) (fun t v hj => by
        rw [Addr.add_lit, hW.drew.cell]
        rw [List.getElem?_take] at hj
        split at hj
        · exact hcs t v hj
        · cases hj)
    have hik : i + (m + (n - j)) = i + m + (n - j) := by omega
    have h := fun ty => Lib.run_append_grow_zeros W 78 3 ty 74 i0 _ .i64 .i64 Try.underlying78 Try.underlying3 hi0 hz0 (some ⟨b, off, none⟩) i c (cs.take i) hold (m + (n - j)) (by omega) (by omega) (by omega) (by omega) (by rw [hzb]; omega) (by rw [hzb, hik]; exact growslice_fits hroom hbig)
    rw [hik] at h
    have hg := grownCap_ge W (i + m + (n - j)) c 74
    have hgm := grownCap_le_maxLen W (i + m + (n - j)) c 74 (by unfold maxLen; omega)
    have hz := fun k => zeroCells_size (.pointer none) k rfl
    refine ⟨_, _, fun ty => by rw [h ty, hW.heap], hg, hgm, ?_, ?_⟩
    · simp only [Array.size_append, hz, List.size_toArray, List.length_take]; omega
    · simp only [Array.toList_append, List.append_assoc]
      exact List.take_left' (by rw [List.length_take]; omega)
  have hdl : (cs.drop j).length = n - j := by rw [List.length_drop, hcl]
  have hcpA : ∀ (W : World) (G : Nat) (row : Array Value), row.size = G → i + m + (n - j) ≤ G → Like W (w.alloc (.cells row 74)) → ∀ ty dl dc, m ≤ dl → (Builtin.copy_ #[78, 78] ty #[.slice (some ⟨w.heap.size, i, none⟩) dl dc, .slice (some ⟨vb, voff, none⟩) m vc]).run Try.prog W = .ok (goInt vs.length) (W.setCells w.heap.size i vs) := fun W G row hr hG hW ty dl dc hd =>
    run_copy_cells W _ _ ty 74 w.heap.size i dl dc ⟨vb, voff, none⟩ m vc vs Try.underlying78 hsz (by rw [hvl]; simp only [Nat.min_def]; split <;> omega)
      (fun t v ht => by rw [Addr.add_lit, hW.cell, World.cell?_alloc_past _ vb _ hvw]; exact hvs t v ht)
      (fun t ht => by rw [hW.cell, World.cell?_alloc_at row _ w.heap.size _ rfl, Array.getElem?_eq_getElem (by omega)]; rfl)
      (fun t ht => by rw [hW.frozen]; exact World.frozen?_alloc_at row _ w.heap.size _ rfl) h1v
  have hcpB : ∀ (W : World) (G : Nat) (row : Array Value), row.size = G → i + m + (n - j) ≤ G → Like W ((w.alloc (.cells row 74)).setCells w.heap.size i vs) → ∀ ty dl dc sl sc, dl = n - j → sl = n - j → (Builtin.copy_ #[78, 78] ty #[.slice (some ⟨w.heap.size, i + m, none⟩) dl dc, .slice (some ⟨b, off + j, none⟩) sl sc]).run Try.prog W = .ok (goInt (cs.drop j).length) (W.setCells w.heap.size (i + m) (cs.drop j)) := fun W G row hr hG hW ty dl dc sl sc hd1 hd2 =>
    run_copy_cells W _ _ ty 74 w.heap.size (i + m) dl dc ⟨b, off + j, none⟩ sl sc (cs.drop j) Try.underlying78 hsz (by rw [hdl]; simp only [Nat.min_def]; split <;> omega)
      (fun t v ht => by
        rw [Addr.add_lit, hW.cell, World.cell?_setCells_out _ _ _ _ _ (fun h _ => absurd h (by show b ≠ w.heap.size; omega)), World.cell?_alloc_past _ b _ hbw, Nat.add_assoc]
        exact hcs (j + t) v (by rwa [List.getElem?_drop] at ht))
      (fun t ht => by
        rw [hW.cell]
        refine isSome_setCells _ _ _ _ (fun u hu => ?_) _ ?_
        · rw [World.cell?_alloc_at row _ w.heap.size _ rfl, Array.getElem?_eq_getElem (by omega)]; rfl
        · rw [World.cell?_alloc_at row _ w.heap.size _ rfl, Array.getElem?_eq_getElem (by omega)]; rfl)
      (fun t ht => by rw [hW.frozen, World.frozen?_setCells]; exact World.frozen?_alloc_at row _ w.heap.size _ rfl) (fun v hv => h1c v (List.mem_of_mem_drop hv))
  have hqn : ((n : Int) - (j : Int)) = ((n - j : Nat) : Int) := by omega
  have hij' : ¬ ((i : Int) = (j : Int)) := by omega
  have hjn' : ¬ ((j : Int) = (n : Int)) := by omega
  have hw1 : IntKind.i64.wrap ((i : Int) + (m : Int)) = (i : Int) + (m : Int) := by rw [IntKind.wrap_i64]; omega
  have hw2 : IntKind.i64.wrap ((i : Int) + (m : Int) + ((n - j : Nat) : Int)) = (i : Int) + (m : Int) + ((n - j : Nat) : Int) := by rw [IntKind.wrap_i64]; omega
  have hw3 : IntKind.i64.wrap ((i : Int) + (m : Int) + ((n - j : Nat) : Int) - (i : Int)) = ((m + (n - j) : Nat) : Int) := by rw [IntKind.wrap_i64]; omega
  have hb0 : (0 : Int) ≤ (i : Int) + (m : Int) := by omega
  have hb2 : (c : Int) < (i : Int) + (m : Int) + ((n - j : Nat) : Int) := by omega
  have htn : ((i : Int) + (m : Int)).toNat = i + m := by omega
  have hb5 : ¬ (c = i) := by omega
  have hb6 : ¬ (c = j) := by omega
  have hb7 : (i : Int) ≤ (j : Int) := by omega
  have hb8 : (j : Int) ≤ (n : Int) := by omega
  have hb9 : (i : Int) ≤ (n : Int) := by omega
  have hb4 : (i : Int) + (m : Int) ≤ (i : Int) + (m : Int) + ((n - j : Nat) : Int) := by omega
  have hb14 : (i : Int) + (m : Int) ≤ (i : Int) + ((m : Int) + ((n - j : Nat) : Int)) := by omega
  have HZ := Lib.hid hrz
  have HA := Lib.hid hcpA
  have HB := Lib.hid hcpB
  clear hi0 hz0 hzs hzb hsz hrz hcpA hcpB hcs hvs h1c h1v
  go_enter Try.func62, Try.ntmps62
  go_wp2_with (fail)
  go_quiet (fail)
  have L0 := Lib.hid ((Like.refl w).drewN nq)
  generalize hWq : w.drewN nq = W0 at *
  clear hWq
  obtain ⟨G, row, hrun, hG, hGm, hrs, hrt⟩ := HZ.out W0 L0.out
  have HR := Lib.hid (And.intro hG (And.intro hGm (And.intro hrs hrt)))
  have L1 := Lib.hid ((L0.out.drew).alloc (.cells row 74))
  generalize hW1 : W0.drew.alloc (.cells row 74) = W1 at *
  clear hW1
  have hG5 : ¬ (G = i) := by omega
  have hG6 : ¬ (G = i + m) := by omega
  have hcpA := HA.out W1 G row hrs hG L1.out 3 (i + m + (n - j) - i) (G - i) (by omega)
  go_wp2_with (first
    | (at_builtin; refine Lib.wpList_append_run _ rfl _ _ _ _ rfl _ _ rfl rfl _ _ (hrun _) ?_)
    | (at_builtin; refine wpList_copy_runI _ rfl _ _ 78 78 rfl _ _ rfl rfl hcpA ?_))
  have L2 := Lib.hid (Like.setCells (x := W1) (y := W1) w.heap.size vs i L1.out)
  generalize W1.setCells w.heap.size i vs = W2 at *
  go_region_law_o (refine step_copy_runI rfl _ _ 78 78 rfl (.slice (some ⟨w.heap.size, i + m, none⟩) (i + m + (n - j) - (i + m)) (G - (i + m))) (.slice (some ⟨b, off + j, none⟩) (n - j) (c - j)) (by simp [Act.eval, Act.put]) (by simp [Act.eval, Act.put]) (HB.out W2.drew G row hrs hG L2.out.drew 3 (i + m + (n - j) - (i + m)) (G - (i + m)) (n - j) (c - j) (by omega) rfl) ?_)
  go_wp2
  go_ret
  exact ⟨G, row, rfl, hG, hGm, hrs, hrt, Like.setCells (x := W1) (y := W1) w.heap.size _ (i + m) L2.out.drew⟩
end Go.Proofs.Ytjecadkmlakncaa
