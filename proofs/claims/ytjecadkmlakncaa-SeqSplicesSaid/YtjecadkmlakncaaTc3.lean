/-
  slices.Insert at []int64: the fourth road (a new row), and one contract for all. (printed by wip/gen_tree.py)
-/
import Derived.Test.YtjecadkmlakncaaTc2
namespace Go.Proofs.Ytjecadkmlakncaa
open Go.RowKit


set_option maxHeartbeats 4000000 in
set_option maxRecDepth 100000 in
theorem insGrowI (b off n c i vb voff m vc : Nat) (cs vs : List Value) (w : World) (hi : i < n) (hm : 0 < m) (hnc : n ≤ c) (hroom : c < n + m) (hbig : (n + m) * 8 ≤ 140737488355328)
    (hcl : cs.length = n) (hvl : vs.length = m)
    (hcs : ∀ j v, cs[j]? = some v → w.cell? ⟨b, off + j, none⟩ = some v)
    (hvs : ∀ j v, vs[j]? = some v → w.cell? ⟨vb, voff + j, none⟩ = some v) (h1c : ∀ v ∈ cs, v.oneCell' = true) (h1v : ∀ v ∈ vs, v.oneCell' = true) :
    Calls Try.prog 59 #[.slice (some ⟨b, off, none⟩) n c, .int .i64 i, .slice (some ⟨vb, voff, none⟩) m vc] w fun e w' =>
      e = .returned (.slice (some ⟨w.heap.size, 0, none⟩) (n + m) (grownCap w (n + m) c 2)) ∧
      w' = (((w.alloc (.cells ((cs.take i).toArray ++ Builtin.zeroCells (Value.cells (.int .i64 0)) (n + m - i) ++ Builtin.zeroCells (Value.cells (.int .i64 0)) (grownCap w (n + m) c 2 - (n + m))) 2)).drew.setCells w.heap.size i vs).drew).setCells w.heap.size (i + m) (cs.drop i) := by
  obtain ⟨i0, hi0, hz0, hzs, hzb⟩ := info_parts infoI
  have mixed : Try.prog.follows .mixedOrders = true := by kernel_rfl
  have hz1 : ¬ ((m : Int) = 0) := by omega
  have hz2 : ¬ ((i : Int) = (n : Int)) := by omega
  have hz3 : (c : Int) < (n : Int) + (m : Int) := by omega
  have hsz : (Try.prog.info? 2).map (·.size) = some 1 := by rw [hi0]; simp [hzs]
  have hbw : b < w.heap.size := block_lt_of_cell (hcs 0 _ (List.getElem?_eq_getElem (by omega)))
  have hvw : vb < w.heap.size := block_lt_of_cell (hvs 0 _ (List.getElem?_eq_getElem (by omega)))
  have hkk : (n : Int) + (m : Int) - (i : Int) = ((n + m - i : Nat) : Int) := by omega
  have hik : i + (n + m - i) = n + m := by omega
  have hold : (Builtin.firstCells i0.size i (.slice (some ⟨b, off, none⟩) i c)).run Try.prog w.drew = .ok (cs.take i).toArray w.drew := by
    rw [hzs]
    exact run_firstCells_some w.drew 1 i ⟨b, off, none⟩ i c (cs.take i) (by rw [List.length_take]; omega) (fun j v hj => by
      rw [Addr.add_lit]
      rw [List.getElem?_take] at hj
      split at hj
      · exact hcs j v hj
      · cases hj)
  have hrz : ∀ ty, (Builtin.append_ #[38, 3] ty #[.slice (some ⟨b, off, none⟩) i c, .int .i64 ((n : Int) + (m : Int) - (i : Int))]).run Try.prog w =
      .ok (.slice (some ⟨w.heap.size, 0, none⟩) (n + m) (grownCap w (n + m) c 2)) (w.drew.alloc (.cells ((cs.take i).toArray ++ Builtin.zeroCells (Value.cells (.int .i64 0)) (n + m - i) ++ Builtin.zeroCells (Value.cells (.int .i64 0)) (grownCap w (n + m) c 2 - (n + m))) 2)) := fun ty => by
    have h := Lib.run_append_grow_zeros w 38 3 ty 2 i0 _ .i64 .i64 Try.underlying38 Try.underlying3 hi0 hz0 (some ⟨b, off, none⟩) i c (cs.take i) hold (n + m - i) (by omega) (by omega) (by omega) (by omega) (by rw [hzb]; omega) (by rw [hzb, hik]; exact growslice_fits hroom hbig)
    rw [hik] at h
    rw [hkk]
    exact h
  obtain ⟨G, hG⟩ : ∃ G, G = grownCap w (n + m) c 2 := ⟨_, rfl⟩
  obtain ⟨ROW, hROW⟩ : ∃ ROW : Array Value, ROW = (cs.take i).toArray ++ Builtin.zeroCells (Value.cells (.int .i64 0)) (n + m - i) ++ Builtin.zeroCells (Value.cells (.int .i64 0)) (G - (n + m)) := ⟨_, rfl⟩
  rw [← hG] at hrz ⊢
  rw [← hROW] at hrz ⊢
  have hRl : n + m ≤ ROW.size := by
    rw [hROW]
    simp [Builtin.zeroCells, Value.cells]
    omega
  obtain ⟨W1, hW1⟩ : ∃ W1, W1 = w.drew.alloc (.cells ROW 2) := ⟨_, rfl⟩
  rw [← hW1] at hrz
  have hN : ∀ j, j < n + m → (W1.cell? ⟨w.heap.size, j, none⟩).isSome = true := fun j hj => by
    rw [hW1, World.cell?_alloc_at (w := w.drew) ROW _ w.heap.size j rfl, Array.getElem?_eq_getElem (by omega)]; rfl
  have hNf : ∀ j, W1.frozen? ⟨w.heap.size, j, none⟩ = false := fun j => by rw [hW1]; exact World.frozen?_alloc_at (w := w.drew) ROW _ w.heap.size j rfl
  have hOb : ∀ j v, w.cell? ⟨b, j, none⟩ = some v → W1.cell? ⟨b, j, none⟩ = some v := fun j v h => by rw [hW1, World.cell?_alloc_past (w := w.drew) _ b j hbw]; exact h
  have hOv : ∀ j v, w.cell? ⟨vb, j, none⟩ = some v → W1.cell? ⟨vb, j, none⟩ = some v := fun j v h => by rw [hW1, World.cell?_alloc_past (w := w.drew) _ vb j hvw]; exact h
  have hcpA : ∀ (W : World), (∀ x, W.cell? x = W1.cell? x) → (∀ x, W.frozen? x = W1.frozen? x) → ∀ ty dc, (Builtin.copy_ #[38, 38] ty #[.slice (some ⟨w.heap.size, i, none⟩) (n + m - i) dc, .slice (some ⟨vb, voff, none⟩) m vc]).run Try.prog W = .ok (goInt vs.length) (W.setCells w.heap.size i vs) := fun W hWc hWf ty dc =>
    run_copy_cells W _ _ ty 2 w.heap.size i (n + m - i) dc ⟨vb, voff, none⟩ m vc vs Try.underlying38 hsz (by rw [hvl]; simp only [Nat.min_def]; split <;> omega)
      (fun j v hj => by rw [Addr.add_lit, hWc]; exact hOv _ v (hvs j v hj))
      (fun j hj => by rw [hWc]; exact hN _ (by omega)) (fun j hj => by rw [hWf]; exact hNf _) h1v
  have hGn : n + m ≤ G := by rw [hG]; exact grownCap_ge w _ _ _
  have hG63 : G ≤ 9223372036854775807 := by
    have := grownCap_le_maxLen w (n + m) c 2 (by unfold maxLen; omega)
    rw [← hG] at this
    unfold maxLen at this
    omega
  have hGi : ¬ (G = i) := by omega
  have hGim : ¬ (G = i + m) := by omega
  have hci : ¬ (c = i) := by omega
  have hbN : b ≠ w.heap.size := by omega
  have hdl : (cs.drop i).length = n - i := by rw [List.length_drop, hcl]
  have hcpB : ∀ (W : World), (∀ x, W.cell? x = (W1.setCells w.heap.size i vs).cell? x) → (∀ x, W.frozen? x = (W1.setCells w.heap.size i vs).frozen? x) → ∀ ty dc sc, (Builtin.copy_ #[38, 38] ty #[.slice (some ⟨w.heap.size, i + m, none⟩) (n + m - (i + m)) dc, .slice (some ⟨b, off + i, none⟩) (n - i) sc]).run Try.prog W = .ok (goInt (cs.drop i).length) (W.setCells w.heap.size (i + m) (cs.drop i)) := fun W hWc hWf ty dc sc =>
    run_copy_cells W _ _ ty 2 w.heap.size (i + m) (n + m - (i + m)) dc ⟨b, off + i, none⟩ (n - i) sc (cs.drop i) Try.underlying38 hsz (by rw [hdl]; simp only [Nat.min_def]; split <;> omega)
      (fun j v hj => by
        rw [Addr.add_lit, hWc, World.cell?_setCells_out _ _ _ _ _ (fun h _ => absurd h hbN), Nat.add_assoc]
        exact hOb _ v (hcs (i + j) v (by rwa [List.getElem?_drop] at hj)))
      (fun j hj => by rw [hWc]; exact isSome_setCells _ _ _ _ (fun t ht => hN _ (by omega)) _ (hN _ (by omega)))
      (fun j hj => by rw [hWf, World.frozen?_setCells]; exact hNf _) (fun v hv => h1c v (List.mem_of_mem_drop hv))
  subst hW1
  have hE1 : ∀ x, ((w.alloc (.cells ROW 2)).drew).cell? x = (w.drew.alloc (.cells ROW 2)).cell? x := fun x => rfl
  have hE2 : ∀ x, ((w.alloc (.cells ROW 2)).drew).frozen? x = (w.drew.alloc (.cells ROW 2)).frozen? x := fun x => rfl
  have hF1 : ∀ x, (((w.alloc (.cells ROW 2)).drew.setCells w.heap.size i vs).drew).cell? x = ((w.drew.alloc (.cells ROW 2)).setCells w.heap.size i vs).cell? x := fun x => rfl
  have hF2 : ∀ x, (((w.alloc (.cells ROW 2)).drew.setCells w.heap.size i vs).drew).frozen? x = ((w.drew.alloc (.cells ROW 2)).setCells w.heap.size i vs).frozen? x := fun x => rfl
  have hw1 : IntKind.i64.wrap ((i : Int) + (m : Int)) = (i : Int) + (m : Int) := by rw [IntKind.wrap_i64]; omega
  have hb1 : (0 : Int) ≤ (i : Int) + (m : Int) := by omega
  have hin : i ≤ n := by omega
  have htn : ((i : Int) + (m : Int)).toNat = i + m := by omega
  have hb3 : (i : Int) ≤ (n : Int) := by omega
  clear hkk hik hold hROW hG hRl hi0 hz0 hzs hzb hsz
  go_enter Try.func59, Try.ntmps59
  go_wp2_with (first
    | (at_builtin; refine Lib.wpList_append_run _ rfl _ _ _ _ rfl _ _ rfl rfl _ _ (hrz _) ?_)
    | (at_builtin; refine wpList_copy_runI _ rfl _ _ 38 38 rfl _ _ rfl rfl (hcpA _ hE1 hE2 _ _) ?_)
    | (at_builtin; refine wpList_copy_runI _ rfl _ _ 38 38 rfl _ _ rfl rfl (hcpB _ (fun _ => rfl) (fun _ => rfl) _ _ _) ?_))
  go_region_law_o (refine step_copy_runI rfl _ _ 38 38 rfl (.slice (some ⟨w.heap.size, i + m, none⟩) (n + m - (i + m)) (G - (i + m))) (.slice (some ⟨b, off + i, none⟩) (n - i) (c - i)) (by simp [Act.eval, Act.put]) (by simp [Act.eval, Act.put]) (hcpB _ hF1 hF2 3 (G - (i + m)) (c - i)) ?_)
  go_wp2
  go_ret
  exact ⟨rfl, rfl⟩
theorem ownOf {T : TypeId} {w : World} {base g n cap : Nat} {cur : Array Value} {xs : List Value} (hb : base ≤ g) (hh : w.heap[g]? = some (.cells cur T (0, 0))) (hn : n ≤ cap) (hm : cap ≤ maxLen) (hs : cur.size = cap) (ht : cur.toList.take n = xs) (hx : xs.length = n) : w.ownsRow base T 1 (.slice (some ⟨g, 0, none⟩) n cap) n xs :=
  ⟨by omega, .inr ⟨g, cap, cur, rfl, hb, hh, hn, hm, by omega, by simpa using ht⟩⟩
theorem zeroCells_size (z : Value) (k : Nat) (h : z.cells.size = 1) : (Builtin.zeroCells z.cells k).size = k := by simp [Builtin.zeroCells, h]
set_option maxHeartbeats 1000000 in
/-- slices.Insert in a row of the call's own: a row of the call's own. -/
theorem insI (W0 : World) (sv : Value) (i : Nat) (cs vs : List Value) (vb voff vc : Nat) (w : World) (ho : w.ownsRow W0.heap.size 2 1 sv cs.length cs) (hc : Ch [] W0 w) (hi : i ≤ cs.length) (hm : vs ≠ [])
    (hv : Row1 2 w vb voff (.slice (some ⟨vb, voff, none⟩) vs.length vc) vs) (hvb : sv.ownBlock ≠ some vb) (h1c : ∀ v ∈ cs, v.oneCell' = true) (h1v : ∀ v ∈ vs, v.oneCell' = true) (hl : cs.length + vs.length ≤ 10000) :
    Calls Try.prog 59 #[sv, .int .i64 i, .slice (some ⟨vb, voff, none⟩) vs.length vc] w fun e w' => ∃ sv', e = .returned sv' ∧ w'.ownsRow W0.heap.size 2 1 sv' (cs.length + vs.length) (cs.take i ++ vs ++ cs.drop i) ∧ Ch [] W0 w' := by
  have hm0 : 0 < vs.length := List.length_pos_iff.2 hm
  have hvs := hv.get
  have hcs63 : cs.length + vs.length ≤ 10000 := hl
  have hlr : (cs.take i ++ vs ++ cs.drop i).length = cs.length + vs.length := by simp [List.length_take, List.length_drop]; omega
  obtain ⟨vcur, hvh, hvt⟩ := hv.2 hm
  rcases ho.2 with ⟨rfl, h0⟩ | ⟨g, cap, cur, rfl, hg, hh, hn, hcm, hs, ht⟩
  · have hcn : cs = [] := List.eq_nil_of_length_eq_zero h0
    subst hcn
    obtain rfl : i = 0 := by simpa using hi
    refine (insEndGrowI none 0 0 vb voff vs.length vc [] vs w hm0 (Nat.le_refl _) (by omega) (by simp at hl; omega) rfl rfl (fun _ => rfl) (by simp) hvs h1v).mono ?_
    rintro e w' ⟨rfl, rfl⟩
    have hge := grownCap_ge w (0 + vs.length) 0 2
    refine ⟨_, rfl, ?_, (hc.drew.alloc _)⟩
    refine ownOf (g := w.heap.size) hc.size (heap_alloc_same w.drew _) ?_ (grownCap_le_maxLen w _ _ _ (by unfold maxLen; simp at hl; omega)) ?_ ?_ (by simp)
    · exact hge
    · have hz := zeroCells_size (.int .i64 0) (grownCap w (0 + vs.length) 0 2 - (0 + vs.length)) rfl
      simp only [Array.size_append, hz, List.size_toArray, List.length_append, List.length_nil]
      omega
    · simp
  · have hs' : cur.size = cap := by simpa using hs
    have ht' : cur.toList.take cs.length = cs := by simpa using ht
    have hgv : g ≠ vb := fun h => hvb (by simp [Value.ownBlock, h])
    have hc63 : cap ≤ 9223372036854775807 := by unfold maxLen at hcm; omega
    have hcell : ∀ j v, cs[j]? = some v → w.cell? ⟨g, 0 + j, none⟩ = some v := fun j v hj => by
      rw [Nat.zero_add, cell_of hh]
      have hj' : j < cs.length := (List.getElem?_eq_some_iff.1 hj).1
      rw [← ht', List.getElem?_take, if_pos hj'] at hj
      simpa using hj
    have hcell0 : ∀ j v, cs[j]? = some v → w.cell? ⟨g, j, none⟩ = some v := fun j v hj => by simpa using hcell j v hj
    by_cases hr : cs.length + vs.length ≤ cap
    · by_cases hin : i < cs.length
      · have hsh : ∀ k (o : Array Value) (T : TypeId), w.heap[k]? = some (.cells o T (0, 0)) → w.shape? k = some (T, o.size) := fun k o T h => by simp [World.shape?, h]
        refine (insShiftI g 0 cs.length cap i vb voff vs.length vc cs vs w hin hm0 hr hc63 (Ne.symm hgv) rfl rfl hcell ?_ ?_ hvs h1c h1v _ _ _ _ (hsh _ _ _ hvh) (hsh _ _ _ hh) (by omega) (free_of hvh) (free_of hvh)).mono ?_
        · intro j hj
          rw [Nat.zero_add, cell_of hh, Array.getElem?_eq_getElem (by omega)]; rfl
        · intro j _
          exact free_of hh
        · rintro e w' ⟨rfl, rfl⟩
          obtain ⟨c1, hb1, hc1, hz1⟩ := setCells_block2 g 2 (cs.drop i) (0 + (i + vs.length)) w.drew cur hh (by rw [List.length_drop]; omega)
          obtain ⟨c2, hb2, hc2, hz2⟩ := setCells_block2 g 2 vs (0 + i) _ c1 hb1 (by omega)
          refine ⟨_, rfl, ownOf hg hb2 hr hcm (by omega) ?_ hlr, ?_⟩
          · rw [hc2, hc1, Nat.zero_add, Nat.zero_add]
            have e1 : i + vs.length + (cs.drop i).length = cs.length + vs.length := by rw [List.length_drop]; omega
            rw [e1]
            rcases ins_list cs cur.toList vs i hi ht' with h | h
            · exact h
            · simp at h; omega
          · exact setCells_ch g _ _ _ (setCells_ch g _ _ _ hc.drew (.inr hg)) (.inr hg)
      · obtain rfl : i = cs.length := by omega
        refine (insEndRoomI g 0 cs.length cap vb voff vs.length vc vs w hm0 hr hc63 rfl ?_ ?_ hvs h1v).mono ?_
        · intro j hj
          rw [Nat.zero_add, cell_of hh, Array.getElem?_eq_getElem (by omega)]; rfl
        · intro j _
          exact free_of hh
        · rintro e w' ⟨rfl, rfl⟩
          obtain ⟨c1, hb1, hc1, hz1⟩ := setCells_block2 g 2 vs (0 + cs.length) w cur hh (by omega)
          refine ⟨_, rfl, ownOf hg hb1 hr hcm (by omega) ?_ hlr, setCells_ch g _ _ _ hc (.inr hg)⟩
          rw [hc1, Nat.zero_add, ht', List.take_length, List.drop_length, List.append_nil]
          exact List.take_left' (by simp)
    · by_cases hin : i < cs.length
      · refine (insGrowI g 0 cs.length cap i vb voff vs.length vc cs vs w hin hm0 hn (by omega) (by omega) rfl rfl hcell hvs h1c h1v).mono ?_
        rintro e w' ⟨rfl, rfl⟩
        have hge := grownCap_ge w (cs.length + vs.length) cap 2
        obtain ⟨G, hG⟩ : ∃ G, G = grownCap w (cs.length + vs.length) cap 2 := ⟨_, rfl⟩
        have hgm := grownCap_le_maxLen w (cs.length + vs.length) cap 2 (by unfold maxLen; omega)
        rw [← hG] at hge hgm ⊢
        obtain ⟨row, hrow⟩ : ∃ row : Array Value, row = (cs.take i).toArray ++ Builtin.zeroCells (Value.cells (.int .i64 0)) (cs.length + vs.length - i) ++ Builtin.zeroCells (Value.cells (.int .i64 0)) (G - (cs.length + vs.length)) := ⟨_, rfl⟩
        have hz := fun k => zeroCells_size (.int .i64 0) k rfl
        have hrs : row.size = G := by rw [hrow]; simp only [Array.size_append, hz, List.size_toArray, List.length_take]; omega
        rw [← hrow]
        have hb0 : (w.alloc (.cells row 2)).drew.heap[w.heap.size]? = some (.cells row 2 (0, 0)) := heap_alloc_same w _
        obtain ⟨c1, hb1, hc1, hz1⟩ := setCells_block2 w.heap.size 2 vs i _ row hb0 (by omega)
        obtain ⟨c2, hb2, hc2, hz2⟩ := setCells_block2 w.heap.size 2 (cs.drop i) (i + vs.length) (((w.alloc (.cells row 2)).drew.setCells w.heap.size i vs).drew) c1 hb1 (by rw [List.length_drop]; omega)
        refine ⟨_, rfl, ownOf hc.size hb2 (by omega) hgm (by omega) ?_ hlr, ?_⟩
        · have e1 : i + vs.length + (cs.drop i).length = cs.length + vs.length := by rw [List.length_drop]; omega
          have e2 : row.toList.take i = cs.take i := by
            rw [hrow]
            simp only [Array.toList_append, List.append_assoc]
            exact List.take_left' (by rw [List.length_take]; omega)
          have e3 : c1.toList.take (i + vs.length) = cs.take i ++ vs := by
            rw [hc1, e2]
            exact List.take_left' (by simp [List.length_take]; omega)
          rw [hc2, e3, e1]
          exact List.take_left' hlr
        · exact setCells_ch _ _ _ _ ((setCells_ch _ _ _ _ (hc.alloc _).drew (.inr hc.size)).drew) (.inr hc.size)
      · obtain rfl : i = cs.length := by omega
        refine (insEndGrowI (some ⟨g, 0, none⟩) cs.length cap vb voff vs.length vc cs vs w hm0 hn (by omega) (by omega) rfl rfl (by simp) ?_ hvs h1v).mono ?_
        · rintro a ha j v hj
          cases ha
          rw [Addr.add_lit]
          exact hcell j v hj
        · rintro e w' ⟨rfl, rfl⟩
          have hge := grownCap_ge w (cs.length + vs.length) cap 2
          refine ⟨_, rfl, ownOf (g := w.heap.size) hc.size (heap_alloc_same w.drew _) hge (grownCap_le_maxLen w _ _ _ (by unfold maxLen; omega)) ?_ ?_ hlr, (hc.drew.alloc _)⟩
          · have hz := zeroCells_size (.int .i64 0) (grownCap w (cs.length + vs.length) cap 2 - (cs.length + vs.length)) rfl
            simp only [Array.size_append, hz, List.size_toArray, List.length_append]
            omega
          · simp only [Array.toList_append]
            rw [List.take_left' (by simp)]
            simp [List.take_length]
end Go.Proofs.Ytjecadkmlakncaa
