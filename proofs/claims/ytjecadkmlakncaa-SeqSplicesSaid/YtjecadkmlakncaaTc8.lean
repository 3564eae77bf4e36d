/-
  slices.Replace at []*node: up to the end of the row, no room. (printed by wip/gen_tree.py)
-/
import Derived.Test.YtjecadkmlakncaaTc7
namespace Go.Proofs.Ytjecadkmlakncaa
open Go.RowKit

set_option maxHeartbeats 4000000 in
set_option maxRecDepth 100000 in
theorem replEndGrowN (b off n c i vb voff m vc : Nat) (cs vs : List Value) (w : World) (hij : i < n) (hm : 0 < m) (hroom : c < i + m) (hnc : n ≤ c) (hbig : (i + m) * 8 ≤ 140737488355328)
    (hcl : cs.length = n) (hvl : vs.length = m)
    (hcs : ∀ t v, cs[t]? = some v → w.cell? ⟨b, off + t, none⟩ = some v)
    (hvs : ∀ t v, vs[t]? = some v → w.cell? ⟨vb, voff + t, none⟩ = some v) (h1v : ∀ v ∈ vs, v.oneCell' = true) :
    Calls Try.prog 62 #[.slice (some ⟨b, off, none⟩) n c, .int .i64 i, .int .i64 n, .slice (some ⟨vb, voff, none⟩) m vc] w fun e w' =>
      e = .returned (.slice (some ⟨w.heap.size, 0, none⟩) (i + m) (grownCap w (i + m) c 74)) ∧ w' = w.drew.alloc (.cells ((cs.take i ++ vs).toArray ++ Builtin.zeroCells (Value.cells (.pointer none)) (grownCap w (i + m) c 74 - (i + m))) 74) := by
  obtain ⟨i0, hi0, hz0, hzs, hzb⟩ := info_parts infoN
  have hsrc : Src Try.prog i0.size 78 (.slice (some ⟨vb, voff, none⟩) m vc) m vs w := by
    rw [hzs]
    exact Src.ofSlice w Try.underlying78 ⟨vb, voff, none⟩ m vc vs (by omega) (fun j u hj => by rw [Addr.add_lit]; exact hvs j u hj) h1v
  have hold : (Builtin.firstCells i0.size i (.slice (some ⟨b, off, none⟩) i c)).run Try.prog w.drew = .ok (cs.take i).toArray w.drew := by
    rw [hzs]
    exact run_firstCells_some w.drew 1 i ⟨b, off, none⟩ i c (cs.take i) (by rw [List.length_take]; omega) (fun j v hj => by
      rw [Addr.add_lit]
      rw [List.getElem?_take] at hj
      split at hj
      · exact hcs j v hj
      · cases hj)
  have hrun : ∀ ty, (Builtin.append_ #[78, 78] ty #[.slice (some ⟨b, off, none⟩) i c, .slice (some ⟨vb, voff, none⟩) m vc]).run Try.prog w = _ := fun ty =>
    run_append_grow_src w 78 78 ty 74 i0 _ Try.underlying78 hi0 hz0 (some ⟨b, off, none⟩) i c (cs.take i) hold _ m vs hsrc hroom (by omega) (by rw [hzb]; exact growslice_fits hroom hbig)
  have hij' : ¬ ((i : Int) = (n : Int)) := by omega
  have hb7 : (i : Int) ≤ (n : Int) := by omega
  have hb5 : ¬ (c = i) := by omega
  have hlt : ¬ ((i : Int) + (m : Int) < (n : Int)) := by omega
  clear hi0 hz0 hzs hzb hold hsrc hcs hvs h1v
  go_enter Try.func62, Try.ntmps62
  go_wp2_with (at_builtin; refine Lib.wpList_append_run _ rfl _ _ _ _ rfl _ _ rfl rfl _ _ (hrun _) ?_)
  go_ret
  exact ⟨rfl, rfl⟩
end Go.Proofs.Ytjecadkmlakncaa
