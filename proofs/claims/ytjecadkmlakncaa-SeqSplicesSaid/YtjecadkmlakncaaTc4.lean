/-
  slices.Delete at []int64: one element out of a row of the call's own. (printed by wip/gen_tree.py)
-/
import Derived.Test.YtjecadkmlakncaaTc3
import Derived.Lib.SliceRun
import Derived.Deep.RegionLaw
namespace Go.Proofs.Ytjecadkmlakncaa
open Go.RowKit


set_option maxHeartbeats 4000000 in
set_option maxRecDepth 1000000 in
theorem delRawI (blk off cap i : Nat) (d : List Value) (w : World) (hH : ∀ t v, d[t]? = some v → w.cell? ⟨blk, off + t, none⟩ = some v) (hF : ∀ t, w.frozen? ⟨blk, off + t, none⟩ = false) (h1 : ∀ u ∈ d, u.oneCell' = true) (hcap : d.length ≤ cap) (hm : cap ≤ 9223372036854775807) (hj : i + 1 ≤ d.length) :
    Calls Try.prog 64 #[.slice (some ⟨blk, off, none⟩) d.length cap, .int .i64 i, .int .i64 ((i : Int) + 1)] w fun e w' => e = .returned (.slice (some ⟨blk, off, none⟩) (d.length - 1) cap) ∧ w' = (w.drew.setCells blk (off + i * 1) (d.drop (i + 1))).setCells blk (off + (i + (d.length - (i + 1)))) (List.replicate (d.length - (i + (d.length - (i + 1)))) (.int .i64 0)) := by
  have mixed : Try.prog.follows .mixedOrders = true := by kernel_rfl
  obtain ⟨i0, hi0, hz0, hz1, hz2⟩ := info_parts infoI
  have hget : ∀ t, t < d.length → ∃ v, d[t]? = some v := fun t ht => ⟨_, List.getElem?_eq_getElem ht⟩
  obtain ⟨news, hnews⟩ : ∃ news, news = d.drop (i + 1) := ⟨_, rfl⟩
  have hlen : news.length = d.length - (i + 1) := by rw [hnews]; simp
  obtain ⟨A, hA, hsrc⟩ : ∃ A : Addr, (if cap = i + 1 then some (⟨blk, off, none⟩ : Addr) else some ⟨blk, off + (i + 1), none⟩) = some A ∧ Hid (∀ t u, news[t]? = some u → w.drew.cell? (A.add t) = some u) := by
    by_cases h : cap = i + 1
    · refine ⟨⟨blk, off, none⟩, by simp [h], fun t u hu => ?_⟩
      have h0 : news.length = 0 := by rw [hlen]; omega
      rw [List.length_eq_zero_iff.1 h0] at hu
      simp at hu
    · refine ⟨⟨blk, off + (i + 1), none⟩, by simp [h], fun t u hu => ?_⟩
      rw [hnews, List.getElem?_drop] at hu
      rw [Addr.add_lit, show off + (i + 1) + t = off + (i + 1 + t) by omega]
      exact hH _ _ hu
  have s1 : Hid (news.length = (d.length - (i + 1)) * 1) := by rw [Nat.mul_one]; exact hlen
  have s2 : Hid (∀ u ∈ news, u.oneCell' = true) := by
    intro u hu
    rw [hnews] at hu
    exact h1 u (List.mem_of_mem_drop hu)
  have s3 : Hid (∀ t, t < news.length → (w.drew.cell? ⟨blk, off + i * 1 + t, none⟩).isSome = true ∧ w.drew.frozen? ⟨blk, off + i * 1 + t, none⟩ = false) := by
    intro t ht
    rw [hlen] at ht
    rw [Nat.mul_one, Nat.add_assoc]
    obtain ⟨v, hv⟩ := hget (i + t) (by omega)
    exact ⟨by show (w.cell? _).isSome = true; rw [hH _ _ hv]; rfl, hF _⟩
  obtain ⟨W1, hW1⟩ : ∃ W1, W1 = w.drew.setCells blk (off + i * 1) news := ⟨_, rfl⟩
  have hS1 : ∀ t, t < d.length → (W1.cell? ⟨blk, off + t, none⟩).isSome = true := fun t ht => by
    rw [hW1]
    refine isSome_setCells blk _ _ _ (fun j hj => (s3.out j hj).1) _ ?_
    obtain ⟨v, hv⟩ := hget t ht
    show (w.cell? _).isSome = true
    rw [hH _ _ hv]; rfl
  have hF1 : ∀ t, W1.frozen? ⟨blk, off + t, none⟩ = false := fun t => by rw [hW1, World.frozen?_setCells]; exact hF t
  have hcl : ∀ ty, (Builtin.clear_ #[38] ty #[.slice (some ⟨blk, off + (i + (d.length - (i + 1))), none⟩) (d.length - (i + (d.length - (i + 1)))) (cap - (i + (d.length - (i + 1))))]).run Try.prog W1 = .ok (.tuple #[]) (W1.setCells blk (off + (i + (d.length - (i + 1)))) (List.replicate (d.length - (i + (d.length - (i + 1)))) (.int .i64 0))) :=
    fun ty => Lib.run_clear_slice W1 _ _ ty _ Try.underlying38 (fun _ => by kernel_rfl) rfl rfl blk (off + (i + (d.length - (i + 1)))) _ _ (by omega) (fun t ht => by rw [show off + (i + (d.length - (i + 1))) + t = off + (i + (d.length - (i + 1)) + t) by omega]; exact hS1 _ (by omega)) (fun t ht => by rw [show off + (i + (d.length - (i + 1))) + t = off + (i + (d.length - (i + 1)) + t) by omega]; exact hF1 _)
  have hW : Hid (W1 = w.drew.setCells blk (off + i * 1) news) := hW1
  have HN := Lib.hid hnews
  have hic : i ≤ cap := by omega
  have hjc : i + 1 ≤ cap := by omega
  have hj0 : (0 : Int) ≤ (i : Int) + 1 := by omega
  have hjn : ((i : Int) + 1).toNat = i + 1 := by omega
  have hj1 : (i : Int) + 1 ≤ (d.length : Int) := by omega
  have hji : ¬ ((i : Int) = (i : Int) + 1) := by omega
  have hij : (i : Int) ≤ (i : Int) + 1 := by omega
  clear hW1 hH hF hget hnews hlen hS1 hF1 h1
  go_enter Try.func64, Try.ntmps64
  go_wp2_with fail
  go_region_law_o (refine step_append_room rfl (.tmp 22) (.tmp 25) 38 rfl 2 i0 1 Try.underlying38 hi0 hz1 blk off i cap (by simp [Act.eval, Act.put]) A (d.length - (i + 1)) (cap - (i + 1)) news (by simp [Act.eval, Act.put]) s1.out hsrc.out s2.out (by omega) s3.out ?_; rw [← hW.out])
  go_wp2
  go_ret
  exact ⟨by rw [show d.length - 1 = i + (d.length - (i + 1)) by omega]; rfl, by rw [hW.out, HN.out]⟩
set_option maxHeartbeats 1000000 in
/-- slices.Delete of one element. -/
theorem delI (W0 : World) (sv : Value) (i : Nat) (cs : List Value) (w : World) (ho : w.ownsRow W0.heap.size 2 1 sv cs.length cs) (hc : Ch [] W0 w) (hi : i < cs.length) (h1c : ∀ v ∈ cs, v.oneCell' = true) :
    Calls Try.prog 64 #[sv, .int .i64 i, .int .i64 ((i : Int) + 1)] w fun e w' => ∃ sv', e = .returned sv' ∧ w'.ownsRow W0.heap.size 2 1 sv' (cs.length - 1) (cs.take i ++ cs.drop (i + 1)) ∧ Ch [] W0 w' := by
  rcases ho.2 with ⟨rfl, h0⟩ | ⟨g, cap, cur, rfl, hg, hh, hn, hcm, hs, ht⟩
  · omega
  · have hs' : cur.size = cap := by simpa using hs
    have ht' : cur.toList.take cs.length = cs := by simpa using ht
    have hc63 : cap ≤ 9223372036854775807 := by unfold maxLen at hcm; omega
    have hcell : ∀ j v, cs[j]? = some v → w.cell? ⟨g, 0 + j, none⟩ = some v := fun j v hj => by
      rw [Nat.zero_add, cell_of hh]
      have hj' : j < cs.length := (List.getElem?_eq_some_iff.1 hj).1
      rw [← ht', List.getElem?_take, if_pos hj'] at hj
      simpa using hj
    refine (delRawI g 0 cap i cs w hcell (fun _ => free_of hh) h1c hn hc63 hi).mono ?_
    rintro e w' ⟨rfl, rfl⟩
    have e1 : cs.length - (i + (cs.length - (i + 1))) = 1 := by omega
    rw [e1]
    obtain ⟨c1, hb1, hc1, hz1⟩ := setCells_block2 g 2 (cs.drop (i + 1)) (0 + i * 1) w.drew cur hh (by rw [List.length_drop]; omega)
    obtain ⟨c2, hb2, hc2, hz2⟩ := setCells_block2 g 2 (List.replicate 1 (.int .i64 0)) (0 + (i + (cs.length - (i + 1)))) _ c1 hb1 (by simp; omega)
    refine ⟨_, rfl, ownOf hg hb2 (by omega) hcm (by omega) ?_ (by simp [List.length_take, List.length_drop]; omega), setCells_ch g _ _ _ (setCells_ch g _ _ _ hc.drew (.inr hg)) (.inr hg)⟩
    have e2 : 0 + (i + (cs.length - (i + 1))) = cs.length - 1 := by omega
    have e3 : 0 + i * 1 = i := by omega
    rw [hc2, e2, hc1, e3]
    have e4 : cur.toList.take i = cs.take i := by
      conv => rhs; rw [← ht']
      rw [List.take_take, Nat.min_eq_left (by omega)]
    have hl : (cs.take i ++ cs.drop (i + 1)).length = cs.length - 1 := by simp [List.length_take, List.length_drop]; omega
    rw [e4, List.take_left' hl, List.append_assoc]
    exact List.take_left' hl
end Go.Proofs.Ytjecadkmlakncaa
