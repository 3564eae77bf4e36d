/-
  The tree: joined.
-/
import Derived.Test.YtjecadkmlakncaaTe5
import Derived.StillTailTactics
namespace Go.Proofs.Ytjecadkmlakncaa
open Go.RowKit

theorem two_flat {α : Type} (a b : List α) : [a, b].flatten = a ++ b := by simp
theorem NodesW.append {w : World} {P : Nat → Prop} {h : Nat} {ks ks' : List Nat} {yss yss' : List (List Value)} (hn : NodesW w P h ks yss) (hl : ks.length = yss.length) (hn' : NodesW w P h ks' yss') : NodesW w P h (ks ++ ks') (yss ++ yss') := by
  intro i q ys hi hy
  by_cases h1 : i < ks.length
  · rw [List.getElem?_append_left h1] at hi
    rw [List.getElem?_append_left (by omega)] at hy
    exact hn i q ys hi hy
  · rw [List.getElem?_append_right (by omega)] at hi
    rw [List.getElem?_append_right (by omega)] at hy
    rw [hl] at hi
    exact hn' _ q ys hi hy

set_option maxRecDepth 100000 in
set_option maxHeartbeats 2000000 in
theorem joined_leaf (w : World) (P : Nat → Prop) (tb wt a b la lb ka kb : Nat) (root : Value) (xs ys : List Value) (ht : TreeBlk w tb root wt) (hwt : wt + 2 ≤ 4611686018427387904) (ha : NodeW w P la ka 0 a xs) (hb : NodeW w P lb kb 0 b ys) (hl : 1 ≤ la + lb) :
    Calls Try.prog 66 #[PN tb, PN a, PN b] w (Made w P tb wt 2 root 0 (xs ++ ys)) := by
  have hone := ha.one
  have hone' := hb.one
  obtain ⟨lv, kv, b1, o1, h1, h2, _, _⟩ := ha
  obtain ⟨lv', kv', b1', o1', h1', h2', _, _⟩ := hb
  obtain ⟨a1, c1, rfl, _, _⟩ := h1.row.shape
  obtain ⟨a2, c2, rfl⟩ := h1.kid
  obtain ⟨a1', c1', rfl, _, _⟩ := h1'.row.shape
  obtain ⟨a2', c2', rfl⟩ := h1'.kid
  have k1 : w.cell? ⟨a, 0, none⟩ = some (.slice a1 xs.length c1) := by rw [cell_of h1.blk]; rfl
  have k2 : w.cell? ⟨a, 1, none⟩ = some (.slice a2 0 c2) := by rw [cell_of h1.blk]; rfl
  have k1' : w.cell? ⟨b, 0, none⟩ = some (.slice a1' ys.length c1') := by rw [cell_of h1'.blk]; rfl
  have hK := Lib.hid (fun W (hc : Ch [tb] w W) => (show W.cell? ⟨a, 0, none⟩ = some (.slice a1 xs.length c1) ∧ W.cell? ⟨b, 0, none⟩ = some (.slice a1' ys.length c1') from
    ⟨by rw [cell_of (hc.heap h1.blk (by simp; exact ne_of_elem h1.blk ht (by decide)))]; rfl, by rw [cell_of (hc.heap h1'.blk (by simp; exact ne_of_elem h1'.blk ht (by decide)))]; rfl⟩))
  have hx8 := h1.le
  have hy8 := h1'.le
  have hCC := Lib.hid (concatI (w.drew.alloc (.cells #[.slice a1 xs.length c1, .slice a1' ys.length c1'] 38)) w.heap.size 2 [.slice a1 xs.length c1, .slice a1' ys.length c1'] [xs, ys] (xs ++ ys) (two_flat xs ys) rfl (heap_alloc_same w.drew _) rfl (by omega)
    (fun j sv ps hj hp => by
      have hc : Ch [] w (w.drew.alloc (.cells #[.slice a1 xs.length c1, .slice a1' ys.length c1'] 38)) := (Ch.refl [] w).drew.alloc _
      match j, hj, hp with
      | 0, hj, hp => simp at hj hp; subst hj hp; exact ⟨b1, o1, h1.row.ch hc (by simp)⟩
      | 1, hj, hp => simp at hj hp; subst hj hp; exact ⟨b1', o1', h1'.row.ch hc (by simp)⟩
      | j + 2, hj, _ => simp at hj)
    (fun ps hp u hu => by
      simp at hp
      rcases hp with rfl | rfl
      · exact hone u hu
      · exact hone' u hu) (by rw [List.length_append]; omega))
  have hlen : 1 ≤ (xs ++ ys).length := by rw [List.length_append]; omega
  have hlen2 : (xs ++ ys).length ≤ 16 := by rw [List.length_append]; omega
  have HL := Lib.hid (fun (w2 : World) (sv : Value) (ho : w2.ownsRow (w.drew.alloc (.cells #[.slice a1 xs.length c1, .slice a1' ys.length c1'] 38)).heap.size 2 1 sv (xs ++ ys).length (xs ++ ys)) (hc : Ch [] (w.drew.alloc (.cells #[.slice a1 xs.length c1, .slice a1' ys.length c1'] 38)) w2) =>
    (show Calls Try.prog 58 #[PN tb, sv] w2 (Made w P tb wt 2 root 0 (xs ++ ys)) from by
      have hc2 : Ch [] w w2 := ((Ch.refl [] w).drew.alloc _).trans hc
      obtain ⟨b2, hb2, hr2⟩ := Row1.of_own ho rfl
      simp at hb2
      refine (leaves_any w2 (fun k => w.heap.size ≤ k) tb wt b2 0 root sv (xs ++ ys) (hc2.heap ht (by simp)) hwt hr2 (by omega) (fun u hu => (List.mem_append.1 hu).elim (hone u) (hone' u)) hlen hlen2).mono ?_
      rintro e w3 ⟨n, g3, c3, d, ks, yss, rfl, hn, hkl, hyl, hown, hnodes, hflat, hch3, ht3, hd⟩
      exact ⟨n, g3, c3, d, ks, yss, rfl, hn, hkl, hyl, own_mono hown hc2.size, hnodes.sub (fun k hk _ => hk.elim .inr (fun h => .inr (Nat.le_trans hc2.size h))), hflat, (hc2.mono (fun _ h => by cases h)).trans hch3, ht3, hd⟩))
  clear h1 h2 h1' h2' hone hone' hx8 hy8 hlen hlen2 ht hl hwt
  go_enter Try.func66, Try.ntmps66
  go_wp2_with fail
  go_region_held3 (fun W => W.cell? ⟨a, 0, none⟩ = some (.slice a1 xs.length c1) ∧ W.cell? ⟨b, 0, none⟩ = some (.slice a1' ys.length c1'))
    (first | exact hK.out _ hk3 | exact hK.out _ hk2 | exact hK.out _ (Ch.refl _ _) | exact hK.out _ (Ch.refl _ _).drew | exact hK.out _ ((Ch.refl _ _).drew.alloc _))
    (first
      | (go_at_call 76; refine hCC.out.mono ?_; rintro e w2 ⟨sv, rfl, ho, hc⟩; have hk2 : Ch [tb] w w2 := ((Ch.refl [tb] w).drew.alloc _).trans (hc.mono (fun _ h => by cases h)))
      | (go_at_call 58; refine (HL.out w2 sv ho hc).mono ?_; rintro e w3 ⟨n, g3, c3, d, ks, yss, rfl, hm⟩; have hk3 : Ch [tb] w w3 := hm.2.2.2.2.2.2.1))
  have HE := Lib.hid (show Made w P tb wt 2 root 0 (xs ++ ys) (.returned (.slice (some ⟨g3, 0, none⟩) n c3)) w3 from ⟨n, g3, c3, d, ks, yss, rfl, hm⟩)
  clear hm HL k1 k2 k1' ho hc hk2 hk3 hCC hK
  go_wp2
  go_ret
  exact HE.out
set_option maxRecDepth 100000 in
set_option maxHeartbeats 2000000 in
theorem joined_inner (w : World) (P : Nat → Prop) (tb wt h a b la lb ka kb : Nat) (root : Value) (xs ys : List Value) (ht : TreeBlk w tb root wt) (hwt : wt + 2 ≤ 4611686018427387904) (ha : NodeW w P la ka (h + 1) a xs) (hb : NodeW w P lb kb (h + 1) b ys) (hl : 2 ≤ ka + kb) (hka : 1 ≤ ka) (hn : xs.length + ys.length ≤ 10000) :
    Calls Try.prog 66 #[PN tb, PN a, PN b] w (Made w P tb wt 2 root (h + 1) (xs ++ ys)) := by
  obtain ⟨lv, kv, b1, o1, ks, yss, h1, hk1, hx, h2, _, _, hn1⟩ := ha
  obtain ⟨lv', kv', b1', o1', ks', yss', h1', hk1', hx', h2', _, _, hn1'⟩ := hb
  obtain ⟨a1, c1, hkv, _, _⟩ := h1.row.shape
  obtain ⟨a1', c1', hkv', _, _⟩ := h1'.row.shape
  rw [List.length_map] at hkv hkv'
  subst hkv hkv'
  have k2 : w.cell? ⟨a, 1, none⟩ = some (.slice a1 ks.length c1) := by rw [cell_of h1.blk]; rfl
  have k2' : w.cell? ⟨b, 1, none⟩ = some (.slice a1' ks'.length c1') := by rw [cell_of h1'.blk]; rfl
  have hK := Lib.hid (fun W (hc : Ch [tb] w W) => (show W.cell? ⟨a, 1, none⟩ = some (.slice a1 ks.length c1) ∧ W.cell? ⟨b, 1, none⟩ = some (.slice a1' ks'.length c1') from
    ⟨by rw [cell_of (hc.heap h1.blk (by simp; exact ne_of_elem h1.blk ht (by decide)))]; rfl, by rw [cell_of (hc.heap h1'.blk (by simp; exact ne_of_elem h1'.blk ht (by decide)))]; rfl⟩))
  have hx8 := h1.le
  have hy8 := h1'.le
  have n0 : (0 : Int) < (ks.length : Int) := by omega
  have n1 : 0 < ks.length := by omega
  have hCC := Lib.hid (concatN (w.drew.alloc (.cells #[.slice a1 ks.length c1, .slice a1' ks'.length c1'] 78)) w.heap.size 2 [.slice a1 ks.length c1, .slice a1' ks'.length c1'] [ks.map PN, ks'.map PN] ((ks ++ ks').map PN) (by rw [two_flat, List.map_append]) rfl (heap_alloc_same w.drew _) rfl (by omega)
    (fun j sv ps hj hp => by
      have hc : Ch [] w (w.drew.alloc (.cells #[.slice a1 ks.length c1, .slice a1' ks'.length c1'] 78)) := (Ch.refl [] w).drew.alloc _
      match j, hj, hp with
      | 0, hj, hp => simp at hj hp; subst hj hp; exact ⟨b1, o1, h1.row.ch hc (by simp)⟩
      | 1, hj, hp => simp at hj hp; subst hj hp; exact ⟨b1', o1', h1'.row.ch hc (by simp)⟩
      | j + 2, hj, _ => simp at hj)
    (fun ps hp u hu => by
      simp at hp
      rcases hp with rfl | rfl
      · exact pn_one _ u hu
      · exact pn_one _ u hu) (by rw [List.length_map, List.length_append]; omega))
  have HL := Lib.hid (fun (w2 : World) (sv : Value) (ho : w2.ownsRow (w.drew.alloc (.cells #[.slice a1 ks.length c1, .slice a1' ks'.length c1'] 78)).heap.size 74 1 sv ((ks ++ ks').map PN).length ((ks ++ ks').map PN)) (hc : Ch [] (w.drew.alloc (.cells #[.slice a1 ks.length c1, .slice a1' ks'.length c1'] 78)) w2) =>
    (show Calls Try.prog 61 #[PN tb, sv] w2 (Made w P tb wt 2 root (h + 1) (xs ++ ys)) from by
      have hc2 : Ch [] w w2 := ((Ch.refl [] w).drew.alloc _).trans hc
      obtain ⟨b2, hb2, hr2⟩ := Row1.of_own ho rfl
      simp at hb2
      have hfl : (yss ++ yss').flatten = xs ++ ys := by rw [List.flatten_append, hx, hx']
      have hnn : NodesW w2 (fun k => P k ∨ w.heap.size ≤ k) h (ks ++ ks') (yss ++ yss') := ((NodesW.append hn1 hk1 hn1').ch hc2 (Apart.nil w P)).sub (fun k hk _ => .inl hk)
      rw [← hfl]
      refine (inners_any w2 (fun k => P k ∨ w.heap.size ≤ k) tb wt h b2 0 root sv (ks ++ ks') (yss ++ yss') (hc2.heap ht (by simp)) hwt hr2 (by omega) (by rw [List.length_append, List.length_append]; omega) hnn (by rw [List.length_append]; omega) (by rw [List.length_append]; omega) (by rw [hfl, List.length_append]; exact hn)).mono ?_
      rintro e w3 ⟨n, g3, c3, d, ks3, yss3, rfl, hn3, hkl, hyl, hown, hnodes, hflat, hch3, ht3, hd⟩
      exact ⟨n, g3, c3, d, ks3, yss3, rfl, hn3, hkl, hyl, own_mono hown hc2.size, hnodes.sub (fun k hk _ => hk.elim (fun h => h) (fun h => .inr (Nat.le_trans hc2.size h))), hflat, (hc2.mono (fun _ h => by cases h)).trans hch3, ht3, hd⟩))
  clear h1 h2 h1' h2' hn1 hn1' hx8 hy8 ht hl hwt hx hx' hk1 hk1' hn hka
  go_enter Try.func66, Try.ntmps66
  go_wp2_with fail
  go_region_held3 (fun W => W.cell? ⟨a, 1, none⟩ = some (.slice a1 ks.length c1) ∧ W.cell? ⟨b, 1, none⟩ = some (.slice a1' ks'.length c1'))
    (first | exact hK.out _ hk3 | exact hK.out _ hk2 | exact hK.out _ (Ch.refl _ _) | exact hK.out _ (Ch.refl _ _).drew | exact hK.out _ ((Ch.refl _ _).drew.alloc _))
    (first
      | (go_at_call 75; refine hCC.out.mono ?_; rintro e w2 ⟨sv, rfl, ho, hc⟩; have hk2 : Ch [tb] w w2 := ((Ch.refl [tb] w).drew.alloc _).trans (hc.mono (fun _ h => by cases h)))
      | (go_at_call 61; refine (HL.out w2 sv ho hc).mono ?_; rintro e w3 ⟨n, g3, c3, d, ks3, yss3, rfl, hm⟩; have hk3 : Ch [tb] w w3 := hm.2.2.2.2.2.2.1))
  have HE := Lib.hid (show Made w P tb wt 2 root (h + 1) (xs ++ ys) (.returned (.slice (some ⟨g3, 0, none⟩) n c3)) w3 from ⟨n, g3, c3, d, ks3, yss3, rfl, hm⟩)
  clear hm HL k2 k2' n0 n1 ho hc hk2 hk3 hCC hK
  go_wp2
  go_ret
  exact HE.out
end Go.Proofs.Ytjecadkmlakncaa
