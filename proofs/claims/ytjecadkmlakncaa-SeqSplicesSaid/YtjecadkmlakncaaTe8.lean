/-
  The tree: erased: what is known on the way.
-/
import Derived.Test.YtjecadkmlakncaaTe7
namespace Go.Proofs.Ytjecadkmlakncaa
open Go.RowKit

/-- Without the element of a place. -/
def eraL (xs : List Value) (i : Nat) : List Value := xs.take i ++ xs.drop (i + 1)
theorem eraL_len (xs : List Value) (i : Nat) (hi : i < xs.length) : (eraL xs i).length = xs.length - 1 := by
  unfold eraL; simp [List.length_take]; omega
/-- What size reads. -/
theorem NodeW.parts {w : World} {P : Nat → Prop} {lo ko : Nat} : ∀ {h b : Nat} {xs : List Value}, NodeW w P lo ko h b xs → ∃ (n m : Nat) (a1 a2 : Option Addr) (c1 c2 : Nat), w.heap[b]? = some (.cells #[.slice a1 n c1, .slice a2 m c2, .int .i64 xs.length] 83 (0, 0)) ∧ n + m ≤ 8 ∧ (4 ≤ n + m → NodeW w P 1 2 h b xs)
  | 0, b, xs, ⟨lv, kv, b1, o1, h1, h2, h3, h4⟩ => by
    obtain ⟨a1, c1, rfl, _, _⟩ := h1.row.shape
    obtain ⟨a2, c2, rfl⟩ := h1.kid
    exact ⟨xs.length, 0, a1, a2, c1, c2, h1.blk, h1.le, fun h => ⟨_, _, b1, o1, h1, by omega, h3, h4⟩⟩
  | h + 1, b, xs, ⟨lv, kv, b1, o1, ks, yss, h1, h2, h3, h4, h5, h6, h7⟩ => by
    obtain ⟨a1, c1, hkv, _, _⟩ := h1.row.shape
    rw [List.length_map] at hkv
    subst hkv
    obtain ⟨a2, c2, rfl⟩ := h1.el
    exact ⟨0, ks.length, a2, a1, c2, c1, h1.blk, by have := h1.le; omega, fun h => ⟨_, _, b1, o1, ks, yss, h1, h2, h3, by omega, h5, h6, h7⟩⟩
/-- joined: two nodes anew as one, or as two. -/
theorem joined_any (w : World) (P : Nat → Prop) (tb wt a b la lb ka kb : Nat) (root : Value) (xs ys : List Value) (ht : TreeBlk w tb root wt) (hwt : wt + 2 ≤ 4611686018427387904) (hl : 1 ≤ la + lb) (hk : 2 ≤ ka + kb) (hka : 1 ≤ ka) (hn : xs.length + ys.length ≤ 10000) :
    ∀ h, NodeW w P la ka h a xs → NodeW w P lb kb h b ys → Calls Try.prog 66 #[PN tb, PN a, PN b] w (Made w P tb wt 2 root h (xs ++ ys))
  | 0, ha, hb => joined_leaf w P tb wt a b la lb ka kb root xs ys ht hwt ha hb hl
  | h + 1, ha, hb => joined_inner w P tb wt h a b la lb ka kb root xs ys ht hwt ha hb hk hka hn

/-- The node below has been written anew, with one element less, and laid in the row of nodes. -/
structure EraAt (w : World) (P : Nat → Prop) (tb wt d h k g c B1 b : Nat) (root : Value) (ks : List Nat) (yss : List (List Value)) (ys' : List Value) (W : World) : Prop where
  own : W.ownsRow w.heap.size 74 1 (.slice (some ⟨g, 0, none⟩) ks.length c) ks.length ((ks.set k b).map PN)
  ch : Ch [tb] w W
  gB : w.heap.size ≤ g ∧ g < B1
  wB : w.heap.size ≤ B1
  BW : B1 ≤ W.heap.size
  weak : NodeW W (fun x => (P x ∧ x < w.heap.size) ∨ B1 ≤ x) 0 1 h b ys'
  tree : TreeBlk W tb root (wt + d)
  tree0 : TreeBlk w tb root wt
  kids : NodesW w P h ks yss
  kl : ks.length = yss.length
  k : k < ks.length
  k2 : 2 ≤ ks.length
  k8 : ks.length ≤ 8
section
variable {w W : World} {P : Nat → Prop} {tb wt d h k g c B1 b : Nat} {root : Value} {ks : List Nat} {yss : List (List Value)} {ys' : List Value}
theorem EraAt.drewN (hE : EraAt w P tb wt d h k g c B1 b root ks yss ys' W) (n : Nat) : EraAt w P tb wt d h k g c B1 b root ks yss ys' (W.drewN n) :=
  have hl : Like (W.drewN n) W := (Like.refl W).drewN n
  have hc : Ch [] W (W.drewN n) := hl.ch (Ch.refl _ _)
  ⟨hl.own hE.own, hl.ch hE.ch, hE.gB, hE.wB, hE.BW, hE.weak.ch hc (Apart.nil _ _), hE.tree, hE.tree0, hE.kids, hE.kl, hE.k, hE.k2, hE.k8⟩
theorem EraAt.drew (hE : EraAt w P tb wt d h k g c B1 b root ks yss ys' W) : EraAt w P tb wt d h k g c B1 b root ks yss ys' W.drew :=
  have hl : Like W.drew W := (Like.refl W).drew
  have hc : Ch [] W W.drew := hl.ch (Ch.refl _ _)
  ⟨hl.own hE.own, hl.ch hE.ch, hE.gB, hE.wB, hE.BW, hE.weak.ch hc (Apart.nil _ _), hE.tree, hE.tree0, hE.kids, hE.kl, hE.k, hE.k2, hE.k8⟩
theorem EraAt.cell (hE : EraAt w P tb wt d h k g c B1 b root ks yss ys' W) {j q : Nat} (hq : (ks.set k b)[j]? = some q) : W.cell? ⟨g, j, none⟩ = some (PN q) :=
  (own_cells hE.own (by have := (List.getElem?_eq_some_iff.1 hq).1; simpa using this)).1 (PN q) (by rw [List.getElem?_map, hq]; rfl)
/-- It is great enough. -/
theorem EraAt.strong (hE : EraAt w P tb wt d h k g c B1 b root ks yss ys' W) (hs : NodeW W (fun x => (P x ∧ x < w.heap.size) ∨ B1 ≤ x) 1 2 h b ys') (D : Nat) (hd : d ≤ D) : Spliced w P tb wt D h k 1 root ks yss [ys'] (.slice (some ⟨g, 0, none⟩) ks.length c) W := by
  have ho := hE.own
  rw [List.map_set, set_pn ks k b hE.k] at ho
  have hk := hE.k
  have ho' : W.ownsRow w.heap.size 74 1 (.slice (some ⟨g, 0, none⟩) ks.length c) (ks.length - 1 + 1) ((ks.map PN).take k ++ [b].map PN ++ (ks.map PN).drop (k + 1)) := by rw [show ks.length - 1 + 1 = ks.length by omega]; exact ho
  refine spliced (ks2 := [b]) (n := 1) (g := g) (w2 := W) (B1 := B1) hE.kl (Nat.le_of_lt hE.k) hE.tree0 hE.kids hE.gB hE.wB (own_blk hE.own (by omega)) rfl rfl ?_ hE.ch hE.tree hd ho' (Ch.refl _ _)
  intro i' q' zs hi' hz'
  match i', hi', hz' with
  | 0, hi', hz' => simp at hi' hz'; subst hi' hz'; exact hs
  | i' + 1, hi', _ => simp at hi'
/-- It is too small: its neighbour and it are joined. -/
theorem EraAt.join (hE : EraAt w P tb wt d h k g c B1 b root ks yss ys' W) {ys : List Value} {i e : Nat} (hl : Lies yss i k e) (hy : yss[k]? = some ys) (he : e < ys.length) (hys : ys' = eraL ys e) (hn : yss.flatten.length ≤ 5000) (hwt : wt + d + 2 ≤ 4611686018427387904) (k' : Nat) (hk' : (k' = k ∧ k + 1 < ks.length) ∨ (k' + 1 = k ∧ k + 1 = ks.length)) :
    ∃ (a a' : Nat) (zs : List Value), (ks.set k b)[k']? = some a ∧ (ks.set k b)[k' + 1]? = some a' ∧ (∀ yss2 : List (List Value), yss2.flatten = zs → (yss.take k' ++ yss2 ++ yss.drop (k' + 2)).flatten = eraL yss.flatten i) ∧
      Calls Try.prog 66 #[PN tb, PN a, PN a'] W (Made W (fun x => (P x ∧ x < w.heap.size) ∨ B1 ≤ x) tb (wt + d) 2 root h zs) := by
  have hkl := hE.kl
  have old : ∀ j q zs, ks[j]? = some q → yss[j]? = some zs → NodeW W (fun x => (P x ∧ x < w.heap.size) ∨ B1 ≤ x) 1 2 h q zs := fun j q zs hj hz =>
    (((hE.kids j q zs hj hz).sub (Q := fun x => P x ∧ x < w.heap.size) (fun x hx hlt => ⟨hx, hlt⟩)).ch hE.ch (Apart.tree hE.tree0)).sub (fun x hx _ => .inl hx)
  have hera : eraL yss.flatten i = (yss.take k).flatten ++ eraL ys e ++ (yss.drop (k + 1)).flatten := by unfold eraL; exact era_flatten yss i k e ys hl hy he
  have hlen := lies_len hy
  have hl5 := eraL_len ys e he
  rcases hk' with ⟨rfl, hlt⟩ | ⟨rfl, hlast⟩
  · obtain ⟨q, hq⟩ : ∃ q, ks[k' + 1]? = some q := ⟨_, List.getElem?_eq_getElem hlt⟩
    obtain ⟨zs, hz⟩ : ∃ zs, yss[k' + 1]? = some zs := ⟨_, List.getElem?_eq_getElem (by omega)⟩
    have hlen2 := lies_len hz
    rw [take_succ_len hy] at hlen2
    refine ⟨b, q, ys' ++ zs, by rw [List.getElem?_set_self hE.k], by rw [List.getElem?_set_ne (by omega)]; exact hq, fun yss2 h2 => ?_, joined_any W _ tb (wt + d) b q 0 1 1 2 root ys' zs hE.tree hwt (by omega) (by omega) (by omega) (by rw [hys]; omega) h hE.weak (old _ q zs hq hz)⟩
    rw [hera, List.flatten_append, List.flatten_append, h2, hys]
    have e1 : yss.drop (k' + 1) = zs :: yss.drop (k' + 2) := by
      rw [List.drop_eq_getElem_cons (by omega)]
      rw [(List.getElem?_eq_some_iff.1 hz).2]
    rw [e1]
    simp
  · have hk2 : k' < ks.length := by omega
    obtain ⟨q, hq⟩ : ∃ q, ks[k']? = some q := ⟨_, List.getElem?_eq_getElem hk2⟩
    obtain ⟨zs, hz⟩ : ∃ zs, yss[k']? = some zs := ⟨_, List.getElem?_eq_getElem (by omega)⟩
    have hlen2 := take_succ_len hz
    refine ⟨q, b, zs ++ ys', by rw [List.getElem?_set_ne (by omega)]; exact hq, by rw [List.getElem?_set_self hE.k], fun yss2 h2 => ?_, joined_any W _ tb (wt + d) q b 1 0 2 1 root zs ys' hE.tree hwt (by omega) (by omega) (by omega) (by rw [hys]; omega) h (old _ q zs hq hz) hE.weak⟩
    rw [hera, List.flatten_append, List.flatten_append, h2, hys]
    have e1 : yss.take (k' + 1) = yss.take k' ++ [zs] := by rw [List.take_add_one, hz]; rfl
    rw [e1]
    simp
/-- The joined ones in the row of nodes. -/
theorem EraAt.replaced (hE : EraAt w P tb wt d h k g c B1 b root ks yss ys' W) (k' D : Nat) (hk' : (k' = k ∧ k + 1 < ks.length) ∨ (k' + 1 = k ∧ k + 1 = ks.length)) {n g2 c2 d2 : Nat} {ks2 : List Nat} {yss2 : List (List Value)} {W4 : World} (hn2 : n = 1 ∨ n = 2) (hkl2 : ks2.length = n) (hyl2 : yss2.length = n)
    (hown2 : W4.ownsRow W.heap.size 74 1 (.slice (some ⟨g2, 0, none⟩) n c2) n (ks2.map PN)) (hnodes2 : NodesW W4 (fun x => ((P x ∧ x < w.heap.size) ∨ B1 ≤ x) ∨ W.heap.size ≤ x) h ks2 yss2) (hch2 : Ch [tb] W W4) (ht2 : TreeBlk W4 tb root (wt + d + d2)) (hd2 : d + d2 ≤ D) :
    Calls Try.prog 62 #[.slice (some ⟨g, 0, none⟩) ks.length c, .int .i64 k', .int .i64 ((k' : Int) + 2), .slice (some ⟨g2, 0, none⟩) n c2] W4 fun e w5 =>
      ∃ sv3, e = .returned sv3 ∧ Spliced w P tb wt D h k' 2 root ks yss yss2 sv3 w5 := by
  have hk := hE.k
  have hgb := own_kept hch2 hE.own (fun x hx => by simp; rintro rfl; exact own_ne hE.own hE.tree (by decide) hx)
  have hr2 := row_of_own hown2 (two_pos hn2)
  have hgW : g < W.heap.size := Nat.lt_of_lt_of_le hE.gB.2 hE.BW
  have hk8 := hE.k8
  refine (replN W4 w.heap.size g ks.length c k' 2 n g2 c2 ((k' : Int) + 2) ((ks.set k b).map PN) (ks2.map PN) hgb (Nat.le_trans hE.ch.size hch2.size) rfl (by omega) (by omega) (by rw [List.length_map]; exact hkl2) (two_pos hn2) hr2.1 (by have := hr2.2.1; omega) (pn_one _) (pn_one _) (by omega)).mono ?_
  rintro e w5 ⟨sv3, rfl, hown3, hch3⟩
  have e1 : ((ks.set k b).map PN).take k' = (ks.map PN).take k' := by
    rw [List.map_set, List.take_set_of_le (by omega)]
  have e2 : ((ks.set k b).map PN).drop (k' + 2) = (ks.map PN).drop (k' + 2) := by
    rw [List.map_set, List.drop_set_of_lt (by omega)]
  rw [e1, e2] at hown3
  exact ⟨sv3, rfl, spliced (ks2 := ks2) (n := n) (g := g) (w2 := W4) (B1 := B1) hE.kl (by omega) hE.tree0 hE.kids hE.gB hE.wB (own_blk hgb (by omega)) hkl2 hyl2 (hnodes2.sub (fun x hx _ => hx.elim (fun h => h) (fun h => .inr (Nat.le_trans hE.BW h)))) (hE.ch.trans hch2) (by rw [← Nat.add_assoc]; exact ht2) hd2 hown3 hch3⟩
end
end Go.Proofs.Ytjecadkmlakncaa
