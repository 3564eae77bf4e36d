/-
  The tree: gathers, over a whole node.
-/
import Derived.Test.YtjecadkmlakncaaTe3
import Derived.StillTailTactics
namespace Go.Proofs.Ytjecadkmlakncaa
open Go.RowKit

theorem NodeW.pos {w : World} {P : Nat → Prop} : ∀ {h b : Nat} {xs : List Value}, NodeW w P 1 2 h b xs → 1 ≤ xs.length
  | 0, _, _, ⟨_, _, _, _, _, h2, _⟩ => h2
  | h + 1, _, xs, ⟨_, _, _, _, ks, yss, _, h2, h3, h4, _, _, h7⟩ => by
    obtain ⟨q, hq⟩ : ∃ q, ks[0]? = some q := ⟨_, List.getElem?_eq_getElem (by omega)⟩
    obtain ⟨ys, hy⟩ : ∃ ys, yss[0]? = some ys := ⟨_, List.getElem?_eq_getElem (by omega)⟩
    have := NodeW.pos (h7 0 q ys hq hy)
    have h5 := lies_len hy
    rw [← h3] at h5
    omega
/-- What gathers over a whole node does. -/
def Gathered (W0 : World) (n : Nat) (xs0 xs : List Value) (e : Ending) (w' : World) : Prop :=
  ∃ ov', e = .returned ov' ∧ w'.ownsRow W0.heap.size 2 1 ov' (n + xs.length) (xs0 ++ xs) ∧ Ch [] W0 w'

set_option maxRecDepth 100000 in
set_option maxHeartbeats 2000000 in
theorem gathers_leaf (W0 : World) (P : Nat → Prop) (w : World) (rb n : Nat) (xs xs0 : List Value) (ov : Value) (f t : Int) (hn : NodeW W0 P 1 2 0 rb xs) (hc : Ch [] W0 w) (ho : w.ownsRow W0.heap.size 2 1 ov n xs0) (hf0 : f ≤ 0) (hf1 : -20000 ≤ f) (ht0 : (xs.length : Int) ≤ t) (ht1 : t ≤ 20000) (hl : n + xs.length ≤ 10000) :
    Calls Try.prog 55 #[PN rb, ov, .int .i64 f, .int .i64 t] w (Gathered W0 n xs0 xs) := by
  obtain ⟨i0, hi0, hz0, hzs, hzb⟩ := info_parts infoI
  have hn' := hn.ch hc (Apart.nil W0 P)
  obtain ⟨lv, kv, b1, o1, hlf, hlo, _, _⟩ := hn'
  obtain ⟨a1, c1, rfl, hc1, ha1⟩ := hlf.row.shape
  obtain ⟨a2, c2, rfl⟩ := hlf.kid
  have hne : xs ≠ [] := by rintro rfl; simp at hlo
  obtain rfl := ha1 hne
  have k1 : w.cell? ⟨rb, 0, none⟩ = some (.slice (some ⟨b1, o1, none⟩) xs.length c1) := by rw [cell_of hlf.blk]; rfl
  have k2 : w.cell? ⟨rb, 1, none⟩ = some (.slice a2 0 c2) := by rw [cell_of hlf.blk]; rfl
  have m1 : max f 0 = 0 := by omega
  have m2 : min t (xs.length : Int) = (xs.length : Int) := by omega
  have i1 : (xs.length : Int) ≤ (c1 : Int) := by omega
  have i2 : ¬ (c1 = 0) := by omega
  have i3 : xs.length ≤ c1 := hc1
  have hcell : ∀ j u, xs[j]? = some u → w.drew.cell? ((⟨b1, o1, none⟩ : Addr).add j) = some u := fun j u hu => by rw [Addr.add_lit]; exact hlf.row.get j u hu
  have HO := Lib.hid (And.intro (show w.drew.ownsRow W0.heap.size 2 1 ov n xs0 from ho) (And.intro hcell (And.intro hlf.one (And.intro hl (And.intro hc hn)))))
  clear hn hc ho hlf hcell hl hne ha1 hf0 hf1 ht0 ht1
  go_enter Try.func55, Try.ntmps55
  go_wp2_with fail
  go_still_tail 15, (by kernel_rfl)
  change wpList _ _ _ _ _ w.drew
  go_wp2_with (at_builtin; refine wpList_append_own _ rfl _ _ 38 rfl W0.heap.size 2 i0 _ 1 8 Try.underlying38 hi0 hz0 hzs hzb rfl (by decide) _ _ _ rfl HO.out.1 ⟨b1, o1, none⟩ xs.length c1 xs rfl (by simp) HO.out.2.1 HO.out.2.2.1 (by unfold maxLen; have := HO.out.2.2.2.1; omega) (by have := HO.out.2.2.2.1; omega) (by have := HO.out.2.2.2.2.1.size; exact this) ?_)
  intro v' w2 hown2 hg2 _
  have H2 := Lib.hid (And.intro hown2 hg2)
  clear hown2 hg2
  go_wp2
  go_ret
  exact ⟨_, rfl, H2.out.1, HO.out.2.2.2.2.1.drew.grown H2.out.2 (fun q hq => .inr (own_base HO.out.1 hq).1)⟩

set_option maxRecDepth 100000 in
set_option maxHeartbeats 4000000 in
theorem gathers_inner (W0 : World) (P : Nat → Prop) (w : World) (rb n h : Nat) (xs xs0 : List Value) (ov : Value) (f t : Int) (hn : NodeW W0 P 1 2 (h + 1) rb xs) (hc : Ch [] W0 w) (ho : w.ownsRow W0.heap.size 2 1 ov n xs0) (hf0 : f ≤ 0) (hf1 : -20000 + xs.length ≤ f) (ht0 : (xs.length : Int) ≤ t) (ht1 : t ≤ 20000) (hl : n + xs.length ≤ 10000)
    (ih : ∀ (w : World) (rb n : Nat) (xs xs0 : List Value) (ov : Value) (f t : Int), NodeW W0 P 1 2 h rb xs → Ch [] W0 w → w.ownsRow W0.heap.size 2 1 ov n xs0 → f ≤ 0 → -20000 + xs.length ≤ f → (xs.length : Int) ≤ t → t ≤ 20000 → n + xs.length ≤ 10000 →
      Calls Try.prog 55 #[PN rb, ov, .int .i64 f, .int .i64 t] w (Gathered W0 n xs0 xs)) :
    Calls Try.prog 55 #[PN rb, ov, .int .i64 f, .int .i64 t] w (Gathered W0 n xs0 xs) := by
  obtain ⟨lv, kv, b1, o1, ks, yss, hin, hkl, hx, hko, _, _, hkid⟩ := hn
  obtain ⟨a1, c1, rfl, _, ha1⟩ := hin.row.shape
  have hne : ks.map PN ≠ [] := by intro h; simp at h; subst h; simp at hko
  obtain rfl := ha1 hne
  have hrow := hin.row
  have hblk := hin.blk
  have h8 := hin.le
  rw [List.length_map] at hblk hrow
  have k2 : w.cell? ⟨rb, 1, none⟩ = some (.slice (some ⟨b1, o1, none⟩) ks.length c1) := by rw [cell_of (hc.heap hblk (by simp))]; rfl
  have hstep : ∀ W j, Ch [] W0 W → j < ks.length → ∃ q ys, yss[j]? = some ys ∧ NodeW W0 P 1 2 h q ys ∧ W.cell? ⟨b1, o1 + j, none⟩ = some (PN q) ∧ (∀ V, Ch [] W0 V → V.cell? ⟨q, 2, none⟩ = some (.int .i64 ys.length)) ∧ pre yss (j + 1) = pre yss j + ys.length ∧ pre yss j + ys.length ≤ xs.length ∧ 1 ≤ ys.length := fun W j hcw hj => by
    obtain ⟨q, hq⟩ : ∃ q, ks[j]? = some q := ⟨_, List.getElem?_eq_getElem hj⟩
    obtain ⟨ys, hy⟩ : ∃ ys, yss[j]? = some ys := ⟨_, List.getElem?_eq_getElem (by omega)⟩
    have hk := hkid j q ys hq hy
    obtain ⟨l1, k1, hb⟩ := hk.blk
    have h5 := lies_len hy
    rw [← hx] at h5
    exact ⟨q, ys, hy, hk, (hrow.ch hcw (by simp)).get j _ (by rw [List.getElem?_map, hq]; rfl), fun V hcv => by rw [cell_of (hcv.heap hb (by simp))]; rfl, take_succ_len hy, h5, hk.pos⟩
  have hend : pre yss ks.length = xs.length ∧ pref yss ks.length = xs := by unfold pre pref; rw [hkl, List.take_length, hx]; exact ⟨rfl, rfl⟩
  have n0 : (ks.length == 0) = false := by rw [beq_eq_false_iff_ne]; omega
  have n1 : ¬ (ks.length = 0) := by omega
  have n2 : ((ks.length : Int) == 0) = false := by rw [beq_eq_false_iff_ne]; omega
  have HS := Lib.hid hstep
  have HE := Lib.hid (And.intro hend (And.intro hc (And.intro ho (And.intro hl (And.intro hf0 (And.intro hf1 (And.intro ht0 ht1)))))))
  have HI := Lib.hid ih
  clear hstep hend hc ho hl hf0 hf1 ht0 ht1 ih hin hkl hx hko hkid hrow hblk hne ha1
  go_enter Try.func55, Try.ntmps55
  go_wp2_with fail
  go_loopg [1, 2, 3, 38] ks.length (fun g ov fv tv iv wr => ∃ (j : Nat) (F T : Int), g + j = ks.length ∧ fv = .int .i64 F ∧ tv = .int .i64 T ∧ F = f - pre yss j ∧ T = t - pre yss j ∧ iv = .int .i64 j ∧ wr.ownsRow W0.heap.size 2 1 ov (n + pre yss j) (xs0 ++ pref yss j) ∧ Ch [] W0 wr)
  case atStart => exact ⟨0, f, t, rfl, rfl, rfl, by simp [pre], by simp [pre], rfl, by simpa [pre, pref] using HE.out.2.2.1, HE.out.2.1⟩
  case round =>
    obtain ⟨j, F, T, hgj, rfl, rfl, hF, hT, rfl, hown, hch⟩ := hrel
    have hjl : j ≤ ks.length := by omega
    by_cases hlt : j < ks.length
    · obtain ⟨q, ys, hy, hk, c2, hc3, hp1, hp2, hpos⟩ := HS.out wr j hch hlt
      have c3 := hc3 wr hch
      have HC3 := Lib.hid hc3
      clear hc3
      obtain ⟨hend, hc, ho, hl, hf0, hf1, ht0, ht1⟩ := HE.out
      have z1 : F < (ys.length : Int) := by omega
      have z2 : 0 < T := by omega
      have z3 : -20000 ≤ F := by omega
      have z4 : T ≤ 20000 := by omega
      have z5 : F ≤ 0 := by omega
      have z6 : ys.length ≤ 10000 := by omega
      have hI := Lib.hid (HI.out wr q (n + pre yss j) ys (xs0 ++ pref yss j) _ F T hk hch hown (by omega) (by omega) (by omega) (by omega) (by omega))
      have HF := Lib.hid (And.intro hF (And.intro hT (And.intro hgj (And.intro hp1 hy))))
      clear hF hT hgj hp1 hy hown hk hp2 hend ho hl hf0 hf1 ht0 ht1
      go_wp2_with fail
      refine hI.out.mono ?_
      rintro e w2 ⟨ov2, rfl, hown2, hch2⟩
      have c4 := HC3.out w2 hch2
      have H2 := Lib.hid (And.intro hown2 hch2)
      have s1 : IntKind.i64.wrap (F - (ys.length : Int)) = F - (ys.length : Int) := by rw [IntKind.wrap_i64]; omega
      have s2 : IntKind.i64.wrap (T - (ys.length : Int)) = T - (ys.length : Int) := by rw [IntKind.wrap_i64]; omega
      clear hown2 hch2 c2 c3 hch hI
      go_wp2
      go_roundg (gk - 1)
      case measure => have := HF.out.2.2.1; omega
      case rel =>
        obtain ⟨hF, hT, hgj, hp1, hy⟩ := HF.out
        refine ⟨j + 1, F - ys.length, T - ys.length, by omega, rfl, rfl, by rw [hp1]; omega, by rw [hp1]; omega, by go_num, ?_, H2.out.2⟩
        rw [hp1, pref_succ hy, ← Nat.add_assoc, ← List.append_assoc]
        exact H2.out.1
    · obtain rfl : j = ks.length := by omega
      have H2 := Lib.hid (And.intro hown hch)
      clear hown hch hF hT hgj hlt hjl
      go_wp2
      go_ret
      refine ⟨_, rfl, ?_, H2.out.2⟩
      have := H2.out.1
      rwa [HE.out.1.1, HE.out.1.2] at this
theorem gathers_all (W0 : World) (P : Nat → Prop) : ∀ (h : Nat) (w : World) (rb n : Nat) (xs xs0 : List Value) (ov : Value) (f t : Int), NodeW W0 P 1 2 h rb xs → Ch [] W0 w → w.ownsRow W0.heap.size 2 1 ov n xs0 → f ≤ 0 → -20000 + xs.length ≤ f → (xs.length : Int) ≤ t → t ≤ 20000 → n + xs.length ≤ 10000 →
      Calls Try.prog 55 #[PN rb, ov, .int .i64 f, .int .i64 t] w (Gathered W0 n xs0 xs)
  | 0, w, rb, n, xs, xs0, ov, f, t, hn, hc, ho, hf0, hf1, ht0, ht1, hl => gathers_leaf W0 P w rb n xs xs0 ov f t hn hc ho hf0 (by omega) ht0 ht1 hl
  | h + 1, w, rb, n, xs, xs0, ov, f, t, hn, hc, ho, hf0, hf1, ht0, ht1, hl => gathers_inner W0 P w rb n h xs xs0 ov f t hn hc ho hf0 hf1 ht0 ht1 hl (gathers_all W0 P h)
end Go.Proofs.Ytjecadkmlakncaa
