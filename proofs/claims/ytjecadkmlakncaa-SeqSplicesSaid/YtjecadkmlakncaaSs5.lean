/-
  SeqSplices: the walk.
-/
import Derived.Test.YtjecadkmlakncaaSs4
namespace Go.Proofs.Ytjecadkmlakncaa
open Go.RowKit

set_option maxRecDepth 100000 in
set_option maxHeartbeats 16000000 in
theorem seqSplices_any (an wh bn : Int) (w : World) (hn0 : 0 ≤ an) (hn1 : an ≤ 255) (hw0 : 0 ≤ wh) (hw1 : wh ≤ 65535) (hb0 : 0 ≤ bn) (hb1 : bn ≤ 255) :
    Calls Try.prog 7 #[.int .u8 an, .int .u16 wh, .int .u8 bn] w fun e w' => e = .returned (.bool true) ∧ Ch [] w w' := by
  obtain ⟨i0, hi0, hz0, hzs, hzy⟩ := info_parts infoI
  obtain ⟨k0, hk0⟩ : ∃ k0 : Nat, an % 14 = k0 := ⟨(an % 14).toNat, by omega⟩
  have hk14 : k0 < 14 := by omega
  obtain ⟨k, hk⟩ : ∃ k : Nat, k = k0 + 1 := ⟨_, rfl⟩
  have hk1 : 1 ≤ k := by omega
  have hk2 : k ≤ 14 := by omega
  obtain ⟨b, hb⟩ : ∃ b : Nat, bn % ((k : Int) + 1) = b := ⟨(bn % ((k : Int) + 1)).toNat, by have := Int.emod_nonneg bn (show (k : Int) + 1 ≠ 0 by omega); omega⟩
  have hbk : b ≤ k := by have := Int.emod_lt_of_pos bn (show (0 : Int) < (k : Int) + 1 by omega); omega
  have hkk : an % 14 + 1 = (k : Int) := by omega
  have HKB := Lib.hid (And.intro hkk hb)
  clear hkk hb hk0 hk
  go_enter Try.func7, Try.ntmps7
  go_wp2_with fail
  (with_reducible refine (sknown w).mono ?_)
  rintro e w1 ⟨rfl, hc1⟩
  have hN := Lib.hid (snew w1)
  have HC1 := Lib.hid hc1
  clear hc1
  go_wp2_with fail
  rw [HKB.out.1]
  (with_reducible refine hN.out.mono ?_)
  rintro e w2 ⟨xb, tb, mb, rfl, hx2, hc2, htb, hmb⟩
  have HB := Lib.hid (And.intro (hx2 (fun q => (Value.slice none 0 0).ownBlock ≠ some q)) (And.intro (HC1.out.trans hc2) (And.intro (Nat.le_trans HC1.out.size htb) (Nat.le_trans HC1.out.size hmb))))
  clear hx2 hc2 htb hmb HC1 hN
  go_wp2_with fail
  rw [HKB.out.2]
  clear hn0 hn1 hb0 hb1 HKB hk14
  go_loopg [9, 10, 12] k (fun g idv lv iv wr => ∃ (j wn : Nat) (is : List Int), g + j = k ∧ iv = .int .i64 ((j : Int) + 1) ∧ wn ≤ 78 * j ∧ Spl w b xb tb mb j wn idv lv is wr)
  case atStart => exact ⟨0, 0, [], rfl, rfl, Nat.le_refl _, HB.out.1, World.ownsRow_nil _ _ _ _, World.ownsRow_nil _ _ _ _, .inl rfl, List.nodup_nil, fun c hc => (by cases hc), Nat.le_refl _, HB.out.2.1⟩
  case round =>
    obtain ⟨j, wn, is, hgj, rfl, hwn, hs⟩ := hrel
    have hjk : j ≤ k := by omega
    have HJ := Lib.hid (And.intro hgj hwn)
    have hwn2 : wn ≤ 10000 := by omega
    by_cases hlt : j < k
    · have hp := Lib.hid (sadd_ok wr _ xb tb mb wn j ((j : Int) + 1) (upto j) hs.ix (wf_small (by omega) (by omega)) (by rw [upto_mem]; omega) (by rw [upto_len]; omega) (by omega) (by omega))
      obtain ⟨ib, _, hri⟩ := Row1.of_own hs.io (ids_len is).symm
      obtain ⟨aa, ca, hsl, _, _⟩ := hri.shape
      rw [ids_len] at hsl
      obtain rfl := hsl
      have hil := hs.il
      have HS := Lib.hid hs
      have i1 : (j : Int) + 1 ≤ (k : Int) := by omega
      have i2 : (0 : Int) ≤ (j : Int) + 1 := by omega
      have i3 : (j : Int) + 1 ≤ 16 := by omega
      clear hs hri hgj hwn
      go_wp2_with fail
      (with_reducible refine hp.out.mono ?_)
      intro e w3 hr
      obtain ⟨rfl, d, hA⟩ := HS.out.add (by omega) HB.out.2.2.1 HB.out.2.2.2 hr
      obtain ⟨ib, _, hri⟩ := Row1.of_own hA.2.2.2.1 (ids_len is).symm
      have hri2 := (hri.ch ((Ch.refl [] w3).alloc (.cells #[.int .i64 ((j : Int) + 1)] 2)) (by simp)).src
      have hone : ∀ u ∈ ids is, u.oneCell' = true := fun u hu => by
        obtain ⟨z, _, rfl⟩ := List.mem_map.1 hu
        rfl
      have hlit := World.ownsRow_lit (base := w3.heap.size) (e := 2) (size := 1) w3 #[.int .i64 ((j : Int) + 1)] 1 (Nat.le_refl _) (by decide) rfl
      have hle : (fil is (upto j)).length ≤ j := by
        have := List.length_filter_le (fun y => decide (y ∉ is)) (upto j)
        rw [upto_len] at this
        exact this
      have H3 := Lib.hid (And.intro hA (And.intro hri2 (And.intro hone hlit)))
      clear hr hA hp hri hri2 hone hlit
      by_cases hT : (wh / 2 ^ (j + 1)).tmod 2 = 1
      · have t2 : ((wh / 2 ^ (j + 1)).tmod 2 == 1) = true := by simpa using hT
        by_cases hbj : (j : Int) + 1 = b
        · have t1 : ((j : Int) + 1 != (b : Int)) = false := by simpa using hbj
          clear hbj
          go_wp2_with (at_builtin; refine wpList_append_own_at _ rfl _ _ 38 rfl w.heap.size 2 i0 _ 1 8 Try.underlying38 hi0 hz0 hzs hzy rfl (by decide) _ _ _ rfl (H3.out.1.2.2.2.2.1.alloc _) ⟨w3.heap.size, 0, none⟩ 1 1 [.int .i64 ((j : Int) + 1)] rfl rfl ?c1 ?c2 ?c3 ?c4 ?c5 ?_)
          case c1 => exact cell_one_new _ _ _
          case c2 => intro u hu; simp at hu; subst hu; rfl
          case c3 => unfold maxLen; omega
          case c4 => omega
          case c5 => have := H3.out.1.2.2.2.2.2.size; simp; omega
          intro v' w4 hown4 hg4 _ hloc
          have hn := H3.out.1.stay hown4 hg4 (by simpa using hloc)
          have H4 := Lib.hid hn
          clear hown4 hg4 hn hloc
          go_wp2
          go_roundg (gk - 1)
          case measure => have := HJ.out; omega
          case rel => exact ⟨j + 1, wn + d, is, by have := HJ.out; omega, by go_num, by have := HJ.out; have := H3.out.1.2.1; omega, H4.out⟩
        · have t1 : ((j : Int) + 1 != (b : Int)) = true := by simpa using hbj
          go_wp2_with (at_builtin; refine wpList_append_src _ rfl _ _ 38 rfl w3.heap.size 2 i0 _ 1 8 Try.underlying38 hi0 hz0 hzs hzy rfl (by decide) _ _ _ rfl H3.out.2.2.2 aa is.length ca (ids is) rfl (by simp [ids_len]) H3.out.2.1 H3.out.2.2.1 (by unfold maxLen; omega) (by omega) (by simp) ?_; intro v' w4 hown4 hg4)
          have hn := H3.out.1.take hbj hown4 hg4
          have H4 := Lib.hid hn
          clear hown4 hg4 hn
          go_wp2
          go_roundg (gk - 1)
          case measure => have := HJ.out; omega
          case rel => exact ⟨j + 1, wn + d, _, by have := HJ.out; omega, by go_num, by have := HJ.out; have := H3.out.1.2.1; omega, H4.out⟩
      · have t2 : ((wh / 2 ^ (j + 1)).tmod 2 == 1) = false := by simpa using hT
        go_wp2_with (at_builtin; refine wpList_append_own_at _ rfl _ _ 38 rfl w.heap.size 2 i0 _ 1 8 Try.underlying38 hi0 hz0 hzs hzy rfl (by decide) _ _ _ rfl (H3.out.1.2.2.2.2.1.alloc _) ⟨w3.heap.size, 0, none⟩ 1 1 [.int .i64 ((j : Int) + 1)] rfl rfl ?c1 ?c2 ?c3 ?c4 ?c5 ?_)
        case c1 => exact cell_one_new _ _ _
        case c2 => intro u hu; simp at hu; subst hu; rfl
        case c3 => unfold maxLen; omega
        case c4 => omega
        case c5 => have := H3.out.1.2.2.2.2.2.size; simp; omega
        intro v' w4 hown4 hg4 _ hloc
        have hn := H3.out.1.stay hown4 hg4 (by simpa using hloc)
        have H4 := Lib.hid hn
        clear hown4 hg4 hn hloc
        go_wp2
        go_roundg (gk - 1)
        case measure => have := HJ.out; omega
        case rel => exact ⟨j + 1, wn + d, is, by have := HJ.out; omega, by go_num, by have := HJ.out; have := H3.out.1.2.1; omega, H4.out⟩
    · obtain rfl : j = k := by omega
      obtain ⟨ib, _, hri⟩ := Row1.of_own hs.io (ids_len is).symm
      obtain ⟨lb, _, hrl⟩ := Row1.of_own hs.lo (ids_len _).symm
      obtain ⟨hres, hrl5⟩ := hs.res hk2 hbk
      have hask := hs.ask hk2 hbk
      have hS := Lib.hid (ssplice_ok wr xb tb mb wn j ib 0 _ is (upto j) b (hs.ix.sub (fun _ _ _ => trivial)) hri hask (by omega) (by omega))
      have hix := hs.ix.sub (Q := PT) (fun _ _ _ => trivial)
      obtain ⟨aa, ca, hsl, _, _⟩ := hri.shape
      rw [ids_len] at hsl
      obtain rfl := hsl
      obtain ⟨la, lc, hsl, _, hla⟩ := hrl.shape
      rw [ids_len] at hsl
      obtain rfl := hsl
      have hil : is.length ≤ 14 := by have := hs.il; omega
      have hone : ∀ u ∈ ids is, u.oneCell' = true := fun u hu => by
        obtain ⟨z, _, rfl⟩ := List.mem_map.1 hu
        rfl
      have i1 : ¬ ((j : Int) + 1 ≤ (j : Int)) := by omega
      have hfl : (fil is (upto j)).length ≤ 14 := by
        have := List.length_filter_le (fun y => decide (y ∉ is)) (upto j)
        rw [upto_len] at this
        exact Nat.le_trans this hk2
      have HQ := Lib.hid (And.intro hix (And.intro hri (And.intro hrl (And.intro hres (And.intro hrl5 (And.intro hone (And.intro hs.ch hla)))))))
      have hn := hs.ix.nodup
      clear hix hri hrl hres hrl5 hone hs hla hask hlt hjk hwn2 hwn hgj
      go_wp2_with fail
      (with_reducible refine hS.out.mono ?_)
      rintro e w6 ⟨rfl, d, n', hd, hn', hx6, hc6⟩
      have hri6 := HQ.out.2.1.ix HQ.out.1 hc6
      have hrl6 := HQ.out.2.2.1.ix HQ.out.1 hc6
      have hget : ∀ m, m < (fil is (upto j)).length → ∃ z, (fil is (upto j))[m]? = some z ∧ la = some ⟨lb, 0, none⟩ ∧ w6.cell? ⟨lb, m, none⟩ = some (.int .i64 z) := fun m hm => by
        have hz : (fil is (upto j))[m]? = some (fil is (upto j))[m] := List.getElem?_eq_getElem hm
        refine ⟨_, hz, HQ.out.2.2.2.2.2.2.2 (by intro h; have := ids_len (fil is (upto j)); rw [h] at this; simp at this; omega), ?_⟩
        have := hrl6.get m _ (ids_get hz)
        simpa using this
      have HG := Lib.hid hget
      have H6 := Lib.hid (And.intro hx6 (And.intro hri6 (HQ.out.2.2.2.2.2.2.1.trans' hc6 (fun x hx => by simp at hx; right; rcases hx with rfl | rfl; exact HB.out.2.2.1; exact HB.out.2.2.2))))
      obtain ⟨ls, hls⟩ : ∃ ls, ls = fil is (upto j) := ⟨_, rfl⟩
      rw [← hls] at HG HQ hfl ⊢
      clear hri6 hrl6 hget hx6 hc6 hd hn' hS hn hls
      go_wp2_with fail
      go_loopg [13, 14] ls.length (fun g wv iv wq => ∃ m : Nat, g + m = ls.length ∧ iv = .int .i64 m ∧ wq.ownsRow w6.heap.size 2 1 wv (wanted is b (ls.take m)).length (ids (wanted is b (ls.take m))) ∧ Ch [] w6 wq)
      case atStart => exact ⟨0, by omega, rfl, World.ownsRow_nil _ _ _ _, Ch.refl _ _⟩
      case round =>
        obtain ⟨m, hgm, rfl, hown, hch⟩ := hrel
        have hml : m ≤ ls.length := by omega
        have HM := Lib.hid hgm
        have hwl := wanted_len (b : Int) hil (ls.take m)
        have hwl2 : (wanted is b (ls.take m)).length ≤ 300 := by
          have := List.length_take_le m ls
          omega
        have HO := Lib.hid (And.intro hown hch)
        clear hgm hown hch hwl
        by_cases hlt : m < ls.length
        · obtain ⟨z, hz, hla, hcl⟩ := HG.out m hlt
          obtain rfl := hla
          have c1 : wr.cell? ⟨lb, m, none⟩ = some (.int .i64 z) := HO.out.2.cell0 hcl
          have htk : ls.take (m + 1) = ls.take m ++ [z] := by rw [List.take_add_one, hz]; rfl
          have m1 : (m : Int) < (ls.length : Int) := by omega
          by_cases hzb : z = b
          · obtain rfl := hzb
            have hrw := (H6.out.2.1.ch HO.out.2 (by simp)).src
            have HR := Lib.hid (And.intro hrw hcl)
            clear hrw hcl hz
            go_wp2_with (at_builtin; refine wpList_append_src _ rfl _ _ 38 rfl w6.heap.size 2 i0 _ 1 8 Try.underlying38 hi0 hz0 hzs hzy rfl (by decide) _ _ _ rfl HO.out.1 aa is.length ca (ids is) rfl (by simp [ids_len]) HR.out.1 HQ.out.2.2.2.2.2.1 (by unfold maxLen; omega) (by omega) HO.out.2.size ?_)
            intro v7 w7 hown7 hg7
            have hch7 : Ch [] w6 w7 := HO.out.2.grown hg7 (fun q hq => .inr (own_base HO.out.1 hq).1)
            have c7 : w7.cell? ⟨lb, m, none⟩ = some (.int .i64 b) := hch7.cell0 HR.out.2
            have HO := Lib.hid (And.intro hown7 hch7)
            clear hown7 hg7 hch7 c1 HR
            go_wp2_with (at_builtin; refine wpList_append_src _ rfl _ _ 38 rfl w6.heap.size 2 i0 _ 1 8 Try.underlying38 hi0 hz0 hzs hzy rfl (by decide) _ _ _ rfl (HO.out.1.alloc _) (some ⟨w7.heap.size, 0, none⟩) 1 1 [.int .i64 b] rfl rfl (fun _ => ⟨_, rfl, cell_one_new _ _ _⟩) (by intro u hu; simp at hu; subst hu; rfl) (by unfold maxLen; omega) (by omega) (by have := HO.out.2.size; simp; omega) ?_)
            intro v' w8 hown8 hg8
            have hch8 : Ch [] w6 w8 := (HO.out.2.alloc _).grown hg8 (fun q hq => .inr (own_base HO.out.1 hq).1)
            have hw : wanted is b (ls.take (m + 1)) = wanted is b (ls.take m) ++ (is ++ [(b : Int)]) := by rw [htk, wanted_snoc]; congr 1; rw [if_pos rfl]
            have hown9 : w8.ownsRow w6.heap.size 2 1 v' (wanted is b (ls.take (m + 1))).length (ids (wanted is b (ls.take (m + 1)))) := by
              rw [hw]
              simpa [ids, Nat.add_assoc] using hown8
            have H8 := Lib.hid (And.intro hown9 hch8)
            clear hown8 hg8 hch8 hw hown9 htk
            go_wp2
            go_roundg (gk - 1)
            case measure => have := HM.out; omega
            case rel => exact ⟨m + 1, by have := HM.out; omega, by go_num, H8.out⟩
          · have t1 : (z == (b : Int)) = false := by simpa using hzb
            have HZ := Lib.hid hzb
            clear hzb hz hcl
            go_wp2_with (at_builtin; refine wpList_append_src _ rfl _ _ 38 rfl w6.heap.size 2 i0 _ 1 8 Try.underlying38 hi0 hz0 hzs hzy rfl (by decide) _ _ _ rfl (HO.out.1.alloc _) (some ⟨wr.heap.size, 0, none⟩) 1 1 [.int .i64 z] rfl rfl (fun _ => ⟨_, rfl, cell_one_new _ _ _⟩) (by intro u hu; simp at hu; subst hu; rfl) (by unfold maxLen; omega) (by omega) (by have := HO.out.2.size; simp; omega) ?_)
            intro v' w8 hown8 hg8
            have hch8 : Ch [] w6 w8 := (HO.out.2.alloc _).grown hg8 (fun q hq => .inr (own_base HO.out.1 hq).1)
            have hw : wanted is b (ls.take (m + 1)) = wanted is b (ls.take m) ++ [z] := by rw [htk, wanted_snoc]; congr 1; rw [if_neg HZ.out]
            have hown9 : w8.ownsRow w6.heap.size 2 1 v' (wanted is b (ls.take (m + 1))).length (ids (wanted is b (ls.take (m + 1)))) := by
              rw [hw]
              simpa [ids, Nat.add_assoc] using hown8
            have H8 := Lib.hid (And.intro hown9 hch8)
            clear hown8 hg8 hch8 hw hown9 htk
            go_wp2
            go_roundg (gk - 1)
            case measure => have := HM.out; omega
            case rel => exact ⟨m + 1, by have := HM.out; omega, by go_num, H8.out⟩
        · obtain rfl : m = ls.length := by omega
          have hres := HQ.out.2.2.2.1
          have ho := HO.out.1
          rw [List.take_length] at ho hwl2
          by_cases hb0 : (b : Int) = 0
          · have t1 : ((b : Int) == 0) = true := by simpa using hb0
            rw [if_pos hb0] at hres
            have HR := Lib.hid (And.intro hres (H6.out.2.1.ch HO.out.2 (by simp)).src)
            have HP := Lib.hid ho
            clear hres ho hb0
            go_wp2_with (at_builtin; refine wpList_append_src _ rfl _ _ 38 rfl w6.heap.size 2 i0 _ 1 8 Try.underlying38 hi0 hz0 hzs hzy rfl (by decide) _ _ _ rfl HP.out aa is.length ca (ids is) rfl (by simp [ids_len]) HR.out.2 HQ.out.2.2.2.2.2.1 (by unfold maxLen; omega) (by omega) HO.out.2.size ?_)
            intro v7 w7 hown7 hg7
            have hch7 : Ch [] w6 w7 := HO.out.2.grown hg7 (fun q hq => .inr (own_base HP.out hq).1)
            have hown : w7.ownsRow w6.heap.size 2 1 v7 (res (upto j) is b).length (ids (res (upto j) is b)) := by
              rw [← HR.out.1]
              simpa [ids] using hown7
            obtain ⟨rb, _, hr7⟩ := Row1.of_own hown (ids_len _).symm
            have hx7 := H6.out.1.ch0 hch7
            have hA := Lib.hid (sall w7 PT xb tb mb (wn + d) n' (res (upto j) is b) hx7 HQ.out.2.2.2.2.1)
            have H7 := Lib.hid (And.intro hr7 hch7)
            clear hown hch7 hr7 hx7 hown7 hg7
            go_wp2_with fail
            (with_reducible refine hA.out.mono ?_)
            rintro e w9 ⟨sv, rfl, ho9, hc9⟩
            obtain ⟨sb, _, hr9⟩ := Row1.of_own ho9 (ids_len _).symm
            have hI := Lib.hid (ids_same w9 sb 0 rb 0 sv _ _ hr9 (H7.out.1.ch hc9 (by simp)) HQ.out.2.2.2.2.1)
            have H9 := Lib.hid ((H6.out.2.2.trans H7.out.2).trans hc9)
            clear ho9 hc9 hr9 hA
            go_wp2_with fail
            (with_reducible refine hI.out.mono ?_)
            rintro e w10 ⟨rfl, q, rfl⟩
            go_wp2
            go_ret
            exact ⟨rfl, H9.out.trans (drewN_ch w9 q)⟩
          · have t1 : ((b : Int) == 0) = false := by simpa using hb0
            rw [if_neg hb0, List.append_nil] at hres
            rw [hres] at ho
            have hown := ho
            have hch7 := HO.out.2
            clear hb0 ho
            obtain ⟨rb, _, hr7⟩ := Row1.of_own hown (ids_len _).symm
            have hx7 := H6.out.1.ch0 hch7
            have hA := Lib.hid (sall wr PT xb tb mb (wn + d) n' (res (upto j) is b) hx7 HQ.out.2.2.2.2.1)
            have H7 := Lib.hid (And.intro hr7 hch7)
            clear hown hch7 hr7 hx7 hres
            go_wp2_with fail
            (with_reducible refine hA.out.mono ?_)
            rintro e w9 ⟨sv, rfl, ho9, hc9⟩
            obtain ⟨sb, _, hr9⟩ := Row1.of_own ho9 (ids_len _).symm
            have hI := Lib.hid (ids_same w9 sb 0 rb 0 sv _ _ hr9 (H7.out.1.ch hc9 (by simp)) HQ.out.2.2.2.2.1)
            have H9 := Lib.hid ((H6.out.2.2.trans H7.out.2).trans hc9)
            clear ho9 hc9 hr9 hA
            go_wp2_with fail
            (with_reducible refine hI.out.mono ?_)
            rintro e w10 ⟨rfl, q, rfl⟩
            go_wp2
            go_ret
            exact ⟨rfl, H9.out.trans (drewN_ch w9 q)⟩
end Go.Proofs.Ytjecadkmlakncaa
