/-
  SeqMoves: the walk.
-/
import Derived.Test.YtjecadkmlakncaaSm1
import Derived.Test.YtjecadkmlakncaaPs1
namespace Go.Proofs.Ytjecadkmlakncaa
open Go.RowKit

/-- The rows at hand are 1 .. k. -/
structure Rows1 (k : Nat) (xs : List Int) : Prop where
  len : xs.length = k
  mem : ∀ y, y ∈ xs ↔ 1 ≤ y ∧ y ≤ k
theorem Rows1.upto (k : Nat) : Rows1 k (upto k) := ⟨upto_len k, fun _ => upto_mem⟩
/-- What stands in memory when the two lists are held against one another. -/
structure Held2 (W : World) (i a k : Nat) (z : Int) (b1 o1 b2 o2 : Nat) (a1 a2 : Option Addr) (xs ys : List Int) : Prop where
  x1 : a1 = some ⟨b1, o1, none⟩
  y1 : a2 = some ⟨b2, o2, none⟩
  xc : ∀ j y, xs[j]? = some y → W.cell? ⟨b1, o1 + j, none⟩ = some (.int .i64 y)
  yc : ∀ j y, ys[j]? = some y → W.cell? ⟨b2, o2 + j, none⟩ = some (.int .i64 y)
  xl : xs.length = k
  yl : ys.length = k
  xz : xs[i]? = some z
  yz : ys[a]? = some z
  xn : xs.Nodup
  yn : ys.Nodup
  same : ∀ t, t + 1 < k → xs[past i t]? = ys[past a t]?

/-- How many others stand ahead of place m in the first list; where one goes on in the second. -/
def tOf (p m : Nat) : Nat := if m ≤ p then m else m - 1
def jOf (p2 t : Nat) : Nat := if t ≤ p2 then t else t + 1
set_option maxRecDepth 100000 in
set_option maxHeartbeats 16000000 in
theorem seqMoves_any (an : Int) (b o c : Nat) (aa : Option Addr) (bs : List Int) (w : World) (hn0 : 0 ≤ an) (hn1 : an ≤ 255) (haa : bs ≠ [] → aa = some ⟨b, o, none⟩) (hbs : ∀ j x, bs[j]? = some x → w.cell? ⟨b, o + j, none⟩ = some (.int .u8 x)) (hbd : ∀ x, x ∈ bs → 0 ≤ x ∧ x ≤ 255) (hlen : bs.length ≤ 9223372036854775807) :
    Calls Try.prog 4 #[.int .u8 an, .slice aa bs.length c] w fun e w' => e = .returned (.bool true) ∧ Ch [] w w' := by
  by_cases h40 : bs.length ≤ 40
  · obtain ⟨k0, hk0⟩ : ∃ k0 : Nat, an % 20 = k0 := ⟨(an % 20).toNat, by omega⟩
    have hk30 : k0 < 20 := by omega
    obtain ⟨k, hk⟩ : ∃ k : Nat, k = k0 + 2 := ⟨_, rfl⟩
    have hkk : (k0 : Int) + 2 = (k : Int) := by omega
    have hk1 : 2 ≤ k := by omega
    have hk2 : k ≤ 21 := by omega
    have h40' : ¬ (40 < bs.length) := by omega
    have h40d : decide ((40 : Int) < (bs.length : Int)) = false := by simp; omega
    have hps : ∀ j, j < bs.length → ∃ a, 0 ≤ a ∧ a ≤ 255 ∧ aa = some ⟨b, o, none⟩ ∧ ∀ W, Ch [] w W → W.cell? ⟨b, o + j, none⟩ = some (.int .u8 a) := fun j hj => by
      have ha : bs[j]? = some bs[j] := List.getElem?_eq_getElem hj
      have hd := hbd _ (List.mem_of_getElem? ha)
      exact ⟨bs[j], hd.1, hd.2, haa (by rintro rfl; simp at hj), fun W hc => hc.cell0 (hbs j _ ha)⟩
    obtain ⟨n, hn⟩ : ∃ n, n = bs.length := ⟨_, rfl⟩
    rw [← hn] at hps h40 h40' h40d ⊢
    have HPS := Lib.hid hps
    clear hps haa hbs hbd hlen hk hn
    go_enter Try.func4, Try.ntmps4
    go_wp2_with fail
    refine (sknown w).mono ?_
    rintro e w1 ⟨rfl, hc1⟩
    have hN := Lib.hid (snew w1)
    have HC1 := Lib.hid hc1
    clear hc1
    go_wp2_with fail
    refine hN.out.mono ?_
    rintro e w2 ⟨xb, tb, mb, rfl, hx2, hc2, htb, hmb⟩
    have HB := Lib.hid (And.intro (hx2 PT) (And.intro (HC1.out.trans hc2) (And.intro (Nat.le_trans HC1.out.size htb) (Nat.le_trans HC1.out.size hmb))))
    clear hx2 hc2 htb hmb HC1 hN
    go_wp2_with fail
    clear hk0 hkk hn0 hn1
    go_loopg [7] k (fun g iv wr => ∃ j wn : Nat, g + j = k ∧ iv = .int .i64 ((j : Int) + 1) ∧ wn ≤ 78 * j ∧ IxAt SeqT wr PT xb tb mb (upto j) wn j ∧ Ch [] w wr)
    case atStart => exact ⟨0, 0, rfl, rfl, Nat.le_refl _, HB.out.1, HB.out.2.1⟩
    case round =>
      obtain ⟨j, wn, hgj, rfl, hwn, hx, hc⟩ := hrel
      have hjk : j ≤ k := by omega
      have HJ := Lib.hid (And.intro hgj hwn)
      have hwn2 : wn ≤ 10000 := by omega
      clear hgj hwn
      by_cases hlt : j < k
      · have hp := Lib.hid (sadd_ok wr PT xb tb mb wn j ((j : Int) + 1) (upto j) hx (wf_small (by omega) (by omega)) (by rw [upto_mem]; omega) (by rw [upto_len]; omega) (by omega) (by omega))
        have HC := Lib.hid hc
        have i1 : (j : Int) + 1 ≤ (k : Int) := by omega
        clear hx hc
        go_wp2_with fail
        refine hp.out.mono ?_
        intro e w3 hr
        obtain ⟨rfl, d, hd, hx3, hc3⟩ := hr.use HC.out HB.out.2.2.1 HB.out.2.2.2 (by rw [upto_len]; omega)
        have hsnoc : upto j ++ [(j : Int) + 1] = upto (j + 1) := by simp [upto, List.range_succ]
        rw [hsnoc] at hx3
        have H3 := Lib.hid (And.intro hx3 (And.intro hc3 hd))
        clear hr hx3 hc3 hd hp HC hsnoc
        go_wp2
        go_roundg (gk - 1)
        case measure => have := HJ.out; omega
        case rel => exact ⟨j + 1, wn + d, by have := HJ.out; omega, by go_num, by have := HJ.out; have := H3.out.2.2; omega, H3.out.1, H3.out.2.1⟩
      · obtain rfl : j = k := by omega
        have H3 := Lib.hid (And.intro hx hc)
        have i1 : ¬ ((j : Int) + 1 ≤ (j : Int)) := by omega
        clear hx hc hlt hjk
        go_wp2_with fail
        clear i1
        go_loopg [8] n (fun g iv wr => ∃ (i wn nn : Nat) (xs : List Int), g + i = n ∧ iv = .int .i64 i ∧ wn ≤ 10000 + 200 * i ∧ nn ≤ 1000 + i ∧ Rows1 j xs ∧ IxAt SeqT wr PT xb tb mb xs wn nn ∧ Ch [] w wr)
        case atStart => exact ⟨0, wn, j, upto j, rfl, rfl, by omega, by omega, Rows1.upto j, H3.out⟩
        case round =>
          obtain ⟨GI, rfl⟩ : ∃ G, G = gk := ⟨_, rfl⟩
          obtain ⟨i, wn, nn, xs, hgi, rfl, hwn, hnn, hrows, hx, hc⟩ := hrel
          have HRW := Lib.hid hrows
          have hin : i ≤ n := by omega
          have HJ2 := Lib.hid (And.intro hgi (And.intro hwn hnn))
          have hwn3 : wn ≤ 20000 := by omega
          have hnn3 : nn ≤ 10000 := by omega
          clear hgi hwn hnn
          by_cases hlt : i < n
          · obtain ⟨a, ha0, ha1, rfl, hcell⟩ := HPS.out i hlt
            obtain ⟨v0, hv0⟩ : ∃ v0 : Nat, a % (j : Int) = v0 := ⟨(a % (j : Int)).toNat, by have := Int.emod_nonneg a (show (j : Int) ≠ 0 by omega); omega⟩
            have hv1 : v0 < j := by have := Int.emod_lt_of_pos a (show (0 : Int) < (j : Int) by omega); omega
            obtain ⟨bf, hbf⟩ : ∃ bf : Nat, a / 16 % ((j : Int) + 1) = bf := ⟨(a / 16 % ((j : Int) + 1)).toNat, by have := Int.emod_nonneg (a / 16) (show (j : Int) + 1 ≠ 0 by omega); omega⟩
            have hbf1 : bf ≤ j := by have := Int.emod_lt_of_pos (a / 16) (show (0 : Int) < (j : Int) + 1 by omega); omega
            obtain ⟨z, hz⟩ : ∃ z : Int, z = (v0 : Int) + 1 := ⟨_, rfl⟩
            have hzm : z ∈ xs := (hrows.mem z).2 (by omega)
            obtain ⟨p, hp⟩ := List.mem_iff_getElem?.1 hzm
            have hpl : p < j := by have := (List.getElem?_eq_some_iff.1 hp).1; rw [hrows.len] at this; exact this
            have hcell1 := hcell wr hc
            have HX := Lib.hid (And.intro hx (And.intro hc (And.intro hrows hp)))
            have i1 : (i : Int) < (n : Int) := by omega
            have a1 : IntKind.i64.wrap a = a := by rw [IntKind.wrap_i64]; omega
            have a2 : a.tmod (j : Int) = (v0 : Int) := by rw [Int.tmod_eq_emod_of_nonneg ha0]; exact hv0
            have a3 : IntKind.i64.wrap (v0 : Int) = (v0 : Int) := by rw [IntKind.wrap_i64]; omega
            have a31 : IntKind.i64.wrap ((v0 : Int) + 1) = (v0 : Int) + 1 := by rw [IntKind.wrap_i64]; omega
            have a4 : a.tdiv 16 = a / 16 := Int.tdiv_eq_ediv_of_nonneg ha0
            have a6 : IntKind.i64.wrap (a / 16) = a / 16 := by rw [IntKind.wrap_i64]; omega
            have a65 : IntKind.i64.wrap ((j : Int) + 1) = (j : Int) + 1 := by rw [IntKind.wrap_i64]; omega
            have a7 : (a / 16).tmod ((j : Int) + 1) = (bf : Int) := by rw [Int.tmod_eq_emod_of_nonneg (by omega)]; exact hbf
            have a8 : IntKind.i64.wrap (bf : Int) = (bf : Int) := by rw [IntKind.wrap_i64]; omega
            have b1 : ¬ ((j : Int) = 0) := by omega
            have b2 : ¬ (j = 0) := by omega
            have b3 : ¬ ((j : Int) + 1 = 0) := by omega
            have hz1 : 1 ≤ z := by omega
            have hz2 : z ≤ j := by omega
            clear hx hc hrows hzm hp hv0 hbf hcell
            go_wp2_with fail
            go_quiet (fail)
            clear a1 a2 a3 a31 a4 a6 a65 a7 a8 b1 b2 b3 hcell1
            rw [← hz]
            clear hz hv1
            have hq : Ch [] wr (wr.drewN nq) := drewN_ch _ _
            obtain ⟨hx, hc, hrows, hp⟩ := HX.out
            have hx0 : IxAt SeqT (wr.drewN nq) PT xb tb mb xs wn nn := hx.ch0 hq
            have hc0 := hc.trans hq
            clear hx hc HX
            generalize wr.drewN nq = wq at *
            have hl5 : xs.length ≤ 5000 := by rw [hrows.len]; omega
            have hA := Lib.hid (sall wq PT xb tb mb wn nn xs hx0 hl5)
            have HX := Lib.hid (And.intro hx0 (And.intro hc0 (And.intro hrows hp)))
            clear hx0 hc0 hrows hp hq
            go_wp2_with fail
            (with_reducible refine hA.out.mono ?_)
            rintro e w3 ⟨sv1, rfl, ho3, hc3⟩
            obtain ⟨hx0, hc0, hrows, hp⟩ := HX.out
            obtain ⟨r1, _, hr1⟩ := Row1.of_own ho3 (ids_len xs).symm
            have hx3 := hx0.ch0 hc3
            have hM := Lib.hid (smove_any w3 PT xb tb mb wn nn p z bf xs hx3 (by rw [hrows.len]; omega) (by omega) (by omega) hp (by omega) (by
              by_cases h0 : bf = 0
              · left; omega
              · right; rw [hrows.mem]; omega))
            have H3' := Lib.hid (And.intro hx3 (And.intro (hc0.trans hc3) hr1))
            clear ho3 hc3 hr1 hx3 hx0 hc0 hrows hp hA
            go_wp2_with fail
            (with_reducible refine hM.out.mono ?_)
            rintro e w4 ⟨ys, p2, n4, hmt, hn4, hres⟩
            have hix := hres.ch
            have hr1' := H3'.out.2.2.ix H3'.out.1 hix
            obtain ⟨rfl, d4, hd4, hx4, hc4⟩ := hres.use H3'.out.2.1 HB.out.2.2.1 HB.out.2.2.2
            have hl5' : ys.length ≤ 5000 := by rw [hmt.len]; exact hl5
            have hA2 := Lib.hid (sall w4 PT xb tb mb (wn + d4) n4 ys hx4 hl5')
            have H4 := Lib.hid (And.intro hx4 (And.intro hc4 (And.intro hr1' (And.intro hmt (And.intro hd4 hn4)))))
            clear hres hix hr1' hx4 hc4 hmt hd4 hn4 hM H3'
            go_wp2_with fail
            (with_reducible refine hA2.out.mono ?_)
            rintro e w5 ⟨sv2, rfl, ho5, hc5⟩
            obtain ⟨hx4, hc4, hr1', hmt, hd4, hn4⟩ := H4.out
            obtain ⟨hx0, hc0, hrows, hp⟩ := HX.out
            obtain ⟨r2, _, hr2⟩ := Row1.of_own ho5 (ids_len ys).symm
            have hx5 := hx4.ch0 hc5
            have hr15 := hr1'.ch hc5 (by simp)
            obtain ⟨c1a, c1c, rfl, _, c1e⟩ := hr15.shape
            obtain ⟨c2a, c2c, rfl, _, c2e⟩ := hr2.shape
            rw [ids_len, hrows.len] at hr15
            rw [ids_len, hmt.len, hrows.len] at hr2
            have hne1 : ids xs ≠ [] := by intro h; have := ids_len xs; rw [h, hrows.len] at this; simp at this; omega
            have hne2 : ids ys ≠ [] := by intro h; have := ids_len ys; rw [h, hmt.len, hrows.len] at this; simp at this; omega
            have hk5 : Held2 w5 p p2 j z r1 0 r2 0 c1a c2a xs ys := ⟨c1e hne1, c2e hne2, fun j' y hy => hr15.get j' _ (ids_get hy), fun j' y hy => hr2.get j' _ (ids_get hy), hrows.len, by rw [hmt.len, hrows.len], hp, hmt.at_, hx0.nodup, hmt.nodup, fun t ht => hmt.same t (by rw [hrows.len]; exact ht)⟩
            have hP := Lib.hid (splace_ok w5 PT xb tb mb (wn + d4) n4 p2 z ys hx5 hl5' hmt.at_)
            have H5 := Lib.hid (And.intro hx5 (And.intro (hc4.trans hc5) (And.intro hk5 (And.intro hmt (And.intro hd4 hn4)))))
            have e1 : (ids xs).length = j := by rw [ids_len, hrows.len]
            have e2 : (ids ys).length = j := by rw [ids_len, hmt.len, hrows.len]
            rw [e1, e2]
            obtain rfl := hk5.x1
            obtain rfl := hk5.y1
            have x0 : w5.cell? ⟨r1, p, none⟩ = some (.int .i64 z) := by have := hk5.xc p z hp; simpa using this
            have y0 : w5.cell? ⟨r2, p2, none⟩ = some (.int .i64 z) := by have := hk5.yc p2 z hmt.at_; simpa using this
            have hp2l : p2 < j := by have := (List.getElem?_eq_some_iff.1 hmt.at_).1; rw [hmt.len, hrows.len] at this; exact this
            have hlast : (bf : Int) = 0 → p2 + 1 = j := fun h => by have := hmt.last h; rw [hrows.len] at this; exact this
            have hnext : (bf : Int) ≠ 0 → (bf : Int) ≠ z → p2 + 1 < j ∧ w5.cell? ⟨r2, p2 + 1, none⟩ = some (.int .i64 bf) := fun h h' => by
              obtain ⟨n1, n2⟩ := hmt.next h h'
              rw [hrows.len] at n1
              exact ⟨n1, by have := hk5.yc _ _ n2; simpa using this⟩
            have HNx := Lib.hid (And.intro hlast hnext)
            have q1 : (z != z) = false := by simp
            have q2 : ((j : Int) != (j : Int)) = false := by simp
            have q3 : (p : Int) < (j : Int) := by omega
            have q4 : (p2 : Int) < (j : Int) := by omega
            clear hx0 hc0 hrows hp ho5 hc5 hr2 hr15 hr1' hx4 hc4 hmt hd4 hn4 hk5 hx5 hne1 hne2 c1e c2e e1 e2 hlast hnext hl5 hl5' hA2 H4 HX
            go_wp2_with fail
            (with_reducible refine hP.out.mono ?_)
            rintro e w6 ⟨rfl, hc6⟩
            have hnx6 : (bf : Int) ≠ 0 → (bf : Int) ≠ z → p2 + 1 < j ∧ w6.cell? ⟨r2, p2 + 1, none⟩ = some (.int .i64 bf) := fun h h' => ⟨(HNx.out.2 h h').1, hc6.cell0 (HNx.out.2 h h').2⟩
            have HN6 := Lib.hid (And.intro HNx.out.1 hnx6)
            have hk6 : Held2 w6 p p2 j z r1 0 r2 0 (some ⟨r1, 0, none⟩) (some ⟨r2, 0, none⟩) xs ys := by
              have hk5 := H5.out.2.2.1
              exact ⟨rfl, rfl, fun j' y hy => hc6.cell0 (hk5.xc j' y hy), fun j' y hy => hc6.cell0 (hk5.yc j' y hy), hk5.xl, hk5.yl, hk5.xz, hk5.yz, hk5.xn, hk5.yn, hk5.same⟩
            have H6 := Lib.hid (And.intro (H5.out.1.ch0 hc6) (And.intro (H5.out.2.1.trans hc6) (And.intro hk6 (And.intro H5.out.2.2.2.1 H5.out.2.2.2.2))))
            clear hc6 hnx6 hk6 x0 y0 HNx hP H5
            have hcase : ((bf : Int) = 0 ∧ p2 + 1 = j) ∨ ((bf : Int) ≠ 0 ∧ (bf : Int) = z) ∨ ((bf : Int) ≠ 0 ∧ (bf : Int) ≠ z ∧ p2 + 1 < j) := by
              by_cases h0 : (bf : Int) = 0
              · exact .inl ⟨h0, HN6.out.1 h0⟩
              · by_cases h1 : (bf : Int) = z
                · exact .inr (.inl ⟨h0, h1⟩)
                · exact .inr (.inr ⟨h0, h1, (HN6.out.2 h0 h1).1⟩)
            have sj : IntKind.i64.wrap ((j : Int) - 1) = (j : Int) - 1 := by rw [IntKind.wrap_i64]; omega
            have sp : IntKind.i64.wrap ((p2 : Int) + 1) = (p2 : Int) + 1 := by rw [IntKind.wrap_i64]; omega
            have spt : ((p2 : Int) + 1).toNat = p2 + 1 := by omega
            have sp0 : (0 : Int) ≤ (p2 : Int) + 1 := by omega
            rcases hcase with ⟨h0, hl0⟩ | ⟨h0, h1⟩ | ⟨h0, h1, h2⟩
            · obtain rfl : bf = 0 := by omega
              have t1 : ((p2 : Int) != (j : Int) - 1) = false := by simp; omega
              have HL0 := Lib.hid hl0
              clear hl0 h0
              go_wp2_with fail
              clear t1 sj sp spt sp0 q1 q2
              go_loopg [17, 18] j (fun g jv mv wz => ∃ m q : Nat, g + m = j ∧ mv = .int .i64 m ∧ jv = .int .i64 (jOf p2 (tOf p m)) ∧ wz = w6.drewN q)
              case atStart => exact ⟨0, 0, rfl, rfl, by simp [tOf, jOf], rfl⟩
              case round =>
                obtain ⟨G, rfl⟩ : ∃ G, G = gk := ⟨_, rfl⟩
                obtain ⟨m, q, hgm, rfl, rfl, rfl⟩ := hrel
                have hmj : m ≤ j := by omega
                have HG := Lib.hid hgm
                clear hgm
                by_cases hlt : m < j
                · have hk6 := H6.out.2.2.1
                  obtain ⟨v, hv⟩ : ∃ v, xs[m]? = some v := ⟨_, List.getElem?_eq_getElem (by have := hk6.xl; omega)⟩
                  have x1 : w6.cell? ⟨r1, m, none⟩ = some (.int .i64 v) := by have := hk6.xc m v hv; simpa using this
                  have m1 : (m : Int) < (j : Int) := by omega
                  by_cases hmp : m = p
                  · subst hmp
                    have hvz : v = z := by have := hk6.xz; rw [hv] at this; exact Option.some.inj this
                    subst hvz
                    have t9 : (v == v) = true := by simp
                    have hT : tOf m (m + 1) = tOf m m := by unfold tOf; rw [if_neg (by omega), if_pos (by omega)]; omega
                    have HT := Lib.hid hT
                    clear hT hk6 hv
                    go_wp2
                    go_roundg (G - 1)
                    case measure => have := HG.out; omega
                    case rel => exact ⟨m + 1, _, by have := HG.out; omega, by go_num, by rw [HT.out], rfl⟩
                  · have hvz : v ≠ z := fun he => hmp (get_of_nodup hk6.xn (he ▸ hv) hk6.xz)
                    have hT1 : tOf p m + 1 < j := by unfold tOf; split <;> omega
                    have hpm : past p (tOf p m) = m := by unfold past tOf; split <;> split <;> omega
                    have hyv : ys[past p2 (tOf p m)]? = some v := by rw [← hk6.same _ hT1, hpm]; exact hv
                    have hTs : tOf p (m + 1) = tOf p m + 1 := by unfold tOf; split <;> split <;> omega
                    have hJs : jOf p2 (tOf p m + 1) = past p2 (tOf p m) + 1 := by unfold jOf past; split <;> split <;> omega
                    obtain ⟨Y, hY⟩ : ∃ Y, Y = past p2 (tOf p m) := ⟨_, rfl⟩
                    have hYl : Y < j := by rw [hY]; exact past_lt hT1
                    rw [← hY] at hyv hJs
                    have yq1 : w6.cell? ⟨r2, Y, none⟩ = some (.int .i64 v) := by have := hk6.yc Y v hyv; simpa using this
                    have yq2 : w6.cell? ⟨r2, p2, none⟩ = some (.int .i64 z) := by have := hk6.yc p2 z hk6.yz; simpa using this
                    have n1 : (Y : Int) < (j : Int) := by omega
                    have v1 : (v == z) = false := by rw [beq_eq_false_iff_ne]; exact hvz
                    have v2 : (v != v) = false := by simp
                    have v3 : (z == z) = true := by simp
                    have sY : IntKind.i64.wrap ((Y : Int) + 1) = (Y : Int) + 1 := by rw [IntKind.wrap_i64]; omega
                    have HS := Lib.hid (And.intro hTs (And.intro hJs hY))
                    have hYle : Y ≤ 100 := by omega
                    by_cases hTp : tOf p m = p2
                    · have hJ0 : jOf p2 (tOf p m) = p2 := by unfold jOf; rw [hTp]; simp
                      have hY1 : Y = p2 + 1 := by rw [hY, hTp]; unfold past; simp
                      rw [hJ0]
                      have HY1 := Lib.hid hY1
                      clear hk6 hv hT1 hpm hyv hTs hJs hY hTp hJ0 hY1
                      go_wp2_with fail
                      go_loopg [17] 1 (fun g jv wq2 => ∃ r : Nat, g + r = 1 ∧ jv = .int .i64 ((p2 + r : Nat) : Int) ∧ wq2 = w6.drewN q)
                      case atStart => exact ⟨0, rfl, rfl, rfl⟩
                      case round =>
                        obtain ⟨r, hgr, rfl, rfl⟩ := hrel
                        by_cases hr0 : r = 0
                        · subst hr0
                          rw [show p2 + 0 = p2 from rfl]
                          go_wp2
                          go_roundg 0
                          case measure => omega
                          case rel => exact ⟨1, rfl, by go_num, rfl⟩
                        · obtain rfl : r = 1 := by omega
                          rw [← HY1.out]
                          go_wp2_with fail
                          go_quiet (fail)
                          clear yq1 yq2
                          go_wp2
                          go_roundg (G - 1)
                          case measure => have := HG.out; omega
                          case rel => exact ⟨m + 1, _, by have := HG.out; omega, by go_num, by rw [HS.out.1, HS.out.2.1]; go_num, rfl⟩
                    · have hJ0 : jOf p2 (tOf p m) = Y := by rw [hY]; unfold jOf past; split <;> split <;> omega
                      rw [hJ0]
                      clear hk6 hv hT1 hpm hyv hTs hJs hY hTp hJ0
                      go_wp2_with fail
                      refine wp_loop_rounds 1 ?_
                      rw [rounds_succ]
                      go_wp2_with fail
                      go_quiet (fail)
                      clear yq1 yq2
                      go_wp2
                      go_roundg (G - 1)
                      case measure => have := HG.out; omega
                      case rel => exact ⟨m + 1, _, by have := HG.out; omega, by go_num, by rw [HS.out.1, HS.out.2.1]; go_num, rfl⟩
                · obtain rfl : m = j := by omega
                  have HE := Lib.hid (And.intro (H6.out.1.ch0 (drewN_ch w6 q)) (And.intro (H6.out.2.1.trans (drewN_ch w6 q)) (And.intro (Rows1.mk H6.out.2.2.1.yl (fun y => by rw [H6.out.2.2.2.1.mem, HRW.out.mem])) (And.intro H6.out.2.2.2.2.1 H6.out.2.2.2.2.2))))
                  clear hlt hmj H6
                  go_wp2
                  go_roundg (GI - 1)
                  case measure => have := HJ2.out; omega
                  case rel => exact ⟨i + 1, wn + d4, n4, ys, by have := HJ2.out; omega, by go_num, by have := HJ2.out; have := HE.out.2.2.2; omega, by have := HJ2.out; have := HE.out.2.2.2; omega, HE.out.2.2.1, HE.out.1, HE.out.2.1⟩
            · have t1 : ((bf : Int) == 0) = false := by rw [beq_eq_false_iff_ne]; exact h0
              have t2 : ((bf : Int) != 0) = true := by simpa using h0
              have t3 : ((bf : Int) != z) = false := by simp [h1]
              have HL0 := Lib.hid h1
              clear h0 h1
              go_wp2_with fail
              clear t1 t2 t3 sj sp spt sp0 q1 q2
              go_loopg [17, 18] j (fun g jv mv wz => ∃ m q : Nat, g + m = j ∧ mv = .int .i64 m ∧ jv = .int .i64 (jOf p2 (tOf p m)) ∧ wz = w6.drewN q)
              case atStart => exact ⟨0, 0, rfl, rfl, by simp [tOf, jOf], rfl⟩
              case round =>
                obtain ⟨G, rfl⟩ : ∃ G, G = gk := ⟨_, rfl⟩
                obtain ⟨m, q, hgm, rfl, rfl, rfl⟩ := hrel
                have hmj : m ≤ j := by omega
                have HG := Lib.hid hgm
                clear hgm
                by_cases hlt : m < j
                · have hk6 := H6.out.2.2.1
                  obtain ⟨v, hv⟩ : ∃ v, xs[m]? = some v := ⟨_, List.getElem?_eq_getElem (by have := hk6.xl; omega)⟩
                  have x1 : w6.cell? ⟨r1, m, none⟩ = some (.int .i64 v) := by have := hk6.xc m v hv; simpa using this
                  have m1 : (m : Int) < (j : Int) := by omega
                  by_cases hmp : m = p
                  · subst hmp
                    have hvz : v = z := by have := hk6.xz; rw [hv] at this; exact Option.some.inj this
                    subst hvz
                    have t9 : (v == v) = true := by simp
                    have hT : tOf m (m + 1) = tOf m m := by unfold tOf; rw [if_neg (by omega), if_pos (by omega)]; omega
                    have HT := Lib.hid hT
                    clear hT hk6 hv
                    go_wp2
                    go_roundg (G - 1)
                    case measure => have := HG.out; omega
                    case rel => exact ⟨m + 1, _, by have := HG.out; omega, by go_num, by rw [HT.out], rfl⟩
                  · have hvz : v ≠ z := fun he => hmp (get_of_nodup hk6.xn (he ▸ hv) hk6.xz)
                    have hT1 : tOf p m + 1 < j := by unfold tOf; split <;> omega
                    have hpm : past p (tOf p m) = m := by unfold past tOf; split <;> split <;> omega
                    have hyv : ys[past p2 (tOf p m)]? = some v := by rw [← hk6.same _ hT1, hpm]; exact hv
                    have hTs : tOf p (m + 1) = tOf p m + 1 := by unfold tOf; split <;> split <;> omega
                    have hJs : jOf p2 (tOf p m + 1) = past p2 (tOf p m) + 1 := by unfold jOf past; split <;> split <;> omega
                    obtain ⟨Y, hY⟩ : ∃ Y, Y = past p2 (tOf p m) := ⟨_, rfl⟩
                    have hYl : Y < j := by rw [hY]; exact past_lt hT1
                    rw [← hY] at hyv hJs
                    have yq1 : w6.cell? ⟨r2, Y, none⟩ = some (.int .i64 v) := by have := hk6.yc Y v hyv; simpa using this
                    have yq2 : w6.cell? ⟨r2, p2, none⟩ = some (.int .i64 z) := by have := hk6.yc p2 z hk6.yz; simpa using this
                    have n1 : (Y : Int) < (j : Int) := by omega
                    have v1 : (v == z) = false := by rw [beq_eq_false_iff_ne]; exact hvz
                    have v2 : (v != v) = false := by simp
                    have v3 : (z == z) = true := by simp
                    have sY : IntKind.i64.wrap ((Y : Int) + 1) = (Y : Int) + 1 := by rw [IntKind.wrap_i64]; omega
                    have HS := Lib.hid (And.intro hTs (And.intro hJs hY))
                    have hYle : Y ≤ 100 := by omega
                    by_cases hTp : tOf p m = p2
                    · have hJ0 : jOf p2 (tOf p m) = p2 := by unfold jOf; rw [hTp]; simp
                      have hY1 : Y = p2 + 1 := by rw [hY, hTp]; unfold past; simp
                      rw [hJ0]
                      have HY1 := Lib.hid hY1
                      clear hk6 hv hT1 hpm hyv hTs hJs hY hTp hJ0 hY1
                      go_wp2_with fail
                      go_loopg [17] 1 (fun g jv wq2 => ∃ r : Nat, g + r = 1 ∧ jv = .int .i64 ((p2 + r : Nat) : Int) ∧ wq2 = w6.drewN q)
                      case atStart => exact ⟨0, rfl, rfl, rfl⟩
                      case round =>
                        obtain ⟨r, hgr, rfl, rfl⟩ := hrel
                        by_cases hr0 : r = 0
                        · subst hr0
                          rw [show p2 + 0 = p2 from rfl]
                          go_wp2
                          go_roundg 0
                          case measure => omega
                          case rel => exact ⟨1, rfl, by go_num, rfl⟩
                        · obtain rfl : r = 1 := by omega
                          rw [← HY1.out]
                          go_wp2_with fail
                          go_quiet (fail)
                          clear yq1 yq2
                          go_wp2
                          go_roundg (G - 1)
                          case measure => have := HG.out; omega
                          case rel => exact ⟨m + 1, _, by have := HG.out; omega, by go_num, by rw [HS.out.1, HS.out.2.1]; go_num, rfl⟩
                    · have hJ0 : jOf p2 (tOf p m) = Y := by rw [hY]; unfold jOf past; split <;> split <;> omega
                      rw [hJ0]
                      clear hk6 hv hT1 hpm hyv hTs hJs hY hTp hJ0
                      go_wp2_with fail
                      refine wp_loop_rounds 1 ?_
                      rw [rounds_succ]
                      go_wp2_with fail
                      go_quiet (fail)
                      clear yq1 yq2
                      go_wp2
                      go_roundg (G - 1)
                      case measure => have := HG.out; omega
                      case rel => exact ⟨m + 1, _, by have := HG.out; omega, by go_num, by rw [HS.out.1, HS.out.2.1]; go_num, rfl⟩
                · obtain rfl : m = j := by omega
                  have HE := Lib.hid (And.intro (H6.out.1.ch0 (drewN_ch w6 q)) (And.intro (H6.out.2.1.trans (drewN_ch w6 q)) (And.intro (Rows1.mk H6.out.2.2.1.yl (fun y => by rw [H6.out.2.2.2.1.mem, HRW.out.mem])) (And.intro H6.out.2.2.2.2.1 H6.out.2.2.2.2.2))))
                  clear hlt hmj H6
                  go_wp2
                  go_roundg (GI - 1)
                  case measure => have := HJ2.out; omega
                  case rel => exact ⟨i + 1, wn + d4, n4, ys, by have := HJ2.out; omega, by go_num, by have := HJ2.out; have := HE.out.2.2.2; omega, by have := HJ2.out; have := HE.out.2.2.2; omega, HE.out.2.2.1, HE.out.1, HE.out.2.1⟩
            · have t1 : ((bf : Int) == 0) = false := by rw [beq_eq_false_iff_ne]; exact h0
              have t2 : ((bf : Int) != 0) = true := by simpa using h0
              have t3 : ((bf : Int) != z) = true := by simpa using h1
              have t4 : decide ((j : Int) ≤ (p2 : Int) + 1) = false := by simp; omega
              have t41 : decide (j ≤ p2 + 1) = false := by simp; omega
              have t42 : ¬ ((j : Int) ≤ (p2 : Int) + 1) := by omega
              have t43 : decide ((p2 : Int) + 1 ≥ (j : Int)) = false := by simp; omega
              have t5 : ((bf : Int) != (bf : Int)) = false := by simp
              have t6 : (p2 : Int) + 1 < (j : Int) := by omega
              obtain ⟨P2, hP2⟩ : ∃ P2, P2 = p2 + 1 := ⟨_, rfl⟩
              have y9 : w6.cell? ⟨r2, P2, none⟩ = some (.int .i64 bf) := by rw [hP2]; exact (HN6.out.2 h0 h1).2
              have spq : ((p2 : Int) + 1).toNat = P2 := by omega
              clear spt hP2
              clear h0 h1
              go_wp2_with fail
              clear t1 t2 t3 t4 t41 t42 t43 t5 t6 y9 sj sp spq sp0 q1 q2
              go_loopg [17, 18] j (fun g jv mv wz => ∃ m q : Nat, g + m = j ∧ mv = .int .i64 m ∧ jv = .int .i64 (jOf p2 (tOf p m)) ∧ wz = w6.drewN q)
              case atStart => exact ⟨0, 0, rfl, rfl, by simp [tOf, jOf], rfl⟩
              case round =>
                obtain ⟨G, rfl⟩ : ∃ G, G = gk := ⟨_, rfl⟩
                obtain ⟨m, q, hgm, rfl, rfl, rfl⟩ := hrel
                have hmj : m ≤ j := by omega
                have HG := Lib.hid hgm
                clear hgm
                by_cases hlt : m < j
                · have hk6 := H6.out.2.2.1
                  obtain ⟨v, hv⟩ : ∃ v, xs[m]? = some v := ⟨_, List.getElem?_eq_getElem (by have := hk6.xl; omega)⟩
                  have x1 : w6.cell? ⟨r1, m, none⟩ = some (.int .i64 v) := by have := hk6.xc m v hv; simpa using this
                  have m1 : (m : Int) < (j : Int) := by omega
                  by_cases hmp : m = p
                  · subst hmp
                    have hvz : v = z := by have := hk6.xz; rw [hv] at this; exact Option.some.inj this
                    subst hvz
                    have t9 : (v == v) = true := by simp
                    have hT : tOf m (m + 1) = tOf m m := by unfold tOf; rw [if_neg (by omega), if_pos (by omega)]; omega
                    have HT := Lib.hid hT
                    clear hT hk6 hv
                    go_wp2
                    go_roundg (G - 1)
                    case measure => have := HG.out; omega
                    case rel => exact ⟨m + 1, _, by have := HG.out; omega, by go_num, by rw [HT.out], rfl⟩
                  · have hvz : v ≠ z := fun he => hmp (get_of_nodup hk6.xn (he ▸ hv) hk6.xz)
                    have hT1 : tOf p m + 1 < j := by unfold tOf; split <;> omega
                    have hpm : past p (tOf p m) = m := by unfold past tOf; split <;> split <;> omega
                    have hyv : ys[past p2 (tOf p m)]? = some v := by rw [← hk6.same _ hT1, hpm]; exact hv
                    have hTs : tOf p (m + 1) = tOf p m + 1 := by unfold tOf; split <;> split <;> omega
                    have hJs : jOf p2 (tOf p m + 1) = past p2 (tOf p m) + 1 := by unfold jOf past; split <;> split <;> omega
                    obtain ⟨Y, hY⟩ : ∃ Y, Y = past p2 (tOf p m) := ⟨_, rfl⟩
                    have hYl : Y < j := by rw [hY]; exact past_lt hT1
                    rw [← hY] at hyv hJs
                    have yq1 : w6.cell? ⟨r2, Y, none⟩ = some (.int .i64 v) := by have := hk6.yc Y v hyv; simpa using this
                    have yq2 : w6.cell? ⟨r2, p2, none⟩ = some (.int .i64 z) := by have := hk6.yc p2 z hk6.yz; simpa using this
                    have n1 : (Y : Int) < (j : Int) := by omega
                    have v1 : (v == z) = false := by rw [beq_eq_false_iff_ne]; exact hvz
                    have v2 : (v != v) = false := by simp
                    have v3 : (z == z) = true := by simp
                    have sY : IntKind.i64.wrap ((Y : Int) + 1) = (Y : Int) + 1 := by rw [IntKind.wrap_i64]; omega
                    have HS := Lib.hid (And.intro hTs (And.intro hJs hY))
                    have hYle : Y ≤ 100 := by omega
                    by_cases hTp : tOf p m = p2
                    · have hJ0 : jOf p2 (tOf p m) = p2 := by unfold jOf; rw [hTp]; simp
                      have hY1 : Y = p2 + 1 := by rw [hY, hTp]; unfold past; simp
                      rw [hJ0]
                      have HY1 := Lib.hid hY1
                      clear hk6 hv hT1 hpm hyv hTs hJs hY hTp hJ0 hY1
                      go_wp2_with fail
                      go_loopg [17] 1 (fun g jv wq2 => ∃ r : Nat, g + r = 1 ∧ jv = .int .i64 ((p2 + r : Nat) : Int) ∧ wq2 = w6.drewN q)
                      case atStart => exact ⟨0, rfl, rfl, rfl⟩
                      case round =>
                        obtain ⟨r, hgr, rfl, rfl⟩ := hrel
                        by_cases hr0 : r = 0
                        · subst hr0
                          rw [show p2 + 0 = p2 from rfl]
                          go_wp2
                          go_roundg 0
                          case measure => omega
                          case rel => exact ⟨1, rfl, by go_num, rfl⟩
                        · obtain rfl : r = 1 := by omega
                          rw [← HY1.out]
                          go_wp2_with fail
                          go_quiet (fail)
                          clear yq1 yq2
                          go_wp2
                          go_roundg (G - 1)
                          case measure => have := HG.out; omega
                          case rel => exact ⟨m + 1, _, by have := HG.out; omega, by go_num, by rw [HS.out.1, HS.out.2.1]; go_num, rfl⟩
                    · have hJ0 : jOf p2 (tOf p m) = Y := by rw [hY]; unfold jOf past; split <;> split <;> omega
                      rw [hJ0]
                      clear hk6 hv hT1 hpm hyv hTs hJs hY hTp hJ0
                      go_wp2_with fail
                      refine wp_loop_rounds 1 ?_
                      rw [rounds_succ]
                      go_wp2_with fail
                      go_quiet (fail)
                      clear yq1 yq2
                      go_wp2
                      go_roundg (G - 1)
                      case measure => have := HG.out; omega
                      case rel => exact ⟨m + 1, _, by have := HG.out; omega, by go_num, by rw [HS.out.1, HS.out.2.1]; go_num, rfl⟩
                · obtain rfl : m = j := by omega
                  have HE := Lib.hid (And.intro (H6.out.1.ch0 (drewN_ch w6 q)) (And.intro (H6.out.2.1.trans (drewN_ch w6 q)) (And.intro (Rows1.mk H6.out.2.2.1.yl (fun y => by rw [H6.out.2.2.2.1.mem, HRW.out.mem])) (And.intro H6.out.2.2.2.2.1 H6.out.2.2.2.2.2))))
                  clear hlt hmj H6
                  go_wp2
                  go_roundg (GI - 1)
                  case measure => have := HJ2.out; omega
                  case rel => exact ⟨i + 1, wn + d4, n4, ys, by have := HJ2.out; omega, by go_num, by have := HJ2.out; have := HE.out.2.2.2; omega, by have := HJ2.out; have := HE.out.2.2.2; omega, HE.out.2.2.1, HE.out.1, HE.out.2.1⟩
          · obtain rfl : i = n := by omega
            have H4 := Lib.hid hc
            clear hx hc hlt hin hrows
            go_wp2
            go_ret
            exact ⟨rfl, H4.out⟩
  · have h40' : (40 : Int) < (bs.length : Int) := by omega
    clear haa hbs hbd h40
    go_enter Try.func4, Try.ntmps4
    go_wp2_with fail
    refine (sknown w).mono ?_
    rintro e w1 ⟨rfl, hc1⟩
    have HC1 := Lib.hid hc1
    clear hc1
    go_wp2
    go_ret
    exact ⟨rfl, HC1.out⟩
end Go.Proofs.Ytjecadkmlakncaa
