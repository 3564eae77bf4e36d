/-
  The tree: At.
-/
import Derived.Test.YtjecadkmlakncaaTe3
namespace Go.Proofs.Ytjecadkmlakncaa
open Go.RowKit

set_option maxRecDepth 100000 in
set_option maxHeartbeats 2000000 in
/-- At tells the element of a place. -/
theorem at_ok (w : World) (P : Nat → Prop) (tb wt h rb i : Nat) (xs : List Value) (z : Int) (ht : TreeBlk w tb (PN rb) wt) (hn : NodeW w P 1 2 h rb xs) (hN : xs.length ≤ 10000) (hv : xs[i]? = some (.int .i64 z)) :
    Calls Try.prog 35 #[PN tb, .int .i64 i] w fun e w' => e = .returned (.tuple #[.int .i64 z, .bool true]) ∧ w = w' := by
  obtain ⟨lv0, kv0, hb0⟩ := hn.blk
  have hi : i < xs.length := (List.getElem?_eq_some_iff.1 hv).1
  have t1 : w.cell? ⟨tb, 0, none⟩ = some (PN rb) := by rw [cell_of ht]; rfl
  have i1 : (i : Int) < (xs.length : Int) := by omega
  have i0 : decide (xs.length ≤ i) = false := by simp; omega
  have i2 : decide ((i : Int) < 0) = false := by simp
  have HL := Lib.hid (len_some w tb wt rb xs.length lv0 kv0 ht hb0)
  have H := Lib.hid (And.intro hn (And.intro hN hv))
  clear hn hN hv hb0 ht
  go_enter Try.func35, Try.ntmps35
  go_wp2_with (go_at_call 47; refine HL.out.mono ?_; rintro e w' ⟨rfl, rfl⟩)
  clear i1 i0 i2 hi
  go_loopg [1, 7] h (fun g iv xv wr => ∃ (b d : Nat) (ys : List Value), iv = .int .i64 d ∧ xv = PN b ∧ NodeW w P 1 2 g b ys ∧ ys.length ≤ 10000 ∧ ys[d]? = some (.int .i64 z) ∧ w = wr)
  case atStart => exact ⟨rb, i, xs, rfl, rfl, H.out.1, H.out.2.1, H.out.2.2, rfl⟩
  case round =>
    obtain ⟨b, d, ys, rfl, rfl, hn, hN, hv, rfl⟩ := hrel
    have hd : d < ys.length := (List.getElem?_eq_some_iff.1 hv).1
    have i1 : (d : Int) < (ys.length : Int) := by omega
    match gk, hn with
    | 0, hn =>
      obtain ⟨lv, kv, b1, o1, hl, _⟩ := hn
      obtain ⟨a1, c1, rfl, _, ha1⟩ := hl.row.shape
      obtain ⟨a2, c2, rfl⟩ := hl.kid
      have hne : ys ≠ [] := by rintro rfl; simp at hd
      obtain rfl := ha1 hne
      have k1 : w.cell? ⟨b, 0, none⟩ = some (.slice (some ⟨b1, o1, none⟩) ys.length c1) := by rw [cell_of hl.blk]; rfl
      have k2 : w.cell? ⟨b, 1, none⟩ = some (.slice a2 0 c2) := by rw [cell_of hl.blk]; rfl
      have k3 := hl.row.get d _ hv
      clear hl hv hne ha1 hN
      go_wp2
      go_ret2
      exact ⟨rfl, rfl⟩
    | g + 1, hn =>
      obtain ⟨lv, kv, b1, o1, ks, yss, hin, hl, hx, hko, _, _, hkid⟩ := hn
      have hdn := down_any w b b1 o1 ys.length d lv kv ks yss hin hl (by omega) (by rw [← hx]; exact hN) (by rw [← hx]; omega) (fun j k zs hj hz => (hkid j k zs hj hz).blk)
      obtain ⟨a1, c1, rfl, _, ha1⟩ := hin.row.shape
      have hne : ks.map PN ≠ [] := by intro h; simp at h; subst h; simp at hko
      obtain rfl := ha1 hne
      have hblk := hin.blk
      rw [List.length_map] at hblk
      have k2 : w.cell? ⟨b, 1, none⟩ = some (.slice (some ⟨b1, o1, none⟩) ks.length c1) := by rw [cell_of hblk]; rfl
      have hk0 : (0 : Int) < (ks.length : Int) := by omega
      have hk1 : ¬ (ks.length = 0) := by omega
      have hk2 : 0 < ks.length := by omega
      have HD := Lib.hid hdn
      have HX := Lib.hid (And.intro hl (And.intro hx (And.intro hkid (And.intro hin.row.get (And.intro hv hN)))))
      clear hdn hin hl hx hkid hv hN hne hblk ha1
      go_wp2_with fail
      refine HD.out.mono ?_
      rintro e w' ⟨k, d', zs, rfl, hlies, hz, _, hlt, rfl⟩
      obtain ⟨hl, hx, hkid, hget, hv, hN⟩ := HX.out
      have hklt : k < ks.length := by rw [hl]; exact hlies.lt
      obtain ⟨q, hq⟩ : ∃ q, ks[k]? = some q := ⟨_, List.getElem?_eq_getElem hklt⟩
      have k3 : w.cell? ⟨b1, o1 + k, none⟩ = some (PN q) := hget k _ (by rw [List.getElem?_map, hq]; rfl)
      have hlt' := hlt (by rw [← hx]; exact hd)
      have hv' : zs[d']? = some (.int .i64 z) := by rw [← get_flatten yss d k d' zs hlies hz hlt', ← hx]; exact hv
      have hzl : zs.length ≤ 10000 := by have := lies_len hz; rw [← hx] at this; omega
      have hnk := hkid k q zs hq hz
      have HN := Lib.hid (And.intro hnk (And.intro hzl hv'))
      have j1 : (k : Int) < (ks.length : Int) := by omega
      clear hl hx hkid hget hv hN hq hlt hlt' hv' hzl hnk hlies hz hd i1
      go_wp2
      go_roundg g
      case measure => omega
      case rel => exact ⟨q, d', zs, rfl, rfl, HN.out.1, HN.out.2.1, HN.out.2.2, rfl⟩
set_option maxRecDepth 100000 in
theorem at_neg (w : World) (tb : Nat) (i : Int) (h0 : i < 0) :
    Calls Try.prog 35 #[PN tb, .int .i64 i] w fun e w' => e = .returned (.tuple #[.int .i64 0, .bool false]) ∧ w = w' := by
  go_enter Try.func35, Try.ntmps35
  go_wp2_with fail
  go_ret2
  exact ⟨rfl, rfl⟩
set_option maxRecDepth 100000 in
theorem at_past (w : World) (tb n : Nat) (i : Int) (hlen : Calls Try.prog 47 #[PN tb] w fun e w' => e = .returned (.int .i64 n) ∧ w = w') (h0 : 0 ≤ i) (h1 : (n : Int) ≤ i) :
    Calls Try.prog 35 #[PN tb, .int .i64 i] w fun e w' => e = .returned (.tuple #[.int .i64 0, .bool false]) ∧ w = w' := by
  have HL := Lib.hid hlen
  clear hlen
  go_enter Try.func35, Try.ntmps35
  go_wp2_with (go_at_call 47; refine HL.out.mono ?_; rintro e w' ⟨rfl, rfl⟩)
  go_ret2
  exact ⟨rfl, rfl⟩
end Go.Proofs.Ytjecadkmlakncaa
