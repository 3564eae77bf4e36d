/-
  The tree: leaf, size, down.
-/
import Derived.Test.YtjecadkmlakncaaNd1
import Derived.Deep.LoopGhost
namespace Go.Proofs.Ytjecadkmlakncaa
open Go.RowKit

set_option maxRecDepth 100000 in
/-- leaf: a new node of these elements. -/
theorem leaf_any (w : World) (P : Nat → Prop) (tb wr : Nat) (root lv : Value) (b1 o1 : Nat) (xs : List Value) (hP : xs ≠ [] → P b1) (ht : TreeBlk w tb root wr) (hwr : wr + 1 ≤ 4611686018427387904) (hr : Row1 2 w b1 o1 lv xs) (h1 : ∀ u ∈ xs, u.oneCell' = true) (hl : xs.length ≤ 8) :
    Calls Try.prog 50 #[PN tb, lv] w fun e w' => e = .returned (PN w.heap.size) ∧ NodeW w' (fun k => P k ∨ k = w.heap.size) xs.length 2 0 w.heap.size xs ∧ Ch [tb] w w' ∧ TreeBlk w' tb root (wr + 1) := by
  obtain ⟨a0, c0, rfl, _, _⟩ := hr.shape
  have t1 : w.cell? ⟨tb, 1, none⟩ = some (.int .i64 wr) := by rw [cell_of ht]; rfl
  have tf : ∀ i, w.frozen? ⟨tb, i, none⟩ = false := fun i => free_of ht
  have tf1 := tf 1
  have hw : IntKind.i64.wrap ((wr : Int) + 1) = ((wr + 1 : Nat) : Int) := by rw [IntKind.wrap_i64]; omega
  have H := Lib.hid (And.intro ht (And.intro hr (And.intro h1 (And.intro hl hP))))
  clear hr h1 hl ht tf hP
  go_enter Try.func50, Try.ntmps50
  go_wp2
  go_ret
  obtain ⟨ht, hr, h1, hl, hP⟩ := H.out
  have htw : (w.setCell ⟨tb, 1, none⟩ (.int .i64 ((wr : Int) + 1))).heap[tb]? = some (.cells #[root, .int .i64 ((wr : Int) + 1)] 76 (0, 0)) := heap_setCell_same ht
  have hch : Ch [tb] w ((w.setCell ⟨tb, 1, none⟩ (.int .i64 ((wr : Int) + 1))).alloc (.cells #[.slice a0 xs.length c0, .slice none 0 0, .int .i64 xs.length] 83)) := ((Ch.refl [tb] w).setCell (by simp) _).alloc _
  have hnew := heap_alloc_same (w.setCell ⟨tb, 1, none⟩ (.int .i64 ((wr : Int) + 1))) (.cells #[.slice a0 xs.length c0, .slice none 0 0, .int .i64 xs.length] 83)
  rw [show (w.setCell ⟨tb, 1, none⟩ (.int .i64 ((wr : Int) + 1))).heap.size = w.heap.size by simp] at hnew
  exact ⟨rfl, ⟨_, _, b1, o1, ⟨hnew, ⟨none, 0, rfl⟩, hr.ch hch (fun hne hm => by simp at hm; exact hr.ne hne ht (by decide) hm), h1, hl⟩, Nat.le_refl _, .inr rfl, fun hne => .inl (hP hne)⟩, hch, heap_alloc_past htw⟩
set_option maxRecDepth 100000 in
theorem len_some (w : World) (tb wr b n : Nat) (lv kv : Value) (ht : TreeBlk w tb (PN b) wr) (hb : w.heap[b]? = some (.cells #[lv, kv, .int .i64 n] 83 (0, 0))) :
    Calls Try.prog 47 #[PN tb] w fun e w' => e = .returned (.int .i64 n) ∧ w = w' := by
  have t1 : w.cell? ⟨tb, 0, none⟩ = some (PN b) := by rw [cell_of ht]; rfl
  have t2 : w.cell? ⟨b, 2, none⟩ = some (.int .i64 n) := by rw [cell_of hb]; rfl
  clear ht hb
  go_enter Try.func47, Try.ntmps47
  go_wp2
  go_ret
  exact ⟨rfl, rfl⟩
set_option maxRecDepth 100000 in
theorem len_none (w : World) (tb wr : Nat) (ht : TreeBlk w tb (.pointer none) wr) :
    Calls Try.prog 47 #[PN tb] w fun e w' => e = .returned (.int .i64 0) ∧ w = w' := by
  have t1 : w.cell? ⟨tb, 0, none⟩ = some (.pointer none) := by rw [cell_of ht]; rfl
  clear ht
  go_enter Try.func47, Try.ntmps47
  go_wp2
  go_ret
  exact ⟨rfl, rfl⟩
set_option maxRecDepth 100000 in
theorem size_any (w : World) (b n m k : Nat) (a1 a2 : Option Addr) (c1 c2 : Nat) (hb : w.heap[b]? = some (.cells #[.slice a1 n c1, .slice a2 m c2, .int .i64 k] 83 (0, 0))) (hn : n ≤ 10000) (hm : m ≤ 10000) :
    Calls Try.prog 65 #[PN b] w fun e w' => e = .returned (.int .i64 ((n + m : Nat) : Int)) ∧ ∃ q, w' = w.drewN q := by
  have t1 : w.cell? ⟨b, 0, none⟩ = some (.slice a1 n c1) := by rw [cell_of hb]; rfl
  have t2 : w.cell? ⟨b, 1, none⟩ = some (.slice a2 m c2) := by rw [cell_of hb]; rfl
  have hs : IntKind.i64.wrap ((n : Int) + (m : Int)) = ((n + m : Nat) : Int) := by rw [IntKind.wrap_i64]; omega
  clear hb hn hm
  go_enter Try.func65, Try.ntmps65
  go_wp2_with fail
  go_quiet (fail)
  go_wp2
  go_ret
  exact ⟨rfl, _, rfl⟩

/-- What down tells. -/
def Down (w : World) (yss : List (List Value)) (i : Nat) (e : Ending) (w' : World) : Prop :=
  ∃ (k d : Nat) (ys : List Value), e = .returned (.tuple #[.int .i64 k, .int .i64 d]) ∧ Lies yss i k d ∧ yss[k]? = some ys ∧ d ≤ ys.length ∧ (i < yss.flatten.length → d < ys.length) ∧ w = w'
set_option maxRecDepth 100000 in
set_option maxHeartbeats 1000000 in
theorem down_any (w : World) (b b1 o1 n i : Nat) (lv kv : Value) (ks : List Nat) (yss : List (List Value)) (hin : InnerAt w b ks n lv kv b1 o1) (hl : ks.length = yss.length) (hk0 : 0 < ks.length) (hn : yss.flatten.length ≤ 10000) (hi : i ≤ yss.flatten.length)
    (hkid : ∀ (j k : Nat) (ys : List Value), ks[j]? = some k → yss[j]? = some ys → ∃ l1 k1, w.heap[k]? = some (.cells #[l1, k1, .int .i64 ys.length] 83 (0, 0))) :
    Calls Try.prog 54 #[PN b, .int .i64 i] w (Down w yss i) := by
  obtain ⟨a0, c0, rfl, _, ha0⟩ := hin.row.shape
  have hne : ks.map PN ≠ [] := by intro h; simp at h; subst h; simp at hk0
  obtain rfl := ha0 hne
  have hget := hin.row.get
  have hblk := hin.blk
  have hle := hin.le
  rw [List.length_map] at hblk
  have t1 : w.cell? ⟨b, 1, none⟩ = some (.slice (some ⟨b1, o1, none⟩) ks.length c0) := by rw [cell_of hblk]; rfl
  have HG := Lib.hid (And.intro hget hkid)
  have HL := Lib.hid hl
  have HN := Lib.hid (And.intro hn hi)
  clear hget hkid hl ha0 hne hblk hin hn hi
  go_enter Try.func54, Try.ntmps54
  go_wp2
  go_loopg [1, 6] ks.length (fun g iv kv wr => ∃ k d : Nat, g + k = ks.length ∧ iv = .int .i64 d ∧ kv = .int .i64 k ∧ Lies yss i k d ∧ wr = w)
  case atStart => exact ⟨0, i, rfl, rfl, rfl, ⟨by simp, by rw [← HL.out]; exact hk0⟩, rfl⟩
  case round =>
    obtain ⟨k, d, hgk, rfl, rfl, hlies, rfl⟩ := hrel
    have hklt : k < ks.length := by rw [HL.out]; exact hlies.lt
    obtain ⟨q, hq⟩ : ∃ q, ks[k]? = some q := ⟨_, List.getElem?_eq_getElem hklt⟩
    obtain ⟨ys, hy⟩ : ∃ ys, yss[k]? = some ys := ⟨_, List.getElem?_eq_getElem hlies.lt⟩
    have hcq : wr.cell? ⟨b1, o1 + k, none⟩ = some (PN q) := HG.out.1 k _ (by rw [List.getElem?_map, hq]; rfl)
    obtain ⟨l1, k1, hqb⟩ := HG.out.2 k q ys hq hy
    have hcn : wr.cell? ⟨q, 2, none⟩ = some (.int .i64 ys.length) := by rw [cell_of hqb]; rfl
    have hlen := lies_len hy
    have hd : d ≤ 10000 := by have := hlies.sum; have := HN.out; omega
    have hyl : ys.length ≤ 10000 := by have := HN.out; omega
    have hs1 : IntKind.i64.wrap ((k : Int) + 1) = (k : Int) + 1 := by rw [IntKind.wrap_i64]; omega
    have HLi := Lib.hid (And.intro hlies (And.intro hy hgk))
    have HLen := Lib.hid hlen
    clear hlies hy hq hqb hgk hlen
    by_cases h1 : k + 1 < ks.length
    · have h1' : (k : Int) + 1 < (ks.length : Int) := by omega
      by_cases h2 : ys.length ≤ d
      · have hs2 : IntKind.i64.wrap ((d : Int) - (ys.length : Int)) = ((d - ys.length : Nat) : Int) := by rw [IntKind.wrap_i64]; omega
        go_wp2
        go_roundg (gk - 1)
        case measure => have := HLi.out.2.2; omega
        case rel =>
          obtain ⟨hlies, hy, hgk⟩ := HLi.out
          exact ⟨k + 1, d - ys.length, by omega, rfl, by go_num, ⟨by rw [take_succ_len hy]; have := hlies.sum; omega, by rw [← HL.out]; exact h1⟩, rfl⟩
      · go_wp2
        go_ret2
        obtain ⟨hlies, hy, hgk⟩ := HLi.out
        exact ⟨k, d, ys, rfl, hlies, hy, by omega, fun _ => by omega, rfl⟩
    · have h1' : ¬ ((k : Int) + 1 < (ks.length : Int)) := by omega
      go_wp2
      go_ret2
      obtain ⟨hlies, hy, hgk⟩ := HLi.out
      have e1 : k + 1 = yss.length := by have := HL.out; omega
      have e2 := take_succ_len hy
      rw [e1, List.take_length] at e2
      have e3 := hlies.sum
      have e4 := HN.out.2
      exact ⟨k, d, ys, rfl, hlies, hy, by omega, fun _ => by omega, rfl⟩
end Go.Proofs.Ytjecadkmlakncaa
