/-
  The tree: inner.
-/
import Derived.Test.YtjecadkmlakncaaTe1
import Derived.Test.YtjecadkmlakncaaTd1
import Derived.StillTailTactics
namespace Go.Proofs.Ytjecadkmlakncaa
open Go.RowKit

/-- What holds behind k rounds of inner. -/
structure InnerAtRound (w : World) (tb wt k : Nat) (root kv : Value) (yss : List (List Value)) (wr : World) : Prop where
  node : wr.heap[w.heap.size]? = some (.cells #[.slice none 0 0, kv, .int .i64 (pre yss k)] 83 (0, 0))
  ch : Ch [tb] w wr
  tree : TreeBlk wr tb root wt

set_option maxRecDepth 100000 in
set_option maxHeartbeats 1000000 in
/-- inner: a new node of these nodes. -/
theorem inner_any (w : World) (P : Nat → Prop) (tb wt h b1 o1 : Nat) (root kv : Value) (ks : List Nat) (yss : List (List Value)) (xs : List Value) (ht : TreeBlk w tb root wt) (hwt : wt + 1 ≤ 4611686018427387904) (hr : Row1 74 w b1 o1 kv (ks.map PN)) (hl : ks.length = yss.length)
    (hx : xs = yss.flatten) (hle : ks.length ≤ 8) (hn : xs.length ≤ 10000) (hkid : NodesW w P h ks yss) (hP : ks ≠ [] → P b1) :
    Calls Try.prog 52 #[PN tb, kv] w fun e w' => e = .returned (PN w.heap.size) ∧ NodeW w' (fun k => P k ∨ k = w.heap.size) 1 ks.length (h + 1) w.heap.size xs ∧ Ch [tb] w w' ∧ TreeBlk w' tb root (wt + 1) := by
  obtain ⟨a0, c0, rfl, _, ha0⟩ := hr.shape
  obtain ⟨m, hm⟩ : ∃ m, m = (ks.map PN).length := ⟨_, rfl⟩
  rw [← hm] at hr ⊢
  have hmk : m = ks.length := by rw [hm, List.length_map]
  have t1 : w.cell? ⟨tb, 1, none⟩ = some (.int .i64 wt) := by rw [cell_of ht]; rfl
  have tf1 : w.frozen? ⟨tb, 1, none⟩ = false := free_of ht
  have hw : IntKind.i64.wrap ((wt : Int) + 1) = ((wt + 1 : Nat) : Int) := by rw [IntKind.wrap_i64]; omega
  have hm8 : m ≤ 8 := by omega
  have hot : Apart w P [tb] := Apart.tree ht
  have hstart : InnerAtRound w tb (wt + 1) 0 root (.slice a0 m c0) yss ((w.setCell ⟨tb, 1, none⟩ (.int .i64 ((wt : Int) + 1))).alloc (.cells #[.slice none 0 0, .slice a0 m c0, .int .i64 0] 83)) := by
    have htw : (w.setCell ⟨tb, 1, none⟩ (.int .i64 ((wt : Int) + 1))).heap[tb]? = some (.cells #[root, .int .i64 ((wt : Int) + 1)] 76 (0, 0)) := heap_setCell_same ht
    have hnew := heap_alloc_same (w.setCell ⟨tb, 1, none⟩ (.int .i64 ((wt : Int) + 1))) (.cells #[.slice none 0 0, .slice a0 m c0, .int .i64 0] 83)
    rw [show (w.setCell ⟨tb, 1, none⟩ (.int .i64 ((wt : Int) + 1))).heap.size = w.heap.size by simp] at hnew
    exact ⟨hnew, ((Ch.refl [tb] w).setCell (by simp) _).alloc _, heap_alloc_past htw⟩
  have hget : ∀ W k, Ch [tb] w W → k < m → ∃ q ys, a0 = some ⟨b1, o1, none⟩ ∧ yss[k]? = some ys ∧ W.cell? ⟨b1, o1 + k, none⟩ = some (PN q) ∧ W.cell? ⟨q, 2, none⟩ = some (.int .i64 ys.length) ∧ q < w.heap.size := fun W k hc hk => by
    obtain ⟨q, hq⟩ : ∃ q, ks[k]? = some q := ⟨_, List.getElem?_eq_getElem (by omega)⟩
    obtain ⟨ys, hy⟩ : ∃ ys, yss[k]? = some ys := ⟨_, List.getElem?_eq_getElem (by omega)⟩
    have hne : ks.map PN ≠ [] := by intro h; rw [h] at hm; simp at hm; omega
    have hrw := hr.ch hc (fun _ hmem => by simp at hmem; exact hr.ne hne ht (by decide) hmem)
    have hkn := hkid k q ys hq hy
    obtain ⟨l1, k1, hqb⟩ := (hkn.ch hc hot).blk
    exact ⟨q, ys, ha0 hne, hy, hrw.get k _ (by rw [List.getElem?_map, hq]; rfl), by rw [cell_of hqb]; rfl, hkn.lt⟩
  have hpre : ∀ k ys, yss[k]? = some ys → pre yss (k + 1) = pre yss k + ys.length ∧ pre yss k + ys.length ≤ 10000 := fun k ys hp =>
    ⟨take_succ_len hp, by have h1 := lies_len hp; rw [← hx] at h1; exact Nat.le_trans h1 hn⟩
  have hend : pre yss m = xs.length := by unfold pre; rw [show m = yss.length by omega, List.take_length, hx]
  have HA := Lib.hid (And.intro hr (And.intro hl (And.intro hx (And.intro hmk (And.intro hkid (And.intro hend (And.intro hot (And.intro ht hP))))))))
  have HS := Lib.hid hstart
  have HG := Lib.hid hget
  have HP := Lib.hid hpre
  clear hP hr hl hx hmk hkid hend hot hstart hget hpre ha0 hm hle hn ht
  go_enter Try.func52, Try.ntmps52
  go_wp2
  clear t1 tf1
  go_loopg [20] m (fun g iv wr => ∃ k : Nat, g + k = m ∧ iv = .int .i64 k ∧ InnerAtRound w tb (wt + 1) k root (.slice a0 m c0) yss wr)
  case atStart => exact ⟨0, rfl, rfl, HS.out⟩
  case round =>
    obtain ⟨k, hgk, rfl, hat⟩ := hrel
    have HK := Lib.hid hgk
    have hkl : k ≤ m := by omega
    clear hgk
    by_cases hlt : k < m
    · obtain ⟨q, ys, rfl, hy, c1, c2, hq⟩ := HG.out wr k hat.ch hlt
      obtain ⟨e1, e2⟩ := HP.out k ys hy
      have c3 : wr.cell? ⟨w.heap.size, 2, none⟩ = some (.int .i64 (pre yss k)) := by rw [cell_of hat.node]; rfl
      have f3 : wr.frozen? ⟨w.heap.size, 2, none⟩ = false := free_of hat.node
      have hs : IntKind.i64.wrap ((pre yss k : Int) + (ys.length : Int)) = ((pre yss k + ys.length : Nat) : Int) := by rw [IntKind.wrap_i64]; omega
      have hnext : InnerAtRound w tb (wt + 1) (k + 1) root (.slice (some ⟨b1, o1, none⟩) m c0) yss (wr.drew.setCell ⟨w.heap.size, 2, none⟩ (.int .i64 ((pre yss k : Int) + (ys.length : Int)))) := by
        have hne : tb ≠ w.heap.size := ne_of_elem hat.tree hat.node (by decide)
        have hb : wr.drew.heap[w.heap.size]? = some (.cells #[.slice none 0 0, .slice (some ⟨b1, o1, none⟩) m c0, .int .i64 (pre yss k)] 83 (0, 0)) := hat.node
        refine ⟨?_, hat.ch.drew.setCell (.inr (Nat.le_refl _)) _, (heap_setCell_other hne).trans hat.tree⟩
        rw [e1]
        exact heap_setCell_same hb
      have hp1 : pre yss k ≤ 10000 := by omega
      have hp2 : ys.length ≤ 10000 := by omega
      have H1 := Lib.hid hnext
      clear hnext e1 e2 hy hat
      go_wp2_with fail
      go_still_tail 11, (by kernel_rfl)
      change wpList _ _ _ _ _ wr.drew
      go_wp2
      go_roundg (gk - 1)
      case measure => have := HK.out; omega
      case rel => exact ⟨k + 1, by have := HK.out; omega, by go_num, H1.out⟩
    · obtain rfl : k = m := by omega
      have H1 := Lib.hid hat
      clear hat hlt hkl
      go_wp2
      go_ret
      obtain ⟨hr, hl, hx, hmk, hkid, hend, hot, ht, hP⟩ := HA.out
      have hat := H1.out
      have hnode := hat.node
      rw [hend] at hnode
      exact ⟨rfl, ⟨_, _, b1, o1, ks, yss, ⟨hnode, ⟨none, 0, rfl⟩, hr.ch hat.ch (fun hne hmem => by simp at hmem; exact hr.ne hne ht (by decide) hmem), by omega⟩, hl, hx, Nat.le_refl _, .inr rfl, fun hne => .inl (hP hne), fun i q ys hi hy => ((hkid i q ys hi hy).ch hat.ch hot).sub (fun _ hp _ => .inl hp)⟩, hat.ch, hat.tree⟩
end Go.Proofs.Ytjecadkmlakncaa
