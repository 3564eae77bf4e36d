/-
  The tree: EraseAt, SetAt.
-/
import Derived.Test.YtjecadkmlakncaaTf2
namespace Go.Proofs.Ytjecadkmlakncaa
open Go.RowKit

theorem tset_bad_neg (w : World) (tb : Nat) (i z : Int) (h0 : i < 0) :
    Calls Try.prog 43 #[PN tb, .int .i64 i, .int .i64 z] w fun e w' => e = .returned (.int .i64 73) ∧ w = w' := by
  go_enter Try.func43, Try.ntmps43
  go_wp2_with fail
  go_ret
  exact ⟨rfl, rfl⟩
theorem tset_bad_past (w : World) (P : Nat → Prop) (tb wr : Nat) (i z : Int) (xs : List Value) (ht : TreeIs w P tb xs wr) (h0 : 0 ≤ i) (h1 : (xs.length : Int) ≤ i) :
    Calls Try.prog 43 #[PN tb, .int .i64 i, .int .i64 z] w fun e w' => e = .returned (.int .i64 73) ∧ w = w' := by
  have hlen := Lib.hid (tlen_any w P tb wr xs ht)
  have h2 : ¬ (i < 0) := by omega
  clear ht
  go_enter Try.func43, Try.ntmps43
  go_wp2_with fail
  refine hlen.out.mono ?_
  rintro e w' ⟨rfl, rfl⟩
  go_wp2
  go_ret
  exact ⟨rfl, rfl⟩
set_option maxRecDepth 100000 in
set_option maxHeartbeats 2000000 in
theorem tset_ok (w : World) (P : Nat → Prop) (tb wr i : Nat) (z : Int) (xs : List Value) (ht : TreeIs w P tb xs wr) (hi : i < xs.length) (hN : xs.length ≤ 5000) (hwr : wr ≤ 1152921504606846976) :
    Calls Try.prog 43 #[PN tb, .int .i64 i, .int .i64 z] w (Inserted w P tb wr (xs.set i (.int .i64 z)) xs.length) := by
  have hlen := Lib.hid (tlen_any w P tb wr xs ht)
  obtain ⟨root, hb, h⟩ := ht
  have t1 : w.cell? ⟨tb, 0, none⟩ = some root := by rw [cell_of hb]; rfl
  have d1 : decide ((i : Int) < 0) = false := by simp
  have d2 : ¬ ((xs.length : Int) ≤ (i : Int)) := by omega
  have d3 : decide (xs.length ≤ i) = false := by simp; omega
  rcases h with ⟨rfl, rfl⟩ | ⟨h, rb, rfl, hn⟩
  · simp at hi
  · have hpw := hn.pow
    have hh := pow_small hpw hN
    have hI := Lib.hid (set_any tb z (PN rb) h w P wr rb i xs hb (by omega) hn hi hN)
    clear hn
    go_enter Try.func43, Try.ntmps43
    go_wp2_with fail
    refine hlen.out.mono ?_
    rintro e w' ⟨rfl, rfl⟩
    go_wp2_with fail
    refine hI.out.mono ?_
    rintro e w2 ⟨b, d, rfl, hnode, hch, ht2, hd⟩
    have t2 : w2.cell? ⟨tb, 0, none⟩ = some (PN rb) := by rw [cell_of ht2]; rfl
    have f2 : w2.frozen? ⟨tb, 0, none⟩ = false := free_of ht2
    have HE := Lib.hid (show Inserted w P tb wr (xs.set i (.int .i64 z)) xs.length (.returned (.int .i64 0)) (w2.setCell ⟨tb, 0, none⟩ (PN b)) from
      ⟨d, rfl, ⟨_, tree_set ht2 _, .inr ⟨h, b, rfl, hnode.ch ((Ch.refl [tb] w2).setCell (p := ⟨tb, 0, none⟩) (.inl (by simp)) _) (Apart.tree ht2)⟩⟩, hch.setCell (p := ⟨tb, 0, none⟩) (.inl (by simp)) _, ⟨h, by omega, by omega⟩⟩)
    clear hnode hch ht2 hI t1 hd
    go_wp2
    go_ret
    exact HE.out

/-- EraseAt: at a place that there is. -/
def Erased (w : World) (P : Nat → Prop) (tb wr : Nat) (z : Int) (ys : List Value) (n : Nat) (e : Ending) (w' : World) : Prop := ∃ d, e = .returned (.tuple #[.int .i64 z, .int .i64 0]) ∧ TreeIs w' (fun k => P k ∨ w.heap.size ≤ k) tb ys (wr + d) ∧ Ch [tb] w w' ∧ Few n d
theorem terase_bad (w : World) (P : Nat → Prop) (tb wr : Nat) (i : Int) (xs : List Value) (ht : TreeIs w P tb xs wr) (hi : i < 0 ∨ (xs.length : Int) ≤ i) :
    Calls Try.prog 33 #[PN tb, .int .i64 i] w fun e w' => e = .returned (.tuple #[.int .i64 0, .int .i64 73]) ∧ w = w' := by
  have hA := Lib.hid (tat_no w P tb wr i xs ht hi)
  clear ht hi
  go_enter Try.func33, Try.ntmps33
  go_wp2_with fail
  refine hA.out.mono ?_
  rintro e w' ⟨rfl, rfl⟩
  go_wp2
  go_ret2
  exact ⟨rfl, rfl⟩
set_option maxRecDepth 100000 in
set_option maxHeartbeats 2000000 in
theorem terase_ok (w : World) (P : Nat → Prop) (tb wn i : Nat) (z : Int) (xs : List Value) (ht : TreeIs w P tb xs wn) (hv : xs[i]? = some (.int .i64 z)) (hN : xs.length ≤ 5000) (hwr : wn ≤ 1152921504606846976) :
    Calls Try.prog 33 #[PN tb, .int .i64 i] w (Erased w P tb wn z (eraL xs i) xs.length) := by
  have hA := Lib.hid (tat_ok w P tb wn i xs z ht (by omega) hv)
  have hi : i < xs.length := (List.getElem?_eq_some_iff.1 hv).1
  obtain ⟨root, hb, h⟩ := ht
  have t1 : w.cell? ⟨tb, 0, none⟩ = some root := by rw [cell_of hb]; rfl
  rcases h with ⟨rfl, rfl⟩ | ⟨h, rb, rfl, hn⟩
  · simp at hi
  · have hpw := hn.pow
    have hh := pow_small hpw hN
    have hI := Lib.hid (erased_any tb (PN rb) h w P wn rb i xs hb (by omega) hn hi hN)
    have hlen := eraL_len xs i hi
    clear hn hv
    go_enter Try.func33, Try.ntmps33
    go_wp2_with fail
    refine hA.out.mono ?_
    rintro e w' ⟨rfl, rfl⟩
    go_wp2_with fail
    refine hI.out.mono ?_
    rintro e w2 ⟨b, d, rfl, hnode, hch, ht2, hd⟩
    have t2 : w2.cell? ⟨tb, 0, none⟩ = some (PN rb) := by rw [cell_of ht2]; rfl
    have f2 : w2.frozen? ⟨tb, 0, none⟩ = false := free_of ht2
    have hc3 : Ch [tb] w2 (w2.setCell ⟨tb, 0, none⟩ (PN b)) := (Ch.refl [tb] w2).setCell (p := ⟨tb, 0, none⟩) (.inl (by simp)) _
    have HS := Lib.hid (show TreeBlk (w2.setCell ⟨tb, 0, none⟩ (PN b)) tb (PN b) (wn + d) ∧ NodeW (w2.setCell ⟨tb, 0, none⟩ (PN b)) (fun k => P k ∨ w.heap.size ≤ k) 0 1 h b (eraL xs i) ∧ Ch [tb] w (w2.setCell ⟨tb, 0, none⟩ (PN b)) from
      ⟨tree_set ht2 _, hnode.ch hc3 (Apart.tree ht2), hch.trans hc3⟩)
    have HF := Lib.hid (show Few xs.length d from ⟨h, by omega, by omega⟩)
    have HL := Lib.hid hlen
    clear hnode hch ht2 hI hc3 hd hlen hpw hh hA
    go_wp2_with fail
    clear t1 t2 f2
    go_loopg [] h (fun g wq => ∃ b, TreeBlk wq tb (PN b) (wn + d) ∧ NodeW wq (fun k => P k ∨ w.heap.size ≤ k) 0 1 g b (eraL xs i) ∧ Ch [tb] w wq)
    case atStart => exact ⟨b, HS.out⟩
    case round =>
      obtain ⟨b', ht, hn, hch⟩ := hrel
      have t1 : wr.cell? ⟨tb, 0, none⟩ = some (PN b') := by rw [cell_of ht]; rfl
      have f1 : wr.frozen? ⟨tb, 0, none⟩ = false := free_of ht
      have hend : ∀ h', NodeW wr (fun k => P k ∨ w.heap.size ≤ k) 1 2 h' b' (eraL xs i) → Hid (Erased w P tb wn z (eraL xs i) xs.length (.returned (.tuple #[.int .i64 z, .int .i64 0])) wr) := fun h' hn' => ⟨d, rfl, ⟨_, ht, .inr ⟨h', b', rfl, hn'⟩⟩, hch, HF.out⟩
      match gk, hn with
      | 0, hn =>
        obtain ⟨lv, kv, b1, o1, hl, _, hP0, hP⟩ := hn
        obtain ⟨a1, c1, rfl, _, _⟩ := hl.row.shape
        obtain ⟨a2, c2, rfl⟩ := hl.kid
        have k1 : wr.cell? ⟨b', 1, none⟩ = some (.slice a2 0 c2) := by rw [cell_of hl.blk]; rfl
        have k2 : wr.cell? ⟨b', 2, none⟩ = some (.int .i64 (eraL xs i).length) := by rw [cell_of hl.blk]; rfl
        by_cases he : (eraL xs i).length = 0
        · have hnil : eraL xs i = [] := List.eq_nil_of_length_eq_zero he
          have HE : Hid (Erased w P tb wn z (eraL xs i) xs.length (.returned (.tuple #[.int .i64 z, .int .i64 0])) (wr.setCell ⟨tb, 0, none⟩ (.pointer none))) := ⟨d, rfl, ⟨_, tree_set ht _, .inl ⟨rfl, hnil⟩⟩, hch.setCell (p := ⟨tb, 0, none⟩) (.inl (by simp)) _, HF.out⟩
          rw [he] at k2
          clear hend ht hch hl hP hP0 hnil he
          go_wp2
          go_ret2
          exact HE.out
        · have HE := hend 0 ⟨_, _, b1, o1, hl, by omega, hP0, hP⟩
          have e1 : (((eraL xs i).length : Int) == 0) = false := by rw [beq_eq_false_iff_ne]; omega
          have e2 : ¬ (eraL xs i = []) := by intro h; rw [h] at he; simp at he
          clear hend ht hch hl hP hP0
          go_wp2
          go_ret2
          exact HE.out
      | g + 1, hn =>
        obtain ⟨lv, kv, b1, o1, ks, yss, hin, hkl, hx, hko, hP0, hP1, hkid⟩ := hn
        obtain ⟨a1, c1, hkv, _, ha1⟩ := hin.row.shape
        rw [List.length_map] at hkv
        subst hkv
        have hne : ks.map PN ≠ [] := by intro h; simp at h; subst h; simp at hko
        obtain rfl := ha1 hne
        have k1 : wr.cell? ⟨b', 1, none⟩ = some (.slice (some ⟨b1, o1, none⟩) ks.length c1) := by rw [cell_of hin.blk]; rfl
        have k2 : wr.cell? ⟨b', 2, none⟩ = some (.int .i64 (eraL xs i).length) := by rw [cell_of hin.blk]; rfl
        by_cases h1 : ks.length = 1
        · obtain ⟨q, hq⟩ : ∃ q, ks[0]? = some q := ⟨_, List.getElem?_eq_getElem (by omega)⟩
          obtain ⟨ys, hy⟩ : ∃ ys, yss[0]? = some ys := ⟨_, List.getElem?_eq_getElem (by omega)⟩
          have k3 : wr.cell? ⟨b1, o1, none⟩ = some (PN q) := by
            have := hin.row.get 0 (PN q) (by rw [List.getElem?_map, hq]; rfl)
            simpa using this
          have e1 : ys = eraL xs i := by
            rw [hx]
            match yss, hkl, hy with
            | [y], _, hy => simp at hy; simp [hy]
            | [], _, hy => simp at hy
            | a :: b :: r, hkl, _ => simp at hkl; omega
          have hnode := (hkid 0 q ys hq hy).mono (Q := fun k => P k ∨ w.heap.size ≤ k) (fun _ h _ => h) (show 0 ≤ 1 by omega) (show 1 ≤ 2 by omega)
          rw [e1] at hnode
          have HN : Hid (TreeBlk (wr.setCell ⟨tb, 0, none⟩ (PN q)) tb (PN q) (wn + d) ∧ NodeW (wr.setCell ⟨tb, 0, none⟩ (PN q)) (fun k => P k ∨ w.heap.size ≤ k) 0 1 g q (eraL xs i) ∧ Ch [tb] w (wr.setCell ⟨tb, 0, none⟩ (PN q))) :=
            ⟨tree_set ht _, hnode.ch ((Ch.refl [tb] wr).setCell (p := ⟨tb, 0, none⟩) (.inl (by simp)) _) (Apart.tree ht), hch.setCell (p := ⟨tb, 0, none⟩) (.inl (by simp)) _⟩
          rw [h1] at k1
          clear hend ht hch hP0 hP1 hin hkl hx hko hkid hne hnode hq hy e1 ha1 h1
          go_wp2
          go_roundg g
          case measure => omega
          case rel => exact ⟨q, HN.out⟩
        · have hstrong : NodeW wr (fun k => P k ∨ w.heap.size ≤ k) 1 2 (g + 1) b' (eraL xs i) := ⟨_, _, b1, o1, ks, yss, hin, hkl, hx, by omega, hP0, hP1, hkid⟩
          have hp := hstrong.pos
          have HE := hend _ hstrong
          have e0 : ((ks.length : Int) == 1) = false := by rw [beq_eq_false_iff_ne]; omega
          have e1 : (((eraL xs i).length : Int) == 0) = false := by rw [beq_eq_false_iff_ne]; omega
          have e2 : ¬ (eraL xs i = []) := by intro h; rw [h] at hp; simp at hp
          clear hend ht hch hP0 hP1 hin hkl hx hko hkid hne ha1 hstrong hp
          go_wp2
          go_ret2
          exact HE.out
end Go.Proofs.Ytjecadkmlakncaa
