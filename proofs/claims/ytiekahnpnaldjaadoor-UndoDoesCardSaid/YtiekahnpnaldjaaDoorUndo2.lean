/-
  The log: Back: the functions behind the mark are taken out and called, the last first.
-/
import Derived.Test.YtiekahnpnaldjaaDoorUndo1
import Derived.Deep.LoopGhost
namespace Go.Proofs.YtiekahnpnaldjaaDoor
open Go.RowKit

theorem cell_own {w : World} {base : Nat} {e : TypeId} {v : Value} {n : Nat} {xs : List Value} (h : w.ownsRow base e 1 v n xs) {k : Nat} {u : Value} (hu : xs[k]? = some u) :
    ∃ g cap cur, v = .slice (some ⟨g, 0, none⟩) n cap ∧ w.heap[g]? = some (.cells cur e (0, 0)) ∧ n ≤ cap ∧ cur.size = cap ∧ cur.toList.take n = xs ∧ cur[k]? = some u := by
  rcases h.2 with ⟨_, h0⟩ | ⟨g, cap, cur, hv, _, hh, hn, _, hs, ht⟩
  · have := h.1; subst h0; simp at this; subst this; simp at hu
  · refine ⟨g, cap, cur, hv, hh, hn, by simpa using hs, by simpa using ht, ?_⟩
    have hk : k < xs.length := (List.getElem?_eq_some_iff.1 hu).1
    rw [← ht] at hu
    rw [List.getElem?_take] at hu
    split at hu
    · simpa using hu
    · simp at hu

/-- What a round of Back meets: k functions are left. -/
structure BackAt (B lb g cap : Nat) (fs : List Value) (J : Nat → World → Prop) (w0 : World) (k : Nat) (w : World) : Prop where
  blk : w.heap[lb]? = some (.cells #[.slice (some ⟨g, 0, none⟩) k cap] 96 (0, 0))
  arr : ∃ cur, w.heap[g]? = some (.cells cur 1 (0, 0)) ∧ cur.size = cap ∧ ∀ j, j < k → cur[j]? = fs[j]?
  j : J k w
  bel : Below B w0 w

/-- A function that stands in the log, called when k + 1 are left: it leaves the log alone, and what is known becomes J k. -/
def Steps1 (B lb g : Nat) (J : Nat → World → Prop) (f : Value) (k : Nat) : Prop :=
  ∃ fi cap, f = .func (.func fi) #[] cap ∧ (∀ W, (callFunc fi cap).run Tryd.prog W = .ok (.enter fi cap) W) ∧
    ∀ W, J (k + 1) W → B ≤ W.heap.size → Calls Tryd.prog fi cap W fun e W' => e = .returned (.tuple #[]) ∧ J k W' ∧ Below B W W' ∧ (lb < W.heap.size → W'.heap[lb]? = W.heap[lb]?) ∧ (g < W.heap.size → W'.heap[g]? = W.heap[g]?)

theorem back_out (D : Nat) (w : World) (lb mark : Nat) (sv : Value) (fs : List Value) (hl : LogAt D w lb sv fs) (hm : fs.length < mark) :
    Calls Tryd.prog 51 #[.pointer (some ⟨lb, 0, none⟩), .int .i64 mark] w fun e w' => e = .returned (.bool false) ∧ w = w' := by
  have hd : decide (mark ≤ fs.length) = false := by simp; omega
  go_enter Tryd.func51, Tryd.ntmps51
  go_wp2_with (go_at_call 81; refine (in_any D w lb mark sv fs hl).mono ?_; rintro e w' ⟨rfl, rfl⟩)
  go_ret
  exact ⟨rfl, rfl⟩

/-- The world behind the two stores of a round: the last function is out. -/
theorem BackAt.pop {B lb g cap : Nat} {fs : List Value} {J : Nat → World → Prop} {w0 w : World} {m : Nat} (h : BackAt B lb g cap fs J w0 (m + 1) w) (hB : B ≤ lb) (hBg : B ≤ g) (hcap : m < cap)
    (hstab : ∀ k W W', J k W → W.heap.size ≤ W'.heap.size → (∀ b, b ≠ lb → b ≠ g → W'.heap[b]? = W.heap[b]?) → J k W') :
    BackAt B lb g cap fs (fun k => J (k + 1)) w0 m ((w.setCell ⟨g, m, none⟩ .nilFunc).setCell ⟨lb, 0, none⟩ (.slice (some ⟨g, 0, none⟩) m cap)) := by
  obtain ⟨hb, ⟨cur, h1, h2, h3⟩, hJ, hbel⟩ := h
  have hne : lb ≠ g := ne_of_elem hb h1 (by decide)
  refine ⟨?_, ⟨cur.setIfInBounds m .nilFunc, ?_, by simpa using h2, fun j hj => ?_⟩, ?_, ?_⟩
  · exact heap_setCell_same (i := 0) ((heap_setCell_other hne).trans hb)
  · rw [heap_setCell_other hne.symm]; exact heap_setCell_same h1
  · rw [Array.getElem?_setIfInBounds_ne (by omega)]; exact h3 j (by omega)
  · exact hstab _ _ _ hJ (by simp) (fun b hb1 hb2 => by rw [heap_setCell_other hb1, heap_setCell_other hb2])
  · exact (hbel.setCell hBg _).setCell hB _

set_option maxRecDepth 100000 in
set_option maxHeartbeats 1000000 in
theorem back_any (D : Nat) (w : World) (B lb g mark n : Nat) (sv : Value) (fs : List Value) (J : Nat → World → Prop) (hl : LogAt D w lb sv fs) (hlen : fs.length = n) (hmark : mark ≤ n) (hn : n < 1000) (hB : B ≤ lb) (hBw : B ≤ w.heap.size) (hg : ∀ x, sv.ownBlock = some x → x = g ∧ B ≤ x)
    (hJ : J n w) (hstab : ∀ k W W', J k W → W.heap.size ≤ W'.heap.size → (∀ b, b ≠ lb → b ≠ g → W'.heap[b]? = W.heap[b]?) → J k W')
    (hstep : ∀ k f, mark ≤ k → fs[k]? = some f → Steps1 B lb g J f k) :
    Calls Tryd.prog 51 #[.pointer (some ⟨lb, 0, none⟩), .int .i64 mark] w fun e w' => e = .returned (.bool true) ∧ J mark w' ∧ Below B w w' ∧ ∃ sv', LogAt D w' lb sv' (fs.take mark) := by
  have hd : decide (mark ≤ fs.length) = true := by simp; omega
  by_cases he : n = mark
  · subst he
    obtain ⟨a, c, rfl⟩ : ∃ a c, sv = .slice a n c := by
      rcases hl.own.2 with ⟨h, h0⟩ | ⟨g, cap', _, h, _⟩
      · exact ⟨_, _, by rw [← hlen, h0]; exact h⟩
      · exact ⟨_, cap', by rw [← hlen]; exact h⟩
    have hc := cell_of_one hl.blk
    have HL := Lib.hid hlen
    clear hlen hstep hstab
    go_enter Tryd.func51, Tryd.ntmps51
    go_wp2_with (go_at_call 81; refine (in_any D w lb n _ fs hl).mono ?_; rintro e w' ⟨rfl, rfl⟩)
    refine wp_loop_rounds 1 ?_
    rw [rounds_succ]
    go_wp2
    go_ret
    refine ⟨rfl, hJ, Below.refl _ _, .slice a n c, ?_⟩
    rw [List.take_of_length_le (by rw [HL.out]; exact Nat.le_refl _)]
    exact hl
  · obtain ⟨gg, cap, cur, rfl, hD, hgh, hncap, hcs, htake⟩ : ∃ gg cap cur, sv = .slice (some ⟨gg, 0, none⟩) n cap ∧ D ≤ gg ∧ w.heap[gg]? = some (.cells cur 1 (0, 0)) ∧ n ≤ cap ∧ cur.size = cap ∧ cur.toList.take n = fs := by
      rcases hl.own.2 with ⟨h, h0⟩ | ⟨g, cap', cur, h, h1, h2, h3, _, h5, h6⟩
      · omega
      · exact ⟨g, cap', cur, by rw [← hlen]; exact h, h1, h2, by omega, by simpa using h5, by simpa [hlen] using h6⟩
    obtain ⟨rfl, hBg⟩ := hg gg rfl
    have hcap : cap ≤ maxLen := by
      rcases hl.own.2 with ⟨h, h0⟩ | ⟨g, cap', cur, h, _, h2, h3, h4, h5, h6⟩
      · simp at h
      · simp at h; omega
    unfold maxLen at hcap
    have start : BackAt B lb gg cap fs J w n w := ⟨hl.blk, ⟨cur, hgh, hcs, fun j hj => by rw [← htake, List.getElem?_take, if_pos hj]; simp⟩, hJ, Below.refl _ _⟩
    have HL := Lib.hid hlen
    clear hlen hgh hcs htake he
    go_enter Tryd.func51, Tryd.ntmps51
    go_wp2_with (go_at_call 81; refine (in_any D w lb mark _ fs hl).mono ?_; rintro e w' ⟨rfl, rfl⟩)
    clear hd
    go_loopg [5] n (fun k _ wr => mark ≤ k ∧ k ≤ n ∧ BackAt B lb gg cap fs J w k wr)
    case atStart => exact ⟨hmark, Nat.le_refl _, start⟩
    case round =>
      obtain ⟨hmk, hkn, hat⟩ := hrel
      have hc := cell_of_one hat.blk
      by_cases hlt : mark < gk
      · obtain ⟨m, rfl⟩ : ∃ m, gk = m + 1 := ⟨gk - 1, by omega⟩
        obtain ⟨cur', ha1, ha2, ha3⟩ := hat.arr
        have hm : m < fs.length := by rw [HL.out]; omega
        obtain ⟨f, hf⟩ : ∃ f, fs[m]? = some f := ⟨_, List.getElem?_eq_getElem hm⟩
        obtain ⟨fi, cp, hfe, hcall, hdo⟩ := hstep m f (by omega) hf
        have ha4 : cur'[m]? = some f := by rw [ha3 m (by omega), hf]
        have hcm : wr.cell? ⟨gg, m, none⟩ = some f := (cell_of ha1).trans ha4
        have hfm : wr.frozen? ⟨gg, m, none⟩ = false := free_of ha1
        have hfl : wr.frozen? ⟨lb, 0, none⟩ = false := free_of hat.blk
        have hne : lb ≠ gg := ne_of_elem hat.blk ha1 (by decide)
        have hne' : gg ≠ lb := hne.symm
        subst hfe
        have hp := hat.pop hB hBg (by omega) hstab
        have hJ1 := hp.j
        have hBw1 : B ≤ ((wr.setCell ⟨gg, m, none⟩ .nilFunc).setCell ⟨lb, 0, none⟩ (.slice (some ⟨gg, 0, none⟩) m cap)).heap.size := Nat.le_trans hBw hp.bel.size
        have hdo1 := hdo _ hJ1 hBw1
        have H1 := Lib.hid hp
        have H2 := Lib.hid hdo1
        clear ha1 ha2 ha3 ha4 hf hat hm hp hJ1 hdo hdo1 hBw1
        clear hstab hstep hJ start
        go_wp2_with fail
        refine H2.out.mono ?_
        rintro e w2 ⟨rfl, hJ2, hbel, h1, h2⟩
        have hp := H1.out
        obtain ⟨pb, ⟨pc, pa, pz, pj⟩, pJ, pB⟩ := hp
        have hat2 : BackAt B lb gg cap fs J w m w2 := ⟨(h1 (lt_of_block pb)).trans pb, ⟨pc, (h2 (lt_of_block pa)).trans pa, pz, pj⟩, hJ2, pB.trans hbel⟩
        clear H1 H2 pb pa pz pj pJ pB hbel h1 h2 hJ2 hc hcm hfm hfl hcall
        go_wp2
        go_roundg m
        case measure => omega
        case rel => exact ⟨by omega, by omega, hat2⟩
      · obtain rfl : gk = mark := by omega
        have H2 := Lib.hid hat
        clear hat hstab hstep hJ start
        go_wp2
        go_ret
        obtain ⟨pb, ⟨pc, pa, pz, pj⟩, pJ, pB⟩ := H2.out
        refine ⟨rfl, pJ, pB, .slice (some ⟨gg, 0, none⟩) gk cap, ?_⟩
        have hl2 : (fs.take gk).length = gk := by rw [List.length_take, HL.out]; omega
        refine ⟨pb, ?_⟩
        rw [hl2]
        refine ⟨by simpa using hl2, .inr ⟨gg, cap, pc, rfl, hD, pa, by omega, by unfold maxLen; omega, by simpa using pz, ?_⟩⟩
        apply List.ext_getElem?
        intro j
        rw [Nat.mul_one, List.getElem?_take, List.getElem?_take]
        split
        · rename_i hj; rw [← pj j hj]; simp
        · rfl
end Go.Proofs.YtiekahnpnaldjaaDoor
