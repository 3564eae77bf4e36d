/-
  leaves and inners. (printed by wip/gen_tree2.py)
-/
import Derived.Test.YtjecadkmlakncaaTe2
import Derived.Test.YtjecadkmlakncaaTd2
namespace Go.Proofs.Ytjecadkmlakncaa
open Go.RowKit

theorem part_of {α : Type} {pss : List (List α)} {j : Nat} {ps : List α} (h : pss[j]? = some ps) : ps = (pss.flatten.drop (pss.take j).flatten.length).take ps.length := by
  rw [split_at pss j ps h, List.append_assoc, List.drop_left' rfl, List.take_left' rfl]
/-- Nodes that were made: one, or two; D: how many nodes were written at most. -/
def Made (w : World) (P : Nat → Prop) (tb wt D : Nat) (root : Value) (h : Nat) (xs : List Value) (e : Ending) (w' : World) : Prop :=
  ∃ (n g c d : Nat) (ks : List Nat) (yss : List (List Value)), e = .returned (.slice (some ⟨g, 0, none⟩) n c) ∧ (n = 1 ∨ n = 2) ∧ ks.length = n ∧ yss.length = n ∧ w'.ownsRow w.heap.size 74 1 (.slice (some ⟨g, 0, none⟩) n c) n (ks.map PN) ∧
    NodesW w' (fun k => P k ∨ w.heap.size ≤ k) h ks yss ∧ yss.flatten = xs ∧ Ch [tb] w w' ∧ TreeBlk w' tb root (wt + d) ∧ d ≤ D
theorem NodesW.snoc {w : World} {P : Nat → Prop} {h : Nat} {ks : List Nat} {yss : List (List Value)} (hn : NodesW w P h ks yss) (hl : ks.length = yss.length) {b : Nat} {ys : List Value} (hb : NodeW w P 1 2 h b ys) : NodesW w P h (ks ++ [b]) (yss ++ [ys]) := by
  intro i k zs hi hz
  by_cases hlt : i < ks.length
  · rw [List.getElem?_append_left hlt] at hi
    rw [List.getElem?_append_left (by omega)] at hz
    exact hn i k zs hi hz
  · rw [List.getElem?_append_right (by omega)] at hi
    rw [List.getElem?_append_right (by omega)] at hz
    rw [hl] at hi
    match hj : i - yss.length, hi, hz with
    | 0, hi, hz => simp at hi hz; subst hi hz; exact hb
    | j + 1, hi, _ => simp at hi
/-- Where the blocks of a part lie. -/
def PartIn (P : Nat → Prop) (w w1 : World) (k : Nat) : Prop := (P k ∨ w.heap.size ≤ k) ∧ k < w1.heap.size
/-- What becomes of a part. -/
def PartMade (W : World) (P : Nat → Prop) (tb wq h : Nat) (root : Value) (old new : List Value) (e : Ending) (w' : World) : Prop :=
  ∃ ys, e = .returned (PN W.heap.size) ∧ NodeW w' (fun k => P k ∨ k = W.heap.size) 1 2 h W.heap.size ys ∧ new = old ++ ys ∧ Ch [tb] W w' ∧ TreeBlk w' tb root (wq + 1)
/-- The parts, as the loop of leaves, inners needs them. -/
structure Parts (f : FuncId) (L : TypeId) (w w1 : World) (P : Nat → Prop) (tb h gb n : Nat) (root : Value) (svs : List Value) (gath : Nat → List Value) (out : List Value) : Prop where
  len : svs.length = n
  two : n = 1 ∨ n = 2
  blk : w1.heap[gb]? = some (.cells svs.toArray L (0, 0))
  ch : Ch [] w w1
  g0 : gath 0 = []
  gn : gath n = out
  sl : ∀ (j : Nat) (pv : Value), svs[j]? = some pv → ∃ a m c, pv = .slice a m c
  part : ∀ (W : World) (j wq : Nat) (pv : Value), svs[j]? = some pv → Ch [tb] w1 W → TreeBlk W tb root wq → wq + 1 ≤ 4611686018427387904 → Calls Try.prog f #[PN tb, pv] W (PartMade W (PartIn P w w1) tb wq h root (gath j) (gath (j + 1)))
def PartsOut (f : FuncId) (L : TypeId) (w : World) (P : Nat → Prop) (tb h : Nat) (root : Value) (out : List Value) (e : Ending) (w1 : World) : Prop :=
  ∃ gb n svs gath, e = .returned (.slice (some ⟨gb, 0, none⟩) n n) ∧ Parts f L w w1 P tb h gb n root svs gath out
/-- What holds behind j rounds. -/
structure MadeAt (w w1 : World) (P : Nat → Prop) (tb wt h j : Nat) (root ov : Value) (ks : List Nat) (yss : List (List Value)) (got : List Value) (wr : World) : Prop where
  kl : ks.length = j
  yl : yss.length = j
  own : wr.ownsRow w1.heap.size 74 1 ov j (ks.map PN)
  nodes : NodesW wr (fun k => (P k ∨ w.heap.size ≤ k) ∧ ov.ownBlock ≠ some k) h ks yss
  flat : yss.flatten = got
  ch : Ch [tb] w1 wr
  tree : TreeBlk wr tb root (wt + j)
theorem MadeAt.next {w w1 wr w2 w3 : World} {P : Nat → Prop} {tb wt h j : Nat} {root ov v' : Value} {ks : List Nat} {yss : List (List Value)} {old new ys : List Value} (hat : MadeAt w w1 P tb wt h j root ov ks yss old wr) (hw : w.heap.size ≤ w1.heap.size)
    (hnode : NodeW w2 (fun k => PartIn P w w1 k ∨ k = wr.heap.size) 1 2 h wr.heap.size ys) (hnew : new = old ++ ys) (hch2 : Ch [tb] wr w2) (ht2 : TreeBlk w2 tb root (wt + j + 1))
    (hown3 : w3.ownsRow w1.heap.size 74 1 v' (j + 1) (ks.map PN ++ [PN wr.heap.size])) (hg3 : (w2.alloc (.cells #[PN wr.heap.size] 74)).grownBy w3 ov.ownBlock)
    (hloc : v'.ownBlock = ov.ownBlock ∨ v'.ownBlock = some (w2.alloc (.cells #[PN wr.heap.size] 74)).heap.size) :
    MadeAt w w1 P tb wt h (j + 1) root v' (ks ++ [wr.heap.size]) (yss ++ [ys]) new w3 := by
  have hc3 : Ch ov.ownBlock.toList w2 w3 := ((Ch.refl _ w2).alloc _).grown hg3 (fun k hk => .inl (by simp [hk]))
  have hap : ∀ Q : Nat → Prop, (∀ k, Q k → ov.ownBlock ≠ some k) → Apart w2 Q ov.ownBlock.toList := fun Q hQ => Apart.out (fun x hx hq => hQ x hq (by simpa using hx))
  have hv : ∀ k, k < w2.heap.size → ov.ownBlock ≠ some k → v'.ownBlock ≠ some k := fun k hk h1 => by
    rcases hloc with h2 | h2
    · rw [h2]; exact h1
    · rw [h2]; simp; omega
  have hlt : ∀ g, ov.ownBlock = some g → w1.heap.size ≤ g ∧ g < wr.heap.size := fun g hg => own_base hat.own hg
  have hsz := hat.ch.size
  refine ⟨by simp [hat.kl], by simp [hat.yl], by simpa using hown3, NodesW.snoc ?_ (by rw [hat.kl, hat.yl]) ?_, by rw [hnew, List.flatten_append, hat.flat]; simp, ?_, ?_⟩
  · have h1 := (hat.nodes.ch hch2 (Apart.tree hat.tree)).ch hc3 (hap _ (fun k hk => hk.2))
    have h2 := (hat.nodes.ch hch2 (Apart.tree hat.tree)).sub (Q := fun k => (P k ∨ w.heap.size ≤ k) ∧ ov.ownBlock ≠ some k ∧ v'.ownBlock ≠ some k) (fun k hk hl => ⟨hk.1, hk.2, hv k hl hk.2⟩)
    exact (h2.ch hc3 (hap _ (fun k hk => hk.2.1))).sub (fun k hk _ => ⟨hk.1, hk.2.2⟩)
  · have h2 := hnode.sub (Q := fun k => (P k ∨ w.heap.size ≤ k) ∧ ov.ownBlock ≠ some k ∧ v'.ownBlock ≠ some k) (fun k hk hl => by
      have hne : ov.ownBlock ≠ some k := fun he => by
        have := hlt k he
        rcases hk with hk | hk
        · have := hk.2; omega
        · omega
      refine ⟨?_, hne, hv k hl hne⟩
      rcases hk with hk | hk
      · exact hk.1
      · right; omega)
    exact (h2.ch hc3 (hap _ (fun k hk => hk.2.1))).sub (fun k hk _ => ⟨hk.1, hk.2.2⟩)
  · exact (hat.ch.trans hch2).trans' hc3 (fun x hx => .inr (hlt x (by simpa using hx)).1)
  · exact hc3.heap ht2 (fun hx => own_ne (own_kept hch2 hat.own (fun g hg => by simp; rintro rfl; exact own_ne hat.own hat.tree (by decide) hg)) ht2 (by decide) (by simpa using hx))

set_option maxRecDepth 100000 in
set_option maxHeartbeats 2000000 in
theorem leaves_walk (w : World) (P : Nat → Prop) (tb wt h m ca : Nat) (aa : Option Addr) (root : Value) (out : List Value) (ht : TreeBlk w tb root wt) (hwt : wt + 2 ≤ 4611686018427387904)
    (hcut : Calls Try.prog 67 #[.slice aa m ca] w (PartsOut 50 38 w P tb h root out)) :
    Calls Try.prog 58 #[PN tb, .slice aa m ca] w (Made w P tb wt 2 root h out) := by
  obtain ⟨i0, hi0, hz0, hzs, hzb⟩ := info_parts infoN
  have HH := Lib.hid hcut
  have HT := Lib.hid ht
  clear hcut ht
  go_enter Try.func58, Try.ntmps58
  go_wp2_with (go_at_call 67; refine HH.out.mono ?_; rintro e w1 ⟨gb, n, svs, gath, rfl, hP⟩)
  have ht1 : TreeBlk w1 tb root wt := hP.ch.heap HT.out (by simp)
  have hstart : MadeAt w w1 P tb wt h 0 root (.slice none 0 0) [] [] (gath 0) w1 := ⟨rfl, rfl, World.ownsRow_nil _ _ _ _, fun i k ys hi _ => by simp at hi, by rw [hP.g0]; rfl, Ch.refl _ _, ht1⟩
  have hn2 : n ≤ 2 := by rcases hP.two with h | h <;> omega
  have HP := Lib.hid hP
  have HS := Lib.hid (And.intro hstart ht1)
  clear hP ht1 hstart HH
  go_loopg [5, 11] n (fun g ov iv wr => ∃ (j : Nat) (ks : List Nat) (yss : List (List Value)), g + j = n ∧ iv = .int .i64 j ∧ MadeAt w w1 P tb wt h j root ov ks yss (gath j) wr)
  case atStart => exact ⟨0, [], [], rfl, rfl, HS.out.1⟩
  case round =>
    obtain ⟨j, ks, yss, hgj, rfl, hat⟩ := hrel
    have HJ := Lib.hid hgj
    have hjl : j ≤ n := by omega
    clear hgj
    by_cases hlt : j < n
    · have hP := HP.out
      obtain ⟨pv, hpv⟩ : ∃ pv, svs[j]? = some pv := ⟨_, List.getElem?_eq_getElem (by have := hP.len; omega)⟩
      obtain ⟨pa, pm, pc, rfl⟩ := hP.sl j _ hpv
      have hpart := hP.part wr j (wt + j) _ hpv hat.ch hat.tree (by omega)
      have c1 : wr.cell? ⟨gb, j, none⟩ = some (.slice pa pm pc) := by
        have hb1 : wr.heap[gb]? = some (.cells svs.toArray 38 (0, 0)) := hat.ch.heap hP.blk (by simp; exact ne_of_elem hP.blk HS.out.2 (by decide))
        rw [cell_of hb1]; simpa using hpv
      have HC := Lib.hid hpart
      have HA := Lib.hid hat
      have hw1 : w.heap.size ≤ w1.heap.size := hP.ch.size
      have hsz : w1.heap.size ≤ wr.heap.size := hat.ch.size
      clear hpart hat hpv hP
      go_wp2_with (first
        | (go_at_call 50; refine HC.out.mono ?_; rintro e w2 ⟨ys, rfl, hnode, hnew, hch2, ht2⟩; have hown2 := own_kept hch2 HA.out.own (fun g hg => by simp; exact fun h => own_ne HA.out.own HA.out.tree (by decide) (by rw [hg, h])); have hsz2 : w1.heap.size ≤ w2.heap.size := Nat.le_trans hsz hch2.size)
        | (at_builtin; refine wpList_append_own_at _ rfl _ _ 78 rfl w1.heap.size 74 i0 (.pointer none) 1 8 Try.underlying78 hi0 hz0 hzs hzb rfl (by decide) _ _ _ rfl (hown2.alloc _) ⟨w2.heap.size, 0, none⟩ 1 1 [PN wr.heap.size] rfl rfl ?c1 ?c2 ?c3 ?c4 ?c5 ?_))
      case c1 => exact cell_one_new _ _ _
      case c2 => intro u hu; simp at hu; subst hu; rfl
      case c3 => unfold maxLen; omega
      case c4 => omega
      case c5 => simp; omega
      intro v' w3 hown3 hg3 _ hloc
      have hat2 := HA.out.next hw1 hnode hnew hch2 ht2 hown3 hg3 (by simpa using hloc)
      have H2 := Lib.hid hat2
      clear hown3 hg3 hloc hat2 hnode hnew hch2 ht2 hown2
      go_wp2
      go_roundg (gk - 1)
      case measure => have := HJ.out; omega
      case rel => exact ⟨j + 1, _, _, by have := HJ.out; omega, by go_num, H2.out⟩
    · obtain rfl : j = n := by omega
      have H2 := Lib.hid hat
      clear hat hlt hjl
      go_wp2
      go_ret
      have hat := H2.out
      have hP := HP.out
      have h0 : 0 < j := by rcases hP.two with h | h <;> omega
      obtain ⟨g, c, rfl, _, _⟩ := hat.own.form h0
      exact ⟨j, g, c, j, ks, yss, rfl, hP.two, hat.kl, hat.yl, own_mono hat.own hP.ch.size, hat.nodes.sub (fun k hk _ => hk.1), by rw [hat.flat, hP.gn], (hP.ch.mono (fun _ h => by cases h)).trans hat.ch, hat.tree, hn2⟩

set_option maxRecDepth 100000 in
set_option maxHeartbeats 2000000 in
theorem inners_walk (w : World) (P : Nat → Prop) (tb wt h m ca : Nat) (aa : Option Addr) (root : Value) (out : List Value) (ht : TreeBlk w tb root wt) (hwt : wt + 2 ≤ 4611686018427387904)
    (hcut : Calls Try.prog 70 #[.slice aa m ca] w (PartsOut 52 78 w P tb h root out)) :
    Calls Try.prog 61 #[PN tb, .slice aa m ca] w (Made w P tb wt 2 root h out) := by
  obtain ⟨i0, hi0, hz0, hzs, hzb⟩ := info_parts infoN
  have HH := Lib.hid hcut
  have HT := Lib.hid ht
  clear hcut ht
  go_enter Try.func61, Try.ntmps61
  go_wp2_with (go_at_call 70; refine HH.out.mono ?_; rintro e w1 ⟨gb, n, svs, gath, rfl, hP⟩)
  have ht1 : TreeBlk w1 tb root wt := hP.ch.heap HT.out (by simp)
  have hstart : MadeAt w w1 P tb wt h 0 root (.slice none 0 0) [] [] (gath 0) w1 := ⟨rfl, rfl, World.ownsRow_nil _ _ _ _, fun i k ys hi _ => by simp at hi, by rw [hP.g0]; rfl, Ch.refl _ _, ht1⟩
  have hn2 : n ≤ 2 := by rcases hP.two with h | h <;> omega
  have HP := Lib.hid hP
  have HS := Lib.hid (And.intro hstart ht1)
  clear hP ht1 hstart HH
  go_loopg [5, 11] n (fun g ov iv wr => ∃ (j : Nat) (ks : List Nat) (yss : List (List Value)), g + j = n ∧ iv = .int .i64 j ∧ MadeAt w w1 P tb wt h j root ov ks yss (gath j) wr)
  case atStart => exact ⟨0, [], [], rfl, rfl, HS.out.1⟩
  case round =>
    obtain ⟨j, ks, yss, hgj, rfl, hat⟩ := hrel
    have HJ := Lib.hid hgj
    have hjl : j ≤ n := by omega
    clear hgj
    by_cases hlt : j < n
    · have hP := HP.out
      obtain ⟨pv, hpv⟩ : ∃ pv, svs[j]? = some pv := ⟨_, List.getElem?_eq_getElem (by have := hP.len; omega)⟩
      obtain ⟨pa, pm, pc, rfl⟩ := hP.sl j _ hpv
      have hpart := hP.part wr j (wt + j) _ hpv hat.ch hat.tree (by omega)
      have c1 : wr.cell? ⟨gb, j, none⟩ = some (.slice pa pm pc) := by
        have hb1 : wr.heap[gb]? = some (.cells svs.toArray 78 (0, 0)) := hat.ch.heap hP.blk (by simp; exact ne_of_elem hP.blk HS.out.2 (by decide))
        rw [cell_of hb1]; simpa using hpv
      have HC := Lib.hid hpart
      have HA := Lib.hid hat
      have hw1 : w.heap.size ≤ w1.heap.size := hP.ch.size
      have hsz : w1.heap.size ≤ wr.heap.size := hat.ch.size
      clear hpart hat hpv hP
      go_wp2_with (first
        | (go_at_call 52; refine HC.out.mono ?_; rintro e w2 ⟨ys, rfl, hnode, hnew, hch2, ht2⟩; have hown2 := own_kept hch2 HA.out.own (fun g hg => by simp; exact fun h => own_ne HA.out.own HA.out.tree (by decide) (by rw [hg, h])); have hsz2 : w1.heap.size ≤ w2.heap.size := Nat.le_trans hsz hch2.size)
        | (at_builtin; refine wpList_append_own_at _ rfl _ _ 78 rfl w1.heap.size 74 i0 (.pointer none) 1 8 Try.underlying78 hi0 hz0 hzs hzb rfl (by decide) _ _ _ rfl (hown2.alloc _) ⟨w2.heap.size, 0, none⟩ 1 1 [PN wr.heap.size] rfl rfl ?c1 ?c2 ?c3 ?c4 ?c5 ?_))
      case c1 => exact cell_one_new _ _ _
      case c2 => intro u hu; simp at hu; subst hu; rfl
      case c3 => unfold maxLen; omega
      case c4 => omega
      case c5 => simp; omega
      intro v' w3 hown3 hg3 _ hloc
      have hat2 := HA.out.next hw1 hnode hnew hch2 ht2 hown3 hg3 (by simpa using hloc)
      have H2 := Lib.hid hat2
      clear hown3 hg3 hloc hat2 hnode hnew hch2 ht2 hown2
      go_wp2
      go_roundg (gk - 1)
      case measure => have := HJ.out; omega
      case rel => exact ⟨j + 1, _, _, by have := HJ.out; omega, by go_num, H2.out⟩
    · obtain rfl : j = n := by omega
      have H2 := Lib.hid hat
      clear hat hlt hjl
      go_wp2
      go_ret
      have hat := H2.out
      have hP := HP.out
      have h0 : 0 < j := by rcases hP.two with h | h <;> omega
      obtain ⟨g, c, rfl, _, _⟩ := hat.own.form h0
      exact ⟨j, g, c, j, ks, yss, rfl, hP.two, hat.kl, hat.yl, own_mono hat.own hP.ch.size, hat.nodes.sub (fun k hk _ => hk.1), by rw [hat.flat, hP.gn], (hP.ch.mono (fun _ h => by cases h)).trans hat.ch, hat.tree, hn2⟩

theorem CutOut.two {T L : TypeId} {w w1 : World} {b0 n : Nat} {xs : List Value} {pss : List (List Value)} (hpn : pss.length = n) (hsz : pss = [xs] ∨ (n = 2 ∧ 8 < xs.length ∧ ∀ ps ∈ pss, 4 ≤ ps.length)) : n = 1 ∨ n = 2 := by
  rcases hsz with h | h
  · left; rw [← hpn, h]; rfl
  · exact .inr h.1
theorem cut_least {xs : List Value} {n m : Nat} {pss : List (List Value)} (hm : m ≤ xs.length) (hm4 : m ≤ 4) (hsz : pss = [xs] ∨ (n = 2 ∧ 8 < xs.length ∧ ∀ ps ∈ pss, 4 ≤ ps.length)) {j : Nat} {ps : List Value} (hq : pss[j]? = some ps) : m ≤ ps.length := by
  rcases hsz with h2 | h2
  · rw [h2] at hq
    match j, hq with
    | 0, hq => simp at hq; subst hq; exact hm
    | j + 1, hq => simp at hq
  · have := h2.2.2 ps (List.mem_of_getElem? hq); omega
/-- leaves: one node, or two, of these elements. -/
theorem leaves_any (w : World) (P : Nat → Prop) (tb wt b off : Nat) (root sv : Value) (xs : List Value) (ht : TreeBlk w tb root wt) (hwt : wt + 2 ≤ 4611686018427387904) (hr : Row1 2 w b off sv xs) (hP : P b) (h1 : ∀ u ∈ xs, u.oneCell' = true) (h0 : 1 ≤ xs.length) (hn : xs.length ≤ 16) :
    Calls Try.prog 58 #[PN tb, sv] w (Made w P tb wt 2 root 0 xs) := by
  obtain ⟨aa, ca, rfl, _, _⟩ := hr.shape
  refine leaves_walk w P tb wt 0 _ ca aa root xs ht hwt ((cutI w b off _ xs hr h1 hn).mono ?_)
  rintro e w1 ⟨gb, n, svs, pss, rfl, hsn, hgb, hpn, hrow, hflat, hch1, h8, hsz⟩
  have ht1 : TreeBlk w1 tb root wt := hch1.heap ht (by simp)
  refine ⟨gb, n, svs, pref pss, rfl, ⟨hsn, CutOut.two (T := 0) (L := 0) (w := w) (w1 := w) (b0 := 0) hpn hsz, hgb, hch1, rfl, ?_, ?_, ?_⟩⟩
  · unfold pref; rw [show n = pss.length by omega, List.take_length, hflat]
  · intro j pv hpv
    obtain ⟨ps, hps⟩ : ∃ ps, pss[j]? = some ps := ⟨_, List.getElem?_eq_getElem (by have := (List.getElem?_eq_some_iff.1 hpv).1; omega)⟩
    obtain ⟨b2, o2, _, hr2⟩ := hrow j pv ps hpv hps
    obtain ⟨a2, c2, h, _⟩ := hr2.shape
    exact ⟨_, _, _, h⟩
  · intro W j wq pv hpv hcw htw hwq
    obtain ⟨ps, hps⟩ : ∃ ps, pss[j]? = some ps := ⟨_, List.getElem?_eq_getElem (by have := (List.getElem?_eq_some_iff.1 hpv).1; omega)⟩
    obtain ⟨b2, o2, hb2, hr2⟩ := hrow j pv ps hpv hps
    have hps1 := cut_least h0 (by omega) hsz hps
    refine (leaf_any W (PartIn P w w1) tb wq root pv b2 o2 ps (fun hne => ⟨?_, hr2.lt hne⟩) htw hwq (hr2.ch hcw (fun hne hm => by simp at hm; exact hr2.ne hne ht1 (by decide) hm)) (fun u hu => h1 u (by rw [← hflat]; exact List.mem_flatten.2 ⟨ps, List.mem_of_getElem? hps, hu⟩)) (h8 ps (List.mem_of_getElem? hps))).mono ?_
    · rcases hb2 with h | h
      · left; rw [h]; exact hP
      · exact .inr h
    · rintro e w' ⟨rfl, hnode, hch3, ht3⟩
      exact ⟨ps, rfl, hnode.mono (fun _ h _ => h) hps1 (Nat.le_refl _), pref_succ hps, hch3, ht3⟩
/-- inners: one node, or two, of these nodes. -/
theorem inners_any (w : World) (P : Nat → Prop) (tb wt h b off : Nat) (root sv : Value) (ks0 : List Nat) (yss0 : List (List Value)) (ht : TreeBlk w tb root wt) (hwt : wt + 2 ≤ 4611686018427387904) (hr : Row1 74 w b off sv (ks0.map PN)) (hP : P b) (hl0 : ks0.length = yss0.length)
    (hkid : NodesW w P h ks0 yss0) (h0 : 2 ≤ ks0.length) (hn : ks0.length ≤ 16) (hx : yss0.flatten.length ≤ 10000) :
    Calls Try.prog 61 #[PN tb, sv] w (Made w P tb wt 2 root (h + 1) yss0.flatten) := by
  obtain ⟨aa, ca, rfl, _, _⟩ := hr.shape
  refine inners_walk w P tb wt (h + 1) _ ca aa root _ ht hwt ((cutN w b off _ _ hr (pn_one ks0) (by rw [List.length_map]; exact hn)).mono ?_)
  rintro e w1 ⟨gb, n, svs, pss, rfl, hsn, hgb, hpn, hrow, hflat, hch1, h8, hsz⟩
  have ht1 : TreeBlk w1 tb root wt := hch1.heap ht (by simp)
  have hkid1 : NodesW w1 (PartIn P w w1) h ks0 yss0 := (hkid.ch hch1 (Apart.nil w P)).sub (fun k hk hl => ⟨.inl hk, hl⟩)
  refine ⟨gb, n, svs, (fun j => (yss0.take (pre pss j)).flatten), rfl, ⟨hsn, CutOut.two (T := 0) (L := 0) (w := w) (w1 := w) (b0 := 0) hpn hsz, hgb, hch1, rfl, ?_, ?_, ?_⟩⟩
  · show (yss0.take (pre pss n)).flatten = yss0.flatten
    have : pre pss n = yss0.length := by unfold pre; rw [show n = pss.length by omega, List.take_length, hflat, List.length_map, hl0]
    rw [this, List.take_length]
  · intro j pv hpv
    obtain ⟨ps, hps⟩ : ∃ ps, pss[j]? = some ps := ⟨_, List.getElem?_eq_getElem (by have := (List.getElem?_eq_some_iff.1 hpv).1; omega)⟩
    obtain ⟨b2, o2, _, hr2⟩ := hrow j pv ps hpv hps
    obtain ⟨a2, c2, h, _⟩ := hr2.shape
    exact ⟨_, _, _, h⟩
  · intro W j wq pv hpv hcw htw hwq
    obtain ⟨ps, hq⟩ : ∃ ps, pss[j]? = some ps := ⟨_, List.getElem?_eq_getElem (by have := (List.getElem?_eq_some_iff.1 hpv).1; omega)⟩
    obtain ⟨b2, o2, hb2, hr2⟩ := hrow j pv ps hpv hq
    have e0 := part_of hq
    rw [hflat] at e0
    have hlen : pre pss j + ps.length ≤ ks0.length := by have := lies_len hq; rw [hflat, List.length_map] at this; exact this
    have e1 : ps = ((ks0.drop (pre pss j)).take ps.length).map PN := by rw [List.map_take, List.map_drop]; exact e0
    have hps : 2 ≤ ps.length := cut_least (by rw [List.length_map]; exact h0) (by omega) hsz hq
    obtain ⟨m, hm⟩ : ∃ m, m = ps.length := ⟨_, rfl⟩
    have h8' := h8 ps (List.mem_of_getElem? hq)
    rw [← hm] at e1 hlen hps h8'
    have l1 : ((ks0.drop (pre pss j)).take m).length = m := by rw [List.length_take, List.length_drop]; omega
    have l2 : ((yss0.drop (pre pss j)).take m).length = m := by rw [List.length_take, List.length_drop]; omega
    have hsum : yss0.flatten.length = (yss0.take (pre pss j)).flatten.length + ((yss0.drop (pre pss j)).take m).flatten.length + (yss0.drop (pre pss j + m)).flatten.length := by
      conv => lhs; rw [← List.take_append_drop (pre pss j) yss0, ← List.take_append_drop m (yss0.drop (pre pss j)), List.drop_drop]
      rw [List.flatten_append, List.flatten_append, List.length_append, List.length_append]; omega
    have hr3 := hr2.ch hcw (fun hne hm => by simp at hm; exact hr2.ne hne ht1 (by decide) hm)
    have hlt := hr2.lt (by intro h; rw [h] at hm; simp at hm; omega)
    rw [e1] at hr3
    refine (inner_any W (PartIn P w w1) tb wq h b2 o2 root pv _ ((yss0.drop (pre pss j)).take m) _ htw hwq hr3 (by rw [l1, l2]) rfl (by rw [l1]; exact h8') (by omega) (fun i q ys hi hy => ?_) (fun _ => ⟨?_, hlt⟩)).mono ?_
    · rw [List.getElem?_take] at hi hy
      split at hi
      · rename_i hlt
        rw [if_pos hlt, List.getElem?_drop] at hy
        rw [List.getElem?_drop] at hi
        exact (hkid1 _ q ys hi hy).ch hcw (Apart.tree ht1)
      · cases hi
    · rcases hb2 with h | h
      · left; rw [h]; exact hP
      · exact .inr h
    · rintro e w' ⟨rfl, hnode, hch3, ht3⟩
      rw [l1] at hnode
      refine ⟨_, rfl, hnode.mono (fun _ h _ => h) (Nat.le_refl _) hps, ?_, hch3, ht3⟩
      show (yss0.take (pre pss (j + 1))).flatten = (yss0.take (pre pss j)).flatten ++ ((yss0.drop (pre pss j)).take m).flatten
      rw [show pre pss (j + 1) = pre pss j + ps.length from take_succ_len hq, ← hm, List.take_add, List.flatten_append]
end Go.Proofs.Ytjecadkmlakncaa
