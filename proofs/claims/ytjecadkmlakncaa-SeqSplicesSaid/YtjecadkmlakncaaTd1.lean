/-
  append of a row that is read; slices.Grow of nil; slices.Concat. (printed by wip/gen_tree2.py)
-/
import Derived.Test.YtjecadkmlakncaaTr2
import Derived.Test.YtjecadkmlakncaaNd1
import Derived.Deep.AppendLies
import Derived.Deep.LoopGhost
namespace Go.Proofs.Ytjecadkmlakncaa
open Go.RowKit

section
variable {P : Program} (w : World)
/-- append onto a row of the call's own, the source nil or not. -/
theorem run_append_src (base : Nat) (t ty e : TypeId) (i : TypeInfo) (z : Value) (size bytes : Nat) (ht : P.underlying t = some (.slice e)) (hi : P.info? e = some i) (hz : i.zero = some z)
    (hsize : i.size = size) (hby : i.bytes = bytes) (hzs : z.cells.size = size) (hsz : 0 < size) (v : Value) (n : Nat) (xs : List Value) (hown : w.ownsRow base e size v n xs)
    (A : Option Addr) (m c : Nat) (news : List Value) (hl : news.length = m * size) (hnews : news ≠ [] → ∃ ad, A = some ad ∧ ∀ j u, news[j]? = some u → w.cell? (ad.add j) = some u) (h1 : ∀ u ∈ news, u.oneCell' = true)
    (h63 : n + m ≤ maxLen) (hbytes : (n + m) * bytes ≤ 140737488355328) (hbase : base ≤ w.heap.size) :
    ∃ v' w', (Builtin.append_ #[t, t] ty #[v, .slice A m c]).run P w = .ok v' w' ∧ w'.ownsRow base e size v' (n + m) (xs ++ news) ∧ w.grownBy w' v.ownBlock := by
  cases A with
  | none =>
    have hn : news = [] := by
      by_cases h : news = []
      · exact h
      · obtain ⟨ad, h2, _⟩ := hnews h; cases h2
    subst hn
    have hm : m = 0 := by
      rcases Nat.eq_zero_or_pos m with h | h
      · exact h
      · have := Nat.mul_pos h hsz; simp at hl; omega
    subst hm
    refine ⟨v, w, ?_, by simpa using hown, World.grownBy.refl w _⟩
    rcases hown.2 with ⟨rfl, rfl⟩ | ⟨g, cap, cur, rfl, _, _, hnc, _⟩
    · simp [Builtin.append_, run_underlying ht, sizeOf, typeInfo, hi, Builtin.lenOf, Builtin.firstCells]
    · simp [Builtin.append_, run_underlying ht, sizeOf, typeInfo, hi, Builtin.lenOf, Builtin.firstCells, hnc, storeCells]
  | some ad =>
    have hc : ∀ j u, news[j]? = some u → w.cell? (ad.add j) = some u := by
      intro j u hu
      obtain ⟨ad', h, hh⟩ := hnews (by rintro rfl; simp at hu)
      cases h
      exact hh j u hu
    obtain ⟨v', w', hrun, h2, h3, _, _⟩ := run_append_own_at (P := P) w base t ty e i z size bytes ht hi hz hsize hby hzs hsz v n xs hown ad m c news hl hc h1 h63 hbytes hbase
    exact ⟨v', w', hrun, h2, h3⟩
theorem wpList_append_src {ops : Array Oper} {rest : List Oper} {o : Oper} {a : Act} {Q : Exit → Act → World → Prop} (hgd : o.guard = none) (s x : Operand) (t : TypeId)
    (ho : o.op = .call { callee := .builtin .append, args := #[s, x], argTypes := #[t, t] })
    (base : Nat) (e : TypeId) (i : TypeInfo) (z : Value) (size bytes : Nat) (ht : P.underlying t = some (.slice e)) (hi : P.info? e = some i) (hz : i.zero = some z)
    (hsize : i.size = size) (hby : i.bytes = bytes) (hzs : z.cells.size = size) (hsz : 0 < size)
    (v : Value) (n : Nat) (xs : List Value) (hs : a.eval s = v) (hown : w.ownsRow base e size v n xs)
    (A : Option Addr) (m c : Nat) (news : List Value) (hx : a.eval x = .slice A m c) (hl : news.length = m * size) (hnews : news ≠ [] → ∃ ad, A = some ad ∧ ∀ j u, news[j]? = some u → w.cell? (ad.add j) = some u) (h1 : ∀ u ∈ news, u.oneCell' = true)
    (h63 : n + m ≤ maxLen) (hbytes : (n + m) * bytes ≤ 140737488355328) (hbase : base ≤ w.heap.size)
    (h : ∀ v' w', w'.ownsRow base e size v' (n + m) (xs ++ news) → w.grownBy w' v.ownBlock → wpList P ops Q rest (a.put o.dst v') w') : wpList P ops Q (o :: rest) a w := by
  refine wpList_plain hgd fun K hK => ?_
  obtain ⟨v', w', hrun, h2, h3⟩ := run_append_src (P := P) w base t o.type e i z size bytes ht hi hz hsize hby hzs hsz v n xs hown A m c news hl hnews h1 h63 hbytes hbase
  unfold Oper.wp execOp
  simp only [ho, resolve, invoke, builtin, Sem.run_bind, Sem.run_pure, Result.andThen_ok, List.map_toArray, List.map_cons, List.map_nil, hs, hx, hrun]
  exact hK _ _ (h v' w' h2 h3)
end
/-- The first k lists in a row; how many elements these have. -/
def pref (pss : List (List Value)) (k : Nat) : List Value := (pss.take k).flatten
def pre (pss : List (List Value)) (k : Nat) : Nat := (pss.take k).flatten.length
theorem pref_succ {pss : List (List Value)} {k : Nat} {ps : List Value} (h : pss[k]? = some ps) : pref pss (k + 1) = pref pss k ++ ps := by
  unfold pref
  rw [List.take_add_one, h]; simp
/-- A row that is read, as a source. -/
theorem Row1.src {T : TypeId} {w : World} {b off : Nat} {a : Option Addr} {n c : Nat} {xs : List Value} (h : Row1 T w b off (.slice a n c) xs) : xs ≠ [] → ∃ ad, a = some ad ∧ ∀ j u, xs[j]? = some u → w.cell? (ad.add j) = some u := by
  intro hne
  obtain ⟨a', c', h1, _, h2⟩ := h.1
  cases h1
  exact ⟨_, h2 hne, fun j u hu => by rw [Addr.add_lit]; exact h.get j u hu⟩

set_option maxRecDepth 100000 in
set_option maxHeartbeats 1000000 in
/-- slices.Grow of nil. -/
theorem growI (n : Nat) (w : World) (hn : n ≤ 10000) :
    Calls Try.prog 80 #[.slice none 0 0, .int .i64 n] w fun e w' => ∃ sv', e = .returned sv' ∧ w'.ownsRow w.heap.size 2 1 sv' 0 [] ∧ Ch [] w w' := by
  by_cases h0 : n = 0
  · subst h0
    go_enter Try.func80, Try.ntmps80
    go_wp2
    go_ret
    exact ⟨_, rfl, World.ownsRow_nil _ _ _ _, Ch.refl _ _⟩
  · obtain ⟨i0, hi0, hz0, hzs, hzb⟩ := info_parts infoI
    have hold : (Builtin.firstCells i0.size 0 (.slice none 0 0)).run Try.prog w.drew = .ok (([] : List Value).toArray) w.drew := run_firstCells_none w.drew i0.size 0 0 0
    have hrz : ∀ ty, (Builtin.append_ #[38, 3] ty #[.slice none 0 0, .int .i64 (n : Int)]).run Try.prog w =
        .ok (.slice (some ⟨w.heap.size, 0, none⟩) n (grownCap w n 0 2)) (w.drew.alloc (.cells (([] : List Value).toArray ++ Builtin.zeroCells (Value.cells (.int .i64 0)) n ++ Builtin.zeroCells (Value.cells (.int .i64 0)) (grownCap w n 0 2 - n)) 2)) := fun ty => by
      have h := Lib.run_append_grow_zeros w 38 3 ty 2 i0 _ .i64 .i64 Try.underlying38 Try.underlying3 hi0 hz0 none 0 0 [] hold n (by omega) (by omega) (by omega) (by omega) (by rw [hzb]; omega) (by rw [hzb, Nat.zero_add]; exact growslice_fits (by omega) (by omega))
      rw [Nat.zero_add] at h
      exact h
    have hGn : n ≤ grownCap w n 0 2 := grownCap_ge w _ _ _
    have hGm : grownCap w n 0 2 ≤ maxLen := grownCap_le_maxLen w _ _ _ (by unfold maxLen; omega)
    obtain ⟨G, hG⟩ : ∃ G, G = grownCap w n 0 2 := ⟨_, rfl⟩
    rw [← hG] at hrz hGn hGm
    have hG63 : G ≤ 9223372036854775807 := by unfold maxLen at hGm; omega
    have hpos : (0 : Int) < (n : Int) := by omega
    obtain ⟨ROW, hROW⟩ : ∃ ROW : Array Value, ROW = ([] : List Value).toArray ++ Builtin.zeroCells (Value.cells (.int .i64 0)) n ++ Builtin.zeroCells (Value.cells (.int .i64 0)) (G - n) := ⟨_, rfl⟩
    rw [← hROW] at hrz
    have hRs : ROW.size = G := by
      rw [hROW]
      simp only [Array.size_append, zeroCells_size (.int .i64 0) _ rfl, List.size_toArray, List.length_nil]
      omega
    have hH := Lib.hid (And.intro hGm hRs)
    clear hold hG hGm hROW hRs
    go_enter Try.func80, Try.ntmps80
    go_wp2_with (at_builtin; refine Lib.wpList_append_run _ rfl _ _ _ _ rfl _ _ rfl rfl _ _ (hrz _) ?_)
    all_goals
      go_ret
      exact ⟨_, rfl, ownOf (g := w.heap.size) (Nat.le_refl _) (heap_alloc_same w.drew _) (by omega) hH.out.1 hH.out.2 (by simp) rfl, (Ch.refl _ _).drew.alloc _⟩

set_option maxRecDepth 100000 in
set_option maxHeartbeats 2000000 in
/-- slices.Concat. -/
theorem concatI (w : World) (gb n : Nat) (svs : List Value) (pss : List (List Value)) (xs : List Value) (hx : pss.flatten = xs) (hsn : svs.length = n) (hb : w.heap[gb]? = some (.cells svs.toArray 38 (0, 0))) (hl : svs.length = pss.length) (h10 : n ≤ 10)
    (hrow : ∀ (j : Nat) (sv : Value) (ps : List Value), svs[j]? = some sv → pss[j]? = some ps → ∃ b o, Row1 2 w b o sv ps) (hone : ∀ ps ∈ pss, ∀ u ∈ ps, u.oneCell' = true) (hn : xs.length ≤ 10000) :
    Calls Try.prog 76 #[.slice (some ⟨gb, 0, none⟩) n n] w fun e w' => ∃ sv', e = .returned sv' ∧ w'.ownsRow w.heap.size 2 1 sv' xs.length xs ∧ Ch [] w w' := by
  obtain ⟨i0, hi0, hz0, hzs, hzb⟩ := info_parts infoI
  have hcell : ∀ W, Ch [] w W → ∀ j sv, svs[j]? = some sv → W.cell? ⟨gb, j, none⟩ = some sv := fun W hc j sv hj => by
    rw [cell_of (hc.heap hb (by simp))]; simpa using hj
  have hstep : ∀ k, k < n → ∃ sv ps, svs[k]? = some sv ∧ pss[k]? = some ps := fun k hk => ⟨_, _, List.getElem?_eq_getElem (by omega), List.getElem?_eq_getElem (by omega)⟩
  have hpre : ∀ k ps, pss[k]? = some ps → pre pss (k + 1) = pre pss k + ps.length ∧ pre pss k + ps.length ≤ 10000 := fun k ps hp =>
    ⟨take_succ_len hp, by have h1 := lies_len hp; rw [hx] at h1; exact Nat.le_trans h1 hn⟩
  have hend : pre pss n = xs.length ∧ pref pss n = xs := by unfold pre pref; rw [show n = pss.length by omega, List.take_length, hx]; exact ⟨rfl, rfl⟩
  have HB := Lib.hid (And.intro hb (And.intro hrow (And.intro hone (And.intro hn hend))))
  have HC := Lib.hid hcell
  have HS := Lib.hid hstep
  have HP := Lib.hid hpre
  clear hb hl hrow hone hcell hx hsn hstep hpre hend
  go_enter Try.func76, Try.ntmps76
  go_wp2
  go_loopg [3, 11] n (fun g sv iv wr => ∃ k : Nat, g + k = n ∧ sv = .int .i64 (pre pss k) ∧ iv = .int .i64 k ∧ w = wr)
  case atStart => exact ⟨0, rfl, rfl, rfl, rfl⟩
  case round =>
    obtain ⟨k, hgk, rfl, rfl, rfl⟩ := hrel
    have HK := Lib.hid hgk
    have hkl : k ≤ n := by omega
    clear hgk
    by_cases hlt : k < n
    · obtain ⟨sv, ps, hsv, hps⟩ := HS.out k hlt
      obtain ⟨b, o, hr⟩ := HB.out.2.1 k sv ps hsv hps
      obtain ⟨aa, ca, rfl, _, _⟩ := hr.shape
      have c1 := HC.out w (Ch.refl _ _) k _ hsv
      obtain ⟨e1, e2⟩ := HP.out k ps hps
      have hp1 : pre pss k ≤ 10000 := by omega
      have hp2 : ps.length ≤ 10000 := by omega
      have E1 := Lib.hid e1
      clear e1 e2 hr hsv hps
      go_wp2
      go_roundg (gk - 1)
      case measure => have := HK.out; omega
      case rel => exact ⟨k + 1, by have := HK.out; omega, by rw [E1.out]; go_num, by go_num, rfl⟩
    · obtain rfl : k = n := by omega
      have hn0 : pre pss k ≤ 10000 := by rw [HB.out.2.2.2.2.1]; exact hn
      clear hlt hkl
      go_wp2_with (go_at_call 80; refine (growI _ _ hn0).mono ?_; rintro e w1 ⟨nv, rfl, hown, hch⟩)
      have H1 := Lib.hid (And.intro hown hch)
      clear hown hch hn hn0
      go_loopg [6, 27] k (fun g nv iv wq => ∃ j : Nat, g + j = k ∧ wq.ownsRow w.heap.size 2 1 nv (pre pss j) (pref pss j) ∧ iv = .int .i64 j ∧ Ch [] w wq)
      case atStart => exact ⟨0, rfl, H1.out.1, rfl, H1.out.2⟩
      case round =>
        obtain ⟨j, hgj, hown, rfl, hch⟩ := hrel
        have HJ := Lib.hid hgj
        have hjl : j ≤ k := by omega
        clear hgj
        by_cases hlt : j < k
        · obtain ⟨sv, ps, hsv, hps⟩ := HS.out j hlt
          obtain ⟨b, o, hr⟩ := HB.out.2.1 j sv ps hsv hps
          obtain ⟨aa, ca, rfl, _, _⟩ := hr.shape
          have c1 := HC.out wr hch j _ hsv
          obtain ⟨e1, e2⟩ := HP.out j ps hps
          have hp1 : pre pss j ≤ 10000 := by omega
          have hp2 : ps.length ≤ 10000 := by omega
          have hr' := hr.ch hch (by simp)
          have hone := HB.out.2.2.1 ps (List.mem_of_getElem? hps)
          have H2 := Lib.hid (And.intro hown (And.intro hr'.src (And.intro hone (And.intro hch.size (And.intro e1 (And.intro hps hch))))))
          clear e1 hr hr' hsv hps hone hown hch
          go_wp2_with (at_builtin; refine wpList_append_src _ rfl _ _ 38 rfl w.heap.size 2 i0 _ 1 8 Try.underlying38 hi0 hz0 hzs hzb rfl (by decide) _ _ _ rfl H2.out.1 aa ps.length ca ps rfl (by simp) H2.out.2.1 H2.out.2.2.1 (by unfold maxLen; omega) (by omega) H2.out.2.2.2.1 ?_; intro v' w2 hown2 hg2)
          have hch2 : Ch [] w w2 := H2.out.2.2.2.2.2.2.grown hg2 (fun q hq => .inr (own_base H2.out.1 hq).1)
          have H3 := Lib.hid (And.intro hown2 hch2)
          clear hown2 hg2 hch2
          go_wp2
          go_roundg (gk - 1)
          case measure => have := HJ.out; omega
          case rel =>
            refine ⟨j + 1, by have := HJ.out; omega, ?_, by go_num, H3.out.2⟩
            rw [H2.out.2.2.2.2.1, pref_succ H2.out.2.2.2.2.2.1]
            exact H3.out.1
        · obtain rfl : j = k := by omega
          have H2 := Lib.hid (And.intro hown hch)
          clear hown hch hlt hjl
          go_wp2
          go_ret
          refine ⟨_, rfl, ?_, H2.out.2⟩
          have := H2.out.1
          rwa [HB.out.2.2.2.2.1, HB.out.2.2.2.2.2] at this

set_option maxRecDepth 100000 in
set_option maxHeartbeats 1000000 in
/-- slices.Grow of nil. -/
theorem growN (n : Nat) (w : World) (hn : n ≤ 10000) :
    Calls Try.prog 79 #[.slice none 0 0, .int .i64 n] w fun e w' => ∃ sv', e = .returned sv' ∧ w'.ownsRow w.heap.size 74 1 sv' 0 [] ∧ Ch [] w w' := by
  by_cases h0 : n = 0
  · subst h0
    go_enter Try.func79, Try.ntmps79
    go_wp2
    go_ret
    exact ⟨_, rfl, World.ownsRow_nil _ _ _ _, Ch.refl _ _⟩
  · obtain ⟨i0, hi0, hz0, hzs, hzb⟩ := info_parts infoN
    have hold : (Builtin.firstCells i0.size 0 (.slice none 0 0)).run Try.prog w.drew = .ok (([] : List Value).toArray) w.drew := run_firstCells_none w.drew i0.size 0 0 0
    have hrz : ∀ ty, (Builtin.append_ #[78, 3] ty #[.slice none 0 0, .int .i64 (n : Int)]).run Try.prog w =
        .ok (.slice (some ⟨w.heap.size, 0, none⟩) n (grownCap w n 0 74)) (w.drew.alloc (.cells (([] : List Value).toArray ++ Builtin.zeroCells (Value.cells (.pointer none)) n ++ Builtin.zeroCells (Value.cells (.pointer none)) (grownCap w n 0 74 - n)) 74)) := fun ty => by
      have h := Lib.run_append_grow_zeros w 78 3 ty 74 i0 _ .i64 .i64 Try.underlying78 Try.underlying3 hi0 hz0 none 0 0 [] hold n (by omega) (by omega) (by omega) (by omega) (by rw [hzb]; omega) (by rw [hzb, Nat.zero_add]; exact growslice_fits (by omega) (by omega))
      rw [Nat.zero_add] at h
      exact h
    have hGn : n ≤ grownCap w n 0 74 := grownCap_ge w _ _ _
    have hGm : grownCap w n 0 74 ≤ maxLen := grownCap_le_maxLen w _ _ _ (by unfold maxLen; omega)
    obtain ⟨G, hG⟩ : ∃ G, G = grownCap w n 0 74 := ⟨_, rfl⟩
    rw [← hG] at hrz hGn hGm
    have hG63 : G ≤ 9223372036854775807 := by unfold maxLen at hGm; omega
    have hpos : (0 : Int) < (n : Int) := by omega
    obtain ⟨ROW, hROW⟩ : ∃ ROW : Array Value, ROW = ([] : List Value).toArray ++ Builtin.zeroCells (Value.cells (.pointer none)) n ++ Builtin.zeroCells (Value.cells (.pointer none)) (G - n) := ⟨_, rfl⟩
    rw [← hROW] at hrz
    have hRs : ROW.size = G := by
      rw [hROW]
      simp only [Array.size_append, zeroCells_size (.pointer none) _ rfl, List.size_toArray, List.length_nil]
      omega
    have hH := Lib.hid (And.intro hGm hRs)
    clear hold hG hGm hROW hRs
    go_enter Try.func79, Try.ntmps79
    go_wp2_with (at_builtin; refine Lib.wpList_append_run _ rfl _ _ _ _ rfl _ _ rfl rfl _ _ (hrz _) ?_)
    all_goals
      go_ret
      exact ⟨_, rfl, ownOf (g := w.heap.size) (Nat.le_refl _) (heap_alloc_same w.drew _) (by omega) hH.out.1 hH.out.2 (by simp) rfl, (Ch.refl _ _).drew.alloc _⟩

set_option maxRecDepth 100000 in
set_option maxHeartbeats 2000000 in
/-- slices.Concat. -/
theorem concatN (w : World) (gb n : Nat) (svs : List Value) (pss : List (List Value)) (xs : List Value) (hx : pss.flatten = xs) (hsn : svs.length = n) (hb : w.heap[gb]? = some (.cells svs.toArray 78 (0, 0))) (hl : svs.length = pss.length) (h10 : n ≤ 10)
    (hrow : ∀ (j : Nat) (sv : Value) (ps : List Value), svs[j]? = some sv → pss[j]? = some ps → ∃ b o, Row1 74 w b o sv ps) (hone : ∀ ps ∈ pss, ∀ u ∈ ps, u.oneCell' = true) (hn : xs.length ≤ 10000) :
    Calls Try.prog 75 #[.slice (some ⟨gb, 0, none⟩) n n] w fun e w' => ∃ sv', e = .returned sv' ∧ w'.ownsRow w.heap.size 74 1 sv' xs.length xs ∧ Ch [] w w' := by
  obtain ⟨i0, hi0, hz0, hzs, hzb⟩ := info_parts infoN
  have hcell : ∀ W, Ch [] w W → ∀ j sv, svs[j]? = some sv → W.cell? ⟨gb, j, none⟩ = some sv := fun W hc j sv hj => by
    rw [cell_of (hc.heap hb (by simp))]; simpa using hj
  have hstep : ∀ k, k < n → ∃ sv ps, svs[k]? = some sv ∧ pss[k]? = some ps := fun k hk => ⟨_, _, List.getElem?_eq_getElem (by omega), List.getElem?_eq_getElem (by omega)⟩
  have hpre : ∀ k ps, pss[k]? = some ps → pre pss (k + 1) = pre pss k + ps.length ∧ pre pss k + ps.length ≤ 10000 := fun k ps hp =>
    ⟨take_succ_len hp, by have h1 := lies_len hp; rw [hx] at h1; exact Nat.le_trans h1 hn⟩
  have hend : pre pss n = xs.length ∧ pref pss n = xs := by unfold pre pref; rw [show n = pss.length by omega, List.take_length, hx]; exact ⟨rfl, rfl⟩
  have HB := Lib.hid (And.intro hb (And.intro hrow (And.intro hone (And.intro hn hend))))
  have HC := Lib.hid hcell
  have HS := Lib.hid hstep
  have HP := Lib.hid hpre
  clear hb hl hrow hone hcell hx hsn hstep hpre hend
  go_enter Try.func75, Try.ntmps75
  go_wp2
  go_loopg [3, 11] n (fun g sv iv wr => ∃ k : Nat, g + k = n ∧ sv = .int .i64 (pre pss k) ∧ iv = .int .i64 k ∧ w = wr)
  case atStart => exact ⟨0, rfl, rfl, rfl, rfl⟩
  case round =>
    obtain ⟨k, hgk, rfl, rfl, rfl⟩ := hrel
    have HK := Lib.hid hgk
    have hkl : k ≤ n := by omega
    clear hgk
    by_cases hlt : k < n
    · obtain ⟨sv, ps, hsv, hps⟩ := HS.out k hlt
      obtain ⟨b, o, hr⟩ := HB.out.2.1 k sv ps hsv hps
      obtain ⟨aa, ca, rfl, _, _⟩ := hr.shape
      have c1 := HC.out w (Ch.refl _ _) k _ hsv
      obtain ⟨e1, e2⟩ := HP.out k ps hps
      have hp1 : pre pss k ≤ 10000 := by omega
      have hp2 : ps.length ≤ 10000 := by omega
      have E1 := Lib.hid e1
      clear e1 e2 hr hsv hps
      go_wp2
      go_roundg (gk - 1)
      case measure => have := HK.out; omega
      case rel => exact ⟨k + 1, by have := HK.out; omega, by rw [E1.out]; go_num, by go_num, rfl⟩
    · obtain rfl : k = n := by omega
      have hn0 : pre pss k ≤ 10000 := by rw [HB.out.2.2.2.2.1]; exact hn
      clear hlt hkl
      go_wp2_with (go_at_call 79; refine (growN _ _ hn0).mono ?_; rintro e w1 ⟨nv, rfl, hown, hch⟩)
      have H1 := Lib.hid (And.intro hown hch)
      clear hown hch hn hn0
      go_loopg [6, 27] k (fun g nv iv wq => ∃ j : Nat, g + j = k ∧ wq.ownsRow w.heap.size 74 1 nv (pre pss j) (pref pss j) ∧ iv = .int .i64 j ∧ Ch [] w wq)
      case atStart => exact ⟨0, rfl, H1.out.1, rfl, H1.out.2⟩
      case round =>
        obtain ⟨j, hgj, hown, rfl, hch⟩ := hrel
        have HJ := Lib.hid hgj
        have hjl : j ≤ k := by omega
        clear hgj
        by_cases hlt : j < k
        · obtain ⟨sv, ps, hsv, hps⟩ := HS.out j hlt
          obtain ⟨b, o, hr⟩ := HB.out.2.1 j sv ps hsv hps
          obtain ⟨aa, ca, rfl, _, _⟩ := hr.shape
          have c1 := HC.out wr hch j _ hsv
          obtain ⟨e1, e2⟩ := HP.out j ps hps
          have hp1 : pre pss j ≤ 10000 := by omega
          have hp2 : ps.length ≤ 10000 := by omega
          have hr' := hr.ch hch (by simp)
          have hone := HB.out.2.2.1 ps (List.mem_of_getElem? hps)
          have H2 := Lib.hid (And.intro hown (And.intro hr'.src (And.intro hone (And.intro hch.size (And.intro e1 (And.intro hps hch))))))
          clear e1 hr hr' hsv hps hone hown hch
          go_wp2_with (at_builtin; refine wpList_append_src _ rfl _ _ 78 rfl w.heap.size 74 i0 _ 1 8 Try.underlying78 hi0 hz0 hzs hzb rfl (by decide) _ _ _ rfl H2.out.1 aa ps.length ca ps rfl (by simp) H2.out.2.1 H2.out.2.2.1 (by unfold maxLen; omega) (by omega) H2.out.2.2.2.1 ?_; intro v' w2 hown2 hg2)
          have hch2 : Ch [] w w2 := H2.out.2.2.2.2.2.2.grown hg2 (fun q hq => .inr (own_base H2.out.1 hq).1)
          have H3 := Lib.hid (And.intro hown2 hch2)
          clear hown2 hg2 hch2
          go_wp2
          go_roundg (gk - 1)
          case measure => have := HJ.out; omega
          case rel =>
            refine ⟨j + 1, by have := HJ.out; omega, ?_, by go_num, H3.out.2⟩
            rw [H2.out.2.2.2.2.1, pref_succ H2.out.2.2.2.2.2.1]
            exact H3.out.1
        · obtain rfl : j = k := by omega
          have H2 := Lib.hid (And.intro hown hch)
          clear hown hch hlt hjl
          go_wp2
          go_ret
          refine ⟨_, rfl, ?_, H2.out.2⟩
          have := H2.out.1
          rwa [HB.out.2.2.2.2.1, HB.out.2.2.2.2.2] at this
end Go.Proofs.Ytjecadkmlakncaa
