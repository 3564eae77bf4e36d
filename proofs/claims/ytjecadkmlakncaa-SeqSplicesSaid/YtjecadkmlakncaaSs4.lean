/-
  SeqSplices: what its first loop keeps; the list that is wanted.
-/
import Derived.Test.YtjecadkmlakncaaSs3
import Derived.Test.YtjecadkmlakncaaPs1
import Derived.Test.YtjecadkmlakncaaTd1
namespace Go.Proofs.Ytjecadkmlakncaa
open Go.RowKit

/-- What the first loop keeps: the rows, those that are asked to move, those that stay. -/
structure Spl (w : World) (b : Int) (xb tb mb j wn : Nat) (idv lv : Value) (is : List Int) (wr : World) : Prop where
  ix : IxAt SeqT wr (fun q => lv.ownBlock ≠ some q) xb tb mb (upto j) wn j
  io : wr.ownsRow w.heap.size 2 1 idv is.length (ids is)
  lo : wr.ownsRow w.heap.size 2 1 lv (fil is (upto j)).length (ids (fil is (upto j)))
  ne : idv.ownBlock = none ∨ idv.ownBlock ≠ lv.ownBlock
  nd : is.Nodup
  im : ∀ c, c ∈ is → c ∈ upto j ∧ c ≠ b
  il : is.length ≤ j
  ch : Ch [] w wr
theorem own_ix {w w' : World} {P : Nat → Prop} {xb tb mb wr n base k : Nat} {xs : List Int} {v : Value} {vs : List Value} (ho : w.ownsRow base 2 1 v k vs) (h : IxAt SeqT w P xb tb mb xs wr n) (hc : Ch [tb, mb] w w') : w'.ownsRow base 2 1 v k vs := by
  obtain ⟨root, hb⟩ := h.tree.blk
  obtain ⟨es, clock, hmm⟩ := h.set.blk
  refine own_kept hc ho (fun g hg hm => ?_)
  simp at hm
  rcases hm with rfl | rfl
  · exact own_ne ho hb (by decide) hg
  · rcases ho.2 with ⟨rfl, _⟩ | ⟨g', cap, cur, rfl, _, hh, _⟩
    · simp [Value.ownBlock] at hg
    · simp [Value.ownBlock] at hg
      subst hg
      rw [hmm] at hh; cases hh
theorem fil_up (is : List Int) (j : Nat) : fil is (upto (j + 1)) = fil is (upto j) ++ (if ((j : Int) + 1) ∈ is then [] else [(j : Int) + 1]) := by
  have : upto j ++ [(j : Int) + 1] = upto (j + 1) := by simp [upto, List.range_succ]
  rw [← this]
  unfold fil
  rw [List.filter_append]
  congr 1
  by_cases h : ((j : Int) + 1) ∈ is <;> simp [h]
theorem fil_cons {c : Int} {is xs : List Int} (h : c ∉ xs) : fil (c :: is) xs = fil is xs := by
  unfold fil
  apply List.filter_congr
  intro y hy
  have : y ≠ c := by rintro rfl; exact h hy
  simp [this]
/-- Add's call, as the loop takes it on. -/
def SplA (w : World) (b : Int) (xb tb mb j wn : Nat) (idv lv : Value) (is : List Int) (wr w3 : World) (d : Nat) : Prop :=
  Spl w b xb tb mb j wn idv lv is wr ∧ d ≤ 78 ∧ IxAt SeqT w3 (fun q => lv.ownBlock ≠ some q) xb tb mb (upto (j + 1)) (wn + d) (j + 1) ∧
  w3.ownsRow w.heap.size 2 1 idv is.length (ids is) ∧ w3.ownsRow w.heap.size 2 1 lv (fil is (upto j)).length (ids (fil is (upto j))) ∧ Ch [] w w3
theorem Spl.add {w wr w3 : World} {b : Int} {xb tb mb j wn : Nat} {idv lv : Value} {is : List Int} {ev : Value} {e : Ending} (h : Spl w b xb tb mb j wn idv lv is wr) (hj : j ≤ 4999) (htb : w.heap.size ≤ tb) (hmb : w.heap.size ≤ mb)
    (hr : IxRes SeqT wr (fun q => lv.ownBlock ≠ some q) xb tb mb wn (j + 1) (upto j).length (upto j ++ [(j : Int) + 1]) ev e w3) : e = .returned ev ∧ ∃ d, SplA w b xb tb mb j wn idv lv is wr w3 d := by
  have hsnoc : upto j ++ [(j : Int) + 1] = upto (j + 1) := by simp [upto, List.range_succ]
  rw [hsnoc, upto_len] at hr
  obtain ⟨d, he, hx, hc, hf⟩ := hr
  refine ⟨he, d, h, hf.le hj, hx.sub (fun k hk _ => ?_), own_ix h.io h.ix hc, own_ix h.lo h.ix hc, h.ch.trans' hc (fun x hx => by simp at hx; right; rcases hx with rfl | rfl <;> assumption)⟩
  rcases hk with hk | hk
  · exact hk
  · intro he2
    have := (own_base h.lo he2).2
    omega
/-- A row that is asked to move. -/
theorem SplA.take {w wr w3 w4 : World} {b : Int} {xb tb mb j wn d : Nat} {idv lv v' : Value} {is : List Int} (h : SplA w b xb tb mb j wn idv lv is wr w3 d) (hb : (j : Int) + 1 ≠ b)
    (ho : w4.ownsRow w3.heap.size 2 1 v' (1 + is.length) ([.int .i64 ((j : Int) + 1)] ++ ids is)) (hg : (w3.alloc (.cells #[.int .i64 ((j : Int) + 1)] 2)).grownBy w4 (some w3.heap.size)) :
    Spl w b xb tb mb (j + 1) (wn + d) v' lv (((j : Int) + 1) :: is) w4 := by
  obtain ⟨hs, hd, hx, hio, hlo, hch⟩ := h
  have hc4 : Ch [] w3 w4 := ((Ch.refl _ w3).alloc _).grown hg (fun k hk => .inr (by cases hk; exact Nat.le_refl _))
  have hni : ((j : Int) + 1) ∉ is := fun hm => by have := upto_mem.1 (hs.im _ hm).1; omega
  have hnu : ((j : Int) + 1) ∉ upto j := fun hm => by have := upto_mem.1 hm; omega
  have hf : fil (((j : Int) + 1) :: is) (upto (j + 1)) = fil is (upto j) := by
    rw [fil_up, fil_cons hnu, if_pos (by simp), List.append_nil]
  refine ⟨hx.ch0 hc4, ?_, ?_, ?_, ?_, ?_, ?_, hch.trans hc4⟩
  · have := own_mono ho hch.size
    rw [Nat.add_comm] at this
    exact this
  · rw [hf]; exact own_kept hc4 hlo (by simp)
  · right
    intro he
    cases hv : v'.ownBlock with
    | none =>
      rcases ho.2 with ⟨_, h0⟩ | ⟨g, cap, cur, rfl, _⟩
      · omega
      · simp [Value.ownBlock] at hv
    | some g =>
      have h1 := (own_base ho hv).1
      rw [hv] at he
      have h2 := (own_base hlo he.symm).2
      omega
  · exact List.nodup_cons.2 ⟨hni, hs.nd⟩
  · intro c hc
    rcases List.mem_cons.1 hc with rfl | hc
    · exact ⟨upto_mem.2 (by omega), hb⟩
    · have := hs.im c hc
      exact ⟨upto_mem.2 (by have := upto_mem.1 this.1; omega), this.2⟩
  · have := hs.il; simp; omega
/-- A row that stays. -/
theorem SplA.stay {w wr w3 w4 : World} {b : Int} {xb tb mb j wn d : Nat} {idv lv v' : Value} {is : List Int} (h : SplA w b xb tb mb j wn idv lv is wr w3 d)
    (ho : w4.ownsRow w.heap.size 2 1 v' ((fil is (upto j)).length + 1) (ids (fil is (upto j)) ++ [.int .i64 ((j : Int) + 1)])) (hg : (w3.alloc (.cells #[.int .i64 ((j : Int) + 1)] 2)).grownBy w4 lv.ownBlock)
    (hloc : v'.ownBlock = lv.ownBlock ∨ v'.ownBlock = some (w3.alloc (.cells #[.int .i64 ((j : Int) + 1)] 2)).heap.size) :
    Spl w b xb tb mb (j + 1) (wn + d) idv v' is w4 := by
  obtain ⟨hs, hd, hx, hio, hlo, hch⟩ := h
  have hc4 : Ch lv.ownBlock.toList w3 w4 := ((Ch.refl _ w3).alloc _).grown hg (fun k hk => .inl (by simp [hk]))
  have hni : ((j : Int) + 1) ∉ is := fun hm => by have := upto_mem.1 (hs.im _ hm).1; omega
  have hf : ids (fil is (upto (j + 1))) = ids (fil is (upto j)) ++ [.int .i64 ((j : Int) + 1)] := by
    rw [fil_up, if_neg hni]; simp [ids]
  have hfl : (fil is (upto (j + 1))).length = (fil is (upto j)).length + 1 := by rw [fil_up, if_neg hni]; simp
  have hlt : ∀ g, lv.ownBlock = some g → w.heap.size ≤ g ∧ g < w3.heap.size := fun g hg => own_base hlo hg
  refine ⟨?_, ?_, ?_, ?_, hs.nd, fun c hc => ⟨upto_mem.2 (by have := upto_mem.1 (hs.im c hc).1; omega), (hs.im c hc).2⟩, by have := hs.il; omega, hch.trans' hc4 (fun x hx => .inr (hlt x (by simpa using hx)).1)⟩
  · have h2 := hx.sub (Q := fun q => lv.ownBlock ≠ some q ∧ v'.ownBlock ≠ some q) (fun k hk hl => ⟨hk, by
      rcases hloc with h2 | h2
      · rw [h2]; exact hk
      · rw [h2]; simp; omega⟩)
    refine (h2.ch hc4 (fun x hxx => ?_)).sub (fun k hk _ => hk.2)
    have hx2 : lv.ownBlock = some x := by simpa using hxx
    rcases hlo.2 with ⟨rfl, _⟩ | ⟨g, cap, cur, rfl, _, hh, _⟩
    · simp [Value.ownBlock] at hx2
    · simp [Value.ownBlock] at hx2
      subst hx2
      exact ⟨_, _, _, hh, by decide, by decide, fun hP => absurd rfl hP.1⟩
  · exact own_kept hc4 hio (fun g hg hm => by
      have hx2 : lv.ownBlock = some g := by simpa using hm
      rcases hs.ne with h | h
      · rw [h] at hg; cases hg
      · exact h (by rw [hg, hx2]))
  · rw [hf, hfl]; exact ho
  · rcases hs.ne with h | h
    · exact .inl h
    · rcases hloc with h2 | h2
      · right; rw [h2]; exact h
      · cases hv : idv.ownBlock with
        | none => exact .inl rfl
        | some g =>
          right
          rw [h2]
          have := (own_base hio hv).2
          simp; omega
/-- The list that is wanted, row by row. -/
def wanted (is : List Int) (b : Int) (l : List Int) : List Int := l.flatMap (fun x => if x = b then is ++ [x] else [x])
theorem wanted_snoc (is : List Int) (b : Int) (l : List Int) (x : Int) : wanted is b (l ++ [x]) = wanted is b l ++ (if x = b then is ++ [x] else [x]) := by
  unfold wanted; simp
theorem wanted_none (is : List Int) (b : Int) : ∀ l : List Int, b ∉ l → wanted is b l = l
  | [], _ => rfl
  | x :: l, h => by
    simp at h
    have := wanted_none is b l h.2
    unfold wanted at this ⊢
    rw [List.flatMap_cons, if_neg (Ne.symm h.1), this]; rfl
theorem wanted_some (is : List Int) (b : Int) : ∀ l : List Int, b ∈ l → l.Nodup → wanted is b l = l.takeWhile (fun y => decide (y ≠ b)) ++ is ++ l.dropWhile (fun y => decide (y ≠ b))
  | [], h, _ => by simp at h
  | x :: l, h, hn => by
    rw [List.nodup_cons] at hn
    by_cases he : x = b
    · subst he
      have := wanted_none is x l hn.1
      unfold wanted at this ⊢
      rw [List.flatMap_cons, this]; simp
    · have := wanted_some is b l (by simpa [Ne.symm he] using h) hn.2
      unfold wanted at this ⊢
      rw [List.flatMap_cons, this]; simp [he]
theorem wanted_res {is xs : List Int} {b : Int} (hn : xs.Nodup) (hb : b ∉ xs ∧ b = 0 ∨ b ∈ xs ∧ b ∉ is ∧ b ≠ 0) : wanted is b (fil is xs) ++ (if b = 0 then is else []) = res xs is b := by
  rcases hb with ⟨h1, h2⟩ | ⟨h1, h2, h3⟩
  · have hf : b ∉ fil is xs := fun h => h1 (List.mem_filter.1 h).1
    rw [if_pos h2, wanted_none _ _ _ hf]
    unfold res
    have ht := List.takeWhile_append_dropWhile (p := fun y => decide (y ≠ b)) (l := fil is xs)
    rw [dropWhile_none _ hf, List.append_nil] at ht
    rw [dropWhile_none _ hf, ht]
    simp
  · have hf : b ∈ fil is xs := List.mem_filter.2 ⟨h1, by simpa using h2⟩
    rw [if_neg h3, List.append_nil, wanted_some _ _ _ hf (hn.filter _)]
    rfl
theorem wanted_len {is : List Int} (b : Int) (h : is.length ≤ 14) : ∀ l : List Int, (wanted is b l).length ≤ 15 * l.length
  | [] => by simp [wanted]
  | x :: l => by
    have := wanted_len b h l
    unfold wanted at this ⊢
    rw [List.flatMap_cons, List.length_append, List.length_cons]
    have h2 : (if x = b then is ++ [x] else [x]).length ≤ 15 := by split <;> simp; omega
    omega
theorem Spl.ask {w wr : World} {b xb tb mb k wn : Nat} {idv lv : Value} {is : List Int} (h : Spl w b xb tb mb k wn idv lv is wr) (hk : k ≤ 14) (hb : b ≤ k) : SpliceOf (upto k) is b := by
  refine ⟨h.nd, fun c hc => ?_, ?_, by rw [upto_len]; omega, by have := h.il; omega⟩
  · have := h.im c hc
    have h2 := upto_mem.1 this.1
    exact ⟨this.1, by omega, this.2⟩
  · by_cases h0 : b = 0
    · left; subst h0; exact ⟨fun hm => by have := upto_mem.1 hm; omega, rfl⟩
    · right; exact ⟨upto_mem.2 (by omega), fun hm => (h.im _ hm).2 rfl, by omega⟩
theorem Spl.res {w wr : World} {b xb tb mb k wn : Nat} {idv lv : Value} {is : List Int} (h : Spl w b xb tb mb k wn idv lv is wr) (hk : k ≤ 14) (hb : b ≤ k) :
    wanted is b (fil is (upto k)) ++ (if (b : Int) = 0 then is else []) = res (upto k) is b ∧ (res (upto k) is b).length ≤ 5000 := by
  have h1 := wanted_res (is := is) h.ix.nodup (h.ask hk hb).before
  refine ⟨h1, ?_⟩
  rw [← h1, List.length_append]
  have h2 := wanted_len (is := is) b (by have := h.il; omega) (fil is (upto k))
  have h3 : (fil is (upto k)).length ≤ k := by
    have := List.length_filter_le (fun y => decide (y ∉ is)) (upto k)
    rw [upto_len] at this
    exact this
  have h4 := h.il
  split <;> simp <;> omega
end Go.Proofs.Ytjecadkmlakncaa
