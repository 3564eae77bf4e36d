/-
  Rows that are moved ahead of one, each in its turn: the plain law.
-/
import Derived.Test.YtjecadkmlakncaaSm1
namespace Go.Proofs.Ytjecadkmlakncaa

theorem takeWhile_filter {α : Type} (p q : α → Bool) (h : ∀ x, p x = false → q x = true) : ∀ l : List α, (l.filter p).takeWhile q = (l.takeWhile q).filter p
  | [] => rfl
  | x :: l => by
    cases hp : p x <;> cases hq : q x
    · have := h x hp; rw [hq] at this; cases this
    · simp [hp, hq, takeWhile_filter p q h l]
    · simp [hp, hq]
    · simp [hp, hq, takeWhile_filter p q h l]
theorem dropWhile_filter {α : Type} (p q : α → Bool) (h : ∀ x, p x = false → q x = true) : ∀ l : List α, (l.filter p).dropWhile q = (l.dropWhile q).filter p
  | [] => rfl
  | x :: l => by
    cases hp : p x <;> cases hq : q x
    · have := h x hp; rw [hq] at this; cases this
    · simp [hp, hq, dropWhile_filter p q h l]
    · simp [hp, hq]
    · simp [hp, hq, dropWhile_filter p q h l]
theorem era_filter {xs : List Int} {i : Nat} {z : Int} (hz : xs[i]? = some z) (hn : xs.Nodup) : xs.take i ++ xs.drop (i + 1) = xs.filter (fun y => decide (y ≠ z)) := by
  have hi : i < xs.length := (List.getElem?_eq_some_iff.1 hz).1
  have e : xs = xs.take i ++ z :: xs.drop (i + 1) := by
    have h1 := List.take_append_drop i xs
    rw [List.drop_eq_getElem_cons hi, (List.getElem?_eq_some_iff.1 hz).2] at h1
    exact h1.symm
  have hn' := hn
  rw [e, List.nodup_append] at hn'
  obtain ⟨_, h2, h3⟩ := hn'
  rw [List.nodup_cons] at h2
  conv => rhs; rw [e]
  rw [List.filter_append, List.filter_cons_of_neg (by simp), List.filter_eq_self.2, List.filter_eq_self.2]
  · intro y hy; simp; rintro rfl; exact h2.1 hy
  · intro y hy; simp; exact fun he => h3 y hy z (by simp) he
/-- The rows but those of T. -/
def fil (T xs : List Int) : List Int := xs.filter (fun y => decide (y ∉ T))
/-- The rows of T right ahead of b (of no row: last). -/
def res (xs T : List Int) (b : Int) : List Int := (fil T xs).takeWhile (fun y => decide (y ≠ b)) ++ T ++ (fil T xs).dropWhile (fun y => decide (y ≠ b))
theorem res_nil (xs : List Int) (b : Int) : res xs [] b = xs := by
  unfold res fil
  rw [List.filter_eq_self.2 (by simp)]
  simp [List.takeWhile_append_dropWhile]
theorem fil_snoc (T xs : List Int) (z : Int) : fil (T ++ [z]) xs = (fil T xs).filter (fun y => decide (y ≠ z)) := by
  unfold fil
  rw [List.filter_filter]
  congr 1
  funext y
  simp
  exact Bool.and_comm ..
theorem dropWhile_head {b : Int} : ∀ l : List Int, b ∈ l → ∃ r, l.dropWhile (fun y => decide (y ≠ b)) = b :: r
  | [], h => by simp at h
  | x :: l, h => by
    by_cases he : x = b
    · subst he; exact ⟨l, by simp⟩
    · obtain ⟨r, hr⟩ := dropWhile_head l (by simpa [Ne.symm he] using h)
      exact ⟨r, by simp [he]; simpa using hr⟩
theorem dropWhile_none {b : Int} (l : List Int) (h : b ∉ l) : l.dropWhile (fun y => decide (y ≠ b)) = [] := by
  induction l with
  | nil => rfl
  | cons x l ih =>
    simp at h
    have := ih h.2
    simp [Ne.symm h.1]
    simpa using this
theorem res_step {xs T ys : List Int} {z b : Int} {i a : Nat} (hn : (res xs T b).Nodup) (hz : (res xs T b)[i]? = some z) (hzT : z ∉ T) (hzb : z ≠ b) (hb : b ∉ xs ∧ b = 0 ∨ b ∈ xs ∧ b ∉ T ∧ b ≠ 0) (hm : MovedTo (res xs T b) ys i a z b) : ys = res xs (T ++ [z]) b := by
  have hi : i < (res xs T b).length := (List.getElem?_eq_some_iff.1 hz).1
  have ha : a < ys.length := (List.getElem?_eq_some_iff.1 hm.at_).1
  have hE : ys.take a ++ ys.drop (a + 1) = (res xs T b).take i ++ (res xs T b).drop (i + 1) := by
    apply List.ext_getElem?
    intro t
    rw [era_get ha, era_get hi]
    by_cases h : t + 1 < (res xs T b).length
    · exact (hm.same t h).symm
    · rw [List.getElem?_eq_none, List.getElem?_eq_none]
      · unfold past; split <;> omega
      · rw [hm.len]; unfold past; split
        · have := hm.len; omega
        · omega
  have hys := moved_self hm.at_
  unfold moved at hys
  rw [hE, era_filter hz hn] at hys
  have hpq : ∀ x : Int, (fun y => decide (y ≠ z)) x = false → (fun y => decide (y ≠ b)) x = true := by
    intro x hx
    simp at hx ⊢
    rw [hx]; exact hzb
  have hfil : (res xs T b).filter (fun y => decide (y ≠ z)) = (fil (T ++ [z]) xs).takeWhile (fun y => decide (y ≠ b)) ++ T ++ (fil (T ++ [z]) xs).dropWhile (fun y => decide (y ≠ b)) := by
    rw [fil_snoc, takeWhile_filter _ _ hpq, dropWhile_filter _ _ hpq]
    unfold res
    have hTf : T.filter (fun y => decide (y ≠ z)) = T := List.filter_eq_self.2 (fun y hy => by simp; rintro rfl; exact hzT hy)
    rw [List.filter_append, List.filter_append, hTf]
  have hEn : ((res xs T b).filter (fun y => decide (y ≠ z))).Nodup := hn.filter _
  have hla : (ys.take a ++ ys.drop (a + 1)).length = ys.length - 1 := by simp [List.length_take]; omega
  rw [hE, era_filter hz hn] at hla
  rw [hfil] at hys hEn hla
  generalize hA : (fil (T ++ [z]) xs).takeWhile (fun y => decide (y ≠ b)) = A at *
  generalize hB : (fil (T ++ [z]) xs).dropWhile (fun y => decide (y ≠ b)) = B at *
  have hpos : a = (A ++ T).length := by
    rcases hb with ⟨h1, h2⟩ | ⟨h1, h2, h3⟩
    · have hBn : B = [] := by
        rw [← hB]
        exact dropWhile_none _ (fun h => h1 (List.mem_filter.1 h).1)
      have := hm.last h2
      rw [hBn, List.append_nil] at hla
      have := hm.len
      omega
    · obtain ⟨r, hr⟩ := dropWhile_head (fil (T ++ [z]) xs) (b := b) (by
        unfold fil
        rw [List.mem_filter]
        exact ⟨h1, by simp; exact ⟨h2, fun he => hzb he.symm⟩⟩)
      rw [hB] at hr
      have h4 := (hm.next h3 (fun he => hzb he.symm)).2
      have h5 := era_get ha a
      unfold past at h5
      rw [if_neg (by omega), h4, hE, era_filter hz hn, hfil] at h5
      have h6 : (A ++ T ++ B)[(A ++ T).length]? = some b := by rw [List.getElem?_append_right (by omega), hr]; simp
      exact get_of_nodup hEn h5 h6
  rw [← hys, hpos, List.take_left' rfl, List.drop_left' rfl]
  unfold res
  rw [hA, hB]
  simp
end Go.Proofs.Ytjecadkmlakncaa
