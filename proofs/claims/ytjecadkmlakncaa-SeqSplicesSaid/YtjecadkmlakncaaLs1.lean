/-
  Lists of lists: a place below a node, an element more, one less, another one.
-/
import Derived.Test.YtjecadkmlakncaaRw
namespace Go.Proofs.Ytjecadkmlakncaa

theorem split_at {α : Type} (yss : List (List α)) (k : Nat) (ys : List α) (hk : yss[k]? = some ys) : yss.flatten = (yss.take k).flatten ++ ys ++ (yss.drop (k + 1)).flatten := by
  have hlt : k < yss.length := (List.getElem?_eq_some_iff.1 hk).1
  have e : yss = yss.take k ++ (ys :: yss.drop (k + 1)) := by
    have h1 := List.take_append_drop k yss
    have h2 : yss.drop k = ys :: yss.drop (k + 1) := by
      rw [List.drop_eq_getElem_cons hlt]
      have := (List.getElem?_eq_some_iff.1 hk).2
      rw [this]
    rw [h2] at h1
    exact h1.symm
  conv => lhs; rw [e]
  simp [List.append_assoc]
/-- Where place i lies: the k-th list, place d there. -/
structure Lies {α : Type} (yss : List (List α)) (i k d : Nat) : Prop where
  sum : (yss.take k).flatten.length + d = i
  lt : k < yss.length
theorem take_split {α : Type} (A Y B : List α) (d : Nat) (hd : d ≤ Y.length) : (A ++ Y ++ B).take (A.length + d) = A ++ Y.take d := by
  rw [List.append_assoc, List.take_length_add_append, List.take_append_of_le_length hd]
theorem drop_split {α : Type} (A Y B : List α) (d : Nat) (hd : d ≤ Y.length) : (A ++ Y ++ B).drop (A.length + d) = Y.drop d ++ B := by
  rw [List.append_assoc, List.drop_length_add_append, List.drop_append_of_le_length hd]
theorem ins_flatten {α : Type} (yss : List (List α)) (i k d : Nat) (ys : List α) (v : α) (hl : Lies yss i k d) (hk : yss[k]? = some ys) (hd : d ≤ ys.length) :
    yss.flatten.take i ++ [v] ++ yss.flatten.drop i = (yss.take k).flatten ++ (ys.take d ++ [v] ++ ys.drop d) ++ (yss.drop (k + 1)).flatten := by
  rw [split_at yss k ys hk, ← hl.sum, take_split _ _ _ _ hd, drop_split _ _ _ _ hd]
  simp [List.append_assoc]
theorem era_flatten {α : Type} (yss : List (List α)) (i k d : Nat) (ys : List α) (hl : Lies yss i k d) (hk : yss[k]? = some ys) (hd : d < ys.length) :
    yss.flatten.take i ++ yss.flatten.drop (i + 1) = (yss.take k).flatten ++ (ys.take d ++ ys.drop (d + 1)) ++ (yss.drop (k + 1)).flatten := by
  rw [split_at yss k ys hk, ← hl.sum, take_split _ _ _ _ (by omega), Nat.add_assoc, drop_split _ _ _ _ (by omega)]
  simp [List.append_assoc]
theorem set_flatten {α : Type} (yss : List (List α)) (i k d : Nat) (ys : List α) (v : α) (hl : Lies yss i k d) (hk : yss[k]? = some ys) (hd : d < ys.length) :
    yss.flatten.set i v = (yss.take k).flatten ++ ys.set d v ++ (yss.drop (k + 1)).flatten := by
  rw [split_at yss k ys hk, ← hl.sum, List.append_assoc, List.set_append_right _ _ (by omega), Nat.add_sub_cancel_left, List.set_append_left _ _ hd, List.append_assoc]
theorem get_flatten {α : Type} (yss : List (List α)) (i k d : Nat) (ys : List α) (hl : Lies yss i k d) (hk : yss[k]? = some ys) (hd : d < ys.length) : yss.flatten[i]? = ys[d]? := by
  rw [split_at yss k ys hk, ← hl.sum, List.append_assoc, List.getElem?_append_right (by omega), Nat.add_sub_cancel_left, List.getElem?_append_left hd]
theorem lies_len {α : Type} {yss : List (List α)} {k : Nat} {ys : List α} (hk : yss[k]? = some ys) : (yss.take k).flatten.length + ys.length ≤ yss.flatten.length := by
  rw [split_at yss k ys hk]; simp
theorem take_succ_len {α : Type} {yss : List (List α)} {k : Nat} {ys : List α} (hk : yss[k]? = some ys) : (yss.take (k + 1)).flatten.length = (yss.take k).flatten.length + ys.length := by
  have hlt : k < yss.length := (List.getElem?_eq_some_iff.1 hk).1
  rw [List.take_add_one, hk]; simp
/-- With one list in another one's place. -/
theorem set_flat {α : Type} (yss zss : List (List α)) (k : Nat) : (yss.take k ++ zss ++ yss.drop (k + 1)).flatten = (yss.take k).flatten ++ zss.flatten ++ (yss.drop (k + 1)).flatten := by simp
end Go.Proofs.Ytjecadkmlakncaa
