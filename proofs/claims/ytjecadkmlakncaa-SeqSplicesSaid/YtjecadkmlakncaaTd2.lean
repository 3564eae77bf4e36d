/-
  cut at []int64 and []*node. (printed by wip/gen_tree2.py)
-/
import Derived.Test.YtjecadkmlakncaaTd1
import Derived.Deep.RegionHeld3
namespace Go.Proofs.Ytjecadkmlakncaa
open Go.RowKit

/-- What cut tells: one part, or two. -/
def CutOut (T L : TypeId) (w : World) (b0 : Nat) (xs : List Value) (e : Ending) (w' : World) : Prop :=
  ∃ (gb n : Nat) (svs : List Value) (pss : List (List Value)), e = .returned (.slice (some ⟨gb, 0, none⟩) n n) ∧ svs.length = n ∧ w'.heap[gb]? = some (.cells svs.toArray L (0, 0)) ∧ pss.length = n ∧
    (∀ (j : Nat) (sv : Value) (ps : List Value), svs[j]? = some sv → pss[j]? = some ps → ∃ b o, (b = b0 ∨ w.heap.size ≤ b) ∧ Row1 T w' b o sv ps) ∧ pss.flatten = xs ∧ Ch [] w w' ∧ (∀ ps ∈ pss, ps.length ≤ 8) ∧ (pss = [xs] ∨ (n = 2 ∧ 8 < xs.length ∧ ∀ ps ∈ pss, 4 ≤ ps.length))

/-- slices.Clone of a row that holds something: what its answer looks like. -/
theorem clonePI (l : List Value) (n b off : Nat) (sv : Value) (w : World) (h : Row1 2 w b off sv l) (h1 : ∀ u ∈ l, u.oneCell' = true) (hl : l.length ≤ 10000) (hn : l.length = n) (h0 : 0 < n) :
    Calls Try.prog 60 #[sv] w fun e w' => ∃ g c, e = .returned (.slice (some ⟨g, 0, none⟩) n c) ∧ w'.ownsRow w.heap.size 2 1 (.slice (some ⟨g, 0, none⟩) n c) n l ∧ Ch [] w w' := by
  refine (cloneI l b off sv w h h1 hl).mono ?_
  rintro e w' ⟨sv', rfl, ho, hc⟩
  rw [hn] at ho
  obtain ⟨g, c, rfl, _, _⟩ := ho.form h0
  exact ⟨g, c, rfl, ho, hc⟩
set_option maxRecDepth 100000 in
set_option maxHeartbeats 1000000 in
theorem cutI (w : World) (b off : Nat) (sv : Value) (xs : List Value) (hr : Row1 2 w b off sv xs) (h1 : ∀ u ∈ xs, u.oneCell' = true) (hn : xs.length ≤ 16) :
    Calls Try.prog 67 #[sv] w (CutOut 2 38 w b xs) := by
  obtain ⟨aa, ca, rfl, hca, haa⟩ := hr.shape
  by_cases h8 : xs.length ≤ 8
  · have H := Lib.hid (And.intro hr h8)
    clear hr h1 hn haa hca
    have h8' : (xs.length : Int) ≤ 8 := by omega
    go_enter Try.func67, Try.ntmps67
    go_wp2
    go_ret
    obtain ⟨hr, h8⟩ := H.out
    refine ⟨w.heap.size, 1, [.slice aa xs.length ca], [xs], rfl, rfl, heap_alloc_same _ _, rfl, ?_, by simp, (Ch.refl _ _).alloc _, by simpa using h8, .inl rfl⟩
    intro j sv ps h2 h3
    match j, h2, h3 with
    | 0, h2, h3 =>
      simp at h2 h3
      subst h2 h3
      exact ⟨b, off, .inl rfl, hr.ch ((Ch.refl [] _).alloc _) (by simp)⟩
    | j + 1, h2, _ => simp at h2
  · have hne : xs ≠ [] := by rintro rfl; simp at h8
    obtain rfl := haa hne
    obtain ⟨m, hm⟩ : ∃ m, m = xs.length / 2 := ⟨_, rfl⟩
    have hm4 : 4 ≤ m := by omega
    have hm2 : m + m ≤ xs.length := by omega
    have hm3 : xs.length ≤ m + m + 1 := by omega
    have q1 : (xs.length : Int) / 2 = (m : Int) := by omega
    have q2 : (xs.length : Int).tdiv 2 = (m : Int) := by rw [Int.tdiv_eq_ediv_of_nonneg (by omega)]; exact q1
    have hcm : ¬ (ca = m) := by omega
    have hw : wrap64 (m : Int) = (m : Int) := by unfold wrap64; omega
    have i1 : (0 : Int) ≤ (m : Int) := by omega
    have i2 : (m : Int) ≤ (ca : Int) := by omega
    have i3 : (m : Int) ≤ (xs.length : Int) := by omega
    have hmn : m ≤ xs.length := by omega
    have hmc : m ≤ ca := by omega
    have hr1 : Row1 2 w b off (.slice (some ⟨b, off, none⟩) m ca) (xs.take m) := by
      have := hr.sub 0 m ca (by omega) hmn (by omega) (some ⟨b, off, none⟩) (fun _ => by simp)
      simpa using this
    have hr2 : Row1 2 w b (off + m) (.slice (some ⟨b, off + m, none⟩) (xs.length - m) (ca - m)) (xs.drop m) := by
      have := hr.sub m xs.length (ca - m) hmn (Nat.le_refl _) (by omega) (some ⟨b, off + m, none⟩) (fun _ => rfl)
      rwa [List.take_of_length_le (by rw [List.length_drop]; exact Nat.le_refl _)] at this
    have l1 : (xs.take m).length = m := by rw [List.length_take]; omega
    have l2 : (xs.drop m).length = xs.length - m := List.length_drop
    have HA := Lib.hid (fun W => clonePI (xs.take m) m b off (.slice (some ⟨b, off, none⟩) m ca) W)
    have HB := Lib.hid (fun W => clonePI (xs.drop m) (xs.length - m) b (off + m) (.slice (some ⟨b, off + m, none⟩) (xs.length - m) (ca - m)) W)
    have H := Lib.hid (And.intro hr1 (And.intro hr2 (And.intro l1 (And.intro l2 (And.intro hn h1)))))
    have HM := Lib.hid (And.intro hm4 (And.intro hm2 hm3))
    have h8' : ¬ ((xs.length : Int) ≤ 8) := by omega
    have o1 : ∀ u ∈ xs.take m, u.oneCell' = true := fun u hu => h1 u (List.mem_of_mem_take hu)
    have o2 : ∀ u ∈ xs.drop m, u.oneCell' = true := fun u hu => h1 u (List.mem_of_mem_drop hu)
    have HO := Lib.hid (And.intro o1 o2)
    clear hr hr1 hr2 l1 l2 hn h1 haa hne hm hm3 hm2 hm4 h8 o1 o2
    go_enter Try.func67, Try.ntmps67
    go_wp2_with fail
    clear q1 q2 hw
    go_region_held3 (fun _ => True) (first | trivial)
      (first
        | (go_at_call 60; refine (HA.out _ (H.out.1.ch (Ch.refl [] w).drew (by simp)) HO.out.1 (by rw [H.out.2.2.1]; have := H.out.2.2.2.2.1; omega) H.out.2.2.1 (by have := HM.out; omega)).mono ?_; rintro e w1 ⟨g1, p1, rfl, hown1, hch1⟩)
        | (go_at_call 60; refine (HB.out _ ((H.out.2.1.ch (Ch.refl [] w).drew (by simp)).ch hch1 (by simp)) HO.out.2 (by rw [H.out.2.2.2.1]; have := H.out.2.2.2.2.1; omega) H.out.2.2.2.1 (by have := HM.out; omega)).mono ?_; rintro e w2 ⟨g2, p2, rfl, hown2, hch2⟩))
    have HE := Lib.hid (And.intro hown1 (And.intro hch1 (And.intro hown2 hch2)))
    clear hown1 hch1 hown2 hch2
    go_wp2
    go_ret
    obtain ⟨hown1, hch1, hown2, hch2⟩ := HE.out
    obtain ⟨_, _, l1, l2, _, _⟩ := H.out
    obtain ⟨m4, m2, m3⟩ := HM.out
    have hch : Ch [] w w2 := ((Ch.refl [] w).drew.trans hch1).trans hch2
    obtain ⟨b1, k1, r1⟩ := Row1.of_own hown1 l1.symm
    obtain ⟨b2, k2, r2⟩ := Row1.of_own hown2 l2.symm
    have k2' := Nat.le_trans hch1.size k2
    refine ⟨w2.heap.size, 2, [.slice (some ⟨g1, 0, none⟩) m p1, .slice (some ⟨g2, 0, none⟩) (xs.length - m) p2], [xs.take m, xs.drop m], rfl, rfl, heap_alloc_same _ _, rfl, ?_, by simp, hch.alloc _, ?_, .inr ⟨rfl, by omega, ?_⟩⟩
    · intro j sv ps h2 h3
      match j, h2, h3 with
      | 0, h2, h3 =>
        simp at h2 h3
        subst h2 h3
        exact ⟨b1, 0, .inr k1, r1.ch (hch2.alloc _) (by simp)⟩
      | 1, h2, h3 =>
        simp at h2 h3
        subst h2 h3
        exact ⟨b2, 0, .inr k2', r2.ch ((Ch.refl [] _).alloc _) (by simp)⟩
      | j + 2, h2, _ => simp at h2
    · intro ps hp
      simp at hp
      rcases hp with rfl | rfl <;> omega
    · intro ps hp
      simp at hp
      rcases hp with rfl | rfl <;> omega

/-- slices.Clone of a row that holds something: what its answer looks like. -/
theorem clonePN (l : List Value) (n b off : Nat) (sv : Value) (w : World) (h : Row1 74 w b off sv l) (h1 : ∀ u ∈ l, u.oneCell' = true) (hl : l.length ≤ 10000) (hn : l.length = n) (h0 : 0 < n) :
    Calls Try.prog 63 #[sv] w fun e w' => ∃ g c, e = .returned (.slice (some ⟨g, 0, none⟩) n c) ∧ w'.ownsRow w.heap.size 74 1 (.slice (some ⟨g, 0, none⟩) n c) n l ∧ Ch [] w w' := by
  refine (cloneN l b off sv w h h1 hl).mono ?_
  rintro e w' ⟨sv', rfl, ho, hc⟩
  rw [hn] at ho
  obtain ⟨g, c, rfl, _, _⟩ := ho.form h0
  exact ⟨g, c, rfl, ho, hc⟩
set_option maxRecDepth 100000 in
set_option maxHeartbeats 1000000 in
theorem cutN (w : World) (b off : Nat) (sv : Value) (xs : List Value) (hr : Row1 74 w b off sv xs) (h1 : ∀ u ∈ xs, u.oneCell' = true) (hn : xs.length ≤ 16) :
    Calls Try.prog 70 #[sv] w (CutOut 74 78 w b xs) := by
  obtain ⟨aa, ca, rfl, hca, haa⟩ := hr.shape
  by_cases h8 : xs.length ≤ 8
  · have H := Lib.hid (And.intro hr h8)
    clear hr h1 hn haa hca
    have h8' : (xs.length : Int) ≤ 8 := by omega
    go_enter Try.func70, Try.ntmps70
    go_wp2
    go_ret
    obtain ⟨hr, h8⟩ := H.out
    refine ⟨w.heap.size, 1, [.slice aa xs.length ca], [xs], rfl, rfl, heap_alloc_same _ _, rfl, ?_, by simp, (Ch.refl _ _).alloc _, by simpa using h8, .inl rfl⟩
    intro j sv ps h2 h3
    match j, h2, h3 with
    | 0, h2, h3 =>
      simp at h2 h3
      subst h2 h3
      exact ⟨b, off, .inl rfl, hr.ch ((Ch.refl [] _).alloc _) (by simp)⟩
    | j + 1, h2, _ => simp at h2
  · have hne : xs ≠ [] := by rintro rfl; simp at h8
    obtain rfl := haa hne
    obtain ⟨m, hm⟩ : ∃ m, m = xs.length / 2 := ⟨_, rfl⟩
    have hm4 : 4 ≤ m := by omega
    have hm2 : m + m ≤ xs.length := by omega
    have hm3 : xs.length ≤ m + m + 1 := by omega
    have q1 : (xs.length : Int) / 2 = (m : Int) := by omega
    have q2 : (xs.length : Int).tdiv 2 = (m : Int) := by rw [Int.tdiv_eq_ediv_of_nonneg (by omega)]; exact q1
    have hcm : ¬ (ca = m) := by omega
    have hw : wrap64 (m : Int) = (m : Int) := by unfold wrap64; omega
    have i1 : (0 : Int) ≤ (m : Int) := by omega
    have i2 : (m : Int) ≤ (ca : Int) := by omega
    have i3 : (m : Int) ≤ (xs.length : Int) := by omega
    have hmn : m ≤ xs.length := by omega
    have hmc : m ≤ ca := by omega
    have hr1 : Row1 74 w b off (.slice (some ⟨b, off, none⟩) m ca) (xs.take m) := by
      have := hr.sub 0 m ca (by omega) hmn (by omega) (some ⟨b, off, none⟩) (fun _ => by simp)
      simpa using this
    have hr2 : Row1 74 w b (off + m) (.slice (some ⟨b, off + m, none⟩) (xs.length - m) (ca - m)) (xs.drop m) := by
      have := hr.sub m xs.length (ca - m) hmn (Nat.le_refl _) (by omega) (some ⟨b, off + m, none⟩) (fun _ => rfl)
      rwa [List.take_of_length_le (by rw [List.length_drop]; exact Nat.le_refl _)] at this
    have l1 : (xs.take m).length = m := by rw [List.length_take]; omega
    have l2 : (xs.drop m).length = xs.length - m := List.length_drop
    have HA := Lib.hid (fun W => clonePN (xs.take m) m b off (.slice (some ⟨b, off, none⟩) m ca) W)
    have HB := Lib.hid (fun W => clonePN (xs.drop m) (xs.length - m) b (off + m) (.slice (some ⟨b, off + m, none⟩) (xs.length - m) (ca - m)) W)
    have H := Lib.hid (And.intro hr1 (And.intro hr2 (And.intro l1 (And.intro l2 (And.intro hn h1)))))
    have HM := Lib.hid (And.intro hm4 (And.intro hm2 hm3))
    have h8' : ¬ ((xs.length : Int) ≤ 8) := by omega
    have o1 : ∀ u ∈ xs.take m, u.oneCell' = true := fun u hu => h1 u (List.mem_of_mem_take hu)
    have o2 : ∀ u ∈ xs.drop m, u.oneCell' = true := fun u hu => h1 u (List.mem_of_mem_drop hu)
    have HO := Lib.hid (And.intro o1 o2)
    clear hr hr1 hr2 l1 l2 hn h1 haa hne hm hm3 hm2 hm4 h8 o1 o2
    go_enter Try.func70, Try.ntmps70
    go_wp2_with fail
    clear q1 q2 hw
    go_region_held3 (fun _ => True) (first | trivial)
      (first
        | (go_at_call 63; refine (HA.out _ (H.out.1.ch (Ch.refl [] w).drew (by simp)) HO.out.1 (by rw [H.out.2.2.1]; have := H.out.2.2.2.2.1; omega) H.out.2.2.1 (by have := HM.out; omega)).mono ?_; rintro e w1 ⟨g1, p1, rfl, hown1, hch1⟩)
        | (go_at_call 63; refine (HB.out _ ((H.out.2.1.ch (Ch.refl [] w).drew (by simp)).ch hch1 (by simp)) HO.out.2 (by rw [H.out.2.2.2.1]; have := H.out.2.2.2.2.1; omega) H.out.2.2.2.1 (by have := HM.out; omega)).mono ?_; rintro e w2 ⟨g2, p2, rfl, hown2, hch2⟩))
    have HE := Lib.hid (And.intro hown1 (And.intro hch1 (And.intro hown2 hch2)))
    clear hown1 hch1 hown2 hch2
    go_wp2
    go_ret
    obtain ⟨hown1, hch1, hown2, hch2⟩ := HE.out
    obtain ⟨_, _, l1, l2, _, _⟩ := H.out
    obtain ⟨m4, m2, m3⟩ := HM.out
    have hch : Ch [] w w2 := ((Ch.refl [] w).drew.trans hch1).trans hch2
    obtain ⟨b1, k1, r1⟩ := Row1.of_own hown1 l1.symm
    obtain ⟨b2, k2, r2⟩ := Row1.of_own hown2 l2.symm
    have k2' := Nat.le_trans hch1.size k2
    refine ⟨w2.heap.size, 2, [.slice (some ⟨g1, 0, none⟩) m p1, .slice (some ⟨g2, 0, none⟩) (xs.length - m) p2], [xs.take m, xs.drop m], rfl, rfl, heap_alloc_same _ _, rfl, ?_, by simp, hch.alloc _, ?_, .inr ⟨rfl, by omega, ?_⟩⟩
    · intro j sv ps h2 h3
      match j, h2, h3 with
      | 0, h2, h3 =>
        simp at h2 h3
        subst h2 h3
        exact ⟨b1, 0, .inr k1, r1.ch (hch2.alloc _) (by simp)⟩
      | 1, h2, h3 =>
        simp at h2 h3
        subst h2 h3
        exact ⟨b2, 0, .inr k2', r2.ch ((Ch.refl [] _).alloc _) (by simp)⟩
      | j + 2, h2, _ => simp at h2
    · intro ps hp
      simp at hp
      rcases hp with rfl | rfl <;> omega
    · intro ps hp
      simp at hp
      rcases hp with rfl | rfl <;> omega
end Go.Proofs.Ytjecadkmlakncaa
