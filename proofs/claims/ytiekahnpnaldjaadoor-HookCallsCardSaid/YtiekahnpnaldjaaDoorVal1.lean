/-
  Values: their order, in plain Lean.
-/
import Derived.Test.YtiekahnpnaldjaaDoorKit
import Derived.Lib.Bytealg
namespace Go.Proofs.YtiekahnpnaldjaaDoor
open Go.RowKit

/-- A value: its kind, its number, its text, its float's bits. -/
structure V where
  k : Int
  i : Int
  s : ByteArray
  f : Nat

/-- Its numbers are of their kinds. -/
structure V.Ok (v : V) : Prop where
  k0 : -9223372036854775808 ≤ v.k
  k1 : v.k ≤ 9223372036854775807
  i0 : -9223372036854775808 ≤ v.i
  i1 : v.i ≤ 9223372036854775807
  f : v.f < 18446744073709551616
  s : v.s.size ≤ 9223372036854775807

def V.cells (v : V) : List Value := [.int .i64 v.k, .int .i64 v.i, .string v.s, .float .f64 v.f]
def V.val (v : V) : Value := .agg #[.int .i64 v.k, .int .i64 v.i, .string v.s, .float .f64 v.f]
abbrev V.arr (v : V) : Array Value := #[.int .i64 v.k, .int .i64 v.i, .string v.s, .float .f64 v.f]
def V.zero : V := ⟨0, 0, ⟨#[]⟩, 0⟩
def flat (l : List V) : List Value := l.flatMap V.cells

def cmpI (a b : Int) : Int := if a < b then -1 else if b < a then 1 else 0
def cmpS (a b : ByteArray) : Int := Lib.compareBytes a.data.toList b.data.toList
/-- The place of a float's bits in the order. -/
def ordF (f : Nat) : Nat := if f < 9223372036854775808 then f + 9223372036854775808 else 18446744073709551615 - f
def cmpF (a b : Nat) : Int := cmpI (ordF a) (ordF b)
def cmpV (a b : V) : Int := if cmpI a.k b.k ≠ 0 then cmpI a.k b.k else if cmpI a.i b.i ≠ 0 then cmpI a.i b.i else if cmpS a.s b.s ≠ 0 then cmpS a.s b.s else cmpF a.f b.f
def cmpRows : List V → List V → Int
  | [], [] => 0
  | [], _ :: _ => -1
  | _ :: _, [] => 1
  | a :: x, b :: y => if cmpV a b ≠ 0 then cmpV a b else cmpRows x y

/-! ### A comparison that is an order -/
structure Ordr {α : Type} (c : α → α → Int) (ok : α → Prop) : Prop where
  three : ∀ a b, c a b = -1 ∨ c a b = 0 ∨ c a b = 1
  anti : ∀ a b, c a b = - c b a
  eq : ∀ a b, ok a → ok b → c a b = 0 → a = b
  refl : ∀ a, c a a = 0
  trans : ∀ a b d, ok a → ok b → ok d → c a b ≤ 0 → c b d ≤ 0 → c a d ≤ 0

theorem ordr_I : Ordr cmpI (fun _ => True) := by
  refine ⟨fun a b => ?_, fun a b => ?_, fun a b _ _ h => ?_, fun a => ?_, fun a b d _ _ _ h1 h2 => ?_⟩ <;> unfold cmpI at *
  · split
    · exact .inl rfl
    · split
      · exact .inr (.inr rfl)
      · exact .inr (.inl rfl)
  · repeat' split
    all_goals omega
  · repeat' split at h
    all_goals omega
  · simp
  · repeat' split at h1
    all_goals (repeat' split at h2)
    all_goals (repeat' split)
    all_goals omega

theorem bytes_three : ∀ x y, Lib.compareBytes x y = -1 ∨ Lib.compareBytes x y = 0 ∨ Lib.compareBytes x y = 1
  | [], [] => by simp [Lib.compareBytes]
  | [], _ :: _ => by simp [Lib.compareBytes]
  | _ :: _, [] => by simp [Lib.compareBytes]
  | a :: x, b :: y => by
    unfold Lib.compareBytes
    split
    · exact .inl rfl
    · split
      · exact .inr (.inr rfl)
      · exact bytes_three x y
theorem bytes_refl : ∀ x, Lib.compareBytes x x = 0
  | [] => by simp [Lib.compareBytes]
  | a :: x => by simp [Lib.compareBytes, bytes_refl x, UInt8.lt_irrefl]
theorem bytes_anti : ∀ x y, Lib.compareBytes x y = - Lib.compareBytes y x
  | [], [] => by simp [Lib.compareBytes]
  | [], _ :: _ => by simp [Lib.compareBytes]
  | _ :: _, [] => by simp [Lib.compareBytes]
  | a :: x, b :: y => by
    have ih := bytes_anti x y
    unfold Lib.compareBytes
    by_cases h1 : a < b
    · have h2 : ¬ b < a := fun h => UInt8.lt_irrefl _ (UInt8.lt_trans h h1)
      simp [h1, h2]
    · by_cases h2 : b < a
      · simp [h1, h2]
      · simp [h1, h2, ih]
theorem bytes_eq : ∀ x y, Lib.compareBytes x y = 0 → x = y
  | [], [], _ => rfl
  | [], _ :: _, h => by simp [Lib.compareBytes] at h
  | _ :: _, [], h => by simp [Lib.compareBytes] at h
  | a :: x, b :: y, h => by
    unfold Lib.compareBytes at h
    split at h
    · simp at h
    · split at h
      · simp at h
      · rename_i h1 h2
        have : a = b := UInt8.le_antisymm (UInt8.not_lt.1 h2) (UInt8.not_lt.1 h1)
        rw [this, bytes_eq x y h]
theorem bytes_trans : ∀ x y z, Lib.compareBytes x y ≤ 0 → Lib.compareBytes y z ≤ 0 → Lib.compareBytes x z ≤ 0
  | [], _, [], _, _ => by simp [Lib.compareBytes]
  | [], _, _ :: _, _, _ => by simp [Lib.compareBytes]
  | _ :: _, [], _, h, _ => by simp [Lib.compareBytes] at h
  | _ :: _, _ :: _, [], _, h => by simp [Lib.compareBytes] at h
  | a :: x, b :: y, c :: z, h1, h2 => by
    have ih := bytes_trans x y z
    unfold Lib.compareBytes at h1 h2 ⊢
    simp only [UInt8.lt_iff_toNat_lt] at h1 h2 ⊢
    repeat' split at h1
    all_goals (repeat' split at h2)
    all_goals (repeat' split)
    all_goals first | omega | (exact ih h1 h2)
theorem ordr_S : Ordr cmpS (fun _ => True) :=
  ⟨fun _ _ => bytes_three _ _, fun _ _ => bytes_anti _ _, fun a b _ _ h => by
    have := bytes_eq _ _ h
    cases a; cases b; simp at this; simp [this], fun _ => bytes_refl _, fun _ _ _ _ _ _ => bytes_trans _ _ _⟩
theorem ordF_inj (a b : Nat) (ha : a < 18446744073709551616) (hb : b < 18446744073709551616) (h : ordF a = ordF b) : a = b := by
  unfold ordF at h; repeat' split at h
  all_goals omega
theorem ordr_F : Ordr cmpF (fun f => f < 18446744073709551616) :=
  ⟨fun _ _ => ordr_I.three _ _, fun _ _ => ordr_I.anti _ _, fun a b ha hb h => ordF_inj a b ha hb (by have := ordr_I.eq _ _ trivial trivial h; omega), fun _ => ordr_I.refl _, fun _ _ _ _ _ _ => ordr_I.trans _ _ _ trivial trivial trivial⟩

/-- One comparison, and where it says nothing another one. -/
def lexI (p q : Int) : Int := if p ≠ 0 then p else q
theorem Ordr.zero {α : Type} {c : α → α → Int} {ok : α → Prop} (h : Ordr c ok) {a b d : α} (ha : ok a) (hb : ok b) (hd : ok d) (h1 : c a b = 0) (h2 : c b d = 0) : c a d = 0 := by
  have e1 := h.trans a b d ha hb hd (by omega) (by omega)
  have e2 := h.trans d b a hd hb ha (by have := h.anti d b; omega) (by have := h.anti b a; omega)
  have := h.anti d a
  omega
theorem Ordr.lt {α : Type} {c : α → α → Int} {ok : α → Prop} (h : Ordr c ok) {a b d : α} (ha : ok a) (hb : ok b) (hd : ok d) (h1 : c a b ≤ 0) (h2 : c b d ≤ 0) (h3 : c a b < 0 ∨ c b d < 0) : c a d < 0 := by
  have e1 := h.trans a b d ha hb hd h1 h2
  have e2 := h.anti d a
  have e3 := h.anti b a
  have e4 := h.anti d b
  rcases Int.lt_or_eq_of_le e1 with h0 | h0
  · exact h0
  · rcases h3 with h3 | h3
    · have := h.trans b d a hb hd ha h2 (by omega); omega
    · have := h.trans d a b hd ha hb (by omega) h1; omega
/-- The lexical order of two, over what two functions take out of a thing. -/
theorem Ordr.lex {α β γ : Type} {c1 : α → α → Int} {ok1 : α → Prop} {c2 : β → β → Int} {ok2 : β → Prop} (h1 : Ordr c1 ok1) (h2 : Ordr c2 ok2) (f : γ → α) (g : γ → β) (hinj : ∀ x y, f x = f y → g x = g y → x = y) :
    Ordr (fun x y => lexI (c1 (f x) (f y)) (c2 (g x) (g y))) (fun x => ok1 (f x) ∧ ok2 (g x)) := by
  refine ⟨fun a b => ?_, fun a b => ?_, fun a b ha hb h => ?_, fun a => ?_, fun a b d ha hb hd e1 e2 => ?_⟩
  · have := h1.three (f a) (f b); have := h2.three (g a) (g b)
    dsimp only [lexI]; split <;> omega
  · have e1 := h1.anti (f a) (f b); have e2 := h2.anti (g a) (g b)
    dsimp only [lexI]; split <;> split <;> omega
  · dsimp only [lexI] at h
    split at h
    · contradiction
    · rename_i h0
      have h0 : c1 (f a) (f b) = 0 := by omega
      exact hinj _ _ (h1.eq _ _ ha.1 hb.1 h0) (h2.eq _ _ ha.2 hb.2 h)
  · simp [lexI, h1.refl, h2.refl]
  · dsimp only [lexI] at *
    by_cases z1 : c1 (f a) (f b) = 0
    · by_cases z2 : c1 (f b) (f d) = 0
      · have z3 := h1.zero ha.1 hb.1 hd.1 z1 z2
        simp only [z1, z2, z3, ne_eq, not_true_eq_false, if_false] at *
        exact h2.trans _ _ _ ha.2 hb.2 hd.2 e1 e2
      · have e2' : c1 (f b) (f d) ≤ 0 := by simpa [z2] using e2
        have := h1.lt ha.1 hb.1 hd.1 (by omega) e2' (by omega)
        rw [if_pos (by omega)]; omega
    · have e1' : c1 (f a) (f b) ≤ 0 := by simpa [z1] using e1
      have e2' : c1 (f b) (f d) ≤ 0 := by
        by_cases z2 : c1 (f b) (f d) = 0
        · omega
        · simpa [z2] using e2
      have := h1.lt ha.1 hb.1 hd.1 e1' e2' (by omega)
      rw [if_pos (by omega)]; omega
theorem Ordr.sub {α : Type} {c : α → α → Int} {ok ok' : α → Prop} (h : Ordr c ok) (hs : ∀ a, ok' a → ok a) : Ordr c ok' :=
  ⟨h.three, h.anti, fun a b ha hb => h.eq a b (hs a ha) (hs b hb), h.refl, fun a b d ha hb hd => h.trans a b d (hs a ha) (hs b hb) (hs d hd)⟩

theorem cmpV_lex (a b : V) : cmpV a b = lexI (cmpI a.k b.k) (lexI (cmpI a.i b.i) (lexI (cmpS a.s b.s) (cmpF a.f b.f))) := rfl
theorem ordr_V : Ordr cmpV V.Ok := by
  have h3 := Ordr.lex (γ := ByteArray × Nat) ordr_S ordr_F Prod.fst Prod.snd (fun x y h1 h2 => Prod.ext h1 h2)
  have h2 := Ordr.lex (γ := Int × ByteArray × Nat) ordr_I h3 Prod.fst Prod.snd (fun x y h1 h2 => Prod.ext h1 h2)
  have h1 := Ordr.lex (γ := V) ordr_I h2 V.k (fun v => (v.i, v.s, v.f)) (fun x y h1 h2 => by cases x; cases y; simp at h1 h2; simp [h1, h2])
  exact h1.sub (fun a ha => ⟨trivial, trivial, trivial, ha.f⟩)

def OkL (l : List V) : Prop := ∀ v, v ∈ l → v.Ok
theorem rows_three : ∀ a b, cmpRows a b = -1 ∨ cmpRows a b = 0 ∨ cmpRows a b = 1
  | [], [] => by simp [cmpRows]
  | [], _ :: _ => by simp [cmpRows]
  | _ :: _, [] => by simp [cmpRows]
  | a :: x, b :: y => by
    unfold cmpRows; split
    · have := ordr_V.three a b; omega
    · exact rows_three x y
theorem rows_anti : ∀ a b, cmpRows a b = - cmpRows b a
  | [], [] => by simp [cmpRows]
  | [], _ :: _ => by simp [cmpRows]
  | _ :: _, [] => by simp [cmpRows]
  | a :: x, b :: y => by
    have := ordr_V.anti a b
    have ih := rows_anti x y
    unfold cmpRows; split <;> split <;> omega
theorem rows_eq : ∀ a b, OkL a → OkL b → cmpRows a b = 0 → a = b
  | [], [], _, _, _ => rfl
  | [], _ :: _, _, _, h => by simp [cmpRows] at h
  | _ :: _, [], _, _, h => by simp [cmpRows] at h
  | a :: x, b :: y, ha, hb, h => by
    unfold cmpRows at h
    split at h
    · contradiction
    · rename_i h0
      have h0 : cmpV a b = 0 := by omega
      rw [ordr_V.eq a b (ha a (by simp)) (hb b (by simp)) h0, rows_eq x y (fun v hv => ha v (by simp [hv])) (fun v hv => hb v (by simp [hv])) h]
theorem rows_refl : ∀ a, cmpRows a a = 0
  | [] => by simp [cmpRows]
  | a :: x => by unfold cmpRows; simp [ordr_V.refl, rows_refl x]
theorem rows_trans : ∀ a b d, OkL a → OkL b → OkL d → cmpRows a b ≤ 0 → cmpRows b d ≤ 0 → cmpRows a d ≤ 0
  | [], _, [], _, _, _, _, _ => by simp [cmpRows]
  | [], _, _ :: _, _, _, _, _, _ => by simp [cmpRows]
  | _ :: _, [], _, _, _, _, h, _ => by simp [cmpRows] at h
  | _ :: _, _ :: _, [], _, _, _, _, h => by simp [cmpRows] at h
  | a :: x, b :: y, d :: z, ha, hb, hd, e1, e2 => by
    have ih := rows_trans x y z (fun v hv => ha v (by simp [hv])) (fun v hv => hb v (by simp [hv])) (fun v hv => hd v (by simp [hv]))
    have oa := ha a (by simp); have ob := hb b (by simp); have od := hd d (by simp)
    unfold cmpRows at e1 e2 ⊢
    by_cases z1 : cmpV a b = 0
    · by_cases z2 : cmpV b d = 0
      · have z3 := ordr_V.zero oa ob od z1 z2
        simp only [z1, z2, z3, ne_eq, not_true_eq_false, if_false] at e1 e2 ⊢
        exact ih e1 e2
      · have e2' : cmpV b d ≤ 0 := by simpa [z2] using e2
        have := ordr_V.lt oa ob od (by omega) e2' (by omega)
        rw [if_pos (by omega)]; omega
    · have e1' : cmpV a b ≤ 0 := by simpa [z1] using e1
      have e2' : cmpV b d ≤ 0 := by
        by_cases z2 : cmpV b d = 0
        · omega
        · simpa [z2] using e2
      have := ordr_V.lt oa ob od e1' e2' (by omega)
      rw [if_pos (by omega)]; omega
theorem ordr_Rows : Ordr cmpRows OkL := ⟨rows_three, rows_anti, rows_eq, rows_refl, rows_trans⟩
theorem rows_len {a b : List V} (ha : OkL a) (hb : OkL b) (h : cmpRows a b = 0) : a.length = b.length := by rw [rows_eq a b ha hb h]
end Go.Proofs.YtiekahnpnaldjaaDoor
