/-
  key.Of under a meter, whole.
-/
import Derived.Test.YtiekahnpnaldjaaDoorKt1
import Derived.Test.YtiekahnpnaldjaaDoorKeyFld
namespace Go.Proofs.YtiekahnpnaldjaaDoor
open Go.RowKit

theorem Faulty.kept {w w' : World} {fb x : Nat} {wh : ByteArray} {e p : Value} {cs : Array Value} {t : TypeId} (h : Faulty w fb wh e p) (hc : Ch [x] w w') (hx : w.heap[x]? = some (.cells cs t (0, 0))) (ht : 107 ≠ t) : Faulty w' fb wh e p :=
  ⟨hc.heap h.blk (by simp; exact ne_of_elem h.blk hx ht), h.twice⟩
theorem PartRes.lastsV {nm : ByteArray} {mb : Nat} {a hw : Int} {s : Int × Int} {kv v : V} {er : Value} : LastsV (PartRes nm mb a hw s kv v er) := by
  intro w w' x cs h hc hx
  have hne : ∀ {m : Nat} {c a h s : Int}, MeterAt w m c a h s → MeterAt w' m c a h s := fun hm => hm.ch hc (by simp; exact ne_of_elem hm hx (by decide))
  rcases h with ⟨h0, h1, h2, h3⟩ | ⟨h0, h1, h2⟩ | ⟨h0, fb, e, p, sk, h1, h2, h3⟩
  · exact .inl ⟨h0, h1, h2, hne h3⟩
  · exact .inr (.inl ⟨h0, h1, hne h2⟩)
  · exact .inr (.inr ⟨h0, fb, e, p, sk, h1, h2.kept hc hx (by decide), hne h3⟩)

/-- A part, under a meter. -/
theorem kpart_any (nm : ByteArray) (kd cm : Int) (pa ca : Option Addr) (pn pc g xc cn cc D : Nat) (f h : Int) (l : List V) (b off : Nat) (sv : Value) (mb : Nat) (c a hw : Int) (w : World) (hr : VRow w b off sv l) (ol : OkL l) (hl : l.length ≤ 1000)
    (hat : ∀ i, i < 5 → ∃ fv, w.cell? ⟨g, i, none⟩ = some fv ∧ CodeAt w D 90 (meterPtr mb) i fv) (hm : MeterAt w mb c a hw 0) (c0 : 0 ≤ c) (c1 : c ≤ 999) (a0 : 0 ≤ a) (a1 : a ≤ 9) :
    Calls Tryd.prog 65 #[defVal nm kd (.slice pa pn pc) cm, partVal f h, .agg #[.slice (some ⟨g, 0, none⟩) 5 xc, .slice ca cn cc], sv] w fun e w' => ∃ v er, e = .returned (.tuple #[.agg (V.arr v), er]) ∧
      PartRes nm mb a hw (kstep l a (c, 0) (f, h)) (kval l (f, h)) v er w' ∧ Ch [mb] w w' := by
  obtain ⟨aa, cap, rfl, _⟩ := hr.shape
  have hmb := lt_of_block hm
  by_cases hf : 0 ≤ f ∧ f < l.length
  · obtain ⟨n, rfl⟩ : ∃ n : Nat, f = n := ⟨f.toNat, by omega⟩
    have hn : n < l.length := by omega
    have hv : l[n]? = some l[n] := List.getElem?_eq_getElem hn
    refine (part_field nm kd cm h pa (some ⟨g, 0, none⟩) ca pn pc 5 xc cn cc n l _ b off _ w hr hv).mono ?_
    rintro e w' ⟨rfl, hc⟩
    refine ⟨_, _, rfl, .inl ⟨?_, rfl, ?_, ?_⟩, hc.mono (by simp)⟩
    · unfold kstep; rw [if_neg (by simp), if_pos hf]
    · unfold kval; rw [if_pos hf.1]; simp [List.getD, hn]
    · have : (kstep l a (c, 0) (↑n, h)).1 = c := by unfold kstep; rw [if_neg (by simp), if_pos hf]
      rw [this]; exact hm.ch hc (by simp)
  · by_cases hh : f = -1 ∧ 0 ≤ h ∧ h < 5
    · obtain ⟨rfl, h0, h5⟩ := hh
      obtain ⟨n, rfl⟩ : ∃ n : Nat, h = n := ⟨h.toNat, by omega⟩
      obtain ⟨fv, hcell, qb, nb, rfl, _, _, hq, hn⟩ := hat n (by omega)
      have ek : kstep l a (c, 0) (-1, (n : Int)) = (c + 1, if c + 1 = a ∨ isV (extV n l) = false then 50 else 0) := by
        unfold kstep; rw [if_neg (by simp), if_neg hf, if_pos ⟨rfl, h0, h5⟩]
      have ev : kval l (-1, (n : Int)) = extV n l := by unfold kval; rw [if_neg (by simp)]
      rw [ek, ev]
      refine (part_hook nm kd cm n g 0 pa ca pn pc 5 xc cn cc 90 _ _ w [mb] (fun v er w' => PartRes nm mb a hw (c + 1, if c + 1 = a ∨ isV (extV n l) = false then 50 else 0) (extV n l) v er w') ⟨_, _, _, rfl⟩ (by omega) (by rw [Nat.zero_add]; exact hcell) (fun _ _ => PartRes.lastsV) (by simpa using hmb) ?_).mono ?_
      · intro W hW
        exact extract_metered nm n mb qb nb l b off _ W c a hw (hr.ch0 hW) ol hl (hW.heap hq (by simp)) (hW.heap hn (by simp)) (hm.ch hW (by simp)) c0 c1 a0 a1
      · rintro e w' ⟨v, er, rfl, hp, hc⟩
        exact ⟨v, er, rfl, hp, hc⟩
    · refine (part_none nm kd cm f h pa (some ⟨g, 0, none⟩) ca pn pc 5 xc cn cc l aa cap w hf (by omega)).mono ?_
      rintro e w' ⟨rfl, hc⟩
      have ek : kstep l a (c, 0) (f, h) = (c, 60) := by unfold kstep; rw [if_neg (by simp), if_neg hf, if_neg hh]
      rw [ek]
      exact ⟨_, _, rfl, .inr (.inl ⟨rfl, rfl, hm.ch hc (by simp)⟩), hc.mono (by simp)⟩

/-- What key.Of tells, under a meter. -/
def KeyRes (w : World) (nm : ByteArray) (mb : Nat) (a hw : Int) (l : List V) (ps : List (Int × Int)) (e : Ending) (w' : World) : Prop :=
  Ch [mb] w w' ∧ (((kscan l a ps).2 = 0 ∧ (∃ ka kc kb, e = .returned (.tuple #[.slice ka ps.length kc, .nilIface]) ∧ VRow w' kb 0 (.slice ka ps.length kc) (ps.map (kval l))) ∧ MeterAt w' mb (kscan l a ps).1 a hw 0) ∨
    ((kscan l a ps).2 = 60 ∧ e = .returned (.tuple #[.slice none 0 0, .iface 31 (.int .i64 60)]) ∧ MeterAt w' mb (kscan l a ps).1 a hw 0) ∨
    ((kscan l a ps).2 = 50 ∧ ∃ fb er p sk, e = .returned (.tuple #[.slice none 0 0, faultVal fb]) ∧ Faulty w' fb nm er p ∧ MeterAt w' mb (kscan l a ps).1 a hw sk))

theorem keyOf_metered (nm : ByteArray) (kd cm : Int) (pb po pc xc D : Nat) (pa : Option Addr) (hx hcv : Value) (ps : List (Int × Int)) (l : List V) (b off : Nat) (sv : Value) (mb : Nat) (a hw : Int) (w : World) (hr : VRow w b off sv l) (ol : OkL l) (hl : l.length ≤ 1000)
    (hpa : ps ≠ [] → pa = some ⟨pb, po, none⟩) (hps : PartsAt w pb po ps) (hpl : ps.length ≤ 100) (hhx : Hooked w D 90 77 (meterPtr mb) 5 hx) (hhc : ∃ a n c, hcv = .slice a n c)
    (hm : MeterAt w mb 0 a hw 0) (hpm : pb ≠ mb) (a0 : 0 ≤ a) (a1 : a ≤ 9) :
    Calls Tryd.prog 32 #[defVal nm kd (.slice pa ps.length pc) cm, .agg #[hx, hcv], sv] w (KeyRes w nm mb a hw l ps) := by
  obtain ⟨ca, cn, cc, rfl⟩ := hhc
  obtain ⟨g, gc, rfl, _, _⟩ := hhx.at (by omega)
  have hmb := lt_of_block hm
  have hsv : ∃ a n c, sv = .slice a n c := by obtain ⟨aa, cap, rfl, _⟩ := hr.shape; exact ⟨_, _, _, rfl⟩
  have hfr : ∀ W, Ch [mb] w W → Fr 0 [some 57] w W := fun W hW => Fr.of_ch hW (Nat.zero_le _) (fun x hx => by
    simp at hx
    subst hx
    exact ⟨Nat.zero_le _, fun o ho => by rw [hm] at ho; cases ho; simp [kindOf]⟩)
  have hvn : (ps.map (kval l)).length = ps.length := by simp
  refine (keyOf_gen nm kd cm pb po pc 5 gc cn cc pa (some ⟨g, 0, none⟩) ca ps (ps.map (kval l)) sv w [mb]
    (fun j w' => (kscan l a (ps.take j)).2 = 0 ∧ MeterAt w' mb (kscan l a (ps.take j)).1 a hw 0)
    (fun j t x w' => ((kscan l a (ps.take (j + 1))).2 = 60 ∧ t = 31 ∧ x = .int .i64 60 ∧ MeterAt w' mb (kscan l a (ps.take (j + 1))).1 a hw 0) ∨
      ((kscan l a (ps.take (j + 1))).2 = 50 ∧ ∃ fb e p sk, t = 102 ∧ x = .pointer (some ⟨fb, 0, none⟩) ∧ Faulty w' fb nm e p ∧ MeterAt w' mb (kscan l a (ps.take (j + 1))).1 a hw sk))
    hpa hps (by simp; exact hpm) hpl (by simpa using hmb) ?_ ?_ ?_ hsv hvn ?_).mono ?_
  · intro j x y S h hc hS
    exact ⟨h.1, h.2.ch hc (fun hh => by have := hS _ hh; omega)⟩
  · rintro j t x y z (⟨h0, h1, h2, h3⟩ | ⟨h0, fb, e, p, sk, h1, h2, h3, h4⟩) hc
    · exact .inl ⟨h0, h1, h2, h3.ch hc (by simp)⟩
    · exact .inr ⟨h0, fb, e, p, sk, h1, h2, h3.ch hc, h4.ch hc (by simp)⟩
  · exact ⟨by simp [kscan], by simpa [kscan] using hm⟩
  · intro j f h W hj hcW hT
    have hjl : j < ps.length := (List.getElem?_eq_some_iff.1 hj).1
    have hb := kscan_bounds l a (ps.take j)
    have hlen : (ps.take j).length ≤ 100 := by rw [List.length_take]; omega
    have hcode := (hhx.fr (hfr W hcW) (by decide) (by decide) (by decide)).at (by omega)
    obtain ⟨g2, gc2, e2, _, hat⟩ := hcode
    injection e2 with e3 e4 e5
    injection e3 with e3
    injection e3 with e3
    subst e3
    have hrb : b ∉ [mb] ∨ l = [] := by
      by_cases h0 : l = []
      · exact .inr h0
      · left
        simp
        rintro rfl
        obtain ⟨v, hv⟩ : ∃ v, l[0]? = some v := ⟨_, List.getElem?_eq_getElem (List.length_pos_iff.2 h0)⟩
        have h1 := (hr.cells 0 v hv).c2
        have h2 : ∀ i u, w.cell? ⟨b, i, none⟩ = some u → ∃ n : Int, u = .int .i64 n := by
          intro i u hu
          rw [cell_of hm] at hu
          match i, hu with
          | 0, hu => exact ⟨_, by simpa using hu.symm⟩
          | 1, hu => exact ⟨_, by simpa using hu.symm⟩
          | 2, hu => exact ⟨_, by simpa using hu.symm⟩
          | 3, hu => exact ⟨_, by simpa using hu.symm⟩
          | i + 4, hu => simp at hu
        obtain ⟨n, hn⟩ := h2 _ _ h1
        cases hn
    have hrW : VRow W b off sv l := by
      rcases hrb with h | h
      · exact hr.ch hcW h
      · subst h; exact ⟨hr.shape, by simp⟩
    have e0 : kscan l a (ps.take j) = ((kscan l a (ps.take j)).1, 0) := by rw [← hT.1]
    have e1 : kscan l a (ps.take (j + 1)) = kstep l a ((kscan l a (ps.take j)).1, 0) (f, h) := by rw [kscan_take hj]; rw [← e0]
    refine (kpart_any nm kd cm pa ca ps.length pc g gc cn cc D f h l b off sv mb (kscan l a (ps.take j)).1 a hw W hrW ol hl hat hT.2 hb.1 (by omega) a0 a1).mono ?_
    rintro e w' ⟨v, er, rfl, hp, hc⟩
    refine ⟨v, er, rfl, hc, ?_⟩
    rw [← e1] at hp
    rcases hp with ⟨h0, rfl, rfl, h3⟩ | ⟨h0, rfl, h2⟩ | ⟨h0, fb, e, p, sk, rfl, h2, h3⟩
    · exact .inl ⟨rfl, by rw [List.getElem?_map, hj]; rfl, h0, h3⟩
    · exact .inr ⟨_, _, rfl, .inl ⟨h0, rfl, rfl, h2⟩⟩
    · exact .inr ⟨_, _, rfl, .inr ⟨h0, fb, e, p, sk, rfl, rfl, h2, h3⟩⟩
  · rintro e w' ⟨hc, ⟨kv, rfl, _, ho, hT⟩ | ⟨j, t, x, hj, rfl, hF⟩⟩
    · rw [List.take_of_length_le (Nat.le_refl _)] at hT
      rw [← hvn] at ho
      obtain ⟨ka, kc, rfl⟩ := own_shape ho
      obtain ⟨kb, _, hk⟩ := VRow.of_own ho
      rw [hvn] at hk ⊢
      exact ⟨hc, .inl ⟨hT.1, ⟨ka, kc, kb, rfl, hk⟩, hT.2⟩⟩
    · rcases hF with ⟨h0, rfl, rfl, h3⟩ | ⟨h0, fb, er, p, sk, rfl, rfl, h3, h4⟩
      · have es := kscan_stuck (l := l) (a := a) (ps := ps) (m := j + 1) (by rw [h0]; simp)
        rw [← es] at h0 h3
        exact ⟨hc, .inr (.inl ⟨h0, rfl, h3⟩)⟩
      · have es := kscan_stuck (l := l) (a := a) (ps := ps) (m := j + 1) (by rw [h0]; simp)
        rw [← es] at h0 h4
        exact ⟨hc, .inr (.inr ⟨h0, fb, er, p, sk, rfl, h3, h4⟩)⟩
end Go.Proofs.YtiekahnpnaldjaaDoor
