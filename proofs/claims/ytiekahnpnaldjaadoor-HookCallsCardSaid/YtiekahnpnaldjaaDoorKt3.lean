/-
  The references of keys: is a value one, a record's key; is a definition looked at.
-/
import Derived.Test.YtiekahnpnaldjaaDoorKt2
namespace Go.Proofs.YtiekahnpnaldjaaDoor
open Go.RowKit

set_option maxRecDepth 100000 in
theorem def_any (nm : ByteArray) (kd cm : Int) (pa : Option Addr) (n pc : Nat) (w : World) (hn : nm.size ≤ 9223372036854775807) (hl : n ≤ 9223372036854775807) :
    Calls Tryd.prog 29 #[defVal nm kd (.slice pa n pc) cm] w fun e w' => e = .returned (.bool (decide (nm.size ≤ 60 ∧ n ≤ 8))) ∧ Ch [] w w' := by
  by_cases h1 : nm.size ≤ 60
  · by_cases h2 : n ≤ 8
    · have e : decide (nm.size ≤ 60 ∧ n ≤ 8) = true := by simp [h1, h2]
      rw [e]
      have g1 : (nm.size : Int) ≤ 60 := by omega
      have g2 : (n : Int) ≤ 8 := by omega
      clear e
      go_enter Tryd.func29, Tryd.ntmps29
      go_wp2
      go_ret
      exact ⟨rfl, (Ch.refl _ _).alloc _⟩
    · have e : decide (nm.size ≤ 60 ∧ n ≤ 8) = false := by simp [h2]
      rw [e]
      have g1 : (nm.size : Int) ≤ 60 := by omega
      have g2 : decide ((n : Int) ≤ 8) = false := decide_eq_false (by omega)
      clear e
      go_enter Tryd.func29, Tryd.ntmps29
      go_wp2
      go_ret
      exact ⟨by rw [← g2]; rfl, (Ch.refl _ _).alloc _⟩
  · have e : decide (nm.size ≤ 60 ∧ n ≤ 8) = false := by simp [h1]
    rw [e]
    have g1 : (60 : Int) < (nm.size : Int) := by omega
    clear e
    go_enter Tryd.func29, Tryd.ntmps29
    go_wp2
    go_ret
    exact ⟨rfl, (Ch.refl _ _).alloc _⟩

theorem zeroF (f : Nat) (_hf : f < 18446744073709551616) : ((f : Int) == 0) = (((ordF f : Nat) : Int) == 9223372036854775808) := by
  rw [Bool.eq_iff_iff]
  simp only [beq_iff_eq]
  unfold ordF
  split <;> omega
set_option maxRecDepth 100000 in
theorem zero_any (f : Nat) (w : World) (hf : f < 18446744073709551616) : Calls Tryd.prog 66 #[.float .f64 f] w fun e w' => e = .returned (.bool (((ordF f : Nat) : Int) == 9223372036854775808)) ∧ w = w' := by
  rw [← zeroF f hf]
  have hb := fun (n : Nat) (w : World) => ent_f64bits n w
  go_enter Tryd.func66, Tryd.ntmps66
  go_wp2
  go_ret
  exact ⟨rfl, rfl⟩

set_option maxRecDepth 100000 in
set_option maxHeartbeats 4000000 in
theorem refIs_any (v : V) (w : World) (hv : v.Ok) :
    Calls Tryd.prog 33 #[v.val] w fun e w' => SomeBool e (isV v) ∧ Ch [] w w' := by
  obtain ⟨k, i, s, f⟩ := v
  have H := Lib.hid (fun w => zero_any f w hv.f)
  have hs := hv.s
  simp only [V.val]
  clear hv
  by_cases k1 : k = 1
  · subst k1
    go_enter Tryd.func33, Tryd.ntmps33
    go_wp2_with (go_at_call 66; refine (H.out _).mono ?_; rintro e w' ⟨rfl, rfl⟩)
    all_goals go_ret
    all_goals refine ⟨?_, (Ch.refl _ _).alloc _⟩
    all_goals (simp_all [SomeBool, isV] <;> (intros; omega))
  by_cases k2 : k = 2
  · subst k2
    go_enter Tryd.func33, Tryd.ntmps33
    go_wp2_with (go_at_call 66; refine (H.out _).mono ?_; rintro e w' ⟨rfl, rfl⟩)
    all_goals go_ret
    all_goals refine ⟨?_, (Ch.refl _ _).alloc _⟩
    all_goals (simp_all [SomeBool, isV] <;> (intros; omega))
  by_cases k3 : k = 3
  · subst k3
    go_enter Tryd.func33, Tryd.ntmps33
    go_wp2_with (go_at_call 66; refine (H.out _).mono ?_; rintro e w' ⟨rfl, rfl⟩)
    all_goals go_ret
    all_goals refine ⟨?_, (Ch.refl _ _).alloc _⟩
    all_goals (simp_all [SomeBool, isV] <;> (intros; omega))
  by_cases k4 : k = 4
  · subst k4
    go_enter Tryd.func33, Tryd.ntmps33
    go_wp2_with (go_at_call 66; refine (H.out _).mono ?_; rintro e w' ⟨rfl, rfl⟩)
    all_goals go_ret
    all_goals refine ⟨?_, (Ch.refl _ _).alloc _⟩
    all_goals (simp_all [SomeBool, isV] <;> (intros; omega))
  by_cases k5 : k = 5
  · subst k5
    go_enter Tryd.func33, Tryd.ntmps33
    go_wp2_with (go_at_call 66; refine (H.out _).mono ?_; rintro e w' ⟨rfl, rfl⟩)
    all_goals go_ret
    all_goals refine ⟨?_, (Ch.refl _ _).alloc _⟩
    all_goals (simp_all [SomeBool, isV] <;> (intros; omega))
  have t1 : (k == 1) = false := by rw [beq_eq_false_iff_ne]; exact k1
  have t2 : (k == 2) = false := by rw [beq_eq_false_iff_ne]; exact k2
  have t3 : (k == 3) = false := by rw [beq_eq_false_iff_ne]; exact k3
  have t4 : (k == 4) = false := by rw [beq_eq_false_iff_ne]; exact k4
  have t5 : (k == 5) = false := by rw [beq_eq_false_iff_ne]; exact k5
  go_enter Tryd.func33, Tryd.ntmps33
  go_wp2_with (go_at_call 66; refine (H.out _).mono ?_; rintro e w' ⟨rfl, rfl⟩)
  all_goals go_ret
  all_goals refine ⟨?_, (Ch.refl _ _).alloc _⟩
  all_goals (simp_all [SomeBool, isV] <;> (intros; omega))

/-- A row that the call made. -/
def RowNew (w : World) (vs : List V) (n : Nat) (e : Ending) (w' : World) : Prop := ∃ a c b, e = .returned (.slice a n c) ∧ VRow w' b 0 (.slice a n c) vs ∧ Ch [] w w'
theorem rowNew_of {w w' : World} {base n : Nat} {v : Value} {vs : List V} (hn : vs.length = n) (ho : w'.ownsRow base 38 4 v n (flat vs)) (hc : Ch [] w w') : RowNew w vs n (.returned v) w' := by
  subst hn
  obtain ⟨a, c, rfl⟩ := own_shape ho
  obtain ⟨kb, _, hk⟩ := VRow.of_own ho
  exact ⟨a, c, kb, rfl, hk, hc⟩

set_option maxRecDepth 100000 in
set_option maxHeartbeats 2000000 in
theorem refOf_any (nm : ByteArray) (kd cm : Int) (pb po pc : Nat) (pa : Option Addr) (ps : List (Int × Int)) (l : List V) (b off : Nat) (sv : Value) (w : World) (hr : VRow w b off sv l) (ol : OkL l) (hl : l.length ≤ 1000)
    (hpa : ps ≠ [] → pa = some ⟨pb, po, none⟩) (hps : PartsAt w pb po ps) (hpl : ps.length ≤ 100) (hok : ∀ f h, (f, h) ∈ ps → 0 ≤ f → f < l.length) :
    Calls Tryd.prog 35 #[defVal nm kd (.slice pa ps.length pc) cm, sv] w (RowNew w (ps.map (kval l)) ps.length) := by
  obtain ⟨i0, hi, hz0, hz1, hz2⟩ := info_parts infoV
  obtain ⟨aa, ca, rfl, hsa⟩ := hr.shape
  have HR := Lib.hid (And.intro hr (And.intro ol (And.intro hl hsa)))
  have HP := Lib.hid (And.intro hpa (And.intro hps hok))
  have HB := Lib.hid (heap_alloc_same w (.cells #[.string nm, .int .i64 kd, .slice pa ps.length pc, .int .i64 cm] 53))
  have hvn : (ps.map (kval l)).length = ps.length := by simp
  have HVN := Lib.hid hvn
  clear hr ol hsa hpa hps hok hvn
  go_enter Tryd.func35, Tryd.ntmps35
  go_wp2_with fail
  go_loopg [5, 6] ps.length (fun k s5 i wr => ∃ m : Nat, k + m = ps.length ∧ i = .int .i64 m ∧ wr.ownsRow w.heap.size 38 4 s5 m (flat ((ps.map (kval l)).take m)) ∧ Ch [] w wr ∧
    wr.heap[w.heap.size]? = some (.cells #[.string nm, .int .i64 kd, .slice pa ps.length pc, .int .i64 cm] 53 (0, 0)))
  case atStart => exact ⟨0, rfl, rfl, World.ownsRow_nil _ _ _ _, (Ch.refl _ w).alloc _, HB.out⟩
  case round =>
    obtain ⟨m, hkm, rfl, hown, hch, hdf⟩ := hrel
    have d2 := (cell_of (i := 2) hdf).trans rfl
    have z2 := lt_of_block hdf
    by_cases hlt : m < ps.length
    · obtain ⟨f, h, hj⟩ : ∃ f h, ps[m]? = some (f, h) := ⟨_, _, List.getElem?_eq_getElem hlt⟩
      obtain rfl := HP.out.1 (fun e => by rw [e] at hlt; simp at hlt)
      obtain ⟨p0, p1⟩ := (HP.out.2.1.ch hch (by simp)) m f h hj
      have j0 : (m : Int) < (ps.length : Int) := by omega
      have hsz := hch.size
      have hok := HP.out.2.2 f h (List.mem_of_getElem? hj)
      have hmap : (ps.map (kval l))[m]? = some (kval l (f, h)) := by rw [List.getElem?_map, hj]; rfl
      obtain ⟨qa, qc, hs5⟩ := own_shape hown
      subst hs5
      by_cases hf : 0 ≤ f
      · obtain ⟨n, rfl⟩ : ∃ n : Nat, f = n := ⟨f.toNat, by omega⟩
        have jn := hok hf
        have hn : n < l.length := by omega
        have hv : l[n]? = some l[n] := List.getElem?_eq_getElem hn
        have hne : l ≠ [] := fun e => by rw [e] at hn; simp at hn
        obtain rfl := HR.out.2.2.2 hne
        have hkv : kval l (↑n, h) = l[n] := by unfold kval; rw [if_pos hf]; simp [List.getD, hn]
        rw [hkv] at hmap
        generalize l[n] = v at *
        obtain ⟨c0, c1, c2, c3⟩ := (HR.out.1.ch0 (hch.alloc (.cells #[.int .i64 n, .int .i64 h] 66))).cells n v hv
        have HM := Lib.hid (And.intro hkm (And.intro hown (And.intro hch (And.intro hdf hmap))))
        clear hkm hown hch hdf hmap hkv hv hne hok hj
        go_wp2_with (at_builtin; refine wpList_append_own _ rfl _ _ 39 rfl w.heap.size 38 i0 _ 4 40 Tryd.underlying39 hi hz0 hz1 hz2 rfl (by decide) _ _ _ rfl ((HM.out.2.1.alloc _).alloc _) ⟨wr.heap.size + 1, 0, none⟩ 1 1 [.int .i64 v.k, .int .i64 v.i, .string v.s, .float .f64 v.f] rfl rfl ?c1 ?c2 ?c3 ?c4 ?c5 ?_)
        case c2 => exact ⟨rfl, rfl, rfl, rfl⟩
        case c3 => unfold maxLen; omega
        case c4 => omega
        case c5 => omega
        intro v' w5 hown5 hg5 _
        obtain ⟨hkm, hown, hch, hdf, hmap⟩ := HM.out
        rw [← flat_take hmap] at hown5
        have hcb := (hch.alloc (.cells #[.int .i64 n, .int .i64 h] 66)).alloc (.cells #[.int .i64 v.k, .int .i64 v.i, .string v.s, .float .f64 v.f] 38)
        have hc5 := hcb.grown hg5 (fun k hk => .inr (own_base hown hk).1)
        have hd5 := (hg5.block _ (lt_of_block (heap_alloc_past (o := .cells #[.int .i64 v.k, .int .i64 v.i, .string v.s, .float .f64 v.f] 38) (heap_alloc_past (o := .cells #[.int .i64 n, .int .i64 h] 66) hdf))) (fun e => own_ne hown hdf (by decide) e.symm)).trans (heap_alloc_past (o := .cells #[.int .i64 v.k, .int .i64 v.i, .string v.s, .float .f64 v.f] 38) (heap_alloc_past (o := .cells #[.int .i64 n, .int .i64 h] 66) hdf))
        have HF := Lib.hid (And.intro hkm (And.intro hown5 (And.intro hc5 hd5)))
        clear hkm hown hch hdf hmap hown5 hg5 hcb hc5 hd5 HM c0 c1 c2 c3
        go_wp2
        go_roundg (gk - 1)
        case measure => have := HF.out.1; omega
        case rel => exact ⟨m + 1, by have := HF.out.1; omega, by go_num, HF.out.2.1, HF.out.2.2.1, HF.out.2.2.2⟩
      · have hkv : kval l (f, h) = extV h l := by unfold kval; rw [if_neg hf]
        have hf' : f < 0 := by omega
        rw [hkv] at hmap
        have hsv : VRow (wr.alloc (.cells #[.int .i64 f, .int .i64 h] 66)) b off _ l := HR.out.1.ch0 (hch.alloc _)
        have HX := Lib.hid (extract_ref h l b off _ (wr.alloc (.cells #[.int .i64 f, .int .i64 h] 66)) hsv HR.out.2.1 (by have := HR.out.2.2.1; omega))
        generalize extV h l = v at *
        have HM := Lib.hid (And.intro hkm (And.intro hown (And.intro hch (And.intro hdf hmap))))
        clear hkm hown hch hdf hmap hkv hok hj hsv
        unfold V.arr at *
        go_wp2_with fail
        refine HX.out.mono ?_
        rintro e w2 ⟨rfl, hc2⟩
        have hs2 := hc2.size
        simp at hs2
        have hown2 := own_kept hc2 (HM.out.2.1.alloc (.cells #[.int .i64 f, .int .i64 h] 66)) (by simp)
        have H2 := Lib.hid (And.intro hown2 hc2)
        clear hown2 hc2 HX
        go_wp2_with (at_builtin; refine wpList_append_own _ rfl _ _ 39 rfl w.heap.size 38 i0 _ 4 40 Tryd.underlying39 hi hz0 hz1 hz2 rfl (by decide) _ _ _ rfl (H2.out.1.alloc _) ⟨w2.heap.size, 0, none⟩ 1 1 [.int .i64 v.k, .int .i64 v.i, .string v.s, .float .f64 v.f] rfl rfl ?e1 ?e2 ?e3 ?e4 ?e5 ?_)
        case e1 => exact World.news_of_block (cs := #[.int .i64 v.k, .int .i64 v.i, .string v.s, .float .f64 v.f]) (t := 38) (fr := (0, 0)) (heap_alloc_same _ _)
        case e2 => intro u hu; simp at hu; rcases hu with rfl | rfl | rfl | rfl <;> rfl
        case e3 => unfold maxLen; omega
        case e4 => omega
        case e5 => simp; omega
        intro v' w5 hown5 hg5 _
        obtain ⟨hkm, hown, hch, hdf, hmap⟩ := HM.out
        rw [← flat_take hmap] at hown5
        have hc2 := H2.out.2
        have hcb := ((hch.alloc (.cells #[.int .i64 f, .int .i64 h] 66)).trans hc2).alloc (.cells #[.int .i64 v.k, .int .i64 v.i, .string v.s, .float .f64 v.f] 38)
        have hc5 := hcb.grown hg5 (fun k hk => .inr (own_base hown hk).1)
        have hd3 := heap_alloc_past (o := .cells #[.int .i64 v.k, .int .i64 v.i, .string v.s, .float .f64 v.f] 38) (hc2.heap (heap_alloc_past (o := .cells #[.int .i64 f, .int .i64 h] 66) hdf) (by simp))
        have hd5 := (hg5.block _ (lt_of_block hd3) (fun e => own_ne hown hdf (by decide) e.symm)).trans hd3
        have HF := Lib.hid (And.intro hkm (And.intro hown5 (And.intro hc5 hd5)))
        clear hkm hown hch hdf hmap hown5 hg5 hcb hc5 hd3 hd5 HM H2 hc2
        go_wp2
        go_roundg (gk - 1)
        case measure => have := HF.out.1; omega
        case rel => exact ⟨m + 1, by have := HF.out.1; omega, by go_num, HF.out.2.1, HF.out.2.2.1, HF.out.2.2.2⟩
    · obtain rfl : m = ps.length := by omega
      rw [List.take_of_length_le (by rw [HVN.out]; exact Nat.le_refl _)] at hown
      have HF := Lib.hid (rowNew_of HVN.out hown hch)
      obtain ⟨qa, qc, hs5⟩ := own_shape hown
      subst hs5
      clear hkm hown hch hdf hlt
      go_wp2
      go_ret
      exact HF.out
end Go.Proofs.YtiekahnpnaldjaaDoor
