/-
  key.Of: a record's key.
-/
import Derived.Test.YtiekahnpnaldjaaDoorKey1
namespace Go.Proofs.YtiekahnpnaldjaaDoor
open Go.RowKit

abbrev numV (n : Int) : V := ⟨1, n, ⟨#[]⟩, 0⟩
set_option maxRecDepth 100000 in
theorem num_any (n : Int) (w : World) : Calls Tryd.prog 62 #[.int .i64 n] w fun e w' => e = .returned (.agg (V.arr (numV n))) ∧ w' = w.alloc (.cells (V.arr (numV n)) 38) := by
  go_enter Tryd.func62, Tryd.ntmps62
  go_wp2
  try simp only [Exit.inBlock, Exit.then]
  refine bodyPost_ret (results_cell_row rfl _ _ _ _ _ _ _ rfl (heap_alloc_same w (.cells (V.arr (numV n)) 38)) Tryd.underlying38 rfl (by kernel_rfl)) rfl ?_
  exact ⟨rfl, rfl⟩

/-- Parts that lie in memory. -/
def PartsAt (w : World) (pb po : Nat) (ps : List (Int × Int)) : Prop := ∀ j f h, ps[j]? = some (f, h) → w.cell? ⟨pb, po + j * 2, none⟩ = some (.int .i64 f) ∧ w.cell? ⟨pb, po + j * 2 + 1, none⟩ = some (.int .i64 h)
theorem PartsAt.ch {w w' : World} {S : List Nat} {pb po : Nat} {ps : List (Int × Int)} (h : PartsAt w pb po ps) (hc : Ch S w w') (hn : pb ∉ S) : PartsAt w' pb po ps := fun j f g hj =>
  ⟨(hc.rules.1 _ _ (World.block_lt_of_cell? _ _ (h j f g hj).1) hn).trans (h j f g hj).1, (hc.rules.1 _ _ (World.block_lt_of_cell? _ _ (h j f g hj).1) hn).trans (h j f g hj).2⟩

theorem Lasts.grown {w a b c : World} {R : World → Prop} {r : Option Nat} (hL : Lasts w R) (hR : R a) (hA : Ch [] a b) (hg : b.grownBy c r) (hb : ∀ k, r = some k → w.heap.size ≤ k) : R c :=
  hL a c r.toList hR ((hA.mono (S' := r.toList) (by simp)).grown hg (fun k hk => .inl (by simp [hk]))) (fun y hy => hb y (by simpa using hy))
theorem flat_take {vs : List V} {m : Nat} {v : V} (h : vs[m]? = some v) : flat (vs.take (m + 1)) = flat (vs.take m) ++ [.int .i64 v.k, .int .i64 v.i, .string v.s, .float .f64 v.f] := by
  rw [List.take_add_one, h]
  simp [flat, V.cells]
/-- What key.Of leaves: the key, a row of its own; or the first part's error. -/
def KeyTold (w : World) (S : List Nat) (vs : List V) (n : Nat) (T : Nat → World → Prop) (F : Nat → TypeId → Value → World → Prop) (e : Ending) (w' : World) : Prop :=
  Ch S w w' ∧ ((∃ kv, e = .returned (.tuple #[kv, .nilIface]) ∧ vs.length = n ∧ w'.ownsRow w.heap.size 38 4 kv n (flat vs) ∧ T n w') ∨ (∃ j t x, j < n ∧ e = .returned (.tuple #[.slice none 0 0, .iface t x]) ∧ F j t x w'))

set_option maxRecDepth 100000 in
set_option maxHeartbeats 2000000 in
theorem keyOf_any (nm : ByteArray) (kd cm : Int) (pb po pc xn xc cn cc : Nat) (xa ca : Option Addr) (ps : List (Int × Int)) (vs : List V) (sv : Value) (w : World) (S : List Nat) (T : Nat → World → Prop) (F : Nat → TypeId → Value → World → Prop)
    (hps : PartsAt w pb po ps) (hpS : pb ∉ S) (hpl : ps.length ≤ 100) (hS : ∀ x, x ∈ S → x < w.heap.size) (hT : ∀ j, Lasts w (T j)) (hF : ∀ j t x a b, F j t x a → Ch [] a b → F j t x b) (hT0 : T 0 w) (hs : ∃ a n c, sv = .slice a n c) (hvs : vs.length = ps.length)
    (hpart : ∀ j f h W, ps[j]? = some (f, h) → Ch S w W → T j W → Calls Tryd.prog 65 #[defVal nm kd (.slice (some ⟨pb, po, none⟩) ps.length pc) cm, partVal f h, .agg #[.slice xa xn xc, .slice ca cn cc], sv] W fun e w' =>
      ∃ v er, e = .returned (.tuple #[.agg (V.arr v), er]) ∧ Ch S W w' ∧ ((er = .nilIface ∧ vs[j]? = some v ∧ T (j + 1) w') ∨ ∃ t x, er = .iface t x ∧ F j t x w')) :
    Calls Tryd.prog 32 #[defVal nm kd (.slice (some ⟨pb, po, none⟩) ps.length pc) cm, .agg #[.slice xa xn xc, .slice ca cn cc], sv] w fun e w' => KeyTold w S vs ps.length T F e w' := by
  obtain ⟨i0, hi, hz0, hz1, hz2⟩ := info_parts infoV
  obtain ⟨a, n, c, rfl⟩ := hs
  have H := Lib.hid (And.intro hps (And.intro hpS (And.intro hS (And.intro hT (And.intro hF (And.intro hvs hpl))))))
  have HP := Lib.hid hpart
  have H0 := Lib.hid (And.intro (heap_alloc_past (o := .cells #[.slice xa xn xc, .slice ca cn cc] 61) (heap_alloc_same w (.cells #[.string nm, .int .i64 kd, .slice (some ⟨pb, po, none⟩) ps.length pc, .int .i64 cm] 53))) hT0)
  clear hps hpS hS hT hF hT0 hvs hpart
  go_enter Tryd.func32, Tryd.ntmps32
  go_wp2_with fail
  go_loopg [8, 16] ps.length (fun k s8 i wr => ∃ m : Nat, k + m = ps.length ∧ i = .int .i64 m ∧ wr.ownsRow w.heap.size 38 4 s8 m (flat (vs.take m)) ∧ T m wr ∧ Ch S w wr ∧
    wr.heap[w.heap.size]? = some (.cells #[.string nm, .int .i64 kd, .slice (some ⟨pb, po, none⟩) ps.length pc, .int .i64 cm] 53 (0, 0)) ∧ wr.heap[w.heap.size + 1]? = some (.cells #[.slice xa xn xc, .slice ca cn cc] 61 (0, 0)))
  case atStart =>
    have hc2 : Ch [] w ((w.alloc (.cells #[.string nm, .int .i64 kd, .slice (some ⟨pb, po, none⟩) ps.length pc, .int .i64 cm] 53)).alloc (.cells #[.slice xa xn xc, .slice ca cn cc] 61)) := ((Ch.refl _ w).alloc _).alloc _
    refine ⟨0, rfl, rfl, World.ownsRow_nil _ _ _ _, H.out.2.2.2.1 0 _ _ _ H0.out.2 hc2 (by simp), hc2.mono (by simp), H0.out.1, ?_⟩
    simpa using heap_alloc_same (w.alloc (.cells #[.string nm, .int .i64 kd, .slice (some ⟨pb, po, none⟩) ps.length pc, .int .i64 cm] 53)) (.cells #[.slice xa xn xc, .slice ca cn cc] 61)
  case round =>
    obtain ⟨m, hkm, rfl, hown, hTm, hch, hbd, hbh⟩ := hrel
    have hpl := H.out.2.2.2.2.2.2
    by_cases hlt : m < ps.length
    · obtain ⟨f, h, hj⟩ : ∃ f h, ps[m]? = some (f, h) := ⟨_, _, List.getElem?_eq_getElem hlt⟩
      have hpc := (H.out.1.ch hch H.out.2.1) m f h hj
      have p0 := hpc.1
      have p1 := hpc.2
      have j0 : (m : Int) < (ps.length : Int) := by omega
      have d0 := (cell_of (i := 0) hbd).trans rfl
      have d1 := (cell_of (i := 1) hbd).trans rfl
      have d2 := (cell_of (i := 2) hbd).trans rfl
      have d3 := (cell_of (i := 3) hbd).trans rfl
      have e0 := (cell_of (i := 0) hbh).trans rfl
      have e1 := (cell_of (i := 1) hbh).trans rfl
      have z0 := lt_of_block hbd
      have z1 := lt_of_block hbh
      have hsz := hch.size
      have HPa := Lib.hid (HP.out m f h (wr.alloc (.cells #[.int .i64 f, .int .i64 h] 66)) hj (hch.alloc _) (H.out.2.2.2.1 m _ _ _ hTm ((Ch.refl [] wr).alloc _) (by simp)))
      have HM := Lib.hid (And.intro hkm (And.intro hown (And.intro hch (And.intro hbd (And.intro hbh hj)))))
      clear hkm hown hTm hch hbd hbh hj hpc
      go_wp2_with fail
      refine HPa.out.mono ?_
      rintro e w2 ⟨v, er, rfl, hc2, hcase⟩
      have hc3 : Ch S wr w2 := ((Ch.refl S wr).alloc _).trans hc2
      rcases hcase with ⟨rfl, hv, hT2⟩ | ⟨t, x, rfl, hF2⟩
      · have hown2 := own_kept hc3 HM.out.2.1 (fun g hg hx => by have := (own_base HM.out.2.1 hg).1; have := H.out.2.2.1 _ hx; omega)
        have HN := Lib.hid (And.intro hc3 (And.intro hv (And.intro hT2 hown2)))
        have hn4 := heap_alloc_same (w2.alloc (.cells (V.arr v) 38)) (.cells (V.arr v) 38)
        have es : (w2.alloc (.cells (V.arr v) 38)).heap.size = w2.heap.size + 1 := by simp
        rw [es] at hn4
        have H4 := Lib.hid hn4
        have HOW := Lib.hid ((hown2.alloc (.cells (V.arr v) 38)).alloc (.cells (V.arr v) 38))
        clear hc2 hc3 hv hT2 hown2 hn4 es HPa d0 d1 d2 d3 e0 e1 p0 p1
        unfold V.arr at *
        go_wp2_with (at_builtin; refine wpList_append_own _ rfl _ _ 39 rfl w.heap.size 38 i0 _ 4 40 Tryd.underlying39 hi hz0 hz1 hz2 rfl (by decide) _ _ _ rfl HOW.out ⟨w2.heap.size + 1, 0, none⟩ 1 1 [.int .i64 v.k, .int .i64 v.i, .string v.s, .float .f64 v.f] rfl rfl ?c1 ?c2 ?c3 ?c4 ?c5 ?_)
        case c1 => exact World.news_of_block (cs := #[.int .i64 v.k, .int .i64 v.i, .string v.s, .float .f64 v.f]) (t := 38) (fr := (0, 0)) H4.out
        case c2 => intro u hu; simp at hu; rcases hu with rfl | rfl | rfl | rfl <;> rfl
        case c3 => unfold maxLen; omega
        case c4 => omega
        case c5 => have := HN.out.1.size; simp; omega
        intro v' w5 hown5 hg5 _
        rw [← flat_take HN.out.2.1] at hown5
        have hb0 : ∀ k, Value.ownBlock _ = some k → w.heap.size ≤ k := fun k hk => (own_base HM.out.2.1 hk).1
        have hcA := (((Ch.refl [] w2).alloc (.cells #[.int .i64 v.k, .int .i64 v.i, .string v.s, .float .f64 v.f] 38)).alloc (.cells #[.int .i64 v.k, .int .i64 v.i, .string v.s, .float .f64 v.f] 38))
        have hcS : Ch S w w5 := (((HM.out.2.2.1.trans HN.out.1).alloc _).alloc _).grown hg5 (fun k hk => .inr (hb0 k hk))
        have hD := (heap_alloc_past (o := .cells #[.int .i64 v.k, .int .i64 v.i, .string v.s, .float .f64 v.f] 38) (heap_alloc_past (o := .cells #[.int .i64 v.k, .int .i64 v.i, .string v.s, .float .f64 v.f] 38) (HN.out.1.heap HM.out.2.2.2.1 (fun hx => by have := H.out.2.2.1 _ hx; omega))))
        have hE := (heap_alloc_past (o := .cells #[.int .i64 v.k, .int .i64 v.i, .string v.s, .float .f64 v.f] 38) (heap_alloc_past (o := .cells #[.int .i64 v.k, .int .i64 v.i, .string v.s, .float .f64 v.f] 38) (HN.out.1.heap HM.out.2.2.2.2.1 (fun hx => by have := H.out.2.2.1 _ hx; omega))))
        have hD5 := (hg5.block _ (lt_of_block hD) (fun e => own_ne HM.out.2.1 HM.out.2.2.2.1 (by decide) e.symm)).trans hD
        have hE5 := (hg5.block _ (lt_of_block hE) (fun e => own_ne HM.out.2.1 HM.out.2.2.2.2.1 (by decide) e.symm)).trans hE
        have hT5 := (H.out.2.2.2.1 (m + 1)).grown HN.out.2.2.1 hcA hg5 hb0
        have HL := Lib.hid (And.intro hown5 (And.intro hcS (And.intro hD5 (And.intro hE5 hT5))))
        clear hown5 hg5 hb0 hcA hcS hD hE hD5 hE5 hT5
        go_wp2
        go_roundg (gk - 1)
        case measure => have := HM.out.1; omega
        case rel => exact ⟨m + 1, by have := HM.out.1; omega, by go_num, HL.out.1, HL.out.2.2.2.2, HL.out.2.1, HL.out.2.2.1, HL.out.2.2.2.1⟩
      · have HN := Lib.hid (And.intro hc3 hF2)
        clear hc2 hc3 hF2 HPa
        unfold V.arr at *
        go_wp2
        go_ret2
        exact ⟨(HM.out.2.2.1.trans HN.out.1).alloc _, .inr ⟨m, t, x, hlt, rfl, H.out.2.2.2.2.1 _ _ _ _ _ HN.out.2 ((Ch.refl [] w2).alloc _)⟩⟩
    · obtain rfl : m = ps.length := by omega
      have hvs := H.out.2.2.2.2.2.1
      rw [List.take_of_length_le (by omega)] at hown
      have HN := Lib.hid (And.intro hown (And.intro hTm (And.intro hch hvs)))
      clear hkm hown hTm hch hbd hbh hvs hlt
      go_wp2
      go_ret2
      exact ⟨HN.out.2.2.1, .inl ⟨_, rfl, HN.out.2.2.2, HN.out.1, HN.out.2.1⟩⟩
end Go.Proofs.YtiekahnpnaldjaaDoor
