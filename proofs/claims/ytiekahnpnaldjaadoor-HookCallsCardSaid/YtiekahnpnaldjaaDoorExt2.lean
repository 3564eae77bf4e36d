/-
  rialtoref7.Extract: what the statements' extractors tell.
-/
import Derived.Test.YtiekahnpnaldjaaDoorExt1
import Derived.Test.YtiekahnpnaldjaaDoorHook3
namespace Go.Proofs.YtiekahnpnaldjaaDoor
open Go.RowKit

/-- What is known of the values looked at so far. -/
structure ES where
  sum : Int
  first : ByteArray
  f : Nat
  hs : Bool
  hf : Bool
  hi : Bool
  bit : Int
def ES.zero : ES := ⟨0, ⟨#[]⟩, 0, false, false, false, 0⟩
def ES.step (s : ES) (v : V) : ES :=
  { sum := if v.k = 1 then wrap64 (IntKind.u64.wrap (IntKind.u64.wrap s.sum + IntKind.u64.wrap v.i)) else s.sum
    bit := if v.k = 1 ∧ s.hi = false then bits .and .i64 v.i 1 else s.bit
    hi := if v.k = 1 then true else s.hi
    first := if v.k = 3 ∧ s.hs = false then v.s else s.first
    hs := if v.k = 3 then true else s.hs
    f := if v.k = 5 ∧ s.hf = false then v.f else s.f
    hf := if v.k = 5 then true else s.hf }
def looked (l : List V) : ES := l.foldl ES.step ES.zero
def lowOf : List V → V
  | [] => V.zero
  | v :: _ => v
/-- What the extractor with a number tells. -/
def extV (n : Int) (l : List V) : V :=
  if n = 0 then ⟨1, (looked l).sum, ⟨#[]⟩, 0⟩
  else if n = 1 then ⟨3, 0, lowS (looked l).first, 0⟩
  else if n = 2 then (if (looked l).hf then ⟨5, 0, ⟨#[]⟩, ofF (18446744073709551615 - ordF (looked l).f)⟩ else ⟨5, 0, ⟨#[]⟩, 0⟩)
  else if n = 3 then ⟨1, bits .xor .i64 l.length (looked l).bit, ⟨#[]⟩, 0⟩
  else lowOf l

theorem ordF_lt (f : Nat) (h : f < 18446744073709551616) : ordF f < 18446744073709551616 := by unfold ordF; split <;> omega
theorem step_ok {s : ES} {v : V} (hv : v.Ok) (h : s.first.size ≤ 9223372036854775807 ∧ s.f < 18446744073709551616) : (s.step v).first.size ≤ 9223372036854775807 ∧ (s.step v).f < 18446744073709551616 := by
  unfold ES.step
  simp only
  constructor
  · split
    · exact hv.s
    · exact h.1
  · split
    · exact hv.f
    · exact h.2
theorem looked_ok (l : List V) (ol : OkL l) : (looked l).first.size ≤ 9223372036854775807 ∧ (looked l).f < 18446744073709551616 := by
  unfold looked
  suffices h : ∀ (l : List V) (s : ES), OkL l → (s.first.size ≤ 9223372036854775807 ∧ s.f < 18446744073709551616) → (l.foldl ES.step s).first.size ≤ 9223372036854775807 ∧ (l.foldl ES.step s).f < 18446744073709551616 from
    h l ES.zero ol ⟨Nat.zero_le _, by simp [ES.zero]⟩
  intro l
  induction l with
  | nil => intro s _ h; exact h
  | cons v l ih => intro s ol h; exact ih _ (fun x hx => ol x (List.mem_cons_of_mem _ hx)) (step_ok (ol v (by simp)) h)

theorem looked_take {l : List V} {m : Nat} {v : V} (h : l[m]? = some v) : looked (l.take (m + 1)) = (looked (l.take m)).step v := by
  unfold looked
  rw [List.take_add_one, h, List.foldl_append]
  rfl
theorem lowOf_take {l : List V} {m : Nat} {v : V} (h : l[m]? = some v) : lowOf (l.take (m + 1)) = if m = 0 then v else lowOf (l.take m) := by
  cases l with
  | nil => simp at h
  | cons a l =>
    cases m with
    | zero => simp at h; simp [lowOf, h]
    | succ m => simp [lowOf]

/-- Behind m rounds. -/
structure Looked (w wr : World) (l : List V) (m : Nat) : Prop where
  res : wr.heap[w.heap.size]? = some (.cells (V.arr V.zero) 38 (0, 0))
  low : wr.heap[w.heap.size + 1]? = some (.cells (V.arr (lowOf (l.take m))) 38 (0, 0))
  ch : Ch [] w wr

theorem Looked.next {w wr : World} {l : List V} {m : Nat} {v : V} (h : Looked w wr l m) (hm : m ≠ 0) (e : lowOf (l.take (m + 1)) = if m = 0 then v else lowOf (l.take m)) (o : Obj) : Looked w (wr.alloc o) l (m + 1) := by
  rw [if_neg hm] at e
  exact ⟨heap_alloc_past h.res, by rw [e]; exact heap_alloc_past h.low, h.ch.alloc o⟩
theorem Looked.first {w wr : World} {l : List V} {m : Nat} {v : V} {o : Obj} (h : Looked w wr l m) (hm : m = 0) (e : lowOf (l.take (m + 1)) = if m = 0 then v else lowOf (l.take m)) :
    Looked w (((((wr.setCell ⟨w.heap.size + 1, 0, none⟩ (.int .i64 v.k)).setCell ⟨w.heap.size + 1, 1, none⟩ (.int .i64 v.i)).setCell ⟨w.heap.size + 1, 2, none⟩ (.string v.s)).setCell ⟨w.heap.size + 1, 3, none⟩ (.float .f64 v.f)).alloc o) l (m + 1) := by
  rw [if_pos hm] at e
  have h4 := set4 v h.low
  exact ⟨heap_alloc_past (h4.2.heap h.res (by simp)), by rw [e]; exact heap_alloc_past h4.1, (h.ch.trans' h4.2 (by simp)).alloc o⟩

set_option maxRecDepth 100000 in
set_option maxHeartbeats 8000000 in
theorem extract_ref (n : Int) (l : List V) (b off : Nat) (sv : Value) (w : World) (hr : VRow w b off sv l) (ol : OkL l) (hl : l.length ≤ 9223372036854775807) :
    Calls Tryd.prog 34 #[.int .i64 n, sv] w fun e w' => e = .returned (.agg (V.arr (extV n l))) ∧ Ch [] w w' := by
  obtain ⟨aa, ca, rfl, hsa⟩ := hr.shape
  have HA := Lib.hid (And.intro hr (And.intro hsa ol))
  clear hr hsa ol
  go_enter Tryd.func34, Tryd.ntmps34
  go_wp2_with fail
  go_loopg [5, 6, 8, 9, 10, 11, 12, 13] l.length (fun k s5 s6 s8 s9 s10 s11 s12 i wr => ∃ m : Nat, k + m = l.length ∧ i = .int .i64 m ∧ s5 = .int .i64 (looked (l.take m)).sum ∧ s6 = .string (looked (l.take m)).first ∧ s8 = .float .f64 (looked (l.take m)).f ∧
    s9 = .bool (looked (l.take m)).hs ∧ s10 = .bool (looked (l.take m)).hf ∧ s11 = .bool (looked (l.take m)).hi ∧ s12 = .int .i64 (looked (l.take m)).bit ∧ Looked w wr l m)
  case atStart =>
    refine ⟨0, rfl, rfl, rfl, rfl, rfl, rfl, rfl, rfl, rfl, heap_alloc_past (heap_alloc_same _ _), by simpa [V.arr, V.zero, lowOf] using heap_alloc_same (w.alloc (.cells (V.arr V.zero) 38)) (.cells (V.arr V.zero) 38), ((Ch.refl _ w).alloc _).alloc _⟩
  case round =>
    obtain ⟨m, hkm, rfl, rfl, rfl, rfl, rfl, rfl, rfl, rfl, hlk⟩ := hrel
    by_cases hlt : m < l.length
    · have hv : l[m]? = some l[m] := List.getElem?_eq_getElem hlt
      generalize l[m] = v at hv
      have hstep := looked_take hv
      have hlow := lowOf_take hv
      obtain ⟨c0, c1, c2, c3⟩ := (HA.out.1.ch0 hlk.ch).cells m v hv
      have haa := HA.out.2.1 (by intro e; rw [e] at hlt; simp at hlt)
      subst haa
      have j0 : (m : Int) < (l.length : Int) := by omega
      have z0 := lt_of_block hlk.low
      have g0 := (cell_of (i := 0) hlk.low).trans rfl
      have g1 := (cell_of (i := 1) hlk.low).trans rfl
      have g2 := (cell_of (i := 2) hlk.low).trans rfl
      have g3 := (cell_of (i := 3) hlk.low).trans rfl
      have e0 := free_of (i := 0) hlk.low
      have e1 := free_of (i := 1) hlk.low
      have e2 := free_of (i := 2) hlk.low
      have e3 := free_of (i := 3) hlk.low
      have HL := Lib.hid hlk
      have HFst := Lib.hid (fun (hm : m = 0) (o : Obj) => hlk.first (o := o) hm hlow)
      have HS := Lib.hid (And.intro hstep (And.intro hlow hkm))
      clear hlk hstep hlow hkm hv
      generalize looked (l.take m) = s at *
      obtain ⟨su, fi, ff, hs, hf, hi, bi⟩ := s
      obtain ⟨vk, vi, vs, vf⟩ := v
      simp only at *
      by_cases k1 : vk = 1
      · subst k1
        cases hi
        · by_cases hm : m = 0
          · have H0 := Lib.hid hm
            have tm : ((m : Int) == 0) = true := by rw [hm]; rfl
            clear hm
            go_wp2
            go_roundg (gk - 1)
            case measure => have := HS.out.2.2; omega
            case rel =>
              refine ⟨m + 1, by have := HS.out.2.2; omega, by go_num, ?_, ?_, ?_, ?_, ?_, ?_, ?_, HFst.out H0.out _⟩
              all_goals (rw [HS.out.1]; simp [ES.step])
          · have H0 := Lib.hid hm
            have tm : ((m : Int) == 0) = false := by rw [beq_eq_false_iff_ne]; omega
            clear hm
            go_wp2
            go_roundg (gk - 1)
            case measure => have := HS.out.2.2; omega
            case rel =>
              refine ⟨m + 1, by have := HS.out.2.2; omega, by go_num, ?_, ?_, ?_, ?_, ?_, ?_, ?_, HL.out.next H0.out HS.out.2.1 _⟩
              all_goals (rw [HS.out.1]; simp [ES.step])
        · by_cases hm : m = 0
          · have H0 := Lib.hid hm
            have tm : ((m : Int) == 0) = true := by rw [hm]; rfl
            clear hm
            go_wp2
            go_roundg (gk - 1)
            case measure => have := HS.out.2.2; omega
            case rel =>
              refine ⟨m + 1, by have := HS.out.2.2; omega, by go_num, ?_, ?_, ?_, ?_, ?_, ?_, ?_, HFst.out H0.out _⟩
              all_goals (rw [HS.out.1]; simp [ES.step])
          · have H0 := Lib.hid hm
            have tm : ((m : Int) == 0) = false := by rw [beq_eq_false_iff_ne]; omega
            clear hm
            go_wp2
            go_roundg (gk - 1)
            case measure => have := HS.out.2.2; omega
            case rel =>
              refine ⟨m + 1, by have := HS.out.2.2; omega, by go_num, ?_, ?_, ?_, ?_, ?_, ?_, ?_, HL.out.next H0.out HS.out.2.1 _⟩
              all_goals (rw [HS.out.1]; simp [ES.step])
      by_cases k3 : vk = 3
      · subst k3
        cases hs
        · by_cases hm : m = 0
          · have H0 := Lib.hid hm
            have tm : ((m : Int) == 0) = true := by rw [hm]; rfl
            clear hm
            go_wp2
            go_roundg (gk - 1)
            case measure => have := HS.out.2.2; omega
            case rel =>
              refine ⟨m + 1, by have := HS.out.2.2; omega, by go_num, ?_, ?_, ?_, ?_, ?_, ?_, ?_, HFst.out H0.out _⟩
              all_goals (rw [HS.out.1]; simp [ES.step])
          · have H0 := Lib.hid hm
            have tm : ((m : Int) == 0) = false := by rw [beq_eq_false_iff_ne]; omega
            clear hm
            go_wp2
            go_roundg (gk - 1)
            case measure => have := HS.out.2.2; omega
            case rel =>
              refine ⟨m + 1, by have := HS.out.2.2; omega, by go_num, ?_, ?_, ?_, ?_, ?_, ?_, ?_, HL.out.next H0.out HS.out.2.1 _⟩
              all_goals (rw [HS.out.1]; simp [ES.step])
        · by_cases hm : m = 0
          · have H0 := Lib.hid hm
            have tm : ((m : Int) == 0) = true := by rw [hm]; rfl
            clear hm
            go_wp2
            go_roundg (gk - 1)
            case measure => have := HS.out.2.2; omega
            case rel =>
              refine ⟨m + 1, by have := HS.out.2.2; omega, by go_num, ?_, ?_, ?_, ?_, ?_, ?_, ?_, HFst.out H0.out _⟩
              all_goals (rw [HS.out.1]; simp [ES.step])
          · have H0 := Lib.hid hm
            have tm : ((m : Int) == 0) = false := by rw [beq_eq_false_iff_ne]; omega
            clear hm
            go_wp2
            go_roundg (gk - 1)
            case measure => have := HS.out.2.2; omega
            case rel =>
              refine ⟨m + 1, by have := HS.out.2.2; omega, by go_num, ?_, ?_, ?_, ?_, ?_, ?_, ?_, HL.out.next H0.out HS.out.2.1 _⟩
              all_goals (rw [HS.out.1]; simp [ES.step])
      by_cases k5 : vk = 5
      · subst k5
        cases hf
        · by_cases hm : m = 0
          · have H0 := Lib.hid hm
            have tm : ((m : Int) == 0) = true := by rw [hm]; rfl
            clear hm
            go_wp2
            go_roundg (gk - 1)
            case measure => have := HS.out.2.2; omega
            case rel =>
              refine ⟨m + 1, by have := HS.out.2.2; omega, by go_num, ?_, ?_, ?_, ?_, ?_, ?_, ?_, HFst.out H0.out _⟩
              all_goals (rw [HS.out.1]; simp [ES.step])
          · have H0 := Lib.hid hm
            have tm : ((m : Int) == 0) = false := by rw [beq_eq_false_iff_ne]; omega
            clear hm
            go_wp2
            go_roundg (gk - 1)
            case measure => have := HS.out.2.2; omega
            case rel =>
              refine ⟨m + 1, by have := HS.out.2.2; omega, by go_num, ?_, ?_, ?_, ?_, ?_, ?_, ?_, HL.out.next H0.out HS.out.2.1 _⟩
              all_goals (rw [HS.out.1]; simp [ES.step])
        · by_cases hm : m = 0
          · have H0 := Lib.hid hm
            have tm : ((m : Int) == 0) = true := by rw [hm]; rfl
            clear hm
            go_wp2
            go_roundg (gk - 1)
            case measure => have := HS.out.2.2; omega
            case rel =>
              refine ⟨m + 1, by have := HS.out.2.2; omega, by go_num, ?_, ?_, ?_, ?_, ?_, ?_, ?_, HFst.out H0.out _⟩
              all_goals (rw [HS.out.1]; simp [ES.step])
          · have H0 := Lib.hid hm
            have tm : ((m : Int) == 0) = false := by rw [beq_eq_false_iff_ne]; omega
            clear hm
            go_wp2
            go_roundg (gk - 1)
            case measure => have := HS.out.2.2; omega
            case rel =>
              refine ⟨m + 1, by have := HS.out.2.2; omega, by go_num, ?_, ?_, ?_, ?_, ?_, ?_, ?_, HL.out.next H0.out HS.out.2.1 _⟩
              all_goals (rw [HS.out.1]; simp [ES.step])
      have t1 : (vk == 1) = false := by rw [beq_eq_false_iff_ne]; exact k1
      have t3 : (vk == 3) = false := by rw [beq_eq_false_iff_ne]; exact k3
      have t5 : (vk == 5) = false := by rw [beq_eq_false_iff_ne]; exact k5
      have K1 := Lib.hid k1
      have K3 := Lib.hid k3
      have K5 := Lib.hid k5
      clear k1 k3 k5
      by_cases hm : m = 0
      · have H0 := Lib.hid hm
        have tm : ((m : Int) == 0) = true := by rw [hm]; rfl
        clear hm
        go_wp2
        go_roundg (gk - 1)
        case measure => have := HS.out.2.2; omega
        case rel =>
          refine ⟨m + 1, by have := HS.out.2.2; omega, by go_num, ?_, ?_, ?_, ?_, ?_, ?_, ?_, HFst.out H0.out _⟩
          all_goals (rw [HS.out.1]; simp [ES.step, K1.out, K3.out, K5.out])
      · have H0 := Lib.hid hm
        have tm : ((m : Int) == 0) = false := by rw [beq_eq_false_iff_ne]; omega
        clear hm
        go_wp2
        go_roundg (gk - 1)
        case measure => have := HS.out.2.2; omega
        case rel =>
          refine ⟨m + 1, by have := HS.out.2.2; omega, by go_num, ?_, ?_, ?_, ?_, ?_, ?_, ?_, HL.out.next H0.out HS.out.2.1 _⟩
          all_goals (rw [HS.out.1]; simp [ES.step, K1.out, K3.out, K5.out])
    · obtain rfl : m = l.length := by omega
      rw [List.take_length]
      have hbd := looked_ok l HA.out.2.2
      have ez := hlk.low
      rw [List.take_length] at ez
      have g0 := (cell_of (i := 0) ez).trans rfl
      have g1 := (cell_of (i := 1) ez).trans rfl
      have g2 := (cell_of (i := 2) ez).trans rfl
      have g3 := (cell_of (i := 3) ez).trans rfl
      have z1 := lt_of_block ez
      have t0 := (cell_of (i := 0) hlk.res).trans rfl
      have t1 := (cell_of (i := 1) hlk.res).trans rfl
      have t2 := (cell_of (i := 2) hlk.res).trans rfl
      have t3 := (cell_of (i := 3) hlk.res).trans rfl
      have f0 := free_of (i := 0) hlk.res
      have f1 := free_of (i := 1) hlk.res
      have f2 := free_of (i := 2) hlk.res
      have f3 := free_of (i := 3) hlk.res
      have z0 := lt_of_block hlk.res
      have HL := Lib.hid hlk
      have HE := Lib.hid (show extV n l = extV n l from rfl)
      clear hlk ez hkm hlt
      by_cases n0 : n = 0
      · subst n0
        have HX := Lib.hid (set4 (⟨1, (looked l).sum, ⟨#[]⟩, 0⟩ : V) HL.out.res)
        go_wp2
        try simp only [Exit.inBlock, Exit.then]
        refine bodyPost_ret (results_cell_row rfl _ _ _ _ _ _ _ rfl HX.out.1 Tryd.underlying38 rfl (by kernel_rfl)) rfl ⟨rfl, HL.out.ch.trans' HX.out.2 (by simp)⟩
      by_cases n1 : n = 1
      · subst n1
        have HW := Lib.hid (fun W => lower_any (looked l).first W hbd.1)
        go_wp2_with (go_at_call 67; refine (HW.out _).mono ?_)
        rintro e w1 rfl hc
        have hres := hc.heap HL.out.res (by simp)
        have HX := Lib.hid (set4 (⟨3, 0, lowS (looked l).first, 0⟩ : V) hres)
        clear t0 t1 t2 t3 f0 f1 f2 f3 z0 z1 g0 g1 g2 g3
        have t0 := (cell_of (i := 0) hres).trans rfl
        have t1 := (cell_of (i := 1) hres).trans rfl
        have t2 := (cell_of (i := 2) hres).trans rfl
        have t3 := (cell_of (i := 3) hres).trans rfl
        have f0 := free_of (i := 0) hres
        have f1 := free_of (i := 1) hres
        have f2 := free_of (i := 2) hres
        have f3 := free_of (i := 3) hres
        have z0 := lt_of_block hres
        have HC := Lib.hid hc
        clear hc hres
        go_wp2
        try simp only [Exit.inBlock, Exit.then]
        refine bodyPost_ret (results_cell_row rfl _ _ _ _ _ _ _ rfl HX.out.1 Tryd.underlying38 rfl (by kernel_rfl)) rfl ⟨rfl, (HL.out.ch.trans HC.out).trans' HX.out.2 (by simp)⟩
      by_cases n2 : n = 2
      · subst n2
        rcases hh : (looked l).hf with _ | _
        · have HX := Lib.hid (set4 (⟨5, 0, ⟨#[]⟩, 0⟩ : V) HL.out.res)
          have HV := Lib.hid (show extV 2 l = ⟨5, 0, ⟨#[]⟩, 0⟩ by simp [extV, hh])
          go_wp2
          try simp only [Exit.inBlock, Exit.then]
          refine bodyPost_ret (results_cell_row rfl _ _ _ _ _ _ _ rfl HX.out.1 Tryd.underlying38 rfl (by kernel_rfl)) rfl ⟨by rw [HV.out], HL.out.ch.trans' HX.out.2 (by simp)⟩
        · have hof := ordF_lt (looked l).f hbd.2
          obtain ⟨g, hg, hgl, hV⟩ : ∃ g, bits .xor .u64 IntKind.u64.max (ordF (looked l).f : Int) = (g : Nat) ∧ g < 18446744073709551616 ∧ extV 2 l = ⟨5, 0, ⟨#[]⟩, ofF g⟩ :=
            ⟨_, xor_ones (ordF (looked l).f) hof, by omega, by simp [extV, hh]⟩
          have H1 := Lib.hid (fun W => order1_any (looked l).f W hbd.2)
          have H2 := Lib.hid (fun W => of1_any g W hgl)
          have HX := Lib.hid (set4 (⟨5, 0, ⟨#[]⟩, ofF g⟩ : V) HL.out.res)
          have hg2 : bits .xor .u64 (if IntKind.u64.signed = true then -1 else IntKind.u64.max) (ordF (looked l).f : Int) = (g : Nat) := hg
          have HV := Lib.hid hV
          clear hof hgl hV hbd
          go_wp2_with (first | (go_at_call 69; refine (H1.out _).mono ?_; rintro e w1 ⟨rfl, rfl⟩) | (go_at_call 68; (try rw [hg2]); refine (H2.out _).mono ?_; rintro e w1 ⟨rfl, rfl⟩))
          try simp only [Exit.inBlock, Exit.then]
          refine bodyPost_ret (results_cell_row rfl _ _ _ _ _ _ _ rfl HX.out.1 Tryd.underlying38 rfl (by kernel_rfl)) rfl ⟨by rw [HV.out], HL.out.ch.trans' HX.out.2 (by simp)⟩
      by_cases n3 : n = 3
      · subst n3
        have HX := Lib.hid (set4 (⟨1, bits .xor .i64 l.length (looked l).bit, ⟨#[]⟩, 0⟩ : V) HL.out.res)
        go_wp2
        try simp only [Exit.inBlock, Exit.then]
        refine bodyPost_ret (results_cell_row rfl _ _ _ _ _ _ _ rfl HX.out.1 Tryd.underlying38 rfl (by kernel_rfl)) rfl ⟨rfl, HL.out.ch.trans' HX.out.2 (by simp)⟩
      have s0 : (n == 0) = false := by rw [beq_eq_false_iff_ne]; exact n0
      have s1 : (n == 1) = false := by rw [beq_eq_false_iff_ne]; exact n1
      have s2 : (n == 2) = false := by rw [beq_eq_false_iff_ne]; exact n2
      have s3 : (n == 3) = false := by rw [beq_eq_false_iff_ne]; exact n3
      have HX := Lib.hid (set4 (lowOf l) HL.out.res)
      have HV := Lib.hid (show extV n l = lowOf l by simp [extV, n0, n1, n2, n3])
      clear n0 n1 n2 n3
      go_wp2
      try simp only [Exit.inBlock, Exit.then]
      refine bodyPost_ret (results_cell_row rfl _ _ _ _ _ _ _ rfl HX.out.1 Tryd.underlying38 rfl (by kernel_rfl)) rfl ⟨by rw [HV.out], HL.out.ch.trans' HX.out.2 (by simp)⟩
end Go.Proofs.YtiekahnpnaldjaaDoor
