/-
  UndoDoes: the walk.
-/
import Derived.Test.YtiekahnpnaldjaaDoorUndo6
import Derived.Test.YtiekahnpnaldjaaDoorErr4
namespace Go.Proofs.YtiekahnpnaldjaaDoor
open Go.RowKit

theorem i64_and3 (n : Int) : bits .and .i64 n 3 = n % 4 := by
  have h3 : (BitVec.ofInt 64 3).toNat = 2 ^ 2 - 1 := by decide
  have key : (BitVec.ofInt 64 n &&& BitVec.ofInt 64 3).toNat = (n % ((2 ^ 64 : Nat) : Int)).toNat % 2 ^ 2 := by
    rw [BitVec.toNat_and, BitVec.toNat_ofInt, h3, Nat.and_two_pow_sub_one_eq_mod]
  show IntKind.i64.wrap ((BitVec.ofInt 64 n &&& BitVec.ofInt 64 3).toNat : Nat) = n % 4
  rw [key, IntKind.wrap_i64]
  omega

/-- The first backs: none of them is ever called. -/
def firstFn (gb : Nat) : Value := .func (.func 13) #[] #[.pointer (some ⟨gb, 0, none⟩)]

/-- The world when the loop begins, from w1 on: the log, its box, b's box, the box of what was got. -/
abbrev w4 (b : Nat) (w1 : World) : World :=
  (((w1.alloc (.cells #[.slice none 0 0] 96)).alloc (.cells #[.pointer (some ⟨w1.heap.size, 0, none⟩)] 23)).alloc (.cells #[.int .i64 b] 3)).alloc (.cells #[.slice none 0 0] 25)

theorem w4_facts (b : Nat) (w1 : World) : (w4 b w1).heap[w1.heap.size]? = some (.cells #[.slice none 0 0] 96 (0, 0)) ∧ (w4 b w1).heap[w1.heap.size + 1]? = some (.cells #[.pointer (some ⟨w1.heap.size, 0, none⟩)] 23 (0, 0)) ∧
    (w4 b w1).heap[w1.heap.size + 1 + 1]? = some (.cells #[.int .i64 b] 3 (0, 0)) ∧ (w4 b w1).heap[w1.heap.size + 1 + 1 + 1]? = some (.cells #[.slice none 0 0] 25 (0, 0)) := by
  refine ⟨heap_alloc_past (heap_alloc_past (heap_alloc_past (heap_alloc_same _ _))), heap_alloc_past (heap_alloc_past ?_), heap_alloc_past ?_, ?_⟩
  · simpa using heap_alloc_same (w1.alloc (.cells #[.slice none 0 0] 96)) (.cells #[.pointer (some ⟨w1.heap.size, 0, none⟩)] 23)
  · simpa using heap_alloc_same ((w1.alloc (.cells #[.slice none 0 0] 96)).alloc (.cells #[.pointer (some ⟨w1.heap.size, 0, none⟩)] 23)) (.cells #[.int .i64 b] 3)
  · simpa using heap_alloc_same (((w1.alloc (.cells #[.slice none 0 0] 96)).alloc (.cells #[.pointer (some ⟨w1.heap.size, 0, none⟩)] 23)).alloc (.cells #[.int .i64 b] 3)) (.cells #[.slice none 0 0] 25)

/-- What holds when j of the first backs were added. -/
structure First (D : Nat) (b j : Nat) (w1 wr : World) : Prop where
  log : ∃ sv, LogAt D wr w1.heap.size sv (List.replicate j (firstFn (w1.heap.size + 1 + 1 + 1)))
  fr : Fr D logKinds (w4 b w1) wr

theorem First.ready {D b j hb : Nat} {how : Int} {w1 wr : World} (h : First D b j w1 wr) (hD : D ≤ w1.heap.size) (hb10 : b < 10) (hj : j < 10) (hh : w1.heap[hb]? = some (.cells #[.int .i64 how] 3 (0, 0))) :
    ∃ sv, Ready D wr (w1.heap.size + 1 + 1) (w1.heap.size + 1) (w1.heap.size + 1 + 1 + 1) hb w1.heap.size b how sv (List.replicate j (firstFn (w1.heap.size + 1 + 1 + 1))) := by
  obtain ⟨⟨sv, hl⟩, hf⟩ := h
  obtain ⟨_, f2, f3, f4⟩ := w4_facts b w1
  have hs := hf.size
  simp at hs
  exact ⟨sv, ⟨hf.heap f3 (by simp [logKinds]), hf.heap f2 (by simp [logKinds]), hf.heap (heap_alloc_past (heap_alloc_past (heap_alloc_past (heap_alloc_past hh)))) (by simp [logKinds])⟩, hl, hf.heap f4 (by simp [logKinds]), hD, by omega, by omega, hb10, by simp; omega⟩

set_option maxRecDepth 100000 in
set_option maxHeartbeats 4000000 in
theorem undoDoes_any (ahead adds how : Int) (w : World) (ha0 : 0 ≤ ahead) (ha1 : ahead ≤ 255) (hb0 : 0 ≤ adds) (hb1 : adds ≤ 255) (hh0 : -9223372036854775808 ≤ how) (hh1 : how ≤ 9223372036854775807) (hg : Glob w) :
    Calls Tryd.prog 3 #[.int .u8 ahead, .int .u8 adds, .int .i64 how] w fun e w' => e = .returned (.bool true) ∧ Below w.heap.size w w' := by
  obtain ⟨a, ha⟩ : ∃ a : Nat, ahead % 10 = a := ⟨(ahead % 10).toNat, by omega⟩
  obtain ⟨b, hb⟩ : ∃ b : Nat, adds % 10 = b := ⟨(adds % 10).toNat, by omega⟩
  have ha10 : a < 10 := by omega
  have hb10 : b < 10 := by omega
  have hg0 := hg.lt
  have HG := Lib.hid (hg.alloc (.cells #[.int .i64 how] 3))
  clear hg
  go_enter Tryd.func3, Tryd.ntmps3
  go_wp2_with (first | (go_at_call 10; refine (known_any _).mono ?_))
  rintro e w1 ⟨rfl, hk⟩
  have z1 := hk.size
  simp at z1
  have HK := Lib.hid hk
  clear hk
  go_wp2_with (first | (go_at_call 11; refine (new_any _).mono ?_; rintro e w' ⟨rfl, rfl⟩))
  have HAB := Lib.hid (And.intro ha hb)
  clear ha hb ha0 ha1 hb0 hb1 hh0 hh1
  go_loopg [11] a (fun k i wr => ∃ j : Nat, k + j = a ∧ i = .int .i64 j ∧ First w.heap.size b j w1 wr)
  case atStart => exact ⟨0, rfl, rfl, ⟨_, (w4_facts b w1).1, World.ownsRow_nil _ _ _ _⟩, Fr.refl _ _ _⟩
  case round =>
    obtain ⟨j, hkj, rfl, hfi⟩ := hrel
    have hhb : w1.heap[w.heap.size]? = some (.cells #[.int .i64 how] 3 (0, 0)) := (HK.out.block w.heap.size (by simp)).trans (heap_alloc_same _ _)
    obtain ⟨sv, hrd⟩ := hfi.ready (hb := w.heap.size) (how := how) (by omega) hb10 (by omega) hhb
    have c2 := cell_of_one hrd.caps.l
    have hwr : Below w.heap.size w wr := (((Below.refl _ w).alloc (Nat.le_refl _) _).trans (HK.out.mono (by simp))).trans (((Fr.refl w.heap.size logKinds w1).alloc (by omega) _ |>.alloc (by simp; omega) _ |>.alloc (by simp; omega) _ |>.alloc (by simp; omega) _).trans hfi.fr).to_below
    have HWR := Lib.hid hwr
    clear hwr
    by_cases hlt : j < a
    · have H1 := Lib.hid (add_any w.heap.size wr w1.heap.size (.func 13) #[] #[.pointer (some ⟨w1.heap.size + 1 + 1 + 1, 0, none⟩)] sv _ (by simp; omega) hrd.D hrd.lD hrd.log)
      have HF := Lib.hid hfi
      have HJ := Lib.hid hkj
      clear hfi hrd hkj hhb
      go_wp2_with fail
      refine H1.out.mono ?_
      rintro e w2 ⟨rfl, sv2, hl2, hfr2⟩
      have hfi2 : First w.heap.size b (j + 1) w1 w2 := ⟨⟨sv2, by rw [List.replicate_succ']; exact hl2⟩, HF.out.fr.trans hfr2⟩
      clear HF hl2 hfr2 H1 c2
      go_wp2
      go_roundg (gk - 1)
      case measure => have := HJ.out; omega
      case rel => exact ⟨j + 1, by have := HJ.out; omega, by go_num, hfi2⟩
    · obtain rfl : j = a := by omega
      have H1 := Lib.hid (does_any w.heap.size wr _ _ _ _ _ b how sv _ hrd)
      unfold withinFn at H1
      have HR := Lib.hid hrd
      have HF := Lib.hid hfi
      clear hfi hrd hkj hhb hlt
      go_wp2_with fail
      refine H1.out.mono ?_
      rintro e w2 hdid
      clear H1
      rcases hdid with ⟨hw, rfl, hkept⟩ | ⟨hw, rfl, hun⟩ | ⟨hw, rfl, hun⟩
      · obtain ⟨⟨sv', fs', hl', hlen'⟩, hgot', hfr'⟩ := hkept
        have hlow : bits .and .i64 how 3 ≠ 1 ∧ bits .and .i64 how 3 ≠ 2 := by
          unfold within at hw
          split at hw
          · simp at hw
          · split at hw
            · simp at hw
            · exact ⟨by assumption, by assumption⟩
        have cap' := HR.out.caps.fr hfr'
        have d1 := cell_of_one cap'.h
        have d2 := cell_of_one cap'.l
        have d3 := cell_of_one cap'.b
        have d4 := cell_of_one hgot'
        have hlen2 : (fs'.length : Int) = (j : Int) + b := by rw [hlen']; simp
        have HL : Hid (∀ n : Nat, Calls Tryd.prog 17 #[.pointer (some ⟨w1.heap.size, 0, none⟩)] (w2.drewN n) fun e w' => e = .returned (.int .i64 ((j : Int) + b)) ∧ w' = w2.drewN n) := by
          intro n
          refine (len_any w.heap.size (w2.drewN n) w1.heap.size sv' fs' ⟨hl'.blk, hl'.own⟩).mono ?_
          rintro e w' ⟨rfl, rfl⟩
          exact ⟨by rw [hlen2], rfl⟩
        have hsum : IntKind.i64.wrap ((j : Int) + b) = (j : Int) + b := IntWalk.i64_in _ (by omega)
        rw [i64_and3] at hlow
        have HW := Lib.hid (And.intro hlow hfr')
        clear hl' hlen' hlen2 hgot' hw hlow hfr' cap'
        have ht : how % 4 = 0 ∨ how % 4 = 3 := by have := HW.out.1; omega
        rcases ht with ht | ht
        · have t0 : (bits .and .i64 how 3 == 0) = true := by rw [i64_and3, ht]; rfl
          clear ht
          go_wp2_with fail
          go_quiet ((go_at_call 17; exact Calls.quiet_of_same (HL.out _)))
          go_wp2
          go_ret
          exact ⟨rfl, below_drewN (HWR.out.trans HW.out.2.to_below) _⟩
        · have t0 : (bits .and .i64 how 3 == 0) = false := by rw [i64_and3, ht]; rfl
          have t3 : (bits .and .i64 how 3 == 3) = true := by rw [i64_and3, ht]; rfl
          clear ht
          go_wp2_with fail
          go_quiet ((go_at_call 17; exact Calls.quiet_of_same (HL.out _)))
          go_wp2
          go_ret
          exact ⟨rfl, below_drewN (HWR.out.trans HW.out.2.to_below) _⟩
      · obtain ⟨⟨D2, gv, hgot⟩, ⟨sv', hl'⟩, hfr'⟩ := hun
        have hlow : bits .and .i64 how 3 = 1 := by
          unfold within at hw
          split at hw
          · assumption
          · split at hw <;> simp at hw
        have cap' : Caps w2 (w1.heap.size + 1 + 1) (w1.heap.size + 1) w.heap.size w1.heap.size b how :=
          ⟨hfr'.heap HR.out.caps.b (by simp [backKinds, logKinds]), hfr'.heap HR.out.caps.l (by simp [backKinds, logKinds]), hfr'.heap HR.out.caps.h (by simp [backKinds, logKinds])⟩
        have hbel2 := HWR.out.trans hfr'.to_below
        have t0 : (bits .and .i64 how 3 == 0) = false := by rw [hlow]; rfl
        have t3 : (bits .and .i64 how 3 == 3) = false := by rw [hlow]; rfl
        have t1 : (bits .and .i64 how 3 == 1) = true := by rw [hlow]; rfl
        have t2 : (bits .and .i64 how 3 == 2) = false := by rw [hlow]; rfl
        have hG2 : Glob w2 := (HG.out.below (B := w.heap.size) ((HK.out.mono (by simp)).trans (((Fr.refl w.heap.size logKinds w1).alloc (by omega) _ |>.alloc (by simp; omega) _ |>.alloc (by simp; omega) _ |>.alloc (by simp; omega) _).trans HF.out.fr).to_below |>.trans hfr'.to_below) hg0)
        have d1 := cell_of_one cap'.h
        have HC := Lib.hid (And.intro hgot (And.intro hl' (And.intro cap' hbel2)))
        have HG2 := Lib.hid hG2
        clear hgot hl' hfr' hlow hw cap' hbel2 hG2 HR HF
        go_wp2_with (go_at_call 18; refine (class_errno 70 w2 HG2.out).mono ?_)
        rintro e w3 ⟨rfl, hc3⟩
        have r3 := hc3.rules0
        obtain ⟨r3a, _⟩ := r3
        have zz := lt_of_block HC.out.2.2.1.h
        have H3 := Lib.hid hc3
        clear hc3
        go_wp2_with fail
        have cap := (⟨H3.out.heap HC.out.2.2.1.b (by simp), H3.out.heap HC.out.2.2.1.l (by simp), H3.out.heap HC.out.2.2.1.h (by simp)⟩ : Caps w3 (w1.heap.size + 1 + 1) (w1.heap.size + 1) w.heap.size w1.heap.size b how)
        have gG := (⟨H3.out.heap HC.out.1.blk (by simp), own_kept H3.out HC.out.1.own (by simp)⟩ : GotAt D2 w3 (w1.heap.size + 1 + 1 + 1) gv (downTo b b))
        have gL := (⟨H3.out.heap HC.out.2.1.blk (by simp), own_kept H3.out HC.out.2.1.own (by simp)⟩ : LogAt w.heap.size w3 w1.heap.size sv' _)
        have hB := HC.out.2.2.2.trans ((Ch.below H3.out).mono (by have := HC.out.2.2.2.size; omega))
        obtain ⟨ga, gc, rfl⟩ : ∃ ga gc, gv = .slice ga b gc := by
          have h0 := gG.own
          rw [downTo_len] at h0
          rcases h0.2 with ⟨h1, h2⟩ | ⟨g, c, _, h1, _⟩
          · exact ⟨_, _, by rw [h2]; exact h1⟩
          · exact ⟨_, _, h1⟩
        have hel : ∀ m, m < b → ∃ g, ga = some ⟨g, 0, none⟩ ∧ w3.cell? ⟨g, m, none⟩ = some (.int .i64 ((b : Int) - 1 - m)) := by
          intro m hm
          have hu : (downTo b b)[m]? = some (.int .i64 ((b : Int) - 1 - m)) := by simp [downTo, hm]
          obtain ⟨g, cap0, cur, h1, h2, _, _, _, h3⟩ := cell_own gG.own hu
          simp at h1
          exact ⟨g, h1.1, (cell_of h2).trans h3⟩
        have e1 := cell_of_one cap.b
        have e2 := cell_of_one cap.l
        have e3 := cell_of_one gG.blk
        have HL : Hid (∀ n : Nat, Calls Tryd.prog 17 #[.pointer (some ⟨w1.heap.size, 0, none⟩)] (w3.drewN n) fun e w' => e = .returned (.int .i64 j) ∧ w3.drewN n = w') := by
          intro n
          refine (len_any w.heap.size (w3.drewN n) w1.heap.size sv' _ ⟨gL.blk, gL.own⟩).mono ?_
          rintro e w' ⟨rfl, rfl⟩
          exact ⟨by simp, rfl⟩
        have HE := Lib.hid hel
        have HBel := Lib.hid hB
        clear hel hB gG gL cap d1 HC HG2 t0 t1 t2 t3 c2 H3 r3a
        go_loopg [14] b (fun k i wr3 => ∃ m n : Nat, k + m = b ∧ i = .int .i64 m ∧ wr3 = w3.drewN n)
        case atStart => exact ⟨0, 0, by omega, rfl, rfl⟩
        case round =>
          obtain ⟨m, n, hkm, rfl, rfl⟩ := hrel
          by_cases hlt : m < b
          · obtain ⟨g, rfl, hcell⟩ := HE.out m hlt
            have hlt' : (m : Int) < (b : Int) := by omega
            have hge : (0 : Int) ≤ (m : Int) := by omega
            have hs1 : IntKind.i64.wrap ((b : Int) - 1) = (b : Int) - 1 := IntWalk.i64_in _ (by omega)
            have hs2 : IntKind.i64.wrap ((b : Int) - 1 - (m : Int)) = (b : Int) - 1 - m := IntWalk.i64_in _ (by omega)
            have HM := Lib.hid hkm
            clear hkm
            go_wp2_with fail
            go_quiet (fail)
            clear hs1 hs2
            go_wp2
            go_roundg (gk - 1)
            case measure => have := HM.out; omega
            case rel => exact ⟨m + 1, _, by have := HM.out; omega, by go_num, rfl⟩
          · obtain rfl : m = b := by omega
            clear hkm hlt
            go_wp2_with (go_at_call 17; refine (HL.out _).mono ?_; rintro e w' ⟨rfl, rfl⟩)
            go_ret
            exact ⟨rfl, below_drewN HBel.out _⟩
      · obtain ⟨⟨D2, gv, hgot⟩, ⟨sv', hl'⟩, hfr'⟩ := hun
        have hlow : bits .and .i64 how 3 = 2 := by
          unfold within at hw
          split at hw
          · simp at hw
          · split at hw
            · assumption
            · simp at hw
        have cap' : Caps w2 (w1.heap.size + 1 + 1) (w1.heap.size + 1) w.heap.size w1.heap.size b how :=
          ⟨hfr'.heap HR.out.caps.b (by simp [backKinds, logKinds]), hfr'.heap HR.out.caps.l (by simp [backKinds, logKinds]), hfr'.heap HR.out.caps.h (by simp [backKinds, logKinds])⟩
        have hbel2 := HWR.out.trans hfr'.to_below
        have t0 : (bits .and .i64 how 3 == 0) = false := by rw [hlow]; rfl
        have t3 : (bits .and .i64 how 3 == 3) = false := by rw [hlow]; rfl
        have t1 : (bits .and .i64 how 3 == 1) = false := by rw [hlow]; rfl
        have t2 : (bits .and .i64 how 3 == 2) = true := by rw [hlow]; rfl
        have hG2 : Glob w2 := (HG.out.below (B := w.heap.size) ((HK.out.mono (by simp)).trans (((Fr.refl w.heap.size logKinds w1).alloc (by omega) _ |>.alloc (by simp; omega) _ |>.alloc (by simp; omega) _ |>.alloc (by simp; omega) _).trans HF.out.fr).to_below |>.trans hfr'.to_below) hg0)
        have d1 := cell_of_one cap'.h
        have HC := Lib.hid (And.intro hgot (And.intro hl' (And.intro cap' hbel2)))
        have HG2 := Lib.hid hG2
        clear hgot hl' hfr' hlow hw cap' hbel2 hG2 HR HF
        go_wp2_with fail
        have cap := HC.out.2.2.1
        have gG := HC.out.1
        have gL := HC.out.2.1
        have hB := HC.out.2.2.2
        obtain ⟨ga, gc, rfl⟩ : ∃ ga gc, gv = .slice ga b gc := by
          have h0 := gG.own
          rw [downTo_len] at h0
          rcases h0.2 with ⟨h1, h2⟩ | ⟨g, c, _, h1, _⟩
          · exact ⟨_, _, by rw [h2]; exact h1⟩
          · exact ⟨_, _, h1⟩
        have hel : ∀ m, m < b → ∃ g, ga = some ⟨g, 0, none⟩ ∧ w2.cell? ⟨g, m, none⟩ = some (.int .i64 ((b : Int) - 1 - m)) := by
          intro m hm
          have hu : (downTo b b)[m]? = some (.int .i64 ((b : Int) - 1 - m)) := by simp [downTo, hm]
          obtain ⟨g, cap0, cur, h1, h2, _, _, _, h3⟩ := cell_own gG.own hu
          simp at h1
          exact ⟨g, h1.1, (cell_of h2).trans h3⟩
        have e1 := cell_of_one cap.b
        have e2 := cell_of_one cap.l
        have e3 := cell_of_one gG.blk
        have HL : Hid (∀ n : Nat, Calls Tryd.prog 17 #[.pointer (some ⟨w1.heap.size, 0, none⟩)] (w2.drewN n) fun e w' => e = .returned (.int .i64 j) ∧ w2.drewN n = w') := by
          intro n
          refine (len_any w.heap.size (w2.drewN n) w1.heap.size sv' _ ⟨gL.blk, gL.own⟩).mono ?_
          rintro e w' ⟨rfl, rfl⟩
          exact ⟨by simp, rfl⟩
        have HE := Lib.hid hel
        have HBel := Lib.hid hB
        clear hel hB gG gL cap d1 HC HG2 t0 t1 t2 t3 c2 
        go_loopg [14] b (fun k i wr3 => ∃ m n : Nat, k + m = b ∧ i = .int .i64 m ∧ wr3 = w2.drewN n)
        case atStart => exact ⟨0, 0, by omega, rfl, rfl⟩
        case round =>
          obtain ⟨m, n, hkm, rfl, rfl⟩ := hrel
          by_cases hlt : m < b
          · obtain ⟨g, rfl, hcell⟩ := HE.out m hlt
            have hlt' : (m : Int) < (b : Int) := by omega
            have hge : (0 : Int) ≤ (m : Int) := by omega
            have hs1 : IntKind.i64.wrap ((b : Int) - 1) = (b : Int) - 1 := IntWalk.i64_in _ (by omega)
            have hs2 : IntKind.i64.wrap ((b : Int) - 1 - (m : Int)) = (b : Int) - 1 - m := IntWalk.i64_in _ (by omega)
            have HM := Lib.hid hkm
            clear hkm
            go_wp2_with fail
            go_quiet (fail)
            clear hs1 hs2
            go_wp2
            go_roundg (gk - 1)
            case measure => have := HM.out; omega
            case rel => exact ⟨m + 1, _, by have := HM.out; omega, by go_num, rfl⟩
          · obtain rfl : m = b := by omega
            clear hkm hlt
            go_wp2_with (go_at_call 17; refine (HL.out _).mono ?_; rintro e w' ⟨rfl, rfl⟩)
            go_ret
            exact ⟨rfl, below_drewN HBel.out _⟩
end Go.Proofs.YtiekahnpnaldjaaDoor
