/-
  The log: Do, its deferred function, and the statement's function 'does'.
-/
import Derived.Test.YtiekahnpnaldjaaDoorUndo3
namespace Go.Proofs.YtiekahnpnaldjaaDoor
open Go.RowKit

theorem do1_well (wb lbx mb : Nat) (u : FrameMode) (w : World) (hw : w.heap[wb]? = some (.cells #[.bool true] 4 (0, 0))) :
    CallsD Tryd.prog 82 #[.pointer (some ⟨wb, 0, none⟩), .pointer (some ⟨lbx, 0, none⟩), .pointer (some ⟨mb, 0, none⟩)] u w fun e u' w' => u' = u ∧ (e = .returned (.tuple #[]) ∧ w = w') := by
  have c1 := cell_of_one hw
  go_enter_d Tryd.func82, Tryd.ntmps82
  go_wp2
  refine bodyPost_ret (results_none rfl _ _ _) rfl ⟨rfl, rfl⟩

set_option maxRecDepth 100000 in
theorem do1_err (wb lbx mb lb mark : Nat) (R : World → Prop) (w : World) (hw : w.heap[wb]? = some (.cells #[.bool false] 4 (0, 0))) (hx : w.heap[lbx]? = some (.cells #[.pointer (some ⟨lb, 0, none⟩)] 23 (0, 0)))
    (hm : w.heap[mb]? = some (.cells #[.int .i64 mark] 3 (0, 0)))
    (hback : Calls Tryd.prog 51 #[.pointer (some ⟨lb, 0, none⟩), .int .i64 mark] w fun e w' => e = .returned (.bool true) ∧ R w') :
    CallsD Tryd.prog 82 #[.pointer (some ⟨wb, 0, none⟩), .pointer (some ⟨lbx, 0, none⟩), .pointer (some ⟨mb, 0, none⟩)] .returning w fun e u' w' => u' = .returning ∧ (e = .returned (.tuple #[]) ∧ R w') := by
  have c1 := cell_of_one hw
  have c2 := cell_of_one hx
  have c3 := cell_of_one hm
  refine callsD_of_wpS Tryd.func82 rfl fun c₀ cs hu => ?_
  simp only [Tryd.ntmps82, List.size_toArray, List.length_cons, List.length_nil, Nat.reduceAdd, Nat.reduceSub, Array.replicate_succ,
     Array.replicate_zero, List.push_toArray, List.append_toArray, List.nil_append, List.cons_append]
  refine wpS_seq (wpS_of_wp ?_)
  go_wp2
  simp only [Exit.thenS]
  refine wpS_seq (wpS_of_wp ?_)
  go_wp2_with (go_at_call 51; refine hback.mono ?_; rintro e w' ⟨rfl, hR⟩)
  simp only [Exit.thenS]
  refine wpS_seq (wpS_region ?_)
  simp [wpOpsS, go_sem, recoverD, hu, Exit.thenS]
  refine wpS_of_wp ?_
  go_wp2
  refine ⟨rfl, .returning, by cases c₀; simp_all, _, results_none rfl _ _ _, rfl, rfl, hR⟩

set_option maxRecDepth 100000 in
theorem do1_panic (wb lbx mb lb mark : Nat) (R : World → Prop) (t : TypeId) (pv : Value) (w : World) (hw : w.heap[wb]? = some (.cells #[.bool false] 4 (0, 0))) (hx : w.heap[lbx]? = some (.cells #[.pointer (some ⟨lb, 0, none⟩)] 23 (0, 0)))
    (hm : w.heap[mb]? = some (.cells #[.int .i64 mark] 3 (0, 0)))
    (hback : Calls Tryd.prog 51 #[.pointer (some ⟨lb, 0, none⟩), .int .i64 mark] w fun e w' => e = .returned (.bool true) ∧ R w') :
    CallsD Tryd.prog 82 #[.pointer (some ⟨wb, 0, none⟩), .pointer (some ⟨lbx, 0, none⟩), .pointer (some ⟨mb, 0, none⟩)] (.panicking [{ v := .iface t pv, recovered := false }]) w fun e u' w' =>
      u' = .panicking [{ v := .iface t pv, recovered := true }] ∧ (e = .panicked [{ v := .iface t pv, recovered := false }] ∧ R w') := by
  have c1 := cell_of_one hw
  have c2 := cell_of_one hx
  have c3 := cell_of_one hm
  refine callsD_of_wpS Tryd.func82 rfl fun c₀ cs hu => ?_
  simp only [Tryd.ntmps82, List.size_toArray, List.length_cons, List.length_nil, Nat.reduceAdd, Nat.reduceSub, Array.replicate_succ,
     Array.replicate_zero, List.push_toArray, List.append_toArray, List.nil_append, List.cons_append]
  refine wpS_seq (wpS_of_wp ?_)
  go_wp2
  simp only [Exit.thenS]
  refine wpS_seq (wpS_of_wp ?_)
  go_wp2_with (go_at_call 51; refine hback.mono ?_; rintro e w' ⟨rfl, hR⟩)
  simp only [Exit.thenS]
  refine wpS_seq (wpS_region ?_)
  simp [wpOpsS, go_sem, recoverD, hu, Exit.thenS]
  refine wpS_of_wp ?_
  go_wp2
  refine ⟨rfl, .panicking [{ v := .iface t pv, recovered := true }], rfl, rfl, rfl, hR⟩

/-! ### Back over the statement's own backs -/
def downTo (b m : Nat) : List Value := (List.range m).map fun i : Nat => .int .i64 ((b : Int) - 1 - i)
def backKinds : List (Option TypeId) := some 25 :: logKinds

/-- What is known in the midst of Back: k functions are left. -/
structure Noted (D2 lb g gb a b : Nat) (w0 : World) (k : Nat) (w : World) : Prop where
  got : ∃ gv, GotAt D2 w gb gv (downTo b (a + b - k))
  size : D2 ≤ w.heap.size
  same : ∀ c, c < D2 → c ≠ lb → c ≠ g → c ≠ gb → w.heap[c]? = w0.heap[c]?

theorem notes_get {fs : List Value} {gb : Nat} {xb : Nat → Nat} {b k : Nat} {f : Value} (hk : fs.length ≤ k) (hf : (fs ++ (List.range b).map fun i => noteFn gb (xb i))[k]? = some f) : k < fs.length + b ∧ f = noteFn gb (xb (k - fs.length)) := by
  rw [List.getElem?_append_right hk] at hf
  simp only [List.getElem?_map, List.getElem?_range', Option.map_eq_some_iff] at hf
  obtain ⟨a, ha, rfl⟩ := hf
  have h1 : k - fs.length < (List.range b).length := (List.getElem?_eq_some_iff.1 ha).1
  rw [List.getElem?_eq_getElem h1, Option.some.injEq] at ha
  simp at h1 ha
  exact ⟨by omega, by rw [ha]⟩

theorem downTo_succ (b m : Nat) (h : m < b) : downTo b (m + 1) = downTo b m ++ [.int .i64 ((b - 1 - m : Nat) : Int)] := by
  unfold downTo
  rw [List.range_succ, List.map_append]
  congr 1
  simp; omega
theorem downTo_len (b m : Nat) : (downTo b m).length = m := by simp [downTo]

theorem back_notes (D : Nat) (w : World) (lb gb a b : Nat) (xb : Nat → Nat) (sv : Value) (fs : List Value) (hl : LogAt D w lb sv (fs ++ (List.range b).map fun i => noteFn gb (xb i))) (hfs : fs.length = a) (hg : w.heap[gb]? = some (.cells #[.slice none 0 0] 25 (0, 0)))
    (hx : ∀ i, i < b → w.heap[xb i]? = some (.cells #[.int .i64 i] 2 (0, 0))) (hlD : D ≤ lb) (hgD : D ≤ gb) (hD : D ≤ w.heap.size) (ha : a < 100) (hb : b < 100) :
    Calls Tryd.prog 51 #[.pointer (some ⟨lb, 0, none⟩), .int .i64 a] w fun e w' => e = .returned (.bool true) ∧
      ((∃ gv, GotAt w.heap.size w' gb gv (downTo b b)) ∧ (∃ sv', LogAt D w' lb sv' fs) ∧ Fr D backKinds w w') := by
  have hlen : (fs ++ (List.range b).map fun i => noteFn gb (xb i)).length = a + b := by simp [hfs]
  have hgs : gb < w.heap.size := lt_of_block hg
  have hls : lb < w.heap.size := lt_of_block hl.blk
  have hlg : lb ≠ gb := ne_of_elem hl.blk hg (by decide)
  have hlx : ∀ i, i < b → lb ≠ xb i := fun i hi => ne_of_elem hl.blk (hx i hi) (by decide)
  have hgx : ∀ i, i < b → gb ≠ xb i := fun i hi => ne_of_elem hg (hx i hi) (by decide)
  have hxs : ∀ i, i < b → xb i < w.heap.size := fun i hi => lt_of_block (hx i hi)
  obtain ⟨g, hgown, q1, q2, q4, q5⟩ : ∃ g, (∀ x, sv.ownBlock = some x → x = g ∧ D ≤ x) ∧ g < w.heap.size ∧ g ≠ gb ∧ (∀ i, i < b → g ≠ xb i) ∧ (∀ o, w.heap[g]? = some o → kindOf o ∈ logKinds) ∧ D ≤ g := by
    rcases hl.own.2 with ⟨rfl, _⟩ | ⟨g', cap, cur, rfl, hDg, hh, _⟩
    · exact ⟨lb, by simp [Value.ownBlock], hls, hlg, hlx, fun o ho => by rw [hl.blk] at ho; cases ho; simp [kindOf, logKinds], hlD⟩
    · exact ⟨g', by intro x hx; simp [Value.ownBlock] at hx; subst hx; exact ⟨rfl, hDg⟩, lt_of_block hh, ne_of_elem hh hg (by decide), fun i hi => ne_of_elem hh (hx i hi) (by decide), fun o ho => by rw [hh] at ho; cases ho; simp [kindOf, logKinds], hDg⟩
  refine (back_any D w D lb g a (a + b) sv _ (Noted w.heap.size lb g gb a b w) hl hlen (by omega) (by omega) hlD hD hgown ?_ ?_ ?_).mono ?_
  · exact ⟨⟨_, hg, by rw [downTo_len]; simp [downTo]; exact World.ownsRow_nil _ _ _ _⟩, Nat.le_refl _, fun _ _ _ _ _ => rfl⟩
  · intro k W W' ⟨⟨gv, hgot, hown⟩, hsz, hsame⟩ hle hother
    refine ⟨⟨gv, (hother gb hlg.symm q2.symm).trans hgot, ?_⟩, Nat.le_trans hsz hle, fun c h1 h2 h3 h4 => (hother c h2 h3).trans (hsame c h1 h2 h3 h4)⟩
    refine ⟨hown.1, ?_⟩
    rcases hown.2 with h2 | ⟨g2, cap, cur, rfl, h3, hh, r⟩
    · exact .inl h2
    · exact .inr ⟨g2, cap, cur, rfl, h3, (hother g2 (by omega) (by omega)).trans hh, r⟩
  · intro k f hk hf
    obtain ⟨hkn, rfl⟩ := notes_get (by omega) hf
    rw [hfs] at hkn
    have hkx : k - fs.length < b := by omega
    refine ⟨_, _, rfl, fun W => by simp [go_sem], ?_⟩
    intro W ⟨⟨gv, hgot⟩, hsz, hsame⟩ hDW
    have hxW : W.heap[xb (k - fs.length)]? = some (.cells #[.int .i64 ((k - fs.length : Nat) : Int)] 2 (0, 0)) :=
      (hsame _ (hxs _ hkx) (hlx _ hkx).symm (q4 _ hkx).symm (hgx _ hkx).symm).trans (hx _ hkx)
    refine (note_any w.heap.size W gb (xb (k - fs.length)) gv _ _ hxW (by rw [downTo_len]; omega) hsz hgs hgot).mono ?_
    rintro e W' ⟨rfl, gv', hgot', hbel⟩
    refine ⟨rfl, ⟨⟨gv', ?_⟩, Nat.le_trans hsz hbel.size, fun c h1 h2 h3 h4 => (hbel.block c h1 (by simpa using h4)).trans (hsame c h1 h2 h3 h4)⟩, ?_, fun h => hbel.block lb hls (by simpa using hlg), fun h => hbel.block g q1 (by simpa using q2)⟩
    · have e1 : a + b - k = (a + b - (k + 1)) + 1 := by omega
      have e2 : b - 1 - (a + b - (k + 1)) = k - fs.length := by omega
      rw [e1, downTo_succ _ _ (by omega), e2]; exact hgot'
    · exact (hbel.mono hD (S' := []) (by intro x hx; simp at hx; subst hx; exact .inr hgD)).below
  · rintro e w' ⟨rfl, ⟨⟨gv, hgot⟩, hsz, hsame⟩, hbel, sv', hlog⟩
    refine ⟨rfl, ⟨gv, ?_⟩, ⟨sv', ?_⟩, ?_⟩
    · have e1 : a + b - a = b := by omega
      rw [e1] at hgot; exact hgot
    · rw [List.take_left' hfs] at hlog; exact hlog
    · refine ⟨hbel.os, hbel.tape, hbel.output, hbel.size, hbel.block, fun c o ho hk => ?_⟩
      have hcs := lt_of_block ho
      refine (hsame c hcs ?_ ?_ ?_).trans ho
      · rintro rfl; rw [hl.blk] at ho; cases ho; exact hk (by simp [kindOf, backKinds, logKinds])
      · rintro rfl; exact hk (List.mem_cons_of_mem _ (q5.1 o ho))
      · rintro rfl; rw [hg] at ho; cases ho; exact hk (by simp [kindOf, backKinds])

/-- What is known of the world when Do is called. -/
structure Ready (D : Nat) (w : World) (bb lbx gb hb lb b : Nat) (how : Int) (sv : Value) (fs : List Value) : Prop where
  caps : Caps w bb lbx hb lb b how
  log : LogAt D w lb sv fs
  got : w.heap[gb]? = some (.cells #[.slice none 0 0] 25 (0, 0))
  lD : D ≤ lb
  gD : D ≤ gb
  D : D ≤ w.heap.size
  b10 : b < 10
  fs100 : fs.length < 100
theorem Ready.alloc {D : Nat} {w : World} {bb lbx gb hb lb b : Nat} {how : Int} {sv : Value} {fs : List Value} (h : Ready D w bb lbx gb hb lb b how sv fs) (o : Obj) : Ready D (w.alloc o) bb lbx gb hb lb b how sv fs :=
  ⟨h.caps.alloc o, h.log.alloc o, heap_alloc_past h.got, h.lD, h.gD, by have := h.D; simp; omega, h.b10, h.fs100⟩

/-- It went well: the backs are kept. -/
def Kept (D : Nat) (w : World) (lb gb b : Nat) (fs : List Value) (w' : World) : Prop :=
  (∃ sv' fs', LogAt D w' lb sv' fs' ∧ fs'.length = fs.length + b) ∧ w'.heap[gb]? = some (.cells #[.slice none 0 0] 25 (0, 0)) ∧ Fr D logKinds w w'
/-- It went wrong: they are called back. -/
def Undone (D : Nat) (w : World) (lb gb b : Nat) (fs : List Value) (w' : World) : Prop :=
  (∃ D2 gv, GotAt D2 w' gb gv (downTo b b)) ∧ (∃ sv', LogAt D w' lb sv' fs) ∧ Fr D backKinds w w'

theorem Added.back {D : Nat} {w w1 : World} {bb lbx gb hb lb b : Nat} {how : Int} {sv : Value} {fs : List Value} (h : Ready D w bb lbx gb hb lb b how sv fs) (ha : Added D w lb gb fs b w1) :
    Calls Tryd.prog 51 #[.pointer (some ⟨lb, 0, none⟩), .int .i64 fs.length] w1 fun e w' => e = .returned (.bool true) ∧ Undone D w lb gb b fs w' := by
  obtain ⟨⟨sv1, xb, hlog, hxb⟩, hfr⟩ := ha
  have hgot := hfr.heap h.got (by simp [logKinds])
  have := h.D; have := hfr.size; have := h.b10
  refine (back_notes D w1 lb gb fs.length b xb sv1 fs hlog rfl hgot hxb h.lD h.gD (by omega) h.fs100 (by omega)).mono ?_
  rintro e w' ⟨rfl, ⟨gv, h1⟩, h2, h3⟩
  exact ⟨rfl, ⟨_, gv, h1⟩, h2, (hfr.mono (Nat.le_refl _) (fun t ht => List.mem_cons_of_mem _ ht)).trans h3⟩

def withinFn (bb lbx gb hb : Nat) : Value := .func (.func 15) #[] #[.pointer (some ⟨bb, 0, none⟩), .pointer (some ⟨lbx, 0, none⟩), .pointer (some ⟨gb, 0, none⟩), .pointer (some ⟨hb, 0, none⟩)]

/-- The three boxes of Do in the world behind what was done within. -/
theorem Added.boxes {D : Nat} {w w1 : World} {lb gb b n : Nat} {fs : List Value} (hadd : Added D (((w.alloc (.cells #[.pointer (some ⟨lb, 0, none⟩)] 23)).alloc (.cells #[.int .i64 n] 3)).alloc (.cells #[.bool false] 4)) lb gb fs b w1) :
    w1.heap[w.heap.size]? = some (.cells #[.pointer (some ⟨lb, 0, none⟩)] 23 (0, 0)) ∧ w1.heap[w.heap.size + 1]? = some (.cells #[.int .i64 n] 3 (0, 0)) ∧ w1.heap[w.heap.size + 1 + 1]? = some (.cells #[.bool false] 4 (0, 0)) :=
  ⟨hadd.fr.heap (k := w.heap.size) (heap_alloc_past (heap_alloc_past (heap_alloc_same w (.cells #[.pointer (some ⟨lb, 0, none⟩)] 23)))) (by simp [logKinds]),
   hadd.fr.heap (k := w.heap.size + 1) (heap_alloc_past (by simpa using heap_alloc_same (w.alloc (.cells #[.pointer (some ⟨lb, 0, none⟩)] 23)) (.cells #[.int .i64 n] 3))) (by simp [logKinds]),
   hadd.fr.heap (k := w.heap.size + 1 + 1) (by simpa using heap_alloc_same ((w.alloc (.cells #[.pointer (some ⟨lb, 0, none⟩)] 23)).alloc (.cells #[.int .i64 n] 3)) (.cells #[.bool false] 4)) (by simp [logKinds])⟩

theorem Undone.of {D : Nat} {w : World} {bb lbx gb hb lb b n : Nat} {how : Int} {sv : Value} {fs : List Value} (h : Ready D w bb lbx gb hb lb b how sv fs) {w' : World}
    (hu : Undone D (((w.alloc (.cells #[.pointer (some ⟨lb, 0, none⟩)] 23)).alloc (.cells #[.int .i64 n] 3)).alloc (.cells #[.bool false] 4)) lb gb b fs w') : Undone D w lb gb b fs w' := by
  obtain ⟨h1, h2, h3⟩ := hu
  have hD := h.D
  exact ⟨h1, h2, (((Fr.refl D backKinds w).alloc h.D _).alloc (by simp; omega) _ |>.alloc (by simp; omega) _).trans h3⟩

set_option maxRecDepth 100000 in
set_option maxHeartbeats 1000000 in
theorem do_well (D : Nat) (w : World) (bb lbx gb hb lb b : Nat) (how : Int) (sv : Value) (fs : List Value) (h : Ready D w bb lbx gb hb lb b how sv fs) (hw : within how = .returned .nilIface) :
    Calls Tryd.prog 53 #[.pointer (some ⟨lb, 0, none⟩), withinFn bb lbx gb hb] w fun e w' => e = .returned .nilIface ∧ Kept D w lb gb b fs w' := by
  have hR := Lib.hid (((h.alloc (.cells #[.pointer (some ⟨lb, 0, none⟩)] 23)).alloc (.cells #[.int .i64 fs.length] 3)).alloc (.cells #[.bool false] 4))
  have hl1 := h.log.alloc (.cells #[.pointer (some ⟨lb, 0, none⟩)] 23)
  have hD := h.D
  have HH := Lib.hid h
  clear h
  unfold withinFn
  go_enter_defers Tryd.func53, Tryd.ntmps53
  go_wp2_with (first | (go_at_call 50; refine (mark_any D _ lb sv fs hl1).mono ?_; rintro e w' ⟨rfl, rfl⟩) | (go_at_call 15; refine (within_any D _ bb lbx gb hb lb b how sv fs hR.out.caps hR.out.log hR.out.lD hR.out.D hR.out.b10 hR.out.fs100).mono ?_))
  rintro e w1 ⟨rfl, hadd⟩
  rw [hw]
  obtain ⟨b1, b2, b3⟩ := hadd.boxes
  have c3 := cell_of_one b3
  have f3 := free_of_one b3
  have HA := Lib.hid hadd
  have HB := Lib.hid (And.intro b1 (And.intro b2 b3))
  clear b1 b2 b3 hadd hl1 hR
  go_wp2
  refine leaves_cons (f := 82) (args := #[.pointer (some ⟨w.heap.size + 1 + 1, 0, none⟩), .pointer (some ⟨w.heap.size, 0, none⟩), .pointer (some ⟨w.heap.size + 1, 0, none⟩)]) (by simp) (by simp [go_sem]) ?_
  refine (do1_well _ _ _ .returning _ (heap_setCell_same HB.out.2.2)).mono ?_
  rintro e u' w'' ⟨rfl, rfl, rfl⟩
  refine ⟨_, results_tmp rfl _ _ _, rfl, ?_⟩
  obtain ⟨⟨sv1, xb, hlog, hxb⟩, hfr⟩ := HA.out
  have h := HH.out
  have hfr0 : Fr D logKinds w w1 := (((Fr.refl D logKinds w).alloc h.D _).alloc (by simp; omega) _ |>.alloc (by simp; omega) _).trans hfr
  have e4 : lb ≠ w.heap.size + 1 + 1 := by have := lt_of_block h.log.blk; omega
  have e5 : gb ≠ w.heap.size + 1 + 1 := by have := lt_of_block h.got; omega
  refine ⟨⟨sv1, fs ++ (List.range b).map fun i => noteFn gb (xb i), ⟨(heap_setCell_other e4).trans hlog.blk, ?_⟩, by simp⟩, (heap_setCell_other e5).trans (hfr0.heap h.got (by simp [logKinds])), ?_⟩
  · exact ownsRow_setCell_other hlog.own (a := ⟨w.heap.size + 1 + 1, 0, none⟩) (own_ne hlog.own HB.out.2.2 (by decide)) _
  · refine ⟨hfr0.os, hfr0.tape, hfr0.output, by simpa using hfr0.size, fun k hk => ?_, fun k o hk hn => ?_⟩
    · rw [heap_setCell_other (by omega)]; exact hfr0.below k hk
    · rw [heap_setCell_other (by have := lt_of_block hk; omega)]; exact hfr0.kept k o hk hn

set_option maxRecDepth 100000 in
set_option maxHeartbeats 1000000 in
theorem do_err (D : Nat) (w : World) (bb lbx gb hb lb b : Nat) (how : Int) (sv : Value) (fs : List Value) (t : TypeId) (v : Value) (h : Ready D w bb lbx gb hb lb b how sv fs) (hw : within how = .returned (.iface t v)) :
    Calls Tryd.prog 53 #[.pointer (some ⟨lb, 0, none⟩), withinFn bb lbx gb hb] w fun e w' => e = .returned (.iface t v) ∧ Undone D w lb gb b fs w' := by
  have hR := Lib.hid (((h.alloc (.cells #[.pointer (some ⟨lb, 0, none⟩)] 23)).alloc (.cells #[.int .i64 fs.length] 3)).alloc (.cells #[.bool false] 4))
  have hl1 := h.log.alloc (.cells #[.pointer (some ⟨lb, 0, none⟩)] 23)
  have hD := h.D
  have HH := Lib.hid h
  clear h
  unfold withinFn
  go_enter_defers Tryd.func53, Tryd.ntmps53
  go_wp2_with (first | (go_at_call 50; refine (mark_any D _ lb sv fs hl1).mono ?_; rintro e w' ⟨rfl, rfl⟩) | (go_at_call 15; refine (within_any D _ bb lbx gb hb lb b how sv fs hR.out.caps hR.out.log hR.out.lD hR.out.D hR.out.b10 hR.out.fs100).mono ?_))
  rintro e w1 ⟨rfl, hadd⟩
  rw [hw]
  obtain ⟨b1, b2, b3⟩ := hadd.boxes
  have c3 := cell_of_one b3
  have f3 := free_of_one b3
  have HA := Lib.hid hadd
  have HB := Lib.hid (And.intro b1 (And.intro b2 b3))
  clear b1 b2 b3 hadd hl1
  go_wp2
  rw [setCell_id HB.out.2.2]
  refine leaves_cons (f := 82) (args := #[.pointer (some ⟨w.heap.size + 1 + 1, 0, none⟩), .pointer (some ⟨w.heap.size, 0, none⟩), .pointer (some ⟨w.heap.size + 1, 0, none⟩)]) (by simp) (by simp [go_sem]) ?_
  refine (do1_err _ _ _ lb fs.length _ _ HB.out.2.2 HB.out.1 HB.out.2.1 (HA.out.back hR.out)).mono ?_
  rintro e u' w'' ⟨rfl, rfl, hu⟩
  exact ⟨_, results_tmp rfl _ _ _, rfl, hu.of HH.out⟩

set_option maxRecDepth 100000 in
set_option maxHeartbeats 1000000 in
theorem do_panic (D : Nat) (w : World) (bb lbx gb hb lb b : Nat) (how : Int) (sv : Value) (fs : List Value) (t : TypeId) (v : Value) (h : Ready D w bb lbx gb hb lb b how sv fs) (hw : within how = .panicked [{ v := .iface t v, recovered := false }]) :
    Calls Tryd.prog 53 #[.pointer (some ⟨lb, 0, none⟩), withinFn bb lbx gb hb] w fun e w' => e = .panicked [{ v := .iface t v, recovered := false }, { v := .iface t v, recovered := true }] ∧ Undone D w lb gb b fs w' := by
  have hR := Lib.hid (((h.alloc (.cells #[.pointer (some ⟨lb, 0, none⟩)] 23)).alloc (.cells #[.int .i64 fs.length] 3)).alloc (.cells #[.bool false] 4))
  have hl1 := h.log.alloc (.cells #[.pointer (some ⟨lb, 0, none⟩)] 23)
  have hD := h.D
  have HH := Lib.hid h
  clear h
  unfold withinFn
  go_enter_defers Tryd.func53, Tryd.ntmps53
  go_wp2_with (first | (go_at_call 50; refine (mark_any D _ lb sv fs hl1).mono ?_; rintro e w' ⟨rfl, rfl⟩) | (go_at_call 15; refine (within_any D _ bb lbx gb hb lb b how sv fs hR.out.caps hR.out.log hR.out.lD hR.out.D hR.out.b10 hR.out.fs100).mono ?_))
  rintro e w1 ⟨rfl, hadd⟩
  rw [hw]
  obtain ⟨b1, b2, b3⟩ := hadd.boxes
  have HA := Lib.hid hadd
  have HB := Lib.hid (And.intro b1 (And.intro b2 b3))
  clear b1 b2 b3 hadd hl1
  go_wp2
  refine leaves_cons (f := 82) (args := #[.pointer (some ⟨w.heap.size + 1 + 1, 0, none⟩), .pointer (some ⟨w.heap.size, 0, none⟩), .pointer (some ⟨w.heap.size + 1, 0, none⟩)]) (by simp) (by simp [go_sem]) ?_
  refine (do1_panic _ _ _ lb fs.length _ t v _ HB.out.2.2 HB.out.1 HB.out.2.1 (HA.out.back hR.out)).mono ?_
  rintro e u' w'' ⟨rfl, rfl, hu⟩
  exact ⟨rfl, hu.of HH.out⟩
end Go.Proofs.YtiekahnpnaldjaaDoor
