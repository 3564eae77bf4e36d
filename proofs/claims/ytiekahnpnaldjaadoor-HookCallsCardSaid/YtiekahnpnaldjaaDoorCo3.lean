/-
  The statements' comparators under a meter; key.Compare.
-/
import Derived.Test.YtiekahnpnaldjaaDoorCo2
import Derived.Deep.Cut
namespace Go.Proofs.YtiekahnpnaldjaaDoor
open Go.RowKit

theorem MeterAt.kept {T : List (Option TypeId)} {w w' : World} {mb : Nat} {c a h s : Int} (hm : MeterAt w mb c a h s) (hk : KeptK T w w') (hT : some 57 ∉ T) : MeterAt w' mb c a h s := hk _ _ hm hT
theorem MarkAt.kept {T : List (Option TypeId)} {w w' : World} {kb : Nat} {n : Int} (hm : MarkAt w kb n) (hk : KeptK T w w') (hT : some 127 ∉ T) : MarkAt w' kb n := hk _ _ hm hT

/-- What a comparator under a meter tells. -/
def CmpMet (mb : Nat) (c a hw : Int) (n : Int) (la lb : List V) (cv : Int) (er : Value) (w' : World) : Prop :=
  (c + 1 ≠ a ∧ cv = 7 * cmpC n la lb ∧ er = .nilIface ∧ MeterAt w' mb (c + 1) a hw 0) ∨
  (c + 1 = a ∧ ∃ kb, er = markVal kb ∧ MarkAt w' kb (1000 + a) ∧ MeterAt w' mb (c + 1) a hw 1)
theorem CmpMet.kept {mb : Nat} {c a hw n : Int} {la lb : List V} (cv : Int) (er : Value) (x y : World) (h : CmpMet mb c a hw n la lb cv er x) (hk : KeptK hookT x y) : CmpMet mb c a hw n la lb cv er y := by
  rcases h with ⟨h0, h1, h2, h3⟩ | ⟨h0, kb, h1, h2, h3⟩
  · exact .inl ⟨h0, h1, h2, h3.kept hk (by decide)⟩
  · exact .inr ⟨h0, kb, h1, h2.kept hk (by decide), h3.kept hk (by decide)⟩
theorem CmpMet.er {mb : Nat} {c a hw n : Int} {la lb : List V} (cv : Int) (er : Value) (x : World) (h : CmpMet mb c a hw n la lb cv er x) : er = .nilIface ∨ ∃ t v, er = .iface t v := by
  rcases h with ⟨_, _, h2, _⟩ | ⟨_, kb, h1, _, _⟩
  · exact .inl h2
  · exact .inr ⟨_, _, h1⟩

theorem own_cap {w : World} {base : Nat} {e : TypeId} {size : Nat} {v : Value} {n : Nat} {xs : List Value} (h : w.ownsRow base e size v n xs) : ∀ a m c, v = .slice a m c → m ≤ c := by
  intro a m c hv
  rcases h.2 with ⟨rfl, h0⟩ | ⟨g, cap, cur, rfl, _, _, hn, _⟩
  · simp at hv; omega
  · simp at hv; omega

set_option maxRecDepth 100000 in
set_option maxHeartbeats 2000000 in
theorem cmpCode_any (n : Int) (mb qb nb : Nat) (la lb : List V) (ba oa bb ob : Nat) (sa sb : Value) (W : World) (c a hw : Int) (hn : 0 ≤ n ∧ n ≤ 2)
    (ha : VRow W ba oa sa la) (hb : VRow W bb ob sb lb) (oka : OkL la) (okb : OkL lb) (hla : la.length ≤ 1000) (hlb : lb.length ≤ 1000) (hsa : sizeV la ≤ 9223372036854775807) (hsb : sizeV lb ≤ 9223372036854775807)
    (hca : ∀ a n c, sa = .slice a n c → n ≤ c) (hcb : ∀ a n c, sb = .slice a n c → n ≤ c) (hba : ba ≠ mb) (hbb : bb ≠ mb)
    (hq : W.heap[qb]? = some (.cells #[meterPtr mb] 55 (0, 0))) (hnb : W.heap[nb]? = some (.cells #[.int .i64 n] 3 (0, 0))) (hm : MeterAt W mb c a hw 0) (c0 : 0 ≤ c) (c1 : c ≤ 999) (a0 : 0 ≤ a) (a1 : a ≤ 9) :
    Calls Tryd.prog 91 #[sa, sb, .pointer (some ⟨qb, 0, none⟩), .pointer (some ⟨nb, 0, none⟩)] W fun e w' => ∃ cv er, e = .returned (.tuple #[.int .i64 cv, er]) ∧ CmpMet mb c a hw n la lb cv er w' ∧ Ch [mb] W w' := by
  have HT := Lib.hid (tick_any mb c a hw 0 W hm c0 (by omega) a0 a1 (by omega) (by omega))
  have k0 := cell_of_one hq
  have hnm : nb ≠ mb := ne_of_elem hnb hm (by decide)
  have HC := Lib.hid (fun (W1 : World) (hc : Ch [mb] W W1) => refCmp_any n la lb ba oa bb ob sa sb W1 (ha.ch hc (by simpa using hba)) (hb.ch hc (by simpa using hbb)) oka okb (by omega) (by omega) hsa hsb hn hca hcb)
  have HN := Lib.hid (fun (W1 : World) (hc : Ch [mb] W W1) => cell_of_one (hc.heap hnb (by simpa using hnm)))
  have hx := cmpC_three n la lb
  obtain ⟨aa, ca, rfl, _⟩ := ha.shape
  obtain ⟨ab, cb, rfl, _⟩ := hb.shape
  clear hq hnb ha hb oka okb hsa hsb hca hcb hm hnm
  have HZ := Lib.hid (fun (x : Int) (h : x = cmpC n la lb) (w' : World) (h1 : c + 1 ≠ a) (h2 : MeterAt w' mb (c + 1) a hw 0) => (show CmpMet mb c a hw n la lb (7 * x) .nilIface w' from .inl ⟨h1, by rw [h], rfl, h2⟩))
  generalize hcx : cmpC n la lb = x at *
  obtain ⟨x0, x1⟩ := hx
  have HCX := Lib.hid hcx
  clear hcx
  go_enter Tryd.func91, Tryd.ntmps91
  go_wp2_with fail
  refine HT.out.mono ?_
  rintro e w1 ⟨hc, ⟨hne, rfl, hm1⟩ | ⟨he, kb, rfl, hkb, hk, hm1⟩⟩
  · have k1 := HN.out _ hc
    have H1 := Lib.hid (And.intro hne (And.intro hm1 hc))
    clear hne hm1 hc
    go_wp2_with fail
    refine (HC.out _ H1.out.2.2).mono ?_
    rintro e w2 ⟨rfl, hc2⟩
    have H2 := Lib.hid hc2
    clear hc2
    go_wp2
    go_ret2
    exact ⟨_, _, rfl, HZ.out x rfl _ H1.out.1 (H1.out.2.1.ch H2.out (by simp)), H1.out.2.2.trans (H2.out.mono (by simp))⟩
  · have H1 := Lib.hid (And.intro he (And.intro hm1 (And.intro hk hc)))
    clear he hm1 hk hc hkb
    unfold markVal
    go_wp2
    go_ret2
    exact ⟨_, _, rfl, .inr ⟨H1.out.1, kb, rfl, H1.out.2.2.1, H1.out.2.1⟩, H1.out.2.2.2⟩

theorem cmpI_seven (x : Int) (h : -1 ≤ x ∧ x ≤ 1) : cmpI (7 * x) 0 = x := by
  unfold cmpI
  repeat' split
  all_goals omega

abbrev keyWorld (nm : ByteArray) (kd cm : Int) (ps hx hc : Value) (w : World) : World := (w.alloc (.cells #[.string nm, .int .i64 kd, ps, .int .i64 cm] 53)).alloc (.cells #[hx, hc] 61)
theorem keyWorld_facts (nm : ByteArray) (kd cm : Int) (ps hx hc : Value) (w : World) : Ch [] w (keyWorld nm kd cm ps hx hc w) ∧ (keyWorld nm kd cm ps hx hc w).heap[w.heap.size]? = some (.cells #[.string nm, .int .i64 kd, ps, .int .i64 cm] 53 (0, 0)) ∧
    (keyWorld nm kd cm ps hx hc w).heap[w.heap.size + 1]? = some (.cells #[hx, hc] 61 (0, 0)) :=
  ⟨((Ch.refl _ w).alloc _).alloc _, heap_alloc_past (heap_alloc_same _ _), by simpa using heap_alloc_same (w.alloc (.cells #[.string nm, .int .i64 kd, ps, .int .i64 cm] 53)) (.cells #[hx, hc] 61)⟩

set_option maxRecDepth 100000 in
set_option maxHeartbeats 1000000 in
/-- key.Compare by the order of values. -/
theorem keyCmp_rows (nm : ByteArray) (kd : Int) (pa xa ca : Option Addr) (pn pc xn xc cn cc : Nat) (la lb : List V) (ba oa bb ob : Nat) (sa sb : Value) (w : World) (ha : VRow w ba oa sa la) (hb : VRow w bb ob sb lb) (oka : OkL la) (okb : OkL lb) (hla : la.length ≤ 9223372036854775807) (hlb : lb.length ≤ 9223372036854775807) :
    Calls Tryd.prog 43 #[defVal nm kd (.slice pa pn pc) (-1), .agg #[.slice xa xn xc, .slice ca cn cc], sa, sb] w fun e w' => e = .returned (.tuple #[.int .i64 (cmpRows la lb), .nilIface]) ∧ Ch [] w w' := by
  have HK := Lib.hid (keyWorld_facts nm kd (-1) (.slice pa pn pc) (.slice xa xn xc) (.slice ca cn cc) w)
  have HR := Lib.hid (valueRows_any la lb ba oa bb ob sa sb _ (ha.ch0 HK.out.1) (hb.ch0 HK.out.1) oka okb hla hlb)
  obtain ⟨a1, c1, rfl, _⟩ := ha.shape
  obtain ⟨a2, c2, rfl, _⟩ := hb.shape
  clear ha hb oka okb
  unfold keyWorld at *
  go_enter Tryd.func43, Tryd.ntmps43
  go_wp2_with fail
  refine HR.out.mono ?_
  rintro e w1 ⟨rfl, hc1⟩
  have HC := Lib.hid (HK.out.1.trans hc1)
  clear hc1
  go_wp2
  go_ret2
  exact ⟨rfl, HC.out⟩

set_option maxRecDepth 100000 in
set_option maxHeartbeats 1000000 in
/-- key.Compare by a comparator that isn't there. -/
theorem keyCmp_none (nm : ByteArray) (kd cm : Int) (pa xa ca : Option Addr) (pn pc xn xc cn cc : Nat) (sa sb : Value) (w : World) (hsa : ∃ a n c, sa = .slice a n c) (hsb : ∃ a n c, sb = .slice a n c) (h : cm < -1 ∨ cn ≤ cm) (_hc : cm ≤ 9223372036854775807) :
    Calls Tryd.prog 43 #[defVal nm kd (.slice pa pn pc) cm, .agg #[.slice xa xn xc, .slice ca cn cc], sa, sb] w fun e w' => e = .returned (.tuple #[.int .i64 0, .iface 31 (.int .i64 60)]) ∧ Ch [] w w' := by
  have HK := Lib.hid (keyWorld_facts nm kd cm (.slice pa pn pc) (.slice xa xn xc) (.slice ca cn cc) w)
  obtain ⟨a1, n1, c1, rfl⟩ := hsa
  obtain ⟨a2, n2, c2, rfl⟩ := hsb
  have t1 : (cm == -1) = false := by rw [beq_eq_false_iff_ne]; omega
  unfold keyWorld at *
  by_cases h0 : cm < 0
  · clear h
    go_enter Tryd.func43, Tryd.ntmps43
    go_wp2
    go_ret2
    exact ⟨rfl, HK.out.1⟩
  · have h1 : (cn : Int) ≤ cm := by omega
    clear h
    go_enter Tryd.func43, Tryd.ntmps43
    go_wp2
    go_ret2
    exact ⟨rfl, HK.out.1⟩

theorem CmpLeft.shape {wh : ByteArray} {w w' : World} {S : List Nat} {R : Int → Value → World → Prop} {e : Ending} (h : CmpLeft wh w S R e w') : ∃ ci ev, e = .returned (.tuple #[.int .i64 ci, ev]) ∧ Ch S w w' := by
  obtain ⟨cv, er, _, hc, ⟨_, rfl⟩ | ⟨fb, _, rfl, _⟩⟩ := h
  · exact ⟨_, _, rfl, hc⟩
  · exact ⟨_, _, rfl, hc⟩
theorem CmpLeft.from {wh : ByteArray} {w0 w w' : World} {S : List Nat} {R : Int → Value → World → Prop} {e : Ending} (h0 : Ch [] w0 w) (h : CmpLeft wh w S R e w') : CmpLeft wh w0 S R e w' := by
  obtain ⟨cv, er, hr, hc, hcase⟩ := h
  refine ⟨cv, er, hr, (h0.mono (by simp)).trans hc, ?_⟩
  rcases hcase with h | ⟨fb, h1, h2, h3, h4⟩
  · exact .inl h
  · exact .inr ⟨fb, h1, h2, Nat.le_trans h0.size h3, h4⟩

set_option maxRecDepth 100000 in
set_option maxHeartbeats 2000000 in
/-- key.Compare by one of the statements' comparators. -/
theorem keyCmp_hook (nm : ByteArray) (kd : Int) (n : Nat) (pa xa : Option Addr) (pn pc xn xc : Nat) (hcv : Value) (D : Nat) (la lb : List V) (ba oa bb ob : Nat) (sa sb : Value) (mb : Nat) (c a hw : Int) (w : World) (hn : n < 3)
    (ha : VRow w ba oa sa la) (hb : VRow w bb ob sb lb) (oka : OkL la) (okb : OkL lb) (hla : la.length ≤ 1000) (hlb : lb.length ≤ 1000) (hsa : sizeV la ≤ 9223372036854775807) (hsb : sizeV lb ≤ 9223372036854775807)
    (hhc : Hooked w D 91 83 (meterPtr mb) 3 hcv) (hm : MeterAt w mb c a hw 0) (c0 : 0 ≤ c) (c1 : c ≤ 999) (a0 : 0 ≤ a) (a1 : a ≤ 9) :
    Calls Tryd.prog 43 #[defVal nm kd (.slice pa pn pc) n, .agg #[.slice xa xn xc, hcv], sa, sb] w (CmpLeft nm w [mb] (CmpMet mb c a hw n la lb)) := by
  obtain ⟨g, gc, rfl, _, hat⟩ := hhc.at (by omega)
  obtain ⟨fv, hcell, qb, nb, rfl, _, _, hq, hnb⟩ := hat n hn
  have HK := Lib.hid (keyWorld_facts nm kd n (.slice pa pn pc) (.slice xa xn xc) (.slice (some ⟨g, 0, none⟩) 3 gc) w)
  have hmb := lt_of_block hm
  have hgb := World.block_lt_of_cell? _ _ hcell
  have hgm : g ≠ mb := by
    rintro rfl
    rw [cell_of hm] at hcell
    match n, hcell with
    | 0, hcell => simp at hcell
    | 1, hcell => simp at hcell
    | 2, hcell => simp at hcell
    | n + 3, hcell => omega
  have HC := Lib.hid (fun (W : World) (hW : Ch [] w W) => hookCompare_any nm 91 #[.pointer (some ⟨qb, 0, none⟩), .pointer (some ⟨nb, 0, none⟩)] ba oa bb ob sa sb la lb W [mb] (CmpMet mb c a hw n la lb) (ha.ch0 hW) (hb.ch0 hW) (by omega) (by omega) (by simp; have := hW.size; omega) CmpMet.kept CmpMet.er (fun _ _ => by kernel_rfl) (by
    intro sva svb W1 W2 W3 h1 h2 h3 h4
    have hA := hW.trans (h1.trans h2.2)
    have hB := hA.trans h3
    obtain ⟨b2, hb2, hr2⟩ := VRow.of_own h2.1
    obtain ⟨b3, hb3, hr3⟩ := VRow.of_own h4.1
    have := (hW.trans h1).size
    have := hA.size
    exact cmpCode_any n mb qb nb la lb b2 0 b3 0 sva svb W3 c a hw (by omega) (hr2.ch0 h3) hr3 oka okb hla hlb hsa hsb (own_cap h2.1) (own_cap h4.1) (by omega) (by omega) (hB.heap hq (by simp)) (hB.heap hnb (by simp)) (hm.ch hB (by simp)) c0 c1 a0 a1))
  have HS := Lib.hid (fun (W W1 : World) (h1 : Ch [] (keyWorld nm kd n (.slice pa pn pc) (.slice xa xn xc) (.slice (some ⟨g, 0, none⟩) 3 gc) w) W) (h2 : Ch [mb] W W1) => (show W1.cell? ⟨w.heap.size, 0, none⟩ = some (.string nm) ∧ W1.cell? ⟨w.heap.size + 1, 1, none⟩ = some (.slice (some ⟨g, 0, none⟩) 3 gc) ∧ W1.cell? ⟨w.heap.size, 3, none⟩ = some (.int .i64 n) ∧ W1.cell? ⟨g, n, none⟩ = some (codeFn 91 qb nb) from
    ⟨(cell_of (i := 0) (h2.heap (h1.heap HK.out.2.1 (by simp)) (by simp; omega))).trans rfl, (cell_of (i := 1) (h2.heap (h1.heap HK.out.2.2 (by simp)) (by simp; omega))).trans rfl, (cell_of (i := 3) (h2.heap (h1.heap HK.out.2.1 (by simp)) (by simp; omega))).trans rfl,
      (h2.rules.1 _ _ (Nat.lt_of_lt_of_le hgb (HK.out.1.trans h1).size) (by simpa using hgm)).trans (((HK.out.1.trans h1).rules0.1 _ _ hgb).trans hcell)⟩))
  obtain ⟨a1, c1, rfl, _⟩ := ha.shape
  obtain ⟨a2, c2, rfl, _⟩ := hb.shape
  have j0 : (n : Int) < 3 := by omega
  have t1 : ((n : Int) == -1) = false := by rw [beq_eq_false_iff_ne]; omega
  clear ha hb oka okb hsa hsb hhc hat hcell hq hnb hm hmb hgb hgm
  obtain ⟨s0, s1, s2, s3⟩ := HS.out _ _ (Ch.refl _ _) (Ch.refl _ _)
  generalize hW : keyWorld nm kd n (.slice pa pn pc) (.slice xa xn xc) (.slice (some ⟨g, 0, none⟩) 3 gc) w = W at *
  have HW := Lib.hid hW
  clear hW
  unfold keyWorld at HW
  go_enter Tryd.func43, Tryd.ntmps43
  go_upto_region 1 with (fail)
  rw [HW.out]
  go_wp2_with fail
  go_region_held3 (fun w' => w'.cell? ⟨w.heap.size, 0, none⟩ = some (.string nm) ∧ w'.cell? ⟨w.heap.size + 1, 1, none⟩ = some (.slice (some ⟨g, 0, none⟩) 3 gc) ∧ w'.cell? ⟨w.heap.size, 3, none⟩ = some (.int .i64 n) ∧ w'.cell? ⟨g, n, none⟩ = some (codeFn 91 qb nb))
    (first | exact HS.out _ _ (Ch.refl _ _).drew hc1 | exact HS.out _ _ (Ch.refl _ _).drew (Ch.refl _ _) | exact HS.out _ _ (Ch.refl _ _) (Ch.refl _ _))
    (first
      | (go_at_call 39; refine (HC.out _ HK.out.1.drew).mono ?_; intro e w1 hL; obtain ⟨ci, ev, rfl, hc1⟩ := hL.shape))
  have HL := Lib.hid (hL.from HK.out.1.drew)
  clear hL hc1 s0 s1 s2 s3
  go_wp2
  go_ret2
  exact HL.out
end Go.Proofs.YtiekahnpnaldjaaDoor
