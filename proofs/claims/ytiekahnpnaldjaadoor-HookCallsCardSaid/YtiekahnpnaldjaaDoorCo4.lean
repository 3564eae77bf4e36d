/-
  What the statements ask of a fault that bears a mark; keys of the reference.
-/
import Derived.Test.YtiekahnpnaldjaaDoorCo3
namespace Go.Proofs.YtiekahnpnaldjaaDoor
open Go.RowKit

set_option maxRecDepth 100000 in
set_option maxHeartbeats 2000000 in
theorem struck_mark (fb kb : Nat) (wh : ByteArray) (n : Int) (w : World) (h : FaultAt w fb wh (markVal kb) .nilIface) (hk : MarkAt w kb n) (hg : Glob w) :
    Calls Tryd.prog 44 #[faultVal fb] w fun e w' => e = .returned (.int .i64 n) ∧ Ch [] w w' := by
  have g1 := Lib.hid (hg.alloc (.cells #[.pointer none] 102))
  have H0 := Lib.hid (As_hit c_fault (.pointer (some ⟨fb, 0, none⟩)) w.heap.size (.pointer none) _ rfl rfl (heap_alloc_same _ _) g1.out)
  have HF := Lib.hid (And.intro h hk)
  have hgl := hg.lt
  clear hg h hk
  unfold faultVal at *
  go_enter Tryd.func44, Tryd.ntmps44
  go_wp2_with fail
  refine H0.out.mono ?_
  rintro e w2 ⟨rfl, hb, hc2⟩
  have F2 := hc2.heap (heap_alloc_past HF.out.1) (by simp; exact Nat.ne_of_lt (lt_of_block HF.out.1))
  have K2 := hc2.heap (heap_alloc_past HF.out.2) (by simp; exact Nat.ne_of_lt (lt_of_block HF.out.2))
  have g2 := Lib.hid ((g1.out.ch hc2 (by simp; exact Nat.ne_of_lt hgl)).alloc (.cells #[.pointer none] 124))
  have H1 := Lib.hid (As_hit c_mark (.pointer (some ⟨kb, 0, none⟩)) w2.heap.size (.pointer none) _ rfl rfl (heap_alloc_same _ _) g2.out)
  have k := cell_of_one hb
  have k1 := (cell_of (i := 1) F2).trans rfl
  have z0 := lt_of_block F2
  have z1 := lt_of_block hb
  have H2 := Lib.hid (And.intro hb (And.intro hc2 (And.intro F2 K2)))
  clear hc2 hb F2 K2 g1 hgl
  unfold markVal at *
  go_wp2_with fail
  refine H1.out.mono ?_
  rintro e w3 ⟨rfl, hb, hc3⟩
  have m0 := cell_of_one hb
  have hk3 := (cell_of (i := 0) (hc3.heap (heap_alloc_past H2.out.2.2.2) (by simp; exact Nat.ne_of_lt (lt_of_block H2.out.2.2.2)))).trans (show _ = some (Value.int .i64 n) from rfl)
  have hf3 := cell_of_one (hc3.heap (heap_alloc_past H2.out.1) (by simp; exact Nat.ne_of_lt z1))
  have he3 := (cell_of (i := 1) (hc3.heap (heap_alloc_past H2.out.2.2.1) (by simp; exact Nat.ne_of_lt z0))).trans rfl
  have H3 := Lib.hid ((((Ch.refl [] w).alloc (.cells #[.pointer none] 102)).trans' H2.out.2.1 (by simp)).alloc (.cells #[.pointer none] 124) |>.trans' hc3 (by have := H2.out.2.1.size; simp at this; simp; omega))
  have z3 := lt_of_block hb
  clear hb hc3 k k1
  go_wp2
  go_ret
  exact ⟨rfl, H3.out⟩

set_option maxRecDepth 100000 in
set_option maxHeartbeats 1000000 in
theorem keys_any (nm : ByteArray) (kd cm : Int) (pa : Option Addr) (pn pc : Nat) (la lb : List V) (ba oa bb ob : Nat) (sa sb : Value) (w : World) (ha : VRow w ba oa sa la) (hb : VRow w bb ob sb lb) (oka : OkL la) (okb : OkL lb) (hla : la.length ≤ 9223372036854775807) (hlb : lb.length ≤ 9223372036854775807)
    (hsa : sizeV la ≤ 9223372036854775807) (hsb : sizeV lb ≤ 9223372036854775807) (hn : -1 ≤ cm ∧ cm ≤ 2) (hca : ∀ a n c, sa = .slice a n c → n ≤ c) (hcb : ∀ a n c, sb = .slice a n c → n ≤ c) :
    Calls Tryd.prog 46 #[defVal nm kd (.slice pa pn pc) cm, sa, sb] w fun e w' => e = .returned (.int .i64 (if cm < 0 then cmpRows la lb else cmpC cm la lb)) ∧ Ch [] w w' := by
  have HR := Lib.hid (fun W (hc : Ch [] w W) => refRows_any la lb ba oa bb ob sa sb W (ha.ch0 hc) (hb.ch0 hc) oka okb hla hlb)
  have HC := Lib.hid (fun W (hc : Ch [] w W) (h0 : 0 ≤ cm) => refCmp_any cm la lb ba oa bb ob sa sb W (ha.ch0 hc) (hb.ch0 hc) oka okb hla hlb hsa hsb ⟨h0, hn.2⟩ hca hcb)
  have HA := Lib.hid (show Ch [] w (w.alloc (.cells #[.string nm, .int .i64 kd, .slice pa pn pc, .int .i64 cm] 53)) from (Ch.refl _ _).alloc _)
  obtain ⟨a1, c1, rfl, _⟩ := ha.shape
  obtain ⟨a2, c2, rfl, _⟩ := hb.shape
  clear ha hb oka okb hsa hsb hca hcb
  obtain ⟨n0, n1⟩ := hn
  by_cases h0 : cm < 0
  · rw [if_pos h0]
    go_enter Tryd.func46, Tryd.ntmps46
    go_wp2_with fail
    refine (HR.out _ HA.out).mono ?_
    rintro e w1 ⟨rfl, hc⟩
    have HE := Lib.hid (HA.out.trans hc)
    clear hc
    go_wp2
    go_ret
    exact ⟨rfl, HE.out⟩
  · rw [if_neg h0]
    have h1 : 0 ≤ cm := by omega
    go_enter Tryd.func46, Tryd.ntmps46
    go_wp2_with fail
    refine (HC.out _ HA.out h1).mono ?_
    rintro e w1 ⟨rfl, hc⟩
    have HE := Lib.hid (HA.out.trans hc)
    clear hc
    go_wp2
    go_ret
    exact ⟨rfl, HE.out⟩

set_option maxRecDepth 100000 in
set_option maxHeartbeats 1000000 in
theorem good_any (cm : Int) (w : World) :
    Calls Tryd.prog 42 #[defVal ⟨#[]⟩ 0 (.slice none 0 0) cm, .int .i64 0] w fun e w' => e = .returned (.bool (decide (-1 ≤ cm ∧ cm < 3))) ∧ Ch [] w w' := by
  have HA := Lib.hid (show Ch [] w (w.alloc (.cells #[.string ⟨#[]⟩, .int .i64 0, .slice none 0 0, .int .i64 cm] 53)) from (Ch.refl _ _).alloc _)
  have e1 : decide (-1 ≤ cm ∧ cm < 3) = (decide (-1 ≤ cm) && decide (cm < 3)) := by simp
  rw [e1]
  clear e1
  by_cases h0 : -1 ≤ cm
  · rw [decide_eq_true h0]
    go_enter Tryd.func42, Tryd.ntmps42
    go_wp2_with fail
    refine wp_loop_rounds 1 ?_
    rw [rounds_succ]
    go_wp2
    go_ret
    exact ⟨rfl, HA.out⟩
  · rw [decide_eq_false h0]
    have h1 : cm < -1 := by omega
    go_enter Tryd.func42, Tryd.ntmps42
    go_wp2_with fail
    refine wp_loop_rounds 1 ?_
    rw [rounds_succ]
    go_wp2
    go_ret
    exact ⟨rfl, HA.out⟩
end Go.Proofs.YtiekahnpnaldjaaDoor
