/-
  key.Of, at no part too.
-/
import Derived.Test.YtiekahnpnaldjaaDoorLaw7
namespace Go.Proofs.YtiekahnpnaldjaaDoor
open Go.RowKit

set_option maxRecDepth 100000 in
set_option maxHeartbeats 1000000 in
theorem keyOf_nil (nm : ByteArray) (kd cm : Int) (pa xa ca aa : Option Addr) (pc xn xc cn cc n c : Nat) (w : World) :
    Calls Tryd.prog 32 #[defVal nm kd (.slice pa 0 pc) cm, .agg #[.slice xa xn xc, .slice ca cn cc], .slice aa n c] w fun e w' => e = .returned (.tuple #[.slice none 0 0, .nilIface]) ∧ Ch [] w w' := by
  have HC := Lib.hid (show Ch [] w ((w.alloc (.cells #[.string nm, .int .i64 kd, .slice pa 0 pc, .int .i64 cm] 53)).alloc (.cells #[.slice xa xn xc, .slice ca cn cc] 61)) from ((Ch.refl _ w).alloc _).alloc _)
  go_enter Tryd.func32, Tryd.ntmps32
  go_wp2_with fail
  go_loopg [8, 16] 0 (fun k s8 i wr => s8 = .slice none 0 0 ∧ i = .int .i64 0 ∧ Ch [] w wr)
  case atStart => exact ⟨rfl, rfl, HC.out⟩
  case round =>
    obtain ⟨rfl, rfl, hch⟩ := hrel
    have H := Lib.hid hch
    clear hch
    go_wp2
    go_ret2
    exact ⟨rfl, H.out⟩

/-- key.Of, wherever the parts lie. -/
theorem keyOf_gen (nm : ByteArray) (kd cm : Int) (pb po pc xn xc cn cc : Nat) (pa xa ca : Option Addr) (ps : List (Int × Int)) (vs : List V) (sv : Value) (w : World) (S : List Nat) (T : Nat → World → Prop) (F : Nat → TypeId → Value → World → Prop)
    (hpa : ps ≠ [] → pa = some ⟨pb, po, none⟩) (hps : PartsAt w pb po ps) (hpS : pb ∉ S) (hpl : ps.length ≤ 100) (hS : ∀ x, x ∈ S → x < w.heap.size) (hT : ∀ j, Lasts w (T j)) (hF : ∀ j t x a b, F j t x a → Ch [] a b → F j t x b) (hT0 : T 0 w) (hs : ∃ a n c, sv = .slice a n c) (hvs : vs.length = ps.length)
    (hpart : ∀ j f h W, ps[j]? = some (f, h) → Ch S w W → T j W → Calls Tryd.prog 65 #[defVal nm kd (.slice pa ps.length pc) cm, partVal f h, .agg #[.slice xa xn xc, .slice ca cn cc], sv] W fun e w' =>
      ∃ v er, e = .returned (.tuple #[.agg (V.arr v), er]) ∧ Ch S W w' ∧ ((er = .nilIface ∧ vs[j]? = some v ∧ T (j + 1) w') ∨ ∃ t x, er = .iface t x ∧ F j t x w')) :
    Calls Tryd.prog 32 #[defVal nm kd (.slice pa ps.length pc) cm, .agg #[.slice xa xn xc, .slice ca cn cc], sv] w fun e w' => KeyTold w S vs ps.length T F e w' := by
  by_cases h0 : ps = []
  · subst h0
    obtain ⟨a, n, c, rfl⟩ := hs
    refine (keyOf_nil nm kd cm pa xa ca a pc xn xc cn cc n c w).mono ?_
    rintro e w' ⟨rfl, hc⟩
    obtain rfl : vs = [] := List.eq_nil_of_length_eq_zero hvs
    exact ⟨hc.mono (by simp), .inl ⟨_, rfl, rfl, World.ownsRow_nil _ _ _ _, hT 0 _ _ _ hT0 hc (by simp)⟩⟩
  · obtain rfl := hpa h0
    exact keyOf_any nm kd cm pb po pc xn xc cn cc xa ca ps vs sv w S T F hps hpS hpl hS hT hF hT0 hs hvs hpart
end Go.Proofs.YtiekahnpnaldjaaDoor
