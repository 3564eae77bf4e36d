/-
  key.Order.
-/
import Derived.Test.YtiekahnpnaldjaaDoorCmp3
namespace Go.Proofs.YtiekahnpnaldjaaDoor
open Go.RowKit

/-- How two entries stand: by key, then number. -/
def ordE (la lb : List V) (ia ib : Int) : Int := if cmpRows la lb ≠ 0 then cmpRows la lb else cmpI ia ib
theorem ordE_or (la lb : List V) (ia ib : Int) : orI [cmpRows la lb, cmpI ia ib] = ordE la lb ia ib := by
  unfold ordE
  simp only [orI]
  by_cases h : cmpRows la lb = 0
  · by_cases h2 : cmpI ia ib = 0 <;> simp [h, h2]
  · simp [h]
abbrev entVal (s : Value) (i : Int) : Value := .agg #[s, .int .i64 i]

set_option maxRecDepth 100000 in
set_option maxHeartbeats 2000000 in
theorem keyOrder_entry (la lb : List V) (ba oa bb ob : Nat) (sa sb : Value) (ia ib : Int) (w : World) (ha : VRow w ba oa sa la) (hb : VRow w bb ob sb lb) (oka : OkL la) (okb : OkL lb) (hla : la.length ≤ 9223372036854775807) (hlb : lb.length ≤ 9223372036854775807) :
    Calls Tryd.prog 36 #[entVal sa ia, entVal sb ib] w fun e w' => e = .returned (.int .i64 (ordE la lb ia ib)) ∧ Ch [] w w' := by
  have hch : Ch [] w ((w.alloc (.cells #[sa, .int .i64 ia] 74)).alloc (.cells #[sb, .int .i64 ib] 74)) := ((Ch.refl _ w).alloc _).alloc _
  have HR := Lib.hid (valueRows_any la lb ba oa bb ob sa sb _ (ha.ch0 hch.drew) (hb.ch0 hch.drew) oka okb hla hlb)
  have hA : ((w.alloc (.cells #[sa, .int .i64 ia] 74)).alloc (.cells #[sb, .int .i64 ib] 74)).heap[w.heap.size]? = some (.cells #[sa, .int .i64 ia] 74 (0, 0)) := heap_alloc_past (heap_alloc_same _ _)
  have hB : ((w.alloc (.cells #[sa, .int .i64 ia] 74)).alloc (.cells #[sb, .int .i64 ib] 74)).heap[w.heap.size + 1]? = some (.cells #[sb, .int .i64 ib] 74 (0, 0)) := by simpa using heap_alloc_same (w.alloc (.cells #[sa, .int .i64 ia] 74)) (.cells #[sb, .int .i64 ib] 74)
  have HK := Lib.hid (fun (w1 : World) (hc : Ch [] ((w.alloc (.cells #[sa, .int .i64 ia] 74)).alloc (.cells #[sb, .int .i64 ib] 74)).drew w1) =>
    (show w1.cell? ⟨w.heap.size, 0, none⟩ = some sa ∧ w1.cell? ⟨w.heap.size, 1, none⟩ = some (.int .i64 ia) ∧ w1.cell? ⟨w.heap.size + 1, 0, none⟩ = some sb ∧ w1.cell? ⟨w.heap.size + 1, 1, none⟩ = some (.int .i64 ib) from
      ⟨(cell_of (i := 0) (hc.heap (show _ = _ from hA) (by simp))).trans rfl, (cell_of (i := 1) (hc.heap (show _ = _ from hA) (by simp))).trans rfl, (cell_of (i := 0) (hc.heap (show _ = _ from hB) (by simp))).trans rfl, (cell_of (i := 1) (hc.heap (show _ = _ from hB) (by simp))).trans rfl⟩))
  have HO := Lib.hid (fun (w1 : World) => or_any [cmpRows la lb, cmpI ia ib] w1.heap.size 2 (w1.alloc (.cells #[.int .i64 (cmpRows la lb), .int .i64 (cmpI ia ib)] 3)) (ints_at (xs := [cmpRows la lb, cmpI ia ib]) (t := 3) (fr := (0, 0)) (heap_alloc_same w1 _)) (by simp))
  have HC := Lib.hid hch
  obtain ⟨aa, ca, rfl, _⟩ := ha.shape
  obtain ⟨ab, cb, rfl, _⟩ := hb.shape
  clear ha hb oka okb hla hlb hch hA hB
  go_enter Tryd.func36, Tryd.ntmps36
  go_wp2_with fail
  go_region_held3 (fun w' => w'.cell? ⟨w.heap.size, 0, none⟩ = some (.slice aa la.length ca) ∧ w'.cell? ⟨w.heap.size, 1, none⟩ = some (.int .i64 ia) ∧ w'.cell? ⟨w.heap.size + 1, 0, none⟩ = some (.slice ab lb.length cb) ∧ w'.cell? ⟨w.heap.size + 1, 1, none⟩ = some (.int .i64 ib))
    (first | go_keep | exact HK.out _ ‹_›)
    (first
      | (go_at_call 71; refine HR.out.mono ?_; rintro e w1 ⟨rfl, hc1⟩)
      | (go_at_call 72; refine (cmp_int64 _ _ _).mono ?_; rintro e w' ⟨rfl, rfl⟩)
      | (go_at_call 70; refine (HO.out _).mono ?_; rintro e w' ⟨rfl, rfl⟩))
  have HF := Lib.hid (HC.out.drew.trans hc1)
  have HV := Lib.hid (ordE_or la lb ia ib)
  clear HR HK HO hc1
  go_wp2
  go_ret
  exact ⟨by rw [← HV.out]; rfl, HF.out.alloc _⟩
end Go.Proofs.YtiekahnpnaldjaaDoor
