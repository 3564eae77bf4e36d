/-
  cmp.Or; value.Compare.
-/
import Derived.Test.YtiekahnpnaldjaaDoorCmp1
import Derived.Test.YtiekahnpnaldjaaDoorVal3
import Derived.Deep.RegionHeld3
namespace Go.Proofs.YtiekahnpnaldjaaDoor
open Go.RowKit

def orI : List Int → Int
  | [] => 0
  | x :: xs => if x ≠ 0 then x else orI xs
theorem orI_drop {xs : List Int} {m : Nat} {x : Int} (h : xs[m]? = some x) : orI (xs.drop m) = if x ≠ 0 then x else orI (xs.drop (m + 1)) := by
  have hlt := List.getElem?_eq_some_iff.1 h
  rw [List.drop_eq_getElem_cons hlt.1, hlt.2]
  rfl

set_option maxRecDepth 100000 in
theorem or_any (xs : List Int) (b cap : Nat) (w : World) (h : ∀ j x, xs[j]? = some x → w.cell? ⟨b, j, none⟩ = some (.int .i64 x)) (hl : xs.length ≤ 100) :
    Calls Tryd.prog 70 #[.slice (some ⟨b, 0, none⟩) xs.length cap] w fun e w' => e = .returned (.int .i64 (orI xs)) ∧ w = w' := by
  have H := Lib.hid (And.intro h hl)
  clear h hl
  go_enter Tryd.func70, Tryd.ntmps70
  go_wp2_with fail
  go_loopg [8] xs.length (fun k i wr => ∃ m : Nat, k + m = xs.length ∧ i = .int .i64 m ∧ orI xs = orI (xs.drop m) ∧ wr = w)
  case atStart => exact ⟨0, rfl, rfl, rfl, rfl⟩
  case round =>
    obtain ⟨m, hkm, rfl, ho, rfl⟩ := hrel
    by_cases hlt : m < xs.length
    · obtain ⟨x, hx⟩ : ∃ x, xs[m]? = some x := ⟨_, List.getElem?_eq_getElem hlt⟩
      have c0 := H.out.1 m x hx
      have hd := orI_drop hx
      have j0 : (m : Int) < (xs.length : Int) := by omega
      have j1 := H.out.2
      by_cases h0 : x = 0
      · subst h0
        have HO := Lib.hid (show orI xs = orI (xs.drop (m + 1)) by rw [ho, hd]; simp)
        have HK := Lib.hid hkm
        clear ho hd hx hkm
        go_wp2
        go_roundg (gk - 1)
        case measure => have := HK.out; omega
        case rel => exact ⟨m + 1, by have := HK.out; omega, by go_num, HO.out, rfl⟩
      · have t1 : (x != 0) = true := by simpa using h0
        have HO := Lib.hid (show orI xs = x by rw [ho, hd, if_pos h0])
        clear ho hd hx hkm h0
        go_wp2
        go_ret
        exact ⟨by rw [HO.out]; rfl, rfl⟩
    · obtain rfl : m = xs.length := by omega
      have HO := Lib.hid (show orI xs = 0 by rw [ho, List.drop_length]; rfl)
      clear ho hkm hlt
      go_wp2
      go_ret
      exact ⟨by rw [HO.out]; rfl, rfl⟩

theorem ints_at {w : World} {b : Nat} {t : TypeId} {fr : Nat × Nat} {xs : List Int} (h : w.heap[b]? = some (.cells (xs.map (Value.int .i64)).toArray t fr)) : ∀ j x, xs[j]? = some x → w.cell? ⟨b, j, none⟩ = some (.int .i64 x) := by
  intro j x hx
  rw [cell_of h]
  simp [hx]
theorem cmpV_or (a b : V) : orI [cmpI a.k b.k, cmpI a.i b.i, cmpS a.s b.s, cmpF a.f b.f] = cmpV a b := by
  unfold cmpV
  simp only [orI]
  by_cases h1 : cmpI a.k b.k = 0
  · by_cases h2 : cmpI a.i b.i = 0
    · by_cases h3 : cmpS a.s b.s = 0
      · by_cases h4 : cmpF a.f b.f = 0 <;> simp [h1, h2, h3, h4]
      · simp [h1, h2, h3]
    · simp [h1, h2]
  · simp [h1]

set_option maxRecDepth 100000 in
set_option maxHeartbeats 2000000 in
theorem valueCompare_any (a b : V) (w : World) (ha : a.Ok) (hb : b.Ok) : Calls Tryd.prog 95 #[a.val, b.val] w fun e w' => e = .returned (.int .i64 (cmpV a b)) ∧ Ch [] w w' := by
  have HB := Lib.hid (fun W => bitsCompare_any a.f b.f W ha.f hb.f)
  obtain ⟨ak, ai, at', af⟩ := a
  obtain ⟨bk, bi, bt', bf⟩ := b
  unfold V.val
  clear ha hb
  have h3 : (((w.alloc (.cells #[.int .i64 ak, .int .i64 ai, .string at', .float .f64 af] 38)).alloc (.cells #[.int .i64 bk, .int .i64 bi, .string bt', .float .f64 bf] 38)).alloc (.cells #[.int .i64 (cmpI ak bk), .int .i64 (cmpI ai bi), .int .i64 (cmpS at' bt'), .int .i64 (cmpF af bf)] 3)).heap[w.heap.size + 1 + 1]? = some (.cells #[.int .i64 (cmpI ak bk), .int .i64 (cmpI ai bi), .int .i64 (cmpS at' bt'), .int .i64 (cmpF af bf)] 3 (0, 0)) := by
    simpa using heap_alloc_same ((w.alloc (.cells #[.int .i64 ak, .int .i64 ai, .string at', .float .f64 af] 38)).alloc (.cells #[.int .i64 bk, .int .i64 bi, .string bt', .float .f64 bf] 38)) (.cells #[.int .i64 (cmpI ak bk), .int .i64 (cmpI ai bi), .int .i64 (cmpS at' bt'), .int .i64 (cmpF af bf)] 3)
  have HO := Lib.hid (or_any [cmpI ak bk, cmpI ai bi, cmpS at' bt', cmpF af bf] (w.heap.size + 1 + 1) 4 (((w.alloc (.cells #[.int .i64 ak, .int .i64 ai, .string at', .float .f64 af] 38)).alloc (.cells #[.int .i64 bk, .int .i64 bi, .string bt', .float .f64 bf] 38)).alloc (.cells #[.int .i64 (cmpI ak bk), .int .i64 (cmpI ai bi), .int .i64 (cmpS at' bt'), .int .i64 (cmpF af bf)] 3)).drew (ints_at (w := (((w.alloc (.cells #[.int .i64 ak, .int .i64 ai, .string at', .float .f64 af] 38)).alloc (.cells #[.int .i64 bk, .int .i64 bi, .string bt', .float .f64 bf] 38)).alloc (.cells #[.int .i64 (cmpI ak bk), .int .i64 (cmpI ai bi), .int .i64 (cmpS at' bt'), .int .i64 (cmpF af bf)] 3)).drew) (t := 3) (fr := (0, 0)) (xs := [cmpI ak bk, cmpI ai bi, cmpS at' bt', cmpF af bf]) h3) (by simp))
  have HV := Lib.hid (cmpV_or ⟨ak, ai, at', af⟩ ⟨bk, bi, bt', bf⟩)
  clear h3
  go_enter Tryd.func95, Tryd.ntmps95
  go_wp2_with fail
  go_region_held3 (fun w' => w'.cell? ⟨w.heap.size, 0, none⟩ = some (.int .i64 ak) ∧ w'.cell? ⟨w.heap.size, 1, none⟩ = some (.int .i64 ai) ∧ w'.cell? ⟨w.heap.size, 2, none⟩ = some (.string at') ∧ w'.cell? ⟨w.heap.size, 3, none⟩ = some (.float .f64 af) ∧
      w'.cell? ⟨w.heap.size + 1, 0, none⟩ = some (.int .i64 bk) ∧ w'.cell? ⟨w.heap.size + 1, 1, none⟩ = some (.int .i64 bi) ∧ w'.cell? ⟨w.heap.size + 1, 2, none⟩ = some (.string bt') ∧ w'.cell? ⟨w.heap.size + 1, 3, none⟩ = some (.float .f64 bf)) (go_keep)
    (first
      | (go_at_call 76; refine (cmp_int _ _ _).mono ?_; rintro e w' ⟨rfl, rfl⟩)
      | (go_at_call 72; refine (cmp_int64 _ _ _).mono ?_; rintro e w' ⟨rfl, rfl⟩)
      | (go_at_call 104; refine (strCompare_any _ _ _).mono ?_; rintro e w' ⟨rfl, rfl⟩)
      | (go_at_call 105; refine (HB.out _).mono ?_; rintro e w' ⟨rfl, rfl⟩)
      | (go_at_call 70; refine HO.out.mono ?_; rintro e w' ⟨rfl, rfl⟩))
  go_wp2
  go_ret
  exact ⟨by rw [← HV.out]; rfl, (((Ch.refl _ w).alloc _).alloc _).alloc _ |>.drew⟩
end Go.Proofs.YtiekahnpnaldjaaDoor
