/-
  slices.Replace at []*node: up to the end of the row, with room. (printed by wip/gen_tree.py)
-/
import Derived.Test.YtjecadkmlakncaaTc6
namespace Go.Proofs.Ytjecadkmlakncaa
open Go.RowKit

set_option maxHeartbeats 4000000 in
set_option maxRecDepth 100000 in
theorem replEndRoomN (b off n c i vb voff m vc : Nat) (cs vs : List Value) (w : World) (hij : i < n) (hm : 0 < m) (hroom : i + m ≤ c) (hnc : n ≤ c) (hc63 : c ≤ 9223372036854775807) (hmj : n ≤ i + m)
    (hcl : cs.length = n) (hvl : vs.length = m)
    (hcs : ∀ t v, cs[t]? = some v → w.cell? ⟨b, off + t, none⟩ = some v) (hsq : ∀ t, t < i + m → (w.cell? ⟨b, off + t, none⟩).isSome = true) (hfb : ∀ t, w.frozen? ⟨b, t, none⟩ = false)
    (hvs : ∀ t v, vs[t]? = some v → w.cell? ⟨vb, voff + t, none⟩ = some v) (h1v : ∀ v ∈ vs, v.oneCell' = true) :
    Calls Try.prog 62 #[.slice (some ⟨b, off, none⟩) n c, .int .i64 i, .int .i64 n, .slice (some ⟨vb, voff, none⟩) m vc] w fun e w' =>
      e = .returned (.slice (some ⟨b, off, none⟩) (i + m) c) ∧ Like w' ((w.setCells b (off + i) vs)) := by
  have mixed : Try.prog.follows .mixedOrders = true := by kernel_rfl
  have hsrc : ∀ W, Like W w → Src Try.prog 1 78 (.slice (some ⟨vb, voff, none⟩) m vc) m vs W := fun W hW => Src.ofSlice W Try.underlying78 ⟨vb, voff, none⟩ m vc vs (by omega) (fun j u hj => by rw [Addr.add_lit, hW.cell]; exact hvs j u hj) h1v
  have hsp : ∀ t, t < n → (w.cell? ⟨b, off + t, none⟩).isSome = true := fun t ht => by rw [hcs t _ (List.getElem?_eq_getElem (by omega))]; rfl
  have hsp2 : ∀ t, t < n → ((w.setCells b (off + i) vs).cell? ⟨b, off + t, none⟩).isSome = true := fun t ht =>
    isSome_setCells b _ _ _ (fun u hu => by rw [Nat.add_assoc]; exact hsq _ (by omega)) _ (hsp _ ht)
  have hcl3 : True := trivial
  have hij' : ¬ ((i : Int) = (n : Int)) := by omega
  have hb7 : (i : Int) ≤ (n : Int) := by omega
  have hb5 : ¬ (c = i) := by omega
  have hlt : ¬ ((i : Int) + (m : Int) < (n : Int)) := by omega
  have HS := Lib.hid (And.intro hsrc (And.intro hsq hfb))
  have HM := Lib.hid (And.intro hroom hmj)
  have HV := Lib.hid hvl
  have HC3 := Lib.hid hcl3

  clear hcl3 hsp hsp2 hcs hsq hfb hvs h1v hsrc hmj hroom
  go_enter Try.func62, Try.ntmps62
  go_wp2_with (at_builtin; refine wpList_append_room1 _ rfl _ _ 78 78 rfl 74 _ _ Try.underlying78 infoN b off i c rfl _ rfl m vs (HS.out.1 _ (Like.refl _)) HM.out.1 (by rw [HV.out]; intro t ht; rw [Nat.add_assoc]; exact HS.out.2.1 _ (by omega)) (by intro t _; exact HS.out.2.2 _) ?_)
  go_ret
  exact ⟨rfl, Like.refl _⟩

set_option maxHeartbeats 4000000 in
set_option maxRecDepth 100000 in
theorem replEndLessN (b off n c i vb voff m vc : Nat) (cs vs : List Value) (w : World) (hij : i < n) (hm : 0 < m) (hroom : i + m ≤ c) (hnc : n ≤ c) (hc63 : c ≤ 9223372036854775807) (hmj : i + m < n)
    (hcl : cs.length = n) (hvl : vs.length = m)
    (hcs : ∀ t v, cs[t]? = some v → w.cell? ⟨b, off + t, none⟩ = some v) (hsq : ∀ t, t < i + m → (w.cell? ⟨b, off + t, none⟩).isSome = true) (hfb : ∀ t, w.frozen? ⟨b, t, none⟩ = false)
    (hvs : ∀ t v, vs[t]? = some v → w.cell? ⟨vb, voff + t, none⟩ = some v) (h1v : ∀ v ∈ vs, v.oneCell' = true) :
    Calls Try.prog 62 #[.slice (some ⟨b, off, none⟩) n c, .int .i64 i, .int .i64 n, .slice (some ⟨vb, voff, none⟩) m vc] w fun e w' =>
      e = .returned (.slice (some ⟨b, off, none⟩) (i + m) c) ∧ Like w' (((w.setCells b (off + i) vs).setCells b (off + (i + m)) (List.replicate (n - (i + m)) (.pointer none)))) := by
  have mixed : Try.prog.follows .mixedOrders = true := by kernel_rfl
  have hsrc : ∀ W, Like W w → Src Try.prog 1 78 (.slice (some ⟨vb, voff, none⟩) m vc) m vs W := fun W hW => Src.ofSlice W Try.underlying78 ⟨vb, voff, none⟩ m vc vs (by omega) (fun j u hj => by rw [Addr.add_lit, hW.cell]; exact hvs j u hj) h1v
  have hsp : ∀ t, t < n → (w.cell? ⟨b, off + t, none⟩).isSome = true := fun t ht => by rw [hcs t _ (List.getElem?_eq_getElem (by omega))]; rfl
  have hsp2 : ∀ t, t < n → ((w.setCells b (off + i) vs).cell? ⟨b, off + t, none⟩).isSome = true := fun t ht =>
    isSome_setCells b _ _ _ (fun u hu => by rw [Nat.add_assoc]; exact hsq _ (by omega)) _ (hsp _ ht)
  have hcl3 : ∀ ty cc, (Builtin.clear_ #[78] ty #[.slice (some ⟨b, off + (i + m), none⟩) (n - (i + m)) cc]).run Try.prog (w.setCells b (off + i) vs) = .ok (.tuple #[]) ((w.setCells b (off + i) vs).setCells b (off + (i + m)) (List.replicate (n - (i + m)) (.pointer none))) := fun ty cc =>
    Lib.run_clear_slice _ _ _ ty _ Try.underlying78 (fun _ => by kernel_rfl) rfl rfl b (off + (i + m)) _ _ (by omega) (fun t ht => by rw [Nat.add_assoc]; exact hsp2 _ (by omega)) (fun t ht => by rw [World.frozen?_setCells]; exact hfb _)
  have hij' : ¬ ((i : Int) = (n : Int)) := by omega
  have hb7 : (i : Int) ≤ (n : Int) := by omega
  have hb5 : ¬ (c = i) := by omega
  have hlt : ((i : Int) + (m : Int) < (n : Int)) := by omega
  have HS := Lib.hid (And.intro hsrc (And.intro hsq hfb))
  have HM := Lib.hid (And.intro hroom hmj)
  have HV := Lib.hid hvl
  have HC3 := Lib.hid hcl3
  have hb13 : ¬ (c = i + m) := by omega
  clear hcl3 hsp hsp2 hcs hsq hfb hvs h1v hsrc hmj hroom
  go_enter Try.func62, Try.ntmps62
  go_wp2_with (at_builtin; refine wpList_append_room1 _ rfl _ _ 78 78 rfl 74 _ _ Try.underlying78 infoN b off i c rfl _ rfl m vs (HS.out.1 _ (Like.refl _)) HM.out.1 (by rw [HV.out]; intro t ht; rw [Nat.add_assoc]; exact HS.out.2.1 _ (by omega)) (by intro t _; exact HS.out.2.2 _) ?_)
  have hcpC := HC3.out 0 (c - (i + m))
  go_wp2_with (simp only [hcpC])
  go_ret
  exact ⟨rfl, Like.refl _⟩
end Go.Proofs.Ytjecadkmlakncaa
