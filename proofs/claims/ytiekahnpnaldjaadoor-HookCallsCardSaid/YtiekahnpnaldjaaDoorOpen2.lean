/-
  Entries and definitions, come in as arguments: what a walk is handed.
-/
import Derived.Test.YtiekahnpnaldjaaDoorOpen
import Derived.Test.YtiekahnpnaldjaaDoorLaw7
namespace Go.Proofs.YtiekahnpnaldjaaDoor
open Go.ChangeShapes Go.WideShapes Go.RowKit

section
variable {H : Type} {enc : TypeId × Value → H} {w : World} {base : Nat} {held : Bool}
set_option maxRecDepth 100000 in
theorem open_row_cells {n : Nat} {v : Value} {x : DataW H × List MemPlace} (hf : DataW.trod enc Tryd.prog w base (fun _ => true) held n 39 [v] = some x) :
    ∃ (l : List V) (b off : Nat), VRow w b off v l ∧ OkL l ∧ l.length ≤ 9223372036854775807 := by
  rcases Go.Deep.open_slice Tryd.underlying39 hf with ⟨hcs, _⟩ | ⟨a, l0, c0, m, n, D, Pl, hcs, hb, hl, hm, hmm, _, hx⟩
  · obtain rfl : v = .slice none 0 0 := by simpa using hcs
    exact ⟨[], 0, 0, ⟨⟨none, 0, rfl, by simp⟩, by simp⟩, fun v hv => (by simp at hv), by simp⟩
  · obtain rfl : v = .slice (some a) l0 c0 := by simpa using hcs
    have hmm' : m = c0 := by simpa using hmm
    have hc : Tryd.prog.cellsOf 38 = 4 := by kernel_rfl
    have key : ∀ i, i < m → ∃ x : V, x.Ok ∧ w.cell? (a.add (i * 4)) = some (.int .i64 x.k) ∧ w.cell? ((a.add (i * 4)).add 1) = some (.int .i64 x.i) ∧ w.cell? ((a.add (i * 4)).add 2) = some (.string x.s) ∧ w.cell? ((a.add (i * 4)).add 3) = some (.float .f64 x.f) := by
      intro i hi
      obtain ⟨cs', h1, h2⟩ := hx i hi
      rw [hc] at h1
      obtain ⟨_, hlen, hcell⟩ := World.cells?_some h1
      obtain ⟨y0, y1, y2, y3, n', _, _, t0, t1, t2, t3⟩ := Go.Joins.trod_struct4 Tryd.underlying38 h2
      match cs', hlen with
      | [c0, c1, c2, c3], _ =>
        have k0 : Tryd.prog.cellsOf 3 = 1 := by kernel_rfl
        have k1 : Tryd.prog.cellsOf 2 = 1 := by kernel_rfl
        have k2 : Tryd.prog.cellsOf 9 = 1 := by kernel_rfl
        have k3 : Tryd.prog.cellsOf 36 = 1 := by kernel_rfl
        obtain ⟨x, hx, rfl, rfl, rfl, rfl⟩ := open_val (by simpa [k0] using t0) (by simpa [k1] using t1) (by simpa [k2] using t2) (by simpa [k3] using t3)
        exact ⟨x, hx, by simpa [Addr.add] using hcell 0 (by omega), by simpa using hcell 1 (by omega), by simpa using hcell 2 (by omega), by simpa using hcell 3 (by omega)⟩
    haveI : Inhabited V := ⟨V.zero⟩
    obtain ⟨f, hf⟩ := Go.Deep.choose_lt key
    refine ⟨(List.range l0).map f, a.block, a.off, ⟨⟨some a, c0, by simp, fun hne => ?_⟩, fun i v hv => ?_⟩, fun v hv => ?_, ?_⟩
    · have h0 : 0 < l0 := by
        cases l0 with
        | zero => simp at hne
        | succ _ => omega
      have := World.cell?_spot (hf 0 (by omega)).2.1
      obtain ⟨ab, ao, asp⟩ := a
      simp [Addr.add] at this
      subst this
      rfl
    · have hi : i < l0 := by
        have := (List.getElem?_eq_some_iff.1 hv).1
        simpa using this
      simp [hi] at hv
      subst hv
      have h4 := hf i (by omega)
      have hsp := World.cell?_spot (hf 0 (by omega)).2.1
      obtain ⟨ab, ao, asp⟩ := a
      simp [Addr.add] at hsp
      subst hsp
      have e0 : (⟨ab, ao, none⟩ : Addr).add (i * 4) = ⟨ab, ao + i * 4, none⟩ := by
        rw [Addr.add_lit]
      rw [e0] at h4
      simp only [Addr.add_lit] at h4
      exact ⟨h4.2.1, h4.2.2.1, h4.2.2.2.1, h4.2.2.2.2⟩
    · simp at hv
      obtain ⟨i, hi, rfl⟩ := hv
      exact (hf i (by omega)).1
    · simp
      unfold maxLen at hm
      omega

set_option maxRecDepth 100000 in
/-- An entry, as an argument. -/
theorem open_ent {r : Reach} {b0 : Nat} {v : Value} {d : DataW H} {p : List MemPlace} (hv : Value.okWide Tryd.prog w r b0 74 v) (h : DataW.Trod enc Tryd.prog w base (fun _ => true) held 74 v d p) :
    ∃ (s : Value) (i : Int) (l : List V) (b off : Nat), v = entVal s i ∧ VRow w b off s l ∧ OkL l ∧ l.length ≤ 9223372036854775807 := by
  obtain ⟨v0, v1, y0, y1, n, rfl, _, _, h0, h1⟩ := Go.Joins.open_agg2 Tryd.underlying74 (by kernel_rfl) (by kernel_rfl) hv h
  obtain ⟨i, e1, _, w1⟩ := DataW.trod_int Tryd.underlying2 h1
  simp only [List.cons.injEq, and_true] at e1
  obtain ⟨l, b, off, hr, ol, hl⟩ := open_row_cells h0
  exact ⟨v0, i, l, b, off, by rw [e1], hr, ol, hl⟩

set_option maxRecDepth 100000 in
/-- Parts of a definition. -/
theorem open_parts {n : Nat} {v : Value} {x : DataW H × List MemPlace} (hf : DataW.trod enc Tryd.prog w base (fun _ => true) held n 51 [v] = some x) :
    ∃ (ps : List (Int × Int)) (b off : Nat) (a : Option Addr) (c : Nat), v = .slice a ps.length c ∧ (ps ≠ [] → a = some ⟨b, off, none⟩) ∧ PartsAt w b off ps ∧ (∀ f h, (f, h) ∈ ps → (-9223372036854775808 ≤ f ∧ f ≤ 9223372036854775807) ∧ (-9223372036854775808 ≤ h ∧ h ≤ 9223372036854775807)) ∧ ps.length ≤ 9223372036854775807 := by
  rcases Go.Deep.open_slice Tryd.underlying51 hf with ⟨hcs, _⟩ | ⟨a, l0, c0, m, n, D, Pl, hcs, hb, hl, hm, hmm, _, hx⟩
  · obtain rfl : v = .slice none 0 0 := by simpa using hcs
    exact ⟨[], 0, 0, none, 0, rfl, by simp, fun j f h hj => (by simp at hj), by simp, by simp⟩
  · obtain rfl : v = .slice (some a) l0 c0 := by simpa using hcs
    have hmm' : m = c0 := by simpa using hmm
    have hc : Tryd.prog.cellsOf 66 = 2 := by kernel_rfl
    have key : ∀ i, i < m → ∃ x : Int × Int, ((-9223372036854775808 ≤ x.1 ∧ x.1 ≤ 9223372036854775807) ∧ (-9223372036854775808 ≤ x.2 ∧ x.2 ≤ 9223372036854775807)) ∧ w.cell? (a.add (i * 2)) = some (.int .i64 x.1) ∧ w.cell? ((a.add (i * 2)).add 1) = some (.int .i64 x.2) := by
      intro i hi
      obtain ⟨cs', h1, h2⟩ := hx i hi
      rw [hc] at h1
      obtain ⟨_, hlen, hcell⟩ := World.cells?_some h1
      match cs', hlen with
      | [c0, c1], _ =>
        obtain ⟨y0, y1, n', _, _, t0, t1⟩ := Go.ChangeShapes.trod_struct2 Tryd.underlying66 h2
        have k0 : Tryd.prog.cellsOf 3 = 1 := by kernel_rfl
        obtain ⟨f, e0, _, w0⟩ := DataW.trod_int Tryd.underlying3 (show DataW.trod enc Tryd.prog w base (fun _ => true) held n' 3 [c0] = some y0 by simpa [k0] using t0)
        obtain ⟨g, e1, _, w1⟩ := DataW.trod_int Tryd.underlying3 (show DataW.trod enc Tryd.prog w base (fun _ => true) held n' 3 [c1] = some y1 by simpa [k0] using t1)
        simp only [List.cons.injEq, and_true] at e0 e1
        subst e0 e1
        exact ⟨(f, g), ⟨bounds_i64 w0, bounds_i64 w1⟩, by simpa [Addr.add] using hcell 0 (by omega), by simpa using hcell 1 (by omega)⟩
    obtain ⟨f, hf⟩ := Go.Deep.choose_lt key
    refine ⟨(List.range l0).map f, a.block, a.off, some a, c0, by simp, fun hne => ?_, fun j p q hj => ?_, fun p q hpq => ?_, ?_⟩
    · have h0 : 0 < l0 := by
        cases l0 with
        | zero => simp at hne
        | succ _ => omega
      have := World.cell?_spot (hf 0 (by omega)).2.1
      obtain ⟨ab, ao, asp⟩ := a
      simp [Addr.add] at this
      subst this
      rfl
    · have hi : j < l0 := by
        have := (List.getElem?_eq_some_iff.1 hj).1
        simpa using this
      simp [hi] at hj
      have h4 := hf j (by omega)
      rw [hj] at h4
      have hsp := World.cell?_spot (hf 0 (by omega)).2.1
      obtain ⟨ab, ao, asp⟩ := a
      simp [Addr.add] at hsp
      subst hsp
      have e0 : (⟨ab, ao, none⟩ : Addr).add (j * 2) = ⟨ab, ao + j * 2, none⟩ := by
        rw [Addr.add_lit]
      rw [e0] at h4
      simp only [Addr.add_lit] at h4
      exact ⟨h4.2.1, h4.2.2⟩
    · simp at hpq
      obtain ⟨i, hi, e⟩ := hpq
      have := (hf i (by omega)).1
      rw [e] at this
      exact this
    · simp
      unfold maxLen at hm
      omega

set_option maxRecDepth 100000 in
/-- A definition, as an argument. -/
theorem open_def {r : Reach} {b0 : Nat} {v : Value} {d : DataW H} {p : List MemPlace} (hv : Value.okWide Tryd.prog w r b0 53 v) (h : DataW.Trod enc Tryd.prog w base (fun _ => true) held 53 v d p) :
    ∃ (nm : ByteArray) (kd cm : Int) (ps : List (Int × Int)) (b off : Nat) (a : Option Addr) (c : Nat), v = defVal nm kd (.slice a ps.length c) cm ∧ nm.size ≤ 9223372036854775807 ∧ (-9223372036854775808 ≤ cm ∧ cm ≤ 9223372036854775807) ∧
      (ps ≠ [] → a = some ⟨b, off, none⟩) ∧ PartsAt w b off ps ∧ (∀ f h, (f, h) ∈ ps → (-9223372036854775808 ≤ f ∧ f ≤ 9223372036854775807) ∧ (-9223372036854775808 ≤ h ∧ h ≤ 9223372036854775807)) ∧ ps.length ≤ 9223372036854775807 := by
  obtain ⟨v0, v1, v2, v3, y0, y1, y2, y3, n, rfl, _, _, h0, h1, h2, h3⟩ := Go.Joins.open_agg4 Tryd.underlying53 (by kernel_rfl) (by kernel_rfl) hv h
  obtain ⟨nm, e0, _, w0⟩ := DataW.trod_string Tryd.underlying9 h0
  obtain ⟨kd, e1, _, _⟩ := DataW.trod_int Tryd.underlying3 h1
  obtain ⟨cm, e3, _, w3⟩ := DataW.trod_int Tryd.underlying3 h3
  simp only [List.cons.injEq, and_true] at e0 e1 e3
  obtain ⟨ps, b, off, a, c, rfl, k1, k2, k3, k4⟩ := open_parts h2
  exact ⟨nm, kd, cm, ps, b, off, a, c, by rw [e0, e1, e3], by unfold maxLen at w0; omega, bounds_i64 w3, k1, k2, k3, k4⟩
end
end Go.Proofs.YtiekahnpnaldjaaDoor
