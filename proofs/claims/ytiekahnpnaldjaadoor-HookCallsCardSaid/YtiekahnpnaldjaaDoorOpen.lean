/-
  A value and a row of values, come in as arguments: what a walk is handed.
-/
import Derived.Test.YtiekahnpnaldjaaDoorVal4
import Derived.Lib.SmallJoins
import Derived.Laws.Cover2
namespace Go.Proofs.YtiekahnpnaldjaaDoor
open Go.ChangeShapes Go.WideShapes Go.RowKit

section
variable {H : Type} {enc : TypeId × Value → H} {w : World} {base : Nat} {spare : Nat → Bool} {held : Bool}
theorem trod_float_open {P : Program} {fuel : Nat} {t : TypeId} {cs : List Value} {x : DataW H × List MemPlace} {k : FloatKind} (ht : P.underlying t = some (.float k)) (h : DataW.trod enc P w base spare held fuel t cs = some x) : ∃ b, cs = [.float k b] ∧ x = (.lit (.float k b), []) ∧ (Lit.float k b).wf = true := by
  cases fuel with
  | zero => simp [DataW.trod] at h
  | succ n =>
    unfold DataW.trod at h
    rw [ht] at h
    split at h <;> simp_all
theorem bounds_f64 {n : Nat} (h : (Lit.float .f64 n).wf = true) : n < 18446744073709551616 := by
  simpa [Lit.wf] using h

/-- Four cells that read as a value. -/
theorem open_val {c0 c1 c2 c3 : Value} {y0 y1 y2 y3 : DataW H × List MemPlace} {n : Nat} (h0 : DataW.trod enc Tryd.prog w base spare held n 3 [c0] = some y0) (h1 : DataW.trod enc Tryd.prog w base spare held n 2 [c1] = some y1)
    (h2 : DataW.trod enc Tryd.prog w base spare held n 9 [c2] = some y2) (h3 : DataW.trod enc Tryd.prog w base spare held n 36 [c3] = some y3) :
    ∃ v : V, v.Ok ∧ c0 = .int .i64 v.k ∧ c1 = .int .i64 v.i ∧ c2 = .string v.s ∧ c3 = .float .f64 v.f := by
  obtain ⟨k, e0, _, w0⟩ := DataW.trod_int Tryd.underlying3 h0
  obtain ⟨i, e1, _, w1⟩ := DataW.trod_int Tryd.underlying2 h1
  obtain ⟨s, e2, _, w2⟩ := DataW.trod_string Tryd.underlying9 h2
  obtain ⟨f, e3, _, w3⟩ := trod_float_open Tryd.underlying36 h3
  simp only [List.cons.injEq, and_true] at e0 e1 e2 e3
  obtain ⟨k0, k1⟩ := bounds_i64 w0
  obtain ⟨i0, i1⟩ := bounds_i64 w1
  exact ⟨⟨k, i, s, f⟩, ⟨k0, k1, i0, i1, bounds_f64 w3, by unfold maxLen at w2; simp; omega⟩, e0, e1, e2, e3⟩

set_option maxRecDepth 100000 in
/-- A value, as an argument. -/
theorem open_arg {r : Reach} {b0 : Nat} {v : Value} {d : DataW H} {p : List MemPlace} (hv : Value.okWide Tryd.prog w r b0 38 v) (h : DataW.Trod enc Tryd.prog w base spare held 38 v d p) :
    ∃ x : V, x.Ok ∧ v = x.val := by
  obtain ⟨v0, v1, v2, v3, y0, y1, y2, y3, n, rfl, _, _, h0, h1, h2, h3⟩ := Go.Joins.open_agg4 Tryd.underlying38 (by kernel_rfl) (by kernel_rfl) hv h
  obtain ⟨x, hx, rfl, rfl, rfl, rfl⟩ := open_val h0 h1 h2 h3
  exact ⟨x, hx, rfl⟩

set_option maxRecDepth 100000 in
/-- A row of values, as an argument. -/
theorem open_row {r : Reach} {b0 : Nat} {v : Value} {d : DataW H} {p : List MemPlace} (hv : Value.okWide Tryd.prog w r b0 39 v) (h : DataW.Trod enc Tryd.prog w base (fun _ => true) held 39 v d p) :
    ∃ (l : List V) (b off : Nat), VRow w b off v l ∧ OkL l ∧ l.length ≤ 9223372036854775807 := by
  obtain ⟨a0, l0, c0, rfl⟩ := okWide_slice Tryd.underlying39 hv
  obtain ⟨fuel, hf⟩ := h
  rcases Go.Deep.open_slice Tryd.underlying39 hf with ⟨hcs, _⟩ | ⟨a, len, cap, m, n, D, Pl, hcs, hb, hl, hm, hmm, _, hx⟩
  · simp [Value.cells] at hcs
    obtain ⟨rfl, rfl, rfl⟩ := hcs
    exact ⟨[], 0, 0, ⟨⟨none, 0, rfl, by simp⟩, by simp⟩, fun v hv => (by simp at hv), by simp⟩
  · simp [Value.cells] at hcs
    obtain ⟨rfl, rfl, rfl⟩ := hcs
    have hmm' : m = c0 := by simpa using hmm
    have hc : Tryd.prog.cellsOf 38 = 4 := by kernel_rfl
    have key : ∀ i, i < m → ∃ x : V, x.Ok ∧ w.cell? (a.add (i * 4)) = some (.int .i64 x.k) ∧ w.cell? ((a.add (i * 4)).add 1) = some (.int .i64 x.i) ∧ w.cell? ((a.add (i * 4)).add 2) = some (.string x.s) ∧ w.cell? ((a.add (i * 4)).add 3) = some (.float .f64 x.f) := by
      intro i hi
      obtain ⟨cs', h1, h2⟩ := hx i hi
      rw [hc] at h1
      obtain ⟨_, hlen, hcell⟩ := World.cells?_some h1
      obtain ⟨y0, y1, y2, y3, n', _, _, t0, t1, t2, t3⟩ := Go.Joins.trod_struct4 Tryd.underlying38 h2
      match cs', hlen with
      | [c0, c1, c2, c3], _ =>
        have k0 : Tryd.prog.cellsOf 3 = 1 := by kernel_rfl
        have k1 : Tryd.prog.cellsOf 2 = 1 := by kernel_rfl
        have k2 : Tryd.prog.cellsOf 9 = 1 := by kernel_rfl
        have k3 : Tryd.prog.cellsOf 36 = 1 := by kernel_rfl
        obtain ⟨x, hx, rfl, rfl, rfl, rfl⟩ := open_val (by simpa [k0] using t0) (by simpa [k1] using t1) (by simpa [k2] using t2) (by simpa [k3] using t3)
        exact ⟨x, hx, by simpa [Addr.add] using hcell 0 (by omega), by simpa using hcell 1 (by omega), by simpa using hcell 2 (by omega), by simpa using hcell 3 (by omega)⟩
    haveI : Inhabited V := ⟨V.zero⟩
    obtain ⟨f, hf⟩ := Go.Deep.choose_lt key
    refine ⟨(List.range l0).map f, a.block, a.off, ⟨⟨some a, c0, by simp, fun hne => ?_⟩, fun i v hv => ?_⟩, fun v hv => ?_, ?_⟩
    · have h0 : 0 < l0 := by
        cases l0 with
        | zero => simp at hne
        | succ _ => omega
      have := World.cell?_spot (hf 0 (by omega)).2.1
      obtain ⟨ab, ao, asp⟩ := a
      simp [Addr.add] at this
      subst this
      rfl
    · have hi : i < l0 := by
        have := (List.getElem?_eq_some_iff.1 hv).1
        simpa using this
      simp [hi] at hv
      subst hv
      have h4 := hf i (by omega)
      have hsp := World.cell?_spot (hf 0 (by omega)).2.1
      obtain ⟨ab, ao, asp⟩ := a
      simp [Addr.add] at hsp
      subst hsp
      have e0 : (⟨ab, ao, none⟩ : Addr).add (i * 4) = ⟨ab, ao + i * 4, none⟩ := by
        rw [Addr.add_lit]
      rw [e0] at h4
      simp only [Addr.add_lit] at h4
      exact ⟨h4.2.1, h4.2.2.1, h4.2.2.2.1, h4.2.2.2.2⟩
    · simp at hv
      obtain ⟨i, hi, rfl⟩ := hv
      exact (hf i (by omega)).1
    · simp
      unfold maxLen at hm
      omega
end
end Go.Proofs.YtiekahnpnaldjaaDoor
