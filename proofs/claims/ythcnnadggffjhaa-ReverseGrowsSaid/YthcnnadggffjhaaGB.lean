/- Arguments of the laws of layer 6 opened: strings, arrays of two strings, of two small numbers. -/
import Derived.Test.YthcnnadggffjhaaGA
set_option linter.unusedVariables false
set_option linter.unusedSimpArgs false
namespace Go.Proofs.Ythcnnadggffjhaa
open Go.RowKit Go.ChangeShapes Go.WideShapes Go.Deep

theorem own6_ : ownKnob Try.prog.godebug = none := by kernel_rfl
theorem laidOut6_ : laidOutB Try.prog = true := by kernel_rfl
set_option maxRecDepth 100000 in
theorem cellsStr : Try.prog.cellsOf 9 = 1 := by kernel_rfl
set_option maxRecDepth 100000 in
theorem cellsS2 : Try.prog.cellsOf 69 = 2 := by kernel_rfl
set_option maxRecDepth 100000 in
theorem cellsI8b : Try.prog.cellsOf 26 = 1 := by kernel_rfl
set_option maxRecDepth 100000 in
theorem cellsI82 : Try.prog.cellsOf 27 = 2 := by kernel_rfl
section
variable {H : Type} {enc : TypeId × Value → H} {w : World} {spare : Nat → Bool} {held : Bool} {n : Nat}
set_option maxRecDepth 100000 in
theorem trodAll2 {P : Program} {base : Nat} {t0 t1 : TypeId} {vs : List Value} {ds : List (DataW H)} {ps : List MemPlace} (h : DataW.TrodAll enc P w base spare held [t0, t1] vs ds ps) :
    ∃ v0 v1 d0 d1 p0 p1, vs = [v0, v1] ∧ ds = [d0, d1] ∧ DataW.Trod enc P w base spare held t0 v0 d0 p0 ∧ DataW.Trod enc P w base spare held t1 v1 d1 p1 := by
  obtain ⟨v0, vs1, d0, ds1, p0, q0, rfl, rfl, rfl, h0, h⟩ := trodAll_cons h
  obtain ⟨v1, vs2, d1, ds2, p1, q1, rfl, rfl, rfl, h1, h⟩ := trodAll_cons h
  obtain ⟨rfl, rfl, rfl⟩ := trodAll_nil h
  exact ⟨v0, v1, d0, d1, p0, p1, rfl, rfl, h0, h1⟩
theorem strV_open {P : Program} {t : TypeId} {v : Value} {y : DataW H × List MemPlace} (ht : P.underlying t = some .string) (h : DataW.trod enc P w 0 spare held n t [v] = some y) : ∃ s : ByteArray, v = .string s ∧ s.size ≤ maxLen := by
  obtain ⟨s, h1, _, h2⟩ := DataW.trod_string ht h
  injection h1 with h1
  exact ⟨s, h1, h2⟩
set_option maxRecDepth 100000 in
theorem str_open {r : Reach} {b0 : Nat} {v : Value} {d : DataW H} {p : List MemPlace} (hv : Value.okWide Try.prog w r b0 9 v) (h : DataW.Trod enc Try.prog w 0 spare held 9 v d p) :
    ∃ s : ByteArray, v = .string s ∧ s.size ≤ maxLen := by
  obtain ⟨s, rfl⟩ := okWide_string Try.underlying9 hv
  obtain ⟨fuel, h⟩ := h
  exact strV_open Try.underlying9 h
set_option maxRecDepth 100000 in
theorem s2_open {r : Reach} {b0 : Nat} {v : Value} {d : DataW H} {p : List MemPlace} (hv : Value.okWide Try.prog w r b0 69 v) (h : DataW.Trod enc Try.prog w 0 spare held 69 v d p) :
    ∃ a b : ByteArray, v = .agg #[.string a, .string b] ∧ a.size ≤ maxLen ∧ b.size ≤ maxLen := by
  obtain ⟨cs, rfl, hsz⟩ := okWide_arr Try.underlying69 hv
  rw [cellsS2] at hsz
  obtain ⟨fuel, h⟩ := h
  obtain ⟨c0, m0, z0, e0, h0⟩ := elem_open Try.underlying69 cellsStr cellsS2 h (i := 0) (by decide)
  obtain ⟨c1, m1, z1, e1, h1⟩ := elem_open Try.underlying69 cellsStr cellsS2 h (i := 1) (by decide)
  obtain ⟨x0, rfl, hx0⟩ := strV_open Try.underlying9 h0
  obtain ⟨x1, rfl, hx1⟩ := strV_open Try.underlying9 h1
  obtain ⟨cs⟩ := cs
  match cs, hsz with
  | [_, _], _ =>
    simp [Value.cells] at e0 e1
    subst e0 e1
    exact ⟨x0, x1, rfl, hx0, hx1⟩
set_option maxRecDepth 100000 in
theorem i82_open {r : Reach} {b0 : Nat} {v : Value} {d : DataW H} {p : List MemPlace} (hv : Value.okWide Try.prog w r b0 27 v) (h : DataW.Trod enc Try.prog w 0 spare held 27 v d p) :
    ∃ a b : Int, v = .agg #[.int .i8 a, .int .i8 b] ∧ (-128 ≤ a ∧ a ≤ 127) ∧ (-128 ≤ b ∧ b ≤ 127) := by
  obtain ⟨cs, rfl, hsz⟩ := okWide_arr Try.underlying27 hv
  rw [cellsI82] at hsz
  obtain ⟨fuel, h⟩ := h
  obtain ⟨c0, m0, z0, e0, h0⟩ := elem_open Try.underlying27 cellsI8b cellsI82 h (i := 0) (by decide)
  obtain ⟨c1, m1, z1, e1, h1⟩ := elem_open Try.underlying27 cellsI8b cellsI82 h (i := 1) (by decide)
  obtain ⟨x0, k0, _, g0⟩ := DataW.trod_int Try.underlying26 h0
  obtain ⟨x1, k1, _, g1⟩ := DataW.trod_int Try.underlying26 h1
  simp [Lit.wf, IntKind.min, IntKind.max, IntKind.signed, IntKind.bits] at g0 g1
  injection k0 with k0
  injection k1 with k1
  subst k0 k1
  obtain ⟨cs⟩ := cs
  match cs, hsz with
  | [_, _], _ =>
    simp [Value.cells] at e0 e1
    subst e0 e1
    exact ⟨x0, x1, rfl, by omega, by omega⟩
end
end Go.Proofs.Ythcnnadggffjhaa
