/- Arguments of the laws of layer 3 opened: an array of four bytes, numbers of one byte with a sign, a rule in the raw. -/
import Derived.Test.YtpidgkngefkbeaaG1
set_option linter.unusedVariables false
set_option linter.unusedSimpArgs false
namespace Go.Proofs.Ytpidgkngefkbeaa
open Go.RowKit Go.ChangeShapes Go.WideShapes Go.Deep

theorem cellsB4 : Try.prog.cellsOf 64 = 4 := by kernel_rfl
section
variable {H : Type} {enc : TypeId × Value → H} {w : World} {spare : Nat → Bool} {held : Bool} {n : Nat}
theorem b4_open {r : Reach} {b0 : Nat} {v : Value} {d : DataW H} {p : List MemPlace} (hv : Value.okWide Try.prog w r b0 64 v) (h : DataW.Trod enc Try.prog w 0 spare held 64 v d p) :
    ∃ a b c e : Nat, v = .agg #[.int .u8 a, .int .u8 b, .int .u8 c, .int .u8 e] ∧ a < 256 ∧ b < 256 ∧ c < 256 ∧ e < 256 := by
  obtain ⟨cs, rfl, hsz⟩ := okWide_arr Try.underlying64 hv
  rw [cellsB4] at hsz
  obtain ⟨fuel, h⟩ := h
  obtain ⟨c0, m0, z0, e0, h0⟩ := elem_open Try.underlying64 cellsB cellsB4 h (i := 0) (by decide)
  obtain ⟨c1, m1, z1, e1, h1⟩ := elem_open Try.underlying64 cellsB cellsB4 h (i := 1) (by decide)
  obtain ⟨c2, m2, z2, e2, h2⟩ := elem_open Try.underlying64 cellsB cellsB4 h (i := 2) (by decide)
  obtain ⟨c3, m3, z3, e3, h3⟩ := elem_open Try.underlying64 cellsB cellsB4 h (i := 3) (by decide)
  obtain ⟨x0, hx0, rfl⟩ := u8_open Try.underlying5 h0
  obtain ⟨x1, hx1, rfl⟩ := u8_open Try.underlying5 h1
  obtain ⟨x2, hx2, rfl⟩ := u8_open Try.underlying5 h2
  obtain ⟨x3, hx3, rfl⟩ := u8_open Try.underlying5 h3
  obtain ⟨cs⟩ := cs
  match cs, hsz with
  | [_, _, _, _], _ =>
    simp [Value.cells] at e0 e1 e2 e3
    subst e0 e1 e2 e3
    exact ⟨x0, x1, x2, x3, rfl, hx0, hx1, hx2, hx3⟩
end
end Go.Proofs.Ytpidgkngefkbeaa
