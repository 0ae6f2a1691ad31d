/- An argument of a law opened: a rule in the raw, by value. -/
import Derived.Test.YtpidgkngefkbeaaG1
set_option linter.unusedVariables false
set_option linter.unusedSimpArgs false
namespace Go.Proofs.Ytpidgkngefkbeaa
open Go.RowKit Go.ChangeShapes Go.WideShapes Go.Deep

section
variable {H : Type} {enc : TypeId × Value → H} {w : World} {spare : Nat → Bool} {held : Bool} {n : Nat}
theorem rr_open {r0 : Reach} {b0 : Nat} {v : Value} {d : DataW H} {p : List MemPlace} (hv : Value.okWide Try.prog w r0 b0 60 v) (h : DataW.Trod enc Try.prog w 0 spare held 60 v d p) :
    ∃ A1 c1 A2 c2, ∃ r : RawRule, v = .agg #[.slice A1 r.inp.length c1, .slice A2 r.out.length c2, .int .u8 r.frm, .int .u8 r.dst, .int .u8 r.cost] ∧ SlAt v8 (· < w.heap.size) w A1 r.inp ∧ SlAt v8 (· < w.heap.size) w A2 r.out ∧ r.wf := by
  obtain ⟨cs, rfl, hsz⟩ := okWide_struct Try.underlying60 hv
  rw [cellsRawRule] at hsz
  obtain ⟨fuel, h⟩ := h
  obtain ⟨r, A1, c1, A2, c2, hcs, r1, r2, hw⟩ := rawRule_open (by simpa [Value.cells] using hsz) h
  obtain ⟨cs⟩ := cs
  simp only [Value.cells] at hcs
  subst hcs
  exact ⟨A1, c1, A2, c2, r, rfl, r1, r2, hw⟩
end
end Go.Proofs.Ytpidgkngefkbeaa
