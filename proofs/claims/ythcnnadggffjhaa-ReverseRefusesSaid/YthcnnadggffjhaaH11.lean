/- ReverseRefuses holds for every input: texts with other bytes or with more than 20, inputs that are no letters, and other numbers are refused, and no input is none. Conditions: none. -/
import Derived.Test.YthcnnadggffjhaaRows
import Derived.Test.YthcnnadggffjhaaK11
import Derived.Test.YthcnnadggffjhaaGB
import Derived.JoinedOf
set_option linter.unusedVariables false
set_option linter.unusedSimpArgs false
namespace Go.Proofs.Ythcnnadggffjhaa
open Go.RowKit Go.ChangeShapes

set_option maxRecDepth 100000 in
theorem reverseRefuses_lifted (os : Os) (started : os.Started) (H : Type) (enc : TypeId × Value → H) :
    ReturnsInHanded {} Try.checked os 7 .any (Rows.reverseRefusesSpec.pre6 enc Try.prog Try.f7 Rows.reverseRefusesRow.domain false) (Rows.reverseRefusesSpec.post enc Try.prog Try.f7 false true false false) := by
  refine law_lifted (C := Try.checked) started own6_ laidOut6_ (by kernel_rfl) Try.func7 4 Try.underlying4 rfl (by kernel_rfl) rfl ?_
    (ChangeSpec.witness6 (enc := enc) (C := Try.checked) false ⟨#[], #[.agg #[.int .u8 0, .int .u8 0, .slice none 0 0], .string ⟨#[]⟩, .agg #[.string ⟨#[]⟩, .string ⟨#[]⟩]], []⟩ 8 (by kernel_rfl) (by kernel_rfl) (by kernel_rfl) (by kernel_rfl)) ?_
  · intro vs ds W p h
    rw [Try.params7] at h
    obtain ⟨v0, v1, v2, d0, d1, d2, p0, p1, p2, rfl, rfl, _⟩ := trodAll3 h
    rfl
  · intro W base args ds p hval hA
    rw [Try.params7] at hA hval
    obtain ⟨v0, v1, v2, d0, d1, d2, p0, p1, p2, hargs, rfl, h0, h1, h2⟩ := trodAll3 hA
    obtain rfl : args = #[v0, v1, v2] := by cases args; simp_all
    obtain ⟨b, dr, A, more, c, rfl, hb, hd, hR, hwf, hml⟩ := raw_open (hval 0 _ v0 rfl rfl) h0
    obtain ⟨o0, rfl, hos⟩ := str_open (hval 1 _ v1 rfl rfl) h1
    obtain ⟨s0, s1, rfl, hs0, hs1⟩ := s2_open (hval 2 _ v2 rfl rfl) h2
    exact refuses6_any b dr more A c o0 s0 s1 W hb hd hR hwf hml hos hs0

theorem reverseRefuses_holds : Rows.ReverseRefusesSaid :=
  OpenClaim.holds_of_wide 7 Try.f7 rfl rfl rfl rfl rfl rfl rfl ⟨rfl, rfl, rfl, rfl, rfl⟩ rfl rfl rfl rfl rfl (by kernel_rfl) Try.func7 (by kernel_rfl)
    (of_decide_eq_true (by kernel_rfl)) (by unfold Func.isWrapper; first | (rw [if_pos (by decide +kernel)]; kernel_rfl) | (rw [if_neg (by decide +kernel)]; exact ⟨rfl, rfl⟩))
    (fun os started H enc _ => reverseRefuses_lifted os started H enc)
end Go.Proofs.Ythcnnadggffjhaa
