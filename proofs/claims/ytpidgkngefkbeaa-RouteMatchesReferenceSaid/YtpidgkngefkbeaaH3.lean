/- RouteMatchesReference holds for every input: all functions of route return the results of the reference, for every scheme that the law makes, every list and every mode. Conditions: none. -/
import Derived.Test.YtpidgkngefkbeaaRows
import Derived.Test.YtpidgkngefkbeaaK3
import Derived.JoinedOf
set_option linter.unusedVariables false
set_option linter.unusedSimpArgs false
namespace Go.Proofs.Ytpidgkngefkbeaa
open Go.RowKit Go.ChangeShapes

set_option maxRecDepth 100000 in
theorem routeMatchesReference_lifted (os : Os) (started : os.Started) (H : Type) (enc : TypeId × Value → H) :
    ReturnsInHanded {} Try.checked os 3 .any (Rows.routeMatchesReferenceSpec.pre6 enc Try.prog Try.f3 Rows.routeMatchesReferenceRow.domain false) (Rows.routeMatchesReferenceSpec.post enc Try.prog Try.f3 false true false false) := by
  refine law_lifted (C := Try.checked) started own_ laidOut_ (by kernel_rfl) Try.func3 4 Try.underlying4 rfl (by kernel_rfl) rfl ?_
    (ChangeSpec.witness6 (enc := enc) (C := Try.checked) false ⟨#[], #[.agg #[.int .u8 0, .int .u8 0, .slice none 0 0], .agg #[.int .u8 0, .int .u8 0], .slice none 0 0], []⟩ 8 (by kernel_rfl) (by kernel_rfl) (by kernel_rfl) (by kernel_rfl)) ?_
  · intro vs ds W p h
    rw [Try.params3] at h
    obtain ⟨v0, v1, v2, d0, d1, d2, p0, p1, p2, rfl, rfl, _⟩ := trodAll3 h
    rfl
  · intro W base args ds p hval hA
    rw [Try.params3] at hA hval
    obtain ⟨v0, v1, v2, d0, d1, d2, p0, p1, p2, hargs, rfl, h0, h1, h2⟩ := trodAll3 hA
    obtain rfl : args = #[v0, v1, v2] := by cases args; simp_all
    obtain ⟨b, dr, A, more, c, rfl, hb, hd, hR, hwf, hml⟩ := raw_open (hval 0 _ v0 rfl rfl) h0
    obtain ⟨w0, wb, rfl, h08, h18⟩ := b2_open (hval 1 _ v1 rfl rfl) h1
    obtain ⟨A', c', l, rfl, hL, hl8, hl⟩ := i8s_open (hval 2 _ v2 rfl rfl) h2
    exact matches_any b dr w0 wb more A c A' c' l W hb hd h08 h18 hR hwf hml hL hl8 hl

theorem routeMatchesReference_holds : Rows.RouteMatchesReferenceSaid :=
  OpenClaim.holds_of_wide 3 Try.f3 rfl rfl rfl rfl rfl rfl rfl ⟨rfl, rfl, rfl, rfl, rfl⟩ rfl rfl rfl rfl rfl (by kernel_rfl) Try.func3 (by kernel_rfl)
    (of_decide_eq_true (by kernel_rfl)) (by unfold Func.isWrapper; first | (rw [if_pos (by decide +kernel)]; kernel_rfl) | (rw [if_neg (by decide +kernel)]; exact ⟨rfl, rfl⟩))
    (fun os started H enc _ => routeMatchesReference_lifted os started H enc)
end Go.Proofs.Ytpidgkngefkbeaa
