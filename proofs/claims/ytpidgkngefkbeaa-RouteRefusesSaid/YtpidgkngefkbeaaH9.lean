/- RouteRefuses holds for every input: a list in which a rule was replaced by a number is a route exactly if the rules fit, and numbers that are no indices never do. Conditions: none. -/
import Derived.Test.YtpidgkngefkbeaaRows
import Derived.Test.YtpidgkngefkbeaaK9
import Derived.JoinedOf
set_option linter.unusedVariables false
set_option linter.unusedSimpArgs false
namespace Go.Proofs.Ytpidgkngefkbeaa
open Go.RowKit Go.ChangeShapes

set_option maxRecDepth 100000 in
theorem routeRefuses_lifted (os : Os) (started : os.Started) (H : Type) (enc : TypeId × Value → H) :
    ReturnsInHanded {} Try.checked os 9 .any (Rows.routeRefusesSpec.pre6 enc Try.prog Try.f9 Rows.routeRefusesRow.domain false) (Rows.routeRefusesSpec.post enc Try.prog Try.f9 false true false false) := by
  refine law_lifted (C := Try.checked) started own_ laidOut_ (by kernel_rfl) Try.func9 4 Try.underlying4 rfl (by kernel_rfl) rfl ?_
    (ChangeSpec.witness6 (enc := enc) (C := Try.checked) false ⟨#[], #[.agg #[.int .u8 0, .int .u8 0, .slice none 0 0], .slice none 0 0, .agg #[.int .u8 0, .int .u8 0, .int .u8 0, .int .u8 0]], []⟩ 8 (by kernel_rfl) (by kernel_rfl) (by kernel_rfl) (by kernel_rfl)) ?_
  · intro vs ds W p h
    rw [Try.params9] at h
    obtain ⟨v0, v1, v2, d0, d1, d2, p0, p1, p2, rfl, rfl, _⟩ := trodAll3 h
    rfl
  · intro W base args ds p hval hA
    rw [Try.params9] at hA hval
    obtain ⟨v0, v1, v2, d0, d1, d2, p0, p1, p2, hargs, rfl, h0, h1, h2⟩ := trodAll3 hA
    obtain rfl : args = #[v0, v1, v2] := by cases args; simp_all
    obtain ⟨b, dr, A, more, c, rfl, hb, hd, hR, hwf, hml⟩ := raw_open (hval 0 _ v0 rfl rfl) h0
    obtain ⟨A', c', l, rfl, hL, hl8, hl⟩ := bs_open (hval 1 _ v1 rfl rfl) h1
    obtain ⟨w0, wb, w2, w3, rfl, h08, h18, h28, h38⟩ := b4_open (hval 2 _ v2 rfl rfl) h2
    exact refuses_any b dr w0 wb w2 w3 more A A' c c' l W hb hd h08 h18 h28 h38 hR hwf hml hL hl8 hl

theorem routeRefuses_holds : Rows.RouteRefusesSaid :=
  OpenClaim.holds_of_wide 9 Try.f9 rfl rfl rfl rfl rfl rfl rfl ⟨rfl, rfl, rfl, rfl, rfl⟩ rfl rfl rfl rfl rfl (by kernel_rfl) Try.func9 (by kernel_rfl)
    (of_decide_eq_true (by kernel_rfl)) (by unfold Func.isWrapper; first | (rw [if_pos (by decide +kernel)]; kernel_rfl) | (rw [if_neg (by decide +kernel)]; exact ⟨rfl, rfl⟩))
    (fun os started H enc _ => routeRefuses_lifted os started H enc)
end Go.Proofs.Ytpidgkngefkbeaa
