/- ReverseGrows holds for every input: with one more rule, which takes a letter, a text has an input if it had one before, and the first one does not become dearer. Conditions: none. -/
import Derived.Test.YthcnnadggffjhaaRows
import Derived.Test.YthcnnadggffjhaaK13
import Derived.Test.YthcnnadggffjhaaGB
import Derived.JoinedOf
set_option linter.unusedVariables false
set_option linter.unusedSimpArgs false
namespace Go.Proofs.Ythcnnadggffjhaa
open Go.RowKit Go.ChangeShapes

set_option maxRecDepth 100000 in
theorem reverseGrows_lifted (os : Os) (started : os.Started) (H : Type) (enc : TypeId × Value → H) :
    ReturnsInHanded {} Try.checked os 6 .any (Rows.reverseGrowsSpec.pre6 enc Try.prog Try.f6 Rows.reverseGrowsRow.domain false) (Rows.reverseGrowsSpec.post enc Try.prog Try.f6 false true false false) := by
  refine law_lifted (C := Try.checked) started own6_ laidOut6_ (by kernel_rfl) Try.func6 4 Try.underlying4 rfl (by kernel_rfl) rfl ?_
    (ChangeSpec.witness6 (enc := enc) (C := Try.checked) false ⟨#[], #[.agg #[.int .u8 0, .int .u8 0, .slice none 0 0], .slice none 0 0, .agg #[.slice none 0 0, .slice none 0 0, .int .u8 0, .int .u8 0, .int .u8 0]], []⟩ 8 (by kernel_rfl) (by kernel_rfl) (by kernel_rfl) (by kernel_rfl)) ?_
  · intro vs ds W p h
    rw [Try.params6] at h
    obtain ⟨v0, v1, v2, d0, d1, d2, p0, p1, p2, rfl, rfl, _⟩ := trodAll3 h
    rfl
  · intro W base args ds p hval hA
    rw [Try.params6] at hA hval
    obtain ⟨v0, v1, v2, d0, d1, d2, p0, p1, p2, hargs, rfl, h0, h1, h2⟩ := trodAll3 hA
    obtain rfl : args = #[v0, v1, v2] := by cases args; simp_all
    obtain ⟨b, dr, A, more, c, rfl, hb, hd, hR, hwf, hml⟩ := raw_open (hval 0 _ v0 rfl rfl) h0
    obtain ⟨A', c', l, rfl, hL, hl8, hl⟩ := bs_open (hval 1 _ v1 rfl rfl) h1
    obtain ⟨A1, c1, A2, c2, r, rfl, hr1, hr2, hrw⟩ := rr_open (hval 2 _ v2 rfl rfl) h2
    exact grows6_any b dr more A c A' c' l A1 A2 c1 c2 r W hb hd hR hwf hml hL hl8 hl hr1 hr2 hrw

theorem reverseGrows_holds : Rows.ReverseGrowsSaid :=
  OpenClaim.holds_of_wide 6 Try.f6 rfl rfl rfl rfl rfl rfl rfl ⟨rfl, rfl, rfl, rfl, rfl⟩ rfl rfl rfl rfl rfl (by kernel_rfl) Try.func6 (by kernel_rfl)
    (of_decide_eq_true (by kernel_rfl)) (by unfold Func.isWrapper; first | (rw [if_pos (by decide +kernel)]; kernel_rfl) | (rw [if_neg (by decide +kernel)]; exact ⟨rfl, rfl⟩))
    (fun os started H enc _ => reverseGrows_lifted os started H enc)
end Go.Proofs.Ythcnnadggffjhaa
