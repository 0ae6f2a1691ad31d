/- What the fixed examples of layer 6 come to: plain facts. No program is in sight here. -/
import Derived.Test.YthcnnadggffjhaaI11
import Derived.Test.YthcnnadggffjhaaQ3
set_option linter.unusedVariables false
set_option linter.unusedSimpArgs false
namespace Go.Proofs.Ythcnnadggffjhaa
open Go.RowKit

def sanR : List Rule := [⟨0, 0, ⟨#[97]⟩, ⟨#[65]⟩, 1⟩, ⟨0, 0, ⟨#[98]⟩, ⟨#[66]⟩, 1⟩, ⟨0, 0, ⟨#[97, 98]⟩, ⟨#[65, 66]⟩, 1⟩, ⟨0, 0, ⟨#[99]⟩, ⟨#[]⟩, 0⟩]
theorem san_pair1 : fromE (accB 1) sanR ⟨#[97, 98]⟩ ⟨#[65, 66]⟩ 0 0 0 = some ⟨[2], 1⟩ := by decide +kernel
theorem san_pair2 : fromE (accB 1) sanR ⟨#[97, 99, 98]⟩ ⟨#[65, 66]⟩ 0 0 0 = some ⟨[0, 3, 1], 2⟩ := by decide +kernel
theorem san_pair3 : fromE (accB 1) sanR ⟨#[97]⟩ ⟨#[66]⟩ 0 0 0 = none := by decide +kernel
theorem san_best1 : outerF (accB 1) sanR ⟨#[65, 66]⟩ sortedS 30 9 [startP] [] [] = some [(⟨#[97, 98]⟩, 1)] := by decide +kernel
theorem san_best2 : outerF (accB 1) sanR ⟨#[]⟩ sortedS 30 1 [startP] [] [] = some [(⟨#[]⟩, 0)] := by decide +kernel
theorem san_best3 : outerF (accB 1) sanR ⟨#[67]⟩ sortedS 30 1 [startP] [] [] = some [] := by decide +kernel
theorem outer_det {acc : Nat → Bool} {rs : List Rule} {out : ByteArray} {N M k : Nat} {q : List Part} {kn : List ByteArray} {l a b : List (ByteArray × Nat)} (h1 : outerF acc rs out sortedS N k q kn l = some a) (h2 : outerF acc rs out sortedS M k q kn l = some b) : a = b := by
  have h3 := outerF_mono acc rs out sortedS h1 (Nat.le_max_left N M)
  have h4 := outerF_mono acc rs out sortedS h2 (Nat.le_max_right N M)
  rw [h3] at h4
  injection h4
end Go.Proofs.Ythcnnadggffjhaa
