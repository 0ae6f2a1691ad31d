/- The first inputs of a longer list are those of a shorter one: plain facts. No program is in sight here. -/
import Derived.Test.YthcnnadggffjhaaQ4
set_option linter.unusedVariables false
set_option linter.unusedSimpArgs false
namespace Go.Proofs.Ythcnnadggffjhaa
open Go.RowKit

section
variable {acc : Nat → Bool} {rs : List Rule} {out : ByteArray} {sort : List ByteArray → List ByteArray}
theorem outer_grows {N k : Nat} {q : List Part} {kn : List ByteArray} {l r : List (ByteArray × Nat)} (h : outerF acc rs out sort N k q kn l = some r) : ∃ t, r = l ++ t := by
  induction N generalizing q kn l with
  | zero => cases h
  | succ N ih =>
    unfold outerF at h
    split at h
    · injection h with h
      exact ⟨[], by simp [h]⟩
    · split at h
      · split at h
        · cases h
        · obtain ⟨t, ht⟩ := ih h
          exact ⟨_, by rw [ht, List.append_assoc]⟩
      · injection h with h
        exact ⟨[], by simp [h]⟩
/-- the fuel that suffices for both -/
theorem outer_prefix {N k n : Nat} (hk : k ≤ n) {q : List Part} {kn : List ByteArray} {l a b : List (ByteArray × Nat)} (h1 : outerF acc rs out sort N k q kn l = some a) (h2 : outerF acc rs out sort N n q kn l = some b) :
    ∃ t, b = a ++ t ∧ (a.length < k → t = []) := by
  induction N generalizing q kn l with
  | zero => cases h1
  | succ N ih =>
    unfold outerF at h1
    split at h1
    · rename_i hq
      unfold outerF at h2
      rw [hq] at h2
      injection h1 with h1
      injection h2 with h2
      exact ⟨[], by rw [← h1, ← h2]; simp, fun _ => rfl⟩
    · rename_i now hq
      split at h1
      · rename_i hl
        split at h1
        · cases h1
        · rename_i st hst
          unfold outerF at h2
          rw [hq] at h2
          simp only [if_pos (show l.length < n by omega), hst] at h2
          exact ih h1 h2
      · rename_i hl
        injection h1 with h1
        obtain ⟨t, ht⟩ := outer_grows h2
        exact ⟨t, by rw [← h1]; exact ht, fun h => by rw [← h1] at h; omega⟩
theorem outer_two {N M k n : Nat} (hk : k ≤ n) {q : List Part} {kn : List ByteArray} {l a b : List (ByteArray × Nat)} (h1 : outerF acc rs out sort N k q kn l = some a) (h2 : outerF acc rs out sort M n q kn l = some b) :
    ∃ t, b = a ++ t ∧ (a.length < k → t = []) :=
  outer_prefix hk (outerF_mono acc rs out sort h1 (Nat.le_max_left N M)) (outerF_mono acc rs out sort h2 (Nat.le_max_right N M))
end
/-- what the law asks of the lists -/
theorem begins_plain {T : Type} [DecidableEq T] {k n : Nat} {a b t : List T} (hk1 : 1 ≤ k) (hkn : k ≤ n) (hb : b = a ++ t) (ht : a.length < k → t = []) :
    (b.take n).take (min k a.length) = a.take k ∧ min k a.length ≤ min n b.length ∧ (min k a.length = k ∨ min n b.length = min k a.length) ∧ (a = [] ↔ b = []) := by
  subst hb
  refine ⟨?_, ?_, ?_, ?_⟩
  · rw [List.take_take, List.take_append_of_le_length (by omega)]
    rcases Nat.lt_or_ge a.length k with h | h
    · rw [List.take_of_length_le (by omega), List.take_of_length_le (by omega)]
    · congr 1
      omega
  · rw [List.length_append]
    omega
  · rcases Nat.lt_or_ge a.length k with h | h
    · rw [ht h, List.append_nil]
      omega
    · omega
  · constructor
    · intro h
      subst h
      simpa using ht (by simp; omega)
    · intro h
      simp at h
      exact h.1
end Go.Proofs.Ythcnnadggffjhaa
