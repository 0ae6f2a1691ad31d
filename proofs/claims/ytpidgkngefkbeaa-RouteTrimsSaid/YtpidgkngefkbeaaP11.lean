/- The list of kept indices, walked along: plain facts for RouteTrims. No program is in sight here. -/
import Derived.Test.YtpidgkngefkbeaaP10
set_option linter.unusedVariables false
set_option linter.unusedSimpArgs false
namespace Go.Proofs.Ytpidgkngefkbeaa
open Go.RowKit

theorem idx_split (keep : Nat → Bool) (i : Nat) : ∀ n : Nat, i ≤ n → ∃ rest, idx keep n = idx keep i ++ rest ∧ (∀ j ∈ rest, i ≤ j ∧ keep j = true) ∧ (i < n → keep i = true → rest.head? = some i)
  | 0, h => by
    obtain rfl : i = 0 := by omega
    exact ⟨[], by simp, by simp, fun h => absurd h (by omega)⟩
  | n + 1, h => by
    rcases Nat.lt_or_ge n i with h1 | h1
    · obtain rfl : i = n + 1 := by omega
      exact ⟨[], by simp, by simp, fun h => absurd h (by omega)⟩
    · obtain ⟨rest, h2, h3, h4⟩ := idx_split keep i n h1
      rw [idx_succ]
      cases hk : keep n with
      | false =>
        refine ⟨rest, by simpa using h2, h3, fun h5 h6 => ?_⟩
        rcases Nat.lt_or_ge i n with h7 | h7
        · exact h4 h7 h6
        · obtain rfl : i = n := by omega
          rw [hk] at h6; cases h6
      | true =>
        refine ⟨rest ++ [n], by simp [h2], fun j hj => ?_, fun h5 h6 => ?_⟩
        · rcases List.mem_append.1 hj with hj | hj
          · exact h3 j hj
          · rw [List.mem_singleton.1 hj]; exact ⟨h1, hk⟩
        · rcases Nat.lt_or_ge i n with h7 | h7
          · rw [List.head?_append, h4 h7 h6]; rfl
          · obtain rfl : i = n := by omega
            cases rest with
            | nil => rfl
            | cons a l =>
              have h8 := h2
              have hl := congrArg List.length h8
              simp at hl
theorem idx_at {keep : Nat → Bool} {i n : Nat} (hi : i < n) (hk : keep i = true) : (idx keep n)[(idx keep i).length]? = some i := by
  obtain ⟨rest, h1, _, h3⟩ := idx_split keep i n (by omega)
  rw [h1, List.getElem?_append_right (Nat.le_refl _), Nat.sub_self, ← List.head?_eq_getElem?]
  exact h3 hi hk
theorem idx_not {keep : Nat → Bool} {i n j : Nat} (hi : i < n) (hk : keep i = false) (hj : (idx keep n)[(idx keep i).length]? = some j) : ¬ j = i := by
  obtain ⟨rest, h1, h2, _⟩ := idx_split keep i n (by omega)
  rw [h1, List.getElem?_append_right (Nat.le_refl _), Nat.sub_self] at hj
  have := (h2 j (List.mem_of_getElem? hj)).2
  rintro rfl
  rw [hk] at this; cases this
theorem idx_le {keep : Nat → Bool} {i n : Nat} (hi : i ≤ n) : (idx keep i).length ≤ (idx keep n).length := by
  obtain ⟨rest, h1, _, _⟩ := idx_split keep i n hi
  rw [h1, List.length_append]; omega
theorem kept_at {keep : Nat → Bool} {rs : List Rule} {i k : Nat} {r : Rule} (hi : (idx keep rs.length)[k]? = some i) (hr : rs[i]? = some r) : (kept keep rs rs.length)[k]? = some r := by
  unfold kept
  rw [List.getElem?_map, hi]
  simp [hr]
theorem idx_mem {keep : Nat → Bool} {i n : Nat} : i ∈ idx keep n ↔ i < n ∧ keep i = true := by simp [idx]
end Go.Proofs.Ytpidgkngefkbeaa
