/- Plain facts on the schemes that the reference makes. No program is in sight here. -/
import Derived.Test.YtpidgkngefkbeaaP0
set_option linter.unusedVariables false
set_option linter.unusedSimpArgs false
namespace Go.Proofs.Ytpidgkngefkbeaa
open Go.RowKit

theorem bsize (l : List UInt8) : (ByteArray.mk l.toArray).size = l.length := List.size_toArray

/-- texts of at most four bytes -/
def Rule.short (r : Rule) : Prop := r.inp.size ≤ 4 ∧ r.out.size ≤ 4
theorem RawRule.made_short (r : RawRule) (m : Nat) : (r.made m).short := by
  constructor
  · show (ByteArray.mk _).size ≤ 4
    rw [bsize, List.length_map, List.length_take]; omega
  · show (ByteArray.mk _).size ≤ 4
    rw [bsize, List.length_map, List.length_take]; omega
theorem pushRule_short {m : Nat} {rs : List Rule} {r : Rule} (h : ∀ x ∈ rs, x.short) (hr : r.short) : ∀ x ∈ pushRule m rs r, x.short := by
  unfold pushRule
  split
  · intro x hx
    rcases List.mem_append.1 hx with hx | hx
    · exact h x hx
    · rw [List.mem_singleton.1 hx]; exact hr
  · exact h
theorem pushRule_len (m : Nat) (rs : List Rule) (r : Rule) : rs.length ≤ (pushRule m rs r).length ∧ (pushRule m rs r).length ≤ rs.length + 1 := by
  unfold pushRule
  split <;> simp
theorem madeRules_short {m : Nat} (l : List RawRule) : ∀ {rs : List Rule}, (∀ x ∈ rs, x.short) → ∀ x ∈ madeRules m rs l, x.short := by
  induction l with
  | nil => exact fun h => h
  | cons a l ih => exact fun h => ih (pushRule_short h (a.made_short m))
theorem madeRules_len (m : Nat) (l : List RawRule) : ∀ rs : List Rule, rs.length ≤ (madeRules m rs l).length ∧ (madeRules m rs l).length ≤ rs.length + l.length := by
  induction l with
  | nil => exact fun rs => ⟨Nat.le_refl _, Nat.le_refl _⟩
  | cons a l ih =>
    intro rs
    have h1 := ih (pushRule m rs (a.made m))
    have h2 := pushRule_len m rs (a.made m)
    have e : madeRules m rs (a :: l) = madeRules m (pushRule m rs (a.made m)) l := rfl
    rw [e, List.length_cons]
    omega
theorem madeRules_snoc (m : Nat) (rs : List Rule) (l : List RawRule) (x : RawRule) : madeRules m rs (l ++ [x]) = pushRule m (madeRules m rs l) (x.made m) := by
  simp [madeRules]
theorem baseOf_short (k : Nat) : ∀ r ∈ (baseOf k).rules, r.short := by
  have h : ∀ j, j < 6 → (baseOf j).rules.all (fun r => decide (r.inp.size ≤ 4) && decide (r.out.size ≤ 4)) = true := by decide
  have h5 : ∀ j, 5 ≤ j → baseOf j = baseOf 5 := by
    intro j hj
    unfold baseOf
    match j, hj with
    | j + 5, _ => rfl
  intro r hr
  have hk : ∃ j, j < 6 ∧ baseOf k = baseOf j := by
    rcases Nat.lt_or_ge k 5 with hlt | hge
    · exact ⟨k, by omega, rfl⟩
    · exact ⟨5, by omega, h5 k hge⟩
  obtain ⟨j, hj, e⟩ := hk
  rw [e] at hr
  have := List.all_eq_true.1 (h j hj) r hr
  simpa [Rule.short] using this
theorem baseOf_len (k : Nat) : 3 ≤ (baseOf k).rules.length ∧ (baseOf k).rules.length ≤ 5 := by
  unfold baseOf
  split <;> simp
theorem baseOf_modes (k : Nat) : (baseOf k).modes = 1 ∨ (baseOf k).modes = 2 := by
  unfold baseOf
  split <;> simp
theorem baseOf_accept (k : Nat) : (baseOf k).accept = 1 := by
  unfold baseOf
  split <;> simp

end Go.Proofs.Ytpidgkngefkbeaa
