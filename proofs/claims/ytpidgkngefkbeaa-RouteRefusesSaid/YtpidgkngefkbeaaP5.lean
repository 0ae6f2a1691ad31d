/- Lists of numbers that need not fit: plain facts for RouteRefuses. No program is in sight here. -/
import Derived.Test.YtpidgkngefkbeaaP4
set_option linter.unusedVariables false
set_option linter.unusedSimpArgs false
namespace Go.Proofs.Ytpidgkngefkbeaa
open Go.RowKit

theorem run_drop {rs : List Rule} {L : List Int} {k : Nat} {x : Int} (hx : L[k]? = some x) : L.drop k = x :: L.drop (k + 1) := by
  obtain ⟨h1, rfl⟩ := List.getElem?_eq_some_iff.1 hx
  exact List.drop_eq_getElem_cons h1
/-- while the rules fit: what is left to do from a state -/
def Fits (rs : List Rule) (L : List Int) (k mode : Nat) : Prop := ∃ o : RunR, runFrom rs .start L = runFrom rs o (L.drop k) ∧ o.mode = mode ∧ o.ok = true
theorem Fits.start (rs : List Rule) (L : List Int) : Fits rs L 0 0 := ⟨.start, rfl, rfl, rfl⟩
theorem Fits.step {rs : List Rule} {L : List Int} {k mode : Nat} {q : Nat} {r : Rule} (h : Fits rs L k mode) (hx : L[k]? = some (q : Int)) (hr : rs[q]? = some r) (hf : r.frm = mode) : Fits rs L (k + 1) r.dst := by
  obtain ⟨o, h1, h2, h3⟩ := h
  obtain ⟨hq, rfl⟩ := List.getElem?_eq_some_iff.1 hr
  exact ⟨o.add rs[q], by rw [h1, run_drop (rs := rs) hx]; exact runFrom_yes (ruleAt_in hq) (hf.trans h2.symm), rfl, h3⟩
theorem Fits.none_ {rs : List Rule} {L : List Int} {k mode : Nat} {x : Int} (h : Fits rs L k mode) (hx : L[k]? = some x) (hr : ruleAt rs x = none) : runFrom rs .start L = .zero := by
  obtain ⟨o, h1, h2, h3⟩ := h
  rw [h1, run_drop (rs := rs) hx]; exact runFrom_none hr
theorem Fits.no {rs : List Rule} {L : List Int} {k mode : Nat} {q : Nat} {r : Rule} (h : Fits rs L k mode) (hx : L[k]? = some (q : Int)) (hr : rs[q]? = some r) (hf : ¬ r.frm = mode) : runFrom rs .start L = .zero := by
  obtain ⟨o, h1, h2, h3⟩ := h
  obtain ⟨hq, rfl⟩ := List.getElem?_eq_some_iff.1 hr
  rw [h1, run_drop (rs := rs) hx]; exact runFrom_no (ruleAt_in hq) (by rw [h2]; exact hf)
theorem Fits.done {rs : List Rule} {L : List Int} {k mode : Nat} (h : Fits rs L k mode) (hk : L.length ≤ k) : (runFrom rs .start L).ok = true := by
  obtain ⟨o, h1, h2, h3⟩ := h
  rw [h1, List.drop_eq_nil_of_le hk]; exact h3
end Go.Proofs.Ytpidgkngefkbeaa
