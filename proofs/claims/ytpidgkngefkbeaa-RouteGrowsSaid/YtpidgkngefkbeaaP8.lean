/- One rule more: plain facts for RouteGrows. No program is in sight here. -/
import Derived.Test.YtpidgkngefkbeaaP7
import Derived.Test.YtpidgkngefkbeaaW3
set_option linter.unusedVariables false
set_option linter.unusedSimpArgs false
namespace Go.Proofs.Ytpidgkngefkbeaa
open Go.RowKit

theorem get_more {rs : List Rule} {q r : Rule} {i : Nat} (h : rs[i]? = some r) : (rs ++ [q])[i]? = some r := by
  obtain ⟨h1, rfl⟩ := List.getElem?_eq_some_iff.1 h
  rw [List.getElem?_append_left h1]; exact h
theorem edges_more {sel : Rule → Nat × Nat} {rs : List Rule} {q : Rule} {m x : Nat} (h : x ∈ edgesOf sel rs m) : x ∈ edgesOf sel (rs ++ [q]) m := by
  obtain ⟨r, h1, h2⟩ := mem_edges.1 h
  exact mem_edges.2 ⟨r, List.mem_append_left _ h1, h2⟩
theorem reach_more {sel : Rule → Nat × Nat} {rs : List Rule} {q : Rule} {a b : Nat} (h : Reach (edgesOf sel rs) a b) : Reach (edgesOf sel (rs ++ [q])) a b := by
  induction h with
  | refl m => exact .refl m
  | step hx _ ih => exact .step (edges_more hx) ih
theorem reached_more {rs : List Rule} {q : Rule} {x : Nat} (h : ReachedP rs x) : ReachedP (rs ++ [q]) x := reach_more h
theorem live_more {ac m : Nat} {rs : List Rule} {q : Rule} {x : Nat} (h : LiveP ac m rs x) : LiveP ac m (rs ++ [q]) x := by
  obtain ⟨s, h1, h2, h3⟩ := h
  exact ⟨s, h1, h2, reach_more h3⟩
theorem end_more {acc : Nat → Bool} {rs : List Rule} {q : Rule} : ∀ {m : Nat} {l : List Nat} {c : Nat}, IsEnd acc rs m ⟨l, c⟩ → IsEnd acc (rs ++ [q]) m ⟨l, c⟩
  | m, [], c, h => h
  | m, i :: l, c, h => by
    obtain ⟨r, c', h1, h2, h3, rfl⟩ := h.cons
    exact IsEnd.ext (get_more h1) h2 (end_more h3)
theorem least_more {acc : Nat → Bool} {rs : List Rule} {q : Rule} {m : Nat} {e f : EndR} (h1 : Least acc rs m e) (h2 : Least acc (rs ++ [q]) m f) : f.cost ≤ e.cost := by
  have h := h2.2 e (end_more h1.1)
  rcases EndR.le_iff.1 h with h | h <;> omega
/-- the scheme with one rule more, where it is right -/
theorem grown_ok {s : Scheme} (h : SchemeOk s) (h9 : s.rules.length ≤ 9) {q : Rule} (hv : allRight s.modes (s.rules ++ [q]) = true) : SchemeOk ⟨s.modes, s.accept, s.rules ++ [q]⟩ := by
  have hf : ∀ r ∈ s.rules ++ [q], r.fit s.modes = true := by
    intro r hr
    obtain ⟨i, hi, rfl⟩ := List.getElem_of_mem hr
    unfold allRight at hv
    have h1 := List.all_eq_true.1 hv i (List.mem_range.2 hi)
    simp only [rightAt, Bool.and_eq_true] at h1
    have h2 := h1.2
    rwa [List.getD_eq_getElem?_getD, List.getElem?_eq_getElem hi] at h2
  exact ⟨h.m2, h.m5, h.a1, h.a2, by show (s.rules ++ [q]).length ≤ 10; rw [List.length_append]; simp; omega, fun r hr => ⟨(fit_parts (hf r hr)).1, (fit_parts (hf r hr)).2.1⟩, fun r hr => (fit_parts (hf r hr)).2.2, hf⟩
end Go.Proofs.Ytpidgkngefkbeaa
