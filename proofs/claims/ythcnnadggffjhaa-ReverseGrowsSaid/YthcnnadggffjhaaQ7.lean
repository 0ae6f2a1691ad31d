/- One more rule: plain facts. No program is in sight here. -/
import Derived.Test.YthcnnadggffjhaaQ6
set_option linter.unusedVariables false
set_option linter.unusedSimpArgs false
namespace Go.Proofs.Ythcnnadggffjhaa
open Go.RowKit

theorem Gen.more {rs rs' : List Rule} {out : ByteArray} {p : Part} (hsub : ∀ r ∈ rs, r ∈ rs') (h : Gen rs out p) : Gen rs' out p := by
  induction h with
  | start => exact .start
  | step _ h1 h2 ih => exact .step ih (hsub _ h1) h2
theorem lessR_cost {a b : ByteArray × Nat} (h : lessR a b) : a.2 ≤ b.2 := by
  rcases h with h | ⟨h, _⟩ <;> omega
theorem head_least {l : List (ByteArray × Nat)} (h : l.Pairwise lessR) {p e : ByteArray × Nat} (hp : l.head? = some p) (he : e ∈ l) : p.2 ≤ e.2 := by
  cases l with
  | nil => cases he
  | cons x l =>
    injection hp with hp
    subst hp
    rw [List.mem_cons] at he
    rcases he with rfl | he
    · exact Nat.le_refl _
    · exact lessR_cost ((List.pairwise_cons.1 h).1 e he)
theorem grows_plain {acc : Nat → Bool} {rs rs' : List Rule} {out : ByteArray} {l l' : List (ByteArray × Nat)} (hsub : ∀ r ∈ rs, r ∈ rs') (h1 : Found acc rs out 1 l) (h2 : Found acc rs' out 1 l') (hne : l ≠ []) :
    l' ≠ [] ∧ ∀ p p', l.head? = some p → l'.head? = some p' → p'.2 ≤ p.2 := by
  cases l with
  | nil => exact absurd rfl hne
  | cons x l =>
    obtain ⟨⟨y, hg, hf, hi, hc⟩, _⟩ := h1.mins x (List.mem_cons_self ..)
    rcases h2.all y (hg.more hsub) hf with ⟨e, he, hei⟩ | ⟨hlen, hall⟩
    · refine ⟨List.ne_nil_of_mem he, fun p p' hp hp' => ?_⟩
      injection hp with hp
      subst hp
      have h3 := head_least h2.sorted hp' he
      have h4 := (h2.mins e he).2 y (hg.more hsub) hf hei.symm
      omega
    · refine ⟨fun h => by rw [h] at hlen; simp at hlen, fun p p' hp hp' => ?_⟩
      injection hp with hp
      subst hp
      have h3 := lessR_cost (hall p' (List.mem_of_mem_head? hp'))
      simp only at h3
      omega
end Go.Proofs.Ythcnnadggffjhaa
