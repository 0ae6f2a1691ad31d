/- Ends as routes to an accepting mode: plain facts. No program is in sight here. -/
import Derived.Test.YtpidgkngefkbeaaP6
set_option linter.unusedVariables false
set_option linter.unusedSimpArgs false
namespace Go.Proofs.Ytpidgkngefkbeaa
open Go.RowKit

/-- what a list of rules costs -/
def costOf (rs : List Rule) (l : List Nat) : Nat := l.foldl (fun c i => c + (rs.getD i ⟨0, 0, .empty, .empty, 0⟩).cost) 0
theorem costOf_from (rs : List Rule) : ∀ (l : List Nat) (c : Nat), l.foldl (fun c i => c + (rs.getD i ⟨0, 0, .empty, .empty, 0⟩).cost) c = c + costOf rs l
  | [], c => rfl
  | i :: l, c => by
    unfold costOf
    rw [List.foldl_cons, List.foldl_cons, costOf_from rs l, costOf_from rs l]
    omega
theorem costOf_cons {rs : List Rule} {i : Nat} {r : Rule} (h : rs[i]? = some r) (l : List Nat) : costOf rs (i :: l) = r.cost + costOf rs l := by
  unfold costOf
  rw [List.foldl_cons, costOf_from]
  simp [h, costOf]
theorem costOf_snoc {rs : List Rule} {l : List Nat} {i j : Nat} {r : Rule} (hj : l[i]? = some j) (hr : rs[j]? = some r) : costOf rs (l.take (i + 1)) = costOf rs (l.take i) + r.cost := by
  obtain ⟨h1, h2⟩ := List.getElem?_eq_some_iff.1 hj
  unfold costOf
  rw [List.take_succ_eq_append_getElem h1, List.foldl_append, h2]
  simp [hr]
theorem costOf_le {rs : List Rule} (hb : ∀ r ∈ rs, r.cost ≤ 1000) : ∀ l : List Nat, (∀ i ∈ l, i < rs.length) → costOf rs l ≤ 1000 * l.length
  | [], _ => Nat.zero_le _
  | i :: l, h => by
    have hi := h i (List.mem_cons_self ..)
    rw [costOf_cons (List.getElem?_eq_getElem hi)]
    have := hb _ (List.getElem_mem hi)
    have := costOf_le hb l fun j hj => h j (List.mem_cons_of_mem _ hj)
    simp only [List.length_cons]
    omega
theorem path_end {acc : Nat → Bool} {rs : List Rule} {q : Nat} (hq : acc q = true) : ∀ {m : Nat} {l : List Nat}, pathTo rs m l = some q → IsEnd acc rs m ⟨l, costOf rs l⟩
  | m, [], h => by
    injection h with h
    subst h
    exact IsEnd.nil hq
  | m, i :: l, h => by
    obtain ⟨r, h1, h2, h3⟩ := pathTo_inv h
    have := IsEnd.ext h1 h2 (path_end hq h3)
    rwa [EndR.ext, ← costOf_cons h1] at this
theorem end_path {acc : Nat → Bool} {rs : List Rule} : ∀ {m : Nat} {l : List Nat} {c : Nat}, IsEnd acc rs m ⟨l, c⟩ → ∃ q, pathTo rs m l = some q ∧ acc q = true ∧ c = costOf rs l
  | m, [], c, h => by
    refine ⟨m, rfl, isEnd_acc h, ?_⟩
    unfold IsEnd endOf at h
    split at h
    · injection h with h; exact h.symm
    · cases h
  | m, i :: l, c, h => by
    obtain ⟨r, c', h1, h2, h3, rfl⟩ := h.cons
    obtain ⟨q, h4, h5, rfl⟩ := end_path h3
    exact ⟨q, by rw [pathTo_cons h1 h2]; exact h4, h5, (costOf_cons h1 l).symm⟩
theorem le_ext_inv {e f : EndR} {i c : Nat} (h : (e.ext i c).le (f.ext i c)) : e.le f := by
  unfold EndR.le
  rcases hb : f.before e with _ | _
  · rfl
  · have h2 := EndR.le_ext i c (EndR.before_le hb)
    have h3 := EndR.le_antisymm h h2
    simp only [EndR.ext, EndR.mk.injEq, List.cons.injEq, true_and] at h3
    have : e = f := by
      obtain ⟨l, x⟩ := e
      obtain ⟨l', x'⟩ := f
      simp only at h3
      obtain ⟨h4, h5⟩ := h3
      have : x = x' := by omega
      rw [h4, this]
    subst this
    exact absurd hb (by have := EndR.le_refl e; unfold EndR.le at this; rw [this]; decide)
theorem least_tail {acc : Nat → Bool} {rs : List Rule} {m i c : Nat} {l : List Nat} {r : Rule} (h : Least acc rs m ⟨i :: l, c⟩) (hr : rs[i]? = some r) : r.frm = m ∧ r.cost ≤ c ∧ Least acc rs r.dst ⟨l, c - r.cost⟩ := by
  obtain ⟨r', c', h1, h2, h3, rfl⟩ := h.1.cons
  rw [hr] at h1
  injection h1 with h1
  subst h1
  refine ⟨h2, by omega, by rw [Nat.add_sub_cancel_left]; exact ⟨h3, fun f hf => le_ext_inv (i := i) (c := r.cost) (h.2 _ (IsEnd.ext hr h2 hf))⟩⟩
end Go.Proofs.Ytpidgkngefkbeaa
