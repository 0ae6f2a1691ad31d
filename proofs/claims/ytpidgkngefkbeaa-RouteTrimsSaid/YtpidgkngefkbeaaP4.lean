/- What Made of layer 3 gives is a scheme in bounds; what a route adds up. No program is in sight here. -/
import Derived.Test.YtpidgkngefkbeaaP3
set_option linter.unusedVariables false
set_option linter.unusedSimpArgs false
namespace Go.Proofs.Ytpidgkngefkbeaa
open Go.RowKit

/-- a scheme of 2 to 5 modes and at most 9 rules, all in bounds -/
structure SchemeOk (s : Scheme) : Prop where
  m2 : 2 ≤ s.modes
  m5 : s.modes ≤ 5
  a1 : 1 ≤ s.accept
  a2 : s.accept < 2 ^ s.modes
  n9 : s.rules.length ≤ 10
  inn : ∀ r ∈ s.rules, r.frm < s.modes ∧ r.dst < s.modes
  bnd : ∀ r ∈ s.rules, r.bnd
  fits : ∀ r ∈ s.rules, r.fit s.modes = true
theorem SchemeOk.ac {s : Scheme} (h : SchemeOk s) : s.accept < 256 := by
  have h1 := h.a2
  have h2 : 2 ^ s.modes ≤ 2 ^ 5 := Nat.pow_le_pow_right (by omega) h.m5
  omega
theorem SchemeOk.cost {s : Scheme} (h : SchemeOk s) : ∀ r ∈ s.rules, r.cost ≤ 1000 := fun r hr => (h.bnd r hr).2.2
theorem fit_parts {m : Nat} {r : Rule} (h : r.fit m = true) : r.frm < m ∧ r.dst < m ∧ r.bnd := by
  simp only [Rule.fit, Bool.and_eq_true, decide_eq_true_eq] at h
  exact ⟨h.1, h.2.1, h.2.2.1, h.2.2.2.2.1, h.2.2.2.2.2.2⟩
theorem pushRule_fit {m : Nat} {rs : List Rule} {r : Rule} (h : ∀ x ∈ rs, x.fit m = true) : ∀ x ∈ pushRule m rs r, x.fit m = true := by
  unfold pushRule
  split
  · rename_i hr
    intro x hx
    rw [List.mem_append] at hx
    rcases hx with hx | hx
    · exact h x hx
    · simp only [List.mem_singleton] at hx
      subst hx
      simp only [rightAt, Bool.and_eq_true] at hr
      have := hr.2
      rwa [List.getD_eq_getElem?_getD, List.getElem?_append_right (Nat.le_refl _), Nat.sub_self] at this
  · exact h
theorem turnRules_fit (n w0 w1 : Nat) : ∀ (rs : List Rule) (i : Nat) (acc : List Rule), (∀ x ∈ acc, x.fit n = true) → ∀ x ∈ turnRules n w0 w1 rs i acc, x.fit n = true
  | [], _, _, h => h
  | r :: rs, i, acc, h => turnRules_fit n w0 w1 rs (i + 1) _ (pushRule_fit h)
theorem turnRules_len (n w0 w1 : Nat) : ∀ (rs : List Rule) (i : Nat) (acc : List Rule), (turnRules n w0 w1 rs i acc).length ≤ acc.length + rs.length
  | [], _, _ => by simp [turnRules]
  | r :: rs, i, acc => by
    have h := turnRules_len n w0 w1 rs (i + 1) (pushRule n acc (turned n w0 w1 r i))
    have h2 := (pushRule_len n acc (turned n w0 w1 r i)).2
    unfold turnRules
    simp only [List.length_cons]
    omega
theorem made3_n9 (base drop : Nat) (more : List RawRule) (w0 w1 : Nat) : (made3 base drop more w0 w1).rules.length ≤ 9 := by
  have h := turnRules_len (2 + w0 % 4) w0 w1 (made2 base drop more).rules 0 []
  have h2 : (made2 base drop more).rules.length ≤ 9 := by
    have h3 := (madeRules_len (baseOf (base % 6)).modes (more.take 4) ((baseOf (base % 6)).rules.drop (drop % 2))).2
    have h4 := (baseOf_len (base % 6)).2
    show (madeRules _ _ _).length ≤ 9
    simp only [List.length_drop, List.length_take] at h3
    omega
  show (turnRules _ _ _ _ _ _).length ≤ 9
  simp only [List.length_nil] at h
  omega
theorem made3_ok (base drop : Nat) (more : List RawRule) (w0 w1 : Nat) : SchemeOk (made3 base drop more w0 w1) := by
  have hm : 2 ≤ (made3 base drop more w0 w1).modes ∧ (made3 base drop more w0 w1).modes ≤ 5 := by
    show 2 ≤ 2 + w0 % 4 ∧ 2 + w0 % 4 ≤ 5
    omega
  have hf : ∀ x ∈ (made3 base drop more w0 w1).rules, x.fit (made3 base drop more w0 w1).modes = true := turnRules_fit _ _ _ _ _ _ (by simp)
  have hp : 2 ^ 2 ≤ 2 ^ (2 + w0 % 4) := Nat.pow_le_pow_right (by omega) (by omega)
  refine ⟨hm.1, hm.2, ?_, ?_, ?_, fun r hr => ?_, fun r hr => (fit_parts (hf r hr)).2.2, hf⟩
  · show 1 ≤ 1 + w1 % (2 ^ (2 + w0 % 4) - 1)
    omega
  · show 1 + w1 % (2 ^ (2 + w0 % 4) - 1) < 2 ^ (2 + w0 % 4)
    have := Nat.mod_lt w1 (show 0 < 2 ^ (2 + w0 % 4) - 1 by omega)
    omega
  · exact Nat.le_succ_of_le (made3_n9 base drop more w0 w1)
  · exact ⟨(fit_parts (hf r hr)).1, (fit_parts (hf r hr)).2.1⟩

/-- what a list of rules adds up, one after the other -/
def sumR (rs : List Rule) (l : List Nat) : RunR := l.foldl (fun o i => o.add (rs.getD i ⟨0, 0, .empty, .empty, 0⟩)) .start
def castL (l : List Nat) : List Int := l.map fun n : Nat => (n : Int)
theorem castL_len (l : List Nat) : (castL l).length = l.length := by simp [castL]
theorem run_path {rs : List Rule} {k : Nat} : ∀ {m : Nat} {l : List Nat} {o : RunR}, pathTo rs m l = some k → o.mode = m → o.ok = true →
    runFrom rs o (castL l) = l.foldl (fun o i => o.add (rs.getD i ⟨0, 0, .empty, .empty, 0⟩)) o ∧ (runFrom rs o (castL l)).mode = k ∧ (runFrom rs o (castL l)).ok = true
  | m, [], o, h, hm, hk => by
    injection h with h
    exact ⟨rfl, hm.trans h, hk⟩
  | m, i :: l, o, h, hm, hk => by
    obtain ⟨r, h1, h2, h3⟩ := pathTo_inv h
    have hi := (List.getElem?_eq_some_iff.1 h1)
    obtain ⟨hi1, hi2⟩ := hi
    have hr : ruleAt rs (i : Int) = some r := by rw [ruleAt_in hi1, hi2]
    have hd : rs.getD i ⟨0, 0, .empty, .empty, 0⟩ = r := by rw [List.getD_eq_getElem?_getD, h1]; rfl
    rw [show castL (i :: l) = (i : Int) :: castL l from rfl, runFrom_yes hr (h2.trans hm.symm)]
    have := run_path (o := o.add r) h3 rfl hk
    rw [List.foldl_cons, hd]
    exact this
theorem run_sum {rs : List Rule} {k : Nat} {l : List Nat} (h : pathTo rs 0 l = some k) : runFrom rs .start (castL l) = sumR rs l ∧ (sumR rs l).mode = k ∧ (sumR rs l).ok = true := by
  have := run_path (o := .start) h rfl rfl
  unfold sumR
  exact ⟨this.1, by rw [← this.1]; exact this.2.1, by rw [← this.1]; exact this.2.2⟩
theorem pathTo_take {rs : List Rule} {k : Nat} : ∀ {m : Nat} {l : List Nat}, pathTo rs m l = some k → ∀ i, ∃ k', pathTo rs m (l.take i) = some k'
  | m, l, h, 0 => ⟨m, rfl⟩
  | m, [], h, i + 1 => ⟨m, rfl⟩
  | m, j :: l, h, i + 1 => by
    obtain ⟨r, h1, h2, h3⟩ := pathTo_inv h
    obtain ⟨k', hk'⟩ := pathTo_take h3 i
    exact ⟨k', by rw [List.take_succ_cons, pathTo_cons h1 h2]; exact hk'⟩
theorem sumR_snoc {rs : List Rule} {l : List Nat} {i j : Nat} {r : Rule} (hj : l[i]? = some j) (hr : rs[j]? = some r) : sumR rs (l.take (i + 1)) = (sumR rs (l.take i)).add r := by
  obtain ⟨h1, h2⟩ := List.getElem?_eq_some_iff.1 hj
  unfold sumR
  rw [List.take_succ_eq_append_getElem h1, List.foldl_append, h2]
  simp [hr]
theorem sumR_bnd {rs : List Rule} (hb : ∀ r ∈ rs, r.bnd) (l : List Nat) (hl : ∀ i ∈ l, i < rs.length) : ∀ k, (sumR rs (l.take k)).bnd k
  | 0 => ⟨by simp [sumR, RunR.start]; rfl, by simp [sumR, RunR.start]; rfl, by simp [sumR, RunR.start]⟩
  | k + 1 => by
    have h := sumR_bnd hb l hl k
    cases hk : l[k]? with
    | none =>
      have : l.take (k + 1) = l.take k := by
        have hle : l.length ≤ k := List.getElem?_eq_none_iff.1 hk
        rw [List.take_of_length_le hle, List.take_of_length_le (by omega)]
      rw [this]
      exact ⟨by have := h.1; omega, by have := h.2.1; omega, by have := h.2.2; omega⟩
    | some j =>
      have hj := hl j (List.mem_of_getElem? hk)
      obtain ⟨r, hr⟩ : ∃ r, rs[j]? = some r := ⟨_, List.getElem?_eq_getElem hj⟩
      rw [sumR_snoc hk hr]
      exact RunR.bnd_add h (hb r (List.mem_of_getElem? hr))
end Go.Proofs.Ytpidgkngefkbeaa
