/- Lists of rules that fit together: plain facts. No program is in sight here. -/
import Derived.Test.YtpidgkngefkbeaaP2
set_option linter.unusedVariables false
set_option linter.unusedSimpArgs false
namespace Go.Proofs.Ytpidgkngefkbeaa
open Go.RowKit

/-- where a list of rules leads from a mode, if they fit together -/
def pathTo (rs : List Rule) : Nat → List Nat → Option Nat
  | m, [] => some m
  | m, i :: l => match rs[i]? with
    | some r => if r.frm = m then pathTo rs r.dst l else none
    | none => none
theorem pathTo_nil (rs : List Rule) (m : Nat) : pathTo rs m [] = some m := rfl
theorem pathTo_cons {rs : List Rule} {m i : Nat} {r : Rule} (h : rs[i]? = some r) (hf : r.frm = m) (l : List Nat) : pathTo rs m (i :: l) = pathTo rs r.dst l := by simp [pathTo, h, hf]
theorem pathTo_inv {rs : List Rule} {m i k : Nat} {l : List Nat} (h : pathTo rs m (i :: l) = some k) : ∃ r, rs[i]? = some r ∧ r.frm = m ∧ pathTo rs r.dst l = some k := by
  unfold pathTo at h
  split at h
  · rename_i r hr
    split at h
    · exact ⟨r, hr, by assumption, h⟩
    · cases h
  · cases h
theorem pathTo_snoc {rs : List Rule} {k mode : Nat} {r : Rule} (hk : rs[k]? = some r) (hf : r.frm = mode) : ∀ {m : Nat} {out : List Nat}, pathTo rs m out = some mode → pathTo rs m (out ++ [k]) = some r.dst
  | m, [], h => by
    injection h with h
    subst h
    rw [List.nil_append, pathTo_cons hk hf, pathTo_nil]
  | m, i :: l, h => by
    obtain ⟨r', h1, h2, h3⟩ := pathTo_inv h
    rw [List.cons_append, pathTo_cons h1 h2]
    exact pathTo_snoc hk hf h3
theorem pathTo_lt {rs : List Rule} {k n : Nat} (hs : ∀ r ∈ rs, r.frm < n ∧ r.dst < n) : ∀ {m : Nat} {l : List Nat}, m < n → pathTo rs m l = some k → k < n
  | m, [], hm, h => by injection h with h; omega
  | m, i :: l, hm, h => by
    obtain ⟨r', h1, h2, h3⟩ := pathTo_inv h
    exact pathTo_lt hs (hs r' (List.mem_of_getElem? h1)).2 h3
theorem pathTo_in {rs : List Rule} {k : Nat} : ∀ {m : Nat} {l : List Nat}, pathTo rs m l = some k → ∀ i ∈ l, i < rs.length
  | m, [], h => fun i hi => by cases hi
  | m, j :: l, h => fun i hi => by
    obtain ⟨r', h1, h2, h3⟩ := pathTo_inv h
    rcases List.mem_cons.1 hi with rfl | hi
    · exact (List.getElem?_eq_some_iff.1 h1).1
    · exact pathTo_in h3 i hi
end Go.Proofs.Ytpidgkngefkbeaa
