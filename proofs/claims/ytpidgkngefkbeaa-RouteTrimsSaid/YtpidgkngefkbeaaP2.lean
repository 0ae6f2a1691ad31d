/- What the functions of layer 3 compute, as Lean functions on data: routes. No program is in sight here. -/
import Derived.Test.YtpidgkngefkbeaaP1
set_option linter.unusedVariables false
set_option linter.unusedSimpArgs false
namespace Go.Proofs.Ytpidgkngefkbeaa
open Go.RowKit

/-- what a route takes, puts out and costs; its mode; whether its rules fit -/
structure RunR where
  inp : ByteArray
  out : ByteArray
  cost : Nat
  mode : Nat
  ok : Bool
  deriving DecidableEq
def RunR.zero : RunR := ⟨⟨#[]⟩, ⟨#[]⟩, 0, 0, false⟩
def RunR.start : RunR := ⟨⟨#[]⟩, ⟨#[]⟩, 0, 0, true⟩
def RunR.add (o : RunR) (r : Rule) : RunR := ⟨o.inp ++ r.inp, o.out ++ r.out, o.cost + r.cost, r.dst, o.ok⟩
/-- the rule with a number, if there is one -/
def ruleAt (rs : List Rule) (i : Int) : Option Rule := if i < 0 then none else rs[i.toNat]?
def runFrom (rs : List Rule) : RunR → List Int → RunR
  | o, [] => o
  | o, i :: l =>
    match ruleAt rs i with
    | none => .zero
    | some r => if r.frm = o.mode then runFrom rs (o.add r) l else .zero
def runOf (s : Scheme) (l : List Int) : RunR := runFrom s.rules .start l

def Rule.bnd (r : Rule) : Prop := r.inp.size ≤ 4 ∧ r.out.size ≤ 4 ∧ r.cost ≤ 1000
def RunR.bnd (o : RunR) (k : Nat) : Prop := o.inp.size ≤ 4 * k ∧ o.out.size ≤ 4 * k ∧ o.cost ≤ 1000 * k
theorem RunR.bnd_add {o : RunR} {k : Nat} {r : Rule} (h : o.bnd k) (hr : r.bnd) : (o.add r).bnd (k + 1) := by
  obtain ⟨h1, h2, h3⟩ := h
  obtain ⟨r1, r2, r3⟩ := hr
  refine ⟨?_, ?_, ?_⟩
  · simp only [RunR.add, ByteArray.size_append]; omega
  · simp only [RunR.add, ByteArray.size_append]; omega
  · simp only [RunR.add]; omega
theorem ruleAt_neg {rs : List Rule} {i : Int} (h : i < 0) : ruleAt rs i = none := by simp [ruleAt, h]
theorem ruleAt_big {rs : List Rule} {i : Int} (h : (rs.length : Int) ≤ i) : ruleAt rs i = none := by
  unfold ruleAt
  split
  · rfl
  · rw [List.getElem?_eq_none]; omega
theorem ruleAt_in {rs : List Rule} {j : Nat} (h : j < rs.length) : ruleAt rs (j : Int) = some rs[j] := by
  unfold ruleAt
  rw [if_neg (by omega)]
  simp [h]
theorem runFrom_cons (rs : List Rule) (o : RunR) (i : Int) (l : List Int) : runFrom rs o (i :: l) = match ruleAt rs i with
    | none => .zero
    | some r => if r.frm = o.mode then runFrom rs (o.add r) l else .zero := rfl
theorem runFrom_none {rs : List Rule} {o : RunR} {i : Int} {l : List Int} (h : ruleAt rs i = none) : runFrom rs o (i :: l) = .zero := by rw [runFrom_cons, h]
theorem runFrom_no {rs : List Rule} {o : RunR} {i : Int} {l : List Int} {r : Rule} (h : ruleAt rs i = some r) (hm : ¬ r.frm = o.mode) : runFrom rs o (i :: l) = .zero := by rw [runFrom_cons, h]; simp [hm]
theorem runFrom_yes {rs : List Rule} {o : RunR} {i : Int} {l : List Int} {r : Rule} (h : ruleAt rs i = some r) (hm : r.frm = o.mode) : runFrom rs o (i :: l) = runFrom rs (o.add r) l := by rw [runFrom_cons, h]; simp [hm]
theorem drop_cons (l : List Int) (k : Nat) (h : k < l.length) : l.drop k = l[k] :: l.drop (k + 1) := List.drop_eq_getElem_cons h
end Go.Proofs.Ytpidgkngefkbeaa
