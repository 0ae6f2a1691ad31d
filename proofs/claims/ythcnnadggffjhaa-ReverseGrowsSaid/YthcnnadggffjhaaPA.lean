/- Plain definitions: schemes, rules and what the reference functions of layers 2 and 3 compute, as Lean functions on data. No program is in sight here. Plain facts on the schemes that the reference makes. No program is in sight here. What the functions of layer 3 compute, as Lean functions on data: routes. No program is in sight here. Lists of rules that fit together: plain facts. No program is in sight here. What Made of layer 3 gives is a scheme in bounds; what a route adds up. No program is in sight here. Ends of a scheme's modes, their order, and why taking the least open end again and again finds each mode's least end. No program is in sight here. -/
import Derived.Below
import Derived.Lib.Hide
set_option linter.unusedVariables false
set_option linter.unusedSimpArgs false
namespace Go.Proofs.Ythcnnadggffjhaa
open Go.RowKit

theorem ret_b {a b : Bool} (h : a = b) : Ending.returned (.bool a) = .returned (.bool b) := by rw [h]
theorem ret_i {a b : Int} (h : a = b) : Ending.returned (.int .i64 a) = .returned (.int .i64 b) := by rw [h]

structure Rule where
  frm : Nat
  dst : Nat
  inp : ByteArray
  out : ByteArray
  cost : Nat
  deriving DecidableEq
structure Scheme where
  modes : Nat
  accept : Nat
  rules : List Rule
  deriving DecidableEq

def Rule.cells (r : Rule) : List Value := [.int .i64 r.frm, .int .i64 r.dst, .string r.inp, .string r.out, .int .i64 r.cost]
def Rule.agg (r : Rule) : Value := .agg #[.int .i64 r.frm, .int .i64 r.dst, .string r.inp, .string r.out, .int .i64 r.cost]

def lowN (c : Nat) : Bool := decide (97 ≤ c) && decide (c ≤ 122)
def plainN (c : Nat) : Bool := lowN c || (decide (65 ≤ c) && decide (c ≤ 90)) || (decide (48 ≤ c) && decide (c ≤ 57))
def small (s : ByteArray) : Bool := s.data.toList.all fun c => lowN c.toNat
def plain (s : ByteArray) : Bool := s.data.toList.all fun c => plainN c.toNat

theorem all_take_succ (p : UInt8 → Bool) (s : ByteArray) (k : Nat) (h : k < s.size) : (s.data.toList.take (k + 1)).all p = ((s.data.toList.take k).all p && p s[k]) := by
  rw [List.take_succ_eq_append_getElem (by simpa using h), List.all_append]
  simp
  rfl
theorem all_false_of (p : UInt8 → Bool) (s : ByteArray) (k : Nat) (h : k < s.size) (hp : p s[k] = false) : s.data.toList.all p = false := by
  rw [List.all_eq_false]
  exact ⟨s[k], by simp [ByteArray.getElem_eq_getElem_data], by simp [hp]⟩

/-- the rule's numbers and texts are in their ranges -/
def Rule.fit (modes : Nat) (r : Rule) : Bool :=
  decide (r.frm < modes) && (decide (r.dst < modes) && (decide (r.inp.size ≤ 4) && (small r.inp && (decide (r.out.size ≤ 4) && (plain r.out && decide (r.cost ≤ 1000))))))

/-- 'Right' as a function: the rule with the index i is fit, and no earlier one is like it. -/
def rightAt (modes : Nat) (rs : List Rule) (i : Nat) : Bool := (rs.take i).all (fun r => decide (r ≠ rs.getD i ⟨0, 0, .empty, .empty, 0⟩)) && (rs.getD i ⟨0, 0, .empty, .empty, 0⟩).fit modes

/-- a rule in the raw: bytes -/
structure RawRule where
  inp : List Nat
  out : List Nat
  frm : Nat
  dst : Nat
  cost : Nat
def pick3 (c : Nat) : UInt8 := if c % 3 = 0 then 97 else if c % 3 = 1 then 98 else 99
def pick6 (c : Nat) : UInt8 := if c % 6 = 0 then 97 else if c % 6 = 1 then 98 else if c % 6 = 2 then 99 else if c % 6 = 3 then 65 else if c % 6 = 4 then 66 else 49
def RawRule.made (r : RawRule) (modes : Nat) : Rule := ⟨r.frm % modes, r.dst % modes, ⟨((r.inp.take 2).map pick3).toArray⟩, ⟨((r.out.take 2).map pick6).toArray⟩, 2 * r.cost⟩

/-- a rule as 'simple' makes it -/
def sim (a b : Nat) (s t : List UInt8) : Rule := ⟨a, b, ⟨s.toArray⟩, ⟨t.toArray⟩, s.length⟩
/-- the six schemes of 'Base' -/
def baseOf (k : Nat) : Scheme :=
  match k with
  | 0 => ⟨1, 1, [sim 0 0 [97] [97], sim 0 0 [98] [98], sim 0 0 [99] [99]]⟩
  | 1 => ⟨1, 1, [sim 0 0 [97] [65], sim 0 0 [98, 97] [66], sim 0 0 [99, 97] [67], sim 0 0 [98] [98]]⟩
  | 2 => ⟨2, 1, [sim 0 1 [99] [], sim 1 0 [97] [65], sim 1 0 [98] [66], sim 0 0 [97] [97], sim 0 0 [98] [98]]⟩
  | 3 => ⟨1, 1, [sim 0 0 [97] [97], sim 0 0 [98] [98], sim 0 0 [97, 98] [97, 98, 99, 49], sim 0 0 [99] [99]]⟩
  | 4 => ⟨1, 1, [sim 0 0 [97] [97], ⟨0, 0, ⟨#[98]⟩, ⟨#[98]⟩, 0⟩, ⟨0, 0, ⟨#[99]⟩, ⟨#[98]⟩, 7⟩, ⟨0, 0, ⟨#[98]⟩, ⟨#[99]⟩, 9⟩]⟩
  | _ => ⟨1, 1, [sim 0 0 [97] [97], sim 0 0 [97] [65], sim 0 0 [97, 97] [66], sim 0 0 [98] [98], ⟨0, 0, ⟨#[98]⟩, ⟨#[]⟩, 20⟩]⟩

/-- a rule is added where it is right -/
def pushRule (m : Nat) (rs : List Rule) (r : Rule) : List Rule := if rightAt m (rs ++ [r]) rs.length then rs ++ [r] else rs
/-- 'Made' of layer 2 -/
def madeRules (m : Nat) (rs : List Rule) (l : List RawRule) : List Rule := l.foldl (fun rs x => pushRule m rs (x.made m)) rs
def made2 (base drop : Nat) (more : List RawRule) : Scheme :=
  let s := baseOf (base % 6)
  ⟨s.modes, s.accept, madeRules s.modes (s.rules.drop (drop % 2)) (more.take 4)⟩
/-- 'Made' of layer 3: the rule with the index i of a scheme of layer 2, turned to n modes -/
def turned (n w0 w1 : Nat) (r : Rule) (i : Nat) : Rule := ⟨(r.frm + i / 2 + w0 / 4 * i) % n, (r.dst + i + w1 % 3) % n, r.inp, r.out, r.cost⟩
def turnRules (n w0 w1 : Nat) : List Rule → Nat → List Rule → List Rule
  | [], _, acc => acc
  | r :: rs, i, acc => turnRules n w0 w1 rs (i + 1) (pushRule n acc (turned n w0 w1 r i))
def made3 (base drop : Nat) (more : List RawRule) (w0 w1 : Nat) : Scheme :=
  let n := 2 + w0 % 4
  ⟨n, 1 + w1 % (2 ^ n - 1), turnRules n w0 w1 (made2 base drop more).rules 0 []⟩
end Go.Proofs.Ythcnnadggffjhaa
namespace Go.Proofs.Ythcnnadggffjhaa
open Go.RowKit

theorem bsize (l : List UInt8) : (ByteArray.mk l.toArray).size = l.length := List.size_toArray

/-- texts of at most four bytes -/
def Rule.short (r : Rule) : Prop := r.inp.size ≤ 4 ∧ r.out.size ≤ 4
theorem RawRule.made_short (r : RawRule) (m : Nat) : (r.made m).short := by
  constructor
  · show (ByteArray.mk _).size ≤ 4
    rw [bsize, List.length_map, List.length_take]; omega
  · show (ByteArray.mk _).size ≤ 4
    rw [bsize, List.length_map, List.length_take]; omega
theorem pushRule_short {m : Nat} {rs : List Rule} {r : Rule} (h : ∀ x ∈ rs, x.short) (hr : r.short) : ∀ x ∈ pushRule m rs r, x.short := by
  unfold pushRule
  split
  · intro x hx
    rcases List.mem_append.1 hx with hx | hx
    · exact h x hx
    · rw [List.mem_singleton.1 hx]; exact hr
  · exact h
theorem pushRule_len (m : Nat) (rs : List Rule) (r : Rule) : rs.length ≤ (pushRule m rs r).length ∧ (pushRule m rs r).length ≤ rs.length + 1 := by
  unfold pushRule
  split <;> simp
theorem madeRules_short {m : Nat} (l : List RawRule) : ∀ {rs : List Rule}, (∀ x ∈ rs, x.short) → ∀ x ∈ madeRules m rs l, x.short := by
  induction l with
  | nil => exact fun h => h
  | cons a l ih => exact fun h => ih (pushRule_short h (a.made_short m))
theorem madeRules_len (m : Nat) (l : List RawRule) : ∀ rs : List Rule, rs.length ≤ (madeRules m rs l).length ∧ (madeRules m rs l).length ≤ rs.length + l.length := by
  induction l with
  | nil => exact fun rs => ⟨Nat.le_refl _, Nat.le_refl _⟩
  | cons a l ih =>
    intro rs
    have h1 := ih (pushRule m rs (a.made m))
    have h2 := pushRule_len m rs (a.made m)
    have e : madeRules m rs (a :: l) = madeRules m (pushRule m rs (a.made m)) l := rfl
    rw [e, List.length_cons]
    omega
theorem madeRules_snoc (m : Nat) (rs : List Rule) (l : List RawRule) (x : RawRule) : madeRules m rs (l ++ [x]) = pushRule m (madeRules m rs l) (x.made m) := by
  simp [madeRules]
theorem baseOf_short (k : Nat) : ∀ r ∈ (baseOf k).rules, r.short := by
  have h : ∀ j, j < 6 → (baseOf j).rules.all (fun r => decide (r.inp.size ≤ 4) && decide (r.out.size ≤ 4)) = true := by decide
  have h5 : ∀ j, 5 ≤ j → baseOf j = baseOf 5 := by
    intro j hj
    unfold baseOf
    match j, hj with
    | j + 5, _ => rfl
  intro r hr
  have hk : ∃ j, j < 6 ∧ baseOf k = baseOf j := by
    rcases Nat.lt_or_ge k 5 with hlt | hge
    · exact ⟨k, by omega, rfl⟩
    · exact ⟨5, by omega, h5 k hge⟩
  obtain ⟨j, hj, e⟩ := hk
  rw [e] at hr
  have := List.all_eq_true.1 (h j hj) r hr
  simpa [Rule.short] using this
theorem baseOf_len (k : Nat) : 3 ≤ (baseOf k).rules.length ∧ (baseOf k).rules.length ≤ 5 := by
  unfold baseOf
  split <;> simp
theorem baseOf_modes (k : Nat) : (baseOf k).modes = 1 ∨ (baseOf k).modes = 2 := by
  unfold baseOf
  split <;> simp
theorem baseOf_accept (k : Nat) : (baseOf k).accept = 1 := by
  unfold baseOf
  split <;> simp

end Go.Proofs.Ythcnnadggffjhaa
namespace Go.Proofs.Ythcnnadggffjhaa
open Go.RowKit

/-- what a route takes, puts out and costs; its mode; whether its rules fit -/
structure RunR where
  inp : ByteArray
  out : ByteArray
  cost : Nat
  mode : Nat
  ok : Bool
  deriving DecidableEq
def RunR.zero : RunR := ⟨⟨#[]⟩, ⟨#[]⟩, 0, 0, false⟩
def RunR.start : RunR := ⟨⟨#[]⟩, ⟨#[]⟩, 0, 0, true⟩
def RunR.add (o : RunR) (r : Rule) : RunR := ⟨o.inp ++ r.inp, o.out ++ r.out, o.cost + r.cost, r.dst, o.ok⟩
/-- the rule with a number, if there is one -/
def ruleAt (rs : List Rule) (i : Int) : Option Rule := if i < 0 then none else rs[i.toNat]?
def runFrom (rs : List Rule) : RunR → List Int → RunR
  | o, [] => o
  | o, i :: l =>
    match ruleAt rs i with
    | none => .zero
    | some r => if r.frm = o.mode then runFrom rs (o.add r) l else .zero
def runOf (s : Scheme) (l : List Int) : RunR := runFrom s.rules .start l

def Rule.bnd (r : Rule) : Prop := r.inp.size ≤ 4 ∧ r.out.size ≤ 4 ∧ r.cost ≤ 1000
def RunR.bnd (o : RunR) (k : Nat) : Prop := o.inp.size ≤ 4 * k ∧ o.out.size ≤ 4 * k ∧ o.cost ≤ 1000 * k
theorem RunR.bnd_add {o : RunR} {k : Nat} {r : Rule} (h : o.bnd k) (hr : r.bnd) : (o.add r).bnd (k + 1) := by
  obtain ⟨h1, h2, h3⟩ := h
  obtain ⟨r1, r2, r3⟩ := hr
  refine ⟨?_, ?_, ?_⟩
  · simp only [RunR.add, ByteArray.size_append]; omega
  · simp only [RunR.add, ByteArray.size_append]; omega
  · simp only [RunR.add]; omega
theorem ruleAt_neg {rs : List Rule} {i : Int} (h : i < 0) : ruleAt rs i = none := by simp [ruleAt, h]
theorem ruleAt_big {rs : List Rule} {i : Int} (h : (rs.length : Int) ≤ i) : ruleAt rs i = none := by
  unfold ruleAt
  split
  · rfl
  · rw [List.getElem?_eq_none]; omega
theorem ruleAt_in {rs : List Rule} {j : Nat} (h : j < rs.length) : ruleAt rs (j : Int) = some rs[j] := by
  unfold ruleAt
  rw [if_neg (by omega)]
  simp [h]
theorem runFrom_cons (rs : List Rule) (o : RunR) (i : Int) (l : List Int) : runFrom rs o (i :: l) = match ruleAt rs i with
    | none => .zero
    | some r => if r.frm = o.mode then runFrom rs (o.add r) l else .zero := rfl
theorem runFrom_none {rs : List Rule} {o : RunR} {i : Int} {l : List Int} (h : ruleAt rs i = none) : runFrom rs o (i :: l) = .zero := by rw [runFrom_cons, h]
theorem runFrom_no {rs : List Rule} {o : RunR} {i : Int} {l : List Int} {r : Rule} (h : ruleAt rs i = some r) (hm : ¬ r.frm = o.mode) : runFrom rs o (i :: l) = .zero := by rw [runFrom_cons, h]; simp [hm]
theorem runFrom_yes {rs : List Rule} {o : RunR} {i : Int} {l : List Int} {r : Rule} (h : ruleAt rs i = some r) (hm : r.frm = o.mode) : runFrom rs o (i :: l) = runFrom rs (o.add r) l := by rw [runFrom_cons, h]; simp [hm]
theorem drop_cons (l : List Int) (k : Nat) (h : k < l.length) : l.drop k = l[k] :: l.drop (k + 1) := List.drop_eq_getElem_cons h
end Go.Proofs.Ythcnnadggffjhaa
namespace Go.Proofs.Ythcnnadggffjhaa
open Go.RowKit

/-- where a list of rules leads from a mode, if they fit together -/
def pathTo (rs : List Rule) : Nat → List Nat → Option Nat
  | m, [] => some m
  | m, i :: l => match rs[i]? with
    | some r => if r.frm = m then pathTo rs r.dst l else none
    | none => none
theorem pathTo_nil (rs : List Rule) (m : Nat) : pathTo rs m [] = some m := rfl
theorem pathTo_cons {rs : List Rule} {m i : Nat} {r : Rule} (h : rs[i]? = some r) (hf : r.frm = m) (l : List Nat) : pathTo rs m (i :: l) = pathTo rs r.dst l := by simp [pathTo, h, hf]
theorem pathTo_inv {rs : List Rule} {m i k : Nat} {l : List Nat} (h : pathTo rs m (i :: l) = some k) : ∃ r, rs[i]? = some r ∧ r.frm = m ∧ pathTo rs r.dst l = some k := by
  unfold pathTo at h
  split at h
  · rename_i r hr
    split at h
    · exact ⟨r, hr, by assumption, h⟩
    · cases h
  · cases h
theorem pathTo_snoc {rs : List Rule} {k mode : Nat} {r : Rule} (hk : rs[k]? = some r) (hf : r.frm = mode) : ∀ {m : Nat} {out : List Nat}, pathTo rs m out = some mode → pathTo rs m (out ++ [k]) = some r.dst
  | m, [], h => by
    injection h with h
    subst h
    rw [List.nil_append, pathTo_cons hk hf, pathTo_nil]
  | m, i :: l, h => by
    obtain ⟨r', h1, h2, h3⟩ := pathTo_inv h
    rw [List.cons_append, pathTo_cons h1 h2]
    exact pathTo_snoc hk hf h3
theorem pathTo_lt {rs : List Rule} {k n : Nat} (hs : ∀ r ∈ rs, r.frm < n ∧ r.dst < n) : ∀ {m : Nat} {l : List Nat}, m < n → pathTo rs m l = some k → k < n
  | m, [], hm, h => by injection h with h; omega
  | m, i :: l, hm, h => by
    obtain ⟨r', h1, h2, h3⟩ := pathTo_inv h
    exact pathTo_lt hs (hs r' (List.mem_of_getElem? h1)).2 h3
theorem pathTo_in {rs : List Rule} {k : Nat} : ∀ {m : Nat} {l : List Nat}, pathTo rs m l = some k → ∀ i ∈ l, i < rs.length
  | m, [], h => fun i hi => by cases hi
  | m, j :: l, h => fun i hi => by
    obtain ⟨r', h1, h2, h3⟩ := pathTo_inv h
    rcases List.mem_cons.1 hi with rfl | hi
    · exact (List.getElem?_eq_some_iff.1 h1).1
    · exact pathTo_in h3 i hi
end Go.Proofs.Ythcnnadggffjhaa
namespace Go.Proofs.Ythcnnadggffjhaa
open Go.RowKit

/-- a scheme of 2 to 5 modes and at most 9 rules, all in bounds -/
structure SchemeOk (s : Scheme) : Prop where
  m2 : 2 ≤ s.modes
  m5 : s.modes ≤ 5
  a1 : 1 ≤ s.accept
  a2 : s.accept < 2 ^ s.modes
  n9 : s.rules.length ≤ 10
  inn : ∀ r ∈ s.rules, r.frm < s.modes ∧ r.dst < s.modes
  bnd : ∀ r ∈ s.rules, r.bnd
  fits : ∀ r ∈ s.rules, r.fit s.modes = true
theorem SchemeOk.ac {s : Scheme} (h : SchemeOk s) : s.accept < 256 := by
  have h1 := h.a2
  have h2 : 2 ^ s.modes ≤ 2 ^ 5 := Nat.pow_le_pow_right (by omega) h.m5
  omega
theorem SchemeOk.cost {s : Scheme} (h : SchemeOk s) : ∀ r ∈ s.rules, r.cost ≤ 1000 := fun r hr => (h.bnd r hr).2.2
theorem fit_parts {m : Nat} {r : Rule} (h : r.fit m = true) : r.frm < m ∧ r.dst < m ∧ r.bnd := by
  simp only [Rule.fit, Bool.and_eq_true, decide_eq_true_eq] at h
  exact ⟨h.1, h.2.1, h.2.2.1, h.2.2.2.2.1, h.2.2.2.2.2.2⟩
theorem pushRule_fit {m : Nat} {rs : List Rule} {r : Rule} (h : ∀ x ∈ rs, x.fit m = true) : ∀ x ∈ pushRule m rs r, x.fit m = true := by
  unfold pushRule
  split
  · rename_i hr
    intro x hx
    rw [List.mem_append] at hx
    rcases hx with hx | hx
    · exact h x hx
    · simp only [List.mem_singleton] at hx
      subst hx
      simp only [rightAt, Bool.and_eq_true] at hr
      have := hr.2
      rwa [List.getD_eq_getElem?_getD, List.getElem?_append_right (Nat.le_refl _), Nat.sub_self] at this
  · exact h
theorem turnRules_fit (n w0 w1 : Nat) : ∀ (rs : List Rule) (i : Nat) (acc : List Rule), (∀ x ∈ acc, x.fit n = true) → ∀ x ∈ turnRules n w0 w1 rs i acc, x.fit n = true
  | [], _, _, h => h
  | r :: rs, i, acc, h => turnRules_fit n w0 w1 rs (i + 1) _ (pushRule_fit h)
theorem turnRules_len (n w0 w1 : Nat) : ∀ (rs : List Rule) (i : Nat) (acc : List Rule), (turnRules n w0 w1 rs i acc).length ≤ acc.length + rs.length
  | [], _, _ => by simp [turnRules]
  | r :: rs, i, acc => by
    have h := turnRules_len n w0 w1 rs (i + 1) (pushRule n acc (turned n w0 w1 r i))
    have h2 := (pushRule_len n acc (turned n w0 w1 r i)).2
    unfold turnRules
    simp only [List.length_cons]
    omega
theorem made3_n9 (base drop : Nat) (more : List RawRule) (w0 w1 : Nat) : (made3 base drop more w0 w1).rules.length ≤ 9 := by
  have h := turnRules_len (2 + w0 % 4) w0 w1 (made2 base drop more).rules 0 []
  have h2 : (made2 base drop more).rules.length ≤ 9 := by
    have h3 := (madeRules_len (baseOf (base % 6)).modes (more.take 4) ((baseOf (base % 6)).rules.drop (drop % 2))).2
    have h4 := (baseOf_len (base % 6)).2
    show (madeRules _ _ _).length ≤ 9
    simp only [List.length_drop, List.length_take] at h3
    omega
  show (turnRules _ _ _ _ _ _).length ≤ 9
  simp only [List.length_nil] at h
  omega
theorem made3_ok (base drop : Nat) (more : List RawRule) (w0 w1 : Nat) : SchemeOk (made3 base drop more w0 w1) := by
  have hm : 2 ≤ (made3 base drop more w0 w1).modes ∧ (made3 base drop more w0 w1).modes ≤ 5 := by
    show 2 ≤ 2 + w0 % 4 ∧ 2 + w0 % 4 ≤ 5
    omega
  have hf : ∀ x ∈ (made3 base drop more w0 w1).rules, x.fit (made3 base drop more w0 w1).modes = true := turnRules_fit _ _ _ _ _ _ (by simp)
  have hp : 2 ^ 2 ≤ 2 ^ (2 + w0 % 4) := Nat.pow_le_pow_right (by omega) (by omega)
  refine ⟨hm.1, hm.2, ?_, ?_, ?_, fun r hr => ?_, fun r hr => (fit_parts (hf r hr)).2.2, hf⟩
  · show 1 ≤ 1 + w1 % (2 ^ (2 + w0 % 4) - 1)
    omega
  · show 1 + w1 % (2 ^ (2 + w0 % 4) - 1) < 2 ^ (2 + w0 % 4)
    have := Nat.mod_lt w1 (show 0 < 2 ^ (2 + w0 % 4) - 1 by omega)
    omega
  · exact Nat.le_succ_of_le (made3_n9 base drop more w0 w1)
  · exact ⟨(fit_parts (hf r hr)).1, (fit_parts (hf r hr)).2.1⟩

/-- what a list of rules adds up, one after the other -/
def sumR (rs : List Rule) (l : List Nat) : RunR := l.foldl (fun o i => o.add (rs.getD i ⟨0, 0, .empty, .empty, 0⟩)) .start
def castL (l : List Nat) : List Int := l.map fun n : Nat => (n : Int)
theorem castL_len (l : List Nat) : (castL l).length = l.length := by simp [castL]
theorem run_path {rs : List Rule} {k : Nat} : ∀ {m : Nat} {l : List Nat} {o : RunR}, pathTo rs m l = some k → o.mode = m → o.ok = true →
    runFrom rs o (castL l) = l.foldl (fun o i => o.add (rs.getD i ⟨0, 0, .empty, .empty, 0⟩)) o ∧ (runFrom rs o (castL l)).mode = k ∧ (runFrom rs o (castL l)).ok = true
  | m, [], o, h, hm, hk => by
    injection h with h
    exact ⟨rfl, hm.trans h, hk⟩
  | m, i :: l, o, h, hm, hk => by
    obtain ⟨r, h1, h2, h3⟩ := pathTo_inv h
    have hi := (List.getElem?_eq_some_iff.1 h1)
    obtain ⟨hi1, hi2⟩ := hi
    have hr : ruleAt rs (i : Int) = some r := by rw [ruleAt_in hi1, hi2]
    have hd : rs.getD i ⟨0, 0, .empty, .empty, 0⟩ = r := by rw [List.getD_eq_getElem?_getD, h1]; rfl
    rw [show castL (i :: l) = (i : Int) :: castL l from rfl, runFrom_yes hr (h2.trans hm.symm)]
    have := run_path (o := o.add r) h3 rfl hk
    rw [List.foldl_cons, hd]
    exact this
theorem run_sum {rs : List Rule} {k : Nat} {l : List Nat} (h : pathTo rs 0 l = some k) : runFrom rs .start (castL l) = sumR rs l ∧ (sumR rs l).mode = k ∧ (sumR rs l).ok = true := by
  have := run_path (o := .start) h rfl rfl
  unfold sumR
  exact ⟨this.1, by rw [← this.1]; exact this.2.1, by rw [← this.1]; exact this.2.2⟩
theorem pathTo_take {rs : List Rule} {k : Nat} : ∀ {m : Nat} {l : List Nat}, pathTo rs m l = some k → ∀ i, ∃ k', pathTo rs m (l.take i) = some k'
  | m, l, h, 0 => ⟨m, rfl⟩
  | m, [], h, i + 1 => ⟨m, rfl⟩
  | m, j :: l, h, i + 1 => by
    obtain ⟨r, h1, h2, h3⟩ := pathTo_inv h
    obtain ⟨k', hk'⟩ := pathTo_take h3 i
    exact ⟨k', by rw [List.take_succ_cons, pathTo_cons h1 h2]; exact hk'⟩
theorem sumR_snoc {rs : List Rule} {l : List Nat} {i j : Nat} {r : Rule} (hj : l[i]? = some j) (hr : rs[j]? = some r) : sumR rs (l.take (i + 1)) = (sumR rs (l.take i)).add r := by
  obtain ⟨h1, h2⟩ := List.getElem?_eq_some_iff.1 hj
  unfold sumR
  rw [List.take_succ_eq_append_getElem h1, List.foldl_append, h2]
  simp [hr]
theorem sumR_bnd {rs : List Rule} (hb : ∀ r ∈ rs, r.bnd) (l : List Nat) (hl : ∀ i ∈ l, i < rs.length) : ∀ k, (sumR rs (l.take k)).bnd k
  | 0 => ⟨by simp [sumR, RunR.start]; rfl, by simp [sumR, RunR.start]; rfl, by simp [sumR, RunR.start]⟩
  | k + 1 => by
    have h := sumR_bnd hb l hl k
    cases hk : l[k]? with
    | none =>
      have : l.take (k + 1) = l.take k := by
        have hle : l.length ≤ k := List.getElem?_eq_none_iff.1 hk
        rw [List.take_of_length_le hle, List.take_of_length_le (by omega)]
      rw [this]
      exact ⟨by have := h.1; omega, by have := h.2.1; omega, by have := h.2.2; omega⟩
    | some j =>
      have hj := hl j (List.mem_of_getElem? hk)
      obtain ⟨r, hr⟩ : ∃ r, rs[j]? = some r := ⟨_, List.getElem?_eq_getElem hj⟩
      rw [sumR_snoc hk hr]
      exact RunR.bnd_add h (hb r (List.mem_of_getElem? hr))
end Go.Proofs.Ythcnnadggffjhaa
namespace Go.Proofs.Ythcnnadggffjhaa
open Go.RowKit

structure EndR where
  l : List Nat
  cost : Nat
  deriving DecidableEq
/-- one list comes before another of the same length -/
def lexB : List Nat → List Nat → Bool
  | a :: l, b :: m => decide (a < b) || (decide (a = b) && lexB l m)
  | _, _ => false
def EndR.before (e f : EndR) : Bool := if e.cost ≠ f.cost then decide (e.cost < f.cost) else if e.l.length ≠ f.l.length then decide (e.l.length < f.l.length) else lexB e.l f.l
def EndR.le (e f : EndR) : Prop := f.before e = false
def EndR.ext (i c : Nat) (e : EndR) : EndR := ⟨i :: e.l, c + e.cost⟩

theorem lexB_irrefl : ∀ l : List Nat, lexB l l = false
  | [] => rfl
  | a :: l => by simp [lexB, lexB_irrefl l]
theorem lexB_trans : ∀ {a b c : List Nat}, a.length = b.length → b.length = c.length → lexB b a = false → lexB c b = false → lexB c a = false
  | [], b, c, h1, h2, _, _ => by
    have : b = [] := List.length_eq_zero_iff.1 (by simpa using h1.symm)
    subst this
    have : c = [] := List.length_eq_zero_iff.1 (by simpa using h2.symm)
    subst this
    rfl
  | x :: a, [], c, h1, _, _, _ => by simp at h1
  | x :: a, y :: b, [], _, h2, _, _ => by simp at h2
  | x :: a, y :: b, z :: c, h1, h2, h3, h4 => by
    simp only [lexB, Bool.or_eq_false_iff, decide_eq_false_iff_not, Bool.and_eq_false_iff] at h3 h4 ⊢
    refine ⟨by omega, ?_⟩
    by_cases hzx : z = x
    · have h5 : y = x := by omega
      right
      refine lexB_trans (by simpa using h1) (by simpa using h2) ?_ ?_
      · rcases h3.2 with h | h
        · exact absurd h5 h
        · exact h
      · rcases h4.2 with h | h
        · exact absurd (by omega) h
        · exact h
    · exact .inl hzx
theorem lexB_antisymm : ∀ {a b : List Nat}, a.length = b.length → lexB a b = false → lexB b a = false → a = b
  | [], b, h, _, _ => (List.length_eq_zero_iff.1 (by simpa using h.symm)).symm
  | x :: a, [], h, _, _ => by simp at h
  | x :: a, y :: b, h, h1, h2 => by
    simp only [lexB, Bool.or_eq_false_iff, decide_eq_false_iff_not, Bool.and_eq_false_iff] at h1 h2
    have hxy : x = y := by omega
    subst hxy
    simp at h1 h2
    rw [lexB_antisymm (by simpa using h) h1 h2]

theorem EndR.le_iff {e f : EndR} : e.le f ↔ e.cost < f.cost ∨ (e.cost = f.cost ∧ (e.l.length < f.l.length ∨ (e.l.length = f.l.length ∧ lexB f.l e.l = false))) := by
  unfold EndR.le EndR.before
  by_cases h1 : f.cost = e.cost
  · by_cases h2 : f.l.length = e.l.length
    · simp only [h1, h2, ne_eq, not_true, if_false]
      constructor
      · intro h; exact .inr ⟨trivial, .inr ⟨trivial, h⟩⟩
      · rintro (h | ⟨_, h | ⟨_, h⟩⟩)
        · omega
        · omega
        · exact h
    · simp only [h1, h2, ne_eq, not_true, not_false_iff, if_false, if_true, decide_eq_false_iff_not]
      constructor
      · intro h; exact .inr ⟨trivial, .inl (by omega)⟩
      · rintro (h | ⟨_, h | ⟨h, _⟩⟩)
        · omega
        · omega
        · omega
  · simp only [h1, ne_eq, not_false_iff, if_true, decide_eq_false_iff_not]
    constructor
    · intro h; exact .inl (by omega)
    · rintro (h | ⟨h, _⟩)
      · omega
      · omega
theorem EndR.le_refl (e : EndR) : e.le e := EndR.le_iff.2 (.inr ⟨rfl, .inr ⟨rfl, lexB_irrefl _⟩⟩)
theorem EndR.le_trans {e f g : EndR} (h1 : e.le f) (h2 : f.le g) : e.le g := by
  rw [EndR.le_iff] at *
  rcases h1 with h1 | ⟨h1, h1' | ⟨h1', h1''⟩⟩ <;> rcases h2 with h2 | ⟨h2, h2' | ⟨h2', h2''⟩⟩
  · exact .inl (by omega)
  · exact .inl (by omega)
  · exact .inl (by omega)
  · exact .inl (by omega)
  · exact .inr ⟨by omega, .inl (by omega)⟩
  · exact .inr ⟨by omega, .inl (by omega)⟩
  · exact .inl (by omega)
  · exact .inr ⟨by omega, .inl (by omega)⟩
  · exact .inr ⟨by omega, .inr ⟨by omega, lexB_trans h1' h2' h1'' h2''⟩⟩
theorem EndR.le_antisymm {e f : EndR} (h1 : e.le f) (h2 : f.le e) : e = f := by
  rw [EndR.le_iff] at h1 h2
  obtain ⟨l, c⟩ := e
  obtain ⟨l', c'⟩ := f
  simp only at h1 h2
  have hc : c = c' := by omega
  have hl : l.length = l'.length := by omega
  have h3 : lexB l' l = false := by
    rcases h1 with h | ⟨_, h | ⟨_, h⟩⟩
    · omega
    · omega
    · exact h
  have h4 : lexB l l' = false := by
    rcases h2 with h | ⟨_, h | ⟨_, h⟩⟩
    · omega
    · omega
    · exact h
  rw [hc, lexB_antisymm hl h4 h3]
theorem EndR.before_le {e f : EndR} (h : e.before f = true) : e.le f := by
  have h0 : ¬ f.le e := fun h' => by unfold EndR.le at h'; rw [h] at h'; cases h'
  rw [EndR.le_iff] at h0 ⊢
  by_cases hc : e.cost = f.cost
  · by_cases hl : e.l.length = f.l.length
    · refine .inr ⟨hc, .inr ⟨hl, ?_⟩⟩
      rcases hb : lexB f.l e.l with _ | _
      · rfl
      · exfalso
        apply h0
        refine .inr ⟨hc.symm, .inr ⟨hl.symm, ?_⟩⟩
        have : ∀ a b : List Nat, lexB b a = true → lexB a b = false := by
          intro a
          induction a with
          | nil => intro b h; cases b <;> rfl
          | cons x a ih =>
            intro b h
            cases b with
            | nil => rfl
            | cons y b =>
              simp only [lexB, Bool.or_eq_true, decide_eq_true_eq, Bool.and_eq_true] at h
              simp only [lexB, Bool.or_eq_false_iff, decide_eq_false_iff_not, Bool.and_eq_false_iff]
              rcases h with h | ⟨h, h'⟩
              · exact ⟨by omega, .inl (by omega)⟩
              · exact ⟨by omega, .inr (ih b h')⟩
        exact this _ _ hb
    · refine .inr ⟨hc, .inl ?_⟩
      have := fun h => h0 (.inr ⟨hc.symm, .inl h⟩)
      omega
  · refine .inl ?_
    have := fun h => h0 (.inl h)
    omega
theorem EndR.le_ext {e f : EndR} (i c : Nat) (h : e.le f) : (e.ext i c).le (f.ext i c) := by
  rw [EndR.le_iff] at *
  simp only [EndR.ext, List.length_cons]
  rcases h with h | ⟨h, h' | ⟨h', h''⟩⟩
  · exact .inl (by omega)
  · exact .inr ⟨by omega, .inl (by omega)⟩
  · exact .inr ⟨by omega, .inr ⟨by omega, by simp [lexB, h'']⟩⟩
theorem EndR.le_of_ext (i c : Nat) (e : EndR) : e.le (e.ext i c) := by
  rw [EndR.le_iff]
  simp only [EndR.ext, List.length_cons]
  rcases Nat.eq_zero_or_pos c with h | h
  · exact .inr ⟨by omega, .inl (by omega)⟩
  · exact .inl (by omega)

/-- what a list of rules from a mode to an accepting one costs -/
def endOf (ac : Nat) (acc : Nat → Bool) (rs : List Rule) : Nat → List Nat → Option Nat
  | m, [] => if acc m then some 0 else none
  | m, i :: l =>
    match rs[i]? with
    | none => none
    | some r => if r.frm = m then (endOf ac acc rs r.dst l).map (r.cost + ·) else none
def IsEnd (acc : Nat → Bool) (rs : List Rule) (m : Nat) (e : EndR) : Prop := endOf 0 acc rs m e.l = some e.cost
def Least (acc : Nat → Bool) (rs : List Rule) (m : Nat) (e : EndR) : Prop := IsEnd acc rs m e ∧ ∀ f, IsEnd acc rs m f → e.le f
theorem Least.unique {acc : Nat → Bool} {rs : List Rule} {m : Nat} {e f : EndR} (h1 : Least acc rs m e) (h2 : Least acc rs m f) : e = f := EndR.le_antisymm (h1.2 f h2.1) (h2.2 e h1.1)
theorem IsEnd.nil {acc : Nat → Bool} {rs : List Rule} {m : Nat} (h : acc m = true) : IsEnd acc rs m ⟨[], 0⟩ := by simp [IsEnd, endOf, h]
theorem IsEnd.ext {acc : Nat → Bool} {rs : List Rule} {m i : Nat} {r : Rule} {e : EndR} (hi : rs[i]? = some r) (hm : r.frm = m) (h : IsEnd acc rs r.dst e) : IsEnd acc rs m (e.ext i r.cost) := by
  unfold IsEnd at *
  simp [EndR.ext, endOf, hi, hm, h]
theorem IsEnd.cons {acc : Nat → Bool} {rs : List Rule} {m i c : Nat} {l : List Nat} (h : IsEnd acc rs m ⟨i :: l, c⟩) : ∃ r c', rs[i]? = some r ∧ r.frm = m ∧ IsEnd acc rs r.dst ⟨l, c'⟩ ∧ c = r.cost + c' := by
  unfold IsEnd at *
  simp only [endOf] at h
  cases hr : rs[i]? with
  | none => simp [hr] at h
  | some r =>
    simp only [hr] at h
    split at h
    · rename_i hm
      obtain ⟨c', h1, h2⟩ := Option.map_eq_some_iff.1 h
      exact ⟨r, c', rfl, hm, h1, h2.symm⟩
    · cases h

/-- Dijkstra's state: D done, O open; of the rules that lead to 'at' those below i are done -/
structure Dij (acc : Nat → Bool) (rs : List Rule) (m : Nat) (D O : Nat → Option EndR) (at_ i : Nat) : Prop where
  done : ∀ k e, D k = some e → Least acc rs k e
  opn : ∀ k e, O k = some e → IsEnd acc rs k e ∧ D k = none
  start : ∀ k, k < m → acc k = true → D k = none → ∃ e, O k = some e ∧ e.le ⟨[], 0⟩
  edge : ∀ j r e, rs[j]? = some r → D r.dst = some e → (r.dst = at_ → j < i) → D r.frm = none → ∃ f, O r.frm = some f ∧ f.le (e.ext j r.cost)

/-- each end of a mode that is not done is no less than an open one -/
theorem Dij.open_le {acc : Nat → Bool} {rs : List Rule} {m at_ : Nat} {D O : Nat → Option EndR} (h : Dij acc rs m D O at_ rs.length) (hs : ∀ r ∈ rs, r.frm < m ∧ r.dst < m) :
    ∀ (l : List Nat) (c k : Nat), k < m → D k = none → IsEnd acc rs k ⟨l, c⟩ → ∃ j f, O j = some f ∧ f.le ⟨l, c⟩ := by
  intro l
  induction l with
  | nil =>
    intro c k hk hD he
    unfold IsEnd at he
    simp only [endOf] at he
    split at he
    · rename_i ha
      injection he with he
      obtain ⟨e, h1, h2⟩ := h.start k hk ha hD
      exact ⟨k, e, h1, by rw [← he]; exact h2⟩
    · cases he
  | cons i l ih =>
    intro c k hk hD he
    obtain ⟨r, c', h1, h2, h3, h4⟩ := he.cons
    have hlt : i < rs.length := by
      rcases Nat.lt_or_ge i rs.length with h | h
      · exact h
      · rw [List.getElem?_eq_none h] at h1; cases h1
    have hx : EndR.le ⟨l, c'⟩ ⟨i :: l, c⟩ := by rw [h4]; exact EndR.le_of_ext i r.cost ⟨l, c'⟩
    cases hd : D r.dst with
    | none =>
      obtain ⟨j, f, h5, h6⟩ := ih c' r.dst (hs r (List.mem_of_getElem? h1)).2 hd h3
      exact ⟨j, f, h5, EndR.le_trans h6 hx⟩
    | some e =>
      have hl := (h.done _ _ hd).2 _ h3
      obtain ⟨f, h5, h6⟩ := h.edge i r e h1 hd (fun _ => hlt) (by rw [h2]; exact hD)
      refine ⟨r.frm, f, h5, EndR.le_trans h6 ?_⟩
      rw [h4]
      exact EndR.le_ext i r.cost hl
/-- nothing is open any more: whoever has an end is done -/
theorem Dij.end_done {acc : Nat → Bool} {rs : List Rule} {m at_ : Nat} {D O : Nat → Option EndR} (h : Dij acc rs m D O at_ rs.length) (hs : ∀ r ∈ rs, r.frm < m ∧ r.dst < m) (hO : ∀ k, O k = none) {k : Nat} (hk : k < m) (hD : D k = none) (e : EndR) : ¬ IsEnd acc rs k e := by
  intro he
  obtain ⟨j, f, h1, _⟩ := h.open_le hs e.l e.cost k hk hD he
  rw [hO] at h1
  cases h1
/-- the least open end is the least of its mode -/
theorem Dij.least {acc : Nat → Bool} {rs : List Rule} {m at_ a : Nat} {D O : Nat → Option EndR} {e : EndR} (h : Dij acc rs m D O at_ rs.length) (hs : ∀ r ∈ rs, r.frm < m ∧ r.dst < m) (ha : O a = some e) (ham : a < m) (hmin : ∀ k f, O k = some f → e.le f) : Least acc rs a e := by
  refine ⟨(h.opn a e ha).1, fun p hp => ?_⟩
  obtain ⟨j, f, h1, h2⟩ := h.open_le hs p.l p.cost a ham (h.opn a e ha).2 hp
  exact EndR.le_trans (hmin j f h1) h2
def upd (D : Nat → Option EndR) (a : Nat) (e : Option EndR) (k : Nat) : Option EndR := if k = a then e else D k
theorem upd_same (D : Nat → Option EndR) (a : Nat) (e : Option EndR) : upd D a e a = e := by simp [upd]
theorem upd_ne (D : Nat → Option EndR) {a k : Nat} (e : Option EndR) (h : k ≠ a) : upd D a e k = D k := by simp [upd, h]
/-- the least open end is laid among the done ones -/
theorem Dij.take {acc : Nat → Bool} {rs : List Rule} {m at_ a : Nat} {D O : Nat → Option EndR} {e : EndR} (h : Dij acc rs m D O at_ rs.length) (hs : ∀ r ∈ rs, r.frm < m ∧ r.dst < m) (ha : O a = some e) (ham : a < m) (hmin : ∀ k f, O k = some f → e.le f) :
    Dij acc rs m (upd D a (some e)) (upd O a none) a 0 := by
  refine ⟨fun k f hk => ?_, fun k f hk => ?_, fun k hk hacc hD => ?_, fun j r f hr hD hj hF => ?_⟩
  · by_cases hka : k = a
    · subst hka
      rw [upd_same] at hk
      injection hk with hk
      rw [← hk]
      exact h.least hs ha ham hmin
    · rw [upd_ne _ _ hka] at hk
      exact h.done k f hk
  · by_cases hka : k = a
    · subst hka; rw [upd_same] at hk; cases hk
    · rw [upd_ne _ _ hka] at hk ⊢
      exact h.opn k f hk
  · by_cases hka : k = a
    · subst hka; rw [upd_same] at hD; cases hD
    · rw [upd_ne _ _ hka] at hD ⊢
      exact h.start k hk hacc hD
  · by_cases hda : r.dst = a
    · exact absurd (hj hda) (by omega)
    · rw [upd_ne _ _ hda] at hD
      by_cases hfa : r.frm = a
      · rw [hfa, upd_same] at hF; cases hF
      · rw [upd_ne _ _ hfa] at hF ⊢
        have hlt : j < rs.length := by
          rcases Nat.lt_or_ge j rs.length with h | h
          · exact h
          · rw [List.getElem?_eq_none h] at hr; cases hr
        exact h.edge j r f hr hD (fun _ => hlt) hF
/-- a rule is passed over: it leads elsewhere, or from a mode that is done -/
theorem Dij.skip {acc : Nat → Bool} {rs : List Rule} {m a i : Nat} {D O : Nat → Option EndR} {r : Rule} (h : Dij acc rs m D O a i) (hi : rs[i]? = some r) (hr : r.dst ≠ a ∨ D r.frm ≠ none) : Dij acc rs m D O a (i + 1) := by
  refine ⟨h.done, h.opn, h.start, fun j q f hq hD hj hF => ?_⟩
  by_cases hji : j = i
  · subst hji
    rw [hi] at hq
    injection hq with hq
    subst hq
    rcases hr with hr | hr
    · exact h.edge j r f hi hD (fun e => absurd e hr) hF
    · exact absurd hF hr
  · exact h.edge j q f hq hD (fun e => by have := hj e; omega) hF
/-- a rule that leads to 'at' from a mode that is not done: the better end remains -/
theorem Dij.relax {acc : Nat → Bool} {rs : List Rule} {m a i : Nat} {D O : Nat → Option EndR} {r : Rule} {e g : EndR} (h : Dij acc rs m D O a i) (hi : rs[i]? = some r) (hr : r.dst = a) (hDa : D a = some e) (hF : D r.frm = none)
    (hg : g = e.ext i r.cost ∨ O r.frm = some g) (hg1 : g.le (e.ext i r.cost)) (hg2 : ∀ f, O r.frm = some f → g.le f) : Dij acc rs m D (upd O r.frm (some g)) a (i + 1) := by
  refine ⟨h.done, fun k f hk => ?_, fun k hk hacc hD => ?_, fun j q f hq hD hj hFq => ?_⟩
  · by_cases hkf : k = r.frm
    · subst hkf
      rw [upd_same] at hk
      injection hk with hk
      subst hk
      refine ⟨?_, hF⟩
      rcases hg with hg | hg
      · rw [hg]; exact IsEnd.ext hi rfl (by rw [hr]; exact (h.done a e hDa).1)
      · exact (h.opn _ _ hg).1
    · rw [upd_ne _ _ hkf] at hk
      exact h.opn k f hk
  · obtain ⟨f, h1, h2⟩ := h.start k hk hacc hD
    by_cases hkf : k = r.frm
    · subst hkf
      exact ⟨g, upd_same _ _ _, EndR.le_trans (hg2 f h1) h2⟩
    · exact ⟨f, by rw [upd_ne _ _ hkf]; exact h1, h2⟩
  · by_cases hji : j = i
    · subst hji
      rw [hi] at hq
      injection hq with hq
      subst hq
      rw [hr, hDa] at hD
      injection hD with hD
      subst hD
      exact ⟨g, upd_same _ _ _, hg1⟩
    · obtain ⟨f', h1, h2⟩ := h.edge j q f hq hD (fun e => by have := hj e; omega) hFq
      by_cases hkf : q.frm = r.frm
      · rw [hkf] at h1 ⊢
        exact ⟨g, upd_same _ _ _, EndR.le_trans (hg2 f' h1) h2⟩
      · exact ⟨f', by rw [upd_ne _ _ hkf]; exact h1, h2⟩
/-- it begins: the accepting modes are open, with nothing -/
theorem Dij.begin (acc : Nat → Bool) (rs : List Rule) (m a : Nat) : Dij acc rs m (fun _ => none) (fun k => if k < m ∧ acc k = true then some ⟨[], 0⟩ else none) a rs.length := by
  refine ⟨fun k e h => by (cases h), fun k e h => ?_, fun k hk hacc _ => ?_, fun j r e _ hD _ _ => by (cases hD)⟩
  · by_cases hk : k < m ∧ acc k = true
    · rw [if_pos hk] at h
      injection h with h
      rw [← h]
      exact ⟨IsEnd.nil hk.2, rfl⟩
    · rw [if_neg hk] at h
      cases h
  · exact ⟨⟨[], 0⟩, by simp [hk, hacc], EndR.le_refl _⟩
end Go.Proofs.Ythcnnadggffjhaa
