/- Plain definitions: schemes, rules and what the reference functions of layers 2 and 3 compute, as Lean functions on data. No program is in sight here. -/
import Derived.Below
import Derived.Lib.Hide
set_option linter.unusedVariables false
set_option linter.unusedSimpArgs false
namespace Go.Proofs.Ytpidgkngefkbeaa
open Go.RowKit

theorem ret_b {a b : Bool} (h : a = b) : Ending.returned (.bool a) = .returned (.bool b) := by rw [h]
theorem ret_i {a b : Int} (h : a = b) : Ending.returned (.int .i64 a) = .returned (.int .i64 b) := by rw [h]

structure Rule where
  frm : Nat
  dst : Nat
  inp : ByteArray
  out : ByteArray
  cost : Nat
  deriving DecidableEq
structure Scheme where
  modes : Nat
  accept : Nat
  rules : List Rule
  deriving DecidableEq

def Rule.cells (r : Rule) : List Value := [.int .i64 r.frm, .int .i64 r.dst, .string r.inp, .string r.out, .int .i64 r.cost]
def Rule.agg (r : Rule) : Value := .agg #[.int .i64 r.frm, .int .i64 r.dst, .string r.inp, .string r.out, .int .i64 r.cost]

def lowN (c : Nat) : Bool := decide (97 ≤ c) && decide (c ≤ 122)
def plainN (c : Nat) : Bool := lowN c || (decide (65 ≤ c) && decide (c ≤ 90)) || (decide (48 ≤ c) && decide (c ≤ 57))
def small (s : ByteArray) : Bool := s.data.toList.all fun c => lowN c.toNat
def plain (s : ByteArray) : Bool := s.data.toList.all fun c => plainN c.toNat

theorem all_take_succ (p : UInt8 → Bool) (s : ByteArray) (k : Nat) (h : k < s.size) : (s.data.toList.take (k + 1)).all p = ((s.data.toList.take k).all p && p s[k]) := by
  rw [List.take_succ_eq_append_getElem (by simpa using h), List.all_append]
  simp
  rfl
theorem all_false_of (p : UInt8 → Bool) (s : ByteArray) (k : Nat) (h : k < s.size) (hp : p s[k] = false) : s.data.toList.all p = false := by
  rw [List.all_eq_false]
  exact ⟨s[k], by simp [ByteArray.getElem_eq_getElem_data], by simp [hp]⟩

/-- the rule's numbers and texts are in their ranges -/
def Rule.fit (modes : Nat) (r : Rule) : Bool :=
  decide (r.frm < modes) && (decide (r.dst < modes) && (decide (r.inp.size ≤ 4) && (small r.inp && (decide (r.out.size ≤ 4) && (plain r.out && decide (r.cost ≤ 1000))))))

/-- 'Right' as a function: the rule with the index i is fit, and no earlier one is like it. -/
def rightAt (modes : Nat) (rs : List Rule) (i : Nat) : Bool := (rs.take i).all (fun r => decide (r ≠ rs.getD i ⟨0, 0, .empty, .empty, 0⟩)) && (rs.getD i ⟨0, 0, .empty, .empty, 0⟩).fit modes

/-- a rule in the raw: bytes -/
structure RawRule where
  inp : List Nat
  out : List Nat
  frm : Nat
  dst : Nat
  cost : Nat
def pick3 (c : Nat) : UInt8 := if c % 3 = 0 then 97 else if c % 3 = 1 then 98 else 99
def pick6 (c : Nat) : UInt8 := if c % 6 = 0 then 97 else if c % 6 = 1 then 98 else if c % 6 = 2 then 99 else if c % 6 = 3 then 65 else if c % 6 = 4 then 66 else 49
def RawRule.made (r : RawRule) (modes : Nat) : Rule := ⟨r.frm % modes, r.dst % modes, ⟨((r.inp.take 2).map pick3).toArray⟩, ⟨((r.out.take 2).map pick6).toArray⟩, 2 * r.cost⟩

/-- a rule as 'simple' makes it -/
def sim (a b : Nat) (s t : List UInt8) : Rule := ⟨a, b, ⟨s.toArray⟩, ⟨t.toArray⟩, s.length⟩
/-- the six schemes of 'Base' -/
def baseOf (k : Nat) : Scheme :=
  match k with
  | 0 => ⟨1, 1, [sim 0 0 [97] [97], sim 0 0 [98] [98], sim 0 0 [99] [99]]⟩
  | 1 => ⟨1, 1, [sim 0 0 [97] [65], sim 0 0 [98, 97] [66], sim 0 0 [99, 97] [67], sim 0 0 [98] [98]]⟩
  | 2 => ⟨2, 1, [sim 0 1 [99] [], sim 1 0 [97] [65], sim 1 0 [98] [66], sim 0 0 [97] [97], sim 0 0 [98] [98]]⟩
  | 3 => ⟨1, 1, [sim 0 0 [97] [97], sim 0 0 [98] [98], sim 0 0 [97, 98] [97, 98, 99, 49], sim 0 0 [99] [99]]⟩
  | 4 => ⟨1, 1, [sim 0 0 [97] [97], ⟨0, 0, ⟨#[98]⟩, ⟨#[98]⟩, 0⟩, ⟨0, 0, ⟨#[99]⟩, ⟨#[98]⟩, 7⟩, ⟨0, 0, ⟨#[98]⟩, ⟨#[99]⟩, 9⟩]⟩
  | _ => ⟨1, 1, [sim 0 0 [97] [97], sim 0 0 [97] [65], sim 0 0 [97, 97] [66], sim 0 0 [98] [98], ⟨0, 0, ⟨#[98]⟩, ⟨#[]⟩, 20⟩]⟩

/-- a rule is added where it is right -/
def pushRule (m : Nat) (rs : List Rule) (r : Rule) : List Rule := if rightAt m (rs ++ [r]) rs.length then rs ++ [r] else rs
/-- 'Made' of layer 2 -/
def madeRules (m : Nat) (rs : List Rule) (l : List RawRule) : List Rule := l.foldl (fun rs x => pushRule m rs (x.made m)) rs
def made2 (base drop : Nat) (more : List RawRule) : Scheme :=
  let s := baseOf (base % 6)
  ⟨s.modes, s.accept, madeRules s.modes (s.rules.drop (drop % 2)) (more.take 4)⟩
/-- 'Made' of layer 3: the rule with the index i of a scheme of layer 2, turned to n modes -/
def turned (n w0 w1 : Nat) (r : Rule) (i : Nat) : Rule := ⟨(r.frm + i / 2 + w0 / 4 * i) % n, (r.dst + i + w1 % 3) % n, r.inp, r.out, r.cost⟩
def turnRules (n w0 w1 : Nat) : List Rule → Nat → List Rule → List Rule
  | [], _, acc => acc
  | r :: rs, i, acc => turnRules n w0 w1 rs (i + 1) (pushRule n acc (turned n w0 w1 r i))
def made3 (base drop : Nat) (more : List RawRule) (w0 w1 : Nat) : Scheme :=
  let n := 2 + w0 % 4
  ⟨n, 1 + w1 % (2 ^ n - 1), turnRules n w0 w1 (made2 base drop more).rules 0 []⟩
end Go.Proofs.Ytpidgkngefkbeaa
