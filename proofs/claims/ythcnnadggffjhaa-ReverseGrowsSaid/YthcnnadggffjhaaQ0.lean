/- Classes of bytes, texts, prefixes. No program is in sight here. -/
import Derived.Test.YthcnnadggffjhaaPA
set_option linter.unusedVariables false
set_option linter.unusedSimpArgs false
namespace Go.Proofs.Ythcnnadggffjhaa
open Go.RowKit

def classN (c : Nat) : Nat := if 97 ≤ c ∧ c ≤ 122 then 1 else if 65 ≤ c ∧ c ≤ 90 then 2 else if 48 ≤ c ∧ c ≤ 57 then 3 else 0
def allB (most : Nat) (s : ByteArray) : Bool := s.data.toList.all fun c => decide (classN c.toNat ≠ 0 ∧ classN c.toNat ≤ most)
theorem classN_le (c : Nat) : classN c ≤ 3 := by
  unfold classN
  repeat' split
  all_goals omega
theorem allB_three (s : ByteArray) : allB 3 s = plain s := by
  unfold allB plain
  congr 1
  funext c
  unfold plainN lowN classN
  rw [Bool.eq_iff_iff]
  simp only [decide_eq_true_eq]
  repeat' split
  all_goals simp
  all_goals omega
theorem allB_one (s : ByteArray) : allB 1 s = small s := by
  unfold allB small
  congr 1
  funext c
  unfold lowN classN
  rw [Bool.eq_iff_iff]
  simp only [decide_eq_true_eq]
  repeat' split
  all_goals simp
  all_goals omega
/-- a text that may be put out -/
def isText (s : ByteArray) : Bool := decide (s.size ≤ 20) && plain s
def isLetters (s : ByteArray) : Bool := decide (s.size ≤ 40) && small s
/-- a text begins with another one -/
def prefB (s p : ByteArray) : Bool := decide (p.size ≤ s.size ∧ s.extract 0 p.size = p)
def memS (S : List ByteArray) (s : ByteArray) : Bool := S.any fun x => decide (x = s)
theorem memS_iff {S : List ByteArray} {s : ByteArray} : memS S s = true ↔ s ∈ S := by simp [memS]
theorem memS_snoc (S : List ByteArray) (x s : ByteArray) : memS (S ++ [x]) s = (memS S s || decide (x = s)) := by simp [memS]
end Go.Proofs.Ythcnnadggffjhaa
