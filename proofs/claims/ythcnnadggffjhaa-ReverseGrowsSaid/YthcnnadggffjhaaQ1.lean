/- The beginnings of direct routes as values; their order; a queue of them. No program is in sight here. -/
import Derived.Test.YthcnnadggffjhaaE2
set_option linter.unusedVariables false
set_option linter.unusedSimpArgs false
namespace Go.Proofs.Ythcnnadggffjhaa
open Go.RowKit

/-- the three cells of a part: its spots lie at a (and are known) -/
structure PartV where
  inp : ByteArray
  cost : Nat
  a : Option Addr
  n : Nat
  c : Nat
  spots : List (Nat × Nat)
def PartV.cells (p : PartV) : List Value := [.string p.inp, .int .i64 p.cost, .slice p.a p.n p.c]
abbrev PartV.agg (p : PartV) : Value := .agg #[.string p.inp, .int .i64 p.cost, .slice p.a p.n p.c]
def orI (x y : Int) : Int := if x = 0 then y else x
/-- the order of keys: costs, then lengths -/
def keyI (c1 l1 c2 l2 : Nat) : Int := orI (cmpI c1 c2) (cmpI l1 l2)
theorem cmpI_range (x y : Nat) : -1 ≤ cmpI x y ∧ cmpI x y ≤ 1 := by
  unfold cmpI
  split
  · omega
  · split <;> omega
theorem keyI_range (a b c d : Nat) : -1 ≤ keyI a b c d ∧ keyI a b c d ≤ 1 := by
  have h1 := cmpI_range a c
  have h2 := cmpI_range b d
  unfold keyI orI
  split <;> omega
theorem keyI_lt (a b c d : Nat) : keyI a b c d < 0 ↔ a < c ∨ (a = c ∧ b < d) := by
  unfold keyI orI cmpI
  repeat' split
  all_goals omega
theorem keyI_eq (a b c d : Nat) : keyI a b c d = 0 ↔ a = c ∧ b = d := by
  unfold keyI orI cmpI
  repeat' split
  all_goals omega
def PartV.key (p q : PartV) : Int := keyI p.cost p.inp.size q.cost q.inp.size
theorem partCells_len (vs : List PartV) : (vs.flatMap PartV.cells).length = vs.length * 3 := by
  induction vs with
  | nil => rfl
  | cons r rs ih => simp [PartV.cells, ih]; omega
theorem partCells_at (vs : List PartV) (k : Nat) (hk : k < vs.length) (j : Nat) (hj : j < 3) : (vs.flatMap PartV.cells)[k * 3 + j]? = vs[k].cells[j]? := by
  induction vs generalizing k with
  | nil => simp at hk
  | cons r rs ih =>
    cases k with
    | zero =>
      simp only [List.flatMap_cons, Nat.zero_mul, Nat.zero_add, List.getElem_cons_zero]
      rw [List.getElem?_append_left (by simp [PartV.cells]; omega)]
    | succ k =>
      simp only [List.flatMap_cons, List.getElem_cons_succ]
      rw [List.getElem?_append_right (by simp [PartV.cells]; omega)]
      rw [show (k + 1) * 3 + j - r.cells.length = k * 3 + j from by simp [PartV.cells]; omega]
      exact ih k (by simpa using hk)
theorem partCells_take (vs : List PartV) (k : Nat) : (vs.flatMap PartV.cells).take (k * 3) = (vs.take k).flatMap PartV.cells := by
  induction vs generalizing k with
  | nil => simp
  | cons r rs ih =>
    cases k with
    | zero => simp
    | succ k =>
      simp only [List.flatMap_cons, List.take_succ_cons]
      rw [List.take_append, List.take_of_length_le (by simp [PartV.cells]; omega), show (k + 1) * 3 - r.cells.length = k * 3 from by simp [PartV.cells]; omega, ih]
theorem partCells_drop (vs : List PartV) (k : Nat) : (vs.flatMap PartV.cells).drop (k * 3) = (vs.drop k).flatMap PartV.cells := by
  induction vs generalizing k with
  | nil => simp
  | cons r rs ih =>
    cases k with
    | zero => simp
    | succ k =>
      simp only [List.flatMap_cons, List.drop_succ_cons]
      rw [List.drop_append, List.drop_of_length_le (by simp [PartV.cells]; omega), show (k + 1) * 3 - r.cells.length = k * 3 from by simp [PartV.cells]; omega, ih, List.nil_append]
theorem partCells_one (vs : List PartV) : ∀ u ∈ vs.flatMap PartV.cells, u.oneCell' = true := by
  intro u hu
  obtain ⟨p, _, hp⟩ := List.mem_flatMap.1 hu
  simp [PartV.cells] at hp
  rcases hp with rfl | rfl | rfl <;> rfl
/-- the first place whose part comes before p, or with it: there p is put in -/
def place (p : PartV) (vs : List PartV) : Nat := vs.findIdx fun q => !decide (p.key q < 0)
def pushV (p : PartV) (vs : List PartV) : List PartV := vs.take (place p vs) ++ p :: vs.drop (place p vs)
theorem place_le (p : PartV) (vs : List PartV) : place p vs ≤ vs.length := List.findIdx_le_length
/-- the queue is in order: what comes first stands last -/
def Down (vs : List PartV) : Prop := vs.Pairwise fun x y => ¬ x.key y < 0
theorem key_trans {p x y : PartV} (h1 : p.key x < 0) (h2 : ¬ y.key x < 0) (h3 : ¬ p.key y < 0) : False := by
  unfold PartV.key at h1 h2 h3
  rw [keyI_lt] at h1 h2 h3
  omega
end Go.Proofs.Ythcnnadggffjhaa
