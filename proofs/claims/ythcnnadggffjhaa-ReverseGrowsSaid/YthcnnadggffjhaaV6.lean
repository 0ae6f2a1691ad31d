/- Best and Cheapest at a scheme of layer 6, in one form for all outcomes; the frame of the laws. -/
import Derived.Test.YthcnnadggffjhaaV4
import Derived.Test.YthcnnadggffjhaaV5
import Derived.Test.YthcnnadggffjhaaV2
import Derived.Test.YthcnnadggffjhaaQ5
import Derived.Test.YthcnnadggffjhaaG0
set_option linter.unusedVariables false
set_option linter.unusedSimpArgs false
namespace Go.Proofs.Ythcnnadggffjhaa
open Go.RowKit

/-- the scheme of a law of layer 6 in its box S -/
structure SY (s : Scheme) (S : Nat) (A : Option Addr) (c : Nat) (w W : World) : Prop where
  bel : Below w.heap.size w W
  box : Blk W S 31 #[.int .i64 s.modes, .int .u8 s.accept, .slice A s.rules.length c]
  rules : RulesAt (fun _ => True) W A s.rules
theorem SY.next {s : Scheme} {S : Nat} {A : Option Addr} {c : Nat} {w W W' : World} (h : SY s S A c w W) (hb : Below W.heap.size W W') : SY s S A c w W' := ⟨h.bel.trans (hb.mono h.bel.size), h.box.next hb, Reads.below h.rules hb⟩
theorem SY.cells {s : Scheme} {S : Nat} {A : Option Addr} {c : Nat} {w W : World} (h : SY s S A c w W) : W.cell? ⟨S, 0, none⟩ = some (.int .i64 s.modes) ∧ W.cell? ⟨S, 1, none⟩ = some (.int .u8 s.accept) ∧ W.cell? ⟨S, 2, none⟩ = some (.slice A s.rules.length c) ∧ S < W.heap.size := ⟨h.box.cell 0, h.box.cell 1, h.box.cell 2, h.box.lt⟩
def errOf (l : List (ByteArray × Nat)) : Int := if l = [] then 50 else 0
theorem errOf_nil : errOf [] = 50 := rfl
theorem errOf_some {l : List (ByteArray × Nat)} (h : l ≠ []) : errOf l = 0 := by simp [errOf, h]
/-- Best's answer -/
def BestC (s : Scheme) (out : ByteArray) (k : Nat) (w : World) (e : Ending) (w' : World) : Prop :=
  ∃ A' n c' er l N, e = .returned (.tuple #[.slice A' n c', .int .i64 er]) ∧ Below w.heap.size w w' ∧ outerF (accB s.accept) s.rules out sortedS N k [startP] [] [] = some l ∧ n = min k l.length ∧ er = errOf l ∧ n ≤ c' ∧ ResAt (fun _ => True) w' A' (l.take k)
theorem bestC {s : Scheme} (hs : Ok6 s) (A : Option Addr) (c : Nat) (out : ByteArray) (k : Nat) (w : World) (F : Nat → Prop) (hA : RulesAt F w A s.rules) (hot : isText out = true) (ho : out.size ≤ 5) (hk1 : 1 ≤ k) (hk2 : k ≤ 50) :
    Calls Try.prog 12 #[.agg #[.int .i64 s.modes, .int .u8 s.accept, .slice A s.rules.length c], .string out, .int .i64 k] w (BestC s out k w) := by
  refine (best6 hs A c out k w F hA hot ho hk1 hk2).mono ?_
  rintro e w' ⟨hb, N, l, hl, (⟨rfl, rfl⟩ | ⟨hne, A', c', rfl, hc, hR⟩)⟩
  · exact ⟨none, 0, 0, 50, [], N, rfl, hb, hl, by simp, rfl, Nat.le_refl _, by rw [List.take_nil]; exact Reads.nil _⟩
  · exact ⟨A', _, c', 0, l, N, rfl, hb, hl, rfl, (errOf_some hne).symm, hc, Reads.mono hR fun _ _ => trivial⟩
/-- Cheapest's answer -/
def CheapC (s : Scheme) (out : ByteArray) (w : World) (e : Ending) (w' : World) : Prop :=
  ∃ (p : ByteArray × Nat) (er : Int) (l : List (ByteArray × Nat)) (N : Nat), e = .returned (.tuple #[.string p.1, .int .i64 p.2, .int .i64 er]) ∧ Below w.heap.size w w' ∧ outerF (accB s.accept) s.rules out sortedS N 1 [startP] [] [] = some l ∧ er = errOf l ∧ (l ≠ [] → l.head? = some p) ∧ (l = [] → p = (⟨#[]⟩, 0))
theorem cheapC {s : Scheme} (hs : Ok6 s) (A : Option Addr) (c : Nat) (out : ByteArray) (w : World) (F : Nat → Prop) (hA : RulesAt F w A s.rules) (hot : isText out = true) (ho : out.size ≤ 5) :
    Calls Try.prog 14 #[.agg #[.int .i64 s.modes, .int .u8 s.accept, .slice A s.rules.length c], .string out] w (CheapC s out w) := by
  refine (cheapest6 hs A c out w F hA hot ho).mono ?_
  rintro e w' ⟨hb, N, l, hl, (⟨rfl, rfl⟩ | ⟨p, l', rfl, rfl⟩)⟩
  · exact ⟨(⟨#[]⟩, 0), 50, [], N, rfl, hb, hl, rfl, fun h => absurd rfl h, fun _ => rfl⟩
  · exact ⟨p, 0, p :: l', N, rfl, hb, hl, rfl, fun _ => rfl, fun h => by cases h⟩
theorem same6_n (F G : Nat → Prop) (A A' : Option Addr) (c c' n : Nat) (l : List (ByteArray × Nat)) (w : World) (hL : ResAt F w A l) (hL' : ResAt G w A' l) (hl : l.length = n) (hn : n ≤ 100000) :
    Calls Try.prog 18 #[.slice A n c, .slice A' n c'] w fun e w' => e = .returned (.bool true) ∧ Below w.heap.size w w' := by
  subst hl
  have h := same6_any F G A A' c c' l l w hL hL' hn hn
  rw [decide_eq_true rfl] at h
  exact h
end Go.Proofs.Ythcnnadggffjhaa
