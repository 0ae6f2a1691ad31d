/- What all laws of layer 3 begin with. -/
import Derived.Test.YtpidgkngefkbeaaGA
import Derived.Test.YtpidgkngefkbeaaPA
import Derived.Test.YtpidgkngefkbeaaSA
import Derived.Test.YtpidgkngefkbeaaW8
import Derived.Test.YtpidgkngefkbeaaW11
set_option linter.unusedVariables false
set_option linter.unusedSimpArgs false
namespace Go.Proofs.Ytpidgkngefkbeaa
open Go.RowKit

theorem own_ : ownKnob Try.prog.godebug = none := by kernel_rfl
theorem laidOut_ : laidOutB Try.prog = true := by kernel_rfl

/-- the scheme's box lies at S, its rules at A -/
structure SW (s : Scheme) (S : Nat) (A : Option Addr) (c : Nat) (w W : World) : Prop where
  bel : Below w.heap.size w W
  box : Blk W S 30 #[.int .i64 s.modes, .int .u8 s.accept, .slice A s.rules.length c]
  rules : RulesAt (fun _ => True) W A s.rules
section
variable {s : Scheme} {S : Nat} {A : Option Addr} {c : Nat} {w W W' : World}
theorem SW.next (h : SW s S A c w W) (hb : Below W.heap.size W W') : SW s S A c w W' := ⟨h.bel.trans (hb.mono h.bel.size), h.box.next hb, Reads.below h.rules hb⟩
theorem SW.cells (h : SW s S A c w W) : W.cell? ⟨S, 0, none⟩ = some (.int .i64 s.modes) ∧ W.cell? ⟨S, 1, none⟩ = some (.int .u8 s.accept) ∧ W.cell? ⟨S, 2, none⟩ = some (.slice A s.rules.length c) ∧ S < W.heap.size := ⟨h.box.cell 0, h.box.cell 1, h.box.cell 2, h.box.lt⟩
end
theorem walk_10 (F G : Nat → Prop) (m ac : Nat) (A A' : Option Addr) (c c' : Nat) (rs : List Rule) (l : List Nat) (w : World) (hA : RulesAt F w A rs) (hL : SlAt v8 G w A' l) (hl8 : ∀ x ∈ l, x < 256) (hl : l.length ≤ maxLen) (hn : rs.length < 1000) :
    Calls Try.prog 12 #[.agg #[.int .i64 m, .int .u8 ac, .slice A rs.length c], .agg #[.int .i64 0, .int .i64 10], .slice A' l.length c'] w (WalkRes rs 0 10 w) :=
  walk_any _ G m ac A A' c c' 0 10 rs l w (Reads.all hA) (fun _ h => h) hL hl8 hl hn (by decide) (by decide)
theorem SlAt.cast {F : Nat → Prop} {w : World} {A : Option Addr} {l : List Nat} (h : SlAt vN F w A l) : SlAt vI F w A (castL l) := SlAt.ints h
/-- Run along rules that fit together -/
theorem run_fit (F G : Nat → Prop) (s : Scheme) (A A' : Option Addr) (c c' k : Nat) (l : List Nat) (w : World) (hs : SchemeOk s) (hA : RulesAt F w A s.rules) (hL : SlAt vN G w A' l) (hl : l.length ≤ 1000) (hp : pathTo s.rules 0 l = some k) :
    Calls Try.prog 15 #[.agg #[.int .i64 s.modes, .int .u8 s.accept, .slice A s.rules.length c], .slice A' l.length c'] w (Ret0 (.agg #[.string (sumR s.rules l).inp, .string (sumR s.rules l).out, .int .i64 (sumR s.rules l).cost, .int .i64 k, .bool true]) w) := by
  have h := run_any F G s.modes s.accept A A' c c' s.rules (castL l) w hA hL.cast (by have := hs.n9; omega) (by rw [castL_len]; exact hl) hs.bnd
  rw [castL_len] at h
  obtain ⟨h1, h2, h3⟩ := run_sum hp
  rw [h1] at h
  exact h.mono fun e w' ⟨he, hb⟩ => ⟨by rw [he, RunR.agg, h2, h3], hb⟩
theorem run_fitN (F G : Nat → Prop) (s : Scheme) (A A' : Option Addr) (c c' k : Nat) (l : List Nat) (n : Nat) (w : World) (hs : SchemeOk s) (hA : RulesAt F w A s.rules) (hL : SlAt vN G w A' l) (hl : l.length ≤ 1000) (hp : pathTo s.rules 0 l = some k) (hn : l.length = n) :
    Calls Try.prog 15 #[.agg #[.int .i64 s.modes, .int .u8 s.accept, .slice A s.rules.length c], .slice A' n c'] w (Ret0 (.agg #[.string (sumR s.rules l).inp, .string (sumR s.rules l).out, .int .i64 (sumR s.rules l).cost, .int .i64 k, .bool true]) w) := by
  subst hn
  exact run_fit F G s A A' c c' k l w hs hA hL hl hp
theorem SlAt.take {T : Type} {f : T → Value} {F : Nat → Prop} {w : World} {A : Option Addr} {l : List T} (h : SlAt f F w A l) (k : Nat) : SlAt f F w A (l.take k) := by
  unfold SlAt
  rw [List.map_take]
  exact Reads.take_ h k
/-- a box of five cells that nothing has been stored into yet -/
theorem Blk.five {w : World} {b : Nat} {t : TypeId} {c0 c1 c2 c3 c4 : Value} (h : Blk w b t #[c0, c1, c2, c3, c4]) :
    (w.cell? ⟨b, 0, none⟩ = some c0 ∧ w.cell? ⟨b, 1, none⟩ = some c1 ∧ w.cell? ⟨b, 2, none⟩ = some c2 ∧ w.cell? ⟨b, 3, none⟩ = some c3 ∧ w.cell? ⟨b, 4, none⟩ = some c4) ∧
      w.frozen? ⟨b, 0, none⟩ = false ∧ w.frozen? ⟨b, 1, none⟩ = false ∧ w.frozen? ⟨b, 2, none⟩ = false ∧ w.frozen? ⟨b, 3, none⟩ = false ∧ w.frozen? ⟨b, 4, none⟩ = false ∧ b < w.heap.size :=
  ⟨⟨h.cell 0, h.cell 1, h.cell 2, h.cell 3, h.cell 4⟩, h.free 0, h.free 1, h.free 2, h.free 3, h.free 4, h.lt⟩
theorem Blk.five_set {w : World} {b : Nat} {t : TypeId} {c0 c1 c2 c3 c4 : Value} (h : Blk w b t #[c0, c1, c2, c3, c4]) (d0 d1 d2 d3 d4 : Value) :
    Blk (((((w.setCell ⟨b, 0, none⟩ d0).setCell ⟨b, 1, none⟩ d1).setCell ⟨b, 2, none⟩ d2).setCell ⟨b, 3, none⟩ d3).setCell ⟨b, 4, none⟩ d4) b t #[d0, d1, d2, d3, d4] := ((((h.set 0 d0).set 1 d1).set 2 d2).set 3 d3).set 4 d4
theorem below_five {w w' : World} {B b : Nat} (h : Below B w w') (hb : B ≤ b) (d0 d1 d2 d3 d4 : Value) :
    Below B w (((((w'.setCell ⟨b, 0, none⟩ d0).setCell ⟨b, 1, none⟩ d1).setCell ⟨b, 2, none⟩ d2).setCell ⟨b, 3, none⟩ d3).setCell ⟨b, 4, none⟩ d4) :=
  ((((h.setCell (p := ⟨b, 0, none⟩) hb d0).setCell (p := ⟨b, 1, none⟩) hb d1).setCell (p := ⟨b, 2, none⟩) hb d2).setCell (p := ⟨b, 3, none⟩) hb d3).setCell (p := ⟨b, 4, none⟩) hb d4
end Go.Proofs.Ytpidgkngefkbeaa
