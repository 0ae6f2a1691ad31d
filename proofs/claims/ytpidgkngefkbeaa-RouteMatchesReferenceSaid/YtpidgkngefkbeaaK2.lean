/- What RouteMatchesReference rests on: contracts of both sides at a scheme of the laws. -/
import Derived.Test.YtpidgkngefkbeaaK1
import Derived.Test.YtpidgkngefkbeaaW15
import Derived.Test.YtpidgkngefkbeaaW19
import Derived.Test.YtpidgkngefkbeaaW10
import Derived.Test.YtpidgkngefkbeaaPB
import Derived.Test.YtpidgkngefkbeaaGA
set_option linter.unusedVariables false
set_option linter.unusedSimpArgs false
namespace Go.Proofs.Ytpidgkngefkbeaa
open Go.RowKit

theorem idx_congr {k1 k2 : Nat → Bool} : ∀ {n : Nat}, (∀ i, i < n → k1 i = k2 i) → idx k1 n = idx k2 n := by
  intro n h
  unfold idx
  exact List.filter_congr fun i hi => h i (List.mem_range.1 hi)
theorem keeps_same {ac m : Nat} {rs : List Rule} {k1 k2 : Nat → Bool} (h1 : Keeps ac m rs k1) (h2 : Keeps ac m rs k2) : idx k1 rs.length = idx k2 rs.length ∧ kept k1 rs rs.length = kept k2 rs rs.length := by
  have h : idx k1 rs.length = idx k2 rs.length := idx_congr fun i hi => by
    rw [Bool.eq_iff_iff, h1 i hi, h2 i hi]
  exact ⟨h, by unfold kept; rw [h]⟩
theorem bools_same {n : Nat} {P : Nat → Prop} {V1 V2 : List Bool} (l1 : V1.length = n) (l2 : V2.length = n) (h1 : ∀ x : Nat, V1[x]? = some true ↔ P x) (h2 : ∀ x : Nat, V2[x]? = some true ↔ P x) : V1 = V2 := by
  apply List.ext_getElem (by omega)
  intro i hi hj
  have e1 := h1 i
  have e2 := h2 i
  rw [List.getElem?_eq_getElem hi] at e1
  rw [List.getElem?_eq_getElem hj] at e2
  rw [Bool.eq_iff_iff]
  simp only [Option.some.injEq] at e1 e2
  exact e1.trans e2.symm
/-- what lies in memory ahead of the great test: the scheme's box, a list, a walk, both trimmed schemes with their lists -/
structure AllW (s : Scheme) (S : Nat) (A : Option Addr) (c : Nat) (L : List Int) (AL : Option Addr) (cL : Nat) (lw : List Nat) (AW : Option Addr) (cW : Nat) (ks : List Rule) (il : List Nat) (S1 : Nat) (A1 : Option Addr) (c1 : Nat) (A2 : Option Addr) (c2 S2 : Nat) (A3 : Option Addr) (c3 : Nat) (A4 : Option Addr) (c4 : Nat) (w W : World) : Prop where
  sw : SW s S A c w W
  li : SlAt vI (fun _ => True) W AL L
  wa : SlAt vN (fun _ => True) W AW lw
  t1 : Blk W S1 30 #[.int .i64 s.modes, .int .u8 s.accept, .slice A1 il.length c1]
  r1 : RulesAt (fun _ => True) W A1 ks
  i1 : SlAt vN (fun _ => True) W A2 il
  t2 : Blk W S2 30 #[.int .i64 s.modes, .int .u8 s.accept, .slice A3 il.length c3]
  r2 : RulesAt (fun _ => True) W A3 ks
  i2 : SlAt vN (fun _ => True) W A4 il
section
variable {s : Scheme} {S : Nat} {A : Option Addr} {c : Nat} {L : List Int} {AL : Option Addr} {cL : Nat} {lw : List Nat} {AW : Option Addr} {cW : Nat} {ks : List Rule} {il : List Nat} {S1 : Nat} {A1 : Option Addr} {c1 : Nat} {A2 : Option Addr} {c2 S2 : Nat} {A3 : Option Addr} {c3 : Nat} {A4 : Option Addr} {c4 : Nat} {w W W' : World}
theorem AllW.next (h : AllW s S A c L AL cL lw AW cW ks il S1 A1 c1 A2 c2 S2 A3 c3 A4 c4 w W) (hb : Below W.heap.size W W') : AllW s S A c L AL cL lw AW cW ks il S1 A1 c1 A2 c2 S2 A3 c3 A4 c4 w W' :=
  ⟨h.sw.next hb, Reads.below h.li hb, Reads.below h.wa hb, h.t1.next hb, Reads.below h.r1 hb, Reads.below h.i1 hb, h.t2.next hb, Reads.below h.r2 hb, Reads.below h.i2 hb⟩
theorem AllW.cells (h : AllW s S A c L AL cL lw AW cW ks il S1 A1 c1 A2 c2 S2 A3 c3 A4 c4 w W) :
    W.cell? ⟨S, 0, none⟩ = some (.int .i64 s.modes) ∧ W.cell? ⟨S, 1, none⟩ = some (.int .u8 s.accept) ∧ W.cell? ⟨S, 2, none⟩ = some (.slice A s.rules.length c) ∧
    W.cell? ⟨S1, 0, none⟩ = some (.int .i64 s.modes) ∧ W.cell? ⟨S1, 1, none⟩ = some (.int .u8 s.accept) ∧ W.cell? ⟨S1, 2, none⟩ = some (.slice A1 il.length c1) ∧
    W.cell? ⟨S2, 0, none⟩ = some (.int .i64 s.modes) ∧ W.cell? ⟨S2, 1, none⟩ = some (.int .u8 s.accept) ∧ W.cell? ⟨S2, 2, none⟩ = some (.slice A3 il.length c3) :=
  ⟨h.sw.box.cell 0, h.sw.box.cell 1, h.sw.box.cell 2, h.t1.cell 0, h.t1.cell 1, h.t1.cell 2, h.t2.cell 0, h.t2.cell 1, h.t2.cell 2⟩
end
section
variable (F G : Nat → Prop) (s : Scheme) (A A' : Option Addr) (c c' n : Nat) (w : World) (hs : SchemeOk s) (hA : RulesAt F w A s.rules)
include hs hA
theorem run3_is (L : List Int) (o : RunR) (hL : SlAt vI G w A' L) (hl : L.length ≤ 1000) (hn : L.length = n) (ho : runFrom s.rules .start L = o) :
    Calls Try.prog 16 #[.agg #[.int .i64 s.modes, .int .u8 s.accept, .slice A s.rules.length c], .slice A' n c'] w (Ret0 (.agg #[.string o.inp, .string o.out, .int .i64 o.cost, .int .i64 o.mode, .bool o.ok]) w) := by
  subst hn ho
  exact run3_any F G s.modes s.accept A A' c c' s.rules L w hA hL (by have := hs.n9; omega) hl hs.bnd
theorem run2_is (L : List Int) (o : RunR) (hL : SlAt vI G w A' L) (hl : L.length ≤ 1000) (hn : L.length = n) (ho : runFrom s.rules .start L = o) :
    Calls Try.prog 15 #[.agg #[.int .i64 s.modes, .int .u8 s.accept, .slice A s.rules.length c], .slice A' n c'] w (Ret0 (.agg #[.string o.inp, .string o.out, .int .i64 o.cost, .int .i64 o.mode, .bool o.ok]) w) := by
  subst hn ho
  exact run_any F G s.modes s.accept A A' c c' s.rules L w hA hL (by have := hs.n9; omega) hl hs.bnd
theorem reached3_s : Calls Try.prog 21 #[.agg #[.int .i64 s.modes, .int .u8 s.accept, .slice A s.rules.length c]] w (BoolsRes s.modes (ReachedP s.rules) w) :=
  reached3_any _ s.modes s.accept A c s.rules w (Reads.all hA) (fun _ h => h) (by have := hs.n9; omega) (by have := hs.m2; omega) (by have := hs.m5; omega) hs.inn
theorem live3_s : Calls Try.prog 23 #[.agg #[.int .i64 s.modes, .int .u8 s.accept, .slice A s.rules.length c]] w (BoolsRes s.modes (LiveP s.accept s.modes s.rules) w) :=
  live3_any _ s.modes s.accept A c s.rules w (Reads.all hA) (fun _ h => h) (by have := hs.n9; omega) (by have := hs.m5; omega) hs.ac hs.inn
theorem trim_s : Calls Try.prog 13 #[.agg #[.int .i64 s.modes, .int .u8 s.accept, .slice A s.rules.length c]] w (TrimRes s.modes s.accept s.rules w) :=
  trim_any _ s.modes s.accept A c s.rules w (Reads.all hA) (fun _ h => h) (by have := hs.n9; omega) (by have := hs.m2; omega) (by have := hs.m5; omega) hs.ac hs.inn
theorem trim3_s : Calls Try.prog 14 #[.agg #[.int .i64 s.modes, .int .u8 s.accept, .slice A s.rules.length c]] w (TrimRes s.modes s.accept s.rules w) :=
  trim3_any _ s.modes s.accept A c s.rules w (Reads.all hA) (fun _ h => h) (by have := hs.n9; omega) (by have := hs.m2; omega) (by have := hs.m5; omega) hs.ac hs.inn
theorem least3_s (mode : Nat) (hm : mode < s.modes) : Calls Try.prog 25 #[.agg #[.int .i64 s.modes, .int .u8 s.accept, .slice A s.rules.length c], .int .i64 mode] w (Least3Res (accB s.accept) s.rules s.modes mode w) :=
  least3_any _ s.modes s.accept A c s.rules mode w (Reads.all hA) (fun _ h => h) (by have := hs.n9; omega) (by have := hs.m5; omega) hs.ac hs.inn hs.cost hm
end
theorem walk_8 (F G : Nat → Prop) (s : Scheme) (A A' : Option Addr) (c c' n : Nat) (l : List Nat) (w : World) (hs : SchemeOk s) (hA : RulesAt F w A s.rules) (hL : SlAt v8 G w A' l) (hl8 : ∀ x ∈ l, x < 256) (hl : l.length ≤ maxLen) (hn : l.length = n) :
    Calls Try.prog 12 #[.agg #[.int .i64 s.modes, .int .u8 s.accept, .slice A s.rules.length c], .agg #[.int .i64 0, .int .i64 8], .slice A' n c'] w (WalkRes s.rules 0 8 w) := by
  subst hn
  exact walk_any _ G s.modes s.accept A A' c c' 0 8 s.rules l w (Reads.all hA) (fun _ h => h) hL hl8 hl (by have := hs.n9; omega) (by decide) (by decide)
theorem ints_eq (F G : Nat → Prop) (A A' : Option Addr) (c c' n : Nat) (l : List Nat) (w : World) (hL : SlAt vN F w A l) (hL' : SlAt vN G w A' l) (hl : l.length ≤ 1000) (hn : l.length = n) :
    Calls Try.prog 18 #[.slice A n c, .slice A' n c'] w (Ret0 (.bool true) w) := by
  subst hn
  have h := ints_any F G A A' c c' (castL l) (castL l) w (SlAt.cast hL) (SlAt.cast hL') (by rw [castL_len]; omega) (by rw [castL_len]; omega)
  rw [castL_len] at h
  exact h.mono fun e w' ⟨he, hb⟩ => ⟨by rw [he]; simp, hb⟩
theorem bools_eq (F G : Nat → Prop) (A A' : Option Addr) (c c' n : Nat) (l l' : List Bool) (w : World) (hL : SlAt vB F w A l) (hL' : SlAt vB G w A' l') (hll : l = l') (hl : l.length ≤ 1000) (hn : l.length = n) :
    Calls Try.prog 19 #[.slice A n c, .slice A' n c'] w (Ret0 (.bool true) w) := by
  subst hn hll
  exact (bools_any F G A A' c c' l l w hL hL' (by omega) (by omega)).mono fun e w' ⟨he, hb⟩ => ⟨by rw [he]; simp, hb⟩
theorem same_eq (F G : Nat → Prop) (m ac : Nat) (A A' : Option Addr) (c c' n : Nat) (l : List Rule) (w : World) (hL : RulesAt F w A l) (hL' : RulesAt G w A' l) (hl : l.length ≤ 1000) (hn : l.length = n) :
    Calls Try.prog 17 #[.agg #[.int .i64 m, .int .u8 ac, .slice A n c], .agg #[.int .i64 m, .int .u8 ac, .slice A' n c']] w (Ret0 (.bool true) w) := by
  subst hn
  exact (same_any F G m ac m ac A A' c c' l l w hL hL' (by omega) (by omega)).mono fun e w' ⟨he, hb⟩ => ⟨by rw [he]; simp, hb⟩
theorem flags_at {w : World} {g : Nat} {t : TypeId} {V : List Bool} (h : Blk w g t (V.map vB).toArray) : SlAt vB (fun _ => True) w (some ⟨g, 0, none⟩) V := Reads.block h trivial
/-- both Leasts at one mode: the same -/
def BothLeast (a b : Value) (W : World) : Prop := ∃ A A' c c' l x e, a = .tuple #[.slice A (l : List Nat).length c, .int .i64 x, .int .i64 e] ∧ b = .tuple #[.slice A' l.length c', .int .i64 x, .int .i64 e] ∧ l.length ≤ 8 ∧ SlAt vN (fun _ => True) W A l ∧ SlAt vN (fun _ => True) W A' l
end Go.Proofs.Ytpidgkngefkbeaa
