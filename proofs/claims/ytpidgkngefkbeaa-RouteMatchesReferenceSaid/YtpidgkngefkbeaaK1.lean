/- Contracts at a scheme of the laws; both lists of modes. -/
import Derived.Test.YtpidgkngefkbeaaK0
import Derived.Test.YtpidgkngefkbeaaPB
set_option linter.unusedVariables false
set_option linter.unusedSimpArgs false
namespace Go.Proofs.Ytpidgkngefkbeaa
open Go.RowKit

section
variable (F : Nat → Prop) (s : Scheme) (A : Option Addr) (c : Nat) (w : World) (hs : SchemeOk s) (hA : RulesAt F w A s.rules)
include hs hA
theorem reached_s : Calls Try.prog 20 #[.agg #[.int .i64 s.modes, .int .u8 s.accept, .slice A s.rules.length c]] w (BoolsRes s.modes (ReachedP s.rules) w) :=
  reached_any _ s.modes s.accept A c s.rules w (Reads.all hA) (fun _ h => h) (by have := hs.n9; omega) (by have := hs.m2; omega) (by have := hs.m5; omega) hs.inn
theorem live_s : Calls Try.prog 22 #[.agg #[.int .i64 s.modes, .int .u8 s.accept, .slice A s.rules.length c]] w (BoolsRes s.modes (LiveP s.accept s.modes s.rules) w) :=
  live_any _ s.modes s.accept A c s.rules w (Reads.all hA) (fun _ h => h) (by have := hs.n9; omega) (by have := hs.m5; omega) hs.ac hs.inn
theorem least_s (mode : Nat) (hm : mode < s.modes) : Calls Try.prog 24 #[.agg #[.int .i64 s.modes, .int .u8 s.accept, .slice A s.rules.length c], .int .i64 mode] w (LeastRes (accB s.accept) s.rules mode w) :=
  least_any _ s.modes s.accept A c s.rules mode w (Reads.all hA) (fun _ h => h) (by have := hs.n9; omega) (by have := hs.m5; omega) hs.ac hs.inn hs.cost hm
end
theorem flag_at {m : Nat} {P : Nat → Prop} {V : List Bool} {w : World} {g : Nat} (hl : V.length = m) (hV : ∀ x : Nat, V[x]? = some true ↔ P x) (hB : Blk w g 4 (V.map vB).toArray) {x : Nat} (hx : x < m) :
    ∃ b : Bool, w.cell? ⟨g, x, none⟩ = some (.bool b) ∧ (b = true ↔ P x) := by
  refine ⟨V[x]'(by omega), ?_, ?_⟩
  · rw [hB.cell]; simp [hl, hx, vB]
  · rw [← hV x, List.getElem?_eq_getElem (by omega)]; simp

/-- behind Reached and Live: the scheme, both lists -/
structure MW (s : Scheme) (S : Nat) (A : Option Addr) (c g1 g2 : Nat) (V1 V2 : List Bool) (w W : World) : Prop where
  sw : SW s S A c w W
  r1 : Blk W g1 4 (V1.map vB).toArray
  r2 : Blk W g2 4 (V2.map vB).toArray
theorem MW.next {s : Scheme} {S : Nat} {A : Option Addr} {c g1 g2 : Nat} {V1 V2 : List Bool} {w W W' : World} (h : MW s S A c g1 g2 V1 V2 w W) (hb : Below W.heap.size W W') : MW s S A c g1 g2 V1 V2 w W' := ⟨h.sw.next hb, h.r1.next hb, h.r2.next hb⟩
/-- what the two lists say -/
structure Both (s : Scheme) (V1 V2 : List Bool) : Prop where
  l1 : V1.length = s.modes
  l2 : V2.length = s.modes
  v1 : ∀ x : Nat, V1[x]? = some true ↔ ReachedP s.rules x
  v2 : ∀ x : Nat, V2[x]? = some true ↔ LiveP s.accept s.modes s.rules x
def BothW (s : Scheme) (S : Nat) (A : Option Addr) (c : Nat) (w : World) (x y : Value) (W : World) : Prop :=
  ∃ g1 g2 V1 V2, x = .slice (some ⟨g1, 0, none⟩) s.modes s.modes ∧ y = .slice (some ⟨g2, 0, none⟩) s.modes s.modes ∧ MW s S A c g1 g2 V1 V2 w W ∧ Both s V1 V2
theorem bothW {s : Scheme} {S : Nat} {A : Option Addr} {c : Nat} {w W w2 : World} {g1 g2 : Nat} {V1 V2 : List Bool} (h : SW s S A c w W) (hb : Below W.heap.size W w2) (h1 : Blk w2 g1 4 (V1.map vB).toArray) (h2 : Blk w2 g2 4 (V2.map vB).toArray)
    (l1 : V1.length = s.modes) (l2 : V2.length = s.modes) (r1 : ∀ x : Nat, V1[x]? = some true ↔ ReachedP s.rules x) (r2 : ∀ x : Nat, V2[x]? = some true ↔ LiveP s.accept s.modes s.rules x) :
    BothW s S A c w (.slice (some ⟨g1, 0, none⟩) s.modes s.modes) (.slice (some ⟨g2, 0, none⟩) s.modes s.modes) w2 := ⟨g1, g2, V1, V2, rfl, rfl, ⟨h.next hb, h1, h2⟩, ⟨l1, l2, r1, r2⟩⟩
end Go.Proofs.Ytpidgkngefkbeaa
