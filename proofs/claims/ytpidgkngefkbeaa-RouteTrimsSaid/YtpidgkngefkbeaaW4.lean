/- The walks of the reference of layer 2: simple, Base, Made1, Made. -/
import Derived.Test.YtpidgkngefkbeaaW3
import Derived.Deep.RegionHeld3
set_option linter.unusedVariables false
set_option linter.unusedSimpArgs false
namespace Go.Proofs.Ytpidgkngefkbeaa
open Go.RowKit

set_option maxHeartbeats 1000000 in
theorem simple_any (a b : Nat) (s t : ByteArray) (w : World) (hs : s.size ≤ maxLen) :
    Calls Try.prog 46 #[.agg #[.int .i64 a, .int .i64 b], .string s, .string t] w fun e w' => e = .returned (.agg #[.int .i64 a, .int .i64 b, .string s, .string t, .int .i64 s.size]) ∧ Below w.heap.size w w' := by
  unfold maxLen at hs
  go_enter Try.func46, Try.ntmps46
  go_wp2_with fail
  refine bodyPost_ret (v := .agg #[.int .i64 a, .int .i64 b, .string s, .string t, .int .i64 s.size]) (by simp [results, Try.results46, go_sem]) rfl ⟨rfl, ?_⟩
  exact ((Below.refl _ _).alloc (Nat.le_refl _) _).alloc (by simp) _


end Go.Proofs.Ytpidgkngefkbeaa
