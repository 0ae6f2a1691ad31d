/- The walks of route.Reached, route.Live, accepts and their selectors. -/
import Derived.Test.YtpidgkngefkbeaaM4
import Derived.Test.YtpidgkngefkbeaaW9
set_option linter.unusedVariables false
set_option linter.unusedSimpArgs false
namespace Go.Proofs.Ytpidgkngefkbeaa
open Go.RowKit Go.Maps Go.WideElems Go.ChangeShapes

theorem selr_any (r : Rule) (w : World) : Calls Try.prog 34 #[.agg #[.int .i64 r.frm, .int .i64 r.dst, .string r.inp, .string r.out, .int .i64 r.cost]] w fun e w' => e = .returned (.tuple #[.int .i64 r.frm, .int .i64 r.dst]) ∧ Below w.heap.size w w' := by
  go_enter Try.func34, Try.ntmps34
  go_wp2
  go_quiet (fail)
  go_wp2
  go_ret2
  exact ⟨rfl, below_drewN ((Below.refl _ _).alloc (Nat.le_refl _) _) _⟩
theorem sell_any (r : Rule) (w : World) : Calls Try.prog 36 #[.agg #[.int .i64 r.frm, .int .i64 r.dst, .string r.inp, .string r.out, .int .i64 r.cost]] w fun e w' => e = .returned (.tuple #[.int .i64 r.dst, .int .i64 r.frm]) ∧ Below w.heap.size w w' := by
  go_enter Try.func36, Try.ntmps36
  go_wp2
  go_quiet (fail)
  go_wp2
  go_ret2
  exact ⟨rfl, below_drewN ((Below.refl _ _).alloc (Nat.le_refl _) _) _⟩
end Go.Proofs.Ytpidgkngefkbeaa
