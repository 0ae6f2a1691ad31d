/- The walks of accepts and Accepts. -/
import Derived.Test.YtpidgkngefkbeaaM5
set_option linter.unusedVariables false
set_option linter.unusedSimpArgs false
namespace Go.Proofs.Ytpidgkngefkbeaa
open Go.RowKit

def accB (ac m : Nat) : Bool := decide (ac / 2 ^ m % 2 = 1)
theorem and8 : ∀ x : Nat, x < 256 → (bits BinOp.and IntKind.u8 (x : Int) 1 == 1) = decide (x % 2 = 1) := by decide +kernel
theorem and64 : ∀ x : Nat, x < 256 → (bits BinOp.and IntKind.i64 (x : Int) 1 == 1) = decide (x % 2 = 1) := by decide +kernel
theorem shr_cast (ac m : Nat) : (ac : Int) / 2 ^ m = ((ac / 2 ^ m : Nat) : Int) := by simp
theorem shr_lt (ac m : Nat) (h : ac < 256) : ac / 2 ^ m < 256 := Nat.lt_of_le_of_lt (Nat.div_le_self _ _) h
theorem accepts_any (M ac : Nat) (A : Option Addr) (n c : Nat) (m : Nat) (w : World) (hac : ac < 256) (hm : m < 8) :
    Calls Try.prog 35 #[.agg #[.int .i64 M, .int .u8 ac, .slice A n c], .int .i64 m] w fun e w' => e = .returned (.bool (accB ac m)) ∧ Below w.heap.size w w' := by
  go_enter Try.func35, Try.ntmps35
  go_wp2
  go_ret
  rw [shr_cast, and8 _ (shr_lt _ _ hac)]
  exact ⟨rfl, (Below.refl _ _).alloc (Nat.le_refl _) _⟩
theorem accepts3_any (M ac : Nat) (A : Option Addr) (n c : Nat) (m : Nat) (w : World) (hac : ac < 256) (hm : m < 8) :
    Calls Try.prog 26 #[.agg #[.int .i64 M, .int .u8 ac, .slice A n c], .int .i64 m] w fun e w' => e = .returned (.bool (accB ac m)) ∧ Below w.heap.size w w' := by
  go_enter Try.func26, Try.ntmps26
  go_wp2
  go_ret
  rw [shr_cast, and64 _ (shr_lt _ _ hac)]
  exact ⟨rfl, (Below.refl _ _).alloc (Nat.le_refl _) _⟩
end Go.Proofs.Ytpidgkngefkbeaa
