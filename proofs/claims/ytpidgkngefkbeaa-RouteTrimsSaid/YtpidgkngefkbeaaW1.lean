/- The walks of the small functions of the reference of layer 2: In, Small, Plain. -/
import Derived.Test.YtpidgkngefkbeaaProg
import Derived.Test.YtpidgkngefkbeaaP0
import Derived.WalkKit
import Derived.WalkSpells
import Derived.WalkLawsBesides
import Derived.Deep.QuietTactic
import Derived.BigQuiet
set_option linter.unusedVariables false
set_option linter.unusedSimpArgs false
namespace Go.Proofs.Ytpidgkngefkbeaa
open Go.RowKit

/-- 'In' as a function. -/
def inB (a b c : Int) : Bool := decide (b ≤ a) && decide (a ≤ c)
theorem inB_nat (a m : Nat) : inB a 0 ((m : Int) - 1) = decide (a < m) := by
  unfold inB; rw [Bool.eq_iff_iff]; simp; omega
theorem inB_top (a : Nat) : inB a 0 1000 = decide (a ≤ 1000) := by
  unfold inB; rw [Bool.eq_iff_iff]; simp; omega

set_option maxHeartbeats 400000 in
theorem in_any (a b c : Int) (w : World) :
    Calls Try.prog 41 #[.int .i64 a, .int .i64 b, .int .i64 c] w fun e w' => e = .returned (.bool (inB a b c)) ∧ w = w' := by
  by_cases h1 : b ≤ a
  · go_enter Try.func41, Try.ntmps41
    go_wp2
    go_ret
    exact ⟨ret_b (by simp [inB, h1]), rfl⟩
  · have hd : decide (b ≤ a) = false := by simpa using h1
    go_enter Try.func41, Try.ntmps41
    go_wp2
    go_ret
    exact ⟨ret_b (by unfold inB; rw [hd]; rfl), rfl⟩

set_option maxHeartbeats 400000 in
theorem small_any (s : ByteArray) (w : World) (hs : s.size ≤ maxLen) :
    Calls Try.prog 42 #[.string s] w fun e w' => e = .returned (.bool (small s)) ∧ w = w' := by
  unfold maxLen at hs
  go_enter Try.func42, Try.ntmps42
  go_wp2
  go_loop [3] (fun i => ∃ k : Nat, k ≤ s.size ∧ i = .int .i64 k ∧ (s.data.toList.take k).all (fun c => lowN c.toNat) = true) (fun i => s.size - (intOf i).toNat)
  case atStart => exact ⟨0, Nat.zero_le _, rfl, by simp⟩
  case round =>
    obtain ⟨k, hk, rfl, hall⟩ := hrel
    have Hall := Lib.hid hall
    clear hall
    by_cases hlt : k < s.size
    · have hs1 := all_take_succ (fun c => lowN c.toNat) s k hlt
      have hs2 := all_false_of (fun c => lowN c.toNat) s k hlt
      have Hs1 := Lib.hid hs1
      have Hs2 := Lib.hid hs2
      clear hs1 hs2
      by_cases h1 : (s[k].toNat : Int) < 97
      · have hd : decide ((s[k].toNat : Int) < 97) = true := by simpa using h1
        go_wp2
        go_ret
        exact ⟨ret_b (Hs2.out (by simp [lowN]; omega)).symm, rfl⟩
      · have hd : decide ((s[k].toNat : Int) < 97) = false := by simpa using h1
        by_cases h2 : (122 : Int) < (s[k].toNat : Int)
        · go_wp2
          go_ret
          exact ⟨ret_b (Hs2.out (by simp [lowN]; omega)).symm, rfl⟩
        · go_wp2
          go_round
          case rel => exact ⟨k + 1, by omega, by go_num, by rw [Hs1.out, Hall.out]; simp [lowN]; omega⟩
          case measure => simp [intOf]; omega
    · go_wp2
      go_ret
      have := Hall.out
      rw [List.take_of_length_le (by simp; omega)] at this
      exact ⟨ret_b this.symm, rfl⟩

set_option maxHeartbeats 1000000 in
theorem plain_any (s : ByteArray) (w : World) (hs : s.size ≤ maxLen) :
    Calls Try.prog 43 #[.string s] w fun e w' => e = .returned (.bool (plain s)) ∧ w = w' := by
  unfold maxLen at hs
  go_enter Try.func43, Try.ntmps43
  go_wp2
  go_loop [3] (fun i => ∃ k : Nat, k ≤ s.size ∧ i = .int .i64 k ∧ (s.data.toList.take k).all (fun c => plainN c.toNat) = true) (fun i => s.size - (intOf i).toNat)
  case atStart => exact ⟨0, Nat.zero_le _, rfl, by simp⟩
  case round =>
    obtain ⟨k, hk, rfl, hall⟩ := hrel
    have Hall := Lib.hid hall
    clear hall
    by_cases hlt : k < s.size
    · have hs1 := all_take_succ (fun c => plainN c.toNat) s k hlt
      have hs2 := all_false_of (fun c => plainN c.toNat) s k hlt
      have Hs1 := Lib.hid hs1
      have Hs2 := Lib.hid hs2
      clear hs1 hs2
      obtain ⟨c, hc⟩ : ∃ c : Nat, c = s[k].toNat := ⟨_, rfl⟩
      have hcv : ∀ d1 d2 d3 d4 d5 d6 : Bool, decide ((s[k].toNat : Int) < 97) = d1 → decide ((122 : Int) < (s[k].toNat : Int)) = d2 → decide ((s[k].toNat : Int) < 65) = d3 →
          decide ((90 : Int) < (s[k].toNat : Int)) = d4 → decide ((s[k].toNat : Int) < 48) = d5 → decide ((57 : Int) < (s[k].toNat : Int)) = d6 →
          plainN s[k].toNat = !((d1 || d2) && (d3 || d4) && (d5 || d6)) := by
        intro d1 d2 d3 d4 d5 d6 h1 h2 h3 h4 h5 h6
        subst h1 h2 h3 h4 h5 h6
        unfold plainN lowN
        rw [Bool.eq_iff_iff]
        simp
        omega
      have Hcv := Lib.hid hcv
      clear hcv hc
      rcases hd1 : decide ((s[k].toNat : Int) < 97) with _ | _ <;> rcases hd2 : decide ((122 : Int) < (s[k].toNat : Int)) with _ | _ <;>
        rcases hd3 : decide ((s[k].toNat : Int) < 65) with _ | _ <;> rcases hd4 : decide ((90 : Int) < (s[k].toNat : Int)) with _ | _ <;>
        rcases hd5 : decide ((s[k].toNat : Int) < 48) with _ | _ <;> rcases hd6 : decide ((57 : Int) < (s[k].toNat : Int)) with _ | _ <;>
        first
        | (exfalso; simp at hd1 hd2 hd3 hd4 hd5 hd6; omega)
        | (have hp := Lib.hid (Hcv.out _ _ _ _ _ _ hd1 hd2 hd3 hd4 hd5 hd6)
           go_wp2
           first
           | (go_round
              case rel => exact ⟨k + 1, by omega, by go_num, by rw [Hs1.out, Hall.out, hp.out]; rfl⟩
              case measure => simp [intOf]; omega)
           | (go_ret
              exact ⟨ret_b (Hs2.out (by rw [hp.out]; rfl)).symm, rfl⟩))
    · go_wp2
      go_ret
      have := Hall.out
      rw [List.take_of_length_le (by simp; omega)] at this
      exact ⟨ret_b this.symm, rfl⟩
end Go.Proofs.Ytpidgkngefkbeaa
