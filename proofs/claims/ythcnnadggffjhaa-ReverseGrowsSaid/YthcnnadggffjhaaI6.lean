/- The walks of classes of bytes, words, prefixes. -/
import Derived.Test.YthcnnadggffjhaaProg
import Derived.Test.YthcnnadggffjhaaQ0
import Derived.Test.YthcnnadggffjhaaWA
set_option linter.unusedVariables false
set_option linter.unusedSimpArgs false
namespace Go.Proofs.Ythcnnadggffjhaa
open Go.RowKit

set_option maxHeartbeats 1000000 in
theorem classOf_any (c : Nat) (w : World) (hc : c < 256) :
    Calls Try.prog 84 #[.int .u8 c] w fun e w' => e = .returned (.int .i64 (classN c)) ∧ w' = w := by
  have hcl : ∀ k : Nat, (97 ≤ (c : Int) ∧ (c : Int) ≤ 122 → k = 1) → (¬ (97 ≤ (c : Int) ∧ (c : Int) ≤ 122) ∧ 65 ≤ (c : Int) ∧ (c : Int) ≤ 90 → k = 2) → (¬ (97 ≤ (c : Int) ∧ (c : Int) ≤ 122) ∧ ¬ (65 ≤ (c : Int) ∧ (c : Int) ≤ 90) ∧ 48 ≤ (c : Int) ∧ (c : Int) ≤ 57 → k = 3) →
      (¬ (97 ≤ (c : Int) ∧ (c : Int) ≤ 122) ∧ ¬ (65 ≤ (c : Int) ∧ (c : Int) ≤ 90) ∧ ¬ (48 ≤ (c : Int) ∧ (c : Int) ≤ 57) → k = 0) → (k : Int) = (classN c : Nat) := by
    intro k h1 h2 h3 h4
    unfold classN
    repeat' split
    all_goals omega
  have HCL := Lib.hid hcl
  clear hcl
  go_enter Try.func84, Try.ntmps84
  go_wp2
  all_goals go_ret
  all_goals first
    | exact ⟨ret_i (HCL.out 1 (by omega) (by omega) (by omega) (by omega)), rfl⟩
    | exact ⟨ret_i (HCL.out 2 (by omega) (by omega) (by omega) (by omega)), rfl⟩
    | exact ⟨ret_i (HCL.out 3 (by omega) (by omega) (by omega) (by omega)), rfl⟩
    | exact ⟨ret_i (HCL.out 0 (by omega) (by omega) (by omega) (by omega)), rfl⟩
set_option maxHeartbeats 1000000 in
theorem all_any (most : Nat) (s : ByteArray) (w : World) (hs : s.size ≤ maxLen) (hm : most ≤ 3) :
    Calls Try.prog 59 #[.string s, .int .i64 most] w fun e w' => e = .returned (.bool (allB most s)) ∧ w' = w := by
  unfold maxLen at hs
  go_enter Try.func59, Try.ntmps59
  go_wp2
  go_loop [9] (fun i => ∃ k : Nat, k ≤ s.size ∧ i = .int .i64 k ∧ (s.data.toList.take k).all (fun c => decide (classN c.toNat ≠ 0 ∧ classN c.toNat ≤ most)) = true) (fun i => s.size - (intOf i).toNat)
  case atStart => exact ⟨0, Nat.zero_le _, rfl, by simp⟩
  case round =>
    obtain ⟨k, hk, rfl, hall⟩ := hrel
    have Hall := Lib.hid hall
    clear hall
    by_cases hlt : k < s.size
    · have Hs1 := Lib.hid (all_take_succ (fun c => decide (classN c.toNat ≠ 0 ∧ classN c.toNat ≤ most)) s k hlt)
      have Hs2 := Lib.hid (all_false_of (fun c => decide (classN c.toNat ≠ 0 ∧ classN c.toNat ≤ most)) s k hlt)
      have hb : s[k].toNat < 256 := s[k].toNat_lt
      obtain ⟨n, hn⟩ : ∃ n, classN s[k].toNat = n := ⟨_, rfl⟩
      have hn3 : n ≤ 3 := by rw [← hn]; exact classN_le _
      have HN := Lib.hid hn
      clear hn
      by_cases h0 : n = 0
      · have HN0 := Lib.hid h0
        subst h0
        go_wp2_with (go_at_call 84; refine (classOf_any s[k].toNat _ hb).mono ?_; rintro e w2 ⟨rfl, rfl⟩; rw [HN.out])
        go_ret
        exact ⟨ret_b (Hs2.out (by rw [HN.out]; simp)).symm, rfl⟩
      · have d0 : ((n : Int) == 0) = false := by simp; omega
        by_cases h1 : n ≤ most
        · have d1 : decide ((most : Int) < (n : Int)) = false := by simp; omega
          have d1' : decide (most < n) = false := by simp; omega
          go_wp2_with (go_at_call 84; refine (classOf_any s[k].toNat _ hb).mono ?_; rintro e w2 ⟨rfl, rfl⟩; rw [HN.out])
          go_round
          case rel => exact ⟨k + 1, by omega, by go_num, by rw [Hs1.out, Hall.out, HN.out]; simp; omega⟩
          case measure => simp [intOf]; omega
        · have d1 : decide ((most : Int) < (n : Int)) = true := by simp; omega
          have d1' : decide (most < n) = true := by simp; omega
          go_wp2_with (go_at_call 84; refine (classOf_any s[k].toNat _ hb).mono ?_; rintro e w2 ⟨rfl, rfl⟩; rw [HN.out])
          go_ret
          exact ⟨ret_b (Hs2.out (by rw [HN.out]; simp; omega)).symm, rfl⟩
    · go_wp2
      go_ret
      have := Hall.out
      rw [List.take_of_length_le (by simp; omega)] at this
      exact ⟨ret_b this.symm, rfl⟩
end Go.Proofs.Ythcnnadggffjhaa
