/- The walks of the reference of layer 2: Check, Valid, for schemes whose modes and accepting modes are in their ranges. -/
import Derived.Test.YtpidgkngefkbeaaW2
set_option linter.unusedVariables false
set_option linter.unusedSimpArgs false
namespace Go.Proofs.Ytpidgkngefkbeaa
open Go.RowKit

/-- every rule is right at its place -/
def allRight (m : Nat) (rs : List Rule) : Bool := (List.range rs.length).all fun i => rightAt m rs i

/-- what 'Check' hands back, without its first result -/
def Checked (w : World) (ok : Bool) (e : Ending) (w' : World) : Prop := ∃ n : Int, e = .returned (.tuple #[.int .i64 n, .int .i64 (if ok then 0 else 20)]) ∧ Below w.heap.size w w'

set_option maxHeartbeats 2000000 in
theorem check_any (F : Nat → Prop) (m ac : Nat) (A : Option Addr) (c : Nat) (rs : List Rule) (w : World) (hA : RulesAt F w A rs) (hn : rs.length ≤ 64) (hm : 1 ≤ m) (hm8 : m ≤ 8) (hac : 1 ≤ ac) (hac2 : ac < 2 ^ m)
    (hs : ∀ r ∈ rs, r.inp.size ≤ maxLen ∧ r.out.size ≤ maxLen) :
    Calls Try.prog 39 #[.agg #[.int .i64 m, .int .u8 ac, .slice A rs.length c]] w (Checked w (allRight m rs)) := by
  have Hs := Lib.hid hs
  clear hs
  have g1 : inB m 1 8 = true := by unfold inB; simp; omega
  have hp0 : (2 : Int) ^ m = ((2 ^ m : Nat) : Int) := by simp
  have hp3 : 2 ^ m ≤ 2 ^ 8 := Nat.pow_le_pow_right (by omega) hm8
  have hp1 : (1 : Int) ≤ 2 ^ m := by rw [hp0]; omega
  have hp2 : (2 : Int) ^ m ≤ 256 := by rw [hp0]; omega
  have g2 : inB ac 1 ((2 : Int) ^ m - 1) = true := by rw [hp0]; unfold inB; simp only [Bool.and_eq_true, decide_eq_true_eq]; omega
  have hac3 : ac < 256 := by omega
  clear hp0 hp3 hac2
  have hd64 : decide ((64 : Int) < (rs.length : Int)) = false := by simp; omega
  go_enter Try.func39, Try.ntmps39
  go_wp2_with fail
  go_quiet ((go_at_call 41; exact Calls.quiet_of_same ((in_any _ _ _ _).mono fun _ _ h => ⟨h.1, h.2.symm⟩)))
  go_wp2_with fail
  clear g1 g2
  go_loopw [4] (fun x wr => ∃ k : Nat, k ≤ rs.length ∧ x = .int .i64 k ∧ (List.range k).all (fun i => rightAt m rs i) = true ∧ Below w.heap.size w wr ∧ w.heap.size < wr.heap.size ∧
      wr.cell? ⟨w.heap.size, 0, none⟩ = some (.int .i64 m) ∧ wr.cell? ⟨w.heap.size, 1, none⟩ = some (.int .u8 ac) ∧ wr.cell? ⟨w.heap.size, 2, none⟩ = some (.slice A rs.length c)) (fun x _ => rs.length - (intOf x).toNat)
  case atStart => exact ⟨0, Nat.zero_le _, rfl, rfl, below_drewN ((Below.refl _ _).alloc (Nat.le_refl _) _) _, by simp, by simp, by simp, by simp⟩
  case round =>
    obtain ⟨k, hk, rfl, hall, hbel, hlt, d0, d1, d2⟩ := hrel
    have Hall := Lib.hid hall
    clear hall
    by_cases hkl : k < rs.length
    · have Hr := Lib.hid (right_any F m ac A c rs k wr (Reads.below hA hbel) hkl (by omega) (by omega) Hs.out)
      rcases g : rightAt m rs k with _ | _
      · have G := Lib.hid g
        clear g
        go_wp2_with (go_at_call 32; refine Hr.out.mono ?_; rintro e w1 ⟨rfl, hb1⟩; rw [G.out])
        go_ret2
        refine ⟨k, ?_, hbel.trans (hb1.mono hbel.size)⟩
        have : allRight m rs = false := by
          unfold allRight
          rw [List.all_eq_false]
          exact ⟨k, List.mem_range.2 hkl, by rw [G.out]; simp⟩
        rw [this]
        rfl
      · have G := Lib.hid g
        clear g
        go_wp2_with (go_at_call 32; refine Hr.out.mono ?_; rintro e w1 ⟨rfl, hb1⟩; rw [G.out])
        go_roundw
        case rel => exact ⟨k + 1, by omega, by go_num, by rw [List.range_succ, List.all_append, Hall.out]; simp [G.out], hbel.trans (hb1.mono hbel.size), Nat.lt_of_lt_of_le hlt hb1.size,
          (hb1.cell (p := ⟨w.heap.size, 0, none⟩) hlt).trans d0, (hb1.cell (p := ⟨w.heap.size, 1, none⟩) hlt).trans d1, (hb1.cell (p := ⟨w.heap.size, 2, none⟩) hlt).trans d2⟩
        case measure => simp [intOf]; omega
    · obtain rfl : k = rs.length := by omega
      go_wp2_with fail
      go_ret2
      exact ⟨rs.length, by rw [show allRight m rs = true from Hall.out]; rfl, hbel⟩

set_option maxHeartbeats 1000000 in
theorem valid_any (F : Nat → Prop) (m ac : Nat) (A : Option Addr) (c : Nat) (rs : List Rule) (w : World) (hA : RulesAt F w A rs) (hn : rs.length ≤ 64) (hm : 1 ≤ m) (hm8 : m ≤ 8) (hac : 1 ≤ ac) (hac2 : ac < 2 ^ m)
    (hs : ∀ r ∈ rs, r.inp.size ≤ maxLen ∧ r.out.size ≤ maxLen) :
    Calls Try.prog 29 #[.agg #[.int .i64 m, .int .u8 ac, .slice A rs.length c]] w fun e w' => e = .returned (.bool (allRight m rs)) ∧ Below w.heap.size w w' := by
  have H := Lib.hid (fun x => check_any F m ac A c rs (w.alloc x) (Reads.below hA ((Below.refl _ _).alloc (Nat.le_refl _) _)) hn hm hm8 hac hac2 hs)
  clear hs
  rcases g : allRight m rs with _ | _
  · have G := Lib.hid g
    clear g
    go_enter Try.func29, Try.ntmps29
    go_wp2_with (go_at_call 39; refine (H.out _).mono ?_; rintro e w1 ⟨n, rfl, hb1⟩; rw [G.out])
    go_ret
    exact ⟨rfl, ((Below.refl _ _).alloc (Nat.le_refl _) _).trans (hb1.mono (by simp))⟩
  · have G := Lib.hid g
    clear g
    go_enter Try.func29, Try.ntmps29
    go_wp2_with (go_at_call 39; refine (H.out _).mono ?_; rintro e w1 ⟨n, rfl, hb1⟩; rw [G.out])
    go_ret
    exact ⟨rfl, ((Below.refl _ _).alloc (Nat.le_refl _) _).trans (hb1.mono (by simp))⟩
end Go.Proofs.Ytpidgkngefkbeaa
