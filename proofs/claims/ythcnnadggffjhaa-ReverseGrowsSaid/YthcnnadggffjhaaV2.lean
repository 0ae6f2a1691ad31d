/- The walks of the reference of layer 6: Text, IsText; of layer 2: Letters, Input. -/
import Derived.Test.YthcnnadggffjhaaW6
import Derived.Test.YthcnnadggffjhaaI7
set_option linter.unusedVariables false
set_option linter.unusedSimpArgs false
namespace Go.Proofs.Ythcnnadggffjhaa
open Go.RowKit

@[go_sem] theorem cut_t0 : (⟨#[97, 65, 98, 66, 99, 49]⟩ : ByteArray).extract 0 1 = ⟨#[97]⟩ := by decide
@[go_sem] theorem cut_t1 : (⟨#[97, 65, 98, 66, 99, 49]⟩ : ByteArray).extract 1 2 = ⟨#[65]⟩ := by decide
@[go_sem] theorem cut_t2 : (⟨#[97, 65, 98, 66, 99, 49]⟩ : ByteArray).extract 2 3 = ⟨#[98]⟩ := by decide
@[go_sem] theorem cut_t3 : (⟨#[97, 65, 98, 66, 99, 49]⟩ : ByteArray).extract 3 4 = ⟨#[66]⟩ := by decide
@[go_sem] theorem cut_t4 : (⟨#[97, 65, 98, 66, 99, 49]⟩ : ByteArray).extract 4 5 = ⟨#[99]⟩ := by decide
@[go_sem] theorem cut_t5 : (⟨#[97, 65, 98, 66, 99, 49]⟩ : ByteArray).extract 5 6 = ⟨#[49]⟩ := by decide
def pickT (c : Nat) : UInt8 := if c % 6 = 0 then 97 else if c % 6 = 1 then 65 else if c % 6 = 2 then 98 else if c % 6 = 3 then 66 else if c % 6 = 4 then 99 else 49
def textOf (l : List Nat) (n : Nat) : ByteArray := ⟨((l.take n).map pickT).toArray⟩
theorem textOf_size (l : List Nat) (n : Nat) : (textOf l n).size ≤ n := by
  show ((l.take n).map pickT).toArray.size ≤ n
  simp
  omega
theorem plain_pickT (c : Nat) : plainN (pickT c).toNat = true := by
  unfold pickT
  repeat' split
  all_goals decide
theorem textOf_text (l : List Nat) {n : Nat} (hn : n ≤ 20) : isText (textOf l n) = true := by
  have h1 := textOf_size l n
  unfold isText
  rw [Bool.and_eq_true]
  refine ⟨by simp; omega, ?_⟩
  unfold plain textOf
  simp only [List.all_eq_true, List.mem_map]
  rintro x ⟨c, _, rfl⟩
  exact plain_pickT c
theorem textOf_step {l : List Nat} {k : Nat} {c : UInt8} (hk : k < l.length) (hp : pickT l[k] = c) : textOf l k ++ ⟨#[c]⟩ = textOf l (k + 1) := by
  unfold textOf
  rw [take_map_snoc _ _ _ hk, hp, show (⟨#[c]⟩ : ByteArray) = ⟨[c].toArray⟩ from rfl, ByteArray.mk_append_mk]
theorem textOf_end {l : List Nat} {k n : Nat} (h : k ≤ n) (h2 : ¬ (k < l.length ∧ k < n)) : textOf l k = textOf l n := by
  unfold textOf
  rcases Nat.lt_or_ge k n with h | h
  · rw [List.take_of_length_le (by omega), List.take_of_length_le (by omega)]
  · rw [show k = n from by omega]
set_option maxHeartbeats 2000000 in
set_option maxRecDepth 100000 in
theorem text6_any (F : Nat → Prop) (A : Option Addr) (c n : Nat) (l : List Nat) (w : World) (hA : SlAt v8 F w A l) (hl : l.length ≤ maxLen) (hn : n ≤ 20) (hb : ∀ c ∈ l, c < 256) :
    Calls Try.prog 11 #[.slice A l.length c, .int .i64 n] w fun e w' => e = .returned (.string (textOf l n)) ∧ Below w.heap.size w w' := by
  unfold maxLen at hl
  go_enter Try.func11, Try.ntmps11
  go_wp2_with fail
  go_loopw [5, 6] (fun s x wr => ∃ k : Nat, k ≤ l.length ∧ k ≤ n ∧ x = .int .i64 k ∧ s = .string (textOf l k) ∧ Below w.heap.size w wr) (fun _ x _ => n - (intOf x).toNat)
  case atStart => exact ⟨0, by omega, by omega, rfl, rfl, Below.refl _ _⟩
  case round =>
    obtain ⟨k, hk, hkn, rfl, rfl, hbel⟩ := hrel
    by_cases hin : (k : Int) < (l.length : Int) ∧ (k : Int) < (n : Int)
    · obtain ⟨hl1, hn1⟩ := hin
      have hkl : k < l.length := by omega
      obtain ⟨b, o, rfl, hF, hbs, hcell⟩ := (SlAt.below hA hbel).at_ hkl
      obtain ⟨x, hx⟩ : ∃ x : ByteArray, x = textOf l k := ⟨_, rfl⟩
      have hxs : x.size ≤ 20 := by rw [hx]; exact Nat.le_trans (textOf_size l k) (by omega)
      rw [← hx]
      have HX := Lib.hid hx
      clear hx
      have hc9 : l[k] < 256 := hb _ (List.getElem_mem hkl)
      have hadd := fun (c : UInt8) (W : World) => run_string_add_sum (P := Try.prog) W x ⟨#[c]⟩ (by have : (ByteArray.mk #[c]).size = 1 := rfl; omega)
      have HB := Lib.hid hbel
      obtain ⟨v, hv⟩ : ∃ v, v = l[k] := ⟨_, rfl⟩
      rw [← hv] at hcell hc9
      have HV := Lib.hid hv
      clear hbel hv
      have h3 : (v : Int) % 6 = 0 ∨ (v : Int) % 6 = 1 ∨ (v : Int) % 6 = 2 ∨ (v : Int) % 6 = 3 ∨ (v : Int) % 6 = 4 ∨ (v : Int) % 6 = 5 := by omega
      rcases h3 with h3 | h3 | h3 | h3 | h3 | h3
      · have hp : pickT l[k] = 97 := by rw [← HV.out]; unfold pickT; rw [if_pos (by omega)]
        have HP := Lib.hid hp
        clear hp
        go_wp2_with fail
        go_quiet (fail)
        go_wp2_with fail
        go_roundw
        case rel => exact ⟨k + 1, by omega, by omega, by go_num, by rw [HX.out, textOf_step hkl HP.out], by first | exact below_drewN HB.out _ | exact HB.out.drew⟩
        case measure => simp [intOf]; omega
      · have hp : pickT l[k] = 65 := by rw [← HV.out]; unfold pickT; rw [if_neg (by omega)]; rw [if_pos (by omega)]
        have HP := Lib.hid hp
        clear hp
        go_wp2_with fail
        go_quiet (fail)
        go_wp2_with fail
        go_roundw
        case rel => exact ⟨k + 1, by omega, by omega, by go_num, by rw [HX.out, textOf_step hkl HP.out], by first | exact below_drewN HB.out _ | exact HB.out.drew⟩
        case measure => simp [intOf]; omega
      · have hp : pickT l[k] = 98 := by rw [← HV.out]; unfold pickT; rw [if_neg (by omega)]; rw [if_neg (by omega)]; rw [if_pos (by omega)]
        have HP := Lib.hid hp
        clear hp
        go_wp2_with fail
        go_quiet (fail)
        go_wp2_with fail
        go_roundw
        case rel => exact ⟨k + 1, by omega, by omega, by go_num, by rw [HX.out, textOf_step hkl HP.out], by first | exact below_drewN HB.out _ | exact HB.out.drew⟩
        case measure => simp [intOf]; omega
      · have hp : pickT l[k] = 66 := by rw [← HV.out]; unfold pickT; rw [if_neg (by omega)]; rw [if_neg (by omega)]; rw [if_neg (by omega)]; rw [if_pos (by omega)]
        have HP := Lib.hid hp
        clear hp
        go_wp2_with fail
        go_quiet (fail)
        go_wp2_with fail
        go_roundw
        case rel => exact ⟨k + 1, by omega, by omega, by go_num, by rw [HX.out, textOf_step hkl HP.out], by first | exact below_drewN HB.out _ | exact HB.out.drew⟩
        case measure => simp [intOf]; omega
      · have hp : pickT l[k] = 99 := by rw [← HV.out]; unfold pickT; rw [if_neg (by omega)]; rw [if_neg (by omega)]; rw [if_neg (by omega)]; rw [if_neg (by omega)]; rw [if_pos (by omega)]
        have HP := Lib.hid hp
        clear hp
        go_wp2_with fail
        go_quiet (fail)
        go_wp2_with fail
        go_roundw
        case rel => exact ⟨k + 1, by omega, by omega, by go_num, by rw [HX.out, textOf_step hkl HP.out], by first | exact below_drewN HB.out _ | exact HB.out.drew⟩
        case measure => simp [intOf]; omega
      · have hp : pickT l[k] = 49 := by rw [← HV.out]; unfold pickT; rw [if_neg (by omega)]; rw [if_neg (by omega)]; rw [if_neg (by omega)]; rw [if_neg (by omega)]; rw [if_neg (by omega)]
        have HP := Lib.hid hp
        clear hp
        go_wp2_with fail
        go_quiet (fail)
        go_wp2_with fail
        go_roundw
        case rel => exact ⟨k + 1, by omega, by omega, by go_num, by rw [HX.out, textOf_step hkl HP.out], by first | exact below_drewN HB.out _ | exact HB.out.drew⟩
        case measure => simp [intOf]; omega
    · have HE : Hid (textOf l k = textOf l n) := Lib.hid (textOf_end hkn (by omega))
      have HB := Lib.hid hbel
      clear hbel
      rcases Int.lt_or_le (k : Int) (l.length : Int) with hl1 | hl1
      all_goals
        go_wp2_with fail
        go_ret
        exact ⟨by rw [HE.out]; rfl, HB.out⟩
set_option maxHeartbeats 1000000 in
theorem isText6_any (s : ByteArray) (w : World) (hs : s.size ≤ maxLen) :
    Calls Try.prog 26 #[.string s] w fun e w' => e = .returned (.bool (isText s)) ∧ w' = w := by
  have hs2 := hs
  unfold maxLen at hs2
  by_cases h : s.size ≤ 20
  · have d1 : decide ((s.size : Int) ≤ 20) = true := by simp; omega
    have hr : isText s = plain s := by unfold isText; simp [h]
    have HR := Lib.hid hr
    clear hr
    go_enter Try.func26, Try.ntmps26
    go_wp2_with (go_at_call 44; refine (plain_any s _ hs).mono ?_; rintro e w2 ⟨rfl, rfl⟩)
    go_ret
    exact ⟨by rw [HR.out]; rfl, rfl⟩
  · have d1 : decide ((s.size : Int) ≤ 20) = false := by simp; omega
    have hr : isText s = false := by unfold isText; simp [h]
    have HR := Lib.hid hr
    clear hr
    go_enter Try.func26, Try.ntmps26
    go_wp2_with (fail)
    go_ret
    exact ⟨by rw [HR.out]; rfl, rfl⟩
set_option maxHeartbeats 1000000 in
theorem letters2_any (s : ByteArray) (w : World) (hs : s.size ≤ maxLen) :
    Calls Try.prog 27 #[.string s] w fun e w' => e = .returned (.bool (isLetters s)) ∧ w' = w := by
  have hs2 := hs
  unfold maxLen at hs2
  by_cases h : s.size ≤ 40
  · have d1 : decide ((s.size : Int) ≤ 40) = true := by simp; omega
    have hr : isLetters s = small s := by unfold isLetters; simp [h]
    have HR := Lib.hid hr
    clear hr
    go_enter Try.func27, Try.ntmps27
    go_wp2_with (go_at_call 45; refine (small_any s _ hs).mono ?_; rintro e w2 ⟨rfl, rfl⟩)
    go_ret
    exact ⟨by rw [HR.out]; rfl, rfl⟩
  · have d1 : decide ((s.size : Int) ≤ 40) = false := by simp; omega
    have hr : isLetters s = false := by unfold isLetters; simp [h]
    have HR := Lib.hid hr
    clear hr
    go_enter Try.func27, Try.ntmps27
    go_wp2_with (fail)
    go_ret
    exact ⟨by rw [HR.out]; rfl, rfl⟩
end Go.Proofs.Ythcnnadggffjhaa
