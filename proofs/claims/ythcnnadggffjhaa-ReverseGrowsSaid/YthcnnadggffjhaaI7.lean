/- The walks of words, texts, letters, prefixes; spots in a list. -/
import Derived.Test.YthcnnadggffjhaaI6
import Derived.Test.YthcnnadggffjhaaIA
set_option linter.unusedVariables false
set_option linter.unusedSimpArgs false
namespace Go.Proofs.Ythcnnadggffjhaa
open Go.RowKit

theorem not_empty {s : ByteArray} (h0 : 0 < s.size) : s.toList.isEmpty = false ∧ ¬ s.toList = [] ∧ s.toList ≠ [] := by
  have h : ¬ s.toList = [] := fun h => by
    rw [ByteArray.toList_eq] at h
    have h1 := congrArg List.length h
    have h2 : s.data.toList.length = s.size := rfl
    rw [h2] at h1
    simp only [List.length_nil] at h1
    omega
  exact ⟨by simpa using h, h, h⟩
set_option maxHeartbeats 1000000 in
theorem word_any (s : ByteArray) (w : World) (hs : s.size ≤ maxLen) (h0 : 0 < s.size) :
    Calls Try.prog 48 #[.string s] w fun e w' => e = .returned (.bool (isText s)) ∧ w' = w := by
  obtain ⟨hq, hq1, hq2⟩ := not_empty h0
  by_cases h : s.size ≤ 20
  · have d1 : decide ((20 : Int) < (s.size : Int)) = false := by simp; omega
    have d2 : decide ((s.size : Int) ≤ 20) = true := by simp; omega
    have hr : isText s = allB 3 s := by unfold isText; rw [allB_three]; simp [h]
    have HR := Lib.hid hr
    clear hr
    go_enter Try.func48, Try.ntmps48
    go_wp2_with (go_at_call 59; refine (all_any 3 s _ hs (by omega)).mono ?_; rintro e w2 ⟨rfl, rfl⟩)
    go_ret
    exact ⟨by rw [HR.out]; rfl, rfl⟩
  · have d1 : decide ((20 : Int) < (s.size : Int)) = true := by simp; omega
    have d2 : decide ((s.size : Int) ≤ 20) = false := by simp; omega
    have hr : isText s = false := by unfold isText; simp [h]
    have HR := Lib.hid hr
    clear hr
    go_enter Try.func48, Try.ntmps48
    go_wp2_with (fail)
    go_ret
    exact ⟨by rw [HR.out]; rfl, rfl⟩
set_option maxHeartbeats 1000000 in
theorem text_any (s : ByteArray) (w : World) (hs : s.size ≤ maxLen) :
    Calls Try.prog 30 #[.string s] w fun e w' => e = .returned (.bool (isText s)) ∧ w' = w := by
  by_cases h0 : 0 < s.size
  · obtain ⟨hq, hq1, hq2⟩ := not_empty h0
    go_enter Try.func30, Try.ntmps30
    go_wp2_with (go_at_call 48; refine (word_any s _ hs h0).mono ?_; rintro e w2 ⟨rfl, rfl⟩)
    go_ret
    exact ⟨rfl, rfl⟩
  · obtain rfl : s = ⟨#[]⟩ := by
      obtain ⟨a⟩ := s
      have : a.size = 0 := by simpa [ByteArray.size] using h0
      rw [Array.eq_empty_of_size_eq_zero this]
    have hr : isText ⟨#[]⟩ = true := by decide
    have HR := Lib.hid hr
    clear hr
    go_enter Try.func30, Try.ntmps30
    go_wp2
    go_ret
    exact ⟨by rw [HR.out]; rfl, rfl⟩
set_option maxHeartbeats 1000000 in
theorem letters_any (s : ByteArray) (w : World) (hs : s.size ≤ maxLen) :
    Calls Try.prog 39 #[.string s] w fun e w' => e = .returned (.bool (isLetters s)) ∧ w' = w := by
  by_cases h : s.size ≤ 40
  · have d1 : decide ((40 : Int) < (s.size : Int)) = false := by simp; omega
    have d2 : decide ((s.size : Int) ≤ 40) = true := by simp; omega
    have hr : isLetters s = allB 1 s := by unfold isLetters; rw [allB_one]; simp [h]
    have HR := Lib.hid hr
    clear hr
    go_enter Try.func39, Try.ntmps39
    go_wp2_with (go_at_call 59; refine (all_any 1 s _ hs (by omega)).mono ?_; rintro e w2 ⟨rfl, rfl⟩)
    go_ret
    exact ⟨by rw [HR.out]; rfl, rfl⟩
  · have d1 : decide ((40 : Int) < (s.size : Int)) = true := by simp; omega
    have d2 : decide ((s.size : Int) ≤ 40) = false := by simp; omega
    have hr : isLetters s = false := by unfold isLetters; simp [h]
    have HR := Lib.hid hr
    clear hr
    go_enter Try.func39, Try.ntmps39
    go_wp2_with (fail)
    go_ret
    exact ⟨by rw [HR.out]; rfl, rfl⟩
set_option maxHeartbeats 1000000 in
theorem prefl_any (s p : ByteArray) (w : World) (hs : s.size ≤ maxLen) (hp : p.size ≤ maxLen) :
    Calls Try.prog 51 #[.string s, .string p] w fun e w' => e = .returned (.bool (prefB s p)) ∧ w' = w := by
  unfold maxLen at hs hp
  by_cases h : p.size ≤ s.size
  · have d1 : decide ((p.size : Int) ≤ (s.size : Int)) = true := by simpa using h
    have d2 : decide ((s.size : Int) < (p.size : Int)) = false := by simp; omega
    have d3 : decide (p.size ≤ s.size) = true := by simpa using h
    have d4 : decide (s.size < p.size) = false := by simp; omega
    have hb := bytes_beq (s.extract 0 p.size) p
    have hr : prefB s p = decide (s.extract 0 p.size = p) := by unfold prefB; simp [h]
    have HR := Lib.hid (hr.trans hb.symm)
    clear hr hb
    go_enter Try.func51, Try.ntmps51
    go_wp2
    go_ret
    exact ⟨by rw [HR.out]; rfl, rfl⟩
  · have d1 : decide ((p.size : Int) ≤ (s.size : Int)) = false := by simpa using h
    have d2 : decide ((s.size : Int) < (p.size : Int)) = true := by simp; omega
    have d3 : decide (p.size ≤ s.size) = false := by simpa using h
    have d4 : decide (s.size < p.size) = true := by simp; omega
    have hr : prefB s p = false := by unfold prefB; simp [h]
    have HR := Lib.hid hr
    clear hr
    go_enter Try.func51, Try.ntmps51
    go_wp2
    go_ret
    exact ⟨by rw [HR.out]; rfl, rfl⟩
theorem pref_any (s p : ByteArray) (w : World) (hs : s.size ≤ maxLen) (hp : p.size ≤ maxLen) :
    Calls Try.prog 34 #[.string s, .string p] w fun e w' => e = .returned (.bool (prefB s p)) ∧ w' = w := by
  go_enter Try.func34, Try.ntmps34
  go_wp2_with (go_at_call 51; refine (prefl_any s p _ hs hp).mono ?_; rintro e w2 ⟨rfl, rfl⟩)
  go_ret
  exact ⟨rfl, rfl⟩
end Go.Proofs.Ythcnnadggffjhaa
