/- The walks of the references' comparisons: Ints, Bools, Same. -/
import Derived.Test.YthcnnadggffjhaaWA
import Derived.Test.YthcnnadggffjhaaLA
set_option linter.unusedVariables false
set_option linter.unusedSimpArgs false
namespace Go.Proofs.Ythcnnadggffjhaa
open Go.RowKit

theorem take_eq_step {T : Type} {l l' : List T} {k : Nat} (h : l.take k = l'.take k) (h1 : k < l.length) (h2 : k < l'.length) (he : l[k] = l'[k]) : l.take (k + 1) = l'.take (k + 1) := by
  rw [List.take_succ_eq_append_getElem h1, List.take_succ_eq_append_getElem h2, h, he]
theorem ne_of_getElem {T : Type} {l l' : List T} {k : Nat} (h1 : k < l.length) (h2 : k < l'.length) (he : ¬ l[k] = l'[k]) : ¬ l = l' := by
  rintro rfl
  exact he rfl


set_option maxHeartbeats 1000000 in
set_option maxRecDepth 100000 in
theorem ints_any (F G : Nat → Prop) (A A' : Option Addr) (c c' : Nat) (l l' : List Int) (w : World) (hL : SlAt vI F w A l) (hL' : SlAt vI G w A' l') (hl : l.length ≤ 100000) (hl' : l'.length ≤ 100000) :
    Calls Try.prog 19 #[.slice A l.length c, .slice A' l'.length c'] w fun e w' => e = .returned (.bool (decide (l = l'))) ∧ Below w.heap.size w w' := by
  by_cases hlen : l.length = l'.length
  · have hd : ((l.length : Int) == (l'.length : Int)) = true := by simp; omega
    have hd2 : ((l.length : Int) != (l'.length : Int)) = false := by simp; omega
    have HLEN := Lib.hid hlen
    clear hlen
    go_enter Try.func19, Try.ntmps19
    go_wp2_with fail
    clear hd hd2
    go_loopw [5] (fun x wr => ∃ k : Nat, k ≤ l.length ∧ x = .int .i64 k ∧ l.take k = l'.take k ∧ ∃ n, wr = w.drewN n) (fun x _ => l.length - (intOf x).toNat)
    case atStart => exact ⟨0, Nat.zero_le _, rfl, by simp, 0, rfl⟩
    case round =>
      obtain ⟨k, hk, rfl, hall, n, rfl⟩ := hrel
      have Hall := Lib.hid hall
      clear hall
      by_cases hlt : k < l.length
      · have hlt' : k < l'.length := by have := HLEN.out; omega
        obtain ⟨b, o, rfl, hFb, hbl, hc⟩ := hL.at_ hlt
        obtain ⟨b', o', rfl, hGb, hbl', hc'⟩ := hL'.at_ hlt'
        have hc : w.cell? ⟨b, o + k, none⟩ = some (.int .i64 l[k]) := hc
        have hc' : w.cell? ⟨b', o' + k, none⟩ = some (.int .i64 l'[k]) := hc'
        have hkl : (k : Int) < (l.length : Int) := by omega
        have hkl' : (k : Int) < (l'.length : Int) := by omega
        by_cases he : l[k] = l'[k]
        · have Hs := Lib.hid (take_eq_step Hall.out hlt hlt' he)
          have q1 : (l[k] == l'[k]) = true := by simpa using he
          have q2 : (l[k] != l'[k]) = false := by simpa using he
          clear he
          go_wp2_with fail
          go_quiet (fail)
          go_wp2_with fail
          go_roundw
          case rel => exact ⟨k + 1, by omega, by go_num, Hs.out, _, rfl⟩
          case measure => simp [intOf]; omega
        · have Hs := Lib.hid (ne_of_getElem hlt hlt' he)
          have q1 : (l[k] == l'[k]) = false := by simpa using he
          have q2 : (l[k] != l'[k]) = true := by simpa using he
          clear he
          go_wp2_with fail
          go_quiet (fail)
          go_wp2_with fail
          go_ret
          exact ⟨ret_b (by rw [decide_eq_false Hs.out]), below_drewN (below_drewN (Below.refl _ _) _) _⟩
      · obtain rfl : k = l.length := by omega
        have He : Hid (l = l') := by
          have h1 := Hall.out
          rw [List.take_length, List.take_of_length_le (by have := HLEN.out; omega)] at h1
          exact h1
        go_wp2_with fail
        go_ret
        exact ⟨ret_b (by rw [decide_eq_true He.out]), below_drewN (Below.refl _ _) _⟩
  · have hd : ((l.length : Int) == (l'.length : Int)) = false := by simp; omega
    have hd2 : ((l.length : Int) != (l'.length : Int)) = true := by simp; omega
    have Hs : Hid (¬ l = l') := by intro h; exact hlen (by rw [h])
    clear hlen
    go_enter Try.func19, Try.ntmps19
    go_wp2_with fail
    go_ret
    exact ⟨ret_b (by rw [decide_eq_false Hs.out]), Below.refl _ _⟩


theorem run_weak {P : Prop} (h : P) : P := h
end Go.Proofs.Ythcnnadggffjhaa
