/- The walks of the references' comparisons: Ints, Bools, Same. -/
import Derived.Test.YtpidgkngefkbeaaWA
import Derived.Test.YtpidgkngefkbeaaLA
set_option linter.unusedVariables false
set_option linter.unusedSimpArgs false
namespace Go.Proofs.Ytpidgkngefkbeaa
open Go.RowKit

theorem take_eq_step {T : Type} {l l' : List T} {k : Nat} (h : l.take k = l'.take k) (h1 : k < l.length) (h2 : k < l'.length) (he : l[k] = l'[k]) : l.take (k + 1) = l'.take (k + 1) := by
  rw [List.take_succ_eq_append_getElem h1, List.take_succ_eq_append_getElem h2, h, he]
theorem ne_of_getElem {T : Type} {l l' : List T} {k : Nat} (h1 : k < l.length) (h2 : k < l'.length) (he : ¬ l[k] = l'[k]) : ¬ l = l' := by
  rintro rfl
  exact he rfl


set_option maxHeartbeats 1000000 in
theorem ints_any (F G : Nat → Prop) (A A' : Option Addr) (c c' : Nat) (l l' : List Int) (w : World) (hL : SlAt vI F w A l) (hL' : SlAt vI G w A' l') (hl : l.length ≤ 100000) (hl' : l'.length ≤ 100000) :
    Calls Try.prog 18 #[.slice A l.length c, .slice A' l'.length c'] w fun e w' => e = .returned (.bool (decide (l = l'))) ∧ Below w.heap.size w w' := by
  by_cases hlen : l.length = l'.length
  · have hd : ((l.length : Int) == (l'.length : Int)) = true := by simp; omega
    have hd2 : ((l.length : Int) != (l'.length : Int)) = false := by simp; omega
    have HLEN := Lib.hid hlen
    clear hlen
    go_enter Try.func18, Try.ntmps18
    go_wp2_with fail
    clear hd hd2
    go_loopw [5] (fun x wr => ∃ k : Nat, k ≤ l.length ∧ x = .int .i64 k ∧ l.take k = l'.take k ∧ ∃ n, wr = w.drewN n) (fun x _ => l.length - (intOf x).toNat)
    case atStart => exact ⟨0, Nat.zero_le _, rfl, by simp, 0, rfl⟩
    case round =>
      obtain ⟨k, hk, rfl, hall, n, rfl⟩ := hrel
      have Hall := Lib.hid hall
      clear hall
      by_cases hlt : k < l.length
      · have hlt' : k < l'.length := by have := HLEN.out; omega
        obtain ⟨b, o, rfl, hFb, hbl, hc⟩ := hL.at_ hlt
        obtain ⟨b', o', rfl, hGb, hbl', hc'⟩ := hL'.at_ hlt'
        have hc : w.cell? ⟨b, o + k, none⟩ = some (.int .i64 l[k]) := hc
        have hc' : w.cell? ⟨b', o' + k, none⟩ = some (.int .i64 l'[k]) := hc'
        have hkl : (k : Int) < (l.length : Int) := by omega
        have hkl' : (k : Int) < (l'.length : Int) := by omega
        by_cases he : l[k] = l'[k]
        · have Hs := Lib.hid (take_eq_step Hall.out hlt hlt' he)
          have q1 : (l[k] == l'[k]) = true := by simpa using he
          have q2 : (l[k] != l'[k]) = false := by simpa using he
          clear he
          go_wp2_with fail
          go_quiet (fail)
          go_wp2_with fail
          go_roundw
          case rel => exact ⟨k + 1, by omega, by go_num, Hs.out, _, rfl⟩
          case measure => simp [intOf]; omega
        · have Hs := Lib.hid (ne_of_getElem hlt hlt' he)
          have q1 : (l[k] == l'[k]) = false := by simpa using he
          have q2 : (l[k] != l'[k]) = true := by simpa using he
          clear he
          go_wp2_with fail
          go_quiet (fail)
          go_wp2_with fail
          go_ret
          exact ⟨ret_b (by rw [decide_eq_false Hs.out]), below_drewN (below_drewN (Below.refl _ _) _) _⟩
      · obtain rfl : k = l.length := by omega
        have He : Hid (l = l') := by
          have h1 := Hall.out
          rw [List.take_length, List.take_of_length_le (by have := HLEN.out; omega)] at h1
          exact h1
        go_wp2_with fail
        go_ret
        exact ⟨ret_b (by rw [decide_eq_true He.out]), below_drewN (Below.refl _ _) _⟩
  · have hd : ((l.length : Int) == (l'.length : Int)) = false := by simp; omega
    have hd2 : ((l.length : Int) != (l'.length : Int)) = true := by simp; omega
    have Hs : Hid (¬ l = l') := by intro h; exact hlen (by rw [h])
    clear hlen
    go_enter Try.func18, Try.ntmps18
    go_wp2_with fail
    go_ret
    exact ⟨ret_b (by rw [decide_eq_false Hs.out]), Below.refl _ _⟩


set_option maxHeartbeats 1000000 in
theorem bools_any (F G : Nat → Prop) (A A' : Option Addr) (c c' : Nat) (l l' : List Bool) (w : World) (hL : SlAt vB F w A l) (hL' : SlAt vB G w A' l') (hl : l.length ≤ 100000) (hl' : l'.length ≤ 100000) :
    Calls Try.prog 19 #[.slice A l.length c, .slice A' l'.length c'] w fun e w' => e = .returned (.bool (decide (l = l'))) ∧ Below w.heap.size w w' := by
  by_cases hlen : l.length = l'.length
  · have hd : ((l.length : Int) == (l'.length : Int)) = true := by simp; omega
    have hd2 : ((l.length : Int) != (l'.length : Int)) = false := by simp; omega
    have HLEN := Lib.hid hlen
    clear hlen
    go_enter Try.func19, Try.ntmps19
    go_wp2_with fail
    clear hd hd2
    go_loopw [5] (fun x wr => ∃ k : Nat, k ≤ l.length ∧ x = .int .i64 k ∧ l.take k = l'.take k ∧ ∃ n, wr = w.drewN n) (fun x _ => l.length - (intOf x).toNat)
    case atStart => exact ⟨0, Nat.zero_le _, rfl, by simp, 0, rfl⟩
    case round =>
      obtain ⟨k, hk, rfl, hall, n, rfl⟩ := hrel
      have Hall := Lib.hid hall
      clear hall
      by_cases hlt : k < l.length
      · have hlt' : k < l'.length := by have := HLEN.out; omega
        obtain ⟨b, o, rfl, hFb, hbl, hc⟩ := hL.at_ hlt
        obtain ⟨b', o', rfl, hGb, hbl', hc'⟩ := hL'.at_ hlt'
        have hc : w.cell? ⟨b, o + k, none⟩ = some (.bool l[k]) := hc
        have hc' : w.cell? ⟨b', o' + k, none⟩ = some (.bool l'[k]) := hc'
        have hkl : (k : Int) < (l.length : Int) := by omega
        have hkl' : (k : Int) < (l'.length : Int) := by omega
        by_cases he : l[k] = l'[k]
        · have Hs := Lib.hid (take_eq_step Hall.out hlt hlt' he)
          have q1 : (l[k] == l'[k]) = true := by simpa using he
          have q2 : (l[k] != l'[k]) = false := by simpa using he
          clear he
          go_wp2_with fail
          go_quiet (fail)
          go_wp2_with fail
          go_roundw
          case rel => exact ⟨k + 1, by omega, by go_num, Hs.out, _, rfl⟩
          case measure => simp [intOf]; omega
        · have Hs := Lib.hid (ne_of_getElem hlt hlt' he)
          have q1 : (l[k] == l'[k]) = false := by simpa using he
          have q2 : (l[k] != l'[k]) = true := by simpa using he
          clear he
          go_wp2_with fail
          go_quiet (fail)
          go_wp2_with fail
          go_ret
          exact ⟨ret_b (by rw [decide_eq_false Hs.out]), below_drewN (below_drewN (Below.refl _ _) _) _⟩
      · obtain rfl : k = l.length := by omega
        have He : Hid (l = l') := by
          have h1 := Hall.out
          rw [List.take_length, List.take_of_length_le (by have := HLEN.out; omega)] at h1
          exact h1
        go_wp2_with fail
        go_ret
        exact ⟨ret_b (by rw [decide_eq_true He.out]), below_drewN (Below.refl _ _) _⟩
  · have hd : ((l.length : Int) == (l'.length : Int)) = false := by simp; omega
    have hd2 : ((l.length : Int) != (l'.length : Int)) = true := by simp; omega
    have Hs : Hid (¬ l = l') := by intro h; exact hlen (by rw [h])
    clear hlen
    go_enter Try.func19, Try.ntmps19
    go_wp2_with fail
    go_ret
    exact ⟨ret_b (by rw [decide_eq_false Hs.out]), Below.refl _ _⟩


theorem run_weak {P : Prop} (h : P) : P := h
set_option maxHeartbeats 2000000 in
theorem same_any (F G : Nat → Prop) (m ac m' ac' : Nat) (A A' : Option Addr) (c c' : Nat) (l l' : List Rule) (w : World) (hL : RulesAt F w A l) (hL' : RulesAt G w A' l') (hl : l.length ≤ 100000) (hl' : l'.length ≤ 100000) :
    Calls Try.prog 17 #[.agg #[.int .i64 m, .int .u8 ac, .slice A l.length c], .agg #[.int .i64 m', .int .u8 ac', .slice A' l'.length c']] w fun e w' =>
      e = .returned (.bool (decide ((⟨m, ac, l⟩ : Scheme) = ⟨m', ac', l'⟩))) ∧ Below w.heap.size w w' := by
  have hW : ∀ X Y : Obj, Below w.heap.size w ((w.alloc X).alloc Y) := fun X Y => ((Below.refl _ _).alloc (Nat.le_refl _) _).alloc (by simp) _
  have HW := Lib.hid hW
  clear hW
  rcases hq1 : ((m : Int) == (m' : Int)) with _ | _
  · have hq2 : ((m : Int) != (m' : Int)) = true := by simp at hq1 ⊢; omega
    have Hs : Hid (¬ (⟨m, ac, l⟩ : Scheme) = ⟨m', ac', l'⟩) := by intro h; injection h with h1; simp at hq1; omega
    go_enter Try.func17, Try.ntmps17
    go_wp2_with fail
    go_ret
    exact ⟨ret_b (by rw [decide_eq_false Hs.out]), HW.out _ _⟩
  have hq2 : ((m : Int) != (m' : Int)) = false := by simp at hq1 ⊢; omega
  rcases hr1 : ((ac : Int) == (ac' : Int)) with _ | _
  · have hr2 : ((ac : Int) != (ac' : Int)) = true := by simp at hr1 ⊢; omega
    have Hs : Hid (¬ (⟨m, ac, l⟩ : Scheme) = ⟨m', ac', l'⟩) := by intro h; injection h with h1 h2; simp at hr1; omega
    go_enter Try.func17, Try.ntmps17
    go_wp2_with fail
    go_ret
    exact ⟨ret_b (by rw [decide_eq_false Hs.out]), HW.out _ _⟩
  have hr2 : ((ac : Int) != (ac' : Int)) = false := by simp at hr1 ⊢; omega
  rcases hs1 : ((l.length : Int) == (l'.length : Int)) with _ | _
  · have hs2 : ((l.length : Int) != (l'.length : Int)) = true := by simp at hs1 ⊢; omega
    have Hs : Hid (¬ (⟨m, ac, l⟩ : Scheme) = ⟨m', ac', l'⟩) := by intro h; injection h with h1 h2 h3; rw [h3] at hs1; simp at hs1
    go_enter Try.func17, Try.ntmps17
    go_wp2_with fail
    go_ret
    exact ⟨ret_b (by rw [decide_eq_false Hs.out]), HW.out _ _⟩
  have hs2 : ((l.length : Int) != (l'.length : Int)) = false := by simp at hs1 ⊢; omega
  have hlen : l.length = l'.length := by simp at hs1; omega
  have hm : m = m' := by simp at hq1; omega
  have ha : ac = ac' := by simp at hr1; omega
  have HE : Hid (∀ b : Bool, decide (l = l') = b → decide ((⟨m, ac, l⟩ : Scheme) = ⟨m', ac', l'⟩) = b) := by
    intro b hb
    rw [← hb, hm, ha]
    simp
  have HLEN := Lib.hid hlen
  clear hlen hm ha
  go_enter Try.func17, Try.ntmps17
  go_wp2_with fail
  refine world_gen (fun W => Below w.heap.size w W ∧ Blk W w.heap.size 30 #[.int .i64 m, .int .u8 ac, .slice A l.length c] ∧ Blk W (w.heap.size + 1) 30 #[.int .i64 m', .int .u8 ac', .slice A' l'.length c']) ⟨HW.out _ _, (Blk.new _ _ _).alloc _, ?_⟩ ?_
  · exact (show Blk _ (w.heap.size + 1) _ _ from by rw [show w.heap.size + 1 = (w.alloc _).heap.size from (by simp)]; exact Blk.new _ _ _)
  rintro W ⟨hbel, b0, b1⟩
  have d0 : W.cell? ⟨w.heap.size, 2, none⟩ = some (.slice A l.length c) := b0.cell 2
  have d1 : W.cell? ⟨w.heap.size + 1, 2, none⟩ = some (.slice A' l'.length c') := b1.cell 2
  have hL := RulesAt.below hL hbel
  have hL' := RulesAt.below hL' hbel
  clear hq1 hq2 hr1 hr2 hs1 hs2 b0 b1
  go_loopw [5] (fun x wr => ∃ k : Nat, k ≤ l.length ∧ x = .int .i64 k ∧ l.take k = l'.take k ∧ ∃ n, wr = W.drewN n) (fun x _ => l.length - (intOf x).toNat)
  case atStart => exact ⟨0, Nat.zero_le _, rfl, by simp, 0, rfl⟩
  case round =>
    obtain ⟨k, hk, rfl, hall, n, rfl⟩ := hrel
    have Hall := Lib.hid hall
    clear hall
    by_cases hlt : k < l.length
    · have hlt' : k < l'.length := by have := HLEN.out; omega
      obtain ⟨b, o, rfl, hFb, hbl, r0, r1, r2, r3, r4⟩ := hL.at_ hlt
      obtain ⟨b', o', rfl, hGb, hbl', s0, s1, s2, s3, s4⟩ := hL'.at_ hlt'
      have hkl : (k : Int) < (l.length : Int) := by omega
      have hkl' : (k : Int) < (l'.length : Int) := by omega
      by_cases he : l[k] = l'[k]
      · have Hs := Lib.hid (take_eq_step Hall.out hlt hlt' he)
        have q1 : decide (l[k] = l'[k]) = true := by simpa using he
        clear he
        go_wp2_with fail
        go_quiet (fail)
        go_wp2_with fail
        go_roundw
        case rel => exact ⟨k + 1, by omega, by go_num, Hs.out, _, rfl⟩
        case measure => simp [intOf]; omega
      · have Hs := Lib.hid (ne_of_getElem hlt hlt' he)
        have q1 : decide (l[k] = l'[k]) = false := by simpa using he
        clear he
        go_wp2_with fail
        go_quiet (fail)
        go_wp2_with fail
        go_ret
        exact ⟨ret_b (HE.out false (decide_eq_false Hs.out)).symm, below_drewN (below_drewN hbel _) _⟩
    · obtain rfl : k = l.length := by omega
      have He : Hid (l = l') := by
        have h1 := Hall.out
        rw [List.take_length, List.take_of_length_le (by have := HLEN.out; omega)] at h1
        exact h1
      go_wp2_with fail
      go_ret
      exact ⟨ret_b (HE.out true (decide_eq_true He.out)).symm, below_drewN hbel _⟩

end Go.Proofs.Ytpidgkngefkbeaa
