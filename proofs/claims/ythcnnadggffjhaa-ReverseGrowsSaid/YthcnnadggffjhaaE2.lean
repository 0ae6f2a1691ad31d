/- The walks of cmp.Compare, slices.Compare, end.before and the reference's Before. -/
import Derived.Test.YthcnnadggffjhaaWA
import Derived.Test.YthcnnadggffjhaaLA
import Derived.Test.YthcnnadggffjhaaPA
set_option linter.unusedVariables false
set_option linter.unusedSimpArgs false
namespace Go.Proofs.Ythcnnadggffjhaa
open Go.RowKit

def cmpI (x y : Nat) : Int := if x < y then -1 else if y < x then 1 else 0
theorem nan_any (x : Nat) (w : World) : Calls Try.prog 68 #[.int .i64 x] w fun e w' => e = .returned (.bool false) ∧ w' = w := by
  go_enter Try.func68, Try.ntmps68
  go_wp2
  go_ret
  exact ⟨by simp, rfl⟩
theorem cmp_any (x y : Nat) (w : World) : Calls Try.prog 50 #[.int .i64 x, .int .i64 y] w fun e w' => e = .returned (.int .i64 (cmpI x y)) ∧ w' = w := by
  rcases Nat.lt_trichotomy x y with h | h | h
  · have h1 : (x : Int) < (y : Int) := by omega
    have e : cmpI x y = -1 := by simp [cmpI, h]
    rw [e]
    go_enter Try.func50, Try.ntmps50
    go_wp2_with (go_at_call 68; refine (nan_any _ _).mono ?_; rintro e w2 ⟨rfl, rfl⟩)
    go_ret
    exact ⟨rfl, rfl⟩
  · subst h
    have e : cmpI x x = 0 := by simp [cmpI]
    rw [e]
    go_enter Try.func50, Try.ntmps50
    go_wp2_with (go_at_call 68; refine (nan_any _ _).mono ?_; rintro e w2 ⟨rfl, rfl⟩)
    go_ret
    exact ⟨rfl, rfl⟩
  · have h1 : (y : Int) < (x : Int) := by omega
    have e : cmpI x y = 1 := by simp [cmpI, h]; omega
    rw [e]
    go_enter Try.func50, Try.ntmps50
    go_wp2_with (go_at_call 68; refine (nan_any _ _).mono ?_; rintro e w2 ⟨rfl, rfl⟩)
    go_ret
    exact ⟨rfl, rfl⟩

def cmpL : List Nat → List Nat → Int
  | a :: l, b :: m => if cmpI a b = 0 then cmpL l m else cmpI a b
  | _, _ => 0
theorem cmpL_lex : ∀ l m : List Nat, cmpL l m < 0 ↔ lexB l m = true
  | [], m => by cases m <;> simp [cmpL, lexB]
  | a :: l, [] => by simp [cmpL, lexB]
  | a :: l, b :: m => by
    simp only [cmpL, lexB]
    by_cases h1 : a < b
    · have e : cmpI a b = -1 := by simp [cmpI, h1]
      simp [e, h1]
    · by_cases h2 : b < a
      · have e : cmpI a b = 1 := by simp [cmpI, h1, h2]
        have h3 : ¬ a = b := by omega
        simp [e, h1, h3]
      · have e : cmpI a b = 0 := by simp [cmpI, h1, h2]
        have h3 : a = b := by omega
        rw [if_pos e, cmpL_lex l m]
        simp [h3]
theorem cmpL_drop {l m : List Nat} {k : Nat} (h : cmpL l m = cmpL (l.drop k) (m.drop k)) (h1 : k < l.length) (h2 : k < m.length) : cmpL l m = if cmpI l[k] m[k] = 0 then cmpL (l.drop (k + 1)) (m.drop (k + 1)) else cmpI l[k] m[k] := by
  rw [h, List.drop_eq_getElem_cons h1, List.drop_eq_getElem_cons h2]; rfl

set_option maxHeartbeats 1000000 in
set_option maxRecDepth 100000 in
theorem compare_any (F G : Nat → Prop) (A B : Option Addr) (c d : Nat) (l m : List Nat) (w : World) (hA : SlAt vN F w A l) (hB : SlAt vN G w B m) (hlen : l.length = m.length) (hl : l.length < 1000000) :
    Calls Try.prog 86 #[.slice A l.length c, .slice B m.length d] w fun e w' => e = .returned (.int .i64 (cmpL l m)) ∧ w' = w := by
  have hle : (m.length : Int) ≤ (l.length : Int) := by omega
  have HLEN := Lib.hid hlen
  clear hlen
  go_enter Try.func86, Try.ntmps86
  go_wp2_with fail
  go_loopw [11] (fun x wr => ∃ k : Nat, k ≤ l.length ∧ x = .int .i64 k ∧ cmpL l m = cmpL (l.drop k) (m.drop k) ∧ wr = w) (fun x _ => l.length - (intOf x).toNat)
  case atStart => exact ⟨0, Nat.zero_le _, rfl, rfl, rfl⟩
  case round =>
    obtain ⟨k, hk, rfl, heq, rfl⟩ := hrel
    by_cases hkl : k < l.length
    · have hkm : k < m.length := by have := HLEN.out; omega
      obtain ⟨b1, o1, rfl, hF1, hl1, e1⟩ := hA.at_ hkl
      obtain ⟨b2, o2, rfl, hF2, hl2, e2⟩ := hB.at_ hkm
      have hstep := cmpL_drop heq hkl hkm
      obtain ⟨x, hx⟩ : ∃ x, x = l[k] := ⟨_, rfl⟩
      obtain ⟨y, hy⟩ : ∃ y, y = m[k] := ⟨_, rfl⟩
      rw [← hx, ← hy] at hstep
      rw [← hx] at e1
      rw [← hy] at e2
      have f1 : wr.cell? ⟨b1, o1 + k, none⟩ = some (.int .i64 x) := e1
      have f2 : wr.cell? ⟨b2, o2 + k, none⟩ = some (.int .i64 y) := e2
      have hkm' : (k : Int) < (m.length : Int) := by omega
      have HS := Lib.hid hstep
      clear e1 e2 hx hy hstep heq hle
      by_cases hc : cmpI x y = 0
      · have hd : (cmpI x y != 0) = false := by simp [hc]
        have HN : Hid (cmpL l m = cmpL (l.drop (k + 1)) (m.drop (k + 1))) := by have h := HS.out; rw [if_pos hc] at h; exact h
        clear hc
        go_wp2_with (go_at_call 50; refine (cmp_any x y _).mono ?_; rintro e w2 ⟨rfl, rfl⟩)
        go_roundw
        case rel => exact ⟨k + 1, by omega, by go_num, HN.out, trivial⟩
        case measure => simp [intOf]; omega
      · have hd : (cmpI x y != 0) = true := by simp [hc]
        have HN : Hid (cmpL l m = cmpI x y) := by have h := HS.out; rw [if_neg hc] at h; exact h
        clear hc
        go_wp2_with (go_at_call 50; refine (cmp_any x y _).mono ?_; rintro e w2 ⟨rfl, rfl⟩)
        go_ret
        exact ⟨by rw [HN.out]; rfl, rfl⟩
    · obtain rfl : k = l.length := by omega
      have HN : Hid (cmpL l m = 0) := by rw [heq, List.drop_length]; exact rfl
      clear heq
      go_wp2
      go_ret
      exact ⟨by rw [HN.out]; rfl, rfl⟩

end Go.Proofs.Ythcnnadggffjhaa
