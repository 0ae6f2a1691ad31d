/- The walks of cmp.Compare, slices.Compare, end.before and the reference's Before. -/
import Derived.Test.YtpidgkngefkbeaaWA
import Derived.Test.YtpidgkngefkbeaaLA
import Derived.Test.YtpidgkngefkbeaaPA
set_option linter.unusedVariables false
set_option linter.unusedSimpArgs false
namespace Go.Proofs.Ytpidgkngefkbeaa
open Go.RowKit

def cmpI (x y : Nat) : Int := if x < y then -1 else if y < x then 1 else 0
theorem nan_any (x : Nat) (w : World) : Calls Try.prog 48 #[.int .i64 x] w fun e w' => e = .returned (.bool false) ∧ w' = w := by
  go_enter Try.func48, Try.ntmps48
  go_wp2
  go_ret
  exact ⟨by simp, rfl⟩
theorem cmp_any (x y : Nat) (w : World) : Calls Try.prog 47 #[.int .i64 x, .int .i64 y] w fun e w' => e = .returned (.int .i64 (cmpI x y)) ∧ w' = w := by
  rcases Nat.lt_trichotomy x y with h | h | h
  · have h1 : (x : Int) < (y : Int) := by omega
    have e : cmpI x y = -1 := by simp [cmpI, h]
    rw [e]
    go_enter Try.func47, Try.ntmps47
    go_wp2_with (go_at_call 48; refine (nan_any _ _).mono ?_; rintro e w2 ⟨rfl, rfl⟩)
    go_ret
    exact ⟨rfl, rfl⟩
  · subst h
    have e : cmpI x x = 0 := by simp [cmpI]
    rw [e]
    go_enter Try.func47, Try.ntmps47
    go_wp2_with (go_at_call 48; refine (nan_any _ _).mono ?_; rintro e w2 ⟨rfl, rfl⟩)
    go_ret
    exact ⟨rfl, rfl⟩
  · have h1 : (y : Int) < (x : Int) := by omega
    have e : cmpI x y = 1 := by simp [cmpI, h]; omega
    rw [e]
    go_enter Try.func47, Try.ntmps47
    go_wp2_with (go_at_call 48; refine (nan_any _ _).mono ?_; rintro e w2 ⟨rfl, rfl⟩)
    go_ret
    exact ⟨rfl, rfl⟩

def cmpL : List Nat → List Nat → Int
  | a :: l, b :: m => if cmpI a b = 0 then cmpL l m else cmpI a b
  | _, _ => 0
theorem cmpL_lex : ∀ l m : List Nat, cmpL l m < 0 ↔ lexB l m = true
  | [], m => by cases m <;> simp [cmpL, lexB]
  | a :: l, [] => by simp [cmpL, lexB]
  | a :: l, b :: m => by
    simp only [cmpL, lexB]
    by_cases h1 : a < b
    · have e : cmpI a b = -1 := by simp [cmpI, h1]
      simp [e, h1]
    · by_cases h2 : b < a
      · have e : cmpI a b = 1 := by simp [cmpI, h1, h2]
        have h3 : ¬ a = b := by omega
        simp [e, h1, h3]
      · have e : cmpI a b = 0 := by simp [cmpI, h1, h2]
        have h3 : a = b := by omega
        rw [if_pos e, cmpL_lex l m]
        simp [h3]
theorem cmpL_drop {l m : List Nat} {k : Nat} (h : cmpL l m = cmpL (l.drop k) (m.drop k)) (h1 : k < l.length) (h2 : k < m.length) : cmpL l m = if cmpI l[k] m[k] = 0 then cmpL (l.drop (k + 1)) (m.drop (k + 1)) else cmpI l[k] m[k] := by
  rw [h, List.drop_eq_getElem_cons h1, List.drop_eq_getElem_cons h2]; rfl

set_option maxHeartbeats 1000000 in
theorem compare_any (F G : Nat → Prop) (A B : Option Addr) (c d : Nat) (l m : List Nat) (w : World) (hA : SlAt vN F w A l) (hB : SlAt vN G w B m) (hlen : l.length = m.length) (hl : l.length < 1000000) :
    Calls Try.prog 45 #[.slice A l.length c, .slice B m.length d] w fun e w' => e = .returned (.int .i64 (cmpL l m)) ∧ w' = w := by
  have hle : (m.length : Int) ≤ (l.length : Int) := by omega
  have HLEN := Lib.hid hlen
  clear hlen
  go_enter Try.func45, Try.ntmps45
  go_wp2_with fail
  go_loopw [11] (fun x wr => ∃ k : Nat, k ≤ l.length ∧ x = .int .i64 k ∧ cmpL l m = cmpL (l.drop k) (m.drop k) ∧ wr = w) (fun x _ => l.length - (intOf x).toNat)
  case atStart => exact ⟨0, Nat.zero_le _, rfl, rfl, rfl⟩
  case round =>
    obtain ⟨k, hk, rfl, heq, rfl⟩ := hrel
    by_cases hkl : k < l.length
    · have hkm : k < m.length := by have := HLEN.out; omega
      obtain ⟨b1, o1, rfl, hF1, hl1, e1⟩ := hA.at_ hkl
      obtain ⟨b2, o2, rfl, hF2, hl2, e2⟩ := hB.at_ hkm
      have hstep := cmpL_drop heq hkl hkm
      obtain ⟨x, hx⟩ : ∃ x, x = l[k] := ⟨_, rfl⟩
      obtain ⟨y, hy⟩ : ∃ y, y = m[k] := ⟨_, rfl⟩
      rw [← hx, ← hy] at hstep
      rw [← hx] at e1
      rw [← hy] at e2
      have f1 : wr.cell? ⟨b1, o1 + k, none⟩ = some (.int .i64 x) := e1
      have f2 : wr.cell? ⟨b2, o2 + k, none⟩ = some (.int .i64 y) := e2
      have hkm' : (k : Int) < (m.length : Int) := by omega
      have HS := Lib.hid hstep
      clear e1 e2 hx hy hstep heq hle
      by_cases hc : cmpI x y = 0
      · have hd : (cmpI x y != 0) = false := by simp [hc]
        have HN : Hid (cmpL l m = cmpL (l.drop (k + 1)) (m.drop (k + 1))) := by have h := HS.out; rw [if_pos hc] at h; exact h
        clear hc
        go_wp2_with (go_at_call 47; refine (cmp_any x y _).mono ?_; rintro e w2 ⟨rfl, rfl⟩)
        go_roundw
        case rel => exact ⟨k + 1, by omega, by go_num, HN.out, trivial⟩
        case measure => simp [intOf]; omega
      · have hd : (cmpI x y != 0) = true := by simp [hc]
        have HN : Hid (cmpL l m = cmpI x y) := by have h := HS.out; rw [if_neg hc] at h; exact h
        clear hc
        go_wp2_with (go_at_call 47; refine (cmp_any x y _).mono ?_; rintro e w2 ⟨rfl, rfl⟩)
        go_ret
        exact ⟨by rw [HN.out]; rfl, rfl⟩
    · obtain rfl : k = l.length := by omega
      have HN : Hid (cmpL l m = 0) := by rw [heq, List.drop_length]; exact rfl
      clear heq
      go_wp2
      go_ret
      exact ⟨by rw [HN.out]; rfl, rfl⟩

set_option maxHeartbeats 1000000 in
theorem before_any (F G : Nat → Prop) (A B : Option Addr) (c d : Nat) (e f : EndR) (w : World) (hA : SlAt vN F w A e.l) (hB : SlAt vN G w B f.l) (hl : e.l.length < 1000000) :
    Calls Try.prog 37 #[.agg #[.slice A e.l.length c, .int .i64 e.cost], .agg #[.slice B f.l.length d, .int .i64 f.cost]] w fun x w' => x = .returned (.bool (e.before f)) ∧ Below w.heap.size w w' := by
  obtain ⟨l, cost⟩ := e
  obtain ⟨l', cost'⟩ := f
  simp only at hA hB hl ⊢
  have hb2 : ∀ (C1 C2 : Array Value) (T1 T2 : TypeId), Below w.heap.size w ((w.alloc (.cells C1 T1)).alloc (.cells C2 T2)) := fun C1 C2 T1 T2 => ((Below.refl _ _).alloc (Nat.le_refl _) _).alloc (by simp) _
  by_cases h1 : cost = cost'
  · have d1 : ((cost : Int) != (cost' : Int)) = false := by simp [h1]
    have d1' : ((cost : Int) == (cost' : Int)) = true := by simp [h1]
    by_cases h2 : l.length = l'.length
    · have d2 : ((l.length : Int) != (l'.length : Int)) = false := by simp [h2]
      have d2' : ((l.length : Int) == (l'.length : Int)) = true := by simp [h2]
      have e1 : EndR.before ⟨l, cost⟩ ⟨l', cost'⟩ = lexB l l' := by simp [EndR.before, h1, h2]
      rw [e1]
      have H2 := Lib.hid h2
      have H1 := Lib.hid h1
      clear h1 h2 e1
      go_enter Try.func37, Try.ntmps37
      go_wp2_with (go_at_call 45; refine (compare_any F G A B c d l l' _ (Reads.below hA (hb2 _ _ _ _)) (Reads.below hB (hb2 _ _ _ _)) H2.out hl).mono ?_; rintro e w2 ⟨rfl, rfl⟩)
      go_ret
      exact ⟨ret_b (by rcases hh : lexB l l' with _ | _; · rw [decide_eq_false]; rw [cmpL_lex, hh]; simp
                       · rw [decide_eq_true]; rw [cmpL_lex, hh]), hb2 _ _ _ _⟩
    · have d2 : ((l.length : Int) != (l'.length : Int)) = true := by simp; omega
      have d2' : ((l.length : Int) == (l'.length : Int)) = false := by simp; omega
      have e1 : EndR.before ⟨l, cost⟩ ⟨l', cost'⟩ = decide (l.length < l'.length) := by simp [EndR.before, h1, h2]
      rw [e1]
      clear h1 h2 e1
      go_enter Try.func37, Try.ntmps37
      go_wp2
      go_ret
      exact ⟨ret_b (by simp), hb2 _ _ _ _⟩
  · have d1 : ((cost : Int) != (cost' : Int)) = true := by simp; omega
    have d1' : ((cost : Int) == (cost' : Int)) = false := by simp; omega
    have e1 : EndR.before ⟨l, cost⟩ ⟨l', cost'⟩ = decide (cost < cost') := by simp [EndR.before, h1]
    rw [e1]
    clear h1 e1
    go_enter Try.func37, Try.ntmps37
    go_wp2
    go_ret
    exact ⟨ret_b (by simp), hb2 _ _ _ _⟩
end Go.Proofs.Ytpidgkngefkbeaa
