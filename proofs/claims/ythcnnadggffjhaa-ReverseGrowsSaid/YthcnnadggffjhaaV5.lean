/- What a scheme of layer 6 is: plain facts; Best, Cheapest and Pair at it. -/
import Derived.Test.YthcnnadggffjhaaV1
import Derived.Test.YthcnnadggffjhaaI17
import Derived.Test.YthcnnadggffjhaaI12
set_option linter.unusedVariables false
set_option linter.unusedSimpArgs false
namespace Go.Proofs.Ythcnnadggffjhaa
open Go.RowKit

structure Ok6 (s : Scheme) : Prop where
  m0 : 0 < s.modes
  m2 : s.modes ≤ 2
  ac : s.accept = 1
  n9 : s.rules.length ≤ 10
  fits : ∀ r ∈ s.rules, r.fit s.modes = true
  on : ∀ r ∈ s.rules, 1 ≤ r.inp.size ∨ r.frm < r.dst
theorem baseOf_fit (k : Nat) : ∀ r ∈ (baseOf k).rules, r.fit (baseOf k).modes = true := by
  have h : ∀ j, j < 6 → (baseOf j).rules.all (fun r => r.fit (baseOf j).modes) = true := by decide
  have h5 : ∀ j, 5 ≤ j → baseOf j = baseOf 5 := by
    intro j hj
    unfold baseOf
    match j, hj with
    | j + 5, _ => rfl
  rcases Nat.lt_or_ge k 6 with hk | hk
  · exact fun r hr => by simpa using List.all_eq_true.1 (h k hk) r hr
  · rw [h5 k (by omega)]
    exact fun r hr => by simpa using List.all_eq_true.1 (h 5 (by omega)) r hr
theorem made2_fit (base drop : Nat) (more : List RawRule) : ∀ r ∈ (made2 base drop more).rules, r.fit (made2 base drop more).modes = true := by
  have h : ∀ (m : Nat) (l : List RawRule) {rs : List Rule}, (∀ x ∈ rs, x.fit m = true) → ∀ x ∈ madeRules m rs l, x.fit m = true := by
    intro m l
    induction l with
    | nil => exact fun h => h
    | cons a l ih => exact fun h => ih (pushRule_fit h)
  exact h _ _ fun r hr => baseOf_fit _ r (List.mem_of_mem_drop hr)
theorem made6_ok (base drop : Nat) (more : List RawRule) : Ok6 (made6 base drop more) := by
  have hm : (made2 base drop more).modes = 1 ∨ (made2 base drop more).modes = 2 := baseOf_modes (base % 6)
  have hac : (made2 base drop more).accept = 1 := baseOf_accept (base % 6)
  refine ⟨?_, ?_, hac, ?_, fun r hr => made2_fit base drop more r (List.mem_filter.1 hr).1, fun r hr => ?_⟩
  · show 0 < (made2 base drop more).modes
    omega
  · show (made2 base drop more).modes ≤ 2
    omega
  · exact Nat.le_trans (Nat.le_trans (List.length_filter_le _ _) (made2_len base drop more).2) (by decide)
  · have h := (List.mem_filter.1 hr).2
    unfold keep6 at h
    simp only [Bool.or_eq_true, Bool.not_eq_true', decide_eq_false_iff_not, decide_eq_true_eq] at h
    omega
theorem made6_n9 (base drop : Nat) (more : List RawRule) : (made6 base drop more).rules.length ≤ 9 := Nat.le_trans (List.length_filter_le _ _) (made2_len base drop more).2
section
variable {s : Scheme} (h : Ok6 s)
include h
theorem Ok6.inn : ∀ r ∈ s.rules, r.frm < s.modes ∧ r.dst < s.modes := fun r hr => ⟨(fit_parts (h.fits r hr)).1, (fit_parts (h.fits r hr)).2.1⟩
theorem Ok6.bnd : ∀ r ∈ s.rules, r.inp.size ≤ 4 ∧ r.out.size ≤ 4 ∧ r.cost ≤ 1000 := fun r hr => (fit_parts (h.fits r hr)).2.2
theorem Ok6.hW {n : Nat} (hn : n ≤ 5) : (s.rules.length + 1) ^ (s.modes * (n + 1) - 1) < 1000000000000 := by
  have h1 := h.n9
  have h2 := h.m2
  have h3 : s.modes * (n + 1) ≤ 2 * 6 := Nat.mul_le_mul h2 (by omega)
  have h4 : (s.rules.length + 1) ^ (s.modes * (n + 1) - 1) ≤ 11 ^ (s.modes * (n + 1) - 1) := Nat.pow_le_pow_left (by omega) _
  have h5 : 11 ^ (s.modes * (n + 1) - 1) ≤ 11 ^ 11 := Nat.pow_le_pow_right (by omega) (by omega)
  omega
theorem best6 (A : Option Addr) (c : Nat) (out : ByteArray) (k : Nat) (w : World) (F : Nat → Prop) (hA : RulesAt F w A s.rules) (hot : isText out = true) (ho : out.size ≤ 5) (hk1 : 1 ≤ k) (hk2 : k ≤ 50) :
    Calls Try.prog 12 #[.agg #[.int .i64 s.modes, .int .u8 s.accept, .slice A s.rules.length c], .string out, .int .i64 k] w (BestRes (accB s.accept) s.rules out k w) :=
  best_any (· < w.heap.size) s.modes s.accept A c s.rules out k w (Reads.all hA) (fun b h => h) (by have := h.n9; omega) h.m0 (by have := h.m2; omega) (by have := h.ac; omega) h.inn h.bnd hot hk1 hk2 (h.hW ho)
theorem cheapest6 (A : Option Addr) (c : Nat) (out : ByteArray) (w : World) (F : Nat → Prop) (hA : RulesAt F w A s.rules) (hot : isText out = true) (ho : out.size ≤ 5) :
    Calls Try.prog 14 #[.agg #[.int .i64 s.modes, .int .u8 s.accept, .slice A s.rules.length c], .string out] w (CheapRes (accB s.accept) s.rules out w) :=
  cheapest_any (· < w.heap.size) s.modes s.accept A c s.rules out w (Reads.all hA) (fun b h => h) (by have := h.n9; omega) h.m0 (by have := h.m2; omega) (by have := h.ac; omega) h.inn h.bnd hot (h.hW ho)
theorem pair6 (A : Option Addr) (c : Nat) (inp out : ByteArray) (w : World) (F : Nat → Prop) (hA : RulesAt F w A s.rules) (hil : isLetters inp = true) (hot : isText out = true) :
    Calls Try.prog 16 #[.agg #[.int .i64 s.modes, .int .u8 s.accept, .slice A s.rules.length c], .string inp, .string out] w (PairRes (accB s.accept) s.rules inp out w) :=
  pair_any (· < w.heap.size) s.modes s.accept A c s.rules inp out w (Reads.all hA) (fun b h => h) (by have := h.n9; omega) h.m0 (by have := h.m2; omega) (by have := h.ac; omega) h.inn h.bnd h.on hil hot
end
end Go.Proofs.Ythcnnadggffjhaa
