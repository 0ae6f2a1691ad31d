/- The walk of the reference of layer 6: Same. -/
import Derived.Test.YthcnnadggffjhaaI10
import Derived.Test.YthcnnadggffjhaaW10
set_option linter.unusedVariables false
set_option linter.unusedSimpArgs false
namespace Go.Proofs.Ythcnnadggffjhaa
open Go.RowKit

theorem resCells_len (vs : List (ByteArray × Nat)) : (vs.flatMap resCells).length = vs.length * 2 := by
  induction vs with
  | nil => rfl
  | cons r rs ih => simp [resCells, ih]; omega
theorem resCells_at (vs : List (ByteArray × Nat)) (k : Nat) (hk : k < vs.length) (j : Nat) (hj : j < 2) : (vs.flatMap resCells)[k * 2 + j]? = (resCells vs[k])[j]? := by
  induction vs generalizing k with
  | nil => simp at hk
  | cons r rs ih =>
    cases k with
    | zero =>
      simp only [List.flatMap_cons, Nat.zero_mul, Nat.zero_add, List.getElem_cons_zero]
      rw [List.getElem?_append_left (by simp [resCells]; omega)]
    | succ k =>
      simp only [List.flatMap_cons, List.getElem_cons_succ]
      rw [List.getElem?_append_right (by simp [resCells]; omega)]
      rw [show (k + 1) * 2 + j - (resCells r).length = k * 2 + j from by simp [resCells]; omega]
      exact ih k (by simpa using hk)
/-- a slice of results -/
def ResAt (F : Nat → Prop) (w : World) (A : Option Addr) (l : List (ByteArray × Nat)) : Prop := Reads F w A (l.flatMap resCells)
theorem ResAt.got {F : Nat → Prop} {w : World} {b o : Nat} {vs : List (ByteArray × Nat)} (h : ResAt F w (some ⟨b, o, none⟩) vs) {k : Nat} {p : ByteArray × Nat} (hk : vs[k]? = some p) :
    F b ∧ b < w.heap.size ∧ w.cell? ⟨b, o + k * 2, none⟩ = some (.string p.1) ∧ w.cell? ⟨b, o + k * 2 + 1, none⟩ = some (.int .i64 p.2) := by
  obtain ⟨hk1, rfl⟩ := List.getElem?_eq_some_iff.1 hk
  have hl := resCells_len vs
  obtain ⟨b', o', e, hf, hb, hc⟩ := h (by intro h0; rw [h0] at hl; simp at hl; omega)
  injection e with e
  injection e with e1 e2
  subst e1 e2
  have hat := fun j hj => resCells_at vs k hk1 j hj
  refine ⟨hf, hb, ?_, ?_⟩
  · exact hc (k * 2 + 0) _ (by rw [hat 0 (by omega)]; rfl)
  · rw [Nat.add_assoc]; exact hc (k * 2 + 1) _ (by rw [hat 1 (by omega)]; rfl)
theorem res_eq_parts (r s : ByteArray × Nat) : decide (r = s) = (decide (r.1 = s.1) && decide (r.2 = s.2)) := by
  obtain ⟨a, b⟩ := r
  obtain ⟨a', b'⟩ := s
  simp only [Prod.mk.injEq, Bool.decide_and]
theorem res_equalIn (r s : ByteArray × Nat) (w : World) :
    (Op.equalIn 10000 46 (.agg #[.string r.1, .int .i64 r.2]) (.agg #[.string s.1, .int .i64 s.2])).run Try.prog w = .ok (decide (r = s)) w := by
  have u3 := Try.underlying3
  have a3 := Try.isAgg3
  have z3 := Try.sizeOf3
  have u9 := Try.underlying9
  have a9 := Try.isAgg9
  have z9 := Try.sizeOf9
  rw [show (10000 : Nat) = 9999 + 1 from rfl, run_equalIn_agg w 9999 46 _ _ (by kernel_rfl) (by kernel_rfl)]
  simp only [Program.fieldsOf, Try.underlying46]
  go_simp
  simp only [bytes_beq, natcast_beq, res_eq_parts]
  have h3' := bytes_iff r.1 s.1
  by_cases h1 : r.1 = s.1 <;> by_cases h2 : r.2 = s.2 <;> simp [h1, h2, h3', Int.natCast_inj]
@[go_sem high] theorem res_eql (r s : ByteArray × Nat) (w : World) :
    (binOp .eql 46 (.agg #[.string r.1, .int .i64 r.2]) (.agg #[.string s.1, .int .i64 s.2])).run Try.prog w = .ok (.bool (decide (r = s))) w := by
  rw [run_eql_struct, res_equalIn, Result.andThen_ok]
@[go_sem high] theorem res_neq (r s : ByteArray × Nat) (w : World) :
    (binOp .neq 46 (.agg #[.string r.1, .int .i64 r.2]) (.agg #[.string s.1, .int .i64 s.2])).run Try.prog w = .ok (.bool (!decide (r = s))) w := by
  rw [run_neq_struct, res_equalIn, Result.andThen_ok]
@[go_sem] theorem res_eqGuard : Try.prog.eqGuardType Try.prog.depth 46 = false := by kernel_rfl
set_option maxHeartbeats 1000000 in
set_option maxRecDepth 100000 in
theorem same6_any (F G : Nat → Prop) (A A' : Option Addr) (c c' : Nat) (l l' : List (ByteArray × Nat)) (w : World) (hL : ResAt F w A l) (hL' : ResAt G w A' l') (hl : l.length ≤ 100000) (hl' : l'.length ≤ 100000) :
    Calls Try.prog 18 #[.slice A l.length c, .slice A' l'.length c'] w fun e w' => e = .returned (.bool (decide (l = l'))) ∧ Below w.heap.size w w' := by
  by_cases hlen : l.length = l'.length
  · have hd : ((l.length : Int) == (l'.length : Int)) = true := by simp; omega
    have hd2 : ((l.length : Int) != (l'.length : Int)) = false := by simp; omega
    have HLEN := Lib.hid hlen
    clear hlen
    go_enter Try.func18, Try.ntmps18
    go_wp2_with fail
    clear hd hd2
    go_loopw [5] (fun x wr => ∃ k : Nat, k ≤ l.length ∧ x = .int .i64 k ∧ l.take k = l'.take k ∧ ∃ n, wr = w.drewN n) (fun x _ => l.length - (intOf x).toNat)
    case atStart => exact ⟨0, Nat.zero_le _, rfl, by simp, 0, rfl⟩
    case round =>
      obtain ⟨k, hk, rfl, hall, n, rfl⟩ := hrel
      have Hall := Lib.hid hall
      clear hall
      by_cases hlt : k < l.length
      · have hlt' : k < l'.length := by have := HLEN.out; omega
        obtain ⟨r, hr⟩ : ∃ r, l[k]? = some r := ⟨_, List.getElem?_eq_getElem hlt⟩
        obtain ⟨s, hs⟩ : ∃ s, l'[k]? = some s := ⟨_, List.getElem?_eq_getElem hlt'⟩
        obtain ⟨b, o, rfl⟩ := Reads.some_ hL (by rw [resCells_len]; omega)
        obtain ⟨b', o', rfl⟩ := Reads.some_ hL' (by rw [resCells_len]; omega)
        obtain ⟨_, hbl, y0, y1⟩ := ResAt.got hL hr
        obtain ⟨_, hbl', z0, z1⟩ := ResAt.got hL' hs
        have hkl : (k : Int) < (l.length : Int) := by omega
        have hkl' : (k : Int) < (l'.length : Int) := by omega
        have hk0 : (0 : Int) ≤ (k : Int) := by omega
        by_cases he : r = s
        · have Hs := Lib.hid (take_eq_step Hall.out hlt hlt' (by rw [List.getElem?_eq_getElem hlt] at hr; rw [List.getElem?_eq_getElem hlt'] at hs; injection hr with hr; injection hs with hs; rw [hr, hs, he]))
          have q1 : decide (r = s) = true := decide_eq_true he
          clear he hr hs
          go_wp2_with fail
          go_quiet (fail)
          go_wp2_with fail
          go_roundw
          case rel => exact ⟨k + 1, by omega, by go_num, Hs.out, _, rfl⟩
          case measure => simp [intOf]; omega
        · have Hs := Lib.hid (ne_of_getElem (l := l) (l' := l') hlt hlt' (by rw [List.getElem?_eq_getElem hlt] at hr; rw [List.getElem?_eq_getElem hlt'] at hs; injection hr with hr; injection hs with hs; rw [hr, hs]; exact he))
          have q1 : decide (r = s) = false := decide_eq_false he
          clear he hr hs
          go_wp2_with fail
          go_quiet (fail)
          go_wp2_with fail
          go_ret
          exact ⟨ret_b (by rw [decide_eq_false Hs.out]), below_drewN (below_drewN (Below.refl _ _) _) _⟩
      · obtain rfl : k = l.length := by omega
        have He : Hid (l = l') := by
          have h1 := Hall.out
          rw [List.take_length, List.take_of_length_le (by have := HLEN.out; omega)] at h1
          exact h1
        go_wp2_with fail
        go_ret
        exact ⟨ret_b (by rw [decide_eq_true He.out]), below_drewN (Below.refl _ _) _⟩
  · have hd : ((l.length : Int) == (l'.length : Int)) = false := by simp; omega
    have hd2 : ((l.length : Int) != (l'.length : Int)) = true := by simp; omega
    have Hs : Hid (¬ l = l') := by intro h; exact hlen (by rw [h])
    clear hlen
    go_enter Try.func18, Try.ntmps18
    go_wp2_with fail
    go_ret
    exact ⟨ret_b (by rw [decide_eq_false Hs.out]), Below.refl _ _⟩
end Go.Proofs.Ythcnnadggffjhaa
