/- The walks of slices.Index and slices.Contains at spots. -/
import Derived.Test.YthcnnadggffjhaaI7
import Derived.Test.YthcnnadggffjhaaQ1
set_option linter.unusedVariables false
set_option linter.unusedSimpArgs false
namespace Go.Proofs.Ythcnnadggffjhaa
open Go.RowKit

def spotCells (s : Nat × Nat) : List Value := [.int .i64 s.1, .int .i64 s.2]
theorem spotCells_len (vs : List (Nat × Nat)) : (vs.flatMap spotCells).length = vs.length * 2 := by
  induction vs with
  | nil => rfl
  | cons r rs ih => simp [spotCells, ih]; omega
theorem spotCells_at (vs : List (Nat × Nat)) (k : Nat) (hk : k < vs.length) (j : Nat) (hj : j < 2) : (vs.flatMap spotCells)[k * 2 + j]? = (spotCells vs[k])[j]? := by
  induction vs generalizing k with
  | nil => simp at hk
  | cons r rs ih =>
    cases k with
    | zero =>
      simp only [List.flatMap_cons, Nat.zero_mul, Nat.zero_add, List.getElem_cons_zero]
      rw [List.getElem?_append_left (by simp [spotCells]; omega)]
    | succ k =>
      simp only [List.flatMap_cons, List.getElem_cons_succ]
      rw [List.getElem?_append_right (by simp [spotCells]; omega)]
      rw [show (k + 1) * 2 + j - (spotCells r).length = k * 2 + j from by simp [spotCells]; omega]
      exact ih k (by simpa using hk)
/-- a slice of spots -/
def SpotsAt (F : Nat → Prop) (w : World) (A : Option Addr) (l : List (Nat × Nat)) : Prop := Reads F w A (l.flatMap spotCells)
theorem SpotsAt.got {F : Nat → Prop} {w : World} {b o : Nat} {vs : List (Nat × Nat)} (h : SpotsAt F w (some ⟨b, o, none⟩) vs) {k : Nat} {p : Nat × Nat} (hk : vs[k]? = some p) :
    F b ∧ b < w.heap.size ∧ w.cell? ⟨b, o + k * 2, none⟩ = some (.int .i64 p.1) ∧ w.cell? ⟨b, o + k * 2 + 1, none⟩ = some (.int .i64 p.2) := by
  obtain ⟨hk1, rfl⟩ := List.getElem?_eq_some_iff.1 hk
  have hl := spotCells_len vs
  obtain ⟨b', o', e, hf, hb, hc⟩ := h (by intro h0; rw [h0] at hl; simp at hl; omega)
  injection e with e
  injection e with e1 e2
  subst e1 e2
  have hat := fun j hj => spotCells_at vs k hk1 j hj
  refine ⟨hf, hb, ?_, ?_⟩
  · exact hc (k * 2 + 0) _ (by rw [hat 0 (by omega)]; rfl)
  · rw [Nat.add_assoc]; exact hc (k * 2 + 1) _ (by rw [hat 1 (by omega)]; rfl)
set_option maxHeartbeats 2000000 in
set_option maxRecDepth 100000 in
theorem spotIndex_any (F : Nat → Prop) (A : Option Addr) (c : Nat) (l : List (Nat × Nat)) (x : Nat × Nat) (w : World) (hA : SpotsAt F w A l) (hn : l.length ≤ 1000000) :
    Calls Try.prog 52 #[.slice A l.length c, .agg #[.int .i64 x.1, .int .i64 x.2]] w fun e w' => (∃ i : Int, e = .returned (.int .i64 i) ∧ (x ∈ l → 0 ≤ i) ∧ (x ∉ l → i = -1)) ∧ Below w.heap.size w w' := by
  obtain ⟨x1, x2⟩ := x
  simp only
  go_enter Try.func52, Try.ntmps52
  go_upto_region 1 with (fail)
  refine world_gen (fun W => Below w.heap.size w W ∧ Blk W w.heap.size 73 #[.int .i64 x1, .int .i64 x2]) ⟨below_one _ _, Blk.new _ _ _⟩ ?_
  rintro W ⟨hbel, b0⟩
  have H0 := Lib.hid (And.intro hbel b0)
  clear hbel b0
  go_wp2_with fail
  go_loopw [8] (fun z wr => ∃ k : Nat, k ≤ l.length ∧ z = .int .i64 k ∧ (x1, x2) ∉ l.take k ∧ Below w.heap.size w wr ∧ Blk wr w.heap.size 73 #[.int .i64 x1, .int .i64 x2]) (fun z _ => l.length - (intOf z).toNat)
  case atStart => exact ⟨0, Nat.zero_le _, rfl, by simp, H0.out.1, H0.out.2⟩
  case round =>
    clear H0 W
    obtain ⟨k, hk, rfl, hno, hbel, b0⟩ := hrel
    have y0 : wr.cell? ⟨w.heap.size, 0, none⟩ = some (.int .i64 x1) := b0.cell 0
    have y1 : wr.cell? ⟨w.heap.size, 1, none⟩ = some (.int .i64 x2) := b0.cell 1
    have hl0 := b0.lt
    have HB := Lib.hid hbel
    have HB0 := Lib.hid b0
    have HNO := Lib.hid hno
    by_cases hkl : k < l.length
    · obtain ⟨p, hp⟩ : ∃ p, l[k]? = some p := ⟨_, List.getElem?_eq_getElem hkl⟩
      have hA2 := Reads.below hA (hbel.mono (Nat.le_refl _))
      obtain ⟨bv, ov, rfl⟩ := Reads.some_ hA (by rw [spotCells_len]; omega)
      obtain ⟨_, hbv, z0, z1⟩ := SpotsAt.got hA2 hp
      obtain ⟨p1, p2⟩ := p
      have hk1 : (0 : Int) ≤ (k : Int) := by omega
      have hk2 : (k : Int) < (l.length : Int) := by omega
      have HP := Lib.hid hp
      clear hp hA2 hbel b0 hno
      by_cases hx : x1 = p1 ∧ x2 = p2
      · obtain ⟨rfl, rfl⟩ := hx
        have hin : (x1, x2) ∈ l := List.mem_of_getElem? HP.out
        have HIN := Lib.hid hin
        clear hin
        go_wp2_with fail
        go_quiet (fail)
        go_wp2_with fail
        go_ret
        exact ⟨⟨k, rfl, fun _ => hk1, fun h => absurd HIN.out h⟩, below_drewN HB.out _⟩
      · have hne : (((x1 : Int) == (p1 : Int)) && ((x2 : Int) == (p2 : Int))) = false := by
          rw [Bool.and_eq_false_iff]
          simp only [beq_eq_false_iff_ne]
          omega
        have hno2 : (x1, x2) ∉ l.take (k + 1) := by
          rw [List.take_add_one, HP.out]
          simp only [Option.toList_some, List.mem_append, List.mem_singleton, not_or]
          exact ⟨HNO.out, fun h => hx (by injection h with h1 h2; exact ⟨h1, h2⟩)⟩
        have HNO2 := Lib.hid hno2
        clear hno2
        by_cases hx1 : x1 = p1
        · have q1 : ((x1 : Int) == (p1 : Int)) = true := by simp [hx1]
          have q2 : ((x2 : Int) == (p2 : Int)) = false := by simp; omega
          clear hx hx1 hne
          go_wp2_with fail
          go_quiet (fail)
          go_wp2_with fail
          go_roundw
          case rel => exact ⟨k + 1, by omega, by go_num, HNO2.out, below_drewN HB.out _, HB0.out.drewN _⟩
          case measure => simp [intOf]; omega
        · have q1 : ((x1 : Int) == (p1 : Int)) = false := by simp; omega
          clear hx hx1 hne
          go_wp2_with fail
          go_quiet (fail)
          go_wp2_with fail
          go_roundw
          case rel => exact ⟨k + 1, by omega, by go_num, HNO2.out, below_drewN HB.out _, HB0.out.drewN _⟩
          case measure => simp [intOf]; omega
    · clear hbel b0 hno
      go_wp2_with fail
      go_ret
      exact ⟨⟨-1, rfl, fun h => absurd (by rw [List.take_of_length_le (by omega)]; exact h) HNO.out, fun _ => rfl⟩, HB.out⟩
set_option maxHeartbeats 1000000 in
theorem spotHas_any (F : Nat → Prop) (A : Option Addr) (c : Nat) (l : List (Nat × Nat)) (x : Nat × Nat) (w : World) (hA : SpotsAt F w A l) (hn : l.length ≤ 1000000) :
    Calls Try.prog 35 #[.slice A l.length c, .agg #[.int .i64 x.1, .int .i64 x.2]] w fun e w' => e = .returned (.bool (decide (x ∈ l))) ∧ Below w.heap.size w w' := by
  have HN := Lib.hid hn
  go_enter Try.func35, Try.ntmps35
  go_wp2_with fail
  refine (spotIndex_any F A c l x _ (Reads.below hA (below_one _ _)) HN.out).mono ?_
  rintro e w2 ⟨⟨i, rfl, hi1, hi2⟩, hb2⟩
  have HB := Lib.hid ((below_one w (.cells #[.int .i64 x.1, .int .i64 x.2] 73)).trans (hb2.mono (by simp)))
  have hb : (decide (0 ≤ i)) = decide (x ∈ l) := by
    rw [decide_eq_decide]
    constructor
    · intro h
      by_cases hx : x ∈ l
      · exact hx
      · have := hi2 hx; omega
    · exact hi1
  have HBQ := Lib.hid hb
  clear hi1 hi2 hb2 hb
  go_wp2_with fail
  go_ret
  exact ⟨ret_b (by rw [← HBQ.out]), HB.out⟩
theorem spotHas_n (F : Nat → Prop) (A : Option Addr) (c n : Nat) (l : List (Nat × Nat)) (x : Nat × Nat) (w : World) (hA : SpotsAt F w A l) (hn : n ≤ 1000000) (hl : l.length = n) :
    Calls Try.prog 35 #[.slice A n c, .agg #[.int .i64 x.1, .int .i64 x.2]] w fun e w' => e = .returned (.bool (decide (x ∈ l))) ∧ Below w.heap.size w w' := by
  subst hl
  exact spotHas_any F A c l x w hA hn
end Go.Proofs.Ythcnnadggffjhaa
