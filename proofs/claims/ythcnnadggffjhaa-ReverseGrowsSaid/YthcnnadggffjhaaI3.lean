/- The walks of the search for a place in the queue, push and pop. -/
import Derived.Test.YthcnnadggffjhaaI1
import Derived.Test.YthcnnadggffjhaaI2
set_option linter.unusedVariables false
set_option linter.unusedSimpArgs false
namespace Go.Proofs.Ythcnnadggffjhaa
open Go.RowKit

theorem Blk.partIs {w : World} {b : Nat} {p : PartV} (h : Blk w b 76 p.cells.toArray) :
    w.cell? ⟨b, 0, none⟩ = some (.string p.inp) ∧ w.cell? ⟨b, 1, none⟩ = some (.int .i64 p.cost) ∧ w.cell? ⟨b, 2, none⟩ = some (.slice p.a p.n p.c) ∧ b < w.heap.size := ⟨h.cell 0, h.cell 1, h.cell 2, h.lt⟩
set_option maxHeartbeats 1000000 in
theorem pushCmp_any (p q : PartV) (w : World) (hp : p.inp.size ≤ 1000000) (hq : q.inp.size ≤ 1000000) :
    Calls Try.prog 54 #[p.agg, q.agg] w fun e w' => e = .returned (.int .i64 (q.key p)) ∧ Below w.heap.size w w' := by
  go_enter Try.func54, Try.ntmps54
  go_upto_region 1 with (fail)
  refine world_gen (fun W => Below w.heap.size w W ∧ Blk W w.heap.size 76 p.cells.toArray ∧ Blk W (w.heap.size + 1) 76 q.cells.toArray)
    ⟨((Below.refl _ _).alloc (Nat.le_refl _) _).alloc (by simp) _, (Blk.new _ _ _).alloc _, Blk.new2 _ _ _ _⟩ ?_
  rintro W ⟨hbel, b0, b1⟩
  obtain ⟨x0, x1, x2, hl0⟩ := b0.partIs
  obtain ⟨y0, y1, y2, hl1⟩ := b1.partIs
  have HB := Lib.hid hbel
  clear hbel b0 b1
  go_wp2_with fail
  refine (partCompare_any q p _ hq hp).mono ?_
  rintro e w2 ⟨rfl, hb2⟩
  go_wp2_with fail
  go_ret
  exact ⟨rfl, HB.out.trans (hb2.mono HB.out.size)⟩

/-- a row of parts of the call's own -/
def RowP (base : Nat) (w : World) (A : Option Addr) (c : Nat) (vs : List PartV) : Prop := w.ownsRow base 76 3 (.slice A vs.length c) vs.length (vs.flatMap PartV.cells)
theorem RowP.reads {base : Nat} {w : World} {A : Option Addr} {c : Nat} {vs : List PartV} (h : RowP base w A c vs) : Reads (base ≤ ·) w A (vs.flatMap PartV.cells) := Reads.of_own h
theorem parts_got {F : Nat → Prop} {w : World} {b o : Nat} {vs : List PartV} (h : Reads F w (some ⟨b, o, none⟩) (vs.flatMap PartV.cells)) {k : Nat} {p : PartV} (hk : vs[k]? = some p) :
    F b ∧ b < w.heap.size ∧ w.cell? ⟨b, o + k * 3, none⟩ = some (.string p.inp) ∧ w.cell? ⟨b, o + k * 3 + 1, none⟩ = some (.int .i64 p.cost) ∧ w.cell? ⟨b, o + k * 3 + 2, none⟩ = some (.slice p.a p.n p.c) := by
  obtain ⟨hk1, rfl⟩ := List.getElem?_eq_some_iff.1 hk
  have hl := partCells_len vs
  obtain ⟨b', o', e, hf, hb, hc⟩ := h (by intro h0; rw [h0] at hl; simp at hl; omega)
  injection e with e
  injection e with e1 e2
  subst e1 e2
  have hat := fun j hj => partCells_at vs k hk1 j hj
  refine ⟨hf, hb, ?_, ?_, ?_⟩
  · exact hc (k * 3 + 0) _ (by rw [hat 0 (by omega)]; rfl)
  · rw [Nat.add_assoc]; exact hc (k * 3 + 1) _ (by rw [hat 1 (by omega)]; rfl)
  · rw [Nat.add_assoc]; exact hc (k * 3 + 2) _ (by rw [hat 2 (by omega)]; rfl)
/-- in a queue that is in order: all places below 'place' come behind p, the others do not -/
theorem place_before {p : PartV} {vs : List PartV} (hd : Down vs) {k : Nat} {q : PartV} (hk : vs[k]? = some q) : (p.key q < 0) = (k < place p vs) := by
  apply propext
  obtain ⟨hk1, rfl⟩ := List.getElem?_eq_some_iff.1 hk
  constructor
  · intro h
    rcases Nat.lt_or_ge k (place p vs) with h1 | h1
    · exact h1
    · have hpl : place p vs < vs.length := by omega
      have h2 : p.key vs[place p vs] < 0 → False := fun h3 => by
        have := List.findIdx_getElem (p := fun q => !decide (p.key q < 0)) (xs := vs) (w := hpl)
        have h4 : (!decide (p.key vs[place p vs] < 0)) = true := this
        simp at h4
        omega
      rcases Nat.lt_or_ge (place p vs) k with h5 | h5
      · have := List.pairwise_iff_getElem.1 hd (place p vs) k hpl hk1 h5
        exact (h2 (by
          unfold PartV.key at h this ⊢
          rw [keyI_lt] at h this ⊢
          omega)).elim
      · have : place p vs = k := by omega
        simp only [this] at h2
        exact (h2 h).elim
  · intro h
    have := List.not_of_lt_findIdx (p := fun q => !decide (p.key q < 0)) (xs := vs) h
    simpa using this
set_option maxHeartbeats 4000000 in
set_option maxRecDepth 100000 in
theorem search_any (F : Nat → Prop) (A : Option Addr) (c : Nat) (vs : List PartV) (p : PartV) (w : World) (hA : Reads F w A (vs.flatMap PartV.cells)) (hd : Down vs) (hn : vs.length < 2000000000000) (hp : p.inp.size ≤ 1000000) (hv : ∀ q ∈ vs, q.inp.size ≤ 1000000) :
    Calls Try.prog 53 #[.slice A vs.length c, p.agg, .func (.func 54) #[] #[]] w fun e w' => ∃ b, e = .returned (.tuple #[.int .i64 (place p vs), .bool b]) ∧ Below w.heap.size w w' := by
  have hpl := place_le p vs
  go_enter Try.func53, Try.ntmps53
  go_upto_region 1 with (fail)
  refine world_gen (fun W => Below w.heap.size w W ∧ Blk W w.heap.size 76 p.cells.toArray) ⟨below_one _ _, Blk.new _ _ _⟩ ?_
  rintro W ⟨hbel, b0⟩
  have H0 := Lib.hid (And.intro hbel b0)
  clear hbel b0
  go_wp2_with fail
  go_loopw [9, 10] (fun x y wr => ∃ i j : Nat, i ≤ j ∧ j ≤ vs.length ∧ i ≤ place p vs ∧ place p vs ≤ j ∧ x = .int .i64 i ∧ y = .int .i64 j ∧ Below w.heap.size w wr ∧ Blk wr w.heap.size 76 p.cells.toArray) (fun x y _ => ((intOf y) - (intOf x)).toNat)
  case atStart => exact ⟨0, vs.length, Nat.zero_le _, Nat.le_refl _, Nat.zero_le _, hpl, rfl, rfl, H0.out.1, H0.out.2⟩
  case round =>
    clear H0 W
    obtain ⟨i, j, hij, hjn, hi, hj, rfl, rfl, hbel, b0⟩ := hrel
    obtain ⟨x0, x1, x2, hl0⟩ := b0.partIs
    have HB := Lib.hid hbel
    have HB0 := Lib.hid b0
    by_cases hlt : i < j
    · obtain ⟨h, hh⟩ : ∃ h, h = (i + j) / 2 := ⟨_, rfl⟩
      have hhi : i ≤ h := by omega
      have hhj : h < j := by omega
      have hcast : ((i : Int) + (j : Int)) / 2 = (h : Int) := by omega
      have hhn : h < vs.length := by omega
      obtain ⟨q, hq⟩ : ∃ q, vs[h]? = some q := ⟨_, List.getElem?_eq_getElem hhn⟩
      have hqs := hv q (List.mem_of_getElem? hq)
      have hA2 := Reads.below hA (hbel.mono (Nat.le_refl _))
      obtain ⟨bv, ov, rfl⟩ := Reads.some_ hA (by rw [partCells_len]; omega)
      obtain ⟨_, hbv, z0, z1, z2⟩ := parts_got hA2 hq
      have hpb := place_before (p := p) hd hq
      have hh1 : (0 : Int) ≤ (h : Int) := by omega
      have hh2 : (h : Int) < (vs.length : Int) := by omega
      have HPB := Lib.hid hpb
      clear hh hpb hq hA2 hbel b0
      go_wp2_with fail
      by_cases hk : p.key q < 0
      all_goals
        have hhp := HPB.out
        first | (have d : decide (p.key q < 0) = true := decide_eq_true hk; have hpos : h < place p vs := by rw [← hhp]; exact hk) | (have d : decide (p.key q < 0) = false := decide_eq_false hk; have hpos : ¬ h < place p vs := by rw [← hhp]; exact hk)
        clear hk hhp
        go_region_held3 (fun w' => w'.cell? ⟨bv, ov + h * 3, none⟩ = some (.string q.inp) ∧ w'.cell? ⟨bv, ov + h * 3 + 1, none⟩ = some (.int .i64 q.cost) ∧ w'.cell? ⟨bv, ov + h * 3 + 2, none⟩ = some (.slice q.a q.n q.c) ∧ w'.cell? ⟨w.heap.size, 0, none⟩ = some (.string p.inp) ∧ w'.cell? ⟨w.heap.size, 1, none⟩ = some (.int .i64 p.cost) ∧ w'.cell? ⟨w.heap.size, 2, none⟩ = some (.slice p.a p.n p.c))
          (first | exact ⟨z0, z1, z2, x0, x1, x2⟩ | go_keep)
          (first | (go_at_call 54; refine (pushCmp_any q p _ hqs hp).mono ?_; rintro e w2 ⟨rfl, hb2⟩; have hs2 := hb2.size; have z0 := (hb2.cell (p := ⟨bv, ov + h * 3, none⟩) hbv).trans z0; have z1 := (hb2.cell (p := ⟨bv, ov + h * 3 + 1, none⟩) hbv).trans z1; have z2 := (hb2.cell (p := ⟨bv, ov + h * 3 + 2, none⟩) hbv).trans z2; have x0 := (hb2.cell (p := ⟨w.heap.size, 0, none⟩) hl0).trans x0; have x1 := (hb2.cell (p := ⟨w.heap.size, 1, none⟩) hl0).trans x1; have x2 := (hb2.cell (p := ⟨w.heap.size, 2, none⟩) hl0).trans x2; have HB2 := Lib.hid hb2; clear hb2))
        all_goals go_wp2
        all_goals go_roundw
        all_goals first
          | (case rel => exact ⟨h + 1, j, by omega, hjn, by omega, hj, by go_num, rfl, HB.out.drew.trans (HB2.out.mono HB.out.size), HB0.out.drew.next HB2.out⟩)
          | (case rel => exact ⟨i, h, by omega, by omega, hi, by omega, rfl, rfl, HB.out.drew.trans (HB2.out.mono HB.out.size), HB0.out.drew.next HB2.out⟩)
          | (case measure => simp [intOf]; omega)
    · obtain rfl : i = j := by omega
      have hip : place p vs = i := by omega
      have HIP := Lib.hid hip
      clear hij hi hj hlt hip hpl
      by_cases hin : i < vs.length
      · have d1 : decide ((i : Int) < (vs.length : Int)) = true := by simpa using hin
        have d1' : decide (i < vs.length) = true := by simpa using hin
        obtain ⟨q, hq⟩ : ∃ q, vs[i]? = some q := ⟨_, List.getElem?_eq_getElem hin⟩
        have hqs := hv q (List.mem_of_getElem? hq)
        have hA2 := Reads.below hA (hbel.mono (Nat.le_refl _))
        obtain ⟨bv, ov, rfl⟩ := Reads.some_ hA (by rw [partCells_len]; omega)
        obtain ⟨_, hbv, z0, z1, z2⟩ := parts_got hA2 hq
        have hh1 : (0 : Int) ≤ (i : Int) := by omega
        have hh2 : (i : Int) < (vs.length : Int) := by omega
        clear hq hA2 hbel b0
        go_wp2_with fail
        go_region_held3 (fun w' => w'.cell? ⟨bv, ov + i * 3, none⟩ = some (.string q.inp) ∧ w'.cell? ⟨bv, ov + i * 3 + 1, none⟩ = some (.int .i64 q.cost) ∧ w'.cell? ⟨bv, ov + i * 3 + 2, none⟩ = some (.slice q.a q.n q.c) ∧ w'.cell? ⟨w.heap.size, 0, none⟩ = some (.string p.inp) ∧ w'.cell? ⟨w.heap.size, 1, none⟩ = some (.int .i64 p.cost) ∧ w'.cell? ⟨w.heap.size, 2, none⟩ = some (.slice p.a p.n p.c))
          (first | exact ⟨z0, z1, z2, x0, x1, x2⟩ | go_keep)
          (first | (go_at_call 54; refine (pushCmp_any q p _ hqs hp).mono ?_; rintro e w2 ⟨rfl, hb2⟩; have hs2 := hb2.size; have z0 := (hb2.cell (p := ⟨bv, ov + i * 3, none⟩) hbv).trans z0; have z1 := (hb2.cell (p := ⟨bv, ov + i * 3 + 1, none⟩) hbv).trans z1; have z2 := (hb2.cell (p := ⟨bv, ov + i * 3 + 2, none⟩) hbv).trans z2; have x0 := (hb2.cell (p := ⟨w.heap.size, 0, none⟩) hl0).trans x0; have x1 := (hb2.cell (p := ⟨w.heap.size, 1, none⟩) hl0).trans x1; have x2 := (hb2.cell (p := ⟨w.heap.size, 2, none⟩) hl0).trans x2; have HB2 := Lib.hid hb2; clear hb2))
        all_goals go_wp2
        all_goals go_ret2
        all_goals exact ⟨p.key q == 0, by rw [HIP.out]; rfl, HB.out.drew.trans (HB2.out.mono HB.out.size)⟩
      · have d1 : decide ((i : Int) < (vs.length : Int)) = false := by simpa using hin
        have d1' : decide (i < vs.length) = false := by simpa using hin
        clear hbel b0
        go_wp2_with fail
        go_quiet (fail)
        go_wp2
        go_ret2
        exact ⟨false, by rw [HIP.out]; rfl, below_drewN HB.out _⟩
end Go.Proofs.Ythcnnadggffjhaa
