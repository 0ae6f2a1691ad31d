/- The walks of Run: that of the program and that of the reference. -/
import Derived.Test.YthcnnadggffjhaaWA
import Derived.Test.YthcnnadggffjhaaLA
import Derived.Test.YthcnnadggffjhaaPA
set_option linter.unusedVariables false
set_option linter.unusedSimpArgs false
namespace Go.Proofs.Ythcnnadggffjhaa
open Go.RowKit

def RunR.agg (o : RunR) : Value := .agg #[.string o.inp, .string o.out, .int .i64 o.cost, .int .i64 o.mode, .bool o.ok]
def RunRes (o : RunR) (w : World) (e : Ending) (w' : World) : Prop := e = .returned o.agg ∧ Below w.heap.size w w'
def RunW (m ac : Nat) (A : Option Addr) (n c : Nat) (o : RunR) (w W : World) : Prop :=
  Below w.heap.size w W ∧ Blk W w.heap.size 31 #[.int .i64 m, .int .u8 ac, .slice A n c] ∧ Blk W (w.heap.size + 1) 53 #[.string ⟨#[]⟩, .string ⟨#[]⟩, .int .i64 0, .int .i64 0, .bool false] ∧
    Blk W (w.heap.size + 1 + 1) 53 #[.string o.inp, .string o.out, .int .i64 o.cost, .int .i64 o.mode, .bool o.ok]

theorem RunW.drew {m ac n c : Nat} {A : Option Addr} {o : RunR} {w W : World} (h : RunW m ac A n c o w W) : RunW m ac A n c o w W.drew := ⟨h.1.drew, h.2.1.drew, h.2.2.1.drew, h.2.2.2.drew⟩
theorem run_step {m ac n c : Nat} {A : Option Addr} {o : RunR} {r : Rule} {w W : World} (h : RunW m ac A n c o w W) (O : Obj) :
    RunW m ac A n c (o.add r) w (((((W.setCell ⟨w.heap.size + 1 + 1, 0, none⟩ (.string (o.inp ++ r.inp))).setCell ⟨w.heap.size + 1 + 1, 1, none⟩ (.string (o.out ++ r.out))).setCell ⟨w.heap.size + 1 + 1, 2, none⟩ (.int .i64 ((o.cost : Int) + (r.cost : Int)))).setCell
      ⟨w.heap.size + 1 + 1, 3, none⟩ (.int .i64 r.dst)).alloc O) := by
  obtain ⟨h0, h1, h2, h3⟩ := h
  refine ⟨?_, ?_, ?_, ?_⟩
  · exact ((((h0.setCell (p := ⟨w.heap.size + 1 + 1, 0, none⟩) (by simp; omega) _).setCell (p := ⟨w.heap.size + 1 + 1, 1, none⟩) (by simp; omega) _).setCell (p := ⟨w.heap.size + 1 + 1, 2, none⟩) (by simp; omega) _).setCell (p := ⟨w.heap.size + 1 + 1, 3, none⟩) (by simp; omega) _).alloc
      (by simpa [World.setCell] using h0.size) _
  · exact ((((h1.far (by simp; omega) _).far (by simp; omega) _).far (by simp; omega) _).far (by simp; omega) _).alloc _
  · exact ((((h2.far (by simp) _).far (by simp) _).far (by simp) _).far (by simp) _).alloc _
  · have := ((((h3.set 0 (.string (o.inp ++ r.inp))).set 1 (.string (o.out ++ r.out))).set 2 (.int .i64 ((o.cost : Int) + (r.cost : Int)))).set 3 (.int .i64 r.dst)).alloc O
    simpa [RunR.add] using this

set_option maxHeartbeats 2000000 in
set_option maxRecDepth 100000 in
theorem run_any (F G : Nat → Prop) (m ac : Nat) (A A' : Option Addr) (c c' : Nat) (rs : List Rule) (l : List Int) (w : World) (hA : RulesAt F w A rs) (hL : SlAt vI G w A' l) (hn : rs.length ≤ 1000) (hl : l.length ≤ 1000) (hb : ∀ r ∈ rs, r.bnd) :
    Calls Try.prog 28 #[.agg #[.int .i64 m, .int .u8 ac, .slice A rs.length c], .slice A' l.length c'] w (RunRes (runFrom rs .start l) w) := by
  go_enter Try.func28, Try.ntmps28
  go_wp2_with fail
  refine world_gen (RunW m ac A rs.length c .start w) ?_ ?_
  · refine ⟨((Below.refl _ _).alloc (Nat.le_refl _) _).alloc (by simp) _ |>.alloc (by simp; omega) _, ((Blk.new _ _ _).alloc _).alloc _, ?_, ?_⟩
    · exact (show Blk _ (w.heap.size + 1) _ _ from by rw [show w.heap.size + 1 = (w.alloc _).heap.size from (by simp)]; exact Blk.new _ _ _).alloc _
    · exact (show Blk _ (w.heap.size + 1 + 1) _ _ from by rw [show w.heap.size + 1 + 1 = ((w.alloc _).alloc _).heap.size from (by simp)]; exact Blk.new _ _ _)
  intro W hW
  go_loopw [12] (fun x wr => ∃ k : Nat, k ≤ l.length ∧ x = .int .i64 k ∧ ∃ o : RunR, o.bnd k ∧ runFrom rs .start l = runFrom rs o (l.drop k) ∧ RunW m ac A rs.length c o w wr) (fun x _ => l.length - (intOf x).toNat)
  case atStart => exact ⟨0, Nat.zero_le _, rfl, .start, ⟨Nat.le_refl _, Nat.le_refl _, Nat.le_refl _⟩, rfl, hW⟩
  case round =>
    clear hW
    obtain ⟨k, hk, rfl, o, hob, hrun, hbel, b0, b1, b2⟩ := hrel
    have HR := Lib.hid hrun
    clear hrun
    have d2 : wr.cell? ⟨w.heap.size, 2, none⟩ = some (.slice A rs.length c) := b0.cell 2
    have o0 : wr.cell? ⟨w.heap.size + 1 + 1, 0, none⟩ = some (.string o.inp) := b2.cell 0
    have o1 : wr.cell? ⟨w.heap.size + 1 + 1, 1, none⟩ = some (.string o.out) := b2.cell 1
    have o2 : wr.cell? ⟨w.heap.size + 1 + 1, 2, none⟩ = some (.int .i64 o.cost) := b2.cell 2
    have o3 : wr.cell? ⟨w.heap.size + 1 + 1, 3, none⟩ = some (.int .i64 o.mode) := b2.cell 3
    have o4 : wr.cell? ⟨w.heap.size + 1 + 1, 4, none⟩ = some (.bool o.ok) := b2.cell 4
    have g0 := b2.free 0
    have g1 := b2.free 1
    have g2 := b2.free 2
    have g3 := b2.free 3
    have hs2 : w.heap.size + 1 + 1 < wr.heap.size := b2.lt
    have p0 : wr.cell? ⟨w.heap.size + 1, 0, none⟩ = some (.string ⟨#[]⟩) := b1.cell 0
    have p1 : wr.cell? ⟨w.heap.size + 1, 1, none⟩ = some (.string ⟨#[]⟩) := b1.cell 1
    have p2 : wr.cell? ⟨w.heap.size + 1, 2, none⟩ = some (.int .i64 0) := b1.cell 2
    have p3 : wr.cell? ⟨w.heap.size + 1, 3, none⟩ = some (.int .i64 0) := b1.cell 3
    have p4 : wr.cell? ⟨w.heap.size + 1, 4, none⟩ = some (.bool false) := b1.cell 4
    have f0 := b1.free 0
    have f1 := b1.free 1
    have f2 := b1.free 2
    have f3 := b1.free 3
    have f4 := b1.free 4
    have B0 := Lib.hid b0
    have B1 := Lib.hid b1
    have B2 := Lib.hid b2
    clear b0 b1 b2
    by_cases hkl : k < l.length
    · obtain ⟨bl, ol, rfl, hGb, hbl, hc⟩ := (SlAt.below hL hbel).at_ hkl
      have hdrop := Lib.hid (drop_cons l k hkl)
      obtain ⟨x, hx⟩ : ∃ x, x = l[k] := ⟨_, rfl⟩
      rw [← hx] at hc
      have HX := Lib.hid hx
      clear hx
      have hc : wr.cell? ⟨bl, ol + k, none⟩ = some (.int .i64 x) := hc
      rcases Int.lt_or_le x 0 with hx0 | hx0
      · have hd : decide (x < 0) = true := by simpa using hx0
        have HZ : Hid (runFrom rs .start l = .zero) := by rw [HR.out, hdrop.out, ← HX.out]; exact runFrom_none (ruleAt_neg hx0)
        go_wp2_with fail
        go_quiet (fail)
        go_wp2
        refine bodyPost_ret (v := RunR.zero.agg) (by simp [results, Try.results28, go_sem, p0, p1, p2, p3, p4, f0, f1, f2, f3, f4, RunR.zero, RunR.agg]) rfl ?_
        rw [HZ.out]
        exact ⟨rfl, ((((((below_drewN hbel _).setCell (p := ⟨w.heap.size + 1, 0, none⟩) (by simp) _).setCell (p := ⟨w.heap.size + 1, 1, none⟩) (by simp) _).setCell (p := ⟨w.heap.size + 1, 2, none⟩) (by simp) _).setCell (p := ⟨w.heap.size + 1, 3, none⟩) (by simp) _).setCell (p := ⟨w.heap.size + 1, 4, none⟩) (by simp) _)⟩
      have hd : decide (x < 0) = false := by simp; omega
      rcases Int.lt_or_le x (rs.length : Int) with hx1 | hx1
      rotate_left
      · have hd2 : decide ((rs.length : Int) ≤ x) = true := by simpa using hx1
        have HZ : Hid (runFrom rs .start l = .zero) := by rw [HR.out, hdrop.out, ← HX.out]; exact runFrom_none (ruleAt_big hx1)
        go_wp2_with fail
        go_quiet (fail)
        go_wp2
        refine bodyPost_ret (v := RunR.zero.agg) (by simp [results, Try.results28, go_sem, p0, p1, p2, p3, p4, f0, f1, f2, f3, f4, RunR.zero, RunR.agg]) rfl ?_
        rw [HZ.out]
        exact ⟨rfl, ((((((below_drewN hbel _).setCell (p := ⟨w.heap.size + 1, 0, none⟩) (by simp) _).setCell (p := ⟨w.heap.size + 1, 1, none⟩) (by simp) _).setCell (p := ⟨w.heap.size + 1, 2, none⟩) (by simp) _).setCell (p := ⟨w.heap.size + 1, 3, none⟩) (by simp) _).setCell (p := ⟨w.heap.size + 1, 4, none⟩) (by simp) _)⟩
      have hd2 : decide ((rs.length : Int) ≤ x) = false := by simp; omega
      obtain ⟨j, rfl⟩ := Int.eq_ofNat_of_zero_le hx0
      have hj : j < rs.length := by omega
      obtain ⟨br, or, rfl, hFb, hbr, r0, r1, r2, r3, r4⟩ := (RulesAt.below hA hbel).at_ hj
      have hra := Lib.hid (ruleAt_in hj)
      by_cases hmode : rs[j].frm = o.mode
      rotate_left
      · have hd3 : ((rs[j].frm : Int) == (o.mode : Int)) = false := by simp; omega
        have hd4 : ((rs[j].frm : Int) != (o.mode : Int)) = true := by simp; omega
        have HZ : Hid (runFrom rs .start l = .zero) := by rw [HR.out, hdrop.out, ← HX.out]; exact runFrom_no hra.out hmode
        clear hmode
        go_wp2_with fail
        go_quiet (fail)
        go_wp2
        refine bodyPost_ret (v := RunR.zero.agg) (by simp [results, Try.results28, go_sem, p0, p1, p2, p3, p4, f0, f1, f2, f3, f4, RunR.zero, RunR.agg]) rfl ?_
        rw [HZ.out]
        exact ⟨rfl, ((((((below_drewN hbel _).setCell (p := ⟨w.heap.size + 1, 0, none⟩) (by simp) _).setCell (p := ⟨w.heap.size + 1, 1, none⟩) (by simp) _).setCell (p := ⟨w.heap.size + 1, 2, none⟩) (by simp) _).setCell (p := ⟨w.heap.size + 1, 3, none⟩) (by simp) _).setCell (p := ⟨w.heap.size + 1, 4, none⟩) (by simp) _)⟩
      have hd3 : ((rs[j].frm : Int) == (o.mode : Int)) = true := by simp; omega
      have hd4 : ((rs[j].frm : Int) != (o.mode : Int)) = false := by simp; omega
      have HS : Hid (runFrom rs .start l = runFrom rs (o.add rs[j]) (l.drop (k + 1))) := by rw [HR.out, hdrop.out, ← HX.out]; exact runFrom_yes hra.out hmode
      clear hmode
      clear p0 p1 p2 p3 p4 f0 f1 f2 f3 f4
      go_wp2_with fail
      go_quiet (fail)
      refine world_gen (fun W => RunW m ac (some ⟨br, or, none⟩) rs.length c o w W ∧ br < W.heap.size ∧ W.cell? ⟨br, or + j * 5, none⟩ = some (.int .i64 rs[j].frm) ∧ W.cell? ⟨br, or + j * 5 + 1, none⟩ = some (.int .i64 rs[j].dst) ∧
        W.cell? ⟨br, or + j * 5 + 2, none⟩ = some (.string rs[j].inp) ∧ W.cell? ⟨br, or + j * 5 + 3, none⟩ = some (.string rs[j].out) ∧ W.cell? ⟨br, or + j * 5 + 4, none⟩ = some (.int .i64 rs[j].cost))
        ⟨⟨below_drewN hbel _, B0.out.drewN _, B1.out.drewN _, B2.out.drewN _⟩, hbr, r0, r1, r2, r3, r4⟩ ?_
      clear r0 r1 r2 r3 r4 d2 B0 B1 B2 hbel hbr o0 o1 o2 o3 o4 g0 g1 g2 g3 hs2
      rintro W ⟨⟨hbel, b0, b1, b2⟩, hbr, r0, r1, r2, r3, r4⟩
      have d2 : W.cell? ⟨w.heap.size, 2, none⟩ = some (.slice (some ⟨br, or, none⟩) rs.length c) := b0.cell 2
      have o0 : W.cell? ⟨w.heap.size + 1 + 1, 0, none⟩ = some (.string o.inp) := b2.cell 0
      have o1 : W.cell? ⟨w.heap.size + 1 + 1, 1, none⟩ = some (.string o.out) := b2.cell 1
      have o2 : W.cell? ⟨w.heap.size + 1 + 1, 2, none⟩ = some (.int .i64 o.cost) := b2.cell 2
      have o3 : W.cell? ⟨w.heap.size + 1 + 1, 3, none⟩ = some (.int .i64 o.mode) := b2.cell 3
      have o4 : W.cell? ⟨w.heap.size + 1 + 1, 4, none⟩ = some (.bool o.ok) := b2.cell 4
      have g0 := b2.free 0
      have g1 := b2.free 1
      have g2 := b2.free 2
      have g3 := b2.free 3
      have hs2 : w.heap.size + 1 + 1 < W.heap.size := b2.lt
      have hs0 : w.heap.size < W.heap.size := by omega
      obtain ⟨q1, q2, q3⟩ := hb rs[j] (List.getElem_mem hj)
      have HOB := Lib.hid hob
      obtain ⟨z1, z2, z3⟩ := hob
      have ha1 := fun (W : World) => run_string_add_sum (P := Try.prog) W o.inp rs[j].inp (by omega)
      have ha2 := fun (W : World) => run_string_add_sum (P := Try.prog) W o.out rs[j].out (by omega)
      clear hd hd2 hd3 hd4 hx0 hx1
      have HB := Lib.hid (And.intro b0 (And.intro b1 b2))
      clear b0 b1 b2
      go_wp2
      go_roundw
      case rel => exact ⟨k + 1, by omega, by go_num, o.add rs[j], RunR.bnd_add HOB.out ⟨q1, q2, q3⟩, HS.out, run_step ⟨hbel, HB.out⟩ _⟩
      case measure => simp [intOf]; omega
    · obtain rfl : k = l.length := by omega
      have HZ : Hid (runFrom rs .start l = o) := by rw [HR.out, List.drop_length]; exact rfl
      go_wp2
      refine bodyPost_ret (v := o.agg) (by simp [results, Try.results28, go_sem, p0, p1, p2, p3, p4, f0, f1, f2, f3, f4, RunR.agg]) rfl ?_
      rw [HZ.out]
      exact ⟨rfl, (((((hbel.setCell (p := ⟨w.heap.size + 1, 0, none⟩) (by simp) _).setCell (p := ⟨w.heap.size + 1, 1, none⟩) (by simp) _).setCell (p := ⟨w.heap.size + 1, 2, none⟩) (by simp) _).setCell (p := ⟨w.heap.size + 1, 3, none⟩) (by simp) _).setCell (p := ⟨w.heap.size + 1, 4, none⟩) (by simp) _)⟩
set_option maxHeartbeats 2000000 in
set_option maxRecDepth 100000 in
theorem run3_any (F G : Nat → Prop) (m ac : Nat) (A A' : Option Addr) (c c' : Nat) (rs : List Rule) (l : List Int) (w : World) (hA : RulesAt F w A rs) (hL : SlAt vI G w A' l) (hn : rs.length ≤ 1000) (hl : l.length ≤ 1000) (hb : ∀ r ∈ rs, r.bnd) :
    Calls Try.prog 21 #[.agg #[.int .i64 m, .int .u8 ac, .slice A rs.length c], .slice A' l.length c'] w (RunRes (runFrom rs .start l) w) := by
  go_enter Try.func21, Try.ntmps21
  go_wp2_with fail
  refine world_gen (RunW m ac A rs.length c .start w) ?_ ?_
  · refine ⟨((Below.refl _ _).alloc (Nat.le_refl _) _).alloc (by simp) _ |>.alloc (by simp; omega) _, ((Blk.new _ _ _).alloc _).alloc _, ?_, ?_⟩
    · exact (show Blk _ (w.heap.size + 1) _ _ from by rw [show w.heap.size + 1 = (w.alloc _).heap.size from (by simp)]; exact Blk.new _ _ _).alloc _
    · exact (show Blk _ (w.heap.size + 1 + 1) _ _ from by rw [show w.heap.size + 1 + 1 = ((w.alloc _).alloc _).heap.size from (by simp)]; exact Blk.new _ _ _)
  intro W hW
  go_loopw [6] (fun x wr => ∃ k : Nat, k ≤ l.length ∧ x = .int .i64 k ∧ ∃ o : RunR, o.bnd k ∧ runFrom rs .start l = runFrom rs o (l.drop k) ∧ RunW m ac A rs.length c o w wr) (fun x _ => l.length - (intOf x).toNat)
  case atStart => exact ⟨0, Nat.zero_le _, rfl, .start, ⟨Nat.le_refl _, Nat.le_refl _, Nat.le_refl _⟩, rfl, hW⟩
  case round =>
    clear hW
    obtain ⟨k, hk, rfl, o, hob, hrun, hbel, b0, b1, b2⟩ := hrel
    have HR := Lib.hid hrun
    clear hrun
    have d2 : wr.cell? ⟨w.heap.size, 2, none⟩ = some (.slice A rs.length c) := b0.cell 2
    have o0 : wr.cell? ⟨w.heap.size + 1 + 1, 0, none⟩ = some (.string o.inp) := b2.cell 0
    have o1 : wr.cell? ⟨w.heap.size + 1 + 1, 1, none⟩ = some (.string o.out) := b2.cell 1
    have o2 : wr.cell? ⟨w.heap.size + 1 + 1, 2, none⟩ = some (.int .i64 o.cost) := b2.cell 2
    have o3 : wr.cell? ⟨w.heap.size + 1 + 1, 3, none⟩ = some (.int .i64 o.mode) := b2.cell 3
    have o4 : wr.cell? ⟨w.heap.size + 1 + 1, 4, none⟩ = some (.bool o.ok) := b2.cell 4
    have g0 := b2.free 0
    have g1 := b2.free 1
    have g2 := b2.free 2
    have g3 := b2.free 3
    have hs2 : w.heap.size + 1 + 1 < wr.heap.size := b2.lt
    have p0 : wr.cell? ⟨w.heap.size + 1, 0, none⟩ = some (.string ⟨#[]⟩) := b1.cell 0
    have p1 : wr.cell? ⟨w.heap.size + 1, 1, none⟩ = some (.string ⟨#[]⟩) := b1.cell 1
    have p2 : wr.cell? ⟨w.heap.size + 1, 2, none⟩ = some (.int .i64 0) := b1.cell 2
    have p3 : wr.cell? ⟨w.heap.size + 1, 3, none⟩ = some (.int .i64 0) := b1.cell 3
    have p4 : wr.cell? ⟨w.heap.size + 1, 4, none⟩ = some (.bool false) := b1.cell 4
    have f0 := b1.free 0
    have f1 := b1.free 1
    have f2 := b1.free 2
    have f3 := b1.free 3
    have f4 := b1.free 4
    have B0 := Lib.hid b0
    have B1 := Lib.hid b1
    have B2 := Lib.hid b2
    clear b0 b1 b2
    by_cases hkl : k < l.length
    · obtain ⟨bl, ol, rfl, hGb, hbl, hc⟩ := (SlAt.below hL hbel).at_ hkl
      have hdrop := Lib.hid (drop_cons l k hkl)
      obtain ⟨x, hx⟩ : ∃ x, x = l[k] := ⟨_, rfl⟩
      rw [← hx] at hc
      have HX := Lib.hid hx
      clear hx
      have hc : wr.cell? ⟨bl, ol + k, none⟩ = some (.int .i64 x) := hc
      rcases Int.lt_or_le x 0 with hx0 | hx0
      · have hd : decide (x < 0) = true := by simpa using hx0
        have HZ : Hid (runFrom rs .start l = .zero) := by rw [HR.out, hdrop.out, ← HX.out]; exact runFrom_none (ruleAt_neg hx0)
        go_wp2_with fail
        go_quiet (fail)
        go_wp2
        refine bodyPost_ret (v := RunR.zero.agg) (by simp [results, Try.results21, go_sem, p0, p1, p2, p3, p4, f0, f1, f2, f3, f4, RunR.zero, RunR.agg]) rfl ?_
        rw [HZ.out]
        exact ⟨rfl, ((((((below_drewN hbel _).setCell (p := ⟨w.heap.size + 1, 0, none⟩) (by simp) _).setCell (p := ⟨w.heap.size + 1, 1, none⟩) (by simp) _).setCell (p := ⟨w.heap.size + 1, 2, none⟩) (by simp) _).setCell (p := ⟨w.heap.size + 1, 3, none⟩) (by simp) _).setCell (p := ⟨w.heap.size + 1, 4, none⟩) (by simp) _)⟩
      have hd : decide (x < 0) = false := by simp; omega
      rcases Int.lt_or_le x (rs.length : Int) with hx1 | hx1
      rotate_left
      · have hd2 : decide ((rs.length : Int) ≤ x) = true := by simpa using hx1
        have HZ : Hid (runFrom rs .start l = .zero) := by rw [HR.out, hdrop.out, ← HX.out]; exact runFrom_none (ruleAt_big hx1)
        go_wp2_with fail
        go_quiet (fail)
        go_wp2
        refine bodyPost_ret (v := RunR.zero.agg) (by simp [results, Try.results21, go_sem, p0, p1, p2, p3, p4, f0, f1, f2, f3, f4, RunR.zero, RunR.agg]) rfl ?_
        rw [HZ.out]
        exact ⟨rfl, ((((((below_drewN hbel _).setCell (p := ⟨w.heap.size + 1, 0, none⟩) (by simp) _).setCell (p := ⟨w.heap.size + 1, 1, none⟩) (by simp) _).setCell (p := ⟨w.heap.size + 1, 2, none⟩) (by simp) _).setCell (p := ⟨w.heap.size + 1, 3, none⟩) (by simp) _).setCell (p := ⟨w.heap.size + 1, 4, none⟩) (by simp) _)⟩
      have hd2 : decide ((rs.length : Int) ≤ x) = false := by simp; omega
      obtain ⟨j, rfl⟩ := Int.eq_ofNat_of_zero_le hx0
      have hj : j < rs.length := by omega
      obtain ⟨br, or, rfl, hFb, hbr, r0, r1, r2, r3, r4⟩ := (RulesAt.below hA hbel).at_ hj
      have hra := Lib.hid (ruleAt_in hj)
      by_cases hmode : rs[j].frm = o.mode
      rotate_left
      · have hd3 : ((rs[j].frm : Int) == (o.mode : Int)) = false := by simp; omega
        have hd4 : ((rs[j].frm : Int) != (o.mode : Int)) = true := by simp; omega
        have HZ : Hid (runFrom rs .start l = .zero) := by rw [HR.out, hdrop.out, ← HX.out]; exact runFrom_no hra.out hmode
        clear hmode
        go_wp2_with fail
        go_quiet (fail)
        go_wp2
        refine bodyPost_ret (v := RunR.zero.agg) (by simp [results, Try.results21, go_sem, p0, p1, p2, p3, p4, f0, f1, f2, f3, f4, RunR.zero, RunR.agg]) rfl ?_
        rw [HZ.out]
        exact ⟨rfl, ((((((below_drewN hbel _).setCell (p := ⟨w.heap.size + 1, 0, none⟩) (by simp) _).setCell (p := ⟨w.heap.size + 1, 1, none⟩) (by simp) _).setCell (p := ⟨w.heap.size + 1, 2, none⟩) (by simp) _).setCell (p := ⟨w.heap.size + 1, 3, none⟩) (by simp) _).setCell (p := ⟨w.heap.size + 1, 4, none⟩) (by simp) _)⟩
      have hd3 : ((rs[j].frm : Int) == (o.mode : Int)) = true := by simp; omega
      have hd4 : ((rs[j].frm : Int) != (o.mode : Int)) = false := by simp; omega
      have HS : Hid (runFrom rs .start l = runFrom rs (o.add rs[j]) (l.drop (k + 1))) := by rw [HR.out, hdrop.out, ← HX.out]; exact runFrom_yes hra.out hmode
      clear hmode
      clear p0 p1 p2 p3 p4 f0 f1 f2 f3 f4
      go_wp2_with fail
      go_quiet (fail)
      refine world_gen (fun W => RunW m ac (some ⟨br, or, none⟩) rs.length c o w W ∧ br < W.heap.size ∧ W.cell? ⟨br, or + j * 5, none⟩ = some (.int .i64 rs[j].frm) ∧ W.cell? ⟨br, or + j * 5 + 1, none⟩ = some (.int .i64 rs[j].dst) ∧
        W.cell? ⟨br, or + j * 5 + 2, none⟩ = some (.string rs[j].inp) ∧ W.cell? ⟨br, or + j * 5 + 3, none⟩ = some (.string rs[j].out) ∧ W.cell? ⟨br, or + j * 5 + 4, none⟩ = some (.int .i64 rs[j].cost) ∧ W.cell? ⟨bl, ol + k, none⟩ = some (.int .i64 (j : Int)) ∧ bl < W.heap.size)
        ⟨⟨below_drewN hbel _, B0.out.drewN _, B1.out.drewN _, B2.out.drewN _⟩, hbr, r0, r1, r2, r3, r4, hc, hbl⟩ ?_
      clear hc hbl r0 r1 r2 r3 r4 d2 B0 B1 B2 hbel hbr o0 o1 o2 o3 o4 g0 g1 g2 g3 hs2
      rintro W ⟨⟨hbel, b0, b1, b2⟩, hbr, r0, r1, r2, r3, r4, hc, hbl⟩
      have d2 : W.cell? ⟨w.heap.size, 2, none⟩ = some (.slice (some ⟨br, or, none⟩) rs.length c) := b0.cell 2
      have o0 : W.cell? ⟨w.heap.size + 1 + 1, 0, none⟩ = some (.string o.inp) := b2.cell 0
      have o1 : W.cell? ⟨w.heap.size + 1 + 1, 1, none⟩ = some (.string o.out) := b2.cell 1
      have o2 : W.cell? ⟨w.heap.size + 1 + 1, 2, none⟩ = some (.int .i64 o.cost) := b2.cell 2
      have o3 : W.cell? ⟨w.heap.size + 1 + 1, 3, none⟩ = some (.int .i64 o.mode) := b2.cell 3
      have o4 : W.cell? ⟨w.heap.size + 1 + 1, 4, none⟩ = some (.bool o.ok) := b2.cell 4
      have g0 := b2.free 0
      have g1 := b2.free 1
      have g2 := b2.free 2
      have g3 := b2.free 3
      have hs2 : w.heap.size + 1 + 1 < W.heap.size := b2.lt
      have hs0 : w.heap.size < W.heap.size := by omega
      obtain ⟨q1, q2, q3⟩ := hb rs[j] (List.getElem_mem hj)
      have HOB := Lib.hid hob
      obtain ⟨z1, z2, z3⟩ := hob
      have ha1 := fun (W : World) => run_string_add_sum (P := Try.prog) W o.inp rs[j].inp (by omega)
      have ha2 := fun (W : World) => run_string_add_sum (P := Try.prog) W o.out rs[j].out (by omega)
      clear hd hd2 hd3 hd4 hx0 hx1
      have HB := Lib.hid (And.intro b0 (And.intro b1 b2))
      clear b0 b1 b2
      go_wp2_with fail
      go_region_held3 (fun w' => w'.cell? ⟨w.heap.size, 2, none⟩ = some (.slice (some ⟨br, or, none⟩) rs.length c) ∧ w'.cell? ⟨bl, ol + k, none⟩ = some (.int .i64 (j : Int)) ∧ w'.cell? ⟨br, or + j * 5, none⟩ = some (.int .i64 rs[j].frm) ∧
        w'.cell? ⟨br, or + j * 5 + 1, none⟩ = some (.int .i64 rs[j].dst) ∧ w'.cell? ⟨br, or + j * 5 + 2, none⟩ = some (.string rs[j].inp) ∧ w'.cell? ⟨br, or + j * 5 + 3, none⟩ = some (.string rs[j].out) ∧ w'.cell? ⟨br, or + j * 5 + 4, none⟩ = some (.int .i64 rs[j].cost))
        (go_keep) (fail)
      go_wp2
      go_roundw
      case rel => exact ⟨k + 1, by omega, by go_num, o.add rs[j], RunR.bnd_add HOB.out ⟨q1, q2, q3⟩, HS.out, (run_step ⟨hbel, HB.out⟩ _).drew⟩
      case measure => simp [intOf]; omega
    · obtain rfl : k = l.length := by omega
      have HZ : Hid (runFrom rs .start l = o) := by rw [HR.out, List.drop_length]; exact rfl
      go_wp2
      refine bodyPost_ret (v := o.agg) (by simp [results, Try.results21, go_sem, p0, p1, p2, p3, p4, f0, f1, f2, f3, f4, RunR.agg]) rfl ?_
      rw [HZ.out]
      exact ⟨rfl, (((((hbel.setCell (p := ⟨w.heap.size + 1, 0, none⟩) (by simp) _).setCell (p := ⟨w.heap.size + 1, 1, none⟩) (by simp) _).setCell (p := ⟨w.heap.size + 1, 2, none⟩) (by simp) _).setCell (p := ⟨w.heap.size + 1, 3, none⟩) (by simp) _).setCell (p := ⟨w.heap.size + 1, 4, none⟩) (by simp) _)⟩
end Go.Proofs.Ythcnnadggffjhaa
