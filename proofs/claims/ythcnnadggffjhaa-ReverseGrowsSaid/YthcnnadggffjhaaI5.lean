/- The walk of pop. -/
import Derived.Test.YthcnnadggffjhaaI4
import Derived.StillTailTactics
set_option linter.unusedVariables false
set_option linter.unusedSimpArgs false
namespace Go.Proofs.Ythcnnadggffjhaa
open Go.RowKit

def Popped (base Q : Nat) (A : Option Addr) (c : Nat) (w : World) (p : PartV) (vs : List PartV) (e : Ending) (w' : World) : Prop :=
  e = .returned p.agg ∧ Mod (· = Q) w w' ∧ Que base Q w' A c vs
theorem Mod.setNew {S : Nat → Prop} {w w' : World} (h : Mod S w w') {p : Addr} (hp : w.heap.size ≤ p.block) (u : Value) : Mod S w (w'.setCell p u) :=
  ⟨h.os, h.tape, h.output, by simpa [World.setCell] using h.size, fun b hb hs => by
    rw [Below.heap_setCell _ _ _ _ (show b ≠ p.block by omega)]
    exact h.block b hb hs⟩
theorem Que.farQ {base Q : Nat} {w : World} {bv ov c : Nat} {vs : List PartV} (h : Que base Q w (some ⟨bv, ov, none⟩) c vs) {p : Addr} (hQ : Q ≠ p.block) (hb : bv ≠ p.block) (u : Value) : Que base Q (w.setCell p u) (some ⟨bv, ov, none⟩) c vs :=
  ⟨h.box.far hQ u, (Mod.set (S := (· = p.block)) (Mod.refl _ w) rfl u).own h.row fun b hb' => by
    have : bv = b := by simpa [Value.ownBlock] using hb'
    subst this
    exact hb⟩
theorem popped_que {base Q : Nat} {w : World} {bv ov c : Nat} {vs : List PartV} {p : PartV} (h : Que base Q w (some ⟨bv, ov, none⟩) c (vs ++ [p])) (hc : vs.length ≤ c) : Que base Q (w.setCell ⟨Q, 0, none⟩ (.slice (some ⟨bv, ov, none⟩) vs.length c)) (some ⟨bv, ov, none⟩) c vs := by
  have hbox : Blk w Q 78 #[.slice (some ⟨bv, ov, none⟩) (vs ++ [p]).length c] := h.box
  refine ⟨?_, ?_⟩
  · have := hbox.set 0 (.slice (some ⟨bv, ov, none⟩) vs.length c)
    simpa using this
  · have hr : w.ownsRow base 76 3 (.slice (some ⟨bv, ov, none⟩) (vs ++ [p]).length c) (vs ++ [p]).length ((vs ++ [p]).flatMap PartV.cells) := h.row
    rcases hr.2 with ⟨hv, _⟩ | ⟨g, cap, cur, hv, hg, hh, hnc, hcm, hcs, ht⟩
    · cases hv
    · injection hv with h1 h2 h3
      injection h1 with h1
      injection h1 with h1 h4
      subst h1 h3 h4
      have : w.ownsRow base 76 3 (.slice (some ⟨bv, 0, none⟩) vs.length c) vs.length (vs.flatMap PartV.cells) := by
        refine own_of_blk hh hg hc hcm hcs ?_
        have h5 : (cur.toList.take ((vs ++ [p]).length * 3)).take (vs.length * 3) = ((vs ++ [p]).flatMap PartV.cells).take (vs.length * 3) := by rw [ht]
        rw [List.take_take, partCells_take, List.take_left] at h5
        rw [← h5]
        congr 1
        simp
      exact Acc.far (p := ⟨Q, 0, none⟩) this hbox (by decide) _
set_option maxHeartbeats 2000000 in
set_option maxRecDepth 100000 in
theorem pop_any (base Q : Nat) (A : Option Addr) (c : Nat) (vs : List PartV) (p : PartV) (w : World) (hq : Que base Q w A c (vs ++ [p])) (hn : vs.length < 1000000000000) :
    Calls Try.prog 32 #[.pointer (some ⟨Q, 0, none⟩)] w (Popped base Q A c w p vs) := by
  have hl : (vs ++ [p]).length = vs.length + 1 := by simp
  have hlc : vs.length + 1 ≤ c := by have := Acc.le_ (.inl hq.row); omega
  have hA : Reads (base ≤ ·) w A ((vs ++ [p]).flatMap PartV.cells) := hq.row.reads
  obtain ⟨bv, ov, rfl⟩ := Reads.some_ hA (by rw [partCells_len]; omega)
  go_enter Try.func32, Try.ntmps32
  go_upto_region 1 with (fail)
  refine world_gen (fun W => Below w.heap.size w W ∧ Blk W w.heap.size 76 #[.string ⟨#[]⟩, .int .i64 0, .slice none 0 0] ∧ Que base Q W (some ⟨bv, ov, none⟩) c (vs ++ [p]) ∧ w.heap.size < W.heap.size) ⟨below_one _ _, Blk.new _ _ _, hq.next (below_one _ _), by simp⟩ ?_
  rintro W ⟨hbel, b0, hqW, hWs⟩
  have hQw : Q < w.heap.size := hq.box.lt
  have y0 : W.cell? ⟨Q, 0, none⟩ = some (.slice (some ⟨bv, ov, none⟩) (vs.length + 1) c) := by have := hqW.box.cell 0; rw [hl] at this; exact this
  have fQ := hqW.box.free 0
  have hlQ := hqW.box.lt
  obtain ⟨_, hbv, z0, z1, z2⟩ := parts_got (k := vs.length) (p := p) (Reads.below hA hbel) (by simp)
  have HB := Lib.hid hbel
  have HB0 := Lib.hid b0
  have HQ := Lib.hid hqW
  have h1 : (0 : Int) ≤ (vs.length : Int) := by omega
  have hw1 : IntKind.i64.wrap (vs.length : Int) = (vs.length : Int) := by rw [IntWalk.i64_in _ (by omega)]
  have h2 : (vs.length : Int) < (vs.length : Int) + 1 := by omega
  clear hbel b0 hqW hA hl
  go_cut [3] (fun x wx => ∃ Y, x = .pointer (some ⟨Y, 0, none⟩) ∧ Below W.heap.size W wx ∧ W.heap.size ≤ Y ∧ Blk wx Y 76 p.cells.toArray)
  case first =>
    go_region_held3 (fun w' => w'.cell? ⟨Q, 0, none⟩ = some (.slice (some ⟨bv, ov, none⟩) (vs.length + 1) c) ∧ w'.cell? ⟨bv, ov + vs.length * 3, none⟩ = some (.string p.inp) ∧ w'.cell? ⟨bv, ov + vs.length * 3 + 1, none⟩ = some (.int .i64 p.cost) ∧ w'.cell? ⟨bv, ov + vs.length * 3 + 2, none⟩ = some (.slice p.a p.n p.c))
      (first | exact ⟨y0, z0, z1, z2⟩ | go_keep) (fail)
    all_goals (go_wp2; go_meet)
    all_goals exact ⟨_, rfl, ((Below.refl _ _).alloc (Nat.le_refl _) _).drew, Nat.le_refl _, Blk.new _ _ _⟩
  case rest =>
    obtain ⟨Y, rfl, hb2, hY, bY⟩ := hcut
    have y0 := (hb2.cell (p := ⟨Q, 0, none⟩) hlQ).trans y0
    have fQ := (hb2.frozen (p := ⟨Q, 0, none⟩) hlQ).trans fQ
    have hlQ2 : Q < wc.heap.size := Nat.lt_of_lt_of_le hlQ hb2.size
    have hQY : Q ≠ Y := by omega
    have hQ0 : Q ≠ w.heap.size := by omega
    have h0Y : w.heap.size ≠ Y := by omega
    have HQ2 := Lib.hid (HQ.out.next hb2)
    have HB2 := Lib.hid (HB.out.trans (hb2.mono HB.out.size))
    have HBY := Lib.hid bY
    have HB02 := Lib.hid (HB0.out.next hb2)
    clear hb2 bY z0 z1 z2
    go_upto_region 2 with (fail)
    have hlc2 : vs.length ≤ c := by omega
    have hlc3 : (vs.length : Int) ≤ (c : Int) := by omega
    go_region_law (fail)
    all_goals go_upto_region 3 with (fail)
    all_goals refine world_gen (fun W' => Mod (· = Q) w W' ∧ Que base Q W' (some ⟨bv, ov, none⟩) c vs ∧ Blk W' Y 76 p.cells.toArray ∧ Blk W' w.heap.size 76 #[.string ⟨#[]⟩, .int .i64 0, .slice none 0 0]) ⟨((Mod.of_below HB2.out).set (S := (· = Q)) (p := ⟨Q, 0, none⟩) rfl _).next (Below.refl _ _).drew, (popped_que HQ2.out hlc2).next (Below.refl _ _).drew, (HBY.out.far (fun h => hQY h.symm) _).drew, (HB02.out.far (fun h => hQ0 h.symm) _).drew⟩ ?_
    all_goals clear y0 fQ HQ2 HB2 HBY HB02 hlQ2
    all_goals
      rintro W5 ⟨hm, hq5, bY, b0⟩
      obtain ⟨t0, t1, t2, hYl⟩ := bY.partIs
      have f0 := b0.free 0
      have f1 := b0.free 1
      have f2 := b0.free 2
      have g0 : W5.cell? ⟨w.heap.size, 0, none⟩ = some (.string ⟨#[]⟩) := b0.cell 0
      have g1 : W5.cell? ⟨w.heap.size, 1, none⟩ = some (.int .i64 0) := b0.cell 1
      have g2 : W5.cell? ⟨w.heap.size, 2, none⟩ = some (.slice none 0 0) := b0.cell 2
      have hl0 := b0.lt
      have HM := Lib.hid hm
      have HQ5 := Lib.hid hq5
      clear hm hq5 bY b0
      go_wp2_with fail
      refine bodyPost_ret (v := p.agg) (by simp [results, Try.results32, go_sem, f0, f1, f2, g0, g1, g2]) rfl ⟨rfl, ?_, ?_⟩
      · exact ((HM.out.setNew (p := ⟨w.heap.size, 0, none⟩) (Nat.le_refl _) _).setNew (p := ⟨w.heap.size, 1, none⟩) (Nat.le_refl _) _).setNew (p := ⟨w.heap.size, 2, none⟩) (Nat.le_refl _) _
      · have hbw : bv ≠ w.heap.size := by
          have := hq.row.lt bv rfl
          omega
        exact ((HQ5.out.farQ (p := ⟨w.heap.size, 0, none⟩) hQ0 hbw _).farQ (p := ⟨w.heap.size, 1, none⟩) hQ0 hbw _).farQ (p := ⟨w.heap.size, 2, none⟩) hQ0 hbw _
end Go.Proofs.Ythcnnadggffjhaa
