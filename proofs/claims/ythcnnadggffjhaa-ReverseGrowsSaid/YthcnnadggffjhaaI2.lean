/- The walks of cmp.Or, part.compare and what push hands to the search. -/
import Derived.Test.YthcnnadggffjhaaQ1
import Derived.Deep.RegionHeld3
set_option linter.unusedVariables false
set_option linter.unusedSimpArgs false
namespace Go.Proofs.Ythcnnadggffjhaa
open Go.RowKit

set_option maxHeartbeats 1000000 in
theorem or2_any (b : Nat) (x y : Int) (w : World) (hb : Blk w b 3 #[.int .i64 x, .int .i64 y]) :
    Calls Try.prog 49 #[.slice (some ⟨b, 0, none⟩) 2 2] w fun e w' => e = .returned (.int .i64 (orI x y)) ∧ w' = w := by
  have x0 : w.cell? ⟨b, 0, none⟩ = some (.int .i64 x) := hb.cell 0
  have x1 : w.cell? ⟨b, 1, none⟩ = some (.int .i64 y) := hb.cell 1
  clear hb
  by_cases hx : x = 0
  · have d1 : (x != 0) = false := by simp [hx]
    have ho : orI x y = y := by simp [orI, hx]
    have HO := Lib.hid ho
    by_cases hy : y = 0
    · have d2 : (y != 0) = false := by simp [hy]
      have HY := Lib.hid hy
      clear hx hy ho
      go_enter Try.func49, Try.ntmps49
      go_wp2
      go_loop [8] (fun z => z = .int .i64 0 ∨ z = .int .i64 1 ∨ z = .int .i64 2) (fun z => 2 - (intOf z).toNat)
      case atStart => exact .inl rfl
      case round =>
        rcases hrel with rfl | rfl | rfl
        · go_wp2
          go_round
          case rel => exact .inr (.inl rfl)
          case measure => simp [intOf]
        · go_wp2
          go_round
          case rel => exact .inr (.inr rfl)
          case measure => simp [intOf]
        · go_wp2
          go_ret
          exact ⟨ret_i (by rw [HO.out, HY.out]), rfl⟩
    · have d2 : (y != 0) = true := by simp [hy]
      clear hx hy ho
      go_enter Try.func49, Try.ntmps49
      go_wp2
      go_loop [8] (fun z => z = .int .i64 0 ∨ z = .int .i64 1) (fun z => 2 - (intOf z).toNat)
      case atStart => exact .inl rfl
      case round =>
        rcases hrel with rfl | rfl
        · go_wp2
          go_round
          case rel => exact .inr rfl
          case measure => simp [intOf]
        · go_wp2
          go_ret
          exact ⟨ret_i (by rw [HO.out]), rfl⟩
  · have d1 : (x != 0) = true := by simp [hx]
    have ho : orI x y = x := by simp [orI, hx]
    have HO := Lib.hid ho
    clear hx ho
    go_enter Try.func49, Try.ntmps49
    go_wp2
    go_loop [8] (fun z => z = .int .i64 0) (fun z => 2 - (intOf z).toNat)
    case atStart => rfl
    case round =>
      subst hrel
      go_wp2
      go_ret
      exact ⟨ret_i (by rw [HO.out]), rfl⟩
set_option maxHeartbeats 2000000 in
theorem partCompare_any (p q : PartV) (w : World) (hp : p.inp.size ≤ 1000000) (hq : q.inp.size ≤ 1000000) :
    Calls Try.prog 31 #[p.agg, q.agg] w fun e w' => e = .returned (.int .i64 (p.key q)) ∧ Below w.heap.size w w' := by
  obtain ⟨i1, c1, a1, n1, k1, s1⟩ := p
  obtain ⟨i2, c2, a2, n2, k2, s2⟩ := q
  simp only at hp hq
  go_enter Try.func31, Try.ntmps31
  go_upto_region 1 with (fail)
  refine world_gen (fun W => Below w.heap.size w W ∧ Blk W w.heap.size 76 #[.string i1, .int .i64 c1, .slice a1 n1 k1] ∧ Blk W (w.heap.size + 1) 76 #[.string i2, .int .i64 c2, .slice a2 n2 k2])
    ⟨((Below.refl _ _).alloc (Nat.le_refl _) _).alloc (by simp) _, (Blk.new _ _ _).alloc _, Blk.new2 _ _ _ _⟩ ?_
  rintro W ⟨hbel, b0, b1⟩
  have x0 : W.cell? ⟨w.heap.size, 0, none⟩ = some (.string i1) := b0.cell 0
  have x1 : W.cell? ⟨w.heap.size, 1, none⟩ = some (.int .i64 c1) := b0.cell 1
  have y0 : W.cell? ⟨w.heap.size + 1, 0, none⟩ = some (.string i2) := b1.cell 0
  have y1 : W.cell? ⟨w.heap.size + 1, 1, none⟩ = some (.int .i64 c2) := b1.cell 1
  have hl0 := b0.lt
  have hl1 := b1.lt
  have HB := Lib.hid hbel
  clear hbel b0 b1
  go_region_held3 (fun w' => w'.cell? ⟨w.heap.size, 0, none⟩ = some (.string i1) ∧ w'.cell? ⟨w.heap.size, 1, none⟩ = some (.int .i64 c1) ∧ w'.cell? ⟨w.heap.size + 1, 0, none⟩ = some (.string i2) ∧ w'.cell? ⟨w.heap.size + 1, 1, none⟩ = some (.int .i64 c2))
    (first | exact ⟨x0, x1, y0, y1⟩ | go_keep)
    (first
      | (go_at_call 50; (with_reducible refine (cmp_any c1 c2 _).mono ?_); rintro e w2 ⟨rfl, rfl⟩)
      | (go_at_call 50; (with_reducible refine (cmp_any i1.size i2.size _).mono ?_); rintro e w2 ⟨rfl, rfl⟩)
      | (go_at_call 49; refine (or2_any W.heap.size _ _ _ (by first | exact Blk.new _ _ _ | exact (Blk.new _ _ _).alloc _)).mono ?_; rintro e w3 ⟨rfl, rfl⟩))
  all_goals go_wp2
  all_goals go_ret
  all_goals exact ⟨rfl, by first | exact (below_drewN HB.out _).alloc HB.out.size _ | exact HB.out.drew.alloc HB.out.size _⟩
end Go.Proofs.Ythcnnadggffjhaa
