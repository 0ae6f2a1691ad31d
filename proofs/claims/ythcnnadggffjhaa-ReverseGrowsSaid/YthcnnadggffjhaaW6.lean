/- The walk of the reference of layer 2: Made1. -/
import Derived.Test.YthcnnadggffjhaaWA
import Derived.Test.YthcnnadggffjhaaLA
import Derived.StillTactics
import Derived.StillTailTactics
set_option linter.unusedVariables false
set_option linter.unusedSimpArgs false
namespace Go.Proofs.Ythcnnadggffjhaa
open Go.RowKit

/-- what is known of the world while 'Made1' works: w is the world in which it began, x and y are the texts so far -/
def MadeW (r : RawRule) (A1 A2 : Option Addr) (c1 c2 m : Nat) (x y : ByteArray) (w W : World) : Prop :=
  Below w.heap.size w W ∧ Blk W w.heap.size 63 #[.slice A1 r.inp.length c1, .slice A2 r.out.length c2, .int .u8 r.frm, .int .u8 r.dst, .int .u8 r.cost] ∧
    Blk W (w.heap.size + 1) 65 #[.int .i64 0, .int .i64 0, .string ⟨#[]⟩, .string ⟨#[]⟩, .int .i64 0] ∧
    Blk W (w.heap.size + 1 + 1) 65 #[.int .i64 ((r.frm : Int) % (m : Int)), .int .i64 ((r.dst : Int) % (m : Int)), .string x, .string y, .int .i64 ((r.cost : Int) * 2)]

theorem take_map_snoc {T : Type} (f : Nat → T) (l : List Nat) (k : Nat) (hk : k < l.length) : (l.take (k + 1)).map f = (l.take k).map f ++ [f l[k]] := by
  rw [List.take_succ_eq_append_getElem hk, List.map_append]; rfl
theorem made_step1 {r : RawRule} {A1 A2 : Option Addr} {c1 c2 m k : Nat} {x y : ByteArray} {c : UInt8} {w W : World} (hx : x = ⟨((r.inp.take k).map pick3).toArray⟩) (hk : k < r.inp.length) (hp : pick3 r.inp[k] = c)
    (h : MadeW r A1 A2 c1 c2 m x y w W) : MadeW r A1 A2 c1 c2 m ⟨((r.inp.take (k + 1)).map pick3).toArray⟩ y w ((W.setCell ⟨w.heap.size + 1 + 1, 2, none⟩ (.string (x ++ ⟨#[c]⟩))).drew) := by
  obtain ⟨h0, h1, h2, h3⟩ := h
  have e : x ++ ⟨#[c]⟩ = ⟨((r.inp.take (k + 1)).map pick3).toArray⟩ := by
    rw [take_map_snoc _ _ _ hk, hp, hx, show (⟨#[c]⟩ : ByteArray) = ⟨[c].toArray⟩ from rfl, ByteArray.mk_append_mk]
  rw [e]
  exact ⟨(h0.setCell (p := ⟨w.heap.size + 1 + 1, 2, none⟩) (by simp; omega) _).drew, (h1.far (by simp; omega) _).drew, (h2.far (by simp) _).drew, (h3.set 2 _).drew⟩

theorem made_step2 {r : RawRule} {A1 A2 : Option Addr} {c1 c2 m k : Nat} {x y : ByteArray} {c : UInt8} {w W : World} (hx : y = ⟨((r.out.take k).map pick6).toArray⟩) (hk : k < r.out.length) (hp : pick6 r.out[k] = c)
    (h : MadeW r A1 A2 c1 c2 m x y w W) : MadeW r A1 A2 c1 c2 m x ⟨((r.out.take (k + 1)).map pick6).toArray⟩ w ((W.setCell ⟨w.heap.size + 1 + 1, 3, none⟩ (.string (y ++ ⟨#[c]⟩))).drew) := by
  obtain ⟨h0, h1, h2, h3⟩ := h
  have e : y ++ ⟨#[c]⟩ = ⟨((r.out.take (k + 1)).map pick6).toArray⟩ := by
    rw [take_map_snoc _ _ _ hk, hp, hx, show (⟨#[c]⟩ : ByteArray) = ⟨[c].toArray⟩ from rfl, ByteArray.mk_append_mk]
  rw [e]
  exact ⟨(h0.setCell (p := ⟨w.heap.size + 1 + 1, 3, none⟩) (by simp; omega) _).drew, (h1.far (by simp; omega) _).drew, (h2.far (by simp) _).drew, (h3.set 3 _).drew⟩

set_option maxHeartbeats 2000000 in
set_option maxRecDepth 100000 in
theorem made1_any (F : Nat → Prop) (r : RawRule) (A1 A2 : Option Addr) (c1 c2 m : Nat) (w : World) (h1 : SlAt v8 F w A1 r.inp) (h2 : SlAt v8 F w A2 r.out) (hm : 1 ≤ m) (hm8 : m ≤ 8)
    (hf : r.frm < 256) (ht : r.dst < 256) (hc : r.cost < 256) (hl1 : r.inp.length ≤ maxLen) (hl2 : r.out.length ≤ maxLen) (hb1 : ∀ c ∈ r.inp, c < 256) (hb2 : ∀ c ∈ r.out, c < 256) :
    Calls Try.prog 24 #[.agg #[.slice A1 r.inp.length c1, .slice A2 r.out.length c2, .int .u8 r.frm, .int .u8 r.dst, .int .u8 r.cost], .int .i64 m] w fun e w' => e = .returned (r.made m).agg ∧ Below w.heap.size w w' := by
  unfold maxLen at hl1 hl2
  have hm0 : ¬ m = 0 := by omega
  have e1 : IntKind.i64.wrap (r.frm : Int) = r.frm := IntWalk.i64_in _ (by omega)
  have e2 : IntKind.i64.wrap (r.dst : Int) = r.dst := IntWalk.i64_in _ (by omega)
  have e3 : IntKind.i64.wrap (r.cost : Int) = r.cost := IntWalk.i64_in _ (by omega)
  have e4 : IntKind.i64.wrap ((r.cost : Int) * 2) = (r.cost : Int) * 2 := IntWalk.i64_in _ (by omega)
  go_enter Try.func24, Try.ntmps24
  go_wp2_with fail
  go_region_held3 (fun w' => w'.cell? ⟨w.heap.size, 2, none⟩ = some (.int .u8 r.frm) ∧ w'.cell? ⟨w.heap.size, 3, none⟩ = some (.int .u8 r.dst) ∧ w'.cell? ⟨w.heap.size, 4, none⟩ = some (.int .u8 r.cost))
    (go_keep) (fail)
  go_wp2_with fail
  refine world_gen (MadeW r A1 A2 c1 c2 m .empty .empty w) ?_ ?_
  · refine ⟨(((Below.refl _ _).alloc (Nat.le_refl _) _).alloc (by simp) _).alloc (by simp; omega) _ |>.drew, ?_, ?_, ?_⟩
    · exact (((Blk.new _ _ _).alloc _).alloc _).drew
    · exact ((show Blk _ (w.heap.size + 1) _ _ from by rw [show w.heap.size + 1 = (w.alloc _).heap.size from (by simp)]; exact Blk.new _ _ _).alloc _).drew
    · exact (show Blk _ (w.heap.size + 1 + 1) _ _ from by rw [show w.heap.size + 1 + 1 = ((w.alloc _).alloc _).heap.size from (by simp)]; exact Blk.new _ _ _).drew
  intro W hW
  go_loopw [6] (fun x wr => ∃ k : Nat, k ≤ r.inp.length ∧ k ≤ 2 ∧ x = .int .i64 k ∧ MadeW r A1 A2 c1 c2 m ⟨((r.inp.take k).map pick3).toArray⟩ .empty w wr) (fun x _ => 2 - (intOf x).toNat)
  case atStart => exact ⟨0, by omega, by omega, rfl, hW⟩
  case round =>
    clear hW
    obtain ⟨k, hk, hk2, rfl, hbel, b0, b1, b2⟩ := hrel
    by_cases hin : (k : Int) < (r.inp.length : Int) ∧ (k : Int) < 2
    · obtain ⟨hl, h2⟩ := hin
      have hkl : k < r.inp.length := by omega
      obtain ⟨b, o, rfl, hF, hbs, hcell⟩ := (SlAt.below h1 hbel).at_ hkl
      have d0 : wr.cell? ⟨w.heap.size, 0, none⟩ = some (.slice (some ⟨b, o, none⟩) r.inp.length c1) := b0.cell 0
      obtain ⟨x, hx⟩ : ∃ x : ByteArray, x = ⟨((r.inp.take k).map pick3).toArray⟩ := ⟨_, rfl⟩
      have hxs : x.size ≤ 2 := by rw [hx]; simp [ByteArray.size]; omega
      rw [← hx] at b2
      have HX := Lib.hid hx
      clear hx
      have d2 : wr.cell? ⟨w.heap.size + 1 + 1, 2, none⟩ = some (.string x) := b2.cell 2
      have f2 : wr.frozen? ⟨w.heap.size + 1 + 1, 2, none⟩ = false := b2.free 2
      have hc9 : r.inp[k] < 256 := hb1 _ (List.getElem_mem hkl)
      have B0 := Lib.hid b0
      have B1 := Lib.hid b1
      have B2 := Lib.hid b2
      clear b0 b1 b2
      have hadd := fun (c : UInt8) (W : World) => run_string_add_sum (P := Try.prog) W x ⟨#[c]⟩ (by have : (ByteArray.mk #[c]).size = 1 := rfl; omega)
      have h3 : (r.inp[k] : Int) % 3 = 0 ∨ (r.inp[k] : Int) % 3 = 1 ∨ (r.inp[k] : Int) % 3 = 2 := by omega
      rcases h3 with h3 | h3 | h3
      · have hp : pick3 r.inp[k] = 97 := by unfold pick3; rw [if_pos (by omega)]
        go_wp2_with fail
        go_still_tail 18, (by kernel_rfl)
        change wpList _ _ _ _ _ wr.drew
        go_wp2
        go_roundw
        case rel => exact ⟨k + 1, by omega, by omega, by go_num, made_step1 HX.out hkl hp ⟨hbel, B0.out, B1.out, B2.out⟩⟩
        case measure => simp [intOf]; omega
      · have hp : pick3 r.inp[k] = 98 := by unfold pick3; rw [if_neg (by omega)]; rw [if_pos (by omega)]
        go_wp2_with fail
        go_still_tail 18, (by kernel_rfl)
        change wpList _ _ _ _ _ wr.drew
        go_wp2
        go_roundw
        case rel => exact ⟨k + 1, by omega, by omega, by go_num, made_step1 HX.out hkl hp ⟨hbel, B0.out, B1.out, B2.out⟩⟩
        case measure => simp [intOf]; omega
      · have hp : pick3 r.inp[k] = 99 := by unfold pick3; rw [if_neg (by omega)]; rw [if_neg (by omega)]
        go_wp2_with fail
        go_still_tail 18, (by kernel_rfl)
        change wpList _ _ _ _ _ wr.drew
        go_wp2
        go_roundw
        case rel => exact ⟨k + 1, by omega, by omega, by go_num, made_step1 HX.out hkl hp ⟨hbel, B0.out, B1.out, B2.out⟩⟩
        case measure => simp [intOf]; omega
    · have hX : (r.inp.take k).map pick3 = (r.inp.take 2).map pick3 := by
        rcases Nat.lt_or_ge k 2 with h | h
        · rw [List.take_of_length_le (by omega), List.take_of_length_le (by omega)]
        · rw [show k = 2 from by omega]
      rw [hX] at b2
      clear hX
      have hW : MadeW r A1 A2 c1 c2 m ⟨((r.inp.take 2).map pick3).toArray⟩ .empty w wr := ⟨hbel, b0, b1, b2⟩
      have d0 : wr.cell? ⟨w.heap.size, 0, none⟩ = some (.slice A1 r.inp.length c1) := b0.cell 0
      have HW := Lib.hid hW
      clear hW b0 b1 b2 hbel
      rcases Int.lt_or_le (k : Int) (r.inp.length : Int) with hl | hl
      all_goals
        go_wp2_with fail
        clear d0
        obtain ⟨X, hXX⟩ : ∃ X : ByteArray, X = ⟨((r.inp.take 2).map pick3).toArray⟩ := ⟨_, rfl⟩
        rw [← hXX] at HW
        have HXX := Lib.hid hXX
        clear hXX hin hk hk2 hl
        obtain ⟨w0, hw0⟩ : ∃ w0 : World, w0 = wr := ⟨_, rfl⟩
        subst hw0
        go_loopw [7] (fun x wr => ∃ k : Nat, k ≤ r.out.length ∧ k ≤ 2 ∧ x = .int .i64 k ∧ MadeW r A1 A2 c1 c2 m X ⟨((r.out.take k).map pick6).toArray⟩ w wr) (fun x _ => 2 - (intOf x).toNat)
        case atStart => exact ⟨0, by omega, by omega, rfl, HW.out⟩
        case round =>
          clear HW
          obtain ⟨k, hk, hk2, rfl, hbel, b0, b1, b2⟩ := hrel
          by_cases hin : (k : Int) < (r.out.length : Int) ∧ (k : Int) < 2
          · obtain ⟨hl, h2⟩ := hin
            have hkl : k < r.out.length := by omega
            obtain ⟨b, o, rfl, hF, hbs, hcell⟩ := (SlAt.below ‹SlAt v8 F w A2 r.out› hbel).at_ hkl
            have d0 : wr.cell? ⟨w.heap.size, 1, none⟩ = some (.slice (some ⟨b, o, none⟩) r.out.length c2) := b0.cell 1
            obtain ⟨x, hx⟩ : ∃ x : ByteArray, x = ⟨((r.out.take k).map pick6).toArray⟩ := ⟨_, rfl⟩
            have hxs : x.size ≤ 2 := by rw [hx]; simp [ByteArray.size]; omega
            rw [← hx] at b2
            have HX := Lib.hid hx
            clear hx
            have d2 : wr.cell? ⟨w.heap.size + 1 + 1, 3, none⟩ = some (.string x) := b2.cell 3
            have f2 : wr.frozen? ⟨w.heap.size + 1 + 1, 3, none⟩ = false := b2.free 3
            have hc9 : r.out[k] < 256 := hb2 _ (List.getElem_mem hkl)
            have B0 := Lib.hid b0
            have B1 := Lib.hid b1
            have B2 := Lib.hid b2
            clear b0 b1 b2
            have hadd := fun (c : UInt8) (W : World) => run_string_add_sum (P := Try.prog) W x ⟨#[c]⟩ (by have : (ByteArray.mk #[c]).size = 1 := rfl; omega)
            have h3 : (r.out[k] : Int) % 6 = 0 ∨ (r.out[k] : Int) % 6 = 1 ∨ (r.out[k] : Int) % 6 = 2 ∨ (r.out[k] : Int) % 6 = 3 ∨ (r.out[k] : Int) % 6 = 4 ∨ (r.out[k] : Int) % 6 = 5 := by omega
            rcases h3 with h3 | h3 | h3 | h3 | h3 | h3
            · have hp : pick6 r.out[k] = 97 := by unfold pick6; rw [if_pos (by omega)]
              go_wp2_with fail
              go_still_tail 18, (by kernel_rfl)
              change wpList _ _ _ _ _ wr.drew
              go_wp2
              go_roundw
              case rel => exact ⟨k + 1, by omega, by omega, by go_num, made_step2 HX.out hkl hp ⟨hbel, B0.out, B1.out, B2.out⟩⟩
              case measure => simp [intOf]; omega
            · have hp : pick6 r.out[k] = 98 := by unfold pick6; rw [if_neg (by omega)]; rw [if_pos (by omega)]
              go_wp2_with fail
              go_still_tail 18, (by kernel_rfl)
              change wpList _ _ _ _ _ wr.drew
              go_wp2
              go_roundw
              case rel => exact ⟨k + 1, by omega, by omega, by go_num, made_step2 HX.out hkl hp ⟨hbel, B0.out, B1.out, B2.out⟩⟩
              case measure => simp [intOf]; omega
            · have hp : pick6 r.out[k] = 99 := by unfold pick6; rw [if_neg (by omega)]; rw [if_neg (by omega)]; rw [if_pos (by omega)]
              go_wp2_with fail
              go_still_tail 18, (by kernel_rfl)
              change wpList _ _ _ _ _ wr.drew
              go_wp2
              go_roundw
              case rel => exact ⟨k + 1, by omega, by omega, by go_num, made_step2 HX.out hkl hp ⟨hbel, B0.out, B1.out, B2.out⟩⟩
              case measure => simp [intOf]; omega
            · have hp : pick6 r.out[k] = 65 := by unfold pick6; rw [if_neg (by omega)]; rw [if_neg (by omega)]; rw [if_neg (by omega)]; rw [if_pos (by omega)]
              go_wp2_with fail
              go_still_tail 18, (by kernel_rfl)
              change wpList _ _ _ _ _ wr.drew
              go_wp2
              go_roundw
              case rel => exact ⟨k + 1, by omega, by omega, by go_num, made_step2 HX.out hkl hp ⟨hbel, B0.out, B1.out, B2.out⟩⟩
              case measure => simp [intOf]; omega
            · have hp : pick6 r.out[k] = 66 := by unfold pick6; rw [if_neg (by omega)]; rw [if_neg (by omega)]; rw [if_neg (by omega)]; rw [if_neg (by omega)]; rw [if_pos (by omega)]
              go_wp2_with fail
              go_still_tail 18, (by kernel_rfl)
              change wpList _ _ _ _ _ wr.drew
              go_wp2
              go_roundw
              case rel => exact ⟨k + 1, by omega, by omega, by go_num, made_step2 HX.out hkl hp ⟨hbel, B0.out, B1.out, B2.out⟩⟩
              case measure => simp [intOf]; omega
            · have hp : pick6 r.out[k] = 49 := by unfold pick6; rw [if_neg (by omega)]; rw [if_neg (by omega)]; rw [if_neg (by omega)]; rw [if_neg (by omega)]; rw [if_neg (by omega)]
              go_wp2_with fail
              go_still_tail 18, (by kernel_rfl)
              change wpList _ _ _ _ _ wr.drew
              go_wp2
              go_roundw
              case rel => exact ⟨k + 1, by omega, by omega, by go_num, made_step2 HX.out hkl hp ⟨hbel, B0.out, B1.out, B2.out⟩⟩
              case measure => simp [intOf]; omega
          · have hY : (r.out.take k).map pick6 = (r.out.take 2).map pick6 := by
              rcases Nat.lt_or_ge k 2 with h | h
              · rw [List.take_of_length_le (by omega), List.take_of_length_le (by omega)]
              · rw [show k = 2 from by omega]
            rw [hY] at b2
            clear hY
            have d0 : wr.cell? ⟨w.heap.size, 1, none⟩ = some (.slice A2 r.out.length c2) := b0.cell 1
            obtain ⟨Y, hYY⟩ : ∃ Y : ByteArray, Y = ⟨((r.out.take 2).map pick6).toArray⟩ := ⟨_, rfl⟩
            rw [← hYY] at b2
            have HYY := Lib.hid hYY
            clear hYY
            have q0 := b2.cell 0
            have q1 := b2.cell 1
            have q2 := b2.cell 2
            have q3 := b2.cell 3
            have q4 := b2.cell 4
            have p0 := b1.cell 0
            have p1 := b1.cell 1
            have p2 := b1.cell 2
            have p3 := b1.cell 3
            have p4 := b1.cell 4
            have f0 := b1.free 0
            have f1 := b1.free 1
            have f2 := b1.free 2
            have f3 := b1.free 3
            have f4 := b1.free 4
            clear b0 b1 b2
            simp at q0 q1 q2 q3 q4 p0 p1 p2 p3 p4
            rcases Int.lt_or_le (k : Int) (r.out.length : Int) with hl | hl
            all_goals
              go_wp2
              refine bodyPost_ret (v := .agg #[.int .i64 ((r.frm : Int) % (m : Int)), .int .i64 ((r.dst : Int) % (m : Int)), .string X, .string Y, .int .i64 ((r.cost : Int) * 2)]) (by simp [results, Try.results24, go_sem, p0, p1, p2, p3, p4, f0, f1, f2, f3, f4]) rfl ⟨?_, ?_⟩
              · rw [HXX.out, HYY.out]
                simp [RawRule.made, Rule.agg]
                omega
              · exact ((((hbel.setCell (p := ⟨_, _, none⟩) (by simp) _).setCell (p := ⟨_, _, none⟩) (by simp) _).setCell (p := ⟨_, _, none⟩) (by simp) _).setCell (p := ⟨_, _, none⟩) (by simp) _).setCell (p := ⟨_, _, none⟩) (by simp) _
end Go.Proofs.Ythcnnadggffjhaa
