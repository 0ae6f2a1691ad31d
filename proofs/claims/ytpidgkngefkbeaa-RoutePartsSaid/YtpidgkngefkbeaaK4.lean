/- The walk of RouteParts. -/
import Derived.Test.YtpidgkngefkbeaaK0
set_option linter.unusedVariables false
set_option linter.unusedSimpArgs false
namespace Go.Proofs.Ytpidgkngefkbeaa
open Go.RowKit

/-- behind the walk: the scheme, the list, the whole run's box -/
structure PW (s : Scheme) (S : Nat) (A : Option Addr) (c : Nat) (B : Option Addr) (l : List Nat) (k Y : Nat) (w W : World) : Prop where
  sw : SW s S A c w W
  list : SlAt vN (fun _ => True) W B l
  run : Blk W Y 41 #[.string (sumR s.rules l).inp, .string (sumR s.rules l).out, .int .i64 (sumR s.rules l).cost, .int .i64 k, .bool true]
theorem PW.next {s : Scheme} {S : Nat} {A : Option Addr} {c : Nat} {B : Option Addr} {l : List Nat} {k Y : Nat} {w W W' : World} (h : PW s S A c B l k Y w W) (hb : Below W.heap.size W W') : PW s S A c B l k Y w W' := ⟨h.sw.next hb, Reads.below h.list hb, h.run.next hb⟩

set_option maxHeartbeats 2000000 in
set_option maxRecDepth 100000 in
theorem parts_any (b dr w0 wb : Nat) (more : List RawRule) (A A' : Option Addr) (c c' : Nat) (l : List Nat) (w : World) (hb8 : b < 256) (hd8 : dr < 256) (h08 : w0 < 256) (h18 : wb < 256) (hR : RawAt (· < w.heap.size) w A more) (hwf : ∀ r ∈ more, r.wf) (hml : more.length ≤ maxLen)
    (hL : SlAt v8 (· < w.heap.size) w A' l) (hl8 : ∀ x ∈ l, x < 256) (hl : l.length ≤ maxLen) :
    Calls Try.prog 4 #[.agg #[.int .u8 b, .int .u8 dr, .slice A more.length c], .agg #[.int .u8 w0, .int .u8 wb], .slice A' l.length c'] w (RetTrue w) := by
  go_enter Try.func4, Try.ntmps4
  go_upto_region 1 with (fail)
  refine world_gen (fun W => Below w.heap.size w W ∧ Blk W w.heap.size 24 #[.int .u8 b, .int .u8 dr, .slice A more.length c] ∧ Blk W (w.heap.size + 1) 25 #[.int .u8 w0, .int .u8 wb])
    ⟨((Below.refl _ _).alloc (Nat.le_refl _) _).alloc (by simp) _, (Blk.new _ _ _).alloc _, Blk.new2 _ _ _ _⟩ ?_
  rintro W ⟨hbel, b0, b1⟩
  go_wp2_with fail
  refine (sanity_any _).mono ?_
  rintro e w1 ⟨rfl, hb1⟩
  have hbel1 := hbel.trans (hb1.mono hbel.size)
  have b01 := b0.next hb1
  have b11 := b1.next hb1
  have x0 : w1.cell? ⟨w.heap.size, 0, none⟩ = some (.int .u8 b) := b01.cell 0
  have x1 : w1.cell? ⟨w.heap.size, 1, none⟩ = some (.int .u8 dr) := b01.cell 1
  have x2 : w1.cell? ⟨w.heap.size, 2, none⟩ = some (.slice A more.length c) := b01.cell 2
  have y0 : w1.cell? ⟨w.heap.size + 1, 0, none⟩ = some (.int .u8 w0) := b11.cell 0
  have y1 : w1.cell? ⟨w.heap.size + 1, 1, none⟩ = some (.int .u8 wb) := b11.cell 1
  have hlt0 := b01.lt
  have hlt1 := b11.lt
  clear b0 b1 b01 b11 hbel hb1
  go_wp2_with fail
  refine (made3_any (· < w.heap.size) b dr w0 wb more A c _ (fun k hk => by have := hbel1.size; omega) (RawAt.lower hR (fun _ h => h) hbel1) hwf hb8 hd8 h08 h18 hml).mono ?_
  rintro e w2 ⟨A2, c2, rfl, hb2, hacc⟩
  have hok := made3_ok b dr more w0 wb
  have hbel2 := hbel1.trans (hb2.mono hbel1.size)
  clear x0 x1 x2 y0 y1 hlt0 hlt1 hbel1 hb2 hR hwf hml
  generalize made3 b dr more w0 wb = s at *
  go_upto_region 3 with (fail)
  refine world_gen (SW s w2.heap.size A2 c2 w) ⟨hbel2.alloc hbel2.size _, Blk.new _ _ _, (Reads.below (Acc.reads hacc) (below_one _ _)).mono (fun _ _ => trivial)⟩ ?_
  clear hacc hbel2
  generalize w2.heap.size = S at *
  intro W3 h3
  obtain ⟨x0, x1, x2, hlt⟩ := h3.cells
  have HL := Reads.below hL h3.bel
  have H3 := Lib.hid h3
  have HOK := Lib.hid hok
  have hn9 := hok.n9
  clear h3 hok hL
  go_wp2_with fail
  refine (walk_10 _ _ s.modes s.accept A2 A' c2 c' s.rules l _ H3.out.rules HL hl8 hl (by omega)).mono ?_
  rintro e w4 ⟨B, d, l', k, rfl, hb4, hr4, hp, hl10, hld⟩
  have h4 := H3.out.next hb4
  obtain ⟨x0, x1, x2, hlt⟩ := h4.cells
  have H4 := Lib.hid h4
  have HR4 := Lib.hid hr4
  have HP := Lib.hid hp
  clear h4 hr4 hp H3 HL hb4
  go_wp2_with fail
  refine (run_fit _ _ s A2 B c2 d k l' _ HOK.out H4.out.rules HR4.out (by omega) HP.out).mono ?_
  rintro e w5 ⟨rfl, hb5⟩
  have HB5 := Lib.hid hb5
  clear hb5 x0 x1 x2 hlt
  go_upto_region 5 with (fail)
  refine world_gen (PW s S A2 c2 B l' k w5.heap.size w) ⟨(H4.out.next HB5.out).next (below_one _ _), (Reads.below (Reads.below HR4.out HB5.out) (below_one _ _)).mono (fun _ _ => trivial), Blk.new _ _ _⟩ ?_
  clear H4 HR4 HB5
  generalize w5.heap.size = Y at *
  intro W6 h6
  have z3 : W6.cell? ⟨Y, 3, none⟩ = some (.int .i64 k) := h6.run.cell 3
  have z4 : W6.cell? ⟨Y, 4, none⟩ = some (.bool true) := h6.run.cell 4
  have hY := h6.run.lt
  have H6 := Lib.hid h6
  clear h6
  go_wp2_with fail
  clear z3 z4 hY
  go_loopw [12, 13, 14, 15] (fun x y z i wr => ∃ j : Nat, j ≤ l'.length + 1 ∧ i = .int .i64 j ∧ x = .string (sumR s.rules (l'.take j)).inp ∧ y = .string (sumR s.rules (l'.take j)).out ∧ z = .int .i64 (sumR s.rules (l'.take j)).cost ∧ PW s S A2 c2 B l' k Y w wr) (fun _ _ _ i _ => l'.length + 1 - (intOf i).toNat)
  case atStart => exact ⟨0, Nat.zero_le _, rfl, rfl, rfl, rfl, H6.out⟩
  case round =>
    clear H6 W6
    obtain ⟨j, hj, rfl, rfl, rfl, rfl, hW⟩ := hrel
    have hbd := sumR_bnd HOK.out.bnd l' (pathTo_in HP.out) j
    obtain ⟨hbd1, hbd2, hbd3⟩ := hbd
    by_cases hjl : j ≤ l'.length
    · go_upto_region 11 with (fail)
      obtain ⟨k', hk'⟩ := pathTo_take HP.out j
      have HK := Lib.hid hk'
      clear hk'
      go_cut [16] (fun v wx => ∃ Z, v = .pointer (some ⟨Z, 0, none⟩) ∧ PW s S A2 c2 B l' k Y w wx ∧ Blk wx Z 41 #[.string (sumR s.rules (l'.take j)).inp, .string (sumR s.rules (l'.take j)).out, .int .i64 (sumR s.rules (l'.take j)).cost, .int .i64 k', .bool true])
      case first =>
        obtain ⟨x0, x1, x2, hlt⟩ := hW.sw.cells
        have HW := Lib.hid hW
        have hjd : j ≤ d := by omega
        clear hW
        go_region_law (first | (go_simp; go_at_call 15; refine (run_fitN (fun _ => True) (fun _ => True) s A2 B c2 d k' (l'.take j) j _ HOK.out (by first | exact (HW.out.next ((Below.refl _ _).drew)).sw.rules | exact (HW.out.next ((below_one _ _).drew)).sw.rules) (by first | exact SlAt.take (HW.out.next ((Below.refl _ _).drew)).list j | exact SlAt.take (HW.out.next ((below_one _ _).drew)).list j) (by simp; omega) HK.out (by simp; omega)).mono ?_; rintro e w2 ⟨rfl, hb2⟩; first | (have b16 : Blk w2 wr.heap.size 41 #[.string ⟨#[]⟩, .string ⟨#[]⟩, .int .i64 0, .int .i64 0, .bool false] := (Blk.drew (Blk.new _ _ _)).next hb2; obtain ⟨⟨u0, u1, u2, u3, u4⟩, v0, v1, v2, v3, v4, hb16⟩ := b16.five; have B16 := Lib.hid b16; clear b16) | skip))
        all_goals (go_wp2; go_meet)
        all_goals first
          | exact ⟨w2.heap.size, rfl, HW.out.next (((Below.refl wr.heap.size wr).drew.trans hb2).alloc hb2.size _), Blk.new _ _ _⟩
          | exact ⟨wr.heap.size, rfl, HW.out.next (below_five ((below_one wr _).drew.trans (hb2.mono (by simp))) (Nat.le_refl _) _ _ _ _ _), B16.out.five_set _ _ _ _ _⟩
      case rest =>
        obtain ⟨Z, rfl, hPW, bZ⟩ := hcut
        have HPW := Lib.hid hPW
        obtain ⟨⟨z0, z1, z2, z3, z4⟩, _, _, _, _, _, hzlt⟩ := bZ.five
        clear hPW bZ hW
        by_cases hj2 : j < l'.length
        · obtain ⟨bb, ob, rfl⟩ := Reads.some_ HPW.out.list (by simp; omega)
          obtain ⟨q, hq⟩ : ∃ q, l'[j]? = some q := ⟨_, List.getElem?_eq_getElem hj2⟩
          have hqn : q < s.rules.length := pathTo_in HP.out q (List.mem_of_getElem? hq)
          obtain ⟨r, hr⟩ : ∃ r, s.rules[q]? = some r := ⟨_, List.getElem?_eq_getElem hqn⟩
          have hsn := sumR_snoc hq hr
          have hrb := HOK.out.bnd r (List.mem_of_getElem? hr)
          obtain ⟨hrb1, hrb2, hrb3⟩ := hrb
          obtain ⟨_, hbb, hqc⟩ := SlAt.got (f := vN) HPW.out.list hq
          have hqc' : wc.cell? ⟨bb, ob + j, none⟩ = some (.int .i64 (q : Int)) := hqc
          obtain ⟨br, or, rfl⟩ := Reads.some_ HPW.out.sw.rules (by rw [cells_length]; omega)
          obtain ⟨_, hbr, _, _, r2, r3, r4⟩ := RulesAt.got HPW.out.sw.rules hr
          obtain ⟨x0, x1, x2, hlt⟩ := HPW.out.sw.cells
          have HSN := Lib.hid hsn
          clear hqc hq hr hsn
          have hq0 : (0 : Int) ≤ (q : Int) := by omega
          have hq1 : (q : Int) < (s.rules.length : Int) := by omega
          have hj0 : (0 : Int) ≤ (j : Int) := by omega
          have hj1 : (j : Int) < (l'.length : Int) := by omega
          go_wp2_with fail
          go_quiet (fail)
          go_wp2_with fail
          go_quiet (fail)
          go_wp2_with fail
          go_quiet (fail)
          go_wp2_with fail
          go_roundw
          case rel => exact ⟨j + 1, by omega, by go_num, by rw [HSN.out]; rfl, by rw [HSN.out]; rfl, by rw [HSN.out]; simp [RunR.add], HPW.out.next (below_drewN (Below.refl _ _) _)⟩
          case measure => simp [intOf]; omega
        · have htk : l'.take (j + 1) = l'.take j := by rw [List.take_of_length_le (by omega), List.take_of_length_le (by omega)]
          have HTK := Lib.hid htk
          clear htk
          go_wp2_with fail
          go_roundw
          case rel => exact ⟨j + 1, by omega, by go_num, by rw [HTK.out], by rw [HTK.out], by rw [HTK.out], HPW.out⟩
          case measure => simp [intOf]; omega
    · obtain rfl : j = l'.length + 1 := by omega
      rw [List.take_of_length_le (by omega)]
      rw [List.take_of_length_le (by omega)] at hbd1 hbd2 hbd3
      have z0 : wr.cell? ⟨Y, 0, none⟩ = some (.string (sumR s.rules l').inp) := hW.run.cell 0
      have z1 : wr.cell? ⟨Y, 1, none⟩ = some (.string (sumR s.rules l').out) := hW.run.cell 1
      have z2 : wr.cell? ⟨Y, 2, none⟩ = some (.int .i64 (sumR s.rules l').cost) := hW.run.cell 2
      have hY := hW.run.lt
      have hbel := hW.sw.bel
      clear hW
      go_wp2_with fail
      go_ret
      exact ⟨rfl, hbel⟩
end Go.Proofs.Ytpidgkngefkbeaa
