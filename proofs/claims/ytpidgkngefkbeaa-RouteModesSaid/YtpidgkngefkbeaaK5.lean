/- The walk of RouteModes. -/
import Derived.Test.YtpidgkngefkbeaaK1
set_option linter.unusedVariables false
set_option linter.unusedSimpArgs false
namespace Go.Proofs.Ytpidgkngefkbeaa
open Go.RowKit

set_option maxHeartbeats 4000000 in
set_option maxRecDepth 100000 in
theorem modes_any (b dr w0 wb : Nat) (more : List RawRule) (A : Option Addr) (c : Nat) (A' : Option Addr) (c' : Nat) (l : List Nat) (w : World) (hb8 : b < 256) (hd8 : dr < 256) (h08 : w0 < 256) (h18 : wb < 256) (hR : RawAt (· < w.heap.size) w A more) (hwf : ∀ r ∈ more, r.wf) (hml : more.length ≤ maxLen)
    (hL : SlAt v8 (· < w.heap.size) w A' l) (hl8 : ∀ x ∈ l, x < 256) (hl : l.length ≤ maxLen) :
    Calls Try.prog 5 #[.agg #[.int .u8 b, .int .u8 dr, .slice A more.length c], .agg #[.int .u8 w0, .int .u8 wb], .slice A' l.length c'] w (RetTrue w) := by
  go_enter Try.func5, Try.ntmps5
  go_upto_region 1 with (fail)
  refine world_gen (fun W => Below w.heap.size w W ∧ Blk W w.heap.size 24 #[.int .u8 b, .int .u8 dr, .slice A more.length c] ∧ Blk W (w.heap.size + 1) 25 #[.int .u8 w0, .int .u8 wb])
    ⟨((Below.refl _ _).alloc (Nat.le_refl _) _).alloc (by simp) _, (Blk.new _ _ _).alloc _, Blk.new2 _ _ _ _⟩ ?_
  rintro W ⟨hbel, b0, b1⟩
  go_wp2_with fail
  refine (sanity_any _).mono ?_
  rintro e w1 ⟨rfl, hb1⟩
  have hbel1 := hbel.trans (hb1.mono hbel.size)
  have b01 := b0.next hb1
  have b11 := b1.next hb1
  have x0 : w1.cell? ⟨w.heap.size, 0, none⟩ = some (.int .u8 b) := b01.cell 0
  have x1 : w1.cell? ⟨w.heap.size, 1, none⟩ = some (.int .u8 dr) := b01.cell 1
  have x2 : w1.cell? ⟨w.heap.size, 2, none⟩ = some (.slice A more.length c) := b01.cell 2
  have y0 : w1.cell? ⟨w.heap.size + 1, 0, none⟩ = some (.int .u8 w0) := b11.cell 0
  have y1 : w1.cell? ⟨w.heap.size + 1, 1, none⟩ = some (.int .u8 wb) := b11.cell 1
  have hlt0 := b01.lt
  have hlt1 := b11.lt
  clear b0 b1 b01 hbel
  go_wp2_with fail
  refine (made3_any (· < w.heap.size) b dr w0 wb more A c _ (fun k hk => by have := hbel1.size; omega) (RawAt.lower hR (fun _ h => h) hbel1) hwf hb8 hd8 h08 h18 hml).mono ?_
  rintro e w2 ⟨A2s, c2s, rfl, hb2, hacc⟩
  have hok := made3_ok b dr more w0 wb
  have hbel2 := hbel1.trans (hb2.mono hbel1.size)
  have hb1' := b11.next hb2
  clear x0 x1 x2 y0 y1 hlt0 hlt1 hbel1 hb1 hb2 hR hwf hml b11
  generalize made3 b dr more w0 wb = s at *
  go_upto_region 3 with (fail)
  refine world_gen (fun W => SW s w2.heap.size A2s c2s w W ∧ Blk W (w.heap.size + 1) 25 #[.int .u8 w0, .int .u8 wb]) ⟨⟨hbel2.alloc hbel2.size _, Blk.new _ _ _, (Reads.below (Acc.reads hacc) (below_one _ _)).mono (fun _ _ => trivial)⟩, hb1'.alloc _⟩ ?_
  clear hacc hbel2 hb1'
  generalize w2.heap.size = S at *
  rintro W3 ⟨h3, hbx1⟩
  have H3 := Lib.hid h3
  have HX1 := Lib.hid hbx1
  have HOK := Lib.hid hok
  have hn9 := hok.n9
  have hm2 := hok.m2
  have hm5 := hok.m5
  clear hbx1 hok
  go_cut [9, 10] (fun x y wx => BothW s S A2s c2s w x y wx)
  case first =>
    have hD := below_drewN (Below.refl W3.heap.size W3) 1
    obtain ⟨x0, x1, x2, hlt⟩ := h3.cells
    clear h3
    go_region_law (first
      | (go_simp; go_at_call 20; refine (reached_s _ s A2s c2s _ HOK.out (by first | exact (H3.out.next hD).rules | exact (H3.out.next hWL).rules)).mono ?_; rintro e wR ⟨gR, VR, rfl, hbR, hgR, hrR, hlR, hiR⟩; have hWR : Below W3.heap.size W3 wR := (by first | exact hD.trans (hbR.mono hD.size) | exact hWL.trans (hbR.mono hWL.size)); obtain ⟨xR0, xR1, xR2, hltR⟩ := (H3.out.next hWR).cells)
      | (go_simp; go_at_call 22; refine (live_s _ s A2s c2s _ HOK.out (by first | exact (H3.out.next hD).rules | exact (H3.out.next hWR).rules)).mono ?_; rintro e wL ⟨gL, VL, rfl, hbL, hgL, hrL, hlL, hiL⟩; have hWL : Below W3.heap.size W3 wL := (by first | exact hD.trans (hbL.mono hD.size) | exact hWR.trans (hbL.mono hWR.size)); obtain ⟨xL0, xL1, xL2, hltL⟩ := (H3.out.next hWL).cells))
    all_goals (go_wp2; go_meet)
    all_goals first
      | exact bothW H3.out hWL (hrR.next hbL) hrL hlR hlL hiR hiL
      | exact bothW H3.out hWR hrR (hrL.next hbR) hlR hlL hiR hiL
  case rest =>
    clear h3 H3 HX1
    obtain ⟨g1, g2, V1, V2, rfl, rfl, hM, hB⟩ := hcut
    obtain ⟨f0, hf0, hf0'⟩ := flag_at hB.l1 hB.v1 hM.r1 (x := 0) (by omega)
    obtain rfl : f0 = true := hf0'.2 (.refl 0)
    obtain ⟨x0, x1, x2, hlt⟩ := hM.sw.cells
    have hlg := hM.r1.lt
    have hm0 : (0 : Int) < (s.modes : Int) := by omega
    have HM := Lib.hid hM
    have HB := Lib.hid hB
    clear hM hB hf0'
    go_wp2_with fail
    refine (walk_10 _ _ s.modes s.accept A2s A' c2s c' s.rules l _ HM.out.sw.rules (Reads.below hL HM.out.sw.bel) hl8 hl (by omega)).mono ?_
    rintro e w4 ⟨B, d, l', k, rfl, hb4, hr4, hp, hl10, hld⟩
    have H4 := Lib.hid (HM.out.next hb4)
    have HP := Lib.hid hp
    have hkm : k < s.modes := pathTo_lt HOK.out.inn (by omega) hp
    clear hr4 hp HM hb4 x0 x1 x2 hlt hlg hf0 hm0
    go_wp2_with fail
    go_loopw [13] (fun z wr => ∃ i : Nat, i ≤ s.rules.length ∧ z = .int .i64 i ∧ MW s S A2s c2s g1 g2 V1 V2 w wr) (fun z _ => s.rules.length - (intOf z).toNat)
    case atStart => exact ⟨0, Nat.zero_le _, rfl, H4.out⟩
    case round =>
      clear H4 w4
      obtain ⟨i, hi, rfl, hM⟩ := hrel
      obtain ⟨x0, x1, x2, hlt⟩ := hM.sw.cells
      have HM := Lib.hid hM
      clear hM
      by_cases hil : i < s.rules.length
      · obtain ⟨r, hr⟩ : ∃ r, s.rules[i]? = some r := ⟨_, List.getElem?_eq_getElem hil⟩
        obtain ⟨hrf, hrd⟩ := HOK.out.inn r (List.mem_of_getElem? hr)
        obtain ⟨br, or, rfl⟩ := Reads.some_ HM.out.sw.rules (by rw [cells_length]; omega)
        obtain ⟨_, hbr, r0, r1, r2, r3, r4⟩ := RulesAt.got HM.out.sw.rules hr
        obtain ⟨b1, hb1, hb1'⟩ := flag_at HB.out.l1 HB.out.v1 HM.out.r1 hrf
        obtain ⟨b2, hb2, hb2'⟩ := flag_at HB.out.l1 HB.out.v1 HM.out.r1 hrd
        obtain ⟨b3, hb3, hb3'⟩ := flag_at HB.out.l2 HB.out.v2 HM.out.r2 hrf
        obtain ⟨b4, hb4, hb4'⟩ := flag_at HB.out.l2 HB.out.v2 HM.out.r2 hrd
        have h12 : b1 = true → b2 = true := fun h => hb2'.2 (reached_rule (List.mem_of_getElem? hr) (hb1'.1 h))
        have h43 : b4 = true → b3 = true := fun h => hb3'.2 (live_rule (List.mem_of_getElem? hr) (hb4'.1 h))
        have hg1 := HM.out.r1.lt
        have hg2 := HM.out.r2.lt
        have hi1 : (r.frm : Int) < (s.modes : Int) := by omega
        have hi2 : (r.dst : Int) < (s.modes : Int) := by omega
        clear hr hb1' hb2' hb3' hb4'
        rcases b1 with _ | _ <;> rcases b4 with _ | _
        all_goals first | (obtain rfl := h12 rfl; clear h12) | clear h12
        all_goals first | (obtain rfl := h43 rfl; clear h43) | clear h43
        all_goals
          go_wp2_with fail
          go_roundw
          case rel => exact ⟨i + 1, by omega, by go_num, HM.out.next (below_one _ _)⟩
          case measure => simp [intOf]; omega
      · obtain rfl : i = s.rules.length := by omega
        go_wp2_with fail
        clear x0 x1 x2 hlt
        generalize wr = W9 at *
        go_loopw [15] (fun z wr => ∃ n : Nat, n ≤ s.modes ∧ z = .int .i64 n ∧ MW s S A2s c2s g1 g2 V1 V2 w wr) (fun z _ => s.modes - (intOf z).toNat)
        case atStart => exact ⟨0, Nat.zero_le _, rfl, HM.out⟩
        case round =>
          clear HM W9
          obtain ⟨n, hn, rfl, hM⟩ := hrel
          obtain ⟨x0, x1, x2, hlt⟩ := hM.sw.cells
          have HM := Lib.hid hM
          clear hM
          by_cases hnm : n < s.modes
          · go_wp2_with fail
            refine (least_s _ s A2s c2s _ HOK.out HM.out.sw.rules n hnm).mono ?_
            rintro e w5 ⟨hb5, hle⟩
            have h5 := HM.out.next hb5
            obtain ⟨y0, y1, y2, hlt5⟩ := h5.sw.cells
            have H5 := Lib.hid h5
            clear x0 x1 x2 hlt HM h5 hb5
            rcases hle with ⟨p, A5, c5, hle, rfl, _⟩ | ⟨hno, rfl⟩
            · have hlv : LiveP s.accept s.modes s.rules n := live_end HOK.out.inn hnm hle.1
              have HLV := Lib.hid hlv
              clear hle hlv
              go_wp2_with fail
              refine (accepts3_any s.modes s.accept A2s s.rules.length c2s n _ HOK.out.ac (by omega)).mono ?_
              rintro e w6 ⟨rfl, hb6⟩
              obtain ⟨b, hb, hb'⟩ := flag_at HB.out.l2 HB.out.v2 (H5.out.next hb6).r2 hnm
              obtain rfl : b = true := hb'.2 HLV.out
              have hg2 := (H5.out.next hb6).r2.lt
              have hi1 : (n : Int) < (s.modes : Int) := by omega
              have H6 := Lib.hid (H5.out.next hb6)
              clear hb' hb6 y0 y1 y2 hlt5 H5
              obtain ⟨z0, z1, z2, hlt6⟩ := H6.out.sw.cells
              rcases hac : accB s.accept n with _ | _
              all_goals
                go_wp2_with fail
                go_roundw
                case rel => exact ⟨n + 1, by omega, by go_num, H6.out⟩
                case measure => simp [intOf]; omega
            · have hlv : ¬ LiveP s.accept s.modes s.rules n := fun h => by
                obtain ⟨e, he⟩ := end_live h
                exact hno e he
              have hac : accB s.accept n = false := by
                rcases h : accB s.accept n with _ | _
                · rfl
                · exact absurd (acc_live hnm h) hlv
              have HLV := Lib.hid hlv
              have HNO := Lib.hid hno
              clear hno hlv
              go_wp2_with fail
              refine (accepts3_any s.modes s.accept A2s s.rules.length c2s n _ HOK.out.ac (by omega)).mono ?_
              rw [hac]
              rintro e w6 ⟨rfl, hb6⟩
              obtain ⟨b, hb, hb'⟩ := flag_at HB.out.l2 HB.out.v2 (H5.out.next hb6).r2 hnm
              obtain rfl : b = false := by
                rcases b with _ | _
                · rfl
                · exact absurd (hb'.1 rfl) HLV.out
              have hg2 := (H5.out.next hb6).r2.lt
              have hi1 : (n : Int) < (s.modes : Int) := by omega
              have H6 := Lib.hid (H5.out.next hb6)
              clear hb' hb6 y0 y1 y2 hlt5 H5 hac
              obtain ⟨z0, z1, z2, hlt6⟩ := H6.out.sw.cells
              go_wp2_with fail
              go_roundw
              case rel => exact ⟨n + 1, by omega, by go_num, H6.out⟩
              case measure => simp [intOf]; omega
          · obtain rfl : n = s.modes := by omega
            obtain ⟨b, hb, hb'⟩ := flag_at HB.out.l1 HB.out.v1 HM.out.r1 hkm
            obtain rfl : b = true := hb'.2 (reached_path HP.out (.refl 0))
            have hg1 := HM.out.r1.lt
            have hi1 : (k : Int) < (s.modes : Int) := by omega
            clear hb'
            go_wp2_with fail
            go_ret
            exact ⟨rfl, HM.out.sw.bel⟩
end Go.Proofs.Ytpidgkngefkbeaa
