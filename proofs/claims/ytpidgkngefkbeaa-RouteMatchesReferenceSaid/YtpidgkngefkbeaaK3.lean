/- The walk of RouteMatchesReference. -/
import Derived.Test.YtpidgkngefkbeaaK2
set_option linter.unusedVariables false
set_option linter.unusedSimpArgs false
namespace Go.Proofs.Ytpidgkngefkbeaa
open Go.RowKit

set_option maxHeartbeats 20000000 in
set_option maxRecDepth 100000 in
theorem matches_any (b dr w0 wb : Nat) (more : List RawRule) (A : Option Addr) (c : Nat) (A' : Option Addr) (c' : Nat) (l : List Int) (w : World) (hb8 : b < 256) (hd8 : dr < 256) (h08 : w0 < 256) (h18 : wb < 256) (hR : RawAt (· < w.heap.size) w A more) (hwf : ∀ r ∈ more, r.wf) (hml : more.length ≤ maxLen)
    (hL : SlAt vI8 (· < w.heap.size) w A' l) (hl8 : ∀ x ∈ l, -128 ≤ x ∧ x ≤ 127) (hl : l.length ≤ maxLen) :
    Calls Try.prog 3 #[.agg #[.int .u8 b, .int .u8 dr, .slice A more.length c], .agg #[.int .u8 w0, .int .u8 wb], .slice A' l.length c'] w (RetTrue w) := by
  go_enter Try.func3, Try.ntmps3
  go_upto_region 1 with (fail)
  refine world_gen (fun W => Below w.heap.size w W ∧ Blk W w.heap.size 24 #[.int .u8 b, .int .u8 dr, .slice A more.length c] ∧ Blk W (w.heap.size + 1) 25 #[.int .u8 w0, .int .u8 wb])
    ⟨((Below.refl _ _).alloc (Nat.le_refl _) _).alloc (by simp) _, (Blk.new _ _ _).alloc _, Blk.new2 _ _ _ _⟩ ?_
  rintro W ⟨hbel, b0, b1⟩
  go_wp2_with fail
  refine (sanity_any _).mono ?_
  rintro e w1 ⟨rfl, hb1⟩
  have hbel1 := hbel.trans (hb1.mono hbel.size)
  have b01 := b0.next hb1
  have b11 := b1.next hb1
  have x0 : w1.cell? ⟨w.heap.size, 0, none⟩ = some (.int .u8 b) := b01.cell 0
  have x1 : w1.cell? ⟨w.heap.size, 1, none⟩ = some (.int .u8 dr) := b01.cell 1
  have x2 : w1.cell? ⟨w.heap.size, 2, none⟩ = some (.slice A more.length c) := b01.cell 2
  have y0 : w1.cell? ⟨w.heap.size + 1, 0, none⟩ = some (.int .u8 w0) := b11.cell 0
  have y1 : w1.cell? ⟨w.heap.size + 1, 1, none⟩ = some (.int .u8 wb) := b11.cell 1
  have hlt0 := b01.lt
  have hlt1 := b11.lt
  clear b0 b1 hbel
  go_wp2_with fail
  refine (made3_any (· < w.heap.size) b dr w0 wb more A c _ (fun k hk => by have := hbel1.size; omega) (RawAt.lower hR (fun _ h => h) hbel1) hwf hb8 hd8 h08 h18 hml).mono ?_
  rintro e w2 ⟨A2s, c2s, rfl, hb2, hacc⟩
  have hok := made3_ok b dr more w0 wb
  have hn99 := made3_n9 b dr more w0 wb
  have hbel2 := hbel1.trans (hb2.mono hbel1.size)
  have hb1' := b11.next hb2
  have hb0' := b01.next hb2
  clear x0 x1 x2 y0 y1 hlt0 hlt1 hbel1 hb1 hb2 hR hwf hml b11 b01
  generalize made3 b dr more w0 wb = s at *
  go_upto_region 3 with (fail)
  refine world_gen (fun W => SW s w2.heap.size A2s c2s w W ∧ Blk W (w.heap.size + 1) 25 #[.int .u8 w0, .int .u8 wb] ∧ Blk W w.heap.size 24 #[.int .u8 b, .int .u8 dr, .slice A more.length c]) ⟨⟨hbel2.alloc hbel2.size _, Blk.new _ _ _, (Reads.below (Acc.reads hacc) (below_one _ _)).mono (fun _ _ => trivial)⟩, hb1'.alloc _, hb0'.alloc _⟩ ?_
  clear hacc hbel2 hb1' hb0'
  generalize w2.heap.size = S at *
  rintro W3 ⟨h3, hbx1, hbx0⟩
  have H3 := Lib.hid h3
  have HX1 := Lib.hid hbx1
  have HX0 := Lib.hid hbx0
  have HOK := Lib.hid hok
  have hn9 := hok.n9
  have hm2 := hok.m2
  have hm5 := hok.m5
  clear hbx1 hok hbx0
  obtain ⟨i0, hi0, hz0, hz1, hzz⟩ := info_parts int_info
  have HI := Lib.hid (And.intro hi0 (And.intro hz0 (And.intro hz1 hzz)))
  clear hi0 hz0 hz1 hzz
  clear h3
  go_upto_block 0 with (fail)
  go_cut [9] (fun x wx => ∃ AL cL L, x = .slice AL (L : List Int).length cL ∧ L.length ≤ 8 ∧ Below W3.heap.size W3 wx ∧ SlAt vI (fun _ => True) wx AL L)
  case first =>
    have hL3 : SlAt vI8 (· < w.heap.size) W3 A' l := Reads.belowB hL H3.out.bel
    have hsz := H3.out.bel.size
    have HL3 := Lib.hid hL3
    have HL8 := Lib.hid hl8
    unfold maxLen at hl
    refine world_gen (fun W => Below W3.heap.size W3 W ∧ W.ownsRow W3.heap.size 3 1 (.slice (some ⟨W3.heap.size, 0, none⟩) 0 0) 0 []) ⟨below_one _ _, own_empty W3 _ _ _ (Nat.le_refl _)⟩ ?_
    clear hL3 hL hl8
    rintro W4 ⟨hb4, ho4⟩
    have H4 := Lib.hid (And.intro hb4 ho4)
    clear hb4 ho4
    go_wp2_with fail
    go_loopw [9, 10] (fun x z wr => ∃ (k : Nat) (AL : Option Addr) (cL : Nat), k ≤ l.length ∧ k ≤ 8 ∧ z = .int .i64 k ∧ x = .slice AL k cL ∧ Below W3.heap.size W3 wr ∧ wr.ownsRow W3.heap.size 3 1 (.slice AL k cL) k ((l.take k).map vI)) (fun _ z _ => 8 - (intOf z).toNat)
    case atStart => exact ⟨0, _, _, Nat.zero_le _, by omega, rfl, rfl, H4.out.1, H4.out.2⟩
    case round =>
      clear H4 W4
      obtain ⟨k, AL, cL, hk, hk8, rfl, rfl, hbr, hor⟩ := hrel
      have HB := Lib.hid hbr
      have HO := Lib.hid hor
      have hszr := hbr.size
      clear hbr hor
      by_cases hkl : k < l.length
      · by_cases hk9 : k < 8
        · obtain ⟨x, hx⟩ : ∃ x, l[k]? = some x := ⟨_, List.getElem?_eq_getElem hkl⟩
          have hx8 := HL8.out x (List.mem_of_getElem? hx)
          obtain ⟨bb, ob, rfl⟩ := Reads.some_ HL3.out (by simp; omega)
          obtain ⟨hbw, hbW, hxc⟩ := SlAt.got (f := vI8) HL3.out hx
          have hxc' : wr.cell? ⟨bb, ob + k, none⟩ = some (.int .i8 x) := (HB.out.cell (p := ⟨bb, ob + k, none⟩) hbW).trans hxc
          have hbr' : bb < wr.heap.size := by omega
          have hk1 : (k : Int) < (l.length : Int) := by omega
          have htk : (l.take (k + 1)).map vI = (l.take k).map vI ++ [.int .i64 x] := by
            rw [List.take_add_one, hx]
            simp [vI]
          have HTK := Lib.hid htk
          have hx1 : -128 ≤ x := hx8.1
          have hx2 : x ≤ 127 := hx8.2
          clear hx hxc htk hx8
          go_wp2_with (at_builtin; refine wpList_append_acc _ (by rfl) _ _ 32 (by rfl) W3.heap.size 3 i0 _ 1 8 Try.underlying32 HI.out.1 HI.out.2.1 HI.out.2.2.1 HI.out.2.2.2 (by rfl) (by decide) AL k cL _ (by rfl) (by exact .inl (HO.out.alloc _)) wr.heap.size 3 (0, 0) 1 1 #[.int .i64 x] (by rfl) (by rfl) (by exact heap_alloc_new _ _) (by simp [Value.oneCell']) (by omega) (by unfold maxLen; omega) (by omega) (by simp; omega) ?_; intro g5 cap5 w5 row5 hown5 hgr5 hrow5 hat5 hlt5)
          go_roundw
          case rel => exact ⟨k + 1, _, _, by omega, by omega, by go_num, rfl, below_rowOk (HB.out.alloc HB.out.size _) hgr5 hrow5 (Nat.le_refl _) (by simp; omega), by rw [HTK.out]; exact hown5⟩
          case measure => simp [intOf]; omega
        · obtain rfl : k = 8 := by omega
          go_wp2_with fail
          go_meet
          case rel => exact ⟨AL, cL, l.take 8, by rw [List.length_take]; congr 1; omega, by rw [List.length_take]; omega, HB.out, (Reads.of_own HO.out).mono fun _ _ => trivial⟩
      · obtain rfl : k = l.length := by omega
        go_wp2_with fail
        go_meet
        case rel => exact ⟨AL, cL, l, rfl, by omega, HB.out, by have := HO.out; rw [List.take_length] at this; exact (Reads.of_own this).mono fun _ _ => trivial⟩
  case rest =>
    obtain ⟨AL, cL, L, rfl, hL8, hb4, hli⟩ := hcut
    have h4 := H3.out.next hb4
    have b1 := HX1.out.next hb4
    have b0 := HX0.out.next hb4
    obtain ⟨x0, x1, x2, hlt⟩ := h4.cells
    have y0 : wc.cell? ⟨w.heap.size + 1, 0, none⟩ = some (.int .u8 w0) := b1.cell 0
    have y1 : wc.cell? ⟨w.heap.size + 1, 1, none⟩ = some (.int .u8 wb) := b1.cell 1
    have z0 : wc.cell? ⟨w.heap.size, 0, none⟩ = some (.int .u8 b) := b0.cell 0
    have z1 : wc.cell? ⟨w.heap.size, 1, none⟩ = some (.int .u8 dr) := b0.cell 1
    have hl1 := b1.lt
    have hl0 := b0.lt
    have H4 := Lib.hid (And.intro h4 hli)
    have HL88 := Lib.hid hL8
    clear h4 b1 b0 hb4 hli H3 HX1 HX0 hL hl8 hL8
    go_wp2_with fail
    refine (walk_8 _ (fun _ => True) s A2s _ c2s _ 4 [w0, wb, b, dr] _ HOK.out (by exact Reads.below H4.out.1.rules (below_one _ _)) (by exact Reads.block (Blk.new _ _ _) trivial) (by simp; omega) (by simp [maxLen]) rfl).mono ?_
    rintro e w5 ⟨AW, cW, lw, mode, rfl, hb5, hwa, hp, hl8, hld⟩
    have hb5' := (below_one wc (.cells #[.int .u8 w0, .int .u8 wb, .int .u8 b, .int .u8 dr] 5)).trans (hb5.mono (by simp))
    have H5 := Lib.hid (And.intro (H4.out.1.next hb5') (And.intro (Reads.below H4.out.2 hb5') (Reads.mono hwa (fun _ _ => trivial))))
    have HLW := Lib.hid hl8
    clear x0 x1 x2 hlt y0 y1 z0 z1 hl1 hl0 H4 hb5 hb5' hwa hp hl8 hld
    obtain ⟨x0, x1, x2, hlt⟩ := H5.out.1.cells
    go_wp2_with fail
    refine (trim_s _ s A2s c2s _ HOK.out H5.out.1.rules).mono ?_
    rintro e w6 ⟨k1, A1, c1, A2, c2, rfl, hb6, hk1, hr1, hi1⟩
    obtain ⟨il, hil⟩ : ∃ il, idx k1 s.rules.length = il := ⟨_, rfl⟩
    obtain ⟨ks, hks⟩ : ∃ ks, kept k1 s.rules s.rules.length = ks := ⟨_, rfl⟩
    have hlen : ks.length = il.length := by rw [← hil, ← hks]; exact kept_len _ _ _
    have hil9 : il.length ≤ 9 := by
      rw [← hil]
      exact Nat.le_trans (idx_len _ _) hn99
    rw [hil] at hi1
    rw [hks] at hr1
    rw [hil]
    have HK1 := Lib.hid (And.intro hk1 (And.intro hil hks))
    have HLEN := Lib.hid hlen
    clear hk1 hil hks hlen x0 x1 x2 hlt
    go_upto_region 10 with (fail)
    have hb6' := hb6.alloc hb6.size (.cells #[.int .i64 s.modes, .int .u8 s.accept, .slice A1 il.length c1] 30)
    refine world_gen (fun W => (SW s S A2s c2s w W ∧ SlAt vI (fun _ => True) W AL L ∧ SlAt vN (fun _ => True) W AW lw) ∧ Blk W w6.heap.size 30 #[.int .i64 s.modes, .int .u8 s.accept, .slice A1 il.length c1] ∧ RulesAt (fun _ => True) W A1 ks ∧ SlAt vN (fun _ => True) W A2 il)
      ⟨⟨H5.out.1.next hb6', Reads.below H5.out.2.1 hb6', Reads.below H5.out.2.2 hb6'⟩, Blk.new _ _ _, Reads.mono (Reads.below hr1 (below_one _ _)) (fun _ _ => trivial), Reads.mono (Reads.below hi1 (below_one _ _)) (fun _ _ => trivial)⟩ ?_
    clear hb6 hb6' hr1 hi1 H5
    generalize w6.heap.size = S1 at *
    intro W7 h7
    obtain ⟨x0, x1, x2, hlt⟩ := h7.1.1.cells
    have H7 := Lib.hid h7
    clear h7
    go_wp2_with fail
    refine (trim3_s _ s A2s c2s _ HOK.out H7.out.1.1.rules).mono ?_
    rintro e w8 ⟨k2, A3, c3, A4, c4, rfl, hb8, hk2, hr2, hi2⟩
    obtain ⟨hsame1, hsame2⟩ := keeps_same hk2 HK1.out.1
    rw [hsame1, HK1.out.2.1] at hi2
    rw [hsame2, HK1.out.2.2] at hr2
    rw [hsame1, HK1.out.2.1]
    clear hk2 hsame1 hsame2 x0 x1 x2 hlt
    go_upto_region 11 with (fail)
    have hb8' := hb8.alloc hb8.size (.cells #[.int .i64 s.modes, .int .u8 s.accept, .slice A3 il.length c3] 30)
    refine world_gen (fun W => AllW s S A2s c2s L AL cL lw AW cW ks il S1 A1 c1 A2 c2 w8.heap.size A3 c3 A4 c4 w W)
      ⟨H7.out.1.1.next hb8', Reads.below H7.out.1.2.1 hb8', Reads.below H7.out.1.2.2 hb8', H7.out.2.1.next hb8', Reads.below H7.out.2.2.1 hb8', Reads.below H7.out.2.2.2 hb8', Blk.new _ _ _, Reads.mono (Reads.below hr2 (below_one _ _)) (fun _ _ => trivial), Reads.mono (Reads.below hi2 (below_one _ _)) (fun _ _ => trivial)⟩ ?_
    clear hb8 hb8' hr2 hi2 H7 HK1
    generalize w8.heap.size = S2 at *
    intro W9 h9
    have H9 := Lib.hid h9
    clear h9
    go_cut [115] (fun v wx => v = .bool false ∧ SW s S A2s c2s w wx)
    case first =>
      obtain ⟨o1, ho1⟩ : ∃ o, runFrom s.rules .start L = o := ⟨_, rfl⟩
      obtain ⟨o2, ho2⟩ : ∃ o, runFrom s.rules .start (castL lw) = o := ⟨_, rfl⟩
      have HO1 := Lib.hid ho1
      have HO2 := Lib.hid ho2
      have hlL := HL88.out
      have hlW := HLW.out
      obtain ⟨x0, x1, x2, p0, p1, p2, q0, q1, q2⟩ := H9.out.cells
      have HC : Hid (Below W9.heap.size W9 W9.drew) := Lib.hid (Below.refl _ _).drew
      clear ho1 ho2
      go_region_held3 (fun w' => w'.cell? ⟨S, 0, none⟩ = some (.int .i64 s.modes) ∧ w'.cell? ⟨S, 1, none⟩ = some (.int .u8 s.accept) ∧ w'.cell? ⟨S, 2, none⟩ = some (.slice A2s s.rules.length c2s) ∧ w'.cell? ⟨S1, 0, none⟩ = some (.int .i64 s.modes) ∧ w'.cell? ⟨S1, 1, none⟩ = some (.int .u8 s.accept) ∧ w'.cell? ⟨S1, 2, none⟩ = some (.slice A1 il.length c1) ∧ w'.cell? ⟨S2, 0, none⟩ = some (.int .i64 s.modes) ∧ w'.cell? ⟨S2, 1, none⟩ = some (.int .u8 s.accept) ∧ w'.cell? ⟨S2, 2, none⟩ = some (.slice A3 il.length c3))
        (first | exact ⟨x0, x1, x2, p0, p1, p2, q0, q1, q2⟩ | go_keep)
        (first
          | (go_at_call 15; (with_reducible refine (run2_is (fun _ => True) (fun _ => True) s A2s AL c2s cL L.length _ HOK.out (by exact RulesAt.below H9.out.sw.rules HC.out) L o1 (by exact SlAt.below H9.out.li HC.out) (by omega) rfl HO1.out).mono ?_); rintro e wx ⟨rfl, hbx⟩; have hzx := HC.out.size; replace HC := Lib.hid (HC.out.trans (hbx.mono HC.out.size)); obtain ⟨x0, x1, x2, p0, p1, p2, q0, q1, q2⟩ := (H9.out.next HC.out).cells; try (replace hrA := Blk.next hrA hbx); try (replace hrB := Blk.next hrB hbx); try (replace hrC := Blk.next hrC hbx); try (replace hrD := Blk.next hrD hbx); clear hbx hzx)
          | (go_at_call 15; (with_reducible refine (run2_is (fun _ => True) (fun _ => True) s A2s AW c2s cW lw.length _ HOK.out (by exact RulesAt.below H9.out.sw.rules HC.out) (castL lw) o2 (by exact SlAt.cast (SlAt.below H9.out.wa HC.out)) (by rw [castL_len]; omega) (castL_len _) HO2.out).mono ?_); rintro e wx ⟨rfl, hbx⟩; have hzx := HC.out.size; replace HC := Lib.hid (HC.out.trans (hbx.mono HC.out.size)); obtain ⟨x0, x1, x2, p0, p1, p2, q0, q1, q2⟩ := (H9.out.next HC.out).cells; try (replace hrA := Blk.next hrA hbx); try (replace hrB := Blk.next hrB hbx); try (replace hrC := Blk.next hrC hbx); try (replace hrD := Blk.next hrD hbx); clear hbx hzx)
          | (go_at_call 16; (with_reducible refine (run3_is (fun _ => True) (fun _ => True) s A2s AL c2s cL L.length _ HOK.out (by exact RulesAt.below H9.out.sw.rules HC.out) L o1 (by exact SlAt.below H9.out.li HC.out) (by omega) rfl HO1.out).mono ?_); rintro e wx ⟨rfl, hbx⟩; have hzx := HC.out.size; replace HC := Lib.hid (HC.out.trans (hbx.mono HC.out.size)); obtain ⟨x0, x1, x2, p0, p1, p2, q0, q1, q2⟩ := (H9.out.next HC.out).cells; try (replace hrA := Blk.next hrA hbx); try (replace hrB := Blk.next hrB hbx); try (replace hrC := Blk.next hrC hbx); try (replace hrD := Blk.next hrD hbx); clear hbx hzx)
          | (go_at_call 16; (with_reducible refine (run3_is (fun _ => True) (fun _ => True) s A2s AW c2s cW lw.length _ HOK.out (by exact RulesAt.below H9.out.sw.rules HC.out) (castL lw) o2 (by exact SlAt.cast (SlAt.below H9.out.wa HC.out)) (by rw [castL_len]; omega) (castL_len _) HO2.out).mono ?_); rintro e wx ⟨rfl, hbx⟩; have hzx := HC.out.size; replace HC := Lib.hid (HC.out.trans (hbx.mono HC.out.size)); obtain ⟨x0, x1, x2, p0, p1, p2, q0, q1, q2⟩ := (H9.out.next HC.out).cells; try (replace hrA := Blk.next hrA hbx); try (replace hrB := Blk.next hrB hbx); try (replace hrC := Blk.next hrC hbx); try (replace hrD := Blk.next hrD hbx); clear hbx hzx)
          | (go_at_call 17; (with_reducible refine (same_eq (fun _ => True) (fun _ => True) s.modes s.accept A1 A3 c1 c3 il.length ks _ (by exact RulesAt.below H9.out.r1 HC.out) (by exact RulesAt.below H9.out.r2 HC.out) (by have := HLEN.out; omega) HLEN.out).mono ?_); rintro e wx ⟨rfl, hbx⟩; have hzx := HC.out.size; replace HC := Lib.hid (HC.out.trans (hbx.mono HC.out.size)); obtain ⟨x0, x1, x2, p0, p1, p2, q0, q1, q2⟩ := (H9.out.next HC.out).cells; try (replace hrA := Blk.next hrA hbx); try (replace hrB := Blk.next hrB hbx); try (replace hrC := Blk.next hrC hbx); try (replace hrD := Blk.next hrD hbx); clear hbx hzx)
          | (go_at_call 18; (with_reducible refine (ints_eq (fun _ => True) (fun _ => True) A2 A4 c2 c4 il.length il _ (by exact SlAt.below H9.out.i1 HC.out) (by exact SlAt.below H9.out.i2 HC.out) (by omega) rfl).mono ?_); rintro e wx ⟨rfl, hbx⟩; have hzx := HC.out.size; replace HC := Lib.hid (HC.out.trans (hbx.mono HC.out.size)); obtain ⟨x0, x1, x2, p0, p1, p2, q0, q1, q2⟩ := (H9.out.next HC.out).cells; try (replace hrA := Blk.next hrA hbx); try (replace hrB := Blk.next hrB hbx); try (replace hrC := Blk.next hrC hbx); try (replace hrD := Blk.next hrD hbx); clear hbx hzx)
          | (go_at_call 20; (with_reducible refine (reached_s (fun _ => True) s A2s c2s _ HOK.out (by exact RulesAt.below H9.out.sw.rules HC.out)).mono ?_); rintro e wx ⟨gA, VA, rfl, hbx, hgA, hrA, hlA, hiA⟩; have HVA := Lib.hid (And.intro hlA hiA); clear hgA hlA hiA; have hzx := HC.out.size; replace HC := Lib.hid (HC.out.trans (hbx.mono HC.out.size)); obtain ⟨x0, x1, x2, p0, p1, p2, q0, q1, q2⟩ := (H9.out.next HC.out).cells; try (replace hrA := Blk.next hrA hbx); try (replace hrB := Blk.next hrB hbx); try (replace hrC := Blk.next hrC hbx); try (replace hrD := Blk.next hrD hbx); clear hbx hzx)
          | (go_at_call 21; (with_reducible refine (reached3_s (fun _ => True) s A2s c2s _ HOK.out (by exact RulesAt.below H9.out.sw.rules HC.out)).mono ?_); rintro e wx ⟨gB, VB, rfl, hbx, hgB, hrB, hlB, hiB⟩; have HVB := Lib.hid (And.intro hlB hiB); clear hgB hlB hiB; have hzx := HC.out.size; replace HC := Lib.hid (HC.out.trans (hbx.mono HC.out.size)); obtain ⟨x0, x1, x2, p0, p1, p2, q0, q1, q2⟩ := (H9.out.next HC.out).cells; try (replace hrA := Blk.next hrA hbx); try (replace hrB := Blk.next hrB hbx); try (replace hrC := Blk.next hrC hbx); try (replace hrD := Blk.next hrD hbx); clear hbx hzx)
          | (go_at_call 22; (with_reducible refine (live_s (fun _ => True) s A2s c2s _ HOK.out (by exact RulesAt.below H9.out.sw.rules HC.out)).mono ?_); rintro e wx ⟨gC, VC, rfl, hbx, hgC, hrC, hlC, hiC⟩; have HVC := Lib.hid (And.intro hlC hiC); clear hgC hlC hiC; have hzx := HC.out.size; replace HC := Lib.hid (HC.out.trans (hbx.mono HC.out.size)); obtain ⟨x0, x1, x2, p0, p1, p2, q0, q1, q2⟩ := (H9.out.next HC.out).cells; try (replace hrA := Blk.next hrA hbx); try (replace hrB := Blk.next hrB hbx); try (replace hrC := Blk.next hrC hbx); try (replace hrD := Blk.next hrD hbx); clear hbx hzx)
          | (go_at_call 23; (with_reducible refine (live3_s (fun _ => True) s A2s c2s _ HOK.out (by exact RulesAt.below H9.out.sw.rules HC.out)).mono ?_); rintro e wx ⟨gD, VD, rfl, hbx, hgD, hrD, hlD, hiD⟩; have HVD := Lib.hid (And.intro hlD hiD); clear hgD hlD hiD; have hzx := HC.out.size; replace HC := Lib.hid (HC.out.trans (hbx.mono HC.out.size)); obtain ⟨x0, x1, x2, p0, p1, p2, q0, q1, q2⟩ := (H9.out.next HC.out).cells; try (replace hrA := Blk.next hrA hbx); try (replace hrB := Blk.next hrB hbx); try (replace hrC := Blk.next hrC hbx); try (replace hrD := Blk.next hrD hbx); clear hbx hzx)
          | (go_at_call 19; (with_reducible refine (bools_eq (fun _ => True) (fun _ => True) (some ⟨gA, 0, none⟩) (some ⟨gB, 0, none⟩) s.modes s.modes s.modes VA VB _ (by exact flags_at hrA) (by exact flags_at hrB) (bools_same HVA.out.1 HVB.out.1 HVA.out.2 HVB.out.2) (by have := HVA.out.1; omega) HVA.out.1).mono ?_); rintro e wx ⟨rfl, hbx⟩; have hzx := HC.out.size; replace HC := Lib.hid (HC.out.trans (hbx.mono HC.out.size)); obtain ⟨x0, x1, x2, p0, p1, p2, q0, q1, q2⟩ := (H9.out.next HC.out).cells; try (replace hrA := Blk.next hrA hbx); try (replace hrB := Blk.next hrB hbx); try (replace hrC := Blk.next hrC hbx); try (replace hrD := Blk.next hrD hbx); clear hbx hzx)
          | (go_at_call 19; (with_reducible refine (bools_eq (fun _ => True) (fun _ => True) (some ⟨gC, 0, none⟩) (some ⟨gD, 0, none⟩) s.modes s.modes s.modes VC VD _ (by exact flags_at hrC) (by exact flags_at hrD) (bools_same HVC.out.1 HVD.out.1 HVC.out.2 HVD.out.2) (by have := HVC.out.1; omega) HVC.out.1).mono ?_); rintro e wx ⟨rfl, hbx⟩; have hzx := HC.out.size; replace HC := Lib.hid (HC.out.trans (hbx.mono HC.out.size)); obtain ⟨x0, x1, x2, p0, p1, p2, q0, q1, q2⟩ := (H9.out.next HC.out).cells; try (replace hrA := Blk.next hrA hbx); try (replace hrB := Blk.next hrB hbx); try (replace hrC := Blk.next hrC hbx); try (replace hrD := Blk.next hrD hbx); clear hbx hzx))
      all_goals (go_wp2; go_meet)
      all_goals exact ⟨rfl, (H9.out.next HC.out).sw⟩
    case rest =>
      obtain ⟨rfl, h10⟩ := hcut
      have H10 := Lib.hid h10
      clear h10 H9 HLEN HLW HL88
      go_wp2_with fail
      go_loopw [17] (fun z wr => ∃ x : Int, -1 ≤ x ∧ x ≤ (s.modes : Int) + 1 ∧ z = .int .i64 x ∧ SW s S A2s c2s w wr) (fun z _ => ((s.modes : Int) + 1 - intOf z).toNat)
      case atStart => exact ⟨-1, by omega, by omega, rfl, H10.out⟩
      case round =>
        clear H10 wc
        obtain ⟨x, hx1, hx2, rfl, hW⟩ := hrel
        obtain ⟨x0, x1, x2, hlt⟩ := hW.cells
        have HW := Lib.hid hW
        clear hW
        by_cases hx : x ≤ (s.modes : Int)
        · have dx : decide (x ≤ (s.modes : Int)) = true := by simpa using hx
          by_cases hout : x < 0 ∨ (s.modes : Int) ≤ x
          · go_wp2_with fail
            refine (least_out s.modes s.accept A2s s.rules.length c2s x _ hout).mono ?_
            rintro e w2 ⟨rfl, hb2⟩
            have H2 := Lib.hid (HW.out.next hb2)
            clear x0 x1 x2 hlt hb2 HW
            obtain ⟨x0, x1, x2, hlt⟩ := H2.out.cells
            go_wp2_with fail
            refine (least3_out s.modes s.accept A2s s.rules.length c2s x _ hout).mono ?_
            rintro e w3 ⟨rfl, hb3⟩
            have H3 := Lib.hid (H2.out.next hb3)
            clear x0 x1 x2 hlt hb3 H2
            go_wp2_with fail
            refine (ints_eq (fun _ => True) (fun _ => True) none none 0 0 0 [] _ (Reads.nil _) (Reads.nil _) (by simp) rfl).mono ?_
            rintro e w4 ⟨rfl, hb4⟩
            have H4 := Lib.hid (H3.out.next hb4)
            clear hb4 H3
            go_wp2_with fail
            go_roundw
            case rel => exact ⟨x + 1, by omega, by omega, rfl, H4.out⟩
            case measure => simp [intOf]; omega
          · obtain ⟨n, rfl⟩ := Int.eq_ofNat_of_zero_le (show 0 ≤ x by omega)
            have hn : n < s.modes := by omega
            go_wp2_with fail
            refine (least_s (fun _ => True) s A2s c2s _ HOK.out HW.out.rules n hn).mono ?_
            rintro e w2 ⟨hb2, hc2⟩
            have H2 := Lib.hid (HW.out.next hb2)
            clear x0 x1 x2 hlt hb2 HW
            obtain ⟨x0, x1, x2, hlt⟩ := H2.out.cells
            rcases hc2 with ⟨p, Ap, cp, hp, rfl, _, hpl, hps⟩ | ⟨hno, rfl⟩
            · have hps2 : SlAt vN (fun _ => True) w2 Ap p.l := Reads.mono hps fun _ _ => trivial
              have HP := Lib.hid (And.intro hp hps2)
              clear hp hps hps2
              go_wp2_with fail
              refine (least3_s (fun _ => True) s A2s c2s _ HOK.out H2.out.rules n hn).mono ?_
              rintro e w3 ⟨hb3, hc3⟩
              have H3 := Lib.hid (H2.out.next hb3)
              have HP2 := Lib.hid (Reads.below HP.out.2 hb3)
              clear x0 x1 x2 hlt hb3 H2
              rcases hc3 with ⟨q, Aq, cq, hq, rfl, _, hql, hqs⟩ | ⟨hq, rfl⟩
              · have he := leastK_some HOK.out.inn hq HP.out.1
                injection he with he
                subst he
                have HQ := Lib.hid (Reads.mono hqs (fun _ _ => trivial) : SlAt vN (fun _ => True) w3 Aq q.l)
                clear hq hqs HP
                go_wp2_with fail
                refine (ints_eq (fun _ => True) (fun _ => True) Ap Aq cp cq q.l.length q.l _ HP2.out HQ.out (by omega) rfl).mono ?_
                rintro e w4 ⟨rfl, hb4⟩
                have H4 := Lib.hid (H3.out.next hb4)
                clear hb4 H3
                go_wp2_with fail
                go_roundw
                case rel => exact ⟨(n : Int) + 1, by omega, by omega, rfl, H4.out⟩
                case measure => simp [intOf]; omega
              · have he := leastK_some HOK.out.inn hq HP.out.1
                cases he
            · have HNO := Lib.hid hno
              clear hno
              go_wp2_with fail
              refine (least3_s (fun _ => True) s A2s c2s _ HOK.out H2.out.rules n hn).mono ?_
              rintro e w3 ⟨hb3, hc3⟩
              have H3 := Lib.hid (H2.out.next hb3)
              clear x0 x1 x2 hlt hb3 H2
              rcases hc3 with ⟨q, Aq, cq, hq, rfl, _, hql, hqs⟩ | ⟨hq, rfl⟩
              · have he := leastK_none hq HNO.out
                cases he
              · clear hq
                go_wp2_with fail
                refine (ints_eq (fun _ => True) (fun _ => True) none none 0 0 0 [] _ (Reads.nil _) (Reads.nil _) (by simp) rfl).mono ?_
                rintro e w4 ⟨rfl, hb4⟩
                have H4 := Lib.hid (H3.out.next hb4)
                clear hb4 H3
                go_wp2_with fail
                go_roundw
                case rel => exact ⟨(n : Int) + 1, by omega, by omega, rfl, H4.out⟩
                case measure => simp [intOf]; omega
        · have dx : decide (x ≤ (s.modes : Int)) = false := by simpa using hx
          go_wp2_with fail
          go_ret
          exact ⟨rfl, HW.out.bel⟩
end Go.Proofs.Ytpidgkngefkbeaa
