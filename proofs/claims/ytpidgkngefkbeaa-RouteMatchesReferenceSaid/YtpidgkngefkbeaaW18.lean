/- The walk of the reference's Ends. -/
import Derived.Test.YtpidgkngefkbeaaWC
import Derived.Deep.RegionHeld3
set_option linter.unusedVariables false
set_option linter.unusedSimpArgs false
namespace Go.Proofs.Ytpidgkngefkbeaa
open Go.RowKit Go.Maps Go.WideElems

set_option maxHeartbeats 4000000 in
set_option maxRecDepth 100000 in
theorem ends3_any (F : Nat → Prop) (m ac : Nat) (A : Option Addr) (c : Nat) (rs : List Rule) (w : World) (hA : RulesAt F w A rs) (hF : ∀ b, F b → b < w.heap.size) (hn : rs.length < 1000) (hm : m ≤ 8) (hac : ac < 256) (hs : ∀ r ∈ rs, r.frm < m ∧ r.dst < m) (hcost : ∀ r ∈ rs, r.cost ≤ 1000) :
    Calls Try.prog 38 #[.agg #[.int .i64 m, .int .u8 ac, .slice A rs.length c]] w (EndsRes (accB ac) rs m w) := by
  have hmk := fun w => run_make_ends m hm w
  go_enter Try.func38, Try.ntmps38
  go_upto_region 2 with (fail)
  refine world_gen (fun W => EnW m ac A rs.length c w W (w.heap.size + 1) (startO ac 0)) ?_ ?_
  · refine ⟨((Below.refl _ _).alloc (Nat.le_refl _) _).alloc (by simp) _, by omega, (Blk.new _ _ _).alloc _, ?_⟩
    exact EndRow.made _ (Blk.new2 _ _ _ _)
  clear hmk
  intro W hW
  have HW := Lib.hid hW
  clear hW
  go_wp2_with fail
  go_loopw [4] (fun z wr => ∃ k : Nat, k ≤ m ∧ z = .int .i64 k ∧ EnW m ac A rs.length c w wr (w.heap.size + 1) (startO ac k)) (fun z _ => m - (intOf z).toNat)
  case atStart => exact ⟨0, Nat.zero_le _, rfl, HW.out⟩
  case round =>
    clear HW W
    obtain ⟨k, hk, rfl, hW⟩ := hrel
    have x0 : wr.cell? ⟨w.heap.size, 0, none⟩ = some (.int .i64 m) := hW.b0.cell 0
    have x1 : wr.cell? ⟨w.heap.size, 1, none⟩ = some (.int .u8 ac) := hW.b0.cell 1
    have x2 : wr.cell? ⟨w.heap.size, 2, none⟩ = some (.slice A rs.length c) := hW.b0.cell 2
    have hlt := hW.b0.lt
    have HW := Lib.hid hW
    clear hW
    by_cases hkm : k < m
    · go_wp2_with (go_at_call 26; refine (accepts3_any m ac A rs.length c k _ hac (by omega)).mono ?_; rintro e w2 ⟨rfl, hb2⟩; have h2 := HW.out.next hb2; obtain ⟨_, _, u2, _, _, zk, _⟩ := (h2.row.at_ k hkm).some3; have fk := h2.row.free (k * 3 + 2); have hzl := h2.row.lt; have hi1 : (k : Int) < (m : Int) := (by omega); have H2 := Lib.hid h2; clear h2 hb2)
      go_roundw
      case rel => exact ⟨k + 1, by omega, by go_num, H2.out.mark hkm⟩
      case measure => simp [intOf]; omega
    · obtain rfl : k = m := by omega
      have hL0 : ∀ x, x < k → LeastK (accB ac) rs 0 x (startO ac k x) := fun x hx => by
        have h := leastK_zero (accB ac) rs x
        unfold startO
        by_cases ha : accB ac x = true
        · rw [if_pos ha] at h; rw [if_pos ⟨hx, ha⟩]; exact h
        · rw [if_neg ha] at h; rw [if_neg (fun h => ha h.2)]; exact h
      have hB0 : Bnd (startO ac k) 0 := fun x e he => by
        unfold startO at he
        split at he
        · injection he with he; rw [← he]; simp
        · cases he
      go_wp2_with fail
      clear x0 x1 x2 hlt
      generalize wr = W1 at *
      have HI := Lib.hid (And.intro HW.out (And.intro hL0 hB0))
      clear hL0 hB0 HW
      go_loopw [3, 5] (fun y z wr => ∃ (j g cap : Nat) (E : Nat → Option EndR), j ≤ k ∧ z = .int .i64 j ∧ y = .slice (some ⟨g, 0, none⟩) k cap ∧ k ≤ cap ∧ EnW k ac A rs.length c w wr g E ∧ (∀ x, x < k → LeastK (accB ac) rs j x (E x)) ∧ Bnd E j) (fun _ z _ => k - (intOf z).toNat)
      case atStart => exact ⟨0, _, _, _, Nat.zero_le _, rfl, rfl, Nat.le_refl _, HI.out.1, HI.out.2.1, HI.out.2.2⟩
      case round =>
        clear HI W1
        obtain ⟨j, g, cap, E, hj, rfl, rfl, hcap, hW, hL, hB⟩ := hrel
        have x0 : wr.cell? ⟨w.heap.size, 0, none⟩ = some (.int .i64 k) := hW.b0.cell 0
        have x2 : wr.cell? ⟨w.heap.size, 2, none⟩ = some (.slice A rs.length c) := hW.b0.cell 2
        have hlt := hW.b0.lt
        have HW := Lib.hid hW
        have HL := Lib.hid hL
        have HB := Lib.hid hB
        clear hW hL hB
        by_cases hjk : j < k
        · obtain ⟨i0, hi0, hz0, hz1, hz2⟩ := info_parts end3_info
          have HI0 := Lib.hid (And.intro hi0 (And.intro hz0 (And.intro hz1 hz2)))
          have hrd := Reads.below (Reads.all HW.out.row.reads) (below_one wr (.cells #[] 57))
          have HRD := Lib.hid hrd
          have HONE := Lib.hid HW.out.row.one
          have HLEN := Lib.hid (EndRow.list_len wr g k)
          clear hrd hi0 hz0 hz1 hz2
          go_upto_region 10 with (at_builtin; refine wpList_append_all _ (by rfl) _ _ 75 (by rfl) 57 i0 _ 3 40 Try.underlying75 HI0.out.1 HI0.out.2.1 HI0.out.2.2.1 HI0.out.2.2.2 (by rfl) (by decide) wr.heap.size (by rfl) (by exact heap_alloc_new _ _) _ (some ⟨g, 0, none⟩) k cap (EndRow.list wr g k) (by rfl) (by exact HRD.out) (by exact HLEN.out) (by exact HONE.out) (by unfold maxLen; omega) (by omega) ?_; intro g2 cap2 w2 hown2 hgr2)
          refine world_gen (fun W => EnM k ac A rs.length c w W g g2 E E) (EnM.begin HW.out hgr2 hown2) ?_
          have hcap2 : k ≤ cap2 := Acc.le_ (.inl hown2)
          clear hown2 hgr2 HRD HONE HLEN HI0 x0 x2 hlt
          intro W2 h2
          have H2 := Lib.hid h2
          clear h2
          go_wp2_with fail
          go_loopw [7] (fun z wr => ∃ (i : Nat) (N : Nat → Option EndR), i ≤ rs.length ∧ z = .int .i64 i ∧ EnM k ac A rs.length c w wr g g2 E N ∧ BF rs E i N ∧ Bnd N (j + 1)) (fun z _ => rs.length - (intOf z).toNat)
          case atStart => exact ⟨0, E, Nat.zero_le _, rfl, H2.out, BF.begin rs E, HB.out.mono (Nat.le_succ j)⟩
          case round =>
            clear HW H2 W2
            obtain ⟨i, N, hi, rfl, hM, hF2, hBN⟩ := hrel
            have x2 : wr.cell? ⟨w.heap.size, 2, none⟩ = some (.slice A rs.length c) := hM.b0.cell 2
            have hlt := hM.b0.lt
            have hg1 := hM.r1.lt
            have hg2 := hM.r2.lt
            have hbel := hM.bel
            have HM := Lib.hid hM
            have HF2 := Lib.hid hF2
            have HBN := Lib.hid hBN
            clear hM hF2 hBN
            by_cases hil : i < rs.length
            · obtain ⟨r, hr⟩ : ∃ r, rs[i]? = some r := ⟨_, List.getElem?_eq_getElem hil⟩
              obtain ⟨hrf, hrd⟩ := hs r (List.mem_of_getElem? hr)
              have hrc := hcost r (List.mem_of_getElem? hr)
              have hA2 := Reads.lower hA hF hbel
              obtain ⟨br, or, rfl⟩ := Reads.some_ hA2 (by rw [cells_length]; omega)
              obtain ⟨_, hbr, y0, y1, y2, y3, y4⟩ := RulesAt.got hA2 hr
              have hi1 : (r.frm : Int) < (k : Int) := by omega
              have hi2 : (r.dst : Int) < (k : Int) := by omega
              have hi3 : (i : Int) < (rs.length : Int) := by omega
              have HR := Lib.hid hr
              have he1 := HM.out.r1.at_ r.dst hrd
              clear hA2 hr
              cases hEd : E r.dst with
              | none =>
                rw [hEd] at he1
                obtain ⟨_, _, z2⟩ := he1
                have HZ := Lib.hid (HF2.out.skip HR.out hEd)
                clear hEd
                go_wp2_with fail
                go_roundw
                case rel => exact ⟨i + 1, N, by omega, by go_num, HM.out.next (below_one _ _), HZ.out, HBN.out⟩
                case measure => simp [intOf]; omega
              | some e =>
                rw [hEd] at he1
                obtain ⟨B, d, z0, z1, z2, hld, hsl⟩ := he1
                obtain ⟨hel, hec⟩ := HB.out _ _ hEd
                go_upto_region 15 with (fail)
                refine world_gen (fun W => EnM k ac (some ⟨br, or, none⟩) rs.length c w W g g2 E N ∧ Blk W wr.heap.size 53 #[.int .i64 r.frm, .int .i64 r.dst, .string r.inp, .string r.out, .int .i64 r.cost]) ⟨HM.out.next (below_one _ _), Blk.new _ _ _⟩ ?_
                clear z0 z1 z2 hld hsl HM hlt hg1 hg2 hbel x2 hbr y0 y1 y2 y3 y4
                generalize wr.heap.size = X at *
                rintro W ⟨hM, hX⟩
                have he1 := hM.r1.at_ r.dst hrd
                rw [hEd] at he1
                obtain ⟨B, d, z0, z1, z2, hld, hsl⟩ := he1
                have x1 : W.cell? ⟨X, 1, none⟩ = some (.int .i64 r.dst) := hX.cell 1
                have hlX := hX.lt
                have hlg := hM.r1.lt
                have hjk8 : j < 8 := by omega
                have HE := Lib.hid hEd
                have HSL := Lib.hid hsl
                have HM := Lib.hid hM
                have HX := Lib.hid hX
                obtain ⟨i1, hj0, hy0, hy1, hy2⟩ := info_parts int_info
                have HI1 := Lib.hid (And.intro hj0 (And.intro hy0 (And.intro hy1 hy2)))
                have hone : ∀ u ∈ e.l.map vN, u.oneCell' = true := by simp [vN, Value.oneCell']
                have HONE := Lib.hid hone
                have HR1 := Lib.hid (Reads.below HSL.out (below_one W (.cells #[.int .i64 i] 3)))
                clear hEd hsl hM hX hj0 hy0 hy1 hy2 hone
                go_upto_region 16 with (at_builtin; refine wpList_append_one _ (by rfl) _ _ 32 (by rfl) 3 i1 (.int .i64 0) 8 Try.underlying32 HI1.out.1 HI1.out.2.1 HI1.out.2.2.1 HI1.out.2.2.2 (by rfl) W.heap.size (.int .i64 i) (by rfl) (by exact heap_alloc_new _ _) _ B d (e.l.map vN) e.l.length (by simp) (by rfl) (by exact HR1.out) (by exact HONE.out) (by unfold maxLen; omega) (by omega) ?_; intro g5 cap5 w5 hcap5 hrd5 hgr5)
                have hb5 : Below W.heap.size W w5 := (below_one W _).grown hgr5 (by simp) (fun k hk => Nat.le_of_eq (Option.some.inj hk))
                have hs5 : SlAt vN (fun b => w.heap.size < b ∧ b ≠ g ∧ b ≠ g2) w5 (some ⟨g5, 0, none⟩) (i :: e.l) := HM.out.fresh hrd5
                refine world_gen (fun W => EnM k ac (some ⟨br, or, none⟩) rs.length c w W g g2 E N ∧ Blk W X 53 #[.int .i64 r.frm, .int .i64 r.dst, .string r.inp, .string r.out, .int .i64 r.cost] ∧ SlAt vN (fun b => w.heap.size < b ∧ b ≠ g ∧ b ≠ g2) W (some ⟨g5, 0, none⟩) (i :: e.l)) ⟨HM.out.next hb5, HX.out.next hb5, hs5⟩ ?_
                clear hb5 hs5 hrd5 hgr5 HI1 HONE HR1 HSL HX HM x1 hlX hlg z0 z1 z2 hld
                rintro W ⟨hM, hX, hS⟩
                go_cut [10] (fun v wx => EnCut k ac (some ⟨br, or, none⟩) rs.length c w g g2 E N X r (e.ext i r.cost) v wx)
                case first =>
                  have he1 := hM.r1.at_ r.dst hrd
                  rw [HE.out] at he1
                  obtain ⟨B, d, z0, z1, z2, hld, hsl⟩ := he1
                  have x1 : W.cell? ⟨X, 1, none⟩ = some (.int .i64 r.dst) := hX.cell 1
                  have x4 : W.cell? ⟨X, 4, none⟩ = some (.int .i64 r.cost) := hX.cell 4
                  have hlX := hX.lt
                  have hlg := hM.r1.lt
                  have hsum : IntKind.i64.wrap ((r.cost : Int) + (e.cost : Int)) = (r.cost : Int) + (e.cost : Int) := by
                    rw [IntWalk.i64_in _ (by omega)]
                  have hi4 : (0 : Int) ≤ (r.dst : Int) := by omega
                  have HM := Lib.hid hM
                  have HX := Lib.hid hX
                  have HS := Lib.hid hS
                  clear hM hX hS hsl z0 z2 hld
                  go_region_held3 (fun w' => w'.cell? ⟨X, 1, none⟩ = some (.int .i64 r.dst) ∧ w'.cell? ⟨X, 4, none⟩ = some (.int .i64 r.cost) ∧ w'.cell? ⟨g, r.dst * 3 + 1, none⟩ = some (.int .i64 e.cost)) (first | exact ⟨x1, x4, z1⟩ | go_keep) (fail)
                  all_goals (go_wp2; go_meet)
                  all_goals first
                    | exact EnCut.fresh HM.out HX.out HS.out (by omega) (below_drewN (Below.refl _ _) _)
                    | exact EnCut.fresh HM.out HX.out HS.out (by omega) ((Below.refl _ _).drew)
                    | exact EnCut.stored HM.out HX.out HS.out (by omega) ((Below.refl _ _).drew.alloc (Nat.le_refl _) _) (Nat.le_refl _) (Blk.new _ _ _)
                    | exact EnCut.stored HM.out HX.out HS.out (by omega) ((below_drewN (Below.refl _ _) _).alloc (by simp) _) (by simp) (Blk.new _ _ _)
                case rest =>
                  clear hM hX hS W
                  obtain ⟨Y, B, d, rfl, hM, hX, hY, hsl, hld⟩ := hcut
                  have hex : (e.ext i r.cost).l.length ≤ j + 1 ∧ (e.ext i r.cost).cost ≤ 1000 * (j + 1) := by simp only [EndR.ext, List.length_cons]; omega
                  obtain ⟨e2, he2⟩ : ∃ e2, e2 = e.ext i r.cost := ⟨_, rfl⟩
                  rw [← he2] at hex hY hsl hld
                  have HE2 := Lib.hid he2
                  have hBN2 : Bnd (upd N r.frm (some e2)) (j + 1) := fun q f hq => by
                    unfold upd at hq
                    split at hq
                    · injection hq with hq; subst hq; exact hex
                    · exact HBN.out q f hq
                  have HBN2 := Lib.hid hBN2
                  have x0 : wc.cell? ⟨X, 0, none⟩ = some (.int .i64 r.frm) := hX.cell 0
                  have q0 : wc.cell? ⟨Y, 0, none⟩ = some (.slice B e2.l.length d) := hY.cell 0
                  have q1 : wc.cell? ⟨Y, 1, none⟩ = some (.int .i64 e2.cost) := hY.cell 1
                  have q2 : wc.cell? ⟨Y, 2, none⟩ = some (.bool true) := hY.cell 2
                  have hlX := hX.lt
                  have hlY := hY.lt
                  have hl2 := hM.r2.lt
                  have hn1 := hM.r2.at_ r.frm hrf
                  have fz0 := hM.r2.free (r.frm * 3)
                  have fz1 := hM.r2.free (r.frm * 3 + 1)
                  have fz2 := hM.r2.free (r.frm * 3 + 2)
                  have hi4 : (0 : Int) ≤ (r.frm : Int) := by omega
                  have hle2 := hex.1
                  have HM := Lib.hid hM
                  have HX := Lib.hid hX
                  have HY := Lib.hid hY
                  have HSL := Lib.hid hsl
                  clear hM hX hY hsl he2 hex hBN2
                  cases hNf : N r.frm with
                  | none =>
                    rw [hNf] at hn1
                    obtain ⟨n0, n1, n2⟩ := hn1
                    have HZ := Lib.hid (HF2.out.take HR.out HE.out (fun g hg => by rw [hNf] at hg; cases hg))
                    rw [← HE2.out] at HZ
                    clear hNf
                    go_wp2_with fail
                    go_quiet (fail)
                    go_wp2_with fail
                    go_roundw
                    case rel => exact ⟨i + 1, _, by omega, by go_num, (HM.out.next (below_drewN (Below.refl _ _) _)).put hrf (Reads.below HSL.out (below_drewN (Below.refl _ _) _)) hld, HZ.out, HBN2.out⟩
                    case measure => simp [intOf]; omega
                  | some f =>
                    rw [hNf] at hn1
                    obtain ⟨B3, d3, n0, n1, n2, hl3, hsl3⟩ := hn1
                    have hfl := (HBN.out _ _ hNf).1
                    have HNF := Lib.hid hNf
                    have HSL3 := Lib.hid hsl3
                    clear hNf hsl3
                    go_upto_region 17 with (fail)
                    go_cut [90] (fun v wx => ∃ w6, v = .bool (e2.before f) ∧ Below wc.heap.size wc w6 ∧ wx = w6)
                    case first =>
                      have HC : Hid (Below wc.heap.size wc wc.drew) := Lib.hid (Below.refl _ _).drew
                      go_region_held3 (fun w' => w'.cell? ⟨X, 0, none⟩ = some (.int .i64 r.frm) ∧ w'.cell? ⟨Y, 0, none⟩ = some (.slice B e2.l.length d) ∧ w'.cell? ⟨Y, 1, none⟩ = some (.int .i64 e2.cost) ∧ w'.cell? ⟨Y, 2, none⟩ = some (.bool true) ∧ w'.cell? ⟨g2, r.frm * 3, none⟩ = some (.slice B3 f.l.length d3) ∧ w'.cell? ⟨g2, r.frm * 3 + 1, none⟩ = some (.int .i64 f.cost) ∧ w'.cell? ⟨g2, r.frm * 3 + 2, none⟩ = some (.bool true))
                        (first | exact ⟨x0, q0, q1, q2, n0, n1, n2⟩ | go_keep)
                        (first | (go_at_call 27; refine (before3_any _ _ B B3 d d3 true true e2 f _ (by exact Reads.below HSL.out HC.out) (by exact Reads.below HSL3.out HC.out) (by omega)).mono ?_; rintro z w6 ⟨rfl, hb6⟩; have hz6 := HC.out.size; replace HC := Lib.hid (HC.out.trans (hb6.mono HC.out.size)); have x0 : w6.cell? ⟨X, 0, none⟩ = some (.int .i64 r.frm) := (HX.out.next HC.out).cell 0; have q0 : w6.cell? ⟨Y, 0, none⟩ = some (.slice B e2.l.length d) := (HY.out.next HC.out).cell 0; have q1 : w6.cell? ⟨Y, 1, none⟩ = some (.int .i64 e2.cost) := (HY.out.next HC.out).cell 1; have q2 : w6.cell? ⟨Y, 2, none⟩ = some (.bool true) := (HY.out.next HC.out).cell 2; have n0 := (HC.out.cell (p := ⟨g2, r.frm * 3, none⟩) hl2).trans n0; have n1 := (HC.out.cell (p := ⟨g2, r.frm * 3 + 1, none⟩) hl2).trans n1; have n2 := (HC.out.cell (p := ⟨g2, r.frm * 3 + 2, none⟩) hl2).trans n2))
                      all_goals (go_wp2; go_meet)
                      all_goals exact ⟨_, rfl, HC.out, rfl⟩
                    case rest =>
                      obtain ⟨w6, rfl, hb6, rfl⟩ := hcut
                      have x0 := (hb6.cell (p := ⟨X, 0, none⟩) hlX).trans x0
                      have q0 := (hb6.cell (p := ⟨Y, 0, none⟩) hlY).trans q0
                      have q1 := (hb6.cell (p := ⟨Y, 1, none⟩) hlY).trans q1
                      have q2 := (hb6.cell (p := ⟨Y, 2, none⟩) hlY).trans q2
                      have n0 := (hb6.cell (p := ⟨g2, r.frm * 3, none⟩) hl2).trans n0
                      have n1 := (hb6.cell (p := ⟨g2, r.frm * 3 + 1, none⟩) hl2).trans n1
                      have n2 := (hb6.cell (p := ⟨g2, r.frm * 3 + 2, none⟩) hl2).trans n2
                      have fz0 := (hb6.frozen (p := ⟨g2, r.frm * 3, none⟩) hl2).trans fz0
                      have fz1 := (hb6.frozen (p := ⟨g2, r.frm * 3 + 1, none⟩) hl2).trans fz1
                      have fz2 := (hb6.frozen (p := ⟨g2, r.frm * 3 + 2, none⟩) hl2).trans fz2
                      have hz6 := hb6.size
                      have HC := Lib.hid hb6
                      clear hb6
                      cases hbf : e2.before f with
                      | true =>
                        have HZ := Lib.hid (HF2.out.take HR.out HE.out (fun g hg => by rw [HNF.out] at hg; injection hg with hg; subst hg; rw [← HE2.out]; exact hbf))
                        rw [← HE2.out] at HZ
                        clear hbf
                        go_wp2_with fail
                        go_roundw
                        case rel => exact ⟨i + 1, _, by omega, by go_num, (HM.out.next HC.out).put hrf (Reads.below HSL.out HC.out) hld, HZ.out, HBN2.out⟩
                        case measure => simp [intOf]; omega
                      | false =>
                        have HZ := Lib.hid (HF2.out.stay HR.out HE.out HNF.out (by rw [← HE2.out]; exact hbf))
                        clear hbf
                        go_wp2_with fail
                        go_roundw
                        case rel => exact ⟨i + 1, N, by omega, by go_num, HM.out.next HC.out, HZ.out, HBN.out⟩
                        case measure => simp [intOf]; omega
            · have HZ := Lib.hid (HF2.out.done (by omega) hs HL.out)
              go_wp2_with fail
              go_roundw
              case rel => exact ⟨j + 1, g2, cap2, N, by omega, by go_num, rfl, hcap2, HM.out.out, HZ.out, HBN.out⟩
              case measure => simp [intOf]; omega
        · obtain rfl : j = k := by omega
          go_wp2_with fail
          go_ret
          exact ⟨g, cap, E, rfl, HW.out.bel, HW.out.hg, HW.out.row, HL.out, HB.out⟩
end Go.Proofs.Ytpidgkngefkbeaa
