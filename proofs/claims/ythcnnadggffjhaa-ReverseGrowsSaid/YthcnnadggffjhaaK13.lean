/- The walk of ReverseGrows. -/
import Derived.Test.YthcnnadggffjhaaV7
import Derived.Test.YthcnnadggffjhaaQ7
set_option linter.unusedVariables false
set_option linter.unusedSimpArgs false
namespace Go.Proofs.Ythcnnadggffjhaa
open Go.RowKit

set_option maxHeartbeats 20000000 in
set_option maxRecDepth 100000 in
theorem grows6_any (b dr : Nat) (more : List RawRule) (A : Option Addr) (c : Nat) (A' : Option Addr) (c' : Nat) (l : List Nat) (A1 A2 : Option Addr) (c1 c2 : Nat) (r : RawRule) (w : World) (hb8 : b < 256) (hd8 : dr < 256) (hR : RawAt (· < w.heap.size) w A more) (hwf : ∀ r ∈ more, r.wf) (hml : more.length ≤ maxLen)
    (hL : SlAt v8 (· < w.heap.size) w A' l) (hl8 : ∀ x ∈ l, x < 256) (hl : l.length ≤ maxLen) (hr1 : SlAt v8 (· < w.heap.size) w A1 r.inp) (hr2 : SlAt v8 (· < w.heap.size) w A2 r.out) (hrw : r.wf) :
    Calls Try.prog 6 #[.agg #[.int .u8 b, .int .u8 dr, .slice A more.length c], .slice A' l.length c', .agg #[.slice A1 r.inp.length c1, .slice A2 r.out.length c2, .int .u8 r.frm, .int .u8 r.dst, .int .u8 r.cost]] w (RetTrue w) := by
  go_enter Try.func6, Try.ntmps6
  go_upto_region 1 with (fail)
  refine world_gen (fun W => Below w.heap.size w W ∧ Blk W w.heap.size 24 #[.int .u8 b, .int .u8 dr, .slice A more.length c] ∧ Blk W (w.heap.size + 1) 63 #[.slice A1 r.inp.length c1, .slice A2 r.out.length c2, .int .u8 r.frm, .int .u8 r.dst, .int .u8 r.cost]) ⟨(below_one _ _).alloc (by simp) _, (Blk.new _ _ _).alloc _, Blk.new2 _ _ _ _⟩ ?_
  rintro W ⟨hbel, b0, b1⟩
  go_wp2_with fail
  refine (sanity6_any _).mono ?_
  rintro e w1 ⟨rfl, hb1⟩
  have hbel1 := hbel.trans (hb1.mono hbel.size)
  have b01 := b0.next hb1
  have b11 := b1.next hb1
  have x0 : w1.cell? ⟨w.heap.size, 0, none⟩ = some (.int .u8 b) := b01.cell 0
  have x1 : w1.cell? ⟨w.heap.size, 1, none⟩ = some (.int .u8 dr) := b01.cell 1
  have x2 : w1.cell? ⟨w.heap.size, 2, none⟩ = some (.slice A more.length c) := b01.cell 2
  have hlt0 := b01.lt
  have hlt1 := b11.lt
  clear b0 b1 hbel b01
  go_wp2_with fail
  refine (made6_any (· < w.heap.size) b dr more A c _ (fun k hk => by have := hbel1.size; omega) (RawAt.lower hR (fun _ h => h) hbel1) hwf hb8 hd8 hml).mono ?_
  rintro e w2 ⟨A2s, c2s, rfl, hb2, hacc⟩
  have hok := made6_ok b dr more
  have hn99 := made6_n9 b dr more
  have hbel2 := hbel1.trans (hb2.mono hbel1.size)
  have hb1' := b11.next hb2
  clear x0 x1 x2 hlt0 hlt1 hbel1 hb1 hb2 hR hwf hml b11
  generalize made6 b dr more = s at *
  go_upto_region 3 with (fail)
  refine world_gen (fun W => SY s w2.heap.size A2s c2s w W ∧ Blk W (w.heap.size + 1) 63 #[.slice A1 r.inp.length c1, .slice A2 r.out.length c2, .int .u8 r.frm, .int .u8 r.dst, .int .u8 r.cost]) ⟨⟨hbel2.alloc hbel2.size _, Blk.new _ _ _, (Reads.below (Acc.reads hacc) (below_one _ _)).mono (fun _ _ => trivial)⟩, hb1'.alloc _⟩ ?_
  clear hacc hbel2 hb1'
  generalize w2.heap.size = S at *
  rintro W3 ⟨h3, hbx1⟩
  have H3 := Lib.hid h3
  have HX := Lib.hid hbx1
  have HOK := Lib.hid hok
  have hn9 := hok.n9
  clear hbx1 hok
  go_cut [9] (fun v wx => ∃ T, v = .pointer (some ⟨T, 0, none⟩) ∧ GW s T W3 wx)
  case first =>
    as_aux_lemma =>
      obtain ⟨i0, hi0, hz0, hz1, hz2⟩ := info_parts rule_info
      obtain ⟨x0, x1, x2, hlt⟩ := h3.cells
      have hrl : s.rules.length ≤ 10 := hn9
      clear h3
      go_region_held3 (fun w' => w'.cell? ⟨S, 0, none⟩ = some (.int .i64 s.modes) ∧ w'.cell? ⟨S, 1, none⟩ = some (.int .u8 s.accept) ∧ w'.cell? ⟨S, 2, none⟩ = some (.slice A2s s.rules.length c2s))
        (first | exact ⟨s0, s1, s2⟩ | exact ⟨cell_far3 s0 (by simp; omega), cell_far3 s1 (by simp; omega), cell_far3 s2 (by simp; omega)⟩ | go_keep)
        (first | (refine step_append_all _ (by rfl) _ _ 29 (by rfl) 65 i0 _ 5 56 Try.underlying29 hi0 hz0 hz1 hz2 (by rfl) (by decide) _ (by rfl) (by first | exact Blk.new _ _ _ | exact (Blk.new _ _ _).alloc _ | exact Blk.new2 _ _ _ _) (fun _ => True) A2s s.rules.length c2s (s.rules.flatMap Rule.cells) (by rfl) (by first | exact Reads.below H3.out.rules (below_drewN ((Below.refl _ _).alloc (Nat.le_refl _) _) 1) | exact Reads.below H3.out.rules (below_drewN (((Below.refl _ _).alloc (Nat.le_refl _) _).alloc (by simp) _) 1)) (cells_length _) (by exact cells_one _) (by unfold maxLen; omega) (by omega) ?_; intro g cap w5 hown5 hgr5; have hpre5 : Below W3.heap.size W3 w5 := (by first | exact (below_drewN ((Below.refl _ _).alloc (Nat.le_refl _) _) 1).grown hgr5 (by simp) (fun k hk => by have := Option.some.inj hk; omega) | exact (below_drewN (((Below.refl _ _).alloc (Nat.le_refl _) _).alloc (by simp) _) 1).grown hgr5 (by simp; omega) (fun k hk => by have := Option.some.inj hk; omega)); obtain ⟨s0, s1, s2, hs5⟩ := (H3.out.next hpre5).cells; have hw5 := hpre5.size; (first | (have b18 : Blk w5 W3.heap.size 31 #[.int .i64 0, .int .u8 0, .slice none 0 0] := (by refine Blk.grown ?_ hgr5 (by simp); exact (Blk.new W3 _ _).alloc _); have u0 : w5.cell? ⟨W3.heap.size, 0, none⟩ = some (.int .i64 0) := b18.cell 0; have u1 : w5.cell? ⟨W3.heap.size, 1, none⟩ = some (.int .u8 0) := b18.cell 1; have u2 : w5.cell? ⟨W3.heap.size, 2, none⟩ = some (.slice none 0 0) := b18.cell 2; have v0 := b18.free 0; have v1 := b18.free 1; have v2 := b18.free 2; have B18 := Lib.hid b18; clear b18) | (have b19 : Blk w5 (W3.heap.size + 1) 31 #[.int .i64 0, .int .u8 0, .slice none 0 0] := (by refine Blk.grown ?_ hgr5 (by simp); exact Blk.new2 _ _ _ _); have u0 : w5.cell? ⟨W3.heap.size + 1, 0, none⟩ = some (.int .i64 0) := b19.cell 0; have u1 : w5.cell? ⟨W3.heap.size + 1, 1, none⟩ = some (.int .u8 0) := b19.cell 1; have u2 : w5.cell? ⟨W3.heap.size + 1, 2, none⟩ = some (.slice none 0 0) := b19.cell 2; have v0 := b19.free 0; have v1 := b19.free 1; have v2 := b19.free 2; have B18 := Lib.hid b19; clear b19) | skip)))
      all_goals (go_wp2; go_meet)
      all_goals first
        | exact ⟨_, rfl, GW.fresh hpre5 hown5 (by omega)⟩
        | exact ⟨_, rfl, GW.stored hpre5 hown5 (by omega) B18.out (by omega)⟩
  case rest =>
    clear h3
    obtain ⟨T, rfl, g, cap, hb0, hT, bT, hown⟩ := hcut
    obtain ⟨q, hq⟩ : ∃ q, r.made s.modes = q := ⟨_, rfl⟩
    have hr0 := HX.out.next hb0
    have y0 : wc.cell? ⟨w.heap.size + 1, 0, none⟩ = some (.slice A1 r.inp.length c1) := hr0.cell 0
    have y1 : wc.cell? ⟨w.heap.size + 1, 1, none⟩ = some (.slice A2 r.out.length c2) := hr0.cell 1
    have y2 : wc.cell? ⟨w.heap.size + 1, 2, none⟩ = some (.int .u8 r.frm) := hr0.cell 2
    have y3 : wc.cell? ⟨w.heap.size + 1, 3, none⟩ = some (.int .u8 r.dst) := hr0.cell 3
    have y4 : wc.cell? ⟨w.heap.size + 1, 4, none⟩ = some (.int .u8 r.cost) := hr0.cell 4
    have hyl := hr0.lt
    have x0 : wc.cell? ⟨S, 0, none⟩ = some (.int .i64 s.modes) := (H3.out.next hb0).cells.1
    have hSl2 := (H3.out.next hb0).box.lt
    have hq1 := made1_s r A1 A2 c1 c2 s.modes q hq wc (Reads.below (hr1.mono (fun _ _ => trivial)) (H3.out.bel.trans (hb0.mono H3.out.bel.size))) (Reads.below (hr2.mono (fun _ _ => trivial)) (H3.out.bel.trans (hb0.mono H3.out.bel.size))) (by have := HOK.out.m0; omega) (by have := HOK.out.m2; omega) hrw
    have HQ := Lib.hid hq
    have HQ1 := Lib.hid hq1
    have HB0 := Lib.hid (And.intro hb0 (And.intro bT (And.intro hown hT)))
    clear hq hq1 hb0 bT hown hr1 hr2 hrw hr0
    go_upto_region 5 with (go_at_call 24; refine HQ1.out.mono ?_; rintro e w4 ⟨rfl, hb4⟩; have HB4 := Lib.hid hb4; clear hb4)
    have hbw := HB4.out.trans ((below_one w4 (.cells #[.int .i64 q.frm, .int .i64 q.dst, .string q.inp, .string q.out, .int .i64 q.cost] 65)).mono HB4.out.size)
    have hgw : g < w4.heap.size := by
      obtain ⟨cs, hcs⟩ := own_ty (b := g) HB0.out.2.2.1 rfl
      exact Nat.lt_of_lt_of_le hcs.lt HB4.out.size
    refine world_gen (fun W5 => SY s S A2s c2s w W5 ∧ (Below W3.heap.size W3 W5 ∧ W3.heap.size ≤ T ∧ Blk W5 T 31 #[.int .i64 s.modes, .int .u8 s.accept, .slice (some ⟨g, 0, none⟩) s.rules.length cap] ∧ W5.ownsRow W3.heap.size 65 5 (.slice (some ⟨g, 0, none⟩) s.rules.length cap) s.rules.length (s.rules.flatMap Rule.cells)) ∧ Blk W5 w4.heap.size 65 #[.int .i64 q.frm, .int .i64 q.dst, .string q.inp, .string q.out, .int .i64 q.cost]) ⟨(H3.out.next HB0.out.1).next hbw, ⟨HB0.out.1.trans (hbw.mono HB0.out.1.size), HB0.out.2.2.2, HB0.out.2.1.next hbw, ownBelow hbw HB0.out.2.2.1⟩, Blk.new _ _ _⟩ ?_
    clear hbw HB4 y0 y1 y2 y3 y4 hyl x0 hSl2 HQ1 HB0 HX
    generalize w4.heap.size = R at *
    rintro W5 ⟨hS5, ⟨hb5, hT5, bT5, hown5⟩, hR5⟩
    have hTg : T ≠ g := fun he => absurd (Ty.unique ⟨_, bT5⟩ (by rw [he]; exact own_ty (b := g) hown5 rfl)) (by decide)
    have hRg : R ≠ g := by omega
    have hTR : T ≠ R := fun he => absurd (Ty.unique ⟨_, bT5⟩ (by rw [he]; exact ⟨_, hR5⟩)) (by decide)
    have z0 : W5.cell? ⟨R, 0, none⟩ = some (.int .i64 q.frm) := hR5.cell 0
    have z1 : W5.cell? ⟨R, 1, none⟩ = some (.int .i64 q.dst) := hR5.cell 1
    have z2 : W5.cell? ⟨R, 2, none⟩ = some (.string q.inp) := hR5.cell 2
    have z3 : W5.cell? ⟨R, 3, none⟩ = some (.string q.out) := hR5.cell 3
    have z4 : W5.cell? ⟨R, 4, none⟩ = some (.int .i64 q.cost) := hR5.cell 4
    have t2 : W5.cell? ⟨T, 2, none⟩ = some (.slice (some ⟨g, 0, none⟩) s.rules.length cap) := bT5.cell 2
    have f2 : W5.frozen? ⟨T, 2, none⟩ = false := bT5.free 2
    have hlR := hR5.lt
    have hlT := bT5.lt
    have hsz5 := hb5.size
    have H5 := Lib.hid (And.intro hS5 (And.intro hb5 (And.intro bT5 (And.intro hown5 (And.intro hR5 hT5)))))
    clear hS5 hb5 bT5 hown5 hR5 hT5
    go_cut [] (fun wx => SY s S A2s c2s w wx ∧ GT s ⟨s.modes, s.accept, s.rules ++ [q]⟩ T W3 wx ∧ Blk wx R 65 #[.int .i64 q.frm, .int .i64 q.dst, .string q.inp, .string q.out, .int .i64 q.cost])
    case first =>
      as_aux_lemma =>
        obtain ⟨i0, hi0, hz0, hz1, hz2⟩ := info_parts rule_info
        have HII := Lib.hid (And.intro hi0 (And.intro hz0 (And.intro hz1 hz2)))
        have hnews : ∀ (j : Nat) (u : Value), [.int .i64 q.frm, .int .i64 q.dst, .string q.inp, .string q.out, .int .i64 q.cost][j]? = some u → (W5.alloc (.cells #[.int .i64 q.frm, .int .i64 q.dst, .string q.inp, .string q.out, .int .i64 q.cost] 65)).cell? ((⟨W5.heap.size, 0, none⟩ : Addr).add j) = some u := fun j u hu =>
          add_cell (F := fun _ => True) (Reads.block (heap_alloc_new W5 (.cells #[.int .i64 q.frm, .int .i64 q.dst, .string q.inp, .string q.out, .int .i64 q.cost] 65)) trivial) hu
        have HNEWS := Lib.hid hnews
        clear hi0 hz0 hz1 hz2 hnews
        go_wp2_with (at_builtin; go_loud (refine wpList_append_own_at _ (by rfl) _ _ 29 (by rfl) W3.heap.size 65 i0 _ 5 56 Try.underlying29 HII.out.1 HII.out.2.1 HII.out.2.2.1 HII.out.2.2.2 (by rfl) (by decide) (.slice (some ⟨g, 0, none⟩) s.rules.length cap) s.rules.length (s.rules.flatMap Rule.cells) (by rfl) (by exact ownBelow (below_one _ _) H5.out.2.2.2.1) ⟨W5.heap.size, 0, none⟩ 1 1 [.int .i64 q.frm, .int .i64 q.dst, .string q.inp, .string q.out, .int .i64 q.cost] (by rfl) (by rfl) (by exact HNEWS.out) (by simp [Value.oneCell']) (by unfold maxLen; omega) (by omega) (by simp; omega) ?_; intro v8 w8 hown8 hgr8 _ hat8; obtain ⟨g8, cap8, rfl, _, _⟩ := hown8.form (by omega); have b8 := (H5.out.2.2.1.alloc (.cells #[.int .i64 q.frm, .int .i64 q.dst, .string q.inp, .string q.out, .int .i64 q.cost] 65)).grown hgr8 (by simp [Value.ownBlock]; exact hTg); have r8 := (H5.out.2.2.2.2.1.alloc (.cells #[.int .i64 q.frm, .int .i64 q.dst, .string q.inp, .string q.out, .int .i64 q.cost] 65)).grown hgr8 (by simp [Value.ownBlock]; exact hRg); have t8 : w8.cell? ⟨T, 2, none⟩ = some (.slice (some ⟨g, 0, none⟩) s.rules.length cap) := b8.cell 2; have f8 : w8.frozen? ⟨T, 2, none⟩ = false := b8.free 2; have B8 := Lib.hid (And.intro b8 r8); clear b8 r8))
        go_meet
        case rel =>
          have hbel8 := (H5.out.2.1.trans ((below_one W5 (.cells #[.int .i64 q.frm, .int .i64 q.dst, .string q.inp, .string q.out, .int .i64 q.cost] 65)).mono H5.out.2.1.size)).grown hgr8 (by simp; omega) (fun k hk => by
            have hk : some g = some k := hk
            have := Option.some.inj hk
            have h9 := H5.out.2.2.2.1.2
            rcases h9 with ⟨h9, _⟩ | ⟨g9, cap9, cur9, h9, hg9, _⟩
            · cases h9
            · injection h9 with h9
              injection h9 with h9
              injection h9 with h9
              omega)
          have hset := hbel8.setCell (p := ⟨T, 2, none⟩) H5.out.2.2.2.2.2 (.slice (some ⟨g8, 0, none⟩) (s.rules.length + 1) cap8)
          exact ⟨H3.out.next hset, GT.of ⟨hbel8, H5.out.2.2.2.2.2, _, B8.out.1⟩ hown8, B8.out.2.far (by simp; omega) _⟩
    case rest =>
      obtain ⟨hS6, ⟨At, ct, hb6, hT6, bT6, hr6⟩, hR6⟩ := hcut
      obtain ⟨rs', hrs⟩ : ∃ rs', s.rules ++ [q] = rs' := ⟨_, rfl⟩
      simp only at bT6 hr6
      rw [hrs] at bT6 hr6
      have hq1 : q.short := by rw [← HQ.out]; exact RawRule.made_short r s.modes
      have hsz : ∀ x ∈ rs', x.inp.size ≤ maxLen ∧ x.out.size ≤ maxLen := fun x hx => by
        rw [← hrs, List.mem_append] at hx
        rcases hx with hx | hx
        · have := HOK.out.bnd x hx; unfold maxLen; exact ⟨by have := this.1; omega, by have := this.2.1; omega⟩
        · rw [List.mem_singleton.1 hx]; unfold maxLen; exact ⟨by have := hq1.1; omega, by have := hq1.2; omega⟩
      have hn' : rs'.length ≤ 10 := by rw [← hrs, List.length_append]; simp; omega
      have hgrow : 1 ≤ q.inp.size → allRight s.modes rs' = true → Ok6 ⟨s.modes, s.accept, rs'⟩ := fun h1 h => by
        rw [← hrs] at h ⊢
        exact grown6 HOK.out hn99 h1 h
      have HRS := Lib.hid hrs
      have HGR := Lib.hid hgrow
      have HTW := Lib.hid (And.intro hS6 (And.intro (show SY ⟨s.modes, s.accept, rs'⟩ T At ct w wc from ⟨hS6.bel, bT6, hr6⟩) hR6))
      have hval := valid_any (fun _ => True) s.modes s.accept At ct rs' wc hr6 (by omega) (by have := HOK.out.m0; omega) (by have := HOK.out.m2; omega) (by have := HOK.out.ac; omega) (by rw [HOK.out.ac]; have := HOK.out.m0; exact Nat.one_lt_two_pow (by omega)) hsz
      have HVAL := Lib.hid hval
      clear hS6 hb6 hT6 bT6 hr6 hR6 hrs hq1 hsz hgrow hval H5 z0 z1 z2 z3 z4 t2 f2 hlR hlT hsz5 hTg hRg hTR hgw HQ
      obtain ⟨t0, t1, t2, htl⟩ := HTW.out.2.1.cells
      simp only at t0 t1 t2
      go_wp2_with fail
      refine HVAL.out.mono ?_
      rintro e w7 ⟨rfl, hb7⟩
      have HTW7 := Lib.hid (And.intro (HTW.out.1.next hb7) (And.intro (HTW.out.2.1.next hb7) (HTW.out.2.2.next hb7)))
      clear HTW HVAL hb7 t0 t1 t2 htl
      have z2 : w7.cell? ⟨R, 2, none⟩ = some (.string q.inp) := HTW7.out.2.2.cell 2
      have hlR := HTW7.out.2.2.lt
      rcases hv : allRight s.modes rs' with _ | _
      · go_wp2_with fail
        go_ret
        exact ⟨rfl, HTW7.out.1.bel⟩
      · have HV := Lib.hid hv
        clear hv
        by_cases he0 : q.inp.size = 0
        · have q1 : q.inp = ⟨#[]⟩ := by
            obtain ⟨f1, f2, ⟨a⟩, f3, f4⟩ := q
            have : a.size = 0 := he0
            simp only
            rw [Array.eq_empty_of_size_eq_zero this]
          rw [q1] at z2
          clear q1 he0
          go_wp2_with fail
          go_ret
          exact ⟨rfl, HTW7.out.1.bel⟩
        · have hokt := HGR.out (by omega) HV.out
          obtain ⟨q1, q2, q3⟩ := not_empty (s := q.inp) (by omega)
          have HOKT := Lib.hid hokt
          clear he0 hokt HGR HV
          go_wp2_with fail
          refine (text6_any (· < w.heap.size) A' c' 4 l _ (Reads.below hL HTW7.out.1.bel) hl (by decide) hl8).mono ?_
          rintro e w8 ⟨rfl, hb8⟩
          obtain ⟨out, hout⟩ : ∃ out, textOf l 4 = out := ⟨_, rfl⟩
          have hot : isText out = true := by rw [← hout]; exact textOf_text l (by decide)
          have hos : out.size ≤ 4 := by rw [← hout]; exact textOf_size l 4
          rw [hout]
          have H8 := Lib.hid (And.intro (HTW7.out.1.next hb8) (HTW7.out.2.1.next hb8))
          clear hout hb8 HTW7 hL hl8 hl z2 hlR q1 q2 q3
          obtain ⟨x0, x1, x2, hlt⟩ := H8.out.1.cells
          go_wp2_with fail
          refine (cheapC HOK.out A2s c2s out _ (fun _ => True) H8.out.1.rules hot (by omega)).mono ?_
          rintro e w9 ⟨p9, er9, l9, N9, rfl, hb9, ho9, he9, hp9, _⟩
          have H9 := Lib.hid (And.intro (H8.out.1.next hb9) (H8.out.2.next hb9))
          have R9 := Lib.hid (And.intro ho9 (And.intro he9 hp9))
          clear hb9 ho9 he9 hp9 H8 x0 x1 x2 hlt
          obtain ⟨t0, t1, t2, htl⟩ := H9.out.2.cells
          simp only at t0 t1 t2
          go_wp2_with fail
          refine (cheapC HOKT.out At ct out _ (fun _ => True) H9.out.2.rules hot (by omega)).mono ?_
          rintro e w10 ⟨p10, er10, l10, N10, rfl, hb10, ho10, he10, hp10, _⟩
          have H10 := Lib.hid (H9.out.1.next hb10)
          have hplain := grows_plain (fun x hx => by rw [← HRS.out]; exact List.mem_append_left _ hx) (found R9.out.1) (found ho10)
          by_cases hem : l9 = []
          · have h5 : er9 = 50 := by rw [R9.out.2.1, hem]; rfl
            subst h5
            clear hb10 ho10 he10 hp10 H9 R9 hplain t0 t1 t2 htl hem
            go_wp2_with fail
            go_ret
            exact ⟨rfl, H10.out.bel⟩
          · obtain ⟨hne, hle⟩ := hplain hem
            have h5 : er9 = 0 := by rw [R9.out.2.1]; exact errOf_some hem
            have h6 : er10 = 0 := by rw [he10]; exact errOf_some hne
            have hcmp : (p10.2 : Int) ≤ (p9.2 : Int) := by have := hle p9 p10 (R9.out.2.2 hem) (hp10 hne); omega
            subst h5 h6
            clear hb10 ho10 he10 hp10 H9 R9 hplain t0 t1 t2 htl hem hne hle
            go_wp2_with fail
            go_ret
            exact ⟨rfl, H10.out.bel⟩
end Go.Proofs.Ythcnnadggffjhaa
