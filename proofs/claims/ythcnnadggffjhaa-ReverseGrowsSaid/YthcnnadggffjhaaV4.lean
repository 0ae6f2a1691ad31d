/- The fixed examples of layer 6, call by call. -/
import Derived.Test.YthcnnadggffjhaaQ4
import Derived.Test.YthcnnadggffjhaaV3
import Derived.Test.YthcnnadggffjhaaI12
import Derived.Test.YthcnnadggffjhaaI17
set_option linter.unusedVariables false
set_option linter.unusedSimpArgs false
namespace Go.Proofs.Ythcnnadggffjhaa
open Go.RowKit

theorem san_a : ∀ r ∈ sanR, r.frm < 1 ∧ r.dst < 1 := by decide
theorem san_b : ∀ r ∈ sanR, r.inp.size ≤ 4 ∧ r.out.size ≤ 4 ∧ r.cost ≤ 1000 := by decide
theorem san_c : ∀ r ∈ sanR, 1 ≤ r.inp.size ∨ r.frm < r.dst := by decide
section
variable {F : Nat → Prop} {A : Option Addr} {c : Nat} {w : World} (hA : RulesAt F w A sanR)
include hA
theorem s6_best1 : Calls Try.prog 12 #[.agg #[.int .i64 1, .int .u8 1, .slice A 4 c], .string ⟨#[65, 66]⟩, .int .i64 9] w fun e w' => (∃ A' c', e = .returned (.tuple #[.slice A' 1 c', .int .i64 0]) ∧ ResAt (fun _ => True) w' A' [(⟨#[97, 98]⟩, 1)]) ∧ Below w.heap.size w w' := by
  refine (best_any (· < w.heap.size) 1 1 A c sanR ⟨#[65, 66]⟩ 9 w (Reads.all hA) (fun b h => h) (by decide) (by decide) (by decide) (by decide) san_a san_b (by decide) (by decide) (by decide) (by decide)).mono ?_
  rintro e w' ⟨hb, N, l, ho, hk⟩
  obtain rfl := outer_det ho san_best1
  rcases hk with ⟨h, _⟩ | ⟨_, A', c', he, _, hR⟩
  · cases h
  · exact ⟨⟨A', c', he, Reads.mono hR fun _ _ => trivial⟩, hb⟩
theorem s6_cheap1 : Calls Try.prog 14 #[.agg #[.int .i64 1, .int .u8 1, .slice A 4 c], .string ⟨#[]⟩] w fun e w' => e = .returned (.tuple #[.string ⟨#[]⟩, .int .i64 0, .int .i64 0]) ∧ Below w.heap.size w w' := by
  refine (cheapest_any (· < w.heap.size) 1 1 A c sanR ⟨#[]⟩ w (Reads.all hA) (fun b h => h) (by decide) (by decide) (by decide) (by decide) san_a san_b (by decide) (by decide)).mono ?_
  rintro e w' ⟨hb, N, l, ho, hk⟩
  obtain rfl := outer_det ho san_best2
  rcases hk with ⟨h, _⟩ | ⟨p, l', h, he⟩
  · cases h
  · injection h with h1 h2
    subst h1
    exact ⟨he, hb⟩
theorem s6_cheap2 : Calls Try.prog 14 #[.agg #[.int .i64 1, .int .u8 1, .slice A 4 c], .string ⟨#[67]⟩] w fun e w' => e = .returned (.tuple #[.string ⟨#[]⟩, .int .i64 0, .int .i64 50]) ∧ Below w.heap.size w w' := by
  refine (cheapest_any (· < w.heap.size) 1 1 A c sanR ⟨#[67]⟩ w (Reads.all hA) (fun b h => h) (by decide) (by decide) (by decide) (by decide) san_a san_b (by decide) (by decide)).mono ?_
  rintro e w' ⟨hb, N, l, ho, hk⟩
  obtain rfl := outer_det ho san_best3
  rcases hk with ⟨_, he⟩ | ⟨p, l', h, he⟩
  · exact ⟨he, hb⟩
  · cases h
theorem s6_pair (inp out : ByteArray) (o : Option EndR) (ho : fromE (accB 1) sanR inp out 0 0 0 = o) (h1 : isLetters inp = true) (h2 : isText out = true) : Calls Try.prog 16 #[.agg #[.int .i64 1, .int .u8 1, .slice A 4 c], .string inp, .string out] w fun e w' => (∃ A' c', e = .returned (.tuple #[.slice A' (wayOf o).l.length c', .int .i64 (if o.isSome then 0 else 50)]) ∧ SlAt vN (fun _ => True) w' A' (wayOf o).l) ∧ Below w.heap.size w w' := by
  refine (pair_any (· < w.heap.size) 1 1 A c sanR inp out w (Reads.all hA) (fun b h => h) (by decide) (by decide) (by decide) (by decide) san_a san_b san_c h1 h2).mono ?_
  rintro e w' ⟨hb, hk⟩
  subst ho
  rcases hk with ⟨h, he⟩ | ⟨x, A', c', h, he, hR⟩
  · rw [h]
    exact ⟨⟨none, 0, he, Reads.nil _⟩, hb⟩
  · rw [h]
    exact ⟨⟨A', c', he, Reads.mono hR fun _ _ => trivial⟩, hb⟩
end
theorem s6_same (F G : Nat → Prop) (A B : Option Addr) (c d : Nat) (w : World) (h : ResAt F w A [(⟨#[97, 98]⟩, 1)]) (h2 : ResAt G w B [(⟨#[97, 98]⟩, 1)]) : Calls Try.prog 18 #[.slice A 1 c, .slice B 1 d] w fun e w' => e = .returned (.bool true) ∧ Below w.heap.size w w' :=
  same6_any F G A B c d _ _ w h h2 (by decide) (by decide)
theorem s6_ints1 (F G : Nat → Prop) (A B : Option Addr) (c d : Nat) (w : World) (h : SlAt vI F w A [2]) (h2 : SlAt vI G w B [2]) : Calls Try.prog 19 #[.slice A 1 c, .slice B 1 d] w fun e w' => e = .returned (.bool true) ∧ Below w.heap.size w w' :=
  ints_any F G A B c d [2] [2] w h h2 (by decide) (by decide)
theorem s6_ints2 (F G : Nat → Prop) (A B : Option Addr) (c d : Nat) (w : World) (h : SlAt vI F w A [0, 3, 1]) (h2 : SlAt vI G w B [0, 3, 1]) : Calls Try.prog 19 #[.slice A 3 c, .slice B 3 d] w fun e w' => e = .returned (.bool true) ∧ Below w.heap.size w w' :=
  ints_any F G A B c d [0, 3, 1] [0, 3, 1] w h h2 (by decide) (by decide)
/-- the scheme of the examples -/
structure S6W (w W : World) : Prop where
  bel : Below w.heap.size w W
  rules : RulesAt (fun _ => True) W (some ⟨w.heap.size, 0, none⟩) sanR
  box : Blk W (w.heap.size + 1) 31 #[.int .i64 1, .int .u8 1, .slice (some ⟨w.heap.size, 0, none⟩) 4 4]
theorem S6W.next {w W W' : World} (h : S6W w W) (hb : Below W.heap.size W W') : S6W w W' := ⟨h.bel.trans (hb.mono h.bel.size), Reads.below h.rules hb, h.box.next hb⟩
theorem S6W.cells {w W : World} (h : S6W w W) : W.cell? ⟨w.heap.size + 1, 0, none⟩ = some (.int .i64 1) ∧ W.cell? ⟨w.heap.size + 1, 1, none⟩ = some (.int .u8 1) ∧ W.cell? ⟨w.heap.size + 1, 2, none⟩ = some (.slice (some ⟨w.heap.size, 0, none⟩) 4 4) ∧ w.heap.size + 1 < W.heap.size := ⟨h.box.cell 0, h.box.cell 1, h.box.cell 2, h.box.lt⟩
set_option maxHeartbeats 4000000 in
set_option maxRecDepth 100000 in
theorem sanity6_any (w : World) : Calls Try.prog 9 #[] w fun e w' => e = .returned (.bool true) ∧ Below w.heap.size w w' := by
  go_enter Try.func9, Try.ntmps9
  go_upto_region 2 with (fail)
  refine world_gen (S6W w) ⟨(below_one _ _).alloc (by simp) _, Reads.below (Reads.block (Blk.new _ _ _) trivial) (below_one _ _), Blk.new2 _ _ _ _⟩ ?_
  intro W0 h0
  obtain ⟨x0, x1, x2, hlt⟩ := h0.cells
  have H0 := Lib.hid h0
  clear h0
  go_wp2_with fail
  refine (s6_best1 H0.out.rules).mono ?_
  rintro e w1 ⟨⟨A1, c1, rfl, hr1⟩, hb1⟩
  obtain ⟨y0, y1, y2, hlt2⟩ := (H0.out.next hb1).cells
  have H1 := Lib.hid (H0.out.next hb1)
  have R1 := Lib.hid hr1
  clear hr1 hb1 H0 x0 x1 x2 hlt
  go_wp2_with fail
  refine (s6_pair H1.out.rules ⟨#[97, 98]⟩ ⟨#[65, 66]⟩ _ san_pair1 (by decide) (by decide)).mono ?_
  rintro e w2 ⟨⟨A2, c2, rfl, hr2⟩, hb2⟩
  obtain ⟨x0, x1, x2, hlt⟩ := (H1.out.next hb2).cells
  have H2 := Lib.hid (H1.out.next hb2)
  have R2 := Lib.hid (And.intro (Reads.below R1.out hb2) hr2)
  clear hr2 hb2 H1 y0 y1 y2 hlt2 R1
  go_wp2_with fail
  refine (s6_pair H2.out.rules ⟨#[97, 99, 98]⟩ ⟨#[65, 66]⟩ _ san_pair2 (by decide) (by decide)).mono ?_
  rintro e w3 ⟨⟨A3, c3, rfl, hr3⟩, hb3⟩
  obtain ⟨y0, y1, y2, hlt2⟩ := (H2.out.next hb3).cells
  have H3 := Lib.hid (H2.out.next hb3)
  have R3 := Lib.hid (And.intro (Reads.below R2.out.1 hb3) (And.intro (Reads.below R2.out.2 hb3) hr3))
  clear hr3 hb3 H2 x0 x1 x2 hlt R2
  go_wp2_with fail
  refine (s6_cheap1 H3.out.rules).mono ?_
  rintro e w4 ⟨rfl, hb4⟩
  obtain ⟨x0, x1, x2, hlt⟩ := (H3.out.next hb4).cells
  have H4 := Lib.hid (H3.out.next hb4)
  have R4 := Lib.hid (And.intro (Reads.below R3.out.1 hb4) (And.intro (Reads.below R3.out.2.1 hb4) (Reads.below R3.out.2.2 hb4)))
  clear hb4 H3 y0 y1 y2 hlt2 R3
  go_wp2_with fail
  refine (s6_cheap2 H4.out.rules).mono ?_
  rintro e w5 ⟨rfl, hb5⟩
  obtain ⟨y0, y1, y2, hlt2⟩ := (H4.out.next hb5).cells
  have H5 := Lib.hid (H4.out.next hb5)
  have R5 := Lib.hid (And.intro (Reads.below R4.out.1 hb5) (And.intro (Reads.below R4.out.2.1 hb5) (Reads.below R4.out.2.2 hb5)))
  clear hb5 H4 x0 x1 x2 hlt R4
  go_wp2_with fail
  refine (best_arg 1 1 _ 4 4 ⟨#[65, 45]⟩ 9 _ (by decide) (.inl (by decide))).mono ?_
  rintro e w6 ⟨rfl, hb6⟩
  obtain ⟨x0, x1, x2, hlt⟩ := (H5.out.next hb6).cells
  have H6 := Lib.hid (H5.out.next hb6)
  have R6 := Lib.hid (And.intro (Reads.below R5.out.1 hb6) (And.intro (Reads.below R5.out.2.1 hb6) (Reads.below R5.out.2.2 hb6)))
  clear hb6 H5 y0 y1 y2 hlt2 R5
  go_wp2_with fail
  refine (best_arg 1 1 _ 4 4 ⟨#[65]⟩ 0 _ (by decide) (.inr (.inl (by decide)))).mono ?_
  rintro e w7 ⟨rfl, hb7⟩
  obtain ⟨y0, y1, y2, hlt2⟩ := (H6.out.next hb7).cells
  have H7 := Lib.hid (H6.out.next hb7)
  have R7 := Lib.hid (And.intro (Reads.below R6.out.1 hb7) (And.intro (Reads.below R6.out.2.1 hb7) (Reads.below R6.out.2.2 hb7)))
  clear hb7 H6 x0 x1 x2 hlt R6
  go_wp2_with fail
  refine (pair_arg 1 1 _ 4 4 ⟨#[65]⟩ ⟨#[65]⟩ _ (by decide) (by decide) (.inl (by decide))).mono ?_
  rintro e w8 ⟨rfl, hb8⟩
  obtain ⟨x0, x1, x2, hlt⟩ := (H7.out.next hb8).cells
  have H8 := Lib.hid (H7.out.next hb8)
  have R8 := Lib.hid (And.intro (Reads.below R7.out.1 hb8) (And.intro (Reads.below R7.out.2.1 hb8) (Reads.below R7.out.2.2 hb8)))
  clear hb8 H7 y0 y1 y2 hlt2 R7
  go_wp2_with fail
  refine (s6_pair H8.out.rules ⟨#[97]⟩ ⟨#[66]⟩ _ san_pair3 (by decide) (by decide)).mono ?_
  rintro e w9 ⟨⟨A9, c9, rfl, hr9⟩, hb9⟩
  have H9 := Lib.hid (H8.out.next hb9)
  have R9 := Lib.hid (And.intro (Reads.below R8.out.1 hb9) (And.intro (Reads.below R8.out.2.1 hb9) (Reads.below R8.out.2.2 hb9)))
  clear hr9 hb9 H8 x0 x1 x2 hlt R8
  have HR9 : Hid (SlAt vI (fun _ => True) w9 A2 [2] ∧ SlAt vI (fun _ => True) w9 A3 [0, 3, 1]) := Lib.hid ⟨R9.out.2.1, R9.out.2.2⟩
  go_wp2_with fail
  refine (s6_same (fun _ => True) (fun _ => True) A1 _ c1 1 _ (Reads.below R9.out.1 (below_one _ _)) (Reads.block (Blk.new _ _ _) trivial)).mono ?_
  rintro e w10 ⟨rfl, hb10⟩
  have hc10 := (below_one w9 (.cells #[.string ⟨#[97, 98]⟩, .int .i64 1] 46)).trans (hb10.mono (by simp))
  have H10 := Lib.hid (And.intro (H9.out.next hc10) (And.intro (Reads.below HR9.out.1 hc10) (Reads.below HR9.out.2 hc10)))
  clear hb10 hc10
  go_wp2_with fail
  refine (s6_ints1 (fun _ => True) (fun _ => True) A2 _ c2 1 _ (Reads.below H10.out.2.1 (below_one _ _)) (Reads.block (Blk.new _ _ _) trivial)).mono ?_
  rintro e w11 ⟨rfl, hb11⟩
  have hc11 := (below_one w10 (.cells #[.int .i64 2] 3)).trans (hb11.mono (by simp))
  have H11 := Lib.hid (And.intro (H10.out.1.next hc11) (Reads.below H10.out.2.2 hc11))
  clear hb11 hc11
  go_wp2_with fail
  refine (s6_ints2 (fun _ => True) (fun _ => True) A3 _ c3 3 _ (Reads.below H11.out.2 (below_one _ _)) (Reads.block (Blk.new _ _ _) trivial)).mono ?_
  rintro e w12 ⟨rfl, hb12⟩
  have hc12 := (below_one w11 (.cells #[.int .i64 0, .int .i64 3, .int .i64 1] 3)).trans (hb12.mono (by simp))
  have H12 := Lib.hid (H11.out.1.next hc12)
  clear hb12 hc12
  go_wp2_with fail
  go_ret
  exact ⟨rfl, H12.out.bel⟩
end Go.Proofs.Ythcnnadggffjhaa
