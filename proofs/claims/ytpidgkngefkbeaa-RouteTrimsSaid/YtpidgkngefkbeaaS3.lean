/- The walk of sanity of layer 3: the fixed examples hold. -/
import Derived.Test.YtpidgkngefkbeaaS2
set_option linter.unusedVariables false
set_option linter.unusedSimpArgs false
namespace Go.Proofs.Ytpidgkngefkbeaa
open Go.RowKit

theorem s_ints (F G : Nat → Prop) (A B : Option Addr) (c d : Nat) (w : World) (h : SlAt vI F w A [1]) (h2 : SlAt vI G w B [1]) : Calls Try.prog 18 #[.slice A 1 c, .slice B 1 d] w (Ret0 (.bool true) w) :=
  ints_any F G A B c d [1] [1] w h h2 (by decide) (by decide)
theorem s_bools (F G : Nat → Prop) (A B : Option Addr) (c d : Nat) (l : List Bool) (w : World) (h : SlAt vB F w A l) (h2 : SlAt vB G w B l) (hl : l.length = 2 := by rfl) : Calls Try.prog 19 #[.slice A 2 c, .slice B 2 d] w (Ret0 (.bool true) w) := by
  have h3 := bools_any F G A B c d l l w h h2 (by omega) (by omega)
  rw [hl] at h3
  exact h3.mono fun e w' ⟨he, hb⟩ => ⟨by rw [he]; simp, hb⟩
/-- while the examples run: the scheme's box lies at b, its rules at A -/
def ES (w : World) (b : Nat) (A : Option Addr) (c : Nat) (W : World) : Prop :=
  Below w.heap.size w W ∧ Blk W b 30 #[.int .i64 2, .int .u8 1, .slice A 3 c] ∧ RulesAt (w.heap.size ≤ ·) W A twoR
theorem ES.next {w W W' : World} {b : Nat} {A : Option Addr} {c : Nat} (h : ES w b A c W) (hb : Below W.heap.size W W') : ES w b A c W' := ⟨h.1.trans (hb.mono h.1.size), h.2.1.next hb, Reads.below h.2.2 hb⟩
theorem ES.cells {w W : World} {b : Nat} {A : Option Addr} {c : Nat} (h : ES w b A c W) : W.cell? ⟨b, 0, none⟩ = some (.int .i64 2) ∧ W.cell? ⟨b, 1, none⟩ = some (.int .u8 1) ∧ W.cell? ⟨b, 2, none⟩ = some (.slice A 3 c) ∧ b < W.heap.size := ⟨h.2.1.cell 0, h.2.1.cell 1, h.2.1.cell 2, h.2.1.lt⟩

/-- behind Trim: all that is read later -/
structure FS (w : World) (b : Nat) (A : Option Addr) (c : Nat) (B1 : Option Addr) (Y : Nat) (A2 : Option Addr) (c2 Z : Nat) (A5 : Option Addr) (c5 : Nat) (A6 : Option Addr) (W : World) : Prop where
  es : ES w b A c W
  s1 : SlAt vI (fun _ => True) W B1 [1]
  y : Blk W Y 30 #[.int .i64 2, .int .u8 1, .slice A2 2 c2]
  r2 : RulesAt (fun _ => True) W A2 fewR
  z : Blk W Z 30 #[.int .i64 2, .int .u8 1, .slice A5 1 c5]
  s6 : SlAt vI (fun _ => True) W A6 [1]
theorem FS.next {w : World} {b : Nat} {A : Option Addr} {c : Nat} {B1 : Option Addr} {Y : Nat} {A2 : Option Addr} {c2 Z : Nat} {A5 : Option Addr} {c5 : Nat} {A6 : Option Addr} {W W' : World} (h : FS w b A c B1 Y A2 c2 Z A5 c5 A6 W) (hb : Below W.heap.size W W') : FS w b A c B1 Y A2 c2 Z A5 c5 A6 W' :=
  ⟨h.es.next hb, Reads.below h.s1 hb, h.y.next hb, Reads.below h.r2 hb, h.z.next hb, Reads.below h.s6 hb⟩
theorem FS.few {w : World} {b : Nat} {A : Option Addr} {c : Nat} {B1 : Option Addr} {Y : Nat} {A2 : Option Addr} {c2 Z : Nat} {A5 : Option Addr} {c5 : Nat} {A6 : Option Addr} {W : World} (h : FS w b A c B1 Y A2 c2 Z A5 c5 A6 W) :
    W.cell? ⟨Y, 0, none⟩ = some (.int .i64 2) ∧ W.cell? ⟨Y, 1, none⟩ = some (.int .u8 1) ∧ W.cell? ⟨Y, 2, none⟩ = some (.slice A2 2 c2) ∧ Y < W.heap.size := ⟨h.y.cell 0, h.y.cell 1, h.y.cell 2, h.y.lt⟩

set_option maxHeartbeats 2000000 in
set_option maxRecDepth 100000 in
theorem sanity_any (w : World) : Calls Try.prog 10 #[] w (Ret0 (.bool true) w) := by
  go_enter Try.func10, Try.ntmps10
  go_wp2_with fail
  refine (two_any _).mono ?_
  rintro e w1 ⟨A, c, rfl, hb1, hr1⟩
  go_upto_region 2 with (fail)
  have hba := (Below.refl w1.heap.size w1).alloc (Nat.le_refl _) (.cells #[.int .i64 2, .int .u8 1, .slice A 3 c] 30)
  refine world_gen (ES w w1.heap.size A c) ⟨hb1.trans (hba.mono hb1.size), Blk.new _ _ _, Reads.below hr1 hba⟩ ?_
  clear hba hr1
  have hwb : w.heap.size ≤ w1.heap.size := hb1.size
  clear hb1
  generalize w1.heap.size = b at *
  intro W hW
  obtain ⟨x0, x1, x2, hlt⟩ := hW.cells
  have H0 := Lib.hid hW
  clear hW
  go_wp2_with fail
  refine (s_least0 _ A c _ H0.out.2.2).mono ?_
  rintro e w2 ⟨B0, d0, rfl, hb2, hsl0⟩
  obtain ⟨y0, y1, y2, hlt2⟩ := (H0.out.next hb2).cells
  have H1 := Lib.hid (H0.out.next hb2)
  clear hsl0 H0 hb2 x0 x1 x2 hlt
  go_wp2_with fail
  refine (s_least1 _ A c _ H1.out.2.2).mono ?_
  rintro e w3 ⟨B1, d1, rfl, hb3, hsl1⟩
  obtain ⟨x0, x1, x2, hlt⟩ := (H1.out.next hb3).cells
  have H2 := Lib.hid (H1.out.next hb3)
  have HB1 := Lib.hid hsl1
  clear hsl1 H1 hb3 y0 y1 y2 hlt2
  go_wp2_with fail
  refine (s_least2 A c _).mono ?_
  rintro e w4 ⟨rfl, hb4⟩
  have H3 := Lib.hid (H2.out.next hb4)
  have HB2 := Lib.hid (Reads.below HB1.out hb4)
  clear HB1 H2 hb4 x0 x1 x2 hlt
  go_upto_region 5 with (fail)
  go_cut [11] (fun v wx => ∃ Y A2 c2, v = .pointer (some ⟨Y, 0, none⟩) ∧ ES w b A c wx ∧ SlAt vI (w2.heap.size ≤ ·) wx B1 [1] ∧ Blk wx Y 30 #[.int .i64 2, .int .u8 1, .slice A2 2 c2] ∧ RulesAt (w4.heap.size ≤ ·) wx A2 fewR)
  case first =>
    obtain ⟨x0, x1, x2, hlt⟩ := H3.out.cells
    obtain ⟨br, o, rfl, hbr, hbr2, p0, p1, p2, p3, p4⟩ := RulesAt.at_ H3.out.2.2 (k := 0) (by decide)
    obtain ⟨br', o', e0, _, _, q0, q1, q2, q3, q4⟩ := RulesAt.at_ H3.out.2.2 (k := 2) (by decide)
    injection e0 with e0
    injection e0 with e0 e1
    subst e0 e1
    simp [twoR] at p0 p1 p2 p3 p4 q0 q1 q2 q3 q4
    go_region_held3 (fun w' => w'.cell? ⟨b, 2, none⟩ = some (.slice (some ⟨br, o, none⟩) 3 c) ∧ w'.cell? ⟨br, o, none⟩ = some (.int .i64 0) ∧ w'.cell? ⟨br, o + 1, none⟩ = some (.int .i64 1) ∧ w'.cell? ⟨br, o + 2, none⟩ = some (.string ⟨#[99]⟩) ∧ w'.cell? ⟨br, o + 3, none⟩ = some (.string ⟨#[]⟩) ∧ w'.cell? ⟨br, o + 4, none⟩ = some (.int .i64 1) ∧
      w'.cell? ⟨br, o + 10, none⟩ = some (.int .i64 0) ∧ w'.cell? ⟨br, o + 10 + 1, none⟩ = some (.int .i64 0) ∧ w'.cell? ⟨br, o + 10 + 2, none⟩ = some (.string ⟨#[98]⟩) ∧ w'.cell? ⟨br, o + 10 + 3, none⟩ = some (.string ⟨#[98]⟩) ∧ w'.cell? ⟨br, o + 10 + 4, none⟩ = some (.int .i64 2)) (go_keep) (fail)
    all_goals (go_wp2; go_meet)
    all_goals
      first
        | exact ⟨w4.heap.size + 1, _, _, rfl, H3.out.next (below_two _ _ _), Reads.below HB2.out (below_two _ _ _), Blk.drew (Blk.new2 _ _ _ _), Reads.block (Blk.drew ((Blk.new _ _ _).alloc _)) (Nat.le_refl _)⟩
        | exact ⟨w4.heap.size, _, _, rfl, H3.out.next (below_two _ _ _), Reads.below HB2.out (below_two _ _ _), Blk.drew ((Blk.new _ _ _).alloc _), Reads.below (reads_new2 _ _ _ _) ((Below.refl _ _).drew)⟩
  case rest =>
    obtain ⟨Y, A2, c2, rfl, hE, hsl, bY, hr2⟩ := hcut
    have y0 : wc.cell? ⟨Y, 0, none⟩ = some (.int .i64 2) := bY.cell 0
    have y1 : wc.cell? ⟨Y, 1, none⟩ = some (.int .u8 1) := bY.cell 1
    have y2 : wc.cell? ⟨Y, 2, none⟩ = some (.slice A2 2 c2) := bY.cell 2
    have hylt := bY.lt
    have HE := Lib.hid hE
    have HS := Lib.hid hsl
    have HY := Lib.hid bY
    have HR := Lib.hid hr2
    clear hE hsl bY hr2
    go_wp2_with fail
    refine (s_trim _ A2 c2 _ HR.out).mono ?_
    rintro e w5 ⟨A5, c5, A6, c6, rfl, hb5, hsl6⟩
    have HB5 := Lib.hid hb5
    have HS6 := Lib.hid hsl6
    clear y0 y1 y2 hylt hb5 hsl6
    go_upto_region 7 with (fail)
    have hba := (Below.refl w5.heap.size w5).alloc (Nat.le_refl _) (.cells #[.int .i64 2, .int .u8 1, .slice A5 1 c5] 30)
    have hb6 := HB5.out.trans (hba.mono HB5.out.size)
    refine world_gen (FS w b A c B1 Y A2 c2 w5.heap.size A5 c5 A6) ⟨HE.out.next hb6, (Reads.below HS.out hb6).mono (fun _ _ => trivial), HY.out.next hb6, (Reads.below HR.out hb6).mono (fun _ _ => trivial), Blk.new _ _ _, (Reads.below HS6.out hba).mono (fun _ _ => trivial)⟩ ?_
    clear hba hb6 HB5 HS6 HE HS HY HR
    generalize w5.heap.size = Z at *
    intro W7 h7
    obtain ⟨y0, y1, y2, hylt⟩ := h7.few
    have H7 := Lib.hid h7
    clear h7
    go_wp2_with fail
    refine (s_leastf _ A2 c2 _ H7.out.r2).mono ?_
    rintro e w8 ⟨rfl, hb8⟩
    obtain ⟨x0, x1, x2, hlt⟩ := (H7.out.next hb8).es.cells
    have H8 := Lib.hid (H7.out.next hb8)
    clear y0 y1 y2 hylt hb8 H7
    go_wp2_with fail
    refine (s_run1 _ (fun _ => True) A _ c _ _ (H8.out.next (below_one _ _)).es.2.2 (Reads.block (Blk.new _ _ _) trivial)).mono ?_
    rintro e w9 ⟨rfl, hb9⟩
    obtain ⟨y0, y1, y2, hylt⟩ := ((H8.out.next (below_one _ _)).next hb9).es.cells
    have H9 := Lib.hid ((H8.out.next (below_one _ _)).next hb9)
    clear x0 x1 x2 hlt hb9 H8
    go_wp2_with fail
    refine (s_run2 _ (fun _ => True) A _ c _ _ (H9.out.next (below_one _ _)).es.2.2 (Reads.block (Blk.new _ _ _) trivial)).mono ?_
    rintro e w10 ⟨rfl, hb10⟩
    obtain ⟨x0, x1, x2, hlt⟩ := ((H9.out.next (below_one _ _)).next hb10).es.cells
    have H10 := Lib.hid ((H9.out.next (below_one _ _)).next hb10)
    clear y0 y1 y2 hylt hb10 H9
    go_wp2_with fail
    refine (s_run3 _ (fun _ => True) A _ c _ _ (H10.out.next (below_one _ _)).es.2.2 (Reads.block (Blk.new _ _ _) trivial)).mono ?_
    rintro e w11 ⟨rfl, hb11⟩
    obtain ⟨y0, y1, y2, hylt⟩ := ((H10.out.next (below_one _ _)).next hb11).es.cells
    have H11 := Lib.hid ((H10.out.next (below_one _ _)).next hb11)
    clear x0 x1 x2 hlt hb11 H10
    go_wp2_with fail
    refine (s_run4 _ (fun _ => True) A _ c _ _ (H11.out.next (below_one _ _)).es.2.2 (Reads.block (Blk.new _ _ _) trivial)).mono ?_
    rintro e w12 ⟨rfl, hb12⟩
    obtain ⟨x0, x1, x2, hlt⟩ := ((H11.out.next (below_one _ _)).next hb12).es.cells
    have H12 := Lib.hid ((H11.out.next (below_one _ _)).next hb12)
    clear y0 y1 y2 hylt hb12 H11
    go_wp2_with fail
    refine (s_run5 _ A c _ H12.out.es.2.2).mono ?_
    rintro e w13 ⟨rfl, hb13⟩
    have H13 := Lib.hid (H12.out.next hb13)
    clear x0 x1 x2 hlt hb13 H12
    go_wp2_with fail
    refine (s_ints _ (fun _ => True) B1 _ _ _ _ (H13.out.next (below_one _ _)).s1 (Reads.block (Blk.new _ _ _) trivial)).mono ?_
    rintro e w14 ⟨rfl, hb14⟩
    have h14 := (H13.out.next (below_one _ _)).next hb14
    have z2 : w14.cell? ⟨Z, 2, none⟩ = some (.slice A5 1 c5) := h14.z.cell 2
    have hz := h14.z.lt
    have H14 := Lib.hid h14
    clear h14 hb14 H13
    go_wp2_with fail
    refine (s_ints _ (fun _ => True) A6 _ _ _ _ (H14.out.next (below_one _ _)).s6 (Reads.block (Blk.new _ _ _) trivial)).mono ?_
    rintro e w15 ⟨rfl, hb15⟩
    have h15 := (H14.out.next (below_one _ _)).next hb15
    obtain ⟨x0, x1, x2, hlt⟩ := h15.es.cells
    have H15 := Lib.hid h15
    clear h15 hb15 H14 z2 hz
    go_wp2_with fail
    refine (s_reached _ A c _ H15.out.es.2.2).mono ?_
    rintro e w16 ⟨g16, rfl, hb16, hr16⟩
    have H16 := Lib.hid (H15.out.next hb16)
    have HR16 := Lib.hid hr16
    clear hb16 hr16 H15 x0 x1 x2 hlt
    go_wp2_with fail
    refine (s_bools _ (fun _ => True) _ _ _ _ [true, true] _ (Reads.below HR16.out (below_one _ _)) (Reads.block (Blk.new _ _ _) trivial)).mono ?_
    rintro e w17 ⟨rfl, hb17⟩
    have h17 := (H16.out.next (below_one _ _)).next hb17
    obtain ⟨y0, y1, y2, hylt⟩ := h17.few
    have H17 := Lib.hid h17
    clear h17 hb17 H16 HR16
    go_wp2_with fail
    refine (s_live _ A2 c2 _ H17.out.r2).mono ?_
    rintro e w18 ⟨g18, rfl, hb18, hr18⟩
    have H18 := Lib.hid (H17.out.next hb18)
    have HR18 := Lib.hid hr18
    clear hb18 hr18 H17 y0 y1 y2 hylt
    go_wp2_with fail
    refine (s_bools _ (fun _ => True) _ _ _ _ [true, false] _ (Reads.below HR18.out (below_one _ _)) (Reads.block (Blk.new _ _ _) trivial)).mono ?_
    rintro e w19 ⟨rfl, hb19⟩
    have HB := Lib.hid ((H18.out.next (below_one _ _)).next hb19).es.1
    clear hb19 H18 HR18
    go_wp2_with fail
    go_ret
    exact ⟨rfl, HB.out⟩
end Go.Proofs.Ytpidgkngefkbeaa
