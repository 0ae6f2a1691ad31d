/- The walk of RouteGrows. -/
import Derived.Test.YtpidgkngefkbeaaK1
import Derived.Test.YtpidgkngefkbeaaP8
import Derived.Test.YtpidgkngefkbeaaL6
import Derived.Test.YtpidgkngefkbeaaG3
set_option linter.unusedVariables false
set_option linter.unusedSimpArgs false
namespace Go.Proofs.Ytpidgkngefkbeaa
open Go.RowKit

theorem cells_one (rs : List Rule) : ∀ u ∈ rs.flatMap Rule.cells, u.oneCell' = true := by
  intro u hu
  obtain ⟨r, _, h⟩ := List.mem_flatMap.1 hu
  simp only [Rule.cells, List.mem_cons, List.not_mem_nil, or_false] at h
  rcases h with rfl | rfl | rfl | rfl | rfl <;> rfl
theorem cell_far3 {w : World} {b i y : Nat} {u v z : Value} {x : Option Value} (h : w.cell? ⟨b, i, none⟩ = x) (hp : b ≠ y) : (((w.setCell ⟨y, 0, none⟩ u).setCell ⟨y, 1, none⟩ v).setCell ⟨y, 2, none⟩ z).cell? ⟨b, i, none⟩ = x := by
  rw [World.cell?_of_block (Below.heap_setCell _ _ _ _ (by simpa using hp)), World.cell?_of_block (Below.heap_setCell _ _ _ _ (by simpa using hp)), World.cell?_of_block (Below.heap_setCell _ _ _ _ (by simpa using hp))]; exact h
/-- behind the first copy: the new scheme's box at T, its rules in a row of the call's own; all made behind W0 -/
def GW (s : Scheme) (T : Nat) (W0 W : World) : Prop :=
  ∃ g cap, Below W0.heap.size W0 W ∧ W0.heap.size ≤ T ∧ Blk W T 30 #[.int .i64 s.modes, .int .u8 s.accept, .slice (some ⟨g, 0, none⟩) s.rules.length cap] ∧ W.ownsRow W0.heap.size 53 5 (.slice (some ⟨g, 0, none⟩) s.rules.length cap) s.rules.length (s.rules.flatMap Rule.cells)
/-- while the rule is added: the box's third cell may turn -/
def GS (s : Scheme) (T : Nat) (W0 W : World) : Prop := Below W0.heap.size W0 W ∧ W0.heap.size ≤ T ∧ ∃ x, Blk W T 30 #[.int .i64 s.modes, .int .u8 s.accept, x]
theorem GS.next {s : Scheme} {T : Nat} {W0 W W' : World} (h : GS s T W0 W) (hb : Below W.heap.size W W') : GS s T W0 W' := by
  obtain ⟨h1, h2, x, h3⟩ := h
  exact ⟨h1.trans (hb.mono h1.size), h2, x, h3.next hb⟩
theorem GS.grow {s : Scheme} {T : Nat} {W0 W W' : World} {row : Option Nat} (h : GS s T W0 W) (hg : W.grownBy W' row) (hr : RowOk W0.heap.size W 53 row) : GS s T W0 W' := by
  obtain ⟨h1, h2, x, h3⟩ := h
  exact ⟨below_rowOk h1 hg hr (Nat.le_refl _) h1.size, h2, x, h3.rowOk hg hr (by decide)⟩
theorem GS.set {s : Scheme} {T : Nat} {W0 W : World} (h : GS s T W0 W) (u : Value) : GS s T W0 (W.setCell ⟨T, 2, none⟩ u) := by
  obtain ⟨h1, h2, x, h3⟩ := h
  exact ⟨h1.setCell (p := ⟨T, 2, none⟩) h2 u, h2, u, h3.set 2 u⟩
theorem gs_w {s : Scheme} {S : Nat} {A : Option Addr} {c T : Nat} {r : RawRule} {A1 A2 : Option Addr} {c1 c2 : Nat} {w W0 W : World} (h3 : SW s S A c w W0) (hx : Blk W0 (w.heap.size + 1 + 1) 60 #[.slice A1 r.inp.length c1, .slice A2 r.out.length c2, .int .u8 r.frm, .int .u8 r.dst, .int .u8 r.cost]) (h : GS s T W0 W) :
    GS s T W0 W ∧ W.cell? ⟨T, 2, none⟩ = some (peek W ⟨T, 2, none⟩) ∧ W.frozen? ⟨T, 2, none⟩ = false ∧ W.cell? ⟨S, 0, none⟩ = some (.int .i64 s.modes) ∧ W.cell? ⟨w.heap.size + 1 + 1, 0, none⟩ = some (.slice A1 r.inp.length c1) ∧ W.cell? ⟨w.heap.size + 1 + 1, 1, none⟩ = some (.slice A2 r.out.length c2) ∧
      W.cell? ⟨w.heap.size + 1 + 1, 2, none⟩ = some (.int .u8 r.frm) ∧ W.cell? ⟨w.heap.size + 1 + 1, 3, none⟩ = some (.int .u8 r.dst) ∧ W.cell? ⟨w.heap.size + 1 + 1, 4, none⟩ = some (.int .u8 r.cost) := by
  obtain ⟨h1, h2, x, hT⟩ := h
  have hS := (h3.next h1).box
  have hR := hx.next h1
  exact ⟨⟨h1, h2, x, hT⟩, peek_of (by rw [hT.cell 2]; rfl), hT.free 2, hS.cell 0, hR.cell 0, hR.cell 1, hR.cell 2, hR.cell 3, hR.cell 4⟩
theorem made1_s (r : RawRule) (A1 A2 : Option Addr) (c1 c2 m : Nat) (q : Rule) (hq : r.made m = q) (w : World) (h1 : SlAt v8 (fun _ => True) w A1 r.inp) (h2 : SlAt v8 (fun _ => True) w A2 r.out) (hm : 1 ≤ m) (hm8 : m ≤ 8) (hw : r.wf) :
    Calls Try.prog 28 #[.agg #[.slice A1 r.inp.length c1, .slice A2 r.out.length c2, .int .u8 r.frm, .int .u8 r.dst, .int .u8 r.cost], .int .i64 m] w (Ret0 (.agg #[.int .i64 q.frm, .int .i64 q.dst, .string q.inp, .string q.out, .int .i64 q.cost]) w) := by
  subst hq
  obtain ⟨a1, a2, a3, a4, a5, a6, a7⟩ := hw
  exact made1_any _ r A1 A2 c1 c2 m w h1 h2 hm hm8 a1 a2 a3 a4 a5 a6 a7
/-- the new scheme, whole -/
def GT (s t : Scheme) (T : Nat) (W0 W : World) : Prop := ∃ At ct, Below W0.heap.size W0 W ∧ W0.heap.size ≤ T ∧ Blk W T 30 #[.int .i64 t.modes, .int .u8 t.accept, .slice At t.rules.length ct] ∧ RulesAt (fun _ => True) W At t.rules
theorem GT.of {s : Scheme} {q : Rule} {T g cap : Nat} {W0 W : World} (h : GS s T W0 W) (hown : W.ownsRow W0.heap.size 53 5 (.slice (some ⟨g, 0, none⟩) (s.rules.length + 1) cap) (s.rules.length + 1) (s.rules.flatMap Rule.cells ++ [.int .i64 q.frm, .int .i64 q.dst, .string q.inp, .string q.out, .int .i64 q.cost])) :
    GT s ⟨s.modes, s.accept, s.rules ++ [q]⟩ T W0 (W.setCell ⟨T, 2, none⟩ (.slice (some ⟨g, 0, none⟩) (s.rules.length + 1) cap)) := by
  obtain ⟨h1, h2, x, h3⟩ := h
  have ho := Acc.far (p := ⟨T, 2, none⟩) hown h3 (by decide) (.slice (some ⟨g, 0, none⟩) (s.rules.length + 1) cap)
  refine ⟨some ⟨g, 0, none⟩, cap, h1.setCell (p := ⟨T, 2, none⟩) h2 _, h2, ?_, ?_⟩
  · have := h3.set 2 (.slice (some ⟨g, 0, none⟩) (s.rules.length + 1) cap)
    simpa using this
  · have := (Reads.of_own ho).mono (G := fun _ => True) fun _ _ => trivial
    unfold RulesAt
    rw [List.flatMap_append]
    simpa [Rule.cells] using this
/-- both schemes -/
structure TW (s : Scheme) (S : Nat) (A : Option Addr) (c : Nat) (t : Scheme) (T : Nat) (At : Option Addr) (ct : Nat) (w W : World) : Prop where
  sw : SW s S A c w W
  tw : SW t T At ct w W
theorem TW.next {s : Scheme} {S : Nat} {A : Option Addr} {c : Nat} {t : Scheme} {T : Nat} {At : Option Addr} {ct : Nat} {w W W' : World} (h : TW s S A c t T At ct w W) (hb : Below W.heap.size W W') : TW s S A c t T At ct w W' := ⟨h.sw.next hb, h.tw.next hb⟩

/-- both schemes, four lists -/
structure RW4 (s : Scheme) (S : Nat) (A : Option Addr) (c : Nat) (t : Scheme) (T : Nat) (At : Option Addr) (ct g1 g2 g3 g4 : Nat) (V1 V2 V3 V4 : List Bool) (w W : World) : Prop where
  tw : TW s S A c t T At ct w W
  r1 : Blk W g1 4 (V1.map vB).toArray
  r2 : Blk W g2 4 (V2.map vB).toArray
  r3 : Blk W g3 4 (V3.map vB).toArray
  r4 : Blk W g4 4 (V4.map vB).toArray
theorem RW4.next {s : Scheme} {S : Nat} {A : Option Addr} {c : Nat} {t : Scheme} {T : Nat} {At : Option Addr} {ct g1 g2 g3 g4 : Nat} {V1 V2 V3 V4 : List Bool} {w W W' : World} (h : RW4 s S A c t T At ct g1 g2 g3 g4 V1 V2 V3 V4 w W) (hb : Below W.heap.size W W') : RW4 s S A c t T At ct g1 g2 g3 g4 V1 V2 V3 V4 w W' :=
  ⟨h.tw.next hb, h.r1.next hb, h.r2.next hb, h.r3.next hb, h.r4.next hb⟩
/-- what the four lists say -/
def QW (s : Scheme) (S : Nat) (A : Option Addr) (c : Nat) (t : Scheme) (T : Nat) (At : Option Addr) (ct : Nat) (w : World) (x y z u : Value) (W : World) : Prop :=
  ∃ g1 g2 g3 g4 V1 V2 V3 V4, x = .slice (some ⟨g1, 0, none⟩) s.modes s.modes ∧ y = .slice (some ⟨g2, 0, none⟩) s.modes s.modes ∧ z = .slice (some ⟨g3, 0, none⟩) s.modes s.modes ∧ u = .slice (some ⟨g4, 0, none⟩) s.modes s.modes ∧ TW s S A c t T At ct w W ∧
    Blk W g1 4 ((V1 : List Bool).map vB).toArray ∧ Blk W g2 4 ((V2 : List Bool).map vB).toArray ∧ Blk W g3 4 ((V3 : List Bool).map vB).toArray ∧ Blk W g4 4 ((V4 : List Bool).map vB).toArray ∧ Both s V1 V3 ∧ Both t V2 V4
section
variable {s : Scheme} {W w5 : World} {g cap blk Y : Nat}
theorem GW.fresh (hb : Below W.heap.size W w5) (hown : w5.ownsRow blk 53 5 (.slice (some ⟨g, 0, none⟩) s.rules.length cap) s.rules.length (s.rules.flatMap Rule.cells)) (hblk : W.heap.size ≤ blk) :
    GW s w5.heap.size W (w5.alloc (.cells #[.int .i64 s.modes, .int .u8 s.accept, .slice (some ⟨g, 0, none⟩) s.rules.length cap] 30)) :=
  ⟨g, cap, hb.trans ((below_one _ _).mono hb.size), hb.size, Blk.new _ _ _, (hown.mono hblk).alloc _⟩
theorem GW.stored (hb : Below W.heap.size W w5) (hown : w5.ownsRow blk 53 5 (.slice (some ⟨g, 0, none⟩) s.rules.length cap) s.rules.length (s.rules.flatMap Rule.cells)) (hblk : W.heap.size ≤ blk)
    (bY : Blk w5 Y 30 #[.int .i64 0, .int .u8 0, .slice none 0 0]) (hY : W.heap.size ≤ Y) :
    GW s Y W (((w5.setCell ⟨Y, 0, none⟩ (.int .i64 s.modes)).setCell ⟨Y, 1, none⟩ (.int .u8 s.accept)).setCell ⟨Y, 2, none⟩ (.slice (some ⟨g, 0, none⟩) s.rules.length cap)) := by
  have hB := ((hb.setCell (p := ⟨Y, 0, none⟩) hY (.int .i64 s.modes)).setCell (p := ⟨Y, 1, none⟩) hY (.int .u8 s.accept)).setCell (p := ⟨Y, 2, none⟩) hY (.slice (some ⟨g, 0, none⟩) s.rules.length cap)
  have b0 := bY.set 0 (.int .i64 s.modes)
  have b1 := b0.set 1 (.int .u8 s.accept)
  exact ⟨g, cap, hB, hY, b1.set 2 _, Acc.far (p := ⟨Y, 2, none⟩) (Acc.far (p := ⟨Y, 1, none⟩) (Acc.far (p := ⟨Y, 0, none⟩) (hown.mono hblk) bY (by decide) _) b0 (by decide) _) b1 (by decide) _⟩
end

set_option maxHeartbeats 20000000 in
set_option maxRecDepth 100000 in
theorem grows_any (b dr w0 wb : Nat) (more : List RawRule) (A : Option Addr) (c : Nat) (A1 A2 : Option Addr) (c1 c2 : Nat) (r : RawRule) (w : World) (hb8 : b < 256) (hd8 : dr < 256) (h08 : w0 < 256) (h18 : wb < 256) (hR : RawAt (· < w.heap.size) w A more) (hwf : ∀ r ∈ more, r.wf) (hml : more.length ≤ maxLen)
    (hr1 : SlAt v8 (· < w.heap.size) w A1 r.inp) (hr2 : SlAt v8 (· < w.heap.size) w A2 r.out) (hrw : r.wf) :
    Calls Try.prog 8 #[.agg #[.int .u8 b, .int .u8 dr, .slice A more.length c], .agg #[.int .u8 w0, .int .u8 wb], .agg #[.slice A1 r.inp.length c1, .slice A2 r.out.length c2, .int .u8 r.frm, .int .u8 r.dst, .int .u8 r.cost]] w (RetTrue w) := by
  go_enter Try.func8, Try.ntmps8
  go_upto_region 1 with (fail)
  refine world_gen (fun W => Below w.heap.size w W ∧ Blk W w.heap.size 24 #[.int .u8 b, .int .u8 dr, .slice A more.length c] ∧ Blk W (w.heap.size + 1) 25 #[.int .u8 w0, .int .u8 wb] ∧ Blk W (w.heap.size + 1 + 1) 60 #[.slice A1 r.inp.length c1, .slice A2 r.out.length c2, .int .u8 r.frm, .int .u8 r.dst, .int .u8 r.cost])
    ⟨(((Below.refl _ _).alloc (Nat.le_refl _) _).alloc (by simp) _).alloc (by simp; omega) _, ((Blk.new _ _ _).alloc _).alloc _, (Blk.new2 _ _ _ _).alloc _, Blk.new3 _ _ _ _ _⟩ ?_
  rintro W ⟨hbel, b0, b1, b2⟩
  go_wp2_with fail
  refine (sanity_any _).mono ?_
  rintro e w1 ⟨rfl, hb1⟩
  have hbel1 := hbel.trans (hb1.mono hbel.size)
  have b01 := b0.next hb1
  have b11 := b1.next hb1
  have x0 : w1.cell? ⟨w.heap.size, 0, none⟩ = some (.int .u8 b) := b01.cell 0
  have x1 : w1.cell? ⟨w.heap.size, 1, none⟩ = some (.int .u8 dr) := b01.cell 1
  have x2 : w1.cell? ⟨w.heap.size, 2, none⟩ = some (.slice A more.length c) := b01.cell 2
  have y0 : w1.cell? ⟨w.heap.size + 1, 0, none⟩ = some (.int .u8 w0) := b11.cell 0
  have y1 : w1.cell? ⟨w.heap.size + 1, 1, none⟩ = some (.int .u8 wb) := b11.cell 1
  have hlt0 := b01.lt
  have hlt1 := b11.lt
  clear b0 b1 b01 hbel
  go_wp2_with fail
  refine (made3_any (· < w.heap.size) b dr w0 wb more A c _ (fun k hk => by have := hbel1.size; omega) (RawAt.lower hR (fun _ h => h) hbel1) hwf hb8 hd8 h08 h18 hml).mono ?_
  rintro e w2 ⟨A2s, c2s, rfl, hb2, hacc⟩
  have hok := made3_ok b dr more w0 wb
  have hn99 := made3_n9 b dr more w0 wb
  have hbel2 := hbel1.trans (hb2.mono hbel1.size)
  have hb1' := b11.next hb2
  have hb2' := (b2.next hb1).next hb2
  clear x0 x1 x2 y0 y1 hlt0 hlt1 hbel1 hb1 hb2 hR hwf hml b11 b2
  generalize made3 b dr more w0 wb = s at *
  go_upto_region 3 with (fail)
  refine world_gen (fun W => SW s w2.heap.size A2s c2s w W ∧ Blk W (w.heap.size + 1) 25 #[.int .u8 w0, .int .u8 wb] ∧ Blk W (w.heap.size + 1 + 1) 60 #[.slice A1 r.inp.length c1, .slice A2 r.out.length c2, .int .u8 r.frm, .int .u8 r.dst, .int .u8 r.cost]) ⟨⟨hbel2.alloc hbel2.size _, Blk.new _ _ _, (Reads.below (Acc.reads hacc) (below_one _ _)).mono (fun _ _ => trivial)⟩, hb1'.alloc _, hb2'.alloc _⟩ ?_
  clear hacc hbel2 hb1' hb2'
  generalize w2.heap.size = S at *
  rintro W3 ⟨h3, hbx1, hbx2⟩
  have H3 := Lib.hid h3
  have HX1 := Lib.hid hbx1
  have HX2 := Lib.hid hbx2
  have HOK := Lib.hid hok
  have hn9 := hok.n9
  have hm2 := hok.m2
  have hm5 := hok.m5
  clear hbx1 hok hbx2
  go_cut [9] (fun v wx => ∃ T, v = .pointer (some ⟨T, 0, none⟩) ∧ GW s T W3 wx)
  case first =>
    obtain ⟨i0, hi0, hz0, hz1, hz2⟩ := info_parts rule_info
    obtain ⟨x0, x1, x2, hlt⟩ := h3.cells
    have hrl : s.rules.length ≤ 10 := hn9
    clear h3
    go_region_held3 (fun w' => w'.cell? ⟨S, 0, none⟩ = some (.int .i64 s.modes) ∧ w'.cell? ⟨S, 1, none⟩ = some (.int .u8 s.accept) ∧ w'.cell? ⟨S, 2, none⟩ = some (.slice A2s s.rules.length c2s))
      (first | exact ⟨s0, s1, s2⟩ | exact ⟨cell_far3 s0 (by simp; omega), cell_far3 s1 (by simp; omega), cell_far3 s2 (by simp; omega)⟩ | go_keep)
      (first | (refine step_append_all _ (by rfl) _ _ 28 (by rfl) 53 i0 _ 5 56 Try.underlying28 hi0 hz0 hz1 hz2 (by rfl) (by decide) _ (by rfl) (by first | exact Blk.new _ _ _ | exact (Blk.new _ _ _).alloc _ | exact Blk.new2 _ _ _ _) (fun _ => True) A2s s.rules.length c2s (s.rules.flatMap Rule.cells) (by rfl) (by first | exact Reads.below H3.out.rules (below_drewN ((Below.refl _ _).alloc (Nat.le_refl _) _) 1) | exact Reads.below H3.out.rules (below_drewN (((Below.refl _ _).alloc (Nat.le_refl _) _).alloc (by simp) _) 1)) (cells_length _) (by exact cells_one _) (by unfold maxLen; omega) (by omega) ?_; intro g cap w5 hown5 hgr5; have hpre5 : Below W3.heap.size W3 w5 := (by first | exact (below_drewN ((Below.refl _ _).alloc (Nat.le_refl _) _) 1).grown hgr5 (by simp) (fun k hk => by have := Option.some.inj hk; omega) | exact (below_drewN (((Below.refl _ _).alloc (Nat.le_refl _) _).alloc (by simp) _) 1).grown hgr5 (by simp; omega) (fun k hk => by have := Option.some.inj hk; omega)); obtain ⟨s0, s1, s2, hs5⟩ := (H3.out.next hpre5).cells; have hw5 := hpre5.size; (first | (have b18 : Blk w5 W3.heap.size 30 #[.int .i64 0, .int .u8 0, .slice none 0 0] := (by refine Blk.grown ?_ hgr5 (by simp); exact (Blk.new W3 _ _).alloc _); have u0 : w5.cell? ⟨W3.heap.size, 0, none⟩ = some (.int .i64 0) := b18.cell 0; have u1 : w5.cell? ⟨W3.heap.size, 1, none⟩ = some (.int .u8 0) := b18.cell 1; have u2 : w5.cell? ⟨W3.heap.size, 2, none⟩ = some (.slice none 0 0) := b18.cell 2; have v0 := b18.free 0; have v1 := b18.free 1; have v2 := b18.free 2; have B18 := Lib.hid b18; clear b18) | (have b19 : Blk w5 (W3.heap.size + 1) 30 #[.int .i64 0, .int .u8 0, .slice none 0 0] := (by refine Blk.grown ?_ hgr5 (by simp); exact Blk.new2 _ _ _ _); have u0 : w5.cell? ⟨W3.heap.size + 1, 0, none⟩ = some (.int .i64 0) := b19.cell 0; have u1 : w5.cell? ⟨W3.heap.size + 1, 1, none⟩ = some (.int .u8 0) := b19.cell 1; have u2 : w5.cell? ⟨W3.heap.size + 1, 2, none⟩ = some (.slice none 0 0) := b19.cell 2; have v0 := b19.free 0; have v1 := b19.free 1; have v2 := b19.free 2; have B18 := Lib.hid b19; clear b19) | skip)))
    all_goals (go_wp2; go_meet)
    all_goals first
      | exact ⟨_, rfl, GW.fresh hpre5 hown5 (by omega)⟩
      | exact ⟨_, rfl, GW.stored hpre5 hown5 (by omega) B18.out (by omega)⟩
  case rest =>
    clear h3 HX1
    obtain ⟨T, rfl, g, cap, hb0, hT, bT, hown⟩ := hcut
    have HLR1 := Lib.hid hr1
    have HLR2 := Lib.hid hr2
    have HRW := Lib.hid hrw
    have hSl := H3.out.box.lt
    have hRl := HX2.out.lt
    obtain ⟨q, hq⟩ : ∃ q, r.made s.modes = q := ⟨_, rfl⟩
    have HQ := Lib.hid hq
    have HB0 := Lib.hid hb0
    have HBT := Lib.hid bT
    have HOWN := Lib.hid hown
    have hpk : peek wc.drew ⟨T, 2, none⟩ = .slice (some ⟨g, 0, none⟩) s.rules.length cap := by unfold peek; rw [show wc.drew.cell? ⟨T, 2, none⟩ = wc.cell? ⟨T, 2, none⟩ from rfl, bT.cell 2]; rfl
    clear hq hb0 bT hown hr1 hr2 hrw
    go_upto_region 4 with (fail)
    go_cut [] (fun wx => GT s ⟨s.modes, s.accept, s.rules ++ [q]⟩ T W3 wx)
    case first =>
      obtain ⟨i0, hi0, hz0, hz1, hz2⟩ := info_parts rule_info
      have hw0 := HB0.out
      have hr0 := HX2.out.next hw0
      obtain ⟨⟨y0, y1, y2, y3, y4⟩, _, _, _, _, _, hyl⟩ := hr0.five
      have x0 : wc.cell? ⟨S, 0, none⟩ = some (.int .i64 s.modes) := (H3.out.next hw0).cells.1
      have t2 : wc.cell? ⟨T, 2, none⟩ = some (.slice (some ⟨g, 0, none⟩) s.rules.length cap) := HBT.out.cell 2
      have hTl := HBT.out.lt
      have hSl2 := (H3.out.next hw0).box.lt
      have hsz := hw0.size
      clear hpk hw0 hr0
      go_region_law (first
          | (go_simp; go_at_call 28; refine (made1_s r A1 A2 c1 c2 s.modes q HQ.out _ (by exact Reads.below (Reads.below (HLR1.out.mono (fun _ _ => trivial)) (H3.out.bel.trans (HB0.out.mono H3.out.bel.size))) (Below.refl _ _).drew) (by exact Reads.below (Reads.below (HLR2.out.mono (fun _ _ => trivial)) (H3.out.bel.trans (HB0.out.mono H3.out.bel.size))) (Below.refl _ _).drew) (by omega) (by omega) HRW.out).mono ?_; rintro e w7 ⟨rfl, hb7⟩; have hw7 : Below wc.heap.size wc w7 := (Below.refl wc.heap.size wc).drew.trans hb7; have t7 : w7.cell? ⟨T, 2, none⟩ = some (.slice (some ⟨g, 0, none⟩) s.rules.length cap) := (HBT.out.next hw7).cell 2; have hT7 : T < w7.heap.size := (HBT.out.next hw7).lt; have hs7 := hw7.size)
          | (refine step_append_acc _ (by rfl) _ _ 28 (by rfl) W3.heap.size 53 i0 _ 5 56 Try.underlying28 hi0 hz0 hz1 hz2 (by rfl) (by decide) (some ⟨g, 0, none⟩) s.rules.length cap _ (by rfl) (by exact .inl ((own_below HOWN.out hw7).alloc _)) w7.heap.size 53 (0, 0) 1 1 #[.int .i64 q.frm, .int .i64 q.dst, .string q.inp, .string q.out, .int .i64 q.cost] (by rfl) (by rfl) (by exact heap_alloc_new _ _) (by simp [Value.oneCell']) (by omega) (by unfold maxLen; omega) (by omega) (by simp; omega) ?_; intro g8 cap8 w8 row8 hown8 hgr8 hrow8 hat8 hlt8; have b8 := ((HBT.out.next hw7).alloc _).rowOk hgr8 hrow8 (by decide); have t8 : w8.cell? ⟨T, 2, none⟩ = some (.slice (some ⟨g, 0, none⟩) s.rules.length cap) := b8.cell 2; have f8 := b8.free 2; have B8 := Lib.hid b8; clear b8))
      all_goals (go_wp2; go_meet)
      all_goals exact GT.of ⟨below_rowOk ((HB0.out.trans (hw7.mono HB0.out.size)).trans ((below_one _ _).mono (HB0.out.trans (hw7.mono HB0.out.size)).size)) hgr8 hrow8 (Nat.le_refl _) (by simp; omega), hT, _, B8.out⟩ hown8
    case rest =>
      obtain ⟨At, ct, hb4, hT4, bT4, hr4⟩ := hcut
      obtain ⟨rs', hrs⟩ : ∃ rs', s.rules ++ [q] = rs' := ⟨_, rfl⟩
      rw [hrs] at bT4 hr4
      have hq1 : q.short := by rw [← HQ.out]; exact RawRule.made_short r s.modes
      have hsz : ∀ x ∈ rs', x.inp.size ≤ maxLen ∧ x.out.size ≤ maxLen := fun x hx => by
        rw [← hrs, List.mem_append] at hx
        rcases hx with hx | hx
        · have := HOK.out.bnd x hx; unfold maxLen; exact ⟨by have := this.1; omega, by have := this.2.1; omega⟩
        · rw [List.mem_singleton.1 hx]; unfold maxLen; exact ⟨by have := hq1.1; omega, by have := hq1.2; omega⟩
      have hn' : rs'.length ≤ 10 := by rw [← hrs, List.length_append]; simp; omega
      have HRS := Lib.hid hrs
      have HTW : Hid (TW s S A2s c2s ⟨s.modes, s.accept, rs'⟩ T At ct w wc) := Lib.hid ⟨H3.out.next hb4, (H3.out.next hb4).bel, bT4, hr4⟩
      have hgrow : allRight s.modes rs' = true → SchemeOk ⟨s.modes, s.accept, rs'⟩ := fun h => by
        rw [← HRS.out] at h ⊢
        exact grown_ok HOK.out hn99 h
      have HGR := Lib.hid hgrow
      clear hb4 hT4 bT4 hr4 hrs hq1 hgrow HB0 HBT HOWN hpk hSl hRl hT HX2 HLR1 HLR2 HRW HQ
      obtain ⟨t0, t1, t2, htl⟩ := HTW.out.tw.cells
      simp only at t0 t1 t2
      go_wp2_with fail
      refine (valid_any (fun _ => True) s.modes s.accept At ct rs' _ HTW.out.tw.rules (by omega) (by omega) (by omega) HOK.out.a1 HOK.out.a2 hsz).mono ?_
      rintro e w5 ⟨rfl, hb5⟩
      have HTW5 := Lib.hid (HTW.out.next hb5)
      clear HTW hsz hb5 t0 t1 t2 htl
      rcases hv : allRight s.modes rs' with _ | _
      · go_wp2_with fail
        go_ret
        exact ⟨rfl, HTW5.out.sw.bel⟩
      · have HOKT := Lib.hid (HGR.out hv)
        clear HGR hv
        go_upto_region 7 with (fail)
        go_cut [10, 11, 12, 13] (fun a b c d wx => QW s S A2s c2s ⟨s.modes, s.accept, rs'⟩ T At ct w a b c d wx)
        case first =>
          obtain ⟨x0, x1, x2, hlt⟩ := HTW5.out.sw.cells
          obtain ⟨t0, t1, t2, htl⟩ := HTW5.out.tw.cells
          simp only at t0 t1 t2
          have HD : Hid (TW s S A2s c2s ⟨s.modes, s.accept, rs'⟩ T At ct w w5.drew) := Lib.hid (HTW5.out.next (Below.refl _ _).drew)
          go_region_held3 (fun w' => w'.cell? ⟨S, 0, none⟩ = some (.int .i64 s.modes) ∧ w'.cell? ⟨S, 1, none⟩ = some (.int .u8 s.accept) ∧ w'.cell? ⟨S, 2, none⟩ = some (.slice A2s s.rules.length c2s) ∧ w'.cell? ⟨T, 0, none⟩ = some (.int .i64 s.modes) ∧ w'.cell? ⟨T, 1, none⟩ = some (.int .u8 s.accept) ∧ w'.cell? ⟨T, 2, none⟩ = some (.slice At rs'.length ct))
            (first | exact ⟨x0, x1, x2, t0, t1, t2⟩ | go_keep)
            (first
            | (go_at_call 20; (with_reducible refine (reached_s (fun _ => True) s A2s c2s _ HOK.out (by exact HD.out.sw.rules)).mono ?_); rintro e wA ⟨gA, VA, rfl, hbA, _, hrA, hlA, hiA⟩; replace HD := Lib.hid (HD.out.next hbA); obtain ⟨x0, x1, x2, hlt⟩ := HD.out.sw.cells; obtain ⟨t0, t1, t2, htl⟩ := HD.out.tw.cells; simp only at t0 t1 t2; try (replace hrB := Blk.next hrB hbA); try (replace hrC := Blk.next hrC hbA); try (replace hrD := Blk.next hrD hbA))
            | (go_at_call 20; (with_reducible refine (reached_s (fun _ => True) ⟨s.modes, s.accept, rs'⟩ At ct _ HOKT.out (by exact HD.out.tw.rules)).mono ?_); rintro e wB ⟨gB, VB, rfl, hbB, _, hrB, hlB, hiB⟩; replace HD := Lib.hid (HD.out.next hbB); obtain ⟨x0, x1, x2, hlt⟩ := HD.out.sw.cells; obtain ⟨t0, t1, t2, htl⟩ := HD.out.tw.cells; simp only at t0 t1 t2; try (replace hrA := Blk.next hrA hbB); try (replace hrC := Blk.next hrC hbB); try (replace hrD := Blk.next hrD hbB))
            | (go_at_call 22; (with_reducible refine (live_s (fun _ => True) s A2s c2s _ HOK.out (by exact HD.out.sw.rules)).mono ?_); rintro e wC ⟨gC, VC, rfl, hbC, _, hrC, hlC, hiC⟩; replace HD := Lib.hid (HD.out.next hbC); obtain ⟨x0, x1, x2, hlt⟩ := HD.out.sw.cells; obtain ⟨t0, t1, t2, htl⟩ := HD.out.tw.cells; simp only at t0 t1 t2; try (replace hrA := Blk.next hrA hbC); try (replace hrB := Blk.next hrB hbC); try (replace hrD := Blk.next hrD hbC))
            | (go_at_call 22; (with_reducible refine (live_s (fun _ => True) ⟨s.modes, s.accept, rs'⟩ At ct _ HOKT.out (by exact HD.out.tw.rules)).mono ?_); rintro e wD ⟨gD, VD, rfl, hbD, _, hrD, hlD, hiD⟩; replace HD := Lib.hid (HD.out.next hbD); obtain ⟨x0, x1, x2, hlt⟩ := HD.out.sw.cells; obtain ⟨t0, t1, t2, htl⟩ := HD.out.tw.cells; simp only at t0 t1 t2; try (replace hrA := Blk.next hrA hbD); try (replace hrB := Blk.next hrB hbD); try (replace hrC := Blk.next hrC hbD)))
          all_goals (go_wp2; go_meet)
          all_goals exact ⟨gA, gB, gC, gD, VA, VB, VC, VD, rfl, rfl, rfl, rfl, HD.out, hrA, hrB, hrC, hrD, ⟨hlA, hlC, hiA, hiC⟩, ⟨hlB, hlD, hiB, hiD⟩⟩
        case rest =>
          clear HTW5
          obtain ⟨g1, g2, g3, g4, V1, V2, V3, V4, rfl, rfl, rfl, rfl, hT, r1, r2, r3, r4, hBs, hBt⟩ := hcut
          have HBS := Lib.hid hBs
          have HBT2 := Lib.hid hBt
          have HR : Hid (RW4 s S A2s c2s ⟨s.modes, s.accept, rs'⟩ T At ct g1 g2 g3 g4 V1 V2 V3 V4 w wc) := Lib.hid ⟨hT, r1, r2, r3, r4⟩
          obtain ⟨x0, x1, x2, hlt⟩ := hT.sw.cells
          clear hT r1 r2 r3 r4 hBs hBt
          go_wp2_with fail
          clear x0 x1 x2 hlt
          go_loopw [14] (fun z wr => ∃ n : Nat, n ≤ s.modes ∧ z = .int .i64 n ∧ RW4 s S A2s c2s ⟨s.modes, s.accept, rs'⟩ T At ct g1 g2 g3 g4 V1 V2 V3 V4 w wr) (fun z _ => s.modes - (intOf z).toNat)
          case atStart => exact ⟨0, Nat.zero_le _, rfl, HR.out⟩
          case round =>
            clear HR wc
            obtain ⟨n, hn, rfl, hR⟩ := hrel
            obtain ⟨x0, x1, x2, hlt⟩ := hR.tw.sw.cells
            have HR := Lib.hid hR
            clear hR
            by_cases hnm : n < s.modes
            · have hleq : ∀ p f, Least (accB s.accept) s.rules n p → Least (accB s.accept) rs' n f → f.cost ≤ p.cost := fun p f h1 h2 => by
                rw [← HRS.out] at h2
                exact least_more h1 h2
              have hend : ∀ p, IsEnd (accB s.accept) s.rules n p → ∃ p', IsEnd (accB s.accept) rs' n p' := fun p h => by
                rw [← HRS.out]
                exact ⟨p, end_more (l := p.l) (c := p.cost) h⟩
              have h12 : ReachedP s.rules n → ReachedP rs' n := fun h => by rw [← HRS.out]; exact reached_more h
              have h34 : LiveP s.accept s.modes s.rules n → LiveP s.accept s.modes rs' n := fun h => by rw [← HRS.out]; exact live_more h
              have HLE := Lib.hid (And.intro hleq (And.intro hend (And.intro h12 h34)))
              clear hleq hend h12 h34
              go_wp2_with fail
              refine (least_s _ s A2s c2s _ HOK.out HR.out.tw.sw.rules n hnm).mono ?_
              rintro e w5 ⟨hb5, hle⟩
              have HR5 := Lib.hid (HR.out.next hb5)
              obtain ⟨t0, t1, t2, htl⟩ := HR5.out.tw.tw.cells
              simp only at t0 t1 t2
              have HL1 := Lib.hid hle
              clear HR hb5 hle x0 x1 x2 hlt
              rcases HL1.out with ⟨p, A5, c5, hlp, rfl, _⟩ | ⟨hno, rfl⟩
              all_goals
                go_wp2_with fail
                refine (least_s _ ⟨s.modes, s.accept, rs'⟩ At ct _ HOKT.out HR5.out.tw.tw.rules n hnm).mono ?_
                rintro e w6 ⟨hb6, hle⟩
                have h6 := HR5.out.next hb6
                obtain ⟨b1, hb1, hb1'⟩ := flag_at HBS.out.l1 HBS.out.v1 h6.r1 hnm
                obtain ⟨b2, hb2, hb2'⟩ := flag_at HBT2.out.l1 HBT2.out.v1 h6.r2 hnm
                obtain ⟨b3, hb3, hb3'⟩ := flag_at HBS.out.l2 HBS.out.v2 h6.r3 hnm
                obtain ⟨b4, hb4, hb4'⟩ := flag_at HBT2.out.l2 HBT2.out.v2 h6.r4 hnm
                have h12 : b1 = true → b2 = true := fun h => hb2'.2 (HLE.out.2.2.1 (hb1'.1 h))
                have h34 : b3 = true → b4 = true := fun h => hb4'.2 (HLE.out.2.2.2 (hb3'.1 h))
                have hg1 := h6.r1.lt
                have hg2 := h6.r2.lt
                have hg3 := h6.r3.lt
                have hg4 := h6.r4.lt
                have hi1 : (n : Int) < (s.modes : Int) := by omega
                have H6 := Lib.hid h6
                clear hb1' hb2' hb3' hb4' h6 hb6 t0 t1 t2 htl HR5
                rcases hle with ⟨p', A6, c6, hlp', rfl, _⟩ | ⟨hno', rfl⟩
              · have hc : decide ((p.cost : Int) < (p'.cost : Int)) = false := by have := HLE.out.1 p p' hlp hlp'; simp; omega
                have hc2 : decide (p.cost < p'.cost) = false := by have := HLE.out.1 p p' hlp hlp'; simp; omega
                clear hlp hlp'
                rcases b1 with _ | _ <;> rcases b3 with _ | _
                all_goals first | (obtain rfl := h12 rfl; clear h12) | clear h12
                all_goals first | (obtain rfl := h34 rfl; clear h34) | clear h34
                all_goals
                  go_wp2_with fail
                  go_roundw
                  case rel => exact ⟨n + 1, by omega, by go_num, H6.out⟩
                  case measure => simp [intOf]; omega
              · obtain ⟨p', hp'⟩ := HLE.out.2.1 p hlp.1
                exact absurd hp' (hno' p')
              all_goals
                rcases b1 with _ | _ <;> rcases b3 with _ | _
                all_goals first | (obtain rfl := h12 rfl; clear h12) | clear h12
                all_goals first | (obtain rfl := h34 rfl; clear h34) | clear h34
                all_goals
                  go_wp2_with fail
                  go_roundw
                  case rel => exact ⟨n + 1, by omega, by go_num, H6.out⟩
                  case measure => simp [intOf]; omega
            · go_wp2_with fail
              go_ret
              exact ⟨rfl, HR.out.tw.sw.bel⟩
end Go.Proofs.Ytpidgkngefkbeaa
