/- A scheme with one more rule, in its memory. -/
import Derived.Test.YthcnnadggffjhaaV6
import Derived.Test.YthcnnadggffjhaaI16
set_option linter.unusedVariables false
set_option linter.unusedSimpArgs false
namespace Go.Proofs.Ythcnnadggffjhaa
open Go.RowKit

theorem cells_one (rs : List Rule) : ∀ u ∈ rs.flatMap Rule.cells, u.oneCell' = true := by
  intro u hu
  obtain ⟨r, _, h⟩ := List.mem_flatMap.1 hu
  simp only [Rule.cells, List.mem_cons, List.not_mem_nil, or_false] at h
  rcases h with rfl | rfl | rfl | rfl | rfl <;> rfl
/-- behind the first copy: the new scheme's box at T, its rules in a row of the call's own; all made behind W0 -/
def GW (s : Scheme) (T : Nat) (W0 W : World) : Prop :=
  ∃ g cap, Below W0.heap.size W0 W ∧ W0.heap.size ≤ T ∧ Blk W T 31 #[.int .i64 s.modes, .int .u8 s.accept, .slice (some ⟨g, 0, none⟩) s.rules.length cap] ∧ W.ownsRow W0.heap.size 65 5 (.slice (some ⟨g, 0, none⟩) s.rules.length cap) s.rules.length (s.rules.flatMap Rule.cells)
/-- while the rule is added: the box's third cell may turn -/
def GS (s : Scheme) (T : Nat) (W0 W : World) : Prop := Below W0.heap.size W0 W ∧ W0.heap.size ≤ T ∧ ∃ x, Blk W T 31 #[.int .i64 s.modes, .int .u8 s.accept, x]
theorem GS.next {s : Scheme} {T : Nat} {W0 W W' : World} (h : GS s T W0 W) (hb : Below W.heap.size W W') : GS s T W0 W' := by
  obtain ⟨h1, h2, x, h3⟩ := h
  exact ⟨h1.trans (hb.mono h1.size), h2, x, h3.next hb⟩
theorem GS.grow {s : Scheme} {T : Nat} {W0 W W' : World} {row : Option Nat} (h : GS s T W0 W) (hg : W.grownBy W' row) (hr : RowOk W0.heap.size W 65 row) : GS s T W0 W' := by
  obtain ⟨h1, h2, x, h3⟩ := h
  exact ⟨below_rowOk h1 hg hr (Nat.le_refl _) h1.size, h2, x, h3.rowOk hg hr (by decide)⟩
theorem GS.set {s : Scheme} {T : Nat} {W0 W : World} (h : GS s T W0 W) (u : Value) : GS s T W0 (W.setCell ⟨T, 2, none⟩ u) := by
  obtain ⟨h1, h2, x, h3⟩ := h
  exact ⟨h1.setCell (p := ⟨T, 2, none⟩) h2 u, h2, u, h3.set 2 u⟩
theorem made1_s (r : RawRule) (A1 A2 : Option Addr) (c1 c2 m : Nat) (q : Rule) (hq : r.made m = q) (w : World) (h1 : SlAt v8 (fun _ => True) w A1 r.inp) (h2 : SlAt v8 (fun _ => True) w A2 r.out) (hm : 1 ≤ m) (hm8 : m ≤ 8) (hw : r.wf) :
    Calls Try.prog 24 #[.agg #[.slice A1 r.inp.length c1, .slice A2 r.out.length c2, .int .u8 r.frm, .int .u8 r.dst, .int .u8 r.cost], .int .i64 m] w (fun e w' => e = .returned (.agg #[.int .i64 q.frm, .int .i64 q.dst, .string q.inp, .string q.out, .int .i64 q.cost]) ∧ Below w.heap.size w w') := by
  subst hq
  obtain ⟨a1, a2, a3, a4, a5, a6, a7⟩ := hw
  exact made1_any _ r A1 A2 c1 c2 m w h1 h2 hm hm8 a1 a2 a3 a4 a5 a6 a7
/-- the new scheme, whole -/
def GT (s t : Scheme) (T : Nat) (W0 W : World) : Prop := ∃ At ct, Below W0.heap.size W0 W ∧ W0.heap.size ≤ T ∧ Blk W T 31 #[.int .i64 t.modes, .int .u8 t.accept, .slice At t.rules.length ct] ∧ RulesAt (fun _ => True) W At t.rules
theorem GT.of {s : Scheme} {q : Rule} {T g cap : Nat} {W0 W : World} (h : GS s T W0 W) (hown : W.ownsRow W0.heap.size 65 5 (.slice (some ⟨g, 0, none⟩) (s.rules.length + 1) cap) (s.rules.length + 1) (s.rules.flatMap Rule.cells ++ [.int .i64 q.frm, .int .i64 q.dst, .string q.inp, .string q.out, .int .i64 q.cost])) :
    GT s ⟨s.modes, s.accept, s.rules ++ [q]⟩ T W0 (W.setCell ⟨T, 2, none⟩ (.slice (some ⟨g, 0, none⟩) (s.rules.length + 1) cap)) := by
  obtain ⟨h1, h2, x, h3⟩ := h
  have ho := Acc.far (p := ⟨T, 2, none⟩) hown h3 (by decide) (.slice (some ⟨g, 0, none⟩) (s.rules.length + 1) cap)
  refine ⟨some ⟨g, 0, none⟩, cap, h1.setCell (p := ⟨T, 2, none⟩) h2 _, h2, ?_, ?_⟩
  · have := h3.set 2 (.slice (some ⟨g, 0, none⟩) (s.rules.length + 1) cap)
    simpa using this
  · have := (Reads.of_own ho).mono (G := fun _ => True) fun _ _ => trivial
    unfold RulesAt
    rw [List.flatMap_append]
    simpa [Rule.cells] using this
/-- both schemes -/
structure TW6 (s : Scheme) (S : Nat) (A : Option Addr) (c : Nat) (t : Scheme) (T : Nat) (At : Option Addr) (ct : Nat) (w W : World) : Prop where
  sw : SY s S A c w W
  tw : SY t T At ct w W
theorem TW6.next {s : Scheme} {S : Nat} {A : Option Addr} {c : Nat} {t : Scheme} {T : Nat} {At : Option Addr} {ct : Nat} {w W W' : World} (h : TW6 s S A c t T At ct w W) (hb : Below W.heap.size W W') : TW6 s S A c t T At ct w W' := ⟨h.sw.next hb, h.tw.next hb⟩

section
variable {s : Scheme} {W w5 : World} {g cap blk Y : Nat}
theorem GW.fresh (hb : Below W.heap.size W w5) (hown : w5.ownsRow blk 65 5 (.slice (some ⟨g, 0, none⟩) s.rules.length cap) s.rules.length (s.rules.flatMap Rule.cells)) (hblk : W.heap.size ≤ blk) :
    GW s w5.heap.size W (w5.alloc (.cells #[.int .i64 s.modes, .int .u8 s.accept, .slice (some ⟨g, 0, none⟩) s.rules.length cap] 31)) :=
  ⟨g, cap, hb.trans ((below_one _ _).mono hb.size), hb.size, Blk.new _ _ _, (hown.mono hblk).alloc _⟩
theorem GW.stored (hb : Below W.heap.size W w5) (hown : w5.ownsRow blk 65 5 (.slice (some ⟨g, 0, none⟩) s.rules.length cap) s.rules.length (s.rules.flatMap Rule.cells)) (hblk : W.heap.size ≤ blk)
    (bY : Blk w5 Y 31 #[.int .i64 0, .int .u8 0, .slice none 0 0]) (hY : W.heap.size ≤ Y) :
    GW s Y W (((w5.setCell ⟨Y, 0, none⟩ (.int .i64 s.modes)).setCell ⟨Y, 1, none⟩ (.int .u8 s.accept)).setCell ⟨Y, 2, none⟩ (.slice (some ⟨g, 0, none⟩) s.rules.length cap)) := by
  have hB := ((hb.setCell (p := ⟨Y, 0, none⟩) hY (.int .i64 s.modes)).setCell (p := ⟨Y, 1, none⟩) hY (.int .u8 s.accept)).setCell (p := ⟨Y, 2, none⟩) hY (.slice (some ⟨g, 0, none⟩) s.rules.length cap)
  have b0 := bY.set 0 (.int .i64 s.modes)
  have b1 := b0.set 1 (.int .u8 s.accept)
  exact ⟨g, cap, hB, hY, b1.set 2 _, Acc.far (p := ⟨Y, 2, none⟩) (Acc.far (p := ⟨Y, 1, none⟩) (Acc.far (p := ⟨Y, 0, none⟩) (hown.mono hblk) bY (by decide) _) b0 (by decide) _) b1 (by decide) _⟩
end

theorem grown6 {s : Scheme} (h : Ok6 s) (h9 : s.rules.length ≤ 9) {q : Rule} (hq : 1 ≤ q.inp.size) (hv : allRight s.modes (s.rules ++ [q]) = true) : Ok6 ⟨s.modes, s.accept, s.rules ++ [q]⟩ := by
  have hf : ∀ r ∈ s.rules ++ [q], r.fit s.modes = true := by
    intro r hr
    obtain ⟨i, hi, rfl⟩ := List.getElem_of_mem hr
    unfold allRight at hv
    have h1 := List.all_eq_true.1 hv i (List.mem_range.2 hi)
    simp only [rightAt, Bool.and_eq_true] at h1
    have h2 := h1.2
    rwa [List.getD_eq_getElem?_getD, List.getElem?_eq_getElem hi] at h2
  refine ⟨h.m0, h.m2, h.ac, by show (s.rules ++ [q]).length ≤ 10; rw [List.length_append]; simp; omega, hf, fun r hr => ?_⟩
  rw [List.mem_append, List.mem_singleton] at hr
  rcases hr with hr | rfl
  · exact h.on r hr
  · exact .inl hq
end Go.Proofs.Ythcnnadggffjhaa
