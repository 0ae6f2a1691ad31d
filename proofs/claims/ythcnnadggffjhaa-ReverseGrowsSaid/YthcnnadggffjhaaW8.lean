/- The walk of the reference of layer 3: Made. -/
import Derived.Test.YthcnnadggffjhaaW7
import Derived.BigRegion
set_option linter.unusedVariables false
set_option linter.unusedSimpArgs false
namespace Go.Proofs.Ythcnnadggffjhaa
open Go.RowKit

/-- what is known of the world while 'Made' works: w is the world in which it began, S the block of the scheme of layer 2 -/
def Made3W (A2 : Option Addr) (c2 n2 m2 a2 w0 wb : Nat) (l2 : List Rule) (n a S : Nat) (rs : List Rule) (w W : World) : Prop :=
  Below w.heap.size w W ∧ w.heap.size + 2 < S ∧ Blk W (w.heap.size + 1) 60 #[.int .u8 w0, .int .u8 wb] ∧
    Blk W (w.heap.size + 1 + 1) 31 #[.int .i64 0, .int .u8 0, .slice none 0 0] ∧
    Blk W S 31 #[.int .i64 m2, .int .u8 a2, .slice A2 n2 c2] ∧ (∀ r ∈ rs, r.short) ∧ RulesAt (· ≤ S) W A2 l2 ∧
    ∃ A' c', Blk W (S + 1) 31 #[.int .i64 n, .int .u8 a, .slice A' rs.length c'] ∧ Acc (S + 2) W 65 5 A' rs.length c' (rs.flatMap Rule.cells)

/-- the same behind an append: the rules lie in a row of the call's own -/
def Made3P (A2 : Option Addr) (c2 n2 m2 a2 w0 wb : Nat) (l2 : List Rule) (n a S : Nat) (rs : List Rule) (w W : World) : Prop :=
  Below w.heap.size w W ∧ w.heap.size + 2 < S ∧ Blk W (w.heap.size + 1) 60 #[.int .u8 w0, .int .u8 wb] ∧
    Blk W (w.heap.size + 1 + 1) 31 #[.int .i64 0, .int .u8 0, .slice none 0 0] ∧
    Blk W S 31 #[.int .i64 m2, .int .u8 a2, .slice A2 n2 c2] ∧ (∀ r ∈ rs, r.short) ∧ RulesAt (· ≤ S) W A2 l2 ∧
    ∃ A' c', Blk W (S + 1) 31 #[.int .i64 n, .int .u8 a, .slice A' rs.length c'] ∧ W.ownsRow (S + 2) 65 5 (.slice A' rs.length c') rs.length (rs.flatMap Rule.cells)
theorem made3_keep {A2 : Option Addr} {c2 n2 m2 a2 w0 wb n a S : Nat} {l2 rs : List Rule} {w W w5 : World} (h : Made3P A2 c2 n2 m2 a2 w0 wb l2 n a S rs w W) (hb : Below W.heap.size W w5) : Made3W A2 c2 n2 m2 a2 w0 wb l2 n a S rs w w5 := by
  obtain ⟨h0, h1, h2, h3, h4, h5, h6, A', c', h7, h8⟩ := h
  have h9 : Acc (S + 2) W 65 5 A' rs.length c' (rs.flatMap Rule.cells) := .inl h8
  exact ⟨h0.trans (hb.mono h0.size), h1, h2.next hb, h3.next hb, h4.next hb, h5, RulesAt.below h6 hb, A', c', h7.next hb, h9.below hb⟩
theorem Reads.farB {F : Nat → Prop} {w : World} {A : Option Addr} {xs : List Value} (h : Reads F w A xs) {p : Addr} (hp : ∀ b, F b → b ≠ p.block) (u : Value) : Reads F (w.setCell p u) A xs :=
  h.keep (by simp [World.setCell]) fun b hb _ => Below.heap_setCell _ _ _ _ (hp b hb)
theorem made3_cut {A2 : Option Addr} {c2 n2 m2 a2 w0 wb n a S : Nat} {l2 rs : List Rule} {q : Rule} {A' : Option Addr} {c' : Nat} {w W w5 : World} (hbel : Below w.heap.size w W) (hS : w.heap.size + 2 < S)
    (b1 : Blk W (w.heap.size + 1) 60 #[.int .u8 w0, .int .u8 wb])
    (b2 : Blk W (w.heap.size + 1 + 1) 31 #[.int .i64 0, .int .u8 0, .slice none 0 0])
    (bS : Blk W S 31 #[.int .i64 m2, .int .u8 a2, .slice A2 n2 c2]) (hs : ∀ r ∈ rs, r.short) (hR : RulesAt (· ≤ S) W A2 l2) (bT : Blk W (S + 1) 31 #[.int .i64 n, .int .u8 a, .slice A' (rs ++ [q]).length c'])
    (hown : W.ownsRow (S + 2) 65 5 (.slice A' (rs ++ [q]).length c') (rs ++ [q]).length ((rs ++ [q]).flatMap Rule.cells)) (hb : Below W.heap.size W w5) :
    Made3W A2 c2 n2 m2 a2 w0 wb l2 n a S rs w (w5.setCell ⟨S + 1, 2, none⟩ (.slice A' rs.length c')) := by
  have hown' : w5.ownsRow (S + 2) 65 5 (.slice A' rs.length c') rs.length (rs.flatMap Rule.cells) := by
    refine own_pop (ys := q.cells) ?_ (cells_length rs)
    have h8 := hown.kept (w' := w5) (row := none) ⟨hb.os, hb.tape, hb.output, hb.size, fun k hk _ => hb.block k hk⟩ (by cases hv : (Value.slice A' (rs ++ [q]).length c').ownBlock <;> simp)
    simpa using h8
  refine ⟨(hbel.trans (hb.mono hbel.size)).setCell (p := ⟨S + 1, 2, none⟩) (by simp; omega) _, hS, (b1.next hb).far (by simp; omega) _, (b2.next hb).far (by simp; omega) _, (bS.next hb).far (by simp) _, hs, Reads.farB (RulesAt.below hR hb) (fun b hb => by simp; omega) _, A', c', ?_, .inl ?_⟩
  · have := (bT.next hb).set 2 (.slice A' rs.length c')
    simpa using this
  · exact Acc.far (p := ⟨S + 1, 2, none⟩) hown' (bT.next hb) (by decide) _
theorem made3_push {A2 : Option Addr} {c2 n2 m2 a2 w0 wb n a S g cap : Nat} {l2 rs : List Rule} {q : Rule} {A' : Option Addr} {c' : Nat} {w W w2 w4 : World} {row : Option Nat} (hq : q.short) (hbel : Below w.heap.size w W) (hS : w.heap.size + 2 < S)
    (b1 : Blk W (w.heap.size + 1) 60 #[.int .u8 w0, .int .u8 wb])
    (b2 : Blk W (w.heap.size + 1 + 1) 31 #[.int .i64 0, .int .u8 0, .slice none 0 0])
    (bS : Blk W S 31 #[.int .i64 m2, .int .u8 a2, .slice A2 n2 c2]) (hs : ∀ r ∈ rs, r.short) (hR : RulesAt (· ≤ S) W A2 l2) (bT : Blk W (S + 1) 31 #[.int .i64 n, .int .u8 a, .slice A' rs.length c'])
    (hb2 : Below W.heap.size W w2) (hgr : w2.grownBy w4 row)
    (hrow : RowOk (S + 2) w2 65 row)
    (hown : w4.ownsRow (S + 2) 65 5 (.slice (some ⟨g, 0, none⟩) (rs.length + 1) cap) (rs.length + 1) (rs.flatMap Rule.cells ++ [.int .i64 q.frm, .int .i64 q.dst, .string q.inp, .string q.out, .int .i64 q.cost])) :
    Made3P A2 c2 n2 m2 a2 w0 wb l2 n a S (rs ++ [q]) w (w4.setCell ⟨S + 1, 2, none⟩ (.slice (some ⟨g, 0, none⟩) (rs.length + 1) cap)) := by
  have hbel2 : Below w.heap.size w w2 := hbel.trans (hb2.mono hbel.size)
  have hbel4 := below_rowOk hbel2 hgr hrow (by omega) hbel2.size
  have b14 := (b1.next hb2).rowOk hgr hrow (by decide)
  have b24 := (b2.next hb2).rowOk hgr hrow (by decide)
  have bS4 := (bS.next hb2).rowOk hgr hrow (by decide)
  have bT4 := (bT.next hb2).rowOk hgr hrow (by decide)
  refine ⟨hbel4.setCell (p := ⟨S + 1, 2, none⟩) (by simp; omega) _, hS, b14.far (by simp; omega) _, b24.far (by simp; omega) _, bS4.far (by simp) _, ?_, Reads.farB (Reads.rowOk (RulesAt.below hR hb2) hgr hrow (fun b hb => by omega)) (fun b hb => by simp; omega) _, some ⟨g, 0, none⟩, cap, ?_, ?_⟩
  · intro x hx
    rcases List.mem_append.1 hx with hx | hx
    · exact hs x hx
    · rw [List.mem_singleton.1 hx]; exact hq
  · have := bT4.set 2 (.slice (some ⟨g, 0, none⟩) (rs.length + 1) cap)
    simpa using this
  · have e : (rs ++ [q]).flatMap Rule.cells = rs.flatMap Rule.cells ++ [.int .i64 q.frm, .int .i64 q.dst, .string q.inp, .string q.out, .int .i64 q.cost] := by simp [Rule.cells]
    rw [e, List.length_append, List.length_singleton]
    exact Acc.far (p := ⟨S + 1, 2, none⟩) hown bT4 (by decide) _
theorem turn_step {n w0 wb : Nat} {l2 rs : List Rule} {k : Nat} (hk : k < l2.length) : turnRules n w0 wb (l2.drop k) k rs = turnRules n w0 wb (l2.drop (k + 1)) (k + 1) (pushRule n rs (turned n w0 wb l2[k] k)) := by
  rw [List.drop_eq_getElem_cons hk]; rfl

theorem made3_start {A2 : Option Addr} {c2 n2 m2 a2 w0 wb n a S : Nat} {l2 : List Rule} {w W : World} (hbel : Below w.heap.size w W) (hS : w.heap.size + 2 < S) (hWS : W.heap.size = S + 1) (b1 : Blk W (w.heap.size + 1) 60 #[.int .u8 w0, .int .u8 wb])
    (b2 : Blk W (w.heap.size + 1 + 1) 31 #[.int .i64 0, .int .u8 0, .slice none 0 0]) (bS : Blk W S 31 #[.int .i64 m2, .int .u8 a2, .slice A2 n2 c2]) (hR : RulesAt (· ≤ S) W A2 l2) :
    Made3W A2 c2 n2 m2 a2 w0 wb l2 n a S [] w (W.alloc (.cells #[.int .i64 n, .int .u8 a, .slice none 0 0] 31)) :=
  ⟨hbel.alloc hbel.size _, hS, b1.alloc _, b2.alloc _, bS.alloc _, by simp, RulesAt.below hR ((Below.refl _ _).alloc (Nat.le_refl _) _), none, 0, by rw [← hWS]; exact Blk.new _ _ _, Acc.nil _ _ _ _⟩
theorem Made3W.drew {A2 : Option Addr} {c2 n2 m2 a2 w0 wb n a S : Nat} {l2 rs : List Rule} {w W : World} (h : Made3W A2 c2 n2 m2 a2 w0 wb l2 n a S rs w W) : Made3W A2 c2 n2 m2 a2 w0 wb l2 n a S rs w W.drew := by
  obtain ⟨h0, h1, h2, h3, h4, h5, h6, A', c', h7, h8⟩ := h
  have hb := below_drewN (Below.refl W.heap.size W) 1
  exact ⟨below_drewN h0 1, h1, h2, h3, h4, h5, RulesAt.below h6 hb, A', c', h7, h8.below hb⟩

theorem made2_short (base drop : Nat) (more : List RawRule) : ∀ r ∈ (made2 base drop more).rules, r.short :=
  madeRules_short _ fun r hr => baseOf_short _ r (List.mem_of_mem_drop hr)
theorem pushRule_low {m : Nat} {rs : List Rule} {r : Rule} (h : ∀ x ∈ rs, x.frm < 2 ∧ x.dst < 2) (hr : r.frm < 2 ∧ r.dst < 2) : ∀ x ∈ pushRule m rs r, x.frm < 2 ∧ x.dst < 2 := by
  unfold pushRule
  split
  · intro x hx
    rcases List.mem_append.1 hx with hx | hx
    · exact h x hx
    · rw [List.mem_singleton.1 hx]; exact hr
  · exact h
theorem madeRules_low {m : Nat} (hm : 1 ≤ m ∧ m ≤ 2) (l : List RawRule) : ∀ {rs : List Rule}, (∀ x ∈ rs, x.frm < 2 ∧ x.dst < 2) → ∀ x ∈ madeRules m rs l, x.frm < 2 ∧ x.dst < 2 := by
  induction l with
  | nil => exact fun h => h
  | cons a l ih =>
    refine fun h => ih (pushRule_low h ⟨?_, ?_⟩)
    · have := Nat.mod_lt a.frm (show m > 0 by omega)
      show a.frm % m < 2
      omega
    · have := Nat.mod_lt a.dst (show m > 0 by omega)
      show a.dst % m < 2
      omega
theorem baseOf_low (k : Nat) : ∀ r ∈ (baseOf k).rules, r.frm < 2 ∧ r.dst < 2 := by
  unfold baseOf
  split <;> simp [sim]
theorem made2_low (base drop : Nat) (more : List RawRule) : ∀ r ∈ (made2 base drop more).rules, r.frm < 2 ∧ r.dst < 2 :=
  madeRules_low (by rcases baseOf_modes (base % 6) with h | h <;> rw [h] <;> omega) _ fun r hr => baseOf_low _ r (List.mem_of_mem_drop hr)
theorem made2_len (base drop : Nat) (more : List RawRule) : 2 ≤ (made2 base drop more).rules.length ∧ (made2 base drop more).rules.length ≤ 9 := by
  have h1 := madeRules_len (baseOf (base % 6)).modes (more.take 4) ((baseOf (base % 6)).rules.drop (drop % 2))
  have h2 := baseOf_len (base % 6)
  have e : (made2 base drop more).rules = madeRules (baseOf (base % 6)).modes ((baseOf (base % 6)).rules.drop (drop % 2)) (more.take 4) := rfl
  rw [e]
  rw [List.length_take, List.length_drop] at h1
  omega

end Go.Proofs.Ythcnnadggffjhaa
