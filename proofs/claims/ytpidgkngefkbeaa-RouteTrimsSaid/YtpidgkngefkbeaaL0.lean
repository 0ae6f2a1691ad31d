/- Words for memory: a slice that reads as a list of cells, lying in blocks of a kind; typed forms of it for rules, numbers, bytes and bools. No program is in sight here. -/
import Derived.WalkKit
import Derived.WalkSpells
import Derived.Deep.Draws
import Derived.Test.YtpidgkngefkbeaaP0
set_option linter.unusedVariables false
set_option linter.unusedSimpArgs false
namespace Go.Proofs.Ytpidgkngefkbeaa
open Go.RowKit

/-- The slice value at A shows the cells xs, all in one block that meets F. -/
def Reads (F : Nat → Prop) (w : World) (A : Option Addr) (xs : List Value) : Prop :=
  xs ≠ [] → ∃ b o, A = some ⟨b, o, none⟩ ∧ F b ∧ b < w.heap.size ∧ ∀ j u, xs[j]? = some u → w.cell? ⟨b, o + j, none⟩ = some u

section
variable {F G : Nat → Prop} {w w' : World} {A : Option Addr} {xs : List Value}
theorem Reads.nil (A : Option Addr) : Reads F w A [] := fun h => absurd rfl h
theorem Reads.mono (h : Reads F w A xs) (hg : ∀ b, F b → G b) : Reads G w A xs := fun hn =>
  let ⟨b, o, e, hf, hb, hc⟩ := h hn; ⟨b, o, e, hg b hf, hb, hc⟩
theorem Reads.keep (h : Reads F w A xs) (hs : w.heap.size ≤ w'.heap.size) (hk : ∀ b, F b → b < w.heap.size → w'.heap[b]? = w.heap[b]?) : Reads F w' A xs := fun hn =>
  let ⟨b, o, e, hf, hb, hc⟩ := h hn
  ⟨b, o, e, hf, Nat.lt_of_lt_of_le hb hs, fun j u hu => (World.cell?_of_block (hk b hf hb)).trans (hc j u hu)⟩
theorem Reads.below (h : Reads F w A xs) (hb : Below w.heap.size w w') : Reads F w' A xs := h.keep hb.size fun b _ hl => hb.block b hl
theorem Reads.belowB {B : Nat} (h : Reads (· < B) w A xs) (hb : Below B w w') : Reads (· < B) w' A xs := h.keep hb.size fun b hl _ => hb.block b hl
theorem Reads.all (h : Reads F w A xs) : Reads (· < w.heap.size) w A xs := fun hn =>
  let ⟨b, o, e, hf, hb, hc⟩ := h hn; ⟨b, o, e, hb, hb, hc⟩
theorem Reads.drop_ (h : Reads F w A xs) {k n cap size : Nat} (hl : xs.length = n * size) (hk : k ≤ n) (hc : n ≤ cap) :
    Reads F w (if cap = k then A else A.map (·.add (k * size))) (xs.drop (k * size)) := by
  intro hn
  have hne : xs ≠ [] := by rintro rfl; simp at hn
  obtain ⟨b, o, e, hf, hb, hcell⟩ := h hne
  have hlt : k * size < xs.length := by
    rcases Nat.lt_or_ge (k * size) xs.length with h1 | h1
    · exact h1
    · exact absurd (List.drop_eq_nil_of_le h1) hn
  have hkn : k < n := by
    rcases Nat.lt_or_ge k n with h1 | h1
    · exact h1
    · have : k = n := Nat.le_antisymm hk h1
      subst this
      omega
  rw [if_neg (by omega), e]
  refine ⟨b, o + k * size, ?_, hf, hb, fun j u hu => ?_⟩
  · simp only [Option.map_some, Addr.add]
    split
    · rename_i h0; rw [h0]; rfl
    · rfl
  · rw [show o + k * size + j = o + (k * size + j) from by omega]
    exact hcell _ u (by rw [← hu, List.getElem?_drop])
theorem Reads.take_ (h : Reads F w A xs) (k : Nat) : Reads F w A (xs.take k) := by
  intro hn
  have hne : xs ≠ [] := by rintro rfl; simp at hn
  obtain ⟨b, o, e, hf, hb, hcell⟩ := h hne
  refine ⟨b, o, e, hf, hb, fun j u hu => hcell j u ?_⟩
  rw [List.getElem?_take] at hu
  split at hu
  · exact hu
  · cases hu
theorem Reads.of_own {base : Nat} {e : TypeId} {size n c : Nat} (h : w.ownsRow base e size (.slice A n c) n xs) : Reads (base ≤ ·) w A xs := by
  intro hn
  rcases h.2 with ⟨hv, h0⟩ | ⟨g, cap, cur, hv, hg, hh, hnc, hcm, hcs, htake⟩
  · have := h.1
    rw [h0] at this
    simp at this
    exact absurd this hn
  · have hA : A = some ⟨g, 0, none⟩ := by injection hv
    have hlt : g < w.heap.size := (Array.getElem?_eq_some_iff.1 hh).1
    refine ⟨g, 0, hA, hg, hlt, fun j u hu => ?_⟩
    have := h.cells (g := g) (by simp [Value.ownBlock, hA]) j u hu
    rw [show (⟨g, 0 + j, none⟩ : Addr) = (⟨g, 0, none⟩ : Addr).add j from by unfold Addr.add; split <;> simp_all]
    exact this
end

theorem cells_length (rs : List Rule) : (rs.flatMap Rule.cells).length = rs.length * 5 := by
  induction rs with
  | nil => rfl
  | cons r rs ih => simp [Rule.cells, ih]; omega
theorem cells_at (rs : List Rule) (k : Nat) (hk : k < rs.length) (j : Nat) (hj : j < 5) : (rs.flatMap Rule.cells)[k * 5 + j]? = rs[k].cells[j]? := by
  induction rs generalizing k with
  | nil => simp at hk
  | cons r rs ih =>
    cases k with
    | zero =>
      simp only [List.flatMap_cons, Nat.zero_mul, Nat.zero_add, List.getElem_cons_zero]
      rw [List.getElem?_append_left (by simp [Rule.cells]; omega)]
    | succ k =>
      simp only [List.flatMap_cons, List.getElem_cons_succ]
      rw [List.getElem?_append_right (by simp [Rule.cells]; omega)]
      rw [show (k + 1) * 5 + j - r.cells.length = k * 5 + j from by simp [Rule.cells]; omega]
      exact ih k (by simpa using hk)

/-- A slice of rules. -/
def RulesAt (F : Nat → Prop) (w : World) (A : Option Addr) (rs : List Rule) : Prop := Reads F w A (rs.flatMap Rule.cells)
theorem RulesAt.at_ {F : Nat → Prop} {w : World} {A : Option Addr} {rs : List Rule} (h : RulesAt F w A rs) {k : Nat} (hk : k < rs.length) :
    ∃ b o, A = some ⟨b, o, none⟩ ∧ F b ∧ b < w.heap.size ∧ w.cell? ⟨b, o + k * 5, none⟩ = some (.int .i64 rs[k].frm) ∧ w.cell? ⟨b, o + k * 5 + 1, none⟩ = some (.int .i64 rs[k].dst) ∧
      w.cell? ⟨b, o + k * 5 + 2, none⟩ = some (.string rs[k].inp) ∧ w.cell? ⟨b, o + k * 5 + 3, none⟩ = some (.string rs[k].out) ∧ w.cell? ⟨b, o + k * 5 + 4, none⟩ = some (.int .i64 rs[k].cost) := by
  have hl := cells_length rs
  obtain ⟨b, o, e, hf, hb, hc⟩ := h (by intro h0; rw [h0] at hl; simp at hl; omega)
  have hat := fun j hj => cells_at rs k hk j hj
  refine ⟨b, o, e, hf, hb, ?_, ?_, ?_, ?_, ?_⟩
  · exact hc (k * 5 + 0) _ (by rw [hat 0 (by omega)]; rfl)
  · rw [Nat.add_assoc]; exact hc (k * 5 + 1) _ (by rw [hat 1 (by omega)]; rfl)
  · rw [Nat.add_assoc]; exact hc (k * 5 + 2) _ (by rw [hat 2 (by omega)]; rfl)
  · rw [Nat.add_assoc]; exact hc (k * 5 + 3) _ (by rw [hat 3 (by omega)]; rfl)
  · rw [Nat.add_assoc]; exact hc (k * 5 + 4) _ (by rw [hat 4 (by omega)]; rfl)

/-- A slice of plain elements of one cell each. -/
def SlAt {T : Type} (f : T → Value) (F : Nat → Prop) (w : World) (A : Option Addr) (l : List T) : Prop := Reads F w A (l.map f)
theorem SlAt.at_ {T : Type} {f : T → Value} {F : Nat → Prop} {w : World} {A : Option Addr} {l : List T} (h : SlAt f F w A l) {k : Nat} (hk : k < l.length) :
    ∃ b o, A = some ⟨b, o, none⟩ ∧ F b ∧ b < w.heap.size ∧ w.cell? ⟨b, o + k, none⟩ = some (f l[k]) := by
  obtain ⟨b, o, e, hf, hb, hc⟩ := h (by intro h0; have := congrArg List.length h0; simp at this; simp [this] at hk)
  exact ⟨b, o, e, hf, hb, hc k _ (by simp [hk])⟩
theorem SlAt.below {T : Type} {f : T → Value} {F : Nat → Prop} {w w' : World} {A : Option Addr} {l : List T} (h : SlAt f F w A l) (hb : Below w.heap.size w w') : SlAt f F w' A l := Reads.below h hb
theorem RulesAt.below {F : Nat → Prop} {w w' : World} {A : Option Addr} {rs : List Rule} (h : RulesAt F w A rs) (hb : Below w.heap.size w w') : RulesAt F w' A rs := Reads.below h hb
abbrev vI (n : Int) : Value := .int .i64 n
abbrev vN (n : Nat) : Value := .int .i64 (n : Int)
abbrev vB (b : Bool) : Value := .bool b
abbrev v8 (n : Nat) : Value := .int .u8 (n : Int)

/-- The walk goes on from a world of which only Φ is known. -/
theorem world_gen {motive : World → Prop} {F : World} (Φ : World → Prop) (h : Φ F) (k : ∀ W, Φ W → motive W) : motive F := k F h
theorem Reads.block {w : World} {g : Nat} {C : Array Value} {e : TypeId} {fr : Nat × Nat} {F : Nat → Prop} (h : w.heap[g]? = some (.cells C e fr)) (hF : F g) : Reads F w (some ⟨g, 0, none⟩) C.toList := by
  intro _
  refine ⟨g, 0, rfl, hF, (Array.getElem?_eq_some_iff.1 h).1, fun j u hu => ?_⟩
  rw [cell_of_row _ _ _ _ _ _ h]
  simpa using hu

/-- Block b is just the cells cs, none frozen. -/
def Blk (w : World) (b : Nat) (e : TypeId) (cs : Array Value) : Prop := w.heap[b]? = some (.cells cs e (0, 0))
section
variable {w w' : World} {b : Nat} {e : TypeId} {cs : Array Value}
theorem Blk.lt (h : Blk w b e cs) : b < w.heap.size := (Array.getElem?_eq_some_iff.1 h).1
theorem Blk.cell (h : Blk w b e cs) : ∀ i, w.cell? ⟨b, i, none⟩ = cs[i]? := fun i => cell_of_row w b i cs e (0, 0) h
theorem Blk.free (h : Blk w b e cs) : ∀ i, w.frozen? ⟨b, i, none⟩ = false := fun i => by unfold Blk at h; simp [World.frozen?, h]
theorem Blk.new (w : World) (e : TypeId) (cs : Array Value) : Blk (w.alloc (.cells cs e)) w.heap.size e cs := heap_alloc_new w _
theorem Blk.alloc (h : Blk w b e cs) (o : Obj) : Blk (w.alloc o) b e cs := (Below.heap_alloc w o b h.lt).trans h
theorem Blk.drew (h : Blk w b e cs) : Blk w.drew b e cs := h
theorem Blk.drewN (h : Blk w b e cs) (n : Nat) : Blk (w.drewN n) b e cs := h
theorem Blk.set (h : Blk w b e cs) (i : Nat) (u : Value) : Blk (w.setCell ⟨b, i, none⟩ u) b e (cs.setIfInBounds i u) := by
  unfold Blk at h ⊢
  simp [World.setCell, Array.getElem?_modify, h]
theorem Blk.far (h : Blk w b e cs) {p : Addr} (hp : b ≠ p.block) (u : Value) : Blk (w.setCell p u) b e cs := (Below.heap_setCell w p u b hp).trans h
theorem Blk.below {B : Nat} (h : Blk w b e cs) (hb : Below B w w') (hg : b < B) : Blk w' b e cs := (hb.block b hg).trans h
theorem Blk.next (h : Blk w b e cs) (hb : Below w.heap.size w w') : Blk w' b e cs := h.below hb h.lt
theorem Blk.grown {row : Option Nat} (h : Blk w b e cs) (hb : w.grownBy w' row) (hg : some b ≠ row) : Blk w' b e cs := (hb.block b h.lt hg).trans h
end
end Go.Proofs.Ytpidgkngefkbeaa
