/- Words for memory: a slice that reads as a list of cells, lying in blocks of a kind; typed forms of it for rules, numbers, bytes and bools. No program is in sight here. Steps of a region that draws its order: a store of one cell, a store of a struct. A slice that the call itself gathers: it lies in a row of its own, or it is full and only read so far. What append does to it, in one law for both; as a step of the walk and as a step of a region that draws its order. No program is in sight here. append([]T{x}, xs...) onto a fresh block of one cell: xs may be empty, its slice nil. No program is in sight here. Small words on new blocks. No program is in sight here. A store into a row of the call's own: one cell of the list is another. No program is in sight here. append([]T{}, xs...) onto a fresh empty block: xs may be empty, its slice nil. No program is in sight here. -/
import Derived.WalkKit
import Derived.WalkSpells
import Derived.Deep.Draws
import Derived.Test.YthcnnadggffjhaaPA
import Derived.Deep.RegionHeld3
import Derived.Deep.RegionLaw
import Derived.Deep.Cut
import Derived.Deep.CutRange
import Derived.Deep.CutBlock
import Derived.Deep.DeepCutAuto
import Derived.Deep.AppendLies
import Derived.Deep.DeepFit
import Derived.Deep.DeepMust
import Derived.Deep.Light
import Derived.Deep.LoopGhost
import Derived.Deep.Onto
import Derived.Maps.AppendAt
import Derived.ArgAppend
import Derived.Lib.SmallJoins
set_option linter.unusedVariables false
set_option linter.unusedSimpArgs false
namespace Go.Proofs.Ythcnnadggffjhaa
open Go.RowKit

/-- The slice value at A shows the cells xs, all in one block that meets F. -/
def Reads (F : Nat → Prop) (w : World) (A : Option Addr) (xs : List Value) : Prop :=
  xs ≠ [] → ∃ b o, A = some ⟨b, o, none⟩ ∧ F b ∧ b < w.heap.size ∧ ∀ j u, xs[j]? = some u → w.cell? ⟨b, o + j, none⟩ = some u

section
variable {F G : Nat → Prop} {w w' : World} {A : Option Addr} {xs : List Value}
theorem Reads.nil (A : Option Addr) : Reads F w A [] := fun h => absurd rfl h
theorem Reads.mono (h : Reads F w A xs) (hg : ∀ b, F b → G b) : Reads G w A xs := fun hn =>
  let ⟨b, o, e, hf, hb, hc⟩ := h hn; ⟨b, o, e, hg b hf, hb, hc⟩
theorem Reads.keep (h : Reads F w A xs) (hs : w.heap.size ≤ w'.heap.size) (hk : ∀ b, F b → b < w.heap.size → w'.heap[b]? = w.heap[b]?) : Reads F w' A xs := fun hn =>
  let ⟨b, o, e, hf, hb, hc⟩ := h hn
  ⟨b, o, e, hf, Nat.lt_of_lt_of_le hb hs, fun j u hu => (World.cell?_of_block (hk b hf hb)).trans (hc j u hu)⟩
theorem Reads.below (h : Reads F w A xs) (hb : Below w.heap.size w w') : Reads F w' A xs := h.keep hb.size fun b _ hl => hb.block b hl
theorem Reads.belowB {B : Nat} (h : Reads (· < B) w A xs) (hb : Below B w w') : Reads (· < B) w' A xs := h.keep hb.size fun b hl _ => hb.block b hl
theorem Reads.all (h : Reads F w A xs) : Reads (· < w.heap.size) w A xs := fun hn =>
  let ⟨b, o, e, hf, hb, hc⟩ := h hn; ⟨b, o, e, hb, hb, hc⟩
theorem Reads.drop_ (h : Reads F w A xs) {k n cap size : Nat} (hl : xs.length = n * size) (hk : k ≤ n) (hc : n ≤ cap) :
    Reads F w (if cap = k then A else A.map (·.add (k * size))) (xs.drop (k * size)) := by
  intro hn
  have hne : xs ≠ [] := by rintro rfl; simp at hn
  obtain ⟨b, o, e, hf, hb, hcell⟩ := h hne
  have hlt : k * size < xs.length := by
    rcases Nat.lt_or_ge (k * size) xs.length with h1 | h1
    · exact h1
    · exact absurd (List.drop_eq_nil_of_le h1) hn
  have hkn : k < n := by
    rcases Nat.lt_or_ge k n with h1 | h1
    · exact h1
    · have : k = n := Nat.le_antisymm hk h1
      subst this
      omega
  rw [if_neg (by omega), e]
  refine ⟨b, o + k * size, ?_, hf, hb, fun j u hu => ?_⟩
  · simp only [Option.map_some, Addr.add]
    split
    · rename_i h0; rw [h0]; rfl
    · rfl
  · rw [show o + k * size + j = o + (k * size + j) from by omega]
    exact hcell _ u (by rw [← hu, List.getElem?_drop])
theorem Reads.take_ (h : Reads F w A xs) (k : Nat) : Reads F w A (xs.take k) := by
  intro hn
  have hne : xs ≠ [] := by rintro rfl; simp at hn
  obtain ⟨b, o, e, hf, hb, hcell⟩ := h hne
  refine ⟨b, o, e, hf, hb, fun j u hu => hcell j u ?_⟩
  rw [List.getElem?_take] at hu
  split at hu
  · exact hu
  · cases hu
theorem Reads.of_own {base : Nat} {e : TypeId} {size n c : Nat} (h : w.ownsRow base e size (.slice A n c) n xs) : Reads (base ≤ ·) w A xs := by
  intro hn
  rcases h.2 with ⟨hv, h0⟩ | ⟨g, cap, cur, hv, hg, hh, hnc, hcm, hcs, htake⟩
  · have := h.1
    rw [h0] at this
    simp at this
    exact absurd this hn
  · have hA : A = some ⟨g, 0, none⟩ := by injection hv
    have hlt : g < w.heap.size := (Array.getElem?_eq_some_iff.1 hh).1
    refine ⟨g, 0, hA, hg, hlt, fun j u hu => ?_⟩
    have := h.cells (g := g) (by simp [Value.ownBlock, hA]) j u hu
    rw [show (⟨g, 0 + j, none⟩ : Addr) = (⟨g, 0, none⟩ : Addr).add j from by unfold Addr.add; split <;> simp_all]
    exact this
end

theorem cells_length (rs : List Rule) : (rs.flatMap Rule.cells).length = rs.length * 5 := by
  induction rs with
  | nil => rfl
  | cons r rs ih => simp [Rule.cells, ih]; omega
theorem cells_at (rs : List Rule) (k : Nat) (hk : k < rs.length) (j : Nat) (hj : j < 5) : (rs.flatMap Rule.cells)[k * 5 + j]? = rs[k].cells[j]? := by
  induction rs generalizing k with
  | nil => simp at hk
  | cons r rs ih =>
    cases k with
    | zero =>
      simp only [List.flatMap_cons, Nat.zero_mul, Nat.zero_add, List.getElem_cons_zero]
      rw [List.getElem?_append_left (by simp [Rule.cells]; omega)]
    | succ k =>
      simp only [List.flatMap_cons, List.getElem_cons_succ]
      rw [List.getElem?_append_right (by simp [Rule.cells]; omega)]
      rw [show (k + 1) * 5 + j - r.cells.length = k * 5 + j from by simp [Rule.cells]; omega]
      exact ih k (by simpa using hk)

/-- A slice of rules. -/
def RulesAt (F : Nat → Prop) (w : World) (A : Option Addr) (rs : List Rule) : Prop := Reads F w A (rs.flatMap Rule.cells)
theorem RulesAt.at_ {F : Nat → Prop} {w : World} {A : Option Addr} {rs : List Rule} (h : RulesAt F w A rs) {k : Nat} (hk : k < rs.length) :
    ∃ b o, A = some ⟨b, o, none⟩ ∧ F b ∧ b < w.heap.size ∧ w.cell? ⟨b, o + k * 5, none⟩ = some (.int .i64 rs[k].frm) ∧ w.cell? ⟨b, o + k * 5 + 1, none⟩ = some (.int .i64 rs[k].dst) ∧
      w.cell? ⟨b, o + k * 5 + 2, none⟩ = some (.string rs[k].inp) ∧ w.cell? ⟨b, o + k * 5 + 3, none⟩ = some (.string rs[k].out) ∧ w.cell? ⟨b, o + k * 5 + 4, none⟩ = some (.int .i64 rs[k].cost) := by
  have hl := cells_length rs
  obtain ⟨b, o, e, hf, hb, hc⟩ := h (by intro h0; rw [h0] at hl; simp at hl; omega)
  have hat := fun j hj => cells_at rs k hk j hj
  refine ⟨b, o, e, hf, hb, ?_, ?_, ?_, ?_, ?_⟩
  · exact hc (k * 5 + 0) _ (by rw [hat 0 (by omega)]; rfl)
  · rw [Nat.add_assoc]; exact hc (k * 5 + 1) _ (by rw [hat 1 (by omega)]; rfl)
  · rw [Nat.add_assoc]; exact hc (k * 5 + 2) _ (by rw [hat 2 (by omega)]; rfl)
  · rw [Nat.add_assoc]; exact hc (k * 5 + 3) _ (by rw [hat 3 (by omega)]; rfl)
  · rw [Nat.add_assoc]; exact hc (k * 5 + 4) _ (by rw [hat 4 (by omega)]; rfl)

/-- A slice of plain elements of one cell each. -/
def SlAt {T : Type} (f : T → Value) (F : Nat → Prop) (w : World) (A : Option Addr) (l : List T) : Prop := Reads F w A (l.map f)
theorem SlAt.at_ {T : Type} {f : T → Value} {F : Nat → Prop} {w : World} {A : Option Addr} {l : List T} (h : SlAt f F w A l) {k : Nat} (hk : k < l.length) :
    ∃ b o, A = some ⟨b, o, none⟩ ∧ F b ∧ b < w.heap.size ∧ w.cell? ⟨b, o + k, none⟩ = some (f l[k]) := by
  obtain ⟨b, o, e, hf, hb, hc⟩ := h (by intro h0; have := congrArg List.length h0; simp at this; simp [this] at hk)
  exact ⟨b, o, e, hf, hb, hc k _ (by simp [hk])⟩
theorem SlAt.below {T : Type} {f : T → Value} {F : Nat → Prop} {w w' : World} {A : Option Addr} {l : List T} (h : SlAt f F w A l) (hb : Below w.heap.size w w') : SlAt f F w' A l := Reads.below h hb
theorem RulesAt.below {F : Nat → Prop} {w w' : World} {A : Option Addr} {rs : List Rule} (h : RulesAt F w A rs) (hb : Below w.heap.size w w') : RulesAt F w' A rs := Reads.below h hb
abbrev vI (n : Int) : Value := .int .i64 n
abbrev vN (n : Nat) : Value := .int .i64 (n : Int)
abbrev vB (b : Bool) : Value := .bool b
abbrev v8 (n : Nat) : Value := .int .u8 (n : Int)

/-- The walk goes on from a world of which only Φ is known. -/
theorem world_gen {motive : World → Prop} {F : World} (Φ : World → Prop) (h : Φ F) (k : ∀ W, Φ W → motive W) : motive F := k F h
theorem Reads.block {w : World} {g : Nat} {C : Array Value} {e : TypeId} {fr : Nat × Nat} {F : Nat → Prop} (h : w.heap[g]? = some (.cells C e fr)) (hF : F g) : Reads F w (some ⟨g, 0, none⟩) C.toList := by
  intro _
  refine ⟨g, 0, rfl, hF, (Array.getElem?_eq_some_iff.1 h).1, fun j u hu => ?_⟩
  rw [cell_of_row _ _ _ _ _ _ h]
  simpa using hu

/-- Block b is just the cells cs, none frozen. -/
def Blk (w : World) (b : Nat) (e : TypeId) (cs : Array Value) : Prop := w.heap[b]? = some (.cells cs e (0, 0))
section
variable {w w' : World} {b : Nat} {e : TypeId} {cs : Array Value}
theorem Blk.lt (h : Blk w b e cs) : b < w.heap.size := (Array.getElem?_eq_some_iff.1 h).1
theorem Blk.cell (h : Blk w b e cs) : ∀ i, w.cell? ⟨b, i, none⟩ = cs[i]? := fun i => cell_of_row w b i cs e (0, 0) h
theorem Blk.free (h : Blk w b e cs) : ∀ i, w.frozen? ⟨b, i, none⟩ = false := fun i => by unfold Blk at h; simp [World.frozen?, h]
theorem Blk.new (w : World) (e : TypeId) (cs : Array Value) : Blk (w.alloc (.cells cs e)) w.heap.size e cs := heap_alloc_new w _
theorem Blk.alloc (h : Blk w b e cs) (o : Obj) : Blk (w.alloc o) b e cs := (Below.heap_alloc w o b h.lt).trans h
theorem Blk.drew (h : Blk w b e cs) : Blk w.drew b e cs := h
theorem Blk.drewN (h : Blk w b e cs) (n : Nat) : Blk (w.drewN n) b e cs := h
theorem Blk.set (h : Blk w b e cs) (i : Nat) (u : Value) : Blk (w.setCell ⟨b, i, none⟩ u) b e (cs.setIfInBounds i u) := by
  unfold Blk at h ⊢
  simp [World.setCell, Array.getElem?_modify, h]
theorem Blk.far (h : Blk w b e cs) {p : Addr} (hp : b ≠ p.block) (u : Value) : Blk (w.setCell p u) b e cs := (Below.heap_setCell w p u b hp).trans h
theorem Blk.below {B : Nat} (h : Blk w b e cs) (hb : Below B w w') (hg : b < B) : Blk w' b e cs := (hb.block b hg).trans h
theorem Blk.next (h : Blk w b e cs) (hb : Below w.heap.size w w') : Blk w' b e cs := h.below hb h.lt
theorem Blk.grown {row : Option Nat} (h : Blk w b e cs) (hb : w.grownBy w' row) (hg : some b ≠ row) : Blk w' b e cs := (hb.block b h.lt hg).trans h
end
end Go.Proofs.Ythcnnadggffjhaa
namespace Go.Proofs.Ythcnnadggffjhaa
open Go.RowKit

@[go_sem] theorem tmod_nat (a : Nat) (m : Int) : (a : Int).tmod m = (a : Int) % m := Int.tmod_eq_emod_of_nonneg (Int.natCast_nonneg a)
@[go_sem] theorem tdiv_nat (a : Nat) (m : Int) : (a : Int).tdiv m = (a : Int) / m := Int.tdiv_eq_ediv_of_nonneg (Int.natCast_nonneg a)

@[go_sem] theorem u8_wrap1 : IntKind.u8.wrap 1 = 1 := by decide
@[go_sem] theorem u8_wrap2 : IntKind.u8.wrap 2 = 2 := by decide
@[go_sem] theorem u8_wrap3 : IntKind.u8.wrap 3 = 3 := by decide
@[go_sem] theorem u8_wrap4 : IntKind.u8.wrap 4 = 4 := by decide
@[go_sem] theorem u8_wrap5 : IntKind.u8.wrap 5 = 5 := by decide
@[go_sem] theorem u8_wrap6 : IntKind.u8.wrap 6 = 6 := by decide
@[go_sem] theorem cut_abc0 : (⟨#[97, 98, 99]⟩ : ByteArray).extract 0 1 = ⟨#[97]⟩ := by decide
@[go_sem] theorem cut_abc1 : (⟨#[97, 98, 99]⟩ : ByteArray).extract 1 2 = ⟨#[98]⟩ := by decide
@[go_sem] theorem cut_abc2 : (⟨#[97, 98, 99]⟩ : ByteArray).extract 2 3 = ⟨#[99]⟩ := by decide
@[go_sem] theorem cut_six0 : (⟨#[97, 98, 99, 65, 66, 49]⟩ : ByteArray).extract 0 1 = ⟨#[97]⟩ := by decide
@[go_sem] theorem cut_six1 : (⟨#[97, 98, 99, 65, 66, 49]⟩ : ByteArray).extract 1 2 = ⟨#[98]⟩ := by decide
@[go_sem] theorem cut_six2 : (⟨#[97, 98, 99, 65, 66, 49]⟩ : ByteArray).extract 2 3 = ⟨#[99]⟩ := by decide
@[go_sem] theorem cut_six3 : (⟨#[97, 98, 99, 65, 66, 49]⟩ : ByteArray).extract 3 4 = ⟨#[65]⟩ := by decide
@[go_sem] theorem cut_six4 : (⟨#[97, 98, 99, 65, 66, 49]⟩ : ByteArray).extract 4 5 = ⟨#[66]⟩ := by decide
@[go_sem] theorem cut_six5 : (⟨#[97, 98, 99, 65, 66, 49]⟩ : ByteArray).extract 5 6 = ⟨#[49]⟩ := by decide

section
variable {P : Program} {ops : Array Oper} {o : Oper} {a : Act} {w : World} {K : Act → World → Prop} {Q : Exit → Act → World → Prop} {E : Prop}

theorem run_store_one (t : TypeId) (p : Addr) (u : Value) (hsz : ∀ w, (sizeOf t).run P w = .ok 1 w) (hu : u.cells = #[u]) (h1 : u.oneCell' = true) (hc : (w.cell? p).isSome = true) (hf : w.frozen? p = false) :
    (Instr.storeAt t (.pointer (some p)) u).run P w = .ok () (w.setCell p u) := by
  obtain ⟨x, hx⟩ := Option.isSome_iff_exists.1 hc
  have hst : ∀ m, (store p u m).run P w = .ok () (w.setCell p u) := by
    intro m
    rw [run_store P w p u m h1]
    simp [stored, hx, hf]
  simp [Instr.storeAt, Instr.sureAddr, storeVar, hsz, hu, storeCells, Addr.add, hst]

theorem step_store_one (hg : o.guard = none) (t : TypeId) (ad v : Operand) (ho : o.op = .store t ad v) (hsz : ∀ w, (sizeOf t).run P w = .ok 1 w) (p : Addr) (hp : a.eval ad = .pointer (some p))
    (u : Value) (hv : a.eval v = u) (hu : u.cells = #[u]) (h1 : u.oneCell' = true) (hc : (w.cell? p).isSome = true) (hf : w.frozen? p = false) (hK : K (a.put o.dst undef) (w.setCell p u)) :
    if Region.wanted o (yielded ops a.tmps) = true then Oper.wp P o a w K Q else E := by
  have hw : Region.wanted o (yielded ops a.tmps) = true := by simp [Region.wanted, hg]
  rw [if_pos hw]
  unfold Oper.wp
  simp [execOp, ho, hp, hv, run_store_one t p u hsz hu h1 hc hf, Result.andThen]
  exact hK
end
end Go.Proofs.Ythcnnadggffjhaa
namespace Go.Proofs.Ythcnnadggffjhaa
open Go.RowKit

/-- The slice value (A, n, c) holds the cells xs; it may be appended to: its row is the call's own (from block base on), or it is full. -/
def Acc (base : Nat) (w : World) (e : TypeId) (size : Nat) (A : Option Addr) (n c : Nat) (xs : List Value) : Prop :=
  w.ownsRow base e size (.slice A n c) n xs ∨ (c = n ∧ xs.length = n * size ∧ (A = none → n = 0) ∧ Reads (base ≤ ·) w A xs)

/-- The one row that append may have written: of elements of type e, from block base on. -/
def RowOk (base : Nat) (w : World) (e : TypeId) (row : Option Nat) : Prop := ∀ k, row = some k → base ≤ k ∧ ∃ cur, w.heap[k]? = some (.cells cur e (0, 0))

section
variable {base B n c : Nat} {w w' : World} {e : TypeId} {size : Nat} {A : Option Addr} {xs : List Value} {row : Option Nat}
theorem Acc.length (h : Acc base w e size A n c xs) : xs.length = n * size := by
  rcases h with h | h
  · exact h.1
  · exact h.2.1
theorem Acc.nil (base : Nat) (w : World) (e : TypeId) (size : Nat) : Acc base w e size none 0 0 [] := .inl (World.ownsRow_nil w base e size)
theorem Acc.reads (h : Acc base w e size A n c xs) : Reads (base ≤ ·) w A xs := by
  rcases h with h | h
  · exact Reads.of_own h
  · exact h.2.2.2
/-- nothing that was there has turned -/
theorem Acc.below (h : Acc base w e size A n c xs) (hb : Below w.heap.size w w') : Acc base w' e size A n c xs := by
  rcases h with h | ⟨h1, h2, h3, h4⟩
  · refine .inl (h.kept (row := none) ⟨hb.os, hb.tape, hb.output, hb.size, fun k hk _ => hb.block k hk⟩ ?_)
    cases hv : (Value.slice A n c).ownBlock <;> simp
  · exact .inr ⟨h1, h2, h3, h4.below hb⟩
theorem Acc.le_ (h : Acc base w e size A n c xs) : n ≤ c := by
  rcases h with h | h
  · rcases h.2 with ⟨hv, h0⟩ | ⟨g, cap, cur, hv, hg, hh, hnc, _⟩
    · omega
    · injection hv; omega
  · omega
/-- a store below the base -/
theorem Acc.low {p : Addr} (h : Acc base w e size A n c xs) (hp : p.block < base) (u : Value) : Acc base (w.setCell p u) e size A n c xs := by
  rcases h with h | ⟨h1, h2, h3, h4⟩
  · exact .inl (ownsRow_setCell_below h hp u)
  · refine .inr ⟨h1, h2, h3, fun hn => ?_⟩
    obtain ⟨b, o, e1, e2, e3, e4⟩ := h4 hn
    exact ⟨b, o, e1, e2, by simpa [World.setCell] using e3, fun j u hu => (World.cell?_of_block (Below.heap_setCell _ _ _ _ (show b ≠ p.block by omega))).trans (e4 j u hu)⟩
theorem Acc.mono {base' : Nat} (h : Acc base w e size A n c xs) (hb : base' ≤ base) : Acc base' w e size A n c xs := by
  rcases h with h | ⟨h1, h2, h3, h4⟩
  · exact .inl (h.mono hb)
  · exact .inr ⟨h1, h2, h3, h4.mono fun b h => Nat.le_trans hb h⟩
/-- a store into a block of another element type -/
theorem Acc.far {p : Addr} {t : TypeId} {cs : Array Value} (h : w.ownsRow base e size (.slice A n c) n xs) (hp : Blk w p.block t cs) (hne : t ≠ e) (u : Value) : (w.setCell p u).ownsRow base e size (.slice A n c) n xs := by
  refine ⟨h.1, ?_⟩
  rcases h.2 with hn | ⟨g, cap, cur, hv, hg, hh, r⟩
  · exact .inl hn
  · refine .inr ⟨g, cap, cur, hv, hg, ?_, r⟩
    rw [Below.heap_setCell _ _ _ _ ?_]
    · exact hh
    · rintro rfl
      unfold Blk at hp
      rw [hh] at hp
      injection hp with hp
      injection hp with _ ht
      exact hne ht.symm
theorem Blk.rowOk {b : Nat} {t : TypeId} {cs : Array Value} (h : Blk w b t cs) (hg : w.grownBy w' row) (hr : RowOk base w e row) (hne : t ≠ e) : Blk w' b t cs := by
  refine h.grown hg fun hb => ?_
  obtain ⟨_, cur, hc⟩ := hr b hb.symm
  unfold Blk at h
  rw [h] at hc
  injection hc with hc
  injection hc with _ ht
  exact hne ht
theorem below_rowOk {a : World} (h : Below B a w) (hg : w.grownBy w' row) (hr : RowOk base w e row) (hB : B ≤ base) (hs : B ≤ w.heap.size) : Below B a w' :=
  h.grown hg hs fun k hk => Nat.le_trans hB (hr k hk).1
/-- what lies in other blocks than the row reads as before -/
theorem Reads.rowOk {F : Nat → Prop} {A' : Option Addr} {ys : List Value} (h : Reads F w A' ys) (hg : w.grownBy w' row) (hr : RowOk base w e row) (hF : ∀ b, F b → b < base) : Reads F w' A' ys := by
  refine h.keep hg.size fun b hb hl => hg.block b hl fun hk => ?_
  have h1 := hF b hb
  have h2 := (hr b hk.symm).1
  omega
end

section
variable {P : Program} (w : World)
theorem run_append_acc (base : Nat) (t ty e : TypeId) (i : TypeInfo) (z : Value) (size bytes : Nat) (ht : P.underlying t = some (.slice e)) (hi : P.info? e = some i) (hz : i.zero = some z)
    (hsize : i.size = size) (hby : i.bytes = bytes) (hzs : z.cells.size = size) (hsz : 0 < size)
    (A : Option Addr) (n c : Nat) (xs : List Value) (hacc : Acc base w e size A n c xs)
    (b : Nat) (t2 : TypeId) (fr : Nat × Nat) (m c2 : Nat) (news : Array Value) (hl : news.size = m * size) (hblk : w.heap[b]? = some (.cells news t2 fr)) (h1 : ∀ u ∈ news.toList, u.oneCell' = true)
    (hm : 0 < m) (h63 : n + m ≤ maxLen) (hbytes : (n + m) * bytes ≤ 140737488355328) (hbase : base ≤ w.heap.size) :
    ∃ g cap w' row, (Builtin.append_ #[t, t] ty #[.slice A n c, .slice (some ⟨b, 0, none⟩) m c2]).run P w = .ok (.slice (some ⟨g, 0, none⟩) (n + m) cap) w' ∧
      w'.ownsRow base e size (.slice (some ⟨g, 0, none⟩) (n + m) cap) (n + m) (xs ++ news.toList) ∧ w.grownBy w' row ∧ RowOk base w e row ∧ (row = some g ∨ w.heap.size ≤ g) ∧ g < w'.heap.size := by
  have hnews : ∀ j u, news.toList[j]? = some u → w.cell? ((⟨b, 0, none⟩ : Addr).add j) = some u := by
    intro j u hu
    rw [show (⟨b, 0, none⟩ : Addr).add j = ⟨b, j, none⟩ from by unfold Addr.add; split <;> simp_all]
    rw [cell_of_row _ _ _ _ _ _ hblk]
    simpa using hu
  have hll : news.toList.length = m * size := by simpa using hl
  rcases hacc with h | ⟨h1', h2, h3, h4⟩
  · obtain ⟨v', w', hr, ho, hg, _, h5⟩ := run_append_own_at (P := P) w base t ty e i z size bytes ht hi hz hsize hby hzs hsz _ n xs h ⟨b, 0, none⟩ m c2 news.toList hll hnews h1 h63 hbytes hbase
    obtain ⟨g, cap, rfl, _⟩ := ho.form (by omega)
    have hlt : g < w'.heap.size := (ho.lt g (by simp [Value.ownBlock])).2
    refine ⟨g, cap, w', _, hr, ho, hg, ?_, ?_, hlt⟩
    · intro k hk
      rcases h.2 with ⟨hv, _⟩ | ⟨g', cap', cur, hv, hb', hh, _⟩
      · rw [hv] at hk; simp [Value.ownBlock] at hk
      · rw [hv] at hk
        have : k = g' := by simpa [Value.ownBlock] using hk.symm
        subst this
        exact ⟨hb', cur, hh⟩
    · rcases h5 with h5 | h5
      · left; rw [← h5]; simp [Value.ownBlock]
      · right
        have : g = w.heap.size := by simpa [Value.ownBlock] using h5
        omega
  · subst h1'
    cases A with
    | none =>
      obtain rfl : c = 0 := h3 rfl
      obtain rfl : xs = [] := List.eq_nil_of_length_eq_zero (by simpa using h2)
      obtain ⟨v', w', hr, ho, hg, _, h5⟩ := run_append_own_at (P := P) w base t ty e i z size bytes ht hi hz hsize hby hzs hsz _ 0 [] (World.ownsRow_nil w base e size) ⟨b, 0, none⟩ m c2 news.toList hll hnews h1 h63 hbytes hbase
      obtain ⟨g, cap, rfl, _⟩ := ho.form (by omega)
      have hlt : g < w'.heap.size := (ho.lt g (by simp [Value.ownBlock])).2
      refine ⟨g, cap, w', none, hr, ho, hg, fun k hk => by simp at hk, ?_, hlt⟩
      rcases h5 with h5 | h5
      · simp [Value.ownBlock] at h5
      · right
        have : g = w.heap.size := by simpa [Value.ownBlock] using h5
        omega
    | some ad =>
      have hcells : ∀ j u, xs[j]? = some u → w.cell? (ad.add j) = some u := by
        intro j u hu
        obtain ⟨b', o, hA, _, _, hc⟩ := h4 (by rintro rfl; simp at hu)
        injection hA with hA
        subst hA
        rw [show (⟨b', o, none⟩ : Addr).add j = ⟨b', o + j, none⟩ from by unfold Addr.add; split <;> simp_all]
        exact hc j u hu
      obtain ⟨v', w', hr, ho, hg⟩ := run_append_arg_grows (P := P) w t ty e i z size bytes ht hi hz hsize hby hzs hsz ad c c xs h2 hcells ⟨b, 0, none⟩ m c2 news.toList hll hnews (by omega) h63 hbytes
      obtain ⟨g, cap, rfl, _⟩ := ho.form (by omega)
      have hlt := ho.lt g (by simp [Value.ownBlock])
      exact ⟨g, cap, w', none, hr, ho.mono hbase, hg, fun k hk => by simp at hk, .inr hlt.1, hlt.2⟩

theorem wp_append_acc {o : Oper} {a : Act} {K : Act → World → Prop} {Q : Exit → Act → World → Prop} (s x : Operand) (t : TypeId)
    (ho : o.op = .call { callee := .builtin .append, args := #[s, x], argTypes := #[t, t] })
    (base : Nat) (e : TypeId) (i : TypeInfo) (z : Value) (size bytes : Nat) (ht : P.underlying t = some (.slice e)) (hi : P.info? e = some i) (hz : i.zero = some z)
    (hsize : i.size = size) (hby : i.bytes = bytes) (hzs : z.cells.size = size) (hsz : 0 < size)
    (A : Option Addr) (n c : Nat) (xs : List Value) (hs : a.eval s = .slice A n c) (hacc : Acc base w e size A n c xs)
    (b : Nat) (t2 : TypeId) (fr : Nat × Nat) (m c2 : Nat) (news : Array Value) (hx : a.eval x = .slice (some ⟨b, 0, none⟩) m c2) (hl : news.size = m * size) (hblk : w.heap[b]? = some (.cells news t2 fr)) (h1 : ∀ u ∈ news.toList, u.oneCell' = true)
    (hm : 0 < m) (h63 : n + m ≤ maxLen) (hbytes : (n + m) * bytes ≤ 140737488355328) (hbase : base ≤ w.heap.size)
    (h : ∀ g cap w' row, w'.ownsRow base e size (.slice (some ⟨g, 0, none⟩) (n + m) cap) (n + m) (xs ++ news.toList) → w.grownBy w' row → RowOk base w e row → (row = some g ∨ w.heap.size ≤ g) → g < w'.heap.size → K (a.put o.dst (.slice (some ⟨g, 0, none⟩) (n + m) cap)) w') : o.wp P a w K Q := by
  obtain ⟨g, cap, w', row, hr, h2, h3, h4, h5, h6⟩ := run_append_acc (P := P) w base t o.type e i z size bytes ht hi hz hsize hby hzs hsz A n c xs hacc b t2 fr m c2 news hl hblk h1 hm h63 hbytes hbase
  unfold Oper.wp execOp
  simp only [ho, resolve, invoke, builtin, Sem.run_bind, Sem.run_pure, Result.andThen_ok, List.map_toArray, List.map_cons, List.map_nil, hs, hx, hr]
  exact h g cap w' row h2 h3 h4 h5 h6

theorem wpList_append_acc {ops : Array Oper} {rest : List Oper} {o : Oper} {a : Act} {Q : Exit → Act → World → Prop} (hgd : o.guard = none) (s x : Operand) (t : TypeId)
    (ho : o.op = .call { callee := .builtin .append, args := #[s, x], argTypes := #[t, t] })
    (base : Nat) (e : TypeId) (i : TypeInfo) (z : Value) (size bytes : Nat) (ht : P.underlying t = some (.slice e)) (hi : P.info? e = some i) (hz : i.zero = some z)
    (hsize : i.size = size) (hby : i.bytes = bytes) (hzs : z.cells.size = size) (hsz : 0 < size)
    (A : Option Addr) (n c : Nat) (xs : List Value) (hs : a.eval s = .slice A n c) (hacc : Acc base w e size A n c xs)
    (b : Nat) (t2 : TypeId) (fr : Nat × Nat) (m c2 : Nat) (news : Array Value) (hx : a.eval x = .slice (some ⟨b, 0, none⟩) m c2) (hl : news.size = m * size) (hblk : w.heap[b]? = some (.cells news t2 fr)) (h1 : ∀ u ∈ news.toList, u.oneCell' = true)
    (hm : 0 < m) (h63 : n + m ≤ maxLen) (hbytes : (n + m) * bytes ≤ 140737488355328) (hbase : base ≤ w.heap.size)
    (h : ∀ g cap w' row, w'.ownsRow base e size (.slice (some ⟨g, 0, none⟩) (n + m) cap) (n + m) (xs ++ news.toList) → w.grownBy w' row → RowOk base w e row → (row = some g ∨ w.heap.size ≤ g) → g < w'.heap.size → wpList P ops Q rest (a.put o.dst (.slice (some ⟨g, 0, none⟩) (n + m) cap)) w') : wpList P ops Q (o :: rest) a w :=
  wpList_plain hgd fun _ hK => wp_append_acc w s x t ho base e i z size bytes ht hi hz hsize hby hzs hsz A n c xs hs hacc b t2 fr m c2 news hx hl hblk h1 hm h63 hbytes hbase fun g cap w' row h2 h3 h4 h5 h6 => hK _ _ (h g cap w' row h2 h3 h4 h5 h6)

theorem step_append_acc {ops : Array Oper} {o : Oper} {a : Act} {K : Act → World → Prop} {Q : Exit → Act → World → Prop} {E : Prop} (hgd : o.guard = none) (s x : Operand) (t : TypeId)
    (ho : o.op = .call { callee := .builtin .append, args := #[s, x], argTypes := #[t, t] })
    (base : Nat) (e : TypeId) (i : TypeInfo) (z : Value) (size bytes : Nat) (ht : P.underlying t = some (.slice e)) (hi : P.info? e = some i) (hz : i.zero = some z)
    (hsize : i.size = size) (hby : i.bytes = bytes) (hzs : z.cells.size = size) (hsz : 0 < size)
    (A : Option Addr) (n c : Nat) (xs : List Value) (hs : a.eval s = .slice A n c) (hacc : Acc base w e size A n c xs)
    (b : Nat) (t2 : TypeId) (fr : Nat × Nat) (m c2 : Nat) (news : Array Value) (hx : a.eval x = .slice (some ⟨b, 0, none⟩) m c2) (hl : news.size = m * size) (hblk : w.heap[b]? = some (.cells news t2 fr)) (h1 : ∀ u ∈ news.toList, u.oneCell' = true)
    (hm : 0 < m) (h63 : n + m ≤ maxLen) (hbytes : (n + m) * bytes ≤ 140737488355328) (hbase : base ≤ w.heap.size)
    (h : ∀ g cap w' row, w'.ownsRow base e size (.slice (some ⟨g, 0, none⟩) (n + m) cap) (n + m) (xs ++ news.toList) → w.grownBy w' row → RowOk base w e row → (row = some g ∨ w.heap.size ≤ g) → g < w'.heap.size → K (a.put o.dst (.slice (some ⟨g, 0, none⟩) (n + m) cap)) w') :
    if Region.wanted o (yielded ops a.tmps) = true then Oper.wp P o a w K Q else E := by
  have hw : Region.wanted o (yielded ops a.tmps) = true := by simp [Region.wanted, hgd]
  rw [if_pos hw]
  exact wp_append_acc w s x t ho base e i z size bytes ht hi hz hsize hby hzs hsz A n c xs hs hacc b t2 fr m c2 news hx hl hblk h1 hm h63 hbytes hbase h
end
end Go.Proofs.Ythcnnadggffjhaa
namespace Go.Proofs.Ythcnnadggffjhaa
open Go.RowKit

section
variable {P : Program} (w : World)
theorem run_append_nothing (t ty e : TypeId) (i : TypeInfo) (ht : P.underlying t = some (.slice e)) (hi : P.info? e = some i) (hsz : i.size = 1) (blk c : Nat) (x : Value) (hblk : Blk w blk e #[x]) :
    (Builtin.append_ #[t, t] ty #[.slice (some ⟨blk, 0, none⟩) 1 1, .slice none 0 c]).run P w = .ok (.slice (some ⟨blk, 0, none⟩) 1 1) w := by
  simp [Builtin.append_, run_underlying ht, sizeOf, typeInfo, hi, Builtin.lenOf, Builtin.firstCells, storeCells]
/-- what becomes of it: the new slice shows x and xs, and nothing that was there but the block itself has turned -/
theorem run_append_one (t ty e : TypeId) (i : TypeInfo) (z : Value) (bytes : Nat) (ht : P.underlying t = some (.slice e)) (hi : P.info? e = some i) (hz : i.zero = some z) (hsize : i.size = 1) (hby : i.bytes = bytes) (hzs : z.cells.size = 1)
    (blk : Nat) (x : Value) (hblk : Blk w blk e #[x]) (F : Nat → Prop) (A : Option Addr) (c : Nat) (xs : List Value) (hA : Reads F w A xs) (h1 : ∀ u ∈ xs, u.oneCell' = true) (h63 : 1 + xs.length ≤ maxLen) (hbytes : (1 + xs.length) * bytes ≤ 140737488355328) :
    ∃ g cap w', (Builtin.append_ #[t, t] ty #[.slice (some ⟨blk, 0, none⟩) 1 1, .slice A xs.length c]).run P w = .ok (.slice (some ⟨g, 0, none⟩) (1 + xs.length) cap) w' ∧ 1 + xs.length ≤ cap ∧ Reads (blk ≤ ·) w' (some ⟨g, 0, none⟩) (x :: xs) ∧ w.grownBy w' (some blk) := by
  have hown : w.ownsRow blk e 1 (.slice (some ⟨blk, 0, none⟩) 1 1) 1 [x] := ⟨rfl, .inr ⟨blk, 1, #[x], rfl, Nat.le_refl _, hblk, Nat.le_refl _, by unfold maxLen; omega, rfl, rfl⟩⟩
  have key : ∀ (ad : Addr) (ys : List Value), (∀ j u, ys[j]? = some u → w.cell? (ad.add j) = some u) → (∀ u ∈ ys, u.oneCell' = true) → 1 + ys.length ≤ maxLen → (1 + ys.length) * bytes ≤ 140737488355328 →
      ∃ g cap w', (Builtin.append_ #[t, t] ty #[.slice (some ⟨blk, 0, none⟩) 1 1, .slice (some ad) ys.length c]).run P w = .ok (.slice (some ⟨g, 0, none⟩) (1 + ys.length) cap) w' ∧ 1 + ys.length ≤ cap ∧ Reads (blk ≤ ·) w' (some ⟨g, 0, none⟩) (x :: ys) ∧ w.grownBy w' (some blk) := by
    intro ad ys hc h1 h63 hbytes
    obtain ⟨v', w', hr, ho, hg, _, h5⟩ := run_append_own_at (P := P) w blk t ty e i z 1 bytes ht hi hz hsize hby hzs (by omega) _ 1 [x] hown ad ys.length c ys (by simp) hc h1 h63 hbytes (Nat.le_of_lt hblk.lt)
    obtain ⟨g, cap, rfl, _⟩ := ho.form (by omega)
    exact ⟨g, cap, w', hr, Acc.le_ (.inl ho), Reads.of_own ho, hg⟩
  cases xs with
  | nil =>
    cases A with
    | none => exact ⟨blk, 1, w, run_append_nothing w t ty e i ht hi hsize blk c x hblk, Nat.le_refl _, Reads.of_own hown, rfl, rfl, rfl, Nat.le_refl _, fun _ _ _ => rfl⟩
    | some ad => exact key ad [] (fun j u hu => by simp at hu) h1 h63 hbytes
  | cons y ys =>
    obtain ⟨b, o, rfl, _, hlt, hc⟩ := hA (by simp)
    exact key _ (y :: ys) (fun j u hu => by
      rw [show (⟨b, o, none⟩ : Addr).add j = ⟨b, o + j, none⟩ from by unfold Addr.add; split <;> simp_all]
      exact hc j u hu) h1 h63 hbytes
theorem step_append_one {ops : Array Oper} {o : Oper} {a : Act} {K : Act → World → Prop} {Q : Exit → Act → World → Prop} {E : Prop} (hgd : o.guard = none) (s y : Operand) (t : TypeId)
    (ho : o.op = .call { callee := .builtin .append, args := #[s, y], argTypes := #[t, t] })
    (e : TypeId) (i : TypeInfo) (z : Value) (bytes : Nat) (ht : P.underlying t = some (.slice e)) (hi : P.info? e = some i) (hz : i.zero = some z) (hsize : i.size = 1) (hby : i.bytes = bytes) (hzs : z.cells.size = 1)
    (blk : Nat) (x : Value) (hs : a.eval s = .slice (some ⟨blk, 0, none⟩) 1 1) (hblk : Blk w blk e #[x]) (F : Nat → Prop) (A : Option Addr) (c : Nat) (xs : List Value) (hy : a.eval y = .slice A xs.length c) (hA : Reads F w A xs) (h1 : ∀ u ∈ xs, u.oneCell' = true) (h63 : 1 + xs.length ≤ maxLen)
    (hbytes : (1 + xs.length) * bytes ≤ 140737488355328)
    (h : ∀ g cap w', 1 + xs.length ≤ cap → Reads (blk ≤ ·) w' (some ⟨g, 0, none⟩) (x :: xs) → w.grownBy w' (some blk) → K (a.put o.dst (.slice (some ⟨g, 0, none⟩) (1 + xs.length) cap)) w') :
    if Region.wanted o (yielded ops a.tmps) = true then Oper.wp P o a w K Q else E := by
  have hw : Region.wanted o (yielded ops a.tmps) = true := by simp [Region.wanted, hgd]
  rw [if_pos hw]
  obtain ⟨g, cap, w', hr, h1c, h2, h3⟩ := run_append_one (P := P) w t o.type e i z bytes ht hi hz hsize hby hzs blk x hblk F A c xs hA h1 h63 hbytes
  unfold Oper.wp execOp
  simp only [ho, resolve, invoke, builtin, Sem.run_bind, Sem.run_pure, Result.andThen_ok, List.map_toArray, List.map_cons, List.map_nil, hs, hy, hr]
  exact h g cap w' h1c h2 h3
end
end Go.Proofs.Ythcnnadggffjhaa
namespace Go.Proofs.Ythcnnadggffjhaa
open Go.RowKit

theorem reads_new2 (w : World) (o : Obj) (C : Array Value) (e : TypeId) : Reads (w.heap.size ≤ ·) ((w.alloc o).alloc (.cells C e)) (some ⟨w.heap.size + 1, 0, none⟩) C.toList := by
  have hb := Blk.new (w.alloc o) e C
  rw [show (w.alloc o).heap.size = w.heap.size + 1 from (by simp)] at hb
  exact Reads.block hb (by omega)
theorem below_two (w : World) (o o' : Obj) : Below w.heap.size w ((w.alloc o).alloc o').drew := (((Below.refl _ _).alloc (Nat.le_refl _) _).alloc (by simp) _).drew
theorem below_one (w : World) (o : Obj) : Below w.heap.size w (w.alloc o) := (Below.refl _ _).alloc (Nat.le_refl _) _
theorem Blk.new2 (w : World) (o : Obj) (e : TypeId) (C : Array Value) : Blk ((w.alloc o).alloc (.cells C e)) (w.heap.size + 1) e C := by
  have hb := Blk.new (w.alloc o) e C
  rw [show (w.alloc o).heap.size = w.heap.size + 1 from (by simp)] at hb
  exact hb
theorem RulesAt.got {F : Nat → Prop} {w : World} {b o : Nat} {rs : List Rule} (h : RulesAt F w (some ⟨b, o, none⟩) rs) {k : Nat} {r : Rule} (hk : rs[k]? = some r) :
    F b ∧ b < w.heap.size ∧ w.cell? ⟨b, o + k * 5, none⟩ = some (.int .i64 r.frm) ∧ w.cell? ⟨b, o + k * 5 + 1, none⟩ = some (.int .i64 r.dst) ∧
      w.cell? ⟨b, o + k * 5 + 2, none⟩ = some (.string r.inp) ∧ w.cell? ⟨b, o + k * 5 + 3, none⟩ = some (.string r.out) ∧ w.cell? ⟨b, o + k * 5 + 4, none⟩ = some (.int .i64 r.cost) := by
  obtain ⟨hk1, rfl⟩ := List.getElem?_eq_some_iff.1 hk
  obtain ⟨b', o', e0, h1, h2, h3⟩ := h.at_ hk1
  injection e0 with e0
  injection e0 with e0 e1
  subst e0 e1
  exact ⟨h1, h2, h3⟩
theorem SlAt.got {T : Type} {f : T → Value} {F : Nat → Prop} {w : World} {b o : Nat} {l : List T} (h : SlAt f F w (some ⟨b, o, none⟩) l) {k : Nat} {x : T} (hk : l[k]? = some x) : F b ∧ b < w.heap.size ∧ w.cell? ⟨b, o + k, none⟩ = some (f x) := by
  obtain ⟨hk1, rfl⟩ := List.getElem?_eq_some_iff.1 hk
  obtain ⟨b', o', e0, h1, h2, h3⟩ := h.at_ hk1
  injection e0 with e0
  injection e0 with e0 e1
  subst e0 e1
  exact ⟨h1, h2, h3⟩
/-- a slice that is not empty lies somewhere -/
theorem Reads.some_ {F : Nat → Prop} {w : World} {A : Option Addr} {xs : List Value} (h : Reads F w A xs) (hn : 0 < xs.length) : ∃ b o, A = some ⟨b, o, none⟩ := by
  obtain ⟨b, o, e, _⟩ := h (by rintro rfl; simp at hn)
  exact ⟨b, o, e⟩
end Go.Proofs.Ythcnnadggffjhaa
namespace Go.Proofs.Ythcnnadggffjhaa
open Go.RowKit

theorem own_empty (w : World) (e : TypeId) (size base : Nat) (hb : base ≤ w.heap.size) : (w.alloc (.cells #[] e)).ownsRow base e size (.slice (some ⟨w.heap.size, 0, none⟩) 0 0) 0 [] :=
  ⟨by simp, .inr ⟨w.heap.size, 0, #[], rfl, hb, heap_alloc_new w _, Nat.le_refl _, Nat.zero_le _, by simp, by simp⟩⟩
theorem own_store {w : World} {base : Nat} {e : TypeId} {g m cap i : Nat} {xs : List Value} (h : w.ownsRow base e 1 (.slice (some ⟨g, 0, none⟩) m cap) m xs) (hi : i < m) (u : Value) :
    (∃ u0, w.cell? ⟨g, i, none⟩ = some u0) ∧ w.frozen? ⟨g, i, none⟩ = false ∧ g < w.heap.size ∧ base ≤ g ∧ Reads (base ≤ ·) (w.setCell ⟨g, i, none⟩ u) (some ⟨g, 0, none⟩) (xs.set i u) := by
  obtain ⟨hl, h⟩ := h
  rcases h with ⟨hv, _⟩ | ⟨g', cap', cur, hv, hb, hh, hnc, hcm, hcs, htake⟩
  · cases hv
  · injection hv with h1 h2 h3
    injection h1 with h1
    injection h1 with h1 _
    subst h1 h3
    have hB : Blk w g e cur := hh
    have hlt : g < w.heap.size := (Array.getElem?_eq_some_iff.1 hh).1
    have hic : i < cur.size := by omega
    refine ⟨⟨cur[i], by rw [hB.cell]; simp [hic]⟩, hB.free i, hlt, hb, fun _ => ⟨g, 0, rfl, hb, by simpa [World.setCell] using hlt, fun j x hx => ?_⟩⟩
    have hB2 := hB.set i u
    rw [Nat.zero_add, hB2.cell]
    rw [List.getElem?_set] at hx
    have hjm : j < m := by
      rcases Nat.lt_or_ge j m with h1 | h1
      · exact h1
      · exfalso
        split at hx
        · omega
        · rw [List.getElem?_eq_none (by omega)] at hx; cases hx
    split at hx
    · rename_i hij
      subst hij
      split at hx
      · injection hx with hx
        subst hx
        simp [Array.getElem?_setIfInBounds, hic]
      · cases hx
    · rename_i hij
      rw [Array.getElem?_setIfInBounds, if_neg hij]
      rw [← htake, List.getElem?_take, if_pos (by omega)] at hx
      simpa using hx
theorem add_cell {F : Nat → Prop} {w : World} {b o j : Nat} {xs : List Value} {u : Value} (h : Reads F w (some ⟨b, o, none⟩) xs) (hu : xs[j]? = some u) : w.cell? ((⟨b, o, none⟩ : Addr).add j) = some u := by
  obtain ⟨b', o', e0, _, _, hc⟩ := h (by rintro rfl; simp at hu)
  injection e0 with e0
  injection e0 with e0 e1
  subst e0 e1
  rw [show (⟨b, o, none⟩ : Addr).add j = ⟨b, o + j, none⟩ from by unfold Addr.add; split <;> simp_all]
  exact hc j u hu
theorem sl_set {F : Nat → Prop} {w : World} {A : Option Addr} {l : List Nat} {i : Nat} {x : Int} (h : Reads F w A ((l.map vN).set i (.int .i64 x))) : SlAt vI F w A ((l.map fun n : Nat => (n : Int)).set i x) := by
  unfold SlAt
  rw [List.map_set, List.map_map]
  exact h
end Go.Proofs.Ythcnnadggffjhaa
namespace Go.Proofs.Ythcnnadggffjhaa
open Go.RowKit

theorem Blk.new3 (w : World) (o o' : Obj) (e : TypeId) (C : Array Value) : Blk (((w.alloc o).alloc o').alloc (.cells C e)) (w.heap.size + 1 + 1) e C := by
  have hb := Blk.new ((w.alloc o).alloc o') e C
  rw [show ((w.alloc o).alloc o').heap.size = w.heap.size + 1 + 1 from (by simp)] at hb
  exact hb
section
variable {P : Program} (w : World)
theorem run_append_nil (t ty e : TypeId) (i : TypeInfo) (ht : P.underlying t = some (.slice e)) (hi : P.info? e = some i) (blk c : Nat) :
    (Builtin.append_ #[t, t] ty #[.slice (some ⟨blk, 0, none⟩) 0 0, .slice none 0 c]).run P w = .ok (.slice (some ⟨blk, 0, none⟩) 0 0) w := by
  simp [Builtin.append_, run_underlying ht, sizeOf, typeInfo, hi, Builtin.lenOf, Builtin.firstCells, storeCells]
theorem run_append_all (t ty e : TypeId) (i : TypeInfo) (z : Value) (size bytes : Nat) (ht : P.underlying t = some (.slice e)) (hi : P.info? e = some i) (hz : i.zero = some z) (hsize : i.size = size) (hby : i.bytes = bytes) (hzs : z.cells.size = size) (hsz : 0 < size)
    (blk : Nat) (hblk : Blk w blk e #[]) (F : Nat → Prop) (A : Option Addr) (n c : Nat) (xs : List Value) (hA : Reads F w A xs) (hl : xs.length = n * size) (h1 : ∀ u ∈ xs, u.oneCell' = true) (h63 : n ≤ maxLen) (hbytes : n * bytes ≤ 140737488355328) :
    ∃ g cap w', (Builtin.append_ #[t, t] ty #[.slice (some ⟨blk, 0, none⟩) 0 0, .slice A n c]).run P w = .ok (.slice (some ⟨g, 0, none⟩) n cap) w' ∧ w'.ownsRow blk e size (.slice (some ⟨g, 0, none⟩) n cap) n xs ∧ w.grownBy w' (some blk) := by
  have hown : w.ownsRow blk e size (.slice (some ⟨blk, 0, none⟩) 0 0) 0 [] := ⟨by simp, .inr ⟨blk, 0, #[], rfl, Nat.le_refl _, hblk, Nat.le_refl _, Nat.zero_le _, by simp, by simp⟩⟩
  have key : ∀ ad : Addr, A = some ad → (∀ j u, xs[j]? = some u → w.cell? (ad.add j) = some u) →
      ∃ g cap w', (Builtin.append_ #[t, t] ty #[.slice (some ⟨blk, 0, none⟩) 0 0, .slice A n c]).run P w = .ok (.slice (some ⟨g, 0, none⟩) n cap) w' ∧ w'.ownsRow blk e size (.slice (some ⟨g, 0, none⟩) n cap) n xs ∧ w.grownBy w' (some blk) := by
    rintro ad rfl hc
    obtain ⟨v', w', hr, ho, hg, hnil, _⟩ := run_append_own_at (P := P) w blk t ty e i z size bytes ht hi hz hsize hby hzs hsz _ 0 [] hown ad n c xs hl hc h1 (by rw [Nat.zero_add]; exact h63) (by rw [Nat.zero_add]; exact hbytes) (Nat.le_of_lt hblk.lt)
    rw [Nat.zero_add, List.nil_append] at ho
    rcases ho.2 with ⟨hv, _⟩ | ⟨g, cap, cur, hv, _⟩
    · exact absurd (hnil.1 hv).1 (by simp)
    · subst hv
      exact ⟨g, cap, w', hr, ho, hg⟩
  cases A with
  | some ad =>
    refine key ad rfl fun j u hu => ?_
    obtain ⟨b, o, e0, _, _, hc⟩ := hA (by rintro rfl; simp at hu)
    injection e0 with e0
    subst e0
    rw [show (⟨b, o, none⟩ : Addr).add j = ⟨b, o + j, none⟩ from by unfold Addr.add; split <;> simp_all]
    exact hc j u hu
  | none =>
    have hx : xs = [] := by
      cases xs with
      | nil => rfl
      | cons x xs => obtain ⟨b, o, e0, _⟩ := hA (by simp); cases e0
    subst hx
    have hn : n = 0 := by
      rcases Nat.eq_zero_or_pos n with h | h
      · exact h
      · have := Nat.mul_pos h hsz; simp at hl; omega
    subst hn
    exact ⟨blk, 0, w, run_append_nil w t ty e i ht hi blk c, hown, rfl, rfl, rfl, Nat.le_refl _, fun _ _ _ => rfl⟩
theorem step_append_all {ops : Array Oper} {o : Oper} {a : Act} {K : Act → World → Prop} {Q : Exit → Act → World → Prop} {E : Prop} (hgd : o.guard = none) (s y : Operand) (t : TypeId)
    (ho : o.op = .call { callee := .builtin .append, args := #[s, y], argTypes := #[t, t] })
    (e : TypeId) (i : TypeInfo) (z : Value) (size bytes : Nat) (ht : P.underlying t = some (.slice e)) (hi : P.info? e = some i) (hz : i.zero = some z) (hsize : i.size = size) (hby : i.bytes = bytes) (hzs : z.cells.size = size) (hsz : 0 < size)
    (blk : Nat) (hs : a.eval s = .slice (some ⟨blk, 0, none⟩) 0 0) (hblk : Blk w blk e #[]) (F : Nat → Prop) (A : Option Addr) (n c : Nat) (xs : List Value) (hy : a.eval y = .slice A n c) (hA : Reads F w A xs) (hl : xs.length = n * size) (h1 : ∀ u ∈ xs, u.oneCell' = true) (h63 : n ≤ maxLen) (hbytes : n * bytes ≤ 140737488355328)
    (h : ∀ g cap w', w'.ownsRow blk e size (.slice (some ⟨g, 0, none⟩) n cap) n xs → w.grownBy w' (some blk) → K (a.put o.dst (.slice (some ⟨g, 0, none⟩) n cap)) w') :
    if Region.wanted o (yielded ops a.tmps) = true then Oper.wp P o a w K Q else E := by
  have hw : Region.wanted o (yielded ops a.tmps) = true := by simp [Region.wanted, hgd]
  rw [if_pos hw]
  obtain ⟨g, cap, w', hr, h2, h3⟩ := run_append_all (P := P) w t o.type e i z size bytes ht hi hz hsize hby hzs hsz blk hblk F A n c xs hA hl h1 h63 hbytes
  unfold Oper.wp execOp
  simp only [ho, resolve, invoke, builtin, Sem.run_bind, Sem.run_pure, Result.andThen_ok, List.map_toArray, List.map_cons, List.map_nil, hs, hy, hr]
  exact h g cap w' h2 h3
end
end Go.Proofs.Ythcnnadggffjhaa
