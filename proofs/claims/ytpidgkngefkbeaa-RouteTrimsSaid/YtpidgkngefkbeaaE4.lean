/- Ranging over a map of ends; what a stored end shows. -/
import Derived.Test.YtpidgkngefkbeaaE3
import Derived.Test.YtpidgkngefkbeaaE1
set_option linter.unusedVariables false
set_option linter.unusedSimpArgs false
namespace Go.Proofs.Ytpidgkngefkbeaa
open Go.RowKit Go.Maps Go.WideElems

/-- the range over the map in block b is under way, its iterator block r; left k: mode k is still to come -/
def EndRange (w : World) (b r n m : Nat) (f : Nat → Option Ent) (left : Nat → Bool) (cnt : Nat) : Prop :=
  ∃ (D : DataW Value) (lf : Lit → Bool), w.ranges Try.prog 3 entR b r n D lf cnt ∧ (∀ k : Nat, left k = lf (.int .i64 k)) ∧ (∀ k : Nat, Maps.has D (.int .i64 k) = (f k).isSome) ∧ (∀ (k : Nat) (p : Ent) (z : DataW Value), f k = some p → D.atKey (.int .i64 k) z = .held p.val) ∧ ∀ x : Int, Maps.has D (.int .i64 x) = true → 0 ≤ x ∧ x < m
section
variable {w w' : World} {b r n m cnt : Nat} {f : Nat → Option Ent} {left : Nat → Bool}
theorem EndRange.endMap (h : EndRange w b r n m f left cnt) : EndMap w b n m f := by
  obtain ⟨D, lf, h1, _, h2⟩ := h; exact ⟨D, h1.owns, h2⟩
theorem EndRange.kept {row : Option Nat} (h : EndRange w b r n m f left cnt) (hg : w.grownBy w' row) (hb : some b ≠ row) (hr : some r ≠ row) : EndRange w' b r n m f left cnt := by
  obtain ⟨D, lf, h1, h2⟩ := h; exact ⟨D, lf, h1.kept hg hb hr, h2⟩
theorem EndRange.below (h : EndRange w b r n m f left cnt) (hb : Below w.heap.size w w') : EndRange w' b r n m f left cnt := h.kept (row := none) ⟨hb.os, hb.tape, hb.output, hb.size, fun k hk _ => hb.block k hk⟩ (by simp) (by simp)
theorem EndRange.left_eq (h : EndRange w b r n m f left cnt) : w.rangeLeft b r = cnt := by obtain ⟨D, lf, h1, _⟩ := h; exact h1.left_eq
theorem EndRange.rlt (h : EndRange w b r n m f left cnt) : r < w.heap.size := by obtain ⟨D, lf, h1, _⟩ := h; exact h1.lt
theorem EndRange.iter (h : EndRange w b r n m f left cnt) : ∃ a s e c, w.heap[r]? = some (.mapIter a s e c) := by
  obtain ⟨D, lf, h1, _⟩ := h
  obtain ⟨es, clock, since, seen, c0, _, _, _, _, h5, _⟩ := h1
  exact ⟨_, _, _, _, h5⟩
theorem EndMap.isMap (h : EndMap w b n m f) : ∃ es c, w.heap[b]? = some (.map es c) := by
  obtain ⟨D, ⟨es, clock, hb, _⟩, _⟩ := h
  exact ⟨es, clock, hb⟩
end

theorem wpList_range_end {ops : Array Oper} {rest : List Oper} {o : Oper} {a : Act} {Q : Exit → Act → World → Prop} (w : World) (hg : o.guard = none) (mm : Operand) (hop : o.op = Op.range 70 mm) {b n m : Nat} {f : Nat → Option Ent}
    (hm : a.eval mm = .map (some b)) (h : EndMap w b n m f)
    (hK : ∀ w' cnt, EndRange w' b w.heap.size n m f (fun k => (f k).isSome) cnt → Below w.heap.size w w' → w'.heap.size = w.heap.size + 1 → wpList Try.prog ops Q rest (a.put o.dst (.pointer (some ⟨w.heap.size, 0, none⟩))) w') :
    wpList Try.prog ops Q (o :: rest) a w := by
  obtain ⟨D, h1, h2, h3, h4⟩ := h
  refine wpList_range_own w hg mm _ hop 3 72 lawE Try.underlying70 entR b n D hm h1 fun w' r1 r2 r3 => ?_
  exact hK w' _ ⟨D, _, r1, fun k => (h2 k).symm, h2, h3, h4⟩ ((Below.refl _ _).grown r2 (Nat.le_refl _) (by simp)) r3

theorem wpList_next_end {ops : Array Oper} {rest : List Oper} {o : Oper} {a : Act} {Q : Exit → Act → World → Prop} (w : World) (hg : o.guard = none) (it : Operand) (hop : o.op = Op.next it false) {b r n m cnt : Nat} {f : Nat → Option Ent} {left : Nat → Bool}
    (hit : a.eval it = .pointer (some ⟨r, 0, none⟩)) (h : EndRange w b r n m f left cnt) (hl0 : ∀ k, left k = true → (f k).isSome = true)
    (hDone : (∀ k, left k = false) → wpList Try.prog ops Q rest (a.put o.dst (.tuple #[.bool false])) w)
    (hMore : ∀ (k : Nat) (p : Ent) (w' : World) (cnt' : Nat), k < m → f k = some p → left k = true → EndRange w' b r n m f (fun j => left j && !decide (j = k)) cnt' → cnt' < cnt → w.grownBy w' (some r) → w'.heap.size = w.heap.size →
      (Instr.entry (.pointer (some ⟨r, 0, none⟩))).run Try.prog w' = .ok (.tuple #[.int .i64 k, p.val]) w' → wpList Try.prog ops Q rest (a.put o.dst (.tuple #[.bool true, .int .i64 k, p.val])) w') :
    wpList Try.prog ops Q (o :: rest) a w := by
  obtain ⟨D, lf, h1, hl, h2, h3, h4⟩ := h
  have h1' := h1
  refine wpList_next_ranges w hg it hop 3 lawE entR (Value.int .i64) Ent.val (fun key kl hkey => by obtain ⟨x, rfl, _⟩ := Maps.keyOf_int_inv Try.underlying3 hkey; exact ⟨x, rfl⟩) (fun v y hv => by obtain ⟨c, rfl, _⟩ := entR_inv hv; exact ⟨c, rfl⟩) b r n D lf cnt hit h1
    (fun _ h0 => hDone fun k => by rw [hl]; exact h0 _) (fun x p kl y w' cnt' hkey hlk hv hat hrg hlt hgr hsz hen => ?_)
  obtain ⟨x', ex, rfl, hwx⟩ := Maps.keyOf_int_inv Try.underlying3 hkey
  injection ex with _ ex
  subst ex
  obtain ⟨q, eq, hy⟩ := entR_inv hv
  have := Ent.val_inj eq
  subst this
  have hx : 0 ≤ x ∧ x < m := by
    refine h4 x ?_
    have hD := h1'.owns.isMap
    cases hh : Maps.has D (.int .i64 x) with
    | true => rfl
    | false =>
      have h5 := hat .nil
      rw [atKey_of_not_has hh, hy] at h5
      cases h5
  obtain ⟨k, rfl⟩ := Int.eq_ofNat_of_zero_le hx.1
  have hkl : left k = true := by rw [hl]; exact hlk
  obtain ⟨q', hq'⟩ := Option.isSome_iff_exists.1 (hl0 k hkl)
  have hqp : q' = p := by
    have h5 := hat .nil
    rw [h3 k q' _ hq', hy] at h5
    injection h5 with h5
    exact Ent.val_inj h5
  subst hqp
  refine hMore k q' w' cnt' (by omega) hq' hkl ⟨D, _, hrg, fun j => ?_, h2, h3, h4⟩ hlt hgr hsz hen
  show (left j && !decide (j = k)) = _
  rw [hl]
  congr 1
  by_cases hjk : j = k
  · subst hjk; simp [WideAt.sameKey_self (keyL _)]
  · have : (Lit.int .i64 (j : Int)).sameKey (.int .i64 (k : Int)) = false := Maps.sameKey_ne (by intro h; injection h; omega)
    rw [this]; simp [hjk]

/-- what a stored end shows: lists in blocks from B on -/
def EntAt (B : Nat) (w : World) (p : Ent) (e : EndR) : Prop := p.n = e.l.length ∧ p.x = e.cost ∧ p.n ≤ p.c ∧ SlAt vN (B ≤ ·) w p.A e.l
theorem Reads.other {F : Nat → Prop} {w w' : World} {A : Option Addr} {xs : List Value} {b : Nat} (h : Reads F w A xs) (hg : w.grownBy w' (some b)) (hb : ∀ i, w.cell? ⟨b, i, none⟩ = none) : Reads F w' A xs := by
  intro hn
  obtain ⟨g, o, e, hf, hlt, hc⟩ := h hn
  have hne : some g ≠ some b := by
    intro e1
    injection e1 with e1
    subst e1
    cases xs with
    | nil => exact hn rfl
    | cons x xs =>
      have := hc 0 x rfl
      rw [hb] at this
      cases this
  exact ⟨g, o, e, hf, Nat.lt_of_lt_of_le hlt hg.size, fun j u hu => (World.cell?_of_block (hg.block g hlt hne)).trans (hc j u hu)⟩
theorem no_cell_map {w : World} {b : Nat} {es : Array MapEntry} {c : Nat} (h : w.heap[b]? = some (.map es c)) (i : Nat) : w.cell? ⟨b, i, none⟩ = none := by simp [World.cell?, h]
theorem no_cell_iter {w : World} {b : Nat} {a s e c} (h : w.heap[b]? = some (.mapIter a s e c)) (i : Nat) : w.cell? ⟨b, i, none⟩ = none := by simp [World.cell?, h]
theorem EntAt.below {B : Nat} {w w' : World} {p : Ent} {e : EndR} (h : EntAt B w p e) (hb : Below w.heap.size w w') : EntAt B w' p e := ⟨h.1, h.2.1, h.2.2.1, Reads.below h.2.2.2 hb⟩
theorem EntAt.other {B b : Nat} {w w' : World} {p : Ent} {e : EndR} (h : EntAt B w p e) (hg : w.grownBy w' (some b)) (hb : ∀ i, w.cell? ⟨b, i, none⟩ = none) : EntAt B w' p e := ⟨h.1, h.2.1, h.2.2.1, Reads.other h.2.2.2 hg hb⟩
theorem EntAt.zero (B : Nat) (w : World) : EntAt B w Ent.zero ⟨[], 0⟩ := ⟨rfl, rfl, Nat.le_refl _, Reads.nil _⟩
/-- the map's function shows the ends F -/
def Shows (B : Nat) (w : World) (f : Nat → Option Ent) (F : Nat → Option EndR) : Prop := ∀ k, match f k, F k with
  | none, none => True
  | some p, some e => EntAt B w p e
  | _, _ => False
theorem Shows.below {B : Nat} {w w' : World} {f : Nat → Option Ent} {F : Nat → Option EndR} (h : Shows B w f F) (hb : Below w.heap.size w w') : Shows B w' f F := by
  intro k
  have := h k
  revert this
  cases f k <;> cases F k <;> simp
  exact fun h => h.below hb
theorem Shows.other {B b : Nat} {w w' : World} {f : Nat → Option Ent} {F : Nat → Option EndR} (h : Shows B w f F) (hg : w.grownBy w' (some b)) (hb : ∀ i, w.cell? ⟨b, i, none⟩ = none) : Shows B w' f F := by
  intro k
  have := h k
  revert this
  cases f k <;> cases F k <;> simp
  exact fun h => h.other hg hb
theorem Shows.some_ {B : Nat} {w : World} {f : Nat → Option Ent} {F : Nat → Option EndR} (h : Shows B w f F) {k : Nat} {p : Ent} (hk : f k = some p) : ∃ e, F k = some e ∧ EntAt B w p e := by
  have := h k
  rw [hk] at this
  cases hF : F k with
  | none => rw [hF] at this; exact this.elim
  | some e => rw [hF] at this; exact ⟨e, rfl, this⟩
theorem Shows.none_ {B : Nat} {w : World} {f : Nat → Option Ent} {F : Nat → Option EndR} (h : Shows B w f F) {k : Nat} (hk : f k = none) : F k = none := by
  have := h k
  rw [hk] at this
  cases hF : F k with
  | none => rfl
  | some e => rw [hF] at this; exact this.elim
theorem Shows.put_ {B : Nat} {w : World} {f : Nat → Option Ent} {F : Nat → Option EndR} (h : Shows B w f F) (a : Nat) {p : Ent} {e : EndR} (he : EntAt B w p e) : Shows B w (updE f a (some p)) (upd F a (some e)) := by
  intro k
  unfold updE upd
  by_cases hk : k = a
  · simp only [if_pos hk]; exact he
  · simp only [if_neg hk]; exact h k
theorem Shows.cut_ {B : Nat} {w : World} {f : Nat → Option Ent} {F : Nat → Option EndR} (h : Shows B w f F) (a : Nat) : Shows B w (updE f a none) (upd F a none) := by
  intro k
  unfold updE upd
  by_cases hk : k = a
  · simp [hk]
  · simp only [if_neg hk]; exact h k
end Go.Proofs.Ytpidgkngefkbeaa
