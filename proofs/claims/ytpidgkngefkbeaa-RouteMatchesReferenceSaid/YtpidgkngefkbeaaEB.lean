/- A map from modes to ends (a slice and a cost) that a call makes, as a function: what look-up, store, delete and len do to it. Ranging over a map of ends; what a stored end shows. The memory of route.Least: the scheme's box, the map of done ends, the map of open ends. -/
import Derived.Test.YtpidgkngefkbeaaWA
import Derived.Test.YtpidgkngefkbeaaLA
import Derived.Maps.RangeWalk
import Derived.Maps.OwnSet
import Derived.Maps.Views
import Derived.Test.YtpidgkngefkbeaaPA
set_option linter.unusedVariables false
set_option linter.unusedSimpArgs false
namespace Go.Proofs.Ytpidgkngefkbeaa
open Go.RowKit Go.Maps Go.WideElems

/-- a stored end: the slice's address, length and room; the cost -/
structure Ent where
  A : Option Addr
  n : Nat
  c : Nat
  x : Int
def Ent.val (p : Ent) : Value := .agg #[.slice p.A p.n p.c, .int .i64 p.x]
def Ent.zero : Ent := ⟨none, 0, 0, 0⟩
theorem Ent.val_inj {p q : Ent} (h : p.val = q.val) : p = q := by
  obtain ⟨A, n, c, x⟩ := p
  obtain ⟨A', n', c', x'⟩ := q
  simp [Ent.val] at h
  obtain ⟨⟨rfl, rfl, rfl⟩, rfl⟩ := h
  rfl

open Classical in
/-- how an element reads: as itself -/
noncomputable def entR (v : Value) : Option (DataW Value × List MemPlace) := if ∃ p : Ent, v = p.val then some (.held v, []) else none
theorem entR_mk (p : Ent) : entR p.val = some (.held p.val, []) := by unfold entR; rw [if_pos ⟨p, rfl⟩]
theorem entR_inv {v : Value} {y : DataW Value × List MemPlace} (h : entR v = some y) : ∃ p : Ent, v = p.val ∧ y = (.held p.val, []) := by
  unfold entR at h
  split at h
  · rename_i hp
    obtain ⟨p, rfl⟩ := hp
    exact ⟨p, rfl, (Option.some.inj h).symm⟩
  · cases h

theorem lawE : Keyed Try.prog 3 := int_keyed Try.underlying3
theorem zeroEnd (w : World) : (zeroValue 72).run Try.prog w = .ok Ent.zero.val w := by kernel_rfl

/-- block b is a map of at most n entries, from modes below m to the ends f -/
def EndMap (w : World) (b n m : Nat) (f : Nat → Option Ent) : Prop :=
  ∃ D : DataW Value, w.ownsMap Try.prog 3 entR b n D ∧ (∀ k : Nat, Maps.has D (.int .i64 k) = (f k).isSome) ∧ (∀ (k : Nat) (p : Ent) (z : DataW Value), f k = some p → D.atKey (.int .i64 k) z = .held p.val) ∧ ∀ x : Int, Maps.has D (.int .i64 x) = true → 0 ≤ x ∧ x < m

section
variable {w w' : World} {b n m : Nat} {f : Nat → Option Ent}
theorem EndMap.lt_ (h : EndMap w b n m f) : b < w.heap.size := by obtain ⟨D, h1, _⟩ := h; exact h1.lt
theorem EndMap.kept {row : Option Nat} (h : EndMap w b n m f) (hg : w.grownBy w' row) (hne : some b ≠ row) : EndMap w' b n m f := by
  obtain ⟨D, h1, h2⟩ := h; exact ⟨D, h1.kept hg hne, h2⟩
theorem EndMap.below (h : EndMap w b n m f) (hb : Below w.heap.size w w') : EndMap w' b n m f := h.kept (row := none) ⟨hb.os, hb.tape, hb.output, hb.size, fun k hk _ => hb.block k hk⟩ (by simp)
theorem EndMap.mono {n' : Nat} (h : EndMap w b n m f) (hn : n ≤ n') : EndMap w b n' m f := by
  obtain ⟨D, h1, h2⟩ := h; exact ⟨D, h1.mono hn, h2⟩
theorem EndMap.made (w : World) (m : Nat) : EndMap (w.alloc (.map #[] 0)) w.heap.size 0 m (fun _ => none) :=
  ⟨.map [], World.ownsMap_made _ _ _ _, fun k => rfl, fun k p z h => by (cases h), fun x h => by (cases h)⟩
theorem EndMap.dom (h : EndMap w b n m f) {k : Nat} {p : Ent} (hk : f k = some p) : k < m := by
  obtain ⟨D, h1, h2, h3, h4⟩ := h
  have := h4 (k : Int) (by rw [h2, hk]; rfl)
  omega
theorem key_wf {k : Nat} (h : k < 1000000) : keyOf Try.prog 3 (.int .i64 (k : Int)) = some (.int .i64 k) := keyOf_int_mk Try.underlying3 (WalkArith.wf_i64 (by omega))

theorem EndMap.look (h : EndMap w b n m f) {k : Nat} (hk : k < 1000000) : (Instr.lookup 70 (.map (some b)) (.int .i64 k) false).run Try.prog w = .ok (((f k).getD Ent.zero).val) w := by
  obtain ⟨D, h1, h2, h3, h4⟩ := h
  obtain ⟨v, ps, hrun, hv⟩ := h1.lookup lawE Try.underlying70 (zeroEnd w) (entR_mk Ent.zero) (key_wf hk)
  cases hf : f k with
  | none =>
    have hno : Maps.has D (.int .i64 k) = false := by rw [h2, hf]; rfl
    rw [atKey_of_not_has hno] at hv
    obtain ⟨p, rfl, hp⟩ := entR_inv hv
    injection hp with hp
    injection hp with hp
    rw [hrun, ← hp]; rfl
  | some p =>
    rw [h3 k p _ hf] at hv
    obtain ⟨q, rfl, hq⟩ := entR_inv hv
    injection hq with hq
    injection hq with hq
    rw [hrun, ← hq]; rfl
theorem EndMap.lookOk (h : EndMap w b n m f) {k : Nat} (hk : k < 1000000) : (Instr.lookup 70 (.map (some b)) (.int .i64 k) true).run Try.prog w = .ok (.tuple #[((f k).getD Ent.zero).val, .bool (f k).isSome]) w := by
  obtain ⟨D, h1, h2, h3, h4⟩ := h
  obtain ⟨v, ps, hrun, hv⟩ := h1.look_ok lawE Try.underlying70 (zeroEnd w) (entR_mk Ent.zero) (key_wf hk)
  rw [h2] at hrun
  cases hf : f k with
  | none =>
    have hno : Maps.has D (.int .i64 k) = false := by rw [h2, hf]; rfl
    rw [atKey_of_not_has hno] at hv
    obtain ⟨p, rfl, hp⟩ := entR_inv hv
    injection hp with hp
    injection hp with hp
    rw [hrun, ← hp, hf]; rfl
  | some p =>
    rw [h3 k p _ hf] at hv
    obtain ⟨q, rfl, hq⟩ := entR_inv hv
    injection hq with hq
    injection hq with hq
    rw [hrun, ← hq, hf]; rfl
theorem keyL (k : Int) : WideAt.IsKeyLit (.int .i64 k) := trivial
def updE (f : Nat → Option Ent) (a : Nat) (e : Option Ent) (k : Nat) : Option Ent := if k = a then e else f k
theorem EndMap.store (h : EndMap w b n m f) {k : Nat} (hk : k < m) (hm : m < 1000000) (hn : n < 1000000) (p : Ent) :
    ∃ w', (Instr.mapUpdate 70 (.map (some b)) (.int .i64 k) p.val).run Try.prog w = .ok () w' ∧ EndMap w' b (n + 1) m (updE f k (some p)) ∧ w.grownBy w' (some b) := by
  obtain ⟨D, h1, h2, h3, h4⟩ := h
  obtain ⟨w', r1, r2, r3⟩ := h1.update lawE Try.underlying70 (by unfold maxLen; omega) (key_wf (k := k) (by omega)) (entR_mk p)
  have hM := h1.isMap
  refine ⟨w', r1, ⟨_, r2, fun j => ?_, fun j q z hj => ?_, fun x hx => ?_⟩, r3⟩
  · unfold updE
    split
    · rename_i e; rw [e, has_put_same hM (keyL _)]; rfl
    · rename_i e; rw [has_put_other (by intro h; injection h; omega)]; exact h2 j
  · unfold updE at hj
    split at hj
    · rename_i e
      injection hj with hj
      rw [e, atKey_put_same hM (keyL _), hj]
    · rename_i e; rw [atKey_put_other (by intro h; injection h; omega)]; exact h3 j q z hj
  · by_cases e : x = (k : Int)
    · omega
    · rw [has_put_other (by intro h; injection h; omega)] at hx
      exact h4 x hx
theorem EndMap.drop (h : EndMap w b n m f) {k : Nat} (hk : k < 1000000) (ty : TypeId) :
    ∃ w', (Builtin.delete_ #[70, 3] ty #[.map (some b), .int .i64 k]).run Try.prog w = .ok (.tuple #[]) w' ∧ EndMap w' b n m (updE f k none) ∧ w.grownBy w' (some b) := by
  obtain ⟨D, h1, h2, h3, h4⟩ := h
  obtain ⟨w', r1, r2, r3⟩ := h1.drop lawE Try.underlying70 (key_wf hk) ty
  refine ⟨w', r1, ⟨_, r2, fun j => ?_, fun j q z hj => ?_, fun x hx => ?_⟩, r3.grown⟩
  · unfold updE
    split
    · rename_i e; rw [e, has_del_same]; rfl
    · rename_i e; rw [has_del_other (by intro h; injection h; omega)]; exact h2 j
  · unfold updE at hj
    split at hj
    · cases hj
    · rename_i e; rw [atKey_del_other (by intro h; injection h; omega)]; exact h3 j q z hj
  · by_cases e : x = (k : Int)
    · rw [e, has_del_same] at hx; cases hx
    · rw [has_del_other (by intro h; injection h; omega)] at hx
      exact h4 x hx
theorem EndMap.len_ (h : EndMap w b n m f) (ty : TypeId) : ∃ s : Nat, (Builtin.len_ #[70] ty #[.map (some b)]).run Try.prog w = .ok (.int .i64 s) w ∧ (s = 0 → ∀ k, f k = none) ∧ (0 < s → ∃ k p, f k = some p) := by
  obtain ⟨D, h1, h2, h3, h4⟩ := h
  have hk := h1.entries lawE
  refine ⟨Maps.size D, h1.len Try.underlying70 ty, fun h0 k => ?_, fun h0 => ?_⟩
  · obtain ⟨es, rfl, _, _⟩ := hk
    have : es = [] := List.length_eq_zero_iff.1 h0
    subst this
    have h5 := h2 k
    cases hf : f k with
    | none => rfl
    | some p => rw [hf] at h5; cases h5
  · obtain ⟨es, clock, hb, F, hs, rfl⟩ := h1
    have hes : 0 < es.toList.length := by
      have e : Maps.size (DataW.map ((es.toList.map (rg Try.prog 3 entR)).foldr DataW.insert [])) = es.toList.length := by
        show List.length _ = _
        rw [length_sorted]; simp
      omega
    obtain ⟨x, hx⟩ := List.exists_mem_of_length_pos hes
    obtain ⟨y, hy⟩ := F.reads x hx
    obtain ⟨z, ez, el, ew⟩ := Maps.keyOf_int_inv Try.underlying3 (rd_key hy)
    have hh : Maps.has (DataW.map ((es.toList.map (rg Try.prog 3 entR)).foldr DataW.insert [])) y.1 = true :=
      List.any_eq_true.2 ⟨rg Try.prog 3 entR x, mem_sorted.2 (List.mem_map.2 ⟨x, hx, rfl⟩), by rw [rg_of hy, el]; exact WideAt.sameKey_self trivial⟩
    rw [el] at hh
    have hz := h4 z hh
    obtain ⟨k, rfl⟩ := Int.eq_ofNat_of_zero_le hz.1
    have h5 := h2 k
    rw [hh] at h5
    obtain ⟨p, hp⟩ := Option.isSome_iff_exists.1 h5.symm
    exact ⟨k, p, hp⟩
end
end Go.Proofs.Ytpidgkngefkbeaa
namespace Go.Proofs.Ytpidgkngefkbeaa
open Go.RowKit Go.Maps Go.WideElems

/-- the range over the map in block b is under way, its iterator block r; left k: mode k is still to come -/
def EndRange (w : World) (b r n m : Nat) (f : Nat → Option Ent) (left : Nat → Bool) (cnt : Nat) : Prop :=
  ∃ (D : DataW Value) (lf : Lit → Bool), w.ranges Try.prog 3 entR b r n D lf cnt ∧ (∀ k : Nat, left k = lf (.int .i64 k)) ∧ (∀ k : Nat, Maps.has D (.int .i64 k) = (f k).isSome) ∧ (∀ (k : Nat) (p : Ent) (z : DataW Value), f k = some p → D.atKey (.int .i64 k) z = .held p.val) ∧ ∀ x : Int, Maps.has D (.int .i64 x) = true → 0 ≤ x ∧ x < m
section
variable {w w' : World} {b r n m cnt : Nat} {f : Nat → Option Ent} {left : Nat → Bool}
theorem EndRange.endMap (h : EndRange w b r n m f left cnt) : EndMap w b n m f := by
  obtain ⟨D, lf, h1, _, h2⟩ := h; exact ⟨D, h1.owns, h2⟩
theorem EndRange.kept {row : Option Nat} (h : EndRange w b r n m f left cnt) (hg : w.grownBy w' row) (hb : some b ≠ row) (hr : some r ≠ row) : EndRange w' b r n m f left cnt := by
  obtain ⟨D, lf, h1, h2⟩ := h; exact ⟨D, lf, h1.kept hg hb hr, h2⟩
theorem EndRange.below (h : EndRange w b r n m f left cnt) (hb : Below w.heap.size w w') : EndRange w' b r n m f left cnt := h.kept (row := none) ⟨hb.os, hb.tape, hb.output, hb.size, fun k hk _ => hb.block k hk⟩ (by simp) (by simp)
theorem EndRange.left_eq (h : EndRange w b r n m f left cnt) : w.rangeLeft b r = cnt := by obtain ⟨D, lf, h1, _⟩ := h; exact h1.left_eq
theorem EndRange.rlt (h : EndRange w b r n m f left cnt) : r < w.heap.size := by obtain ⟨D, lf, h1, _⟩ := h; exact h1.lt
theorem EndRange.iter (h : EndRange w b r n m f left cnt) : ∃ a s e c, w.heap[r]? = some (.mapIter a s e c) := by
  obtain ⟨D, lf, h1, _⟩ := h
  obtain ⟨es, clock, since, seen, c0, _, _, _, _, h5, _⟩ := h1
  exact ⟨_, _, _, _, h5⟩
theorem EndMap.isMap (h : EndMap w b n m f) : ∃ es c, w.heap[b]? = some (.map es c) := by
  obtain ⟨D, ⟨es, clock, hb, _⟩, _⟩ := h
  exact ⟨es, clock, hb⟩
end

theorem wpList_range_end {ops : Array Oper} {rest : List Oper} {o : Oper} {a : Act} {Q : Exit → Act → World → Prop} (w : World) (hg : o.guard = none) (mm : Operand) (hop : o.op = Op.range 70 mm) {b n m : Nat} {f : Nat → Option Ent}
    (hm : a.eval mm = .map (some b)) (h : EndMap w b n m f)
    (hK : ∀ w' cnt, EndRange w' b w.heap.size n m f (fun k => (f k).isSome) cnt → Below w.heap.size w w' → w'.heap.size = w.heap.size + 1 → wpList Try.prog ops Q rest (a.put o.dst (.pointer (some ⟨w.heap.size, 0, none⟩))) w') :
    wpList Try.prog ops Q (o :: rest) a w := by
  obtain ⟨D, h1, h2, h3, h4⟩ := h
  refine wpList_range_own w hg mm _ hop 3 72 lawE Try.underlying70 entR b n D hm h1 fun w' r1 r2 r3 => ?_
  exact hK w' _ ⟨D, _, r1, fun k => (h2 k).symm, h2, h3, h4⟩ ((Below.refl _ _).grown r2 (Nat.le_refl _) (by simp)) r3

theorem wpList_next_end {ops : Array Oper} {rest : List Oper} {o : Oper} {a : Act} {Q : Exit → Act → World → Prop} (w : World) (hg : o.guard = none) (it : Operand) (hop : o.op = Op.next it false) {b r n m cnt : Nat} {f : Nat → Option Ent} {left : Nat → Bool}
    (hit : a.eval it = .pointer (some ⟨r, 0, none⟩)) (h : EndRange w b r n m f left cnt) (hl0 : ∀ k, left k = true → (f k).isSome = true)
    (hDone : (∀ k, left k = false) → wpList Try.prog ops Q rest (a.put o.dst (.tuple #[.bool false])) w)
    (hMore : ∀ (k : Nat) (p : Ent) (w' : World) (cnt' : Nat), k < m → f k = some p → left k = true → EndRange w' b r n m f (fun j => left j && !decide (j = k)) cnt' → cnt' < cnt → w.grownBy w' (some r) → w'.heap.size = w.heap.size →
      (Instr.entry (.pointer (some ⟨r, 0, none⟩))).run Try.prog w' = .ok (.tuple #[.int .i64 k, p.val]) w' → wpList Try.prog ops Q rest (a.put o.dst (.tuple #[.bool true, .int .i64 k, p.val])) w') :
    wpList Try.prog ops Q (o :: rest) a w := by
  obtain ⟨D, lf, h1, hl, h2, h3, h4⟩ := h
  have h1' := h1
  refine wpList_next_ranges w hg it hop 3 lawE entR (Value.int .i64) Ent.val (fun key kl hkey => by obtain ⟨x, rfl, _⟩ := Maps.keyOf_int_inv Try.underlying3 hkey; exact ⟨x, rfl⟩) (fun v y hv => by obtain ⟨c, rfl, _⟩ := entR_inv hv; exact ⟨c, rfl⟩) b r n D lf cnt hit h1
    (fun _ h0 => hDone fun k => by rw [hl]; exact h0 _) (fun x p kl y w' cnt' hkey hlk hv hat hrg hlt hgr hsz hen => ?_)
  obtain ⟨x', ex, rfl, hwx⟩ := Maps.keyOf_int_inv Try.underlying3 hkey
  injection ex with _ ex
  subst ex
  obtain ⟨q, eq, hy⟩ := entR_inv hv
  have := Ent.val_inj eq
  subst this
  have hx : 0 ≤ x ∧ x < m := by
    refine h4 x ?_
    have hD := h1'.owns.isMap
    cases hh : Maps.has D (.int .i64 x) with
    | true => rfl
    | false =>
      have h5 := hat .nil
      rw [atKey_of_not_has hh, hy] at h5
      cases h5
  obtain ⟨k, rfl⟩ := Int.eq_ofNat_of_zero_le hx.1
  have hkl : left k = true := by rw [hl]; exact hlk
  obtain ⟨q', hq'⟩ := Option.isSome_iff_exists.1 (hl0 k hkl)
  have hqp : q' = p := by
    have h5 := hat .nil
    rw [h3 k q' _ hq', hy] at h5
    injection h5 with h5
    exact Ent.val_inj h5
  subst hqp
  refine hMore k q' w' cnt' (by omega) hq' hkl ⟨D, _, hrg, fun j => ?_, h2, h3, h4⟩ hlt hgr hsz hen
  show (left j && !decide (j = k)) = _
  rw [hl]
  congr 1
  by_cases hjk : j = k
  · subst hjk; simp [WideAt.sameKey_self (keyL _)]
  · have : (Lit.int .i64 (j : Int)).sameKey (.int .i64 (k : Int)) = false := Maps.sameKey_ne (by intro h; injection h; omega)
    rw [this]; simp [hjk]

/-- what a stored end shows: lists in blocks from B on -/
def EntAt (B : Nat) (w : World) (p : Ent) (e : EndR) : Prop := p.n = e.l.length ∧ p.x = e.cost ∧ p.n ≤ p.c ∧ SlAt vN (B ≤ ·) w p.A e.l
theorem Reads.other {F : Nat → Prop} {w w' : World} {A : Option Addr} {xs : List Value} {b : Nat} (h : Reads F w A xs) (hg : w.grownBy w' (some b)) (hb : ∀ i, w.cell? ⟨b, i, none⟩ = none) : Reads F w' A xs := by
  intro hn
  obtain ⟨g, o, e, hf, hlt, hc⟩ := h hn
  have hne : some g ≠ some b := by
    intro e1
    injection e1 with e1
    subst e1
    cases xs with
    | nil => exact hn rfl
    | cons x xs =>
      have := hc 0 x rfl
      rw [hb] at this
      cases this
  exact ⟨g, o, e, hf, Nat.lt_of_lt_of_le hlt hg.size, fun j u hu => (World.cell?_of_block (hg.block g hlt hne)).trans (hc j u hu)⟩
theorem no_cell_map {w : World} {b : Nat} {es : Array MapEntry} {c : Nat} (h : w.heap[b]? = some (.map es c)) (i : Nat) : w.cell? ⟨b, i, none⟩ = none := by simp [World.cell?, h]
theorem no_cell_iter {w : World} {b : Nat} {a s e c} (h : w.heap[b]? = some (.mapIter a s e c)) (i : Nat) : w.cell? ⟨b, i, none⟩ = none := by simp [World.cell?, h]
theorem EntAt.below {B : Nat} {w w' : World} {p : Ent} {e : EndR} (h : EntAt B w p e) (hb : Below w.heap.size w w') : EntAt B w' p e := ⟨h.1, h.2.1, h.2.2.1, Reads.below h.2.2.2 hb⟩
theorem EntAt.other {B b : Nat} {w w' : World} {p : Ent} {e : EndR} (h : EntAt B w p e) (hg : w.grownBy w' (some b)) (hb : ∀ i, w.cell? ⟨b, i, none⟩ = none) : EntAt B w' p e := ⟨h.1, h.2.1, h.2.2.1, Reads.other h.2.2.2 hg hb⟩
theorem EntAt.zero (B : Nat) (w : World) : EntAt B w Ent.zero ⟨[], 0⟩ := ⟨rfl, rfl, Nat.le_refl _, Reads.nil _⟩
/-- the map's function shows the ends F -/
def Shows (B : Nat) (w : World) (f : Nat → Option Ent) (F : Nat → Option EndR) : Prop := ∀ k, match f k, F k with
  | none, none => True
  | some p, some e => EntAt B w p e
  | _, _ => False
theorem Shows.below {B : Nat} {w w' : World} {f : Nat → Option Ent} {F : Nat → Option EndR} (h : Shows B w f F) (hb : Below w.heap.size w w') : Shows B w' f F := by
  intro k
  have := h k
  revert this
  cases f k <;> cases F k <;> simp
  exact fun h => h.below hb
theorem Shows.other {B b : Nat} {w w' : World} {f : Nat → Option Ent} {F : Nat → Option EndR} (h : Shows B w f F) (hg : w.grownBy w' (some b)) (hb : ∀ i, w.cell? ⟨b, i, none⟩ = none) : Shows B w' f F := by
  intro k
  have := h k
  revert this
  cases f k <;> cases F k <;> simp
  exact fun h => h.other hg hb
theorem Shows.some_ {B : Nat} {w : World} {f : Nat → Option Ent} {F : Nat → Option EndR} (h : Shows B w f F) {k : Nat} {p : Ent} (hk : f k = some p) : ∃ e, F k = some e ∧ EntAt B w p e := by
  have := h k
  rw [hk] at this
  cases hF : F k with
  | none => rw [hF] at this; exact this.elim
  | some e => rw [hF] at this; exact ⟨e, rfl, this⟩
theorem Shows.none_ {B : Nat} {w : World} {f : Nat → Option Ent} {F : Nat → Option EndR} (h : Shows B w f F) {k : Nat} (hk : f k = none) : F k = none := by
  have := h k
  rw [hk] at this
  cases hF : F k with
  | none => rfl
  | some e => rw [hF] at this; exact this.elim
theorem Shows.put_ {B : Nat} {w : World} {f : Nat → Option Ent} {F : Nat → Option EndR} (h : Shows B w f F) (a : Nat) {p : Ent} {e : EndR} (he : EntAt B w p e) : Shows B w (updE f a (some p)) (upd F a (some e)) := by
  intro k
  unfold updE upd
  by_cases hk : k = a
  · simp only [if_pos hk]; exact he
  · simp only [if_neg hk]; exact h k
theorem Shows.cut_ {B : Nat} {w : World} {f : Nat → Option Ent} {F : Nat → Option EndR} (h : Shows B w f F) (a : Nat) : Shows B w (updE f a none) (upd F a none) := by
  intro k
  unfold updE upd
  by_cases hk : k = a
  · simp [hk]
  · simp only [if_neg hk]; exact h k
end Go.Proofs.Ytpidgkngefkbeaa
namespace Go.Proofs.Ytpidgkngefkbeaa
open Go.RowKit Go.Maps Go.WideElems

/-- the scheme's box at h, the maps at h + 1 (done) and h + 2 (open) show D and O -/
structure LW (m ac : Nat) (A : Option Addr) (n c : Nat) (w W : World) (N : Nat) (D O : Nat → Option EndR) : Prop where
  bel : Below w.heap.size w W
  box : Blk W w.heap.size 30 #[.int .i64 m, .int .u8 ac, .slice A n c]
  dn : ∃ f, EndMap W (w.heap.size + 1) N m f ∧ Shows (w.heap.size + 1) W f D
  op : ∃ f, EndMap W (w.heap.size + 1 + 1) N m f ∧ Shows (w.heap.size + 1) W f O

section
variable {m ac : Nat} {A : Option Addr} {n c : Nat} {w W W' : World} {N : Nat} {D O : Nat → Option EndR}
theorem LW.below (h : LW m ac A n c w W N D O) (hb : Below W.heap.size W W') : LW m ac A n c w W' N D O := by
  obtain ⟨h1, h2, ⟨f, h3, h4⟩, ⟨g, h5, h6⟩⟩ := h
  exact ⟨h1.trans (hb.mono h1.size), h2.next hb, ⟨f, h3.below hb, h4.below hb⟩, ⟨g, h5.below hb, h6.below hb⟩⟩
theorem LW.mono (h : LW m ac A n c w W N D O) {N' : Nat} (hN : N ≤ N') : LW m ac A n c w W N' D O := by
  obtain ⟨h1, h2, ⟨f, h3, h4⟩, ⟨g, h5, h6⟩⟩ := h
  exact ⟨h1, h2, ⟨f, h3.mono hN, h4⟩, ⟨g, h5.mono hN, h6⟩⟩
theorem show_look {w : World} {b N m B : Nat} {f : Nat → Option Ent} {F : Nat → Option EndR} (h : EndMap w b N m f) (hs : Shows B w f F) {k : Nat} (hk : k < 1000000) {e : EndR} (hF : F k = some e) :
    ∃ A c, (Instr.lookup 70 (.map (some b)) (.int .i64 k) false).run Try.prog w = .ok (.agg #[.slice A e.l.length c, .int .i64 e.cost]) w ∧ e.l.length ≤ c ∧ SlAt vN (B ≤ ·) w A e.l := by
  have hr := h.look hk
  have h1 := hs k
  cases hf : f k with
  | none => rw [hf, hF] at h1; exact h1.elim
  | some p =>
    rw [hf, hF] at h1
    obtain ⟨e1, e2, e0, e3⟩ := h1
    refine ⟨p.A, p.c, ?_, by rw [← e1]; exact e0, e3⟩
    rw [hr, hf, ← e1, ← e2]; rfl
theorem show_lookOk {w : World} {b N m B : Nat} {f : Nat → Option Ent} {F : Nat → Option EndR} (h : EndMap w b N m f) (hs : Shows B w f F) {k : Nat} (hk : k < 1000000) {e : EndR} (hF : F k = some e) :
    ∃ A c, (Instr.lookup 70 (.map (some b)) (.int .i64 k) true).run Try.prog w = .ok (.tuple #[.agg #[.slice A e.l.length c, .int .i64 e.cost], .bool true]) w ∧ e.l.length ≤ c ∧ SlAt vN (B ≤ ·) w A e.l := by
  have hr := h.lookOk hk
  have h1 := hs k
  cases hf : f k with
  | none => rw [hf, hF] at h1; exact h1.elim
  | some p =>
    rw [hf, hF] at h1
    obtain ⟨e1, e2, e0, e3⟩ := h1
    refine ⟨p.A, p.c, ?_, by rw [← e1]; exact e0, e3⟩
    rw [hr, hf, ← e1, ← e2]; rfl
theorem show_lookNo {w : World} {b N m B : Nat} {f : Nat → Option Ent} {F : Nat → Option EndR} (h : EndMap w b N m f) (hs : Shows B w f F) {k : Nat} (hk : k < 1000000) (hF : F k = none) :
    (Instr.lookup 70 (.map (some b)) (.int .i64 k) true).run Try.prog w = .ok (.tuple #[.agg #[.slice none 0 0, .int .i64 0], .bool false]) w := by
  have hr := h.lookOk hk
  have h1 := hs k
  cases hf : f k with
  | none => rw [hr, hf]; rfl
  | some p => rw [hf, hF] at h1; exact h1.elim

/-- a store into the map of done ends -/
theorem LW.storeD (h : LW m ac A n c w W N D O) {k : Nat} (hk : k < m) (hm : m < 1000000) (hN : N < 1000000) {e : EndR} {B : Option Addr} {d : Nat} (hB : SlAt vN (w.heap.size + 1 ≤ ·) W B e.l) (hd : e.l.length ≤ d) :
    ∃ W', (Instr.mapUpdate 70 (.map (some (w.heap.size + 1))) (.int .i64 k) (.agg #[.slice B e.l.length d, .int .i64 e.cost])).run Try.prog W = .ok () W' ∧ LW m ac A n c w W' (N + 1) (upd D k (some e)) O ∧ W.grownBy W' (some (w.heap.size + 1)) := by
  obtain ⟨h1, h2, ⟨f, h3, h4⟩, ⟨g, h5, h6⟩⟩ := h
  obtain ⟨W', r1, r2, r3⟩ := h3.store hk hm hN ⟨B, e.l.length, d, e.cost⟩
  obtain ⟨es, cl, hmap⟩ := h3.isMap
  have hno := no_cell_map hmap
  refine ⟨W', r1, ⟨h1.grown r3 h1.size (fun k hk => by injection hk; omega), h2.grown r3 (by simp), ⟨_, r2, ?_⟩, ⟨g, (h5.kept r3 (by simp)).mono (Nat.le_succ _), h6.other r3 hno⟩⟩, r3⟩
  exact (h4.other r3 hno).put_ k ⟨rfl, rfl, hd, Reads.other hB r3 hno⟩
/-- a store into the map of open ends -/
theorem LW.storeO (h : LW m ac A n c w W N D O) {k : Nat} (hk : k < m) (hm : m < 1000000) (hN : N < 1000000) {e : EndR} {B : Option Addr} {d : Nat} (hB : SlAt vN (w.heap.size + 1 ≤ ·) W B e.l) (hd : e.l.length ≤ d) :
    ∃ W', (Instr.mapUpdate 70 (.map (some (w.heap.size + 1 + 1))) (.int .i64 k) (.agg #[.slice B e.l.length d, .int .i64 e.cost])).run Try.prog W = .ok () W' ∧ LW m ac A n c w W' (N + 1) D (upd O k (some e)) ∧ W.grownBy W' (some (w.heap.size + 1 + 1)) := by
  obtain ⟨h1, h2, ⟨f, h3, h4⟩, ⟨g, h5, h6⟩⟩ := h
  obtain ⟨W', r1, r2, r3⟩ := h5.store hk hm hN ⟨B, e.l.length, d, e.cost⟩
  obtain ⟨es, cl, hmap⟩ := h5.isMap
  have hno := no_cell_map hmap
  refine ⟨W', r1, ⟨h1.grown r3 h1.size (fun k hk => by injection hk; omega), h2.grown r3 (by simp; omega), ⟨f, (h3.kept r3 (by simp)).mono (Nat.le_succ _), h4.other r3 hno⟩, ⟨_, r2, ?_⟩⟩, r3⟩
  exact (h6.other r3 hno).put_ k ⟨rfl, rfl, hd, Reads.other hB r3 hno⟩
theorem LW.dropO (h : LW m ac A n c w W N D O) {k : Nat} (hk : k < 1000000) (ty : TypeId) :
    ∃ W', (Builtin.delete_ #[70, 3] ty #[.map (some (w.heap.size + 1 + 1)), .int .i64 k]).run Try.prog W = .ok (.tuple #[]) W' ∧ LW m ac A n c w W' N D (upd O k none) ∧ W.grownBy W' (some (w.heap.size + 1 + 1)) := by
  obtain ⟨h1, h2, ⟨f, h3, h4⟩, ⟨g, h5, h6⟩⟩ := h
  obtain ⟨W', r1, r2, r3⟩ := h5.drop hk ty
  obtain ⟨es, cl, hmap⟩ := h5.isMap
  have hno := no_cell_map hmap
  exact ⟨W', r1, ⟨h1.grown r3 h1.size (fun k hk => by injection hk; omega), h2.grown r3 (by simp; omega), ⟨f, h3.kept r3 (by simp), h4.other r3 hno⟩, ⟨_, r2, (h6.other r3 hno).cut_ k⟩⟩, r3⟩
theorem LW.lenO (h : LW m ac A n c w W N D O) (ty : TypeId) : ∃ s : Nat, (Builtin.len_ #[70] ty #[.map (some (w.heap.size + 1 + 1))]).run Try.prog W = .ok (.int .i64 s) W ∧ (s = 0 → ∀ k, O k = none) ∧ (0 < s → ∃ k e, k < m ∧ O k = some e) := by
  obtain ⟨h1, h2, _, ⟨g, h5, h6⟩⟩ := h
  obtain ⟨s, r1, r2, r3⟩ := h5.len_ ty
  refine ⟨s, r1, fun h0 k => h6.none_ (r2 h0 k), fun h0 => ?_⟩
  obtain ⟨k, p, hp⟩ := r3 h0
  obtain ⟨e, he, _⟩ := h6.some_ hp
  exact ⟨k, e, h5.dom hp, he⟩
theorem LW.lookO (h : LW m ac A n c w W N D O) {k : Nat} (hk : k < 1000000) {e : EndR} (hF : O k = some e) :
    ∃ B d, (Instr.lookup 70 (.map (some (w.heap.size + 1 + 1))) (.int .i64 k) false).run Try.prog W = .ok (.agg #[.slice B e.l.length d, .int .i64 e.cost]) W ∧ e.l.length ≤ d ∧ SlAt vN (w.heap.size + 1 ≤ ·) W B e.l := by
  obtain ⟨h1, h2, _, ⟨g, h5, h6⟩⟩ := h; exact show_look h5 h6 hk hF
theorem LW.lookOok (h : LW m ac A n c w W N D O) {k : Nat} (hk : k < 1000000) {e : EndR} (hF : O k = some e) :
    ∃ B d, (Instr.lookup 70 (.map (some (w.heap.size + 1 + 1))) (.int .i64 k) true).run Try.prog W = .ok (.tuple #[.agg #[.slice B e.l.length d, .int .i64 e.cost], .bool true]) W ∧ e.l.length ≤ d ∧ SlAt vN (w.heap.size + 1 ≤ ·) W B e.l := by
  obtain ⟨h1, h2, _, ⟨g, h5, h6⟩⟩ := h; exact show_lookOk h5 h6 hk hF
theorem LW.lookOno (h : LW m ac A n c w W N D O) {k : Nat} (hk : k < 1000000) (hF : O k = none) :
    (Instr.lookup 70 (.map (some (w.heap.size + 1 + 1))) (.int .i64 k) true).run Try.prog W = .ok (.tuple #[.agg #[.slice none 0 0, .int .i64 0], .bool false]) W := by
  obtain ⟨h1, h2, _, ⟨g, h5, h6⟩⟩ := h; exact show_lookNo h5 h6 hk hF
theorem LW.lookDok (h : LW m ac A n c w W N D O) {k : Nat} (hk : k < 1000000) {e : EndR} (hF : D k = some e) :
    ∃ B d, (Instr.lookup 70 (.map (some (w.heap.size + 1))) (.int .i64 k) true).run Try.prog W = .ok (.tuple #[.agg #[.slice B e.l.length d, .int .i64 e.cost], .bool true]) W ∧ e.l.length ≤ d ∧ SlAt vN (w.heap.size + 1 ≤ ·) W B e.l := by
  obtain ⟨h1, h2, ⟨g, h5, h6⟩, _⟩ := h; exact show_lookOk h5 h6 hk hF
theorem LW.lookDno (h : LW m ac A n c w W N D O) {k : Nat} (hk : k < 1000000) (hF : D k = none) :
    (Instr.lookup 70 (.map (some (w.heap.size + 1))) (.int .i64 k) true).run Try.prog W = .ok (.tuple #[.agg #[.slice none 0 0, .int .i64 0], .bool false]) W := by
  obtain ⟨h1, h2, ⟨g, h5, h6⟩, _⟩ := h; exact show_lookNo h5 h6 hk hF
end
theorem Shows.isSome_ {B : Nat} {w : World} {f : Nat → Option Ent} {F : Nat → Option EndR} (h : Shows B w f F) (k : Nat) : (f k).isSome = (F k).isSome := by
  have := h k
  revert this
  cases f k <;> cases F k <;> simp
theorem LW.iter {m ac : Nat} {A : Option Addr} {n c : Nat} {w W W' : World} {N r : Nat} {D O : Nat → Option EndR} (h : LW m ac A n c w W N D O) (hg : W.grownBy W' (some r)) (hr : w.heap.size + 1 + 1 < r) (hno : ∀ i, W.cell? ⟨r, i, none⟩ = none) : LW m ac A n c w W' N D O := by
  obtain ⟨h1, h2, ⟨f, h3, h4⟩, ⟨g, h5, h6⟩⟩ := h
  exact ⟨h1.grown hg h1.size (fun k hk => by injection hk; omega), h2.grown hg (by simp; omega), ⟨f, h3.kept hg (by simp; omega), h4.other hg hno⟩, ⟨g, h5.kept hg (by simp; omega), h6.other hg hno⟩⟩
theorem wpList_next_show {ops : Array Oper} {rest : List Oper} {o : Oper} {a : Act} {Q : Exit → Act → World → Prop} (w : World) (hg : o.guard = none) (it : Operand) (hop : o.op = Op.next it false) {b r n m cnt B : Nat} {f : Nat → Option Ent} {O : Nat → Option EndR} {left : Nat → Bool}
    (hit : a.eval it = .pointer (some ⟨r, 0, none⟩)) (h : EndRange w b r n m f left cnt) (hs : Shows B w f O) (hl0 : ∀ k, left k = true → (O k).isSome = true)
    (hDone : (∀ k, left k = false) → wpList Try.prog ops Q rest (a.put o.dst (.tuple #[.bool false])) w)
    (hMore : ∀ (k : Nat) (e : EndR) (A : Option Addr) (d : Nat) (w' : World) (cnt' : Nat), k < m → O k = some e → left k = true → e.l.length ≤ d → SlAt vN (B ≤ ·) w' A e.l → EndRange w' b r n m f (fun j => left j && !decide (j = k)) cnt' → Shows B w' f O → cnt' < cnt → w.grownBy w' (some r) → w'.heap.size = w.heap.size →
      (Instr.entry (.pointer (some ⟨r, 0, none⟩))).run Try.prog w' = .ok (.tuple #[.int .i64 k, .agg #[.slice A e.l.length d, .int .i64 e.cost]]) w' → wpList Try.prog ops Q rest (a.put o.dst (.tuple #[.bool true, .int .i64 k, .agg #[.slice A e.l.length d, .int .i64 e.cost]])) w') :
    wpList Try.prog ops Q (o :: rest) a w := by
  obtain ⟨i1, i2, i3, i4, hiter⟩ := h.iter
  have hno := no_cell_iter hiter
  refine wpList_next_end w hg it hop hit h (fun k hk => by rw [hs.isSome_]; exact hl0 k hk) hDone fun k p w' cnt' hk hf hl hER hlt hgr hsz hen => ?_
  obtain ⟨e, he, e1, e2, e0, e3⟩ := hs.some_ hf
  obtain ⟨pA, pn, pc, px⟩ := p
  simp only at e1 e2 e0 e3
  subst e1 e2
  exact hMore k e pA pc w' cnt' hk he hl e0 (Reads.other e3 hgr hno) hER (hs.other hgr hno) hlt hgr hsz hen
/-- stores and deletions at the operation -/
theorem wpList_store_end {ops : Array Oper} {rest : List Oper} {o : Oper} {a : Act} {Q : Exit → Act → World → Prop} (w w' : World) (hg : o.guard = none) (m x v : Operand) (t : TypeId) (hop : o.op = Op.mapUpdate t m x v)
    (hrun : (Instr.mapUpdate t (a.eval m) (a.eval x) (a.eval v)).run Try.prog w = .ok () w') (hK : wpList Try.prog ops Q rest (a.put o.dst undef) w') : wpList Try.prog ops Q (o :: rest) a w := by
  refine wpList_plain hg fun K' hK' => ?_
  unfold Oper.wp
  simp [execOp, hop, hrun, Result.andThen]
  exact hK' _ _ hK
theorem wpList_len_end {ops : Array Oper} {rest : List Oper} {o : Oper} {a : Act} {Q : Exit → Act → World → Prop} (w : World) (hg : o.guard = none) (m : Operand) (t : TypeId) (hop : o.op = Op.call { callee := Callee.builtin Builtin.len, args := #[m], argTypes := #[t] }) (v : Value)
    (hrun : (Builtin.len_ #[t] o.type #[a.eval m]).run Try.prog w = .ok v w) (hK : wpList Try.prog ops Q rest (a.put o.dst v) w) : wpList Try.prog ops Q (o :: rest) a w := by
  refine wpList_plain hg fun K' hK' => ?_
  unfold Oper.wp
  simp [execOp, hop, resolve, invoke, builtin, hrun, Result.andThen]
  exact hK' _ _ hK
theorem wpList_delete_end {ops : Array Oper} {rest : List Oper} {o : Oper} {a : Act} {Q : Exit → Act → World → Prop} (w w' : World) (hg : o.guard = none) (m x : Operand) (t k : TypeId) (hop : o.op = Op.call { callee := Callee.builtin Builtin.delete, args := #[m, x], argTypes := #[t, k] })
    (hrun : (Builtin.delete_ #[t, k] o.type #[a.eval m, a.eval x]).run Try.prog w = .ok (.tuple #[]) w') (hK : wpList Try.prog ops Q rest (a.put o.dst (.tuple #[])) w') : wpList Try.prog ops Q (o :: rest) a w := by
  refine wpList_plain hg fun K' hK' => ?_
  unfold Oper.wp
  simp [execOp, hop, resolve, invoke, builtin, hrun, Result.andThen]
  exact hK' _ _ hK
end Go.Proofs.Ytpidgkngefkbeaa
