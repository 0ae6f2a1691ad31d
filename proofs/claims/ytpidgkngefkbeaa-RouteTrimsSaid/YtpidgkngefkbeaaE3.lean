/- A map from modes to ends (a slice and a cost) that a call makes, as a function: what look-up, store, delete and len do to it. -/
import Derived.Test.YtpidgkngefkbeaaW1
import Derived.Test.YtpidgkngefkbeaaL2
import Derived.Maps.RangeWalk
import Derived.Maps.OwnSet
import Derived.Maps.Views
set_option linter.unusedVariables false
set_option linter.unusedSimpArgs false
namespace Go.Proofs.Ytpidgkngefkbeaa
open Go.RowKit Go.Maps Go.WideElems

/-- a stored end: the slice's address, length and room; the cost -/
structure Ent where
  A : Option Addr
  n : Nat
  c : Nat
  x : Int
def Ent.val (p : Ent) : Value := .agg #[.slice p.A p.n p.c, .int .i64 p.x]
def Ent.zero : Ent := ⟨none, 0, 0, 0⟩
theorem Ent.val_inj {p q : Ent} (h : p.val = q.val) : p = q := by
  obtain ⟨A, n, c, x⟩ := p
  obtain ⟨A', n', c', x'⟩ := q
  simp [Ent.val] at h
  obtain ⟨⟨rfl, rfl, rfl⟩, rfl⟩ := h
  rfl

open Classical in
/-- how an element reads: as itself -/
noncomputable def entR (v : Value) : Option (DataW Value × List MemPlace) := if ∃ p : Ent, v = p.val then some (.held v, []) else none
theorem entR_mk (p : Ent) : entR p.val = some (.held p.val, []) := by unfold entR; rw [if_pos ⟨p, rfl⟩]
theorem entR_inv {v : Value} {y : DataW Value × List MemPlace} (h : entR v = some y) : ∃ p : Ent, v = p.val ∧ y = (.held p.val, []) := by
  unfold entR at h
  split at h
  · rename_i hp
    obtain ⟨p, rfl⟩ := hp
    exact ⟨p, rfl, (Option.some.inj h).symm⟩
  · cases h

theorem lawE : Keyed Try.prog 3 := int_keyed Try.underlying3
theorem zeroEnd (w : World) : (zeroValue 72).run Try.prog w = .ok Ent.zero.val w := by kernel_rfl

/-- block b is a map of at most n entries, from modes below m to the ends f -/
def EndMap (w : World) (b n m : Nat) (f : Nat → Option Ent) : Prop :=
  ∃ D : DataW Value, w.ownsMap Try.prog 3 entR b n D ∧ (∀ k : Nat, Maps.has D (.int .i64 k) = (f k).isSome) ∧ (∀ (k : Nat) (p : Ent) (z : DataW Value), f k = some p → D.atKey (.int .i64 k) z = .held p.val) ∧ ∀ x : Int, Maps.has D (.int .i64 x) = true → 0 ≤ x ∧ x < m

section
variable {w w' : World} {b n m : Nat} {f : Nat → Option Ent}
theorem EndMap.lt_ (h : EndMap w b n m f) : b < w.heap.size := by obtain ⟨D, h1, _⟩ := h; exact h1.lt
theorem EndMap.kept {row : Option Nat} (h : EndMap w b n m f) (hg : w.grownBy w' row) (hne : some b ≠ row) : EndMap w' b n m f := by
  obtain ⟨D, h1, h2⟩ := h; exact ⟨D, h1.kept hg hne, h2⟩
theorem EndMap.below (h : EndMap w b n m f) (hb : Below w.heap.size w w') : EndMap w' b n m f := h.kept (row := none) ⟨hb.os, hb.tape, hb.output, hb.size, fun k hk _ => hb.block k hk⟩ (by simp)
theorem EndMap.mono {n' : Nat} (h : EndMap w b n m f) (hn : n ≤ n') : EndMap w b n' m f := by
  obtain ⟨D, h1, h2⟩ := h; exact ⟨D, h1.mono hn, h2⟩
theorem EndMap.made (w : World) (m : Nat) : EndMap (w.alloc (.map #[] 0)) w.heap.size 0 m (fun _ => none) :=
  ⟨.map [], World.ownsMap_made _ _ _ _, fun k => rfl, fun k p z h => by (cases h), fun x h => by (cases h)⟩
theorem EndMap.dom (h : EndMap w b n m f) {k : Nat} {p : Ent} (hk : f k = some p) : k < m := by
  obtain ⟨D, h1, h2, h3, h4⟩ := h
  have := h4 (k : Int) (by rw [h2, hk]; rfl)
  omega
theorem key_wf {k : Nat} (h : k < 1000000) : keyOf Try.prog 3 (.int .i64 (k : Int)) = some (.int .i64 k) := keyOf_int_mk Try.underlying3 (WalkArith.wf_i64 (by omega))

theorem EndMap.look (h : EndMap w b n m f) {k : Nat} (hk : k < 1000000) : (Instr.lookup 70 (.map (some b)) (.int .i64 k) false).run Try.prog w = .ok (((f k).getD Ent.zero).val) w := by
  obtain ⟨D, h1, h2, h3, h4⟩ := h
  obtain ⟨v, ps, hrun, hv⟩ := h1.lookup lawE Try.underlying70 (zeroEnd w) (entR_mk Ent.zero) (key_wf hk)
  cases hf : f k with
  | none =>
    have hno : Maps.has D (.int .i64 k) = false := by rw [h2, hf]; rfl
    rw [atKey_of_not_has hno] at hv
    obtain ⟨p, rfl, hp⟩ := entR_inv hv
    injection hp with hp
    injection hp with hp
    rw [hrun, ← hp]; rfl
  | some p =>
    rw [h3 k p _ hf] at hv
    obtain ⟨q, rfl, hq⟩ := entR_inv hv
    injection hq with hq
    injection hq with hq
    rw [hrun, ← hq]; rfl
theorem EndMap.lookOk (h : EndMap w b n m f) {k : Nat} (hk : k < 1000000) : (Instr.lookup 70 (.map (some b)) (.int .i64 k) true).run Try.prog w = .ok (.tuple #[((f k).getD Ent.zero).val, .bool (f k).isSome]) w := by
  obtain ⟨D, h1, h2, h3, h4⟩ := h
  obtain ⟨v, ps, hrun, hv⟩ := h1.look_ok lawE Try.underlying70 (zeroEnd w) (entR_mk Ent.zero) (key_wf hk)
  rw [h2] at hrun
  cases hf : f k with
  | none =>
    have hno : Maps.has D (.int .i64 k) = false := by rw [h2, hf]; rfl
    rw [atKey_of_not_has hno] at hv
    obtain ⟨p, rfl, hp⟩ := entR_inv hv
    injection hp with hp
    injection hp with hp
    rw [hrun, ← hp, hf]; rfl
  | some p =>
    rw [h3 k p _ hf] at hv
    obtain ⟨q, rfl, hq⟩ := entR_inv hv
    injection hq with hq
    injection hq with hq
    rw [hrun, ← hq, hf]; rfl
theorem keyL (k : Int) : WideAt.IsKeyLit (.int .i64 k) := trivial
def updE (f : Nat → Option Ent) (a : Nat) (e : Option Ent) (k : Nat) : Option Ent := if k = a then e else f k
theorem EndMap.store (h : EndMap w b n m f) {k : Nat} (hk : k < m) (hm : m < 1000000) (hn : n < 1000000) (p : Ent) :
    ∃ w', (Instr.mapUpdate 70 (.map (some b)) (.int .i64 k) p.val).run Try.prog w = .ok () w' ∧ EndMap w' b (n + 1) m (updE f k (some p)) ∧ w.grownBy w' (some b) := by
  obtain ⟨D, h1, h2, h3, h4⟩ := h
  obtain ⟨w', r1, r2, r3⟩ := h1.update lawE Try.underlying70 (by unfold maxLen; omega) (key_wf (k := k) (by omega)) (entR_mk p)
  have hM := h1.isMap
  refine ⟨w', r1, ⟨_, r2, fun j => ?_, fun j q z hj => ?_, fun x hx => ?_⟩, r3⟩
  · unfold updE
    split
    · rename_i e; rw [e, has_put_same hM (keyL _)]; rfl
    · rename_i e; rw [has_put_other (by intro h; injection h; omega)]; exact h2 j
  · unfold updE at hj
    split at hj
    · rename_i e
      injection hj with hj
      rw [e, atKey_put_same hM (keyL _), hj]
    · rename_i e; rw [atKey_put_other (by intro h; injection h; omega)]; exact h3 j q z hj
  · by_cases e : x = (k : Int)
    · omega
    · rw [has_put_other (by intro h; injection h; omega)] at hx
      exact h4 x hx
theorem EndMap.drop (h : EndMap w b n m f) {k : Nat} (hk : k < 1000000) (ty : TypeId) :
    ∃ w', (Builtin.delete_ #[70, 3] ty #[.map (some b), .int .i64 k]).run Try.prog w = .ok (.tuple #[]) w' ∧ EndMap w' b n m (updE f k none) ∧ w.grownBy w' (some b) := by
  obtain ⟨D, h1, h2, h3, h4⟩ := h
  obtain ⟨w', r1, r2, r3⟩ := h1.drop lawE Try.underlying70 (key_wf hk) ty
  refine ⟨w', r1, ⟨_, r2, fun j => ?_, fun j q z hj => ?_, fun x hx => ?_⟩, r3.grown⟩
  · unfold updE
    split
    · rename_i e; rw [e, has_del_same]; rfl
    · rename_i e; rw [has_del_other (by intro h; injection h; omega)]; exact h2 j
  · unfold updE at hj
    split at hj
    · cases hj
    · rename_i e; rw [atKey_del_other (by intro h; injection h; omega)]; exact h3 j q z hj
  · by_cases e : x = (k : Int)
    · rw [e, has_del_same] at hx; cases hx
    · rw [has_del_other (by intro h; injection h; omega)] at hx
      exact h4 x hx
theorem EndMap.len_ (h : EndMap w b n m f) (ty : TypeId) : ∃ s : Nat, (Builtin.len_ #[70] ty #[.map (some b)]).run Try.prog w = .ok (.int .i64 s) w ∧ (s = 0 → ∀ k, f k = none) ∧ (0 < s → ∃ k p, f k = some p) := by
  obtain ⟨D, h1, h2, h3, h4⟩ := h
  have hk := h1.entries lawE
  refine ⟨Maps.size D, h1.len Try.underlying70 ty, fun h0 k => ?_, fun h0 => ?_⟩
  · obtain ⟨es, rfl, _, _⟩ := hk
    have : es = [] := List.length_eq_zero_iff.1 h0
    subst this
    have h5 := h2 k
    cases hf : f k with
    | none => rfl
    | some p => rw [hf] at h5; cases h5
  · obtain ⟨es, clock, hb, F, hs, rfl⟩ := h1
    have hes : 0 < es.toList.length := by
      have e : Maps.size (DataW.map ((es.toList.map (rg Try.prog 3 entR)).foldr DataW.insert [])) = es.toList.length := by
        show List.length _ = _
        rw [length_sorted]; simp
      omega
    obtain ⟨x, hx⟩ := List.exists_mem_of_length_pos hes
    obtain ⟨y, hy⟩ := F.reads x hx
    obtain ⟨z, ez, el, ew⟩ := Maps.keyOf_int_inv Try.underlying3 (rd_key hy)
    have hh : Maps.has (DataW.map ((es.toList.map (rg Try.prog 3 entR)).foldr DataW.insert [])) y.1 = true :=
      List.any_eq_true.2 ⟨rg Try.prog 3 entR x, mem_sorted.2 (List.mem_map.2 ⟨x, hx, rfl⟩), by rw [rg_of hy, el]; exact WideAt.sameKey_self trivial⟩
    rw [el] at hh
    have hz := h4 z hh
    obtain ⟨k, rfl⟩ := Int.eq_ofNat_of_zero_le hz.1
    have h5 := h2 k
    rw [hh] at h5
    obtain ⟨p, hp⟩ := Option.isSome_iff_exists.1 h5.symm
    exact ⟨k, p, hp⟩
end
end Go.Proofs.Ytpidgkngefkbeaa
