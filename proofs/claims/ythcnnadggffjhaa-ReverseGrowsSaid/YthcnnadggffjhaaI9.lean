/- Sorting a row of strings of the call's own; a set of strings as a map. -/
import Derived.Test.YthcnnadggffjhaaLS
import Derived.Test.YthcnnadggffjhaaIA
import Derived.Test.YthcnnadggffjhaaQ0
import Derived.Shelf.Slices.In.SortNone
import Derived.Lib.OwnBridge
import Derived.Maps.Views
import Derived.Maps.OwnSet
set_option linter.unusedVariables false
set_option linter.unusedSimpArgs false
namespace Go.Proofs.Ythcnnadggffjhaa
open Go.RowKit Go.Lib Go.Maps Go.Sort

def sortedS (l : List ByteArray) : List ByteArray := ((l.map fun s => s.data.toList).mergeSort fun x y => decide (x ≤ y)).map fun l => ⟨l.toArray⟩
theorem enc_str (l : List ByteArray) : (l.map fun s => s.data.toList).map encStr = l.map Value.string := by
  rw [List.map_map]
  apply List.map_congr_left
  intro x _
  simp [encStr]
theorem enc_sorted (l : List ByteArray) : ((l.map fun s => s.data.toList).mergeSort fun x y => decide (x ≤ y)).map encStr = (sortedS l).map Value.string := by
  unfold sortedS
  rw [List.map_map]
  rfl
/-- what Sort turns: the row -/
theorem sortS_any (base : Nat) (A : Option Addr) (n c : Nat) (l : List ByteArray) (w : World) (ho : w.ownsRow base 9 1 (.slice A n c) n (l.map Value.string)) (hn : n < 1000000000000000) :
    Calls Try.prog 37 #[.slice A n c] w fun e w' => e = .returned (.tuple #[]) ∧ Mod (fun b => (Value.slice A n c).ownBlock = some b) w w' ∧ w'.ownsRow base 9 1 (.slice A n c) n ((sortedS l).map Value.string) := by
  have hl : l.length = n := by simpa using ho.1
  rcases ho.2 with ⟨hv, h0⟩ | ⟨g, cap, cur, hv, hg, hh, hnc, hcm, hcs, ht⟩
  · injection hv with h1 h2 h3
    subst h1 h2 h3
    have h := Any.slices_Sort_string_none laysSort none 0 w
    change Calls Try.prog 37 _ w _ at h
    refine h.mono ?_
    rintro e w' ⟨rfl, rfl⟩
    have hl0 : l = [] := List.eq_nil_of_length_eq_zero hl
    subst hl0
    have hs0 : sortedS [] = [] := by simp [sortedS]
    rw [hs0]
    exact ⟨rfl, Mod.refl _ _, World.ownsRow_nil _ _ _ _⟩
  · have ho2 : w.ownsRow base 9 1 (.slice A n c) n ((l.map fun s => s.data.toList).map encStr) := by rw [enc_str]; exact ho
    obtain ⟨g', cap', e, hb', hlt', _, _, hll, hH⟩ := holds_of_ownsRow ho2 (by rw [hv]; simp)
    injection e with e1 e2 e3
    subst e1 e3
    have h := Any.slices_Sort_string laysSort g' 0 c (l.map fun s => s.data.toList) w hH hlt' (by omega)
    change Calls Try.prog 37 _ w _ at h
    rw [hll] at h
    refine h.mono ?_
    rintro e w' ⟨rfl, q, os, rfl⟩
    have hr := ownsRow_putRow (q := q) (k := n) (ys := (l.map fun s => s.data.toList).mergeSort fun x y => decide (x ≤ y)) ho2 (by rw [List.length_mergeSort]; exact hll) (Nat.le_refl _)
    rw [List.take_of_length_le (by rw [List.length_mergeSort]; omega), enc_sorted] at hr
    have hgr : ∀ k, k < (putRow encStr (Sort.ahead w q) g' 0 ((l.map fun s => s.data.toList).mergeSort fun x y => decide (x ≤ y)).toArray).heap.size → (grow (putRow encStr (Sort.ahead w q) g' 0 ((l.map fun s => s.data.toList).mergeSort fun x y => decide (x ≤ y)).toArray) os).heap[k]? = (putRow encStr (Sort.ahead w q) g' 0 ((l.map fun s => s.data.toList).mergeSort fun x y => decide (x ≤ y)).toArray).heap[k]? := fun k hk => by
      simp only [grow]
      rw [Array.getElem?_append_left hk]
    have hsz : (putRow encStr (Sort.ahead w q) g' 0 ((l.map fun s => s.data.toList).mergeSort fun x y => decide (x ≤ y)).toArray).heap.size = w.heap.size := by simp [putRow, mapBlock, Sort.ahead]
    refine ⟨rfl, ⟨rfl, rfl, rfl, by simp only [grow, Array.size_append]; omega, fun k hk hs => ?_⟩, ?_⟩
    · rw [hgr k (by omega)]
      have hkg : g' ≠ k := fun h => hs (by rw [h]; rfl)
      simp [putRow, mapBlock, Sort.ahead, Array.getElem?_modify, hkg]
    · have hb : Below (putRow encStr (Sort.ahead w q) g' 0 ((l.map fun s => s.data.toList).mergeSort fun x y => decide (x ≤ y)).toArray).heap.size (putRow encStr (Sort.ahead w q) g' 0 ((l.map fun s => s.data.toList).mergeSort fun x y => decide (x ≤ y)).toArray) (grow (putRow encStr (Sort.ahead w q) g' 0 ((l.map fun s => s.data.toList).mergeSort fun x y => decide (x ≤ y)).toArray) os) :=
        ⟨rfl, rfl, rfl, by simp only [grow, Array.size_append]; omega, hgr⟩
      exact ownBelow hb hr

theorem plainElem_bool_inv {H : Type} {P : Program} {e : TypeId} (he : P.underlying e = some .bool) {v : Value} {z : DataW H × List MemPlace} (h : plainElem P e v = some z) : ∃ x, v = .bool x ∧ z = (.lit (.bool x), []) := by
  unfold plainElem at h
  rw [he] at h
  split at h
  · rename_i x _
    cases h
    rename_i hv _
    exact ⟨_, rfl, rfl⟩
  · cases ‹some TypeDesc.bool = some (TypeDesc.int _)›
  · cases ‹some TypeDesc.bool = some TypeDesc.string›
  · cases h
/-- the map in block b says which strings are in S -/
def Known (w : World) (b n : Nat) (S : List ByteArray) : Prop :=
  ∃ D : DataW Unit, w.ownsMap Try.prog 9 (plainElem Try.prog 4) b n D ∧ ∀ s : ByteArray, s.size ≤ maxLen → D.atKey (.string s.data.toList) (.lit (.bool false)) = .lit (.bool (memS S s))
section
variable {w w' : World} {b n : Nat} {S : List ByteArray}
theorem Known.new (w : World) : Known (w.alloc (.map #[] 0)) w.heap.size 0 [] := ⟨_, World.ownsMap_made _ _ _ _, fun s _ => rfl⟩
theorem Known.lt (h : Known w b n S) : b < w.heap.size := by obtain ⟨D, h1, _⟩ := h; exact h1.lt
theorem Known.mod {T : Nat → Prop} (h : Known w b n S) (hm : Mod T w w') (hb : ¬ T b) : Known w' b n S := by
  obtain ⟨D, ⟨es, clock, h1, h2, h3, h4⟩, h5⟩ := h
  exact ⟨D, ⟨es, clock, (hm.block b (Array.getElem?_eq_some_iff.1 h1).1 hb).trans h1, h2, h3, h4⟩, h5⟩
theorem Known.next (h : Known w b n S) (hb : Below w.heap.size w w') : Known w' b n S := h.mod (Mod.of_below (S := fun _ => False) hb) fun h => h
theorem Known.look (h : Known w b n S) (s : ByteArray) (hs : s.size ≤ maxLen) : (Instr.lookup 79 (.map (some b)) (.string s) false).run Try.prog w = .ok (.bool (memS S s)) w := by
  obtain ⟨D, h1, h2⟩ := h
  obtain ⟨v, ps, hrun, hv⟩ := h1.lookup (string_keyed Try.underlying9) Try.underlying79 (Try.zeroValue4 _) (plainElem_bool Try.underlying4 false) (Go.WideMaps.keyOf_string_mk Try.underlying9 hs)
  obtain ⟨x, rfl, hx⟩ := plainElem_bool_inv Try.underlying4 hv
  rw [h2 s hs] at hx
  simp only [Prod.mk.injEq, DataW.lit.injEq, Lit.bool.injEq] at hx
  rw [hrun, hx.1]
theorem Known.put (h : Known w b n S) (s : ByteArray) (hs : s.size ≤ maxLen) (hn : n < maxLen) : ∃ w', (Instr.mapUpdate 79 (.map (some b)) (.string s) (.bool true)).run Try.prog w = .ok () w' ∧ Known w' b (n + 1) (S ++ [s]) ∧ w.grownBy w' (some b) := by
  obtain ⟨D, h1, h2⟩ := h
  have K := string_keyed (P := Try.prog) Try.underlying9
  obtain ⟨w', hrun, h3, h4⟩ := h1.update K Try.underlying79 hn (Go.WideMaps.keyOf_string_mk Try.underlying9 hs) (plainElem_bool Try.underlying4 true)
  refine ⟨w', hrun, ⟨_, h3, fun x hx => ?_⟩, h4⟩
  rw [memS_snoc]
  by_cases he : s = x
  · subst he
    rw [atKey_put_same h1.isMap (by simp [WideAt.IsKeyLit])]
    simp
  · rw [atKey_put_other (by
      intro h
      injection h with h
      exact he (ByteArray.ext (Array.toList_inj.1 h.symm))), h2 x hx]
    simp [he]
end
end Go.Proofs.Ythcnnadggffjhaa
