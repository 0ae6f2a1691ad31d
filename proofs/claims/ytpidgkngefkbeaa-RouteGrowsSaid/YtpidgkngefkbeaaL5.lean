/- A store into a row of the call's own: one cell of the list is another. No program is in sight here. -/
import Derived.Test.YtpidgkngefkbeaaL4
set_option linter.unusedVariables false
set_option linter.unusedSimpArgs false
namespace Go.Proofs.Ytpidgkngefkbeaa
open Go.RowKit

theorem own_empty (w : World) (e : TypeId) (size base : Nat) (hb : base ≤ w.heap.size) : (w.alloc (.cells #[] e)).ownsRow base e size (.slice (some ⟨w.heap.size, 0, none⟩) 0 0) 0 [] :=
  ⟨by simp, .inr ⟨w.heap.size, 0, #[], rfl, hb, heap_alloc_new w _, Nat.le_refl _, Nat.zero_le _, by simp, by simp⟩⟩
theorem own_store {w : World} {base : Nat} {e : TypeId} {g m cap i : Nat} {xs : List Value} (h : w.ownsRow base e 1 (.slice (some ⟨g, 0, none⟩) m cap) m xs) (hi : i < m) (u : Value) :
    (∃ u0, w.cell? ⟨g, i, none⟩ = some u0) ∧ w.frozen? ⟨g, i, none⟩ = false ∧ g < w.heap.size ∧ base ≤ g ∧ Reads (base ≤ ·) (w.setCell ⟨g, i, none⟩ u) (some ⟨g, 0, none⟩) (xs.set i u) := by
  obtain ⟨hl, h⟩ := h
  rcases h with ⟨hv, _⟩ | ⟨g', cap', cur, hv, hb, hh, hnc, hcm, hcs, htake⟩
  · cases hv
  · injection hv with h1 h2 h3
    injection h1 with h1
    injection h1 with h1 _
    subst h1 h3
    have hB : Blk w g e cur := hh
    have hlt : g < w.heap.size := (Array.getElem?_eq_some_iff.1 hh).1
    have hic : i < cur.size := by omega
    refine ⟨⟨cur[i], by rw [hB.cell]; simp [hic]⟩, hB.free i, hlt, hb, fun _ => ⟨g, 0, rfl, hb, by simpa [World.setCell] using hlt, fun j x hx => ?_⟩⟩
    have hB2 := hB.set i u
    rw [Nat.zero_add, hB2.cell]
    rw [List.getElem?_set] at hx
    have hjm : j < m := by
      rcases Nat.lt_or_ge j m with h1 | h1
      · exact h1
      · exfalso
        split at hx
        · omega
        · rw [List.getElem?_eq_none (by omega)] at hx; cases hx
    split at hx
    · rename_i hij
      subst hij
      split at hx
      · injection hx with hx
        subst hx
        simp [Array.getElem?_setIfInBounds, hic]
      · cases hx
    · rename_i hij
      rw [Array.getElem?_setIfInBounds, if_neg hij]
      rw [← htake, List.getElem?_take, if_pos (by omega)] at hx
      simpa using hx
theorem add_cell {F : Nat → Prop} {w : World} {b o j : Nat} {xs : List Value} {u : Value} (h : Reads F w (some ⟨b, o, none⟩) xs) (hu : xs[j]? = some u) : w.cell? ((⟨b, o, none⟩ : Addr).add j) = some u := by
  obtain ⟨b', o', e0, _, _, hc⟩ := h (by rintro rfl; simp at hu)
  injection e0 with e0
  injection e0 with e0 e1
  subst e0 e1
  rw [show (⟨b, o, none⟩ : Addr).add j = ⟨b, o + j, none⟩ from by unfold Addr.add; split <;> simp_all]
  exact hc j u hu
theorem sl_set {F : Nat → Prop} {w : World} {A : Option Addr} {l : List Nat} {i : Nat} {x : Int} (h : Reads F w A ((l.map vN).set i (.int .i64 x))) : SlAt vI F w A ((l.map fun n : Nat => (n : Int)).set i x) := by
  unfold SlAt
  rw [List.map_set, List.map_map]
  exact h
end Go.Proofs.Ytpidgkngefkbeaa
