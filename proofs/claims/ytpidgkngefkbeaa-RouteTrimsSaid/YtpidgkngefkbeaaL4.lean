/- Small words on new blocks. No program is in sight here. -/
import Derived.Test.YtpidgkngefkbeaaL2
set_option linter.unusedVariables false
set_option linter.unusedSimpArgs false
namespace Go.Proofs.Ytpidgkngefkbeaa
open Go.RowKit

theorem reads_new2 (w : World) (o : Obj) (C : Array Value) (e : TypeId) : Reads (w.heap.size ≤ ·) ((w.alloc o).alloc (.cells C e)) (some ⟨w.heap.size + 1, 0, none⟩) C.toList := by
  have hb := Blk.new (w.alloc o) e C
  rw [show (w.alloc o).heap.size = w.heap.size + 1 from (by simp)] at hb
  exact Reads.block hb (by omega)
theorem below_two (w : World) (o o' : Obj) : Below w.heap.size w ((w.alloc o).alloc o').drew := (((Below.refl _ _).alloc (Nat.le_refl _) _).alloc (by simp) _).drew
theorem below_one (w : World) (o : Obj) : Below w.heap.size w (w.alloc o) := (Below.refl _ _).alloc (Nat.le_refl _) _
theorem Blk.new2 (w : World) (o : Obj) (e : TypeId) (C : Array Value) : Blk ((w.alloc o).alloc (.cells C e)) (w.heap.size + 1) e C := by
  have hb := Blk.new (w.alloc o) e C
  rw [show (w.alloc o).heap.size = w.heap.size + 1 from (by simp)] at hb
  exact hb
theorem RulesAt.got {F : Nat → Prop} {w : World} {b o : Nat} {rs : List Rule} (h : RulesAt F w (some ⟨b, o, none⟩) rs) {k : Nat} {r : Rule} (hk : rs[k]? = some r) :
    F b ∧ b < w.heap.size ∧ w.cell? ⟨b, o + k * 5, none⟩ = some (.int .i64 r.frm) ∧ w.cell? ⟨b, o + k * 5 + 1, none⟩ = some (.int .i64 r.dst) ∧
      w.cell? ⟨b, o + k * 5 + 2, none⟩ = some (.string r.inp) ∧ w.cell? ⟨b, o + k * 5 + 3, none⟩ = some (.string r.out) ∧ w.cell? ⟨b, o + k * 5 + 4, none⟩ = some (.int .i64 r.cost) := by
  obtain ⟨hk1, rfl⟩ := List.getElem?_eq_some_iff.1 hk
  obtain ⟨b', o', e0, h1, h2, h3⟩ := h.at_ hk1
  injection e0 with e0
  injection e0 with e0 e1
  subst e0 e1
  exact ⟨h1, h2, h3⟩
theorem SlAt.got {T : Type} {f : T → Value} {F : Nat → Prop} {w : World} {b o : Nat} {l : List T} (h : SlAt f F w (some ⟨b, o, none⟩) l) {k : Nat} {x : T} (hk : l[k]? = some x) : F b ∧ b < w.heap.size ∧ w.cell? ⟨b, o + k, none⟩ = some (f x) := by
  obtain ⟨hk1, rfl⟩ := List.getElem?_eq_some_iff.1 hk
  obtain ⟨b', o', e0, h1, h2, h3⟩ := h.at_ hk1
  injection e0 with e0
  injection e0 with e0 e1
  subst e0 e1
  exact ⟨h1, h2, h3⟩
/-- a slice that is not empty lies somewhere -/
theorem Reads.some_ {F : Nat → Prop} {w : World} {A : Option Addr} {xs : List Value} (h : Reads F w A xs) (hn : 0 < xs.length) : ∃ b o, A = some ⟨b, o, none⟩ := by
  obtain ⟨b, o, e, _⟩ := h (by rintro rfl; simp at hn)
  exact ⟨b, o, e⟩
end Go.Proofs.Ytpidgkngefkbeaa
