/- append([]T{}, xs...) onto a fresh empty block: xs may be empty, its slice nil. No program is in sight here. -/
import Derived.Test.YtpidgkngefkbeaaL5
set_option linter.unusedVariables false
set_option linter.unusedSimpArgs false
namespace Go.Proofs.Ytpidgkngefkbeaa
open Go.RowKit

theorem Blk.new3 (w : World) (o o' : Obj) (e : TypeId) (C : Array Value) : Blk (((w.alloc o).alloc o').alloc (.cells C e)) (w.heap.size + 1 + 1) e C := by
  have hb := Blk.new ((w.alloc o).alloc o') e C
  rw [show ((w.alloc o).alloc o').heap.size = w.heap.size + 1 + 1 from (by simp)] at hb
  exact hb
section
variable {P : Program} (w : World)
theorem run_append_nil (t ty e : TypeId) (i : TypeInfo) (ht : P.underlying t = some (.slice e)) (hi : P.info? e = some i) (blk c : Nat) :
    (Builtin.append_ #[t, t] ty #[.slice (some ⟨blk, 0, none⟩) 0 0, .slice none 0 c]).run P w = .ok (.slice (some ⟨blk, 0, none⟩) 0 0) w := by
  simp [Builtin.append_, run_underlying ht, sizeOf, typeInfo, hi, Builtin.lenOf, Builtin.firstCells, storeCells]
theorem run_append_all (t ty e : TypeId) (i : TypeInfo) (z : Value) (size bytes : Nat) (ht : P.underlying t = some (.slice e)) (hi : P.info? e = some i) (hz : i.zero = some z) (hsize : i.size = size) (hby : i.bytes = bytes) (hzs : z.cells.size = size) (hsz : 0 < size)
    (blk : Nat) (hblk : Blk w blk e #[]) (F : Nat → Prop) (A : Option Addr) (n c : Nat) (xs : List Value) (hA : Reads F w A xs) (hl : xs.length = n * size) (h1 : ∀ u ∈ xs, u.oneCell' = true) (h63 : n ≤ maxLen) (hbytes : n * bytes ≤ 140737488355328) :
    ∃ g cap w', (Builtin.append_ #[t, t] ty #[.slice (some ⟨blk, 0, none⟩) 0 0, .slice A n c]).run P w = .ok (.slice (some ⟨g, 0, none⟩) n cap) w' ∧ w'.ownsRow blk e size (.slice (some ⟨g, 0, none⟩) n cap) n xs ∧ w.grownBy w' (some blk) := by
  have hown : w.ownsRow blk e size (.slice (some ⟨blk, 0, none⟩) 0 0) 0 [] := ⟨by simp, .inr ⟨blk, 0, #[], rfl, Nat.le_refl _, hblk, Nat.le_refl _, Nat.zero_le _, by simp, by simp⟩⟩
  have key : ∀ ad : Addr, A = some ad → (∀ j u, xs[j]? = some u → w.cell? (ad.add j) = some u) →
      ∃ g cap w', (Builtin.append_ #[t, t] ty #[.slice (some ⟨blk, 0, none⟩) 0 0, .slice A n c]).run P w = .ok (.slice (some ⟨g, 0, none⟩) n cap) w' ∧ w'.ownsRow blk e size (.slice (some ⟨g, 0, none⟩) n cap) n xs ∧ w.grownBy w' (some blk) := by
    rintro ad rfl hc
    obtain ⟨v', w', hr, ho, hg, hnil, _⟩ := run_append_own_at (P := P) w blk t ty e i z size bytes ht hi hz hsize hby hzs hsz _ 0 [] hown ad n c xs hl hc h1 (by rw [Nat.zero_add]; exact h63) (by rw [Nat.zero_add]; exact hbytes) (Nat.le_of_lt hblk.lt)
    rw [Nat.zero_add, List.nil_append] at ho
    rcases ho.2 with ⟨hv, _⟩ | ⟨g, cap, cur, hv, _⟩
    · exact absurd (hnil.1 hv).1 (by simp)
    · subst hv
      exact ⟨g, cap, w', hr, ho, hg⟩
  cases A with
  | some ad =>
    refine key ad rfl fun j u hu => ?_
    obtain ⟨b, o, e0, _, _, hc⟩ := hA (by rintro rfl; simp at hu)
    injection e0 with e0
    subst e0
    rw [show (⟨b, o, none⟩ : Addr).add j = ⟨b, o + j, none⟩ from by unfold Addr.add; split <;> simp_all]
    exact hc j u hu
  | none =>
    have hx : xs = [] := by
      cases xs with
      | nil => rfl
      | cons x xs => obtain ⟨b, o, e0, _⟩ := hA (by simp); cases e0
    subst hx
    have hn : n = 0 := by
      rcases Nat.eq_zero_or_pos n with h | h
      · exact h
      · have := Nat.mul_pos h hsz; simp at hl; omega
    subst hn
    exact ⟨blk, 0, w, run_append_nil w t ty e i ht hi blk c, hown, rfl, rfl, rfl, Nat.le_refl _, fun _ _ _ => rfl⟩
theorem step_append_all {ops : Array Oper} {o : Oper} {a : Act} {K : Act → World → Prop} {Q : Exit → Act → World → Prop} {E : Prop} (hgd : o.guard = none) (s y : Operand) (t : TypeId)
    (ho : o.op = .call { callee := .builtin .append, args := #[s, y], argTypes := #[t, t] })
    (e : TypeId) (i : TypeInfo) (z : Value) (size bytes : Nat) (ht : P.underlying t = some (.slice e)) (hi : P.info? e = some i) (hz : i.zero = some z) (hsize : i.size = size) (hby : i.bytes = bytes) (hzs : z.cells.size = size) (hsz : 0 < size)
    (blk : Nat) (hs : a.eval s = .slice (some ⟨blk, 0, none⟩) 0 0) (hblk : Blk w blk e #[]) (F : Nat → Prop) (A : Option Addr) (n c : Nat) (xs : List Value) (hy : a.eval y = .slice A n c) (hA : Reads F w A xs) (hl : xs.length = n * size) (h1 : ∀ u ∈ xs, u.oneCell' = true) (h63 : n ≤ maxLen) (hbytes : n * bytes ≤ 140737488355328)
    (h : ∀ g cap w', w'.ownsRow blk e size (.slice (some ⟨g, 0, none⟩) n cap) n xs → w.grownBy w' (some blk) → K (a.put o.dst (.slice (some ⟨g, 0, none⟩) n cap)) w') :
    if Region.wanted o (yielded ops a.tmps) = true then Oper.wp P o a w K Q else E := by
  have hw : Region.wanted o (yielded ops a.tmps) = true := by simp [Region.wanted, hgd]
  rw [if_pos hw]
  obtain ⟨g, cap, w', hr, h2, h3⟩ := run_append_all (P := P) w t o.type e i z size bytes ht hi hz hsize hby hzs hsz blk hblk F A n c xs hA hl h1 h63 hbytes
  unfold Oper.wp execOp
  simp only [ho, resolve, invoke, builtin, Sem.run_bind, Sem.run_pure, Result.andThen_ok, List.map_toArray, List.map_cons, List.map_nil, hs, hy, hr]
  exact h g cap w' h2 h3
end
end Go.Proofs.Ytpidgkngefkbeaa
