/- append([]T{x}, xs...) onto a fresh block of one cell: xs may be empty, its slice nil. No program is in sight here. -/
import Derived.Test.YtpidgkngefkbeaaL2
set_option linter.unusedVariables false
set_option linter.unusedSimpArgs false
namespace Go.Proofs.Ytpidgkngefkbeaa
open Go.RowKit

section
variable {P : Program} (w : World)
theorem run_append_nothing (t ty e : TypeId) (i : TypeInfo) (ht : P.underlying t = some (.slice e)) (hi : P.info? e = some i) (hsz : i.size = 1) (blk c : Nat) (x : Value) (hblk : Blk w blk e #[x]) :
    (Builtin.append_ #[t, t] ty #[.slice (some ⟨blk, 0, none⟩) 1 1, .slice none 0 c]).run P w = .ok (.slice (some ⟨blk, 0, none⟩) 1 1) w := by
  simp [Builtin.append_, run_underlying ht, sizeOf, typeInfo, hi, Builtin.lenOf, Builtin.firstCells, storeCells]
/-- what becomes of it: the new slice shows x and xs, and nothing that was there but the block itself has turned -/
theorem run_append_one (t ty e : TypeId) (i : TypeInfo) (z : Value) (bytes : Nat) (ht : P.underlying t = some (.slice e)) (hi : P.info? e = some i) (hz : i.zero = some z) (hsize : i.size = 1) (hby : i.bytes = bytes) (hzs : z.cells.size = 1)
    (blk : Nat) (x : Value) (hblk : Blk w blk e #[x]) (F : Nat → Prop) (A : Option Addr) (c : Nat) (xs : List Value) (hA : Reads F w A xs) (h1 : ∀ u ∈ xs, u.oneCell' = true) (h63 : 1 + xs.length ≤ maxLen) (hbytes : (1 + xs.length) * bytes ≤ 140737488355328) :
    ∃ g cap w', (Builtin.append_ #[t, t] ty #[.slice (some ⟨blk, 0, none⟩) 1 1, .slice A xs.length c]).run P w = .ok (.slice (some ⟨g, 0, none⟩) (1 + xs.length) cap) w' ∧ 1 + xs.length ≤ cap ∧ Reads (blk ≤ ·) w' (some ⟨g, 0, none⟩) (x :: xs) ∧ w.grownBy w' (some blk) := by
  have hown : w.ownsRow blk e 1 (.slice (some ⟨blk, 0, none⟩) 1 1) 1 [x] := ⟨rfl, .inr ⟨blk, 1, #[x], rfl, Nat.le_refl _, hblk, Nat.le_refl _, by unfold maxLen; omega, rfl, rfl⟩⟩
  have key : ∀ (ad : Addr) (ys : List Value), (∀ j u, ys[j]? = some u → w.cell? (ad.add j) = some u) → (∀ u ∈ ys, u.oneCell' = true) → 1 + ys.length ≤ maxLen → (1 + ys.length) * bytes ≤ 140737488355328 →
      ∃ g cap w', (Builtin.append_ #[t, t] ty #[.slice (some ⟨blk, 0, none⟩) 1 1, .slice (some ad) ys.length c]).run P w = .ok (.slice (some ⟨g, 0, none⟩) (1 + ys.length) cap) w' ∧ 1 + ys.length ≤ cap ∧ Reads (blk ≤ ·) w' (some ⟨g, 0, none⟩) (x :: ys) ∧ w.grownBy w' (some blk) := by
    intro ad ys hc h1 h63 hbytes
    obtain ⟨v', w', hr, ho, hg, _, h5⟩ := run_append_own_at (P := P) w blk t ty e i z 1 bytes ht hi hz hsize hby hzs (by omega) _ 1 [x] hown ad ys.length c ys (by simp) hc h1 h63 hbytes (Nat.le_of_lt hblk.lt)
    obtain ⟨g, cap, rfl, _⟩ := ho.form (by omega)
    exact ⟨g, cap, w', hr, Acc.le_ (.inl ho), Reads.of_own ho, hg⟩
  cases xs with
  | nil =>
    cases A with
    | none => exact ⟨blk, 1, w, run_append_nothing w t ty e i ht hi hsize blk c x hblk, Nat.le_refl _, Reads.of_own hown, rfl, rfl, rfl, Nat.le_refl _, fun _ _ _ => rfl⟩
    | some ad => exact key ad [] (fun j u hu => by simp at hu) h1 h63 hbytes
  | cons y ys =>
    obtain ⟨b, o, rfl, _, hlt, hc⟩ := hA (by simp)
    exact key _ (y :: ys) (fun j u hu => by
      rw [show (⟨b, o, none⟩ : Addr).add j = ⟨b, o + j, none⟩ from by unfold Addr.add; split <;> simp_all]
      exact hc j u hu) h1 h63 hbytes
theorem step_append_one {ops : Array Oper} {o : Oper} {a : Act} {K : Act → World → Prop} {Q : Exit → Act → World → Prop} {E : Prop} (hgd : o.guard = none) (s y : Operand) (t : TypeId)
    (ho : o.op = .call { callee := .builtin .append, args := #[s, y], argTypes := #[t, t] })
    (e : TypeId) (i : TypeInfo) (z : Value) (bytes : Nat) (ht : P.underlying t = some (.slice e)) (hi : P.info? e = some i) (hz : i.zero = some z) (hsize : i.size = 1) (hby : i.bytes = bytes) (hzs : z.cells.size = 1)
    (blk : Nat) (x : Value) (hs : a.eval s = .slice (some ⟨blk, 0, none⟩) 1 1) (hblk : Blk w blk e #[x]) (F : Nat → Prop) (A : Option Addr) (c : Nat) (xs : List Value) (hy : a.eval y = .slice A xs.length c) (hA : Reads F w A xs) (h1 : ∀ u ∈ xs, u.oneCell' = true) (h63 : 1 + xs.length ≤ maxLen)
    (hbytes : (1 + xs.length) * bytes ≤ 140737488355328)
    (h : ∀ g cap w', 1 + xs.length ≤ cap → Reads (blk ≤ ·) w' (some ⟨g, 0, none⟩) (x :: xs) → w.grownBy w' (some blk) → K (a.put o.dst (.slice (some ⟨g, 0, none⟩) (1 + xs.length) cap)) w') :
    if Region.wanted o (yielded ops a.tmps) = true then Oper.wp P o a w K Q else E := by
  have hw : Region.wanted o (yielded ops a.tmps) = true := by simp [Region.wanted, hgd]
  rw [if_pos hw]
  obtain ⟨g, cap, w', hr, h1c, h2, h3⟩ := run_append_one (P := P) w t o.type e i z bytes ht hi hz hsize hby hzs blk x hblk F A c xs hA h1 h63 hbytes
  unfold Oper.wp execOp
  simp only [ho, resolve, invoke, builtin, Sem.run_bind, Sem.run_pure, Result.andThen_ok, List.map_toArray, List.map_cons, List.map_nil, hs, hy, hr]
  exact h g cap w' h1c h2 h3
end
end Go.Proofs.Ytpidgkngefkbeaa
