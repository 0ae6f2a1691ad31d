/- The memory of the reference's Ends: a row of ends, three cells each. The walk of the reference's Ends. -/
import Derived.Test.YtpidgkngefkbeaaW12
import Derived.Test.YtpidgkngefkbeaaWB
import Derived.Test.YtpidgkngefkbeaaPB
import Derived.Test.YtpidgkngefkbeaaLA
import Derived.Test.YtpidgkngefkbeaaK1
set_option linter.unusedVariables false
set_option linter.unusedSimpArgs false
namespace Go.Proofs.Ytpidgkngefkbeaa
open Go.RowKit

theorem end3_info : (Try.prog.info? 57).map (fun i => (i.zero, i.size, i.bytes)) = some (some (.agg #[.slice none 0 0, .int .i64 0, .bool false]), 3, 40) := by kernel_rfl

/-- the three cells at place x show the end o -/
def EndC (F : Nat → Prop) (w : World) (g x : Nat) (o : Option EndR) : Prop :=
  match o with
  | none => w.cell? ⟨g, x * 3, none⟩ = some (.slice none 0 0) ∧ w.cell? ⟨g, x * 3 + 1, none⟩ = some (.int .i64 0) ∧ w.cell? ⟨g, x * 3 + 2, none⟩ = some (.bool false)
  | some e => ∃ A c, w.cell? ⟨g, x * 3, none⟩ = some (.slice A e.l.length c) ∧ w.cell? ⟨g, x * 3 + 1, none⟩ = some (.int .i64 e.cost) ∧ w.cell? ⟨g, x * 3 + 2, none⟩ = some (.bool true) ∧ e.l.length ≤ c ∧ SlAt vN F w A e.l
/-- block g begins with the ends E of m modes; their lists lie in blocks of the kind F -/
structure EndRow (F : Nat → Prop) (w : World) (g m : Nat) (E : Nat → Option EndR) : Prop where
  lt : g < w.heap.size
  free : ∀ i, w.frozen? ⟨g, i, none⟩ = false
  at_ : ∀ x, x < m → EndC F w g x (E x)
section
variable {F G : Nat → Prop} {g x m : Nat} {w w' : World} {o : Option EndR} {E : Nat → Option EndR}
theorem EndC.mono (h : EndC F w g x o) (hG : ∀ b, F b → G b) : EndC G w g x o := by
  cases o with
  | none => exact h
  | some e =>
    obtain ⟨A, c, h1, h2, h3, h4, h5⟩ := h
    exact ⟨A, c, h1, h2, h3, h4, Reads.mono h5 hG⟩
theorem EndC.keep (h : EndC F w g x o) (hc : ∀ i, i < 3 → w'.cell? ⟨g, x * 3 + i, none⟩ = w.cell? ⟨g, x * 3 + i, none⟩) (hs : ∀ A l, SlAt vN F w A l → SlAt vN G w' A l) : EndC G w' g x o := by
  have c0 := hc 0 (by omega)
  have c1 := hc 1 (by omega)
  have c2 := hc 2 (by omega)
  rw [Nat.add_zero] at c0
  cases o with
  | none => obtain ⟨h1, h2, h3⟩ := h; exact ⟨c0.trans h1, c1.trans h2, c2.trans h3⟩
  | some e =>
    obtain ⟨A, c, h1, h2, h3, h4, h5⟩ := h
    exact ⟨A, c, c0.trans h1, c1.trans h2, c2.trans h3, h4, hs A e.l h5⟩
theorem EndC.keep' {g' : Nat} (h : EndC F w g x o) (hc : ∀ i, i < 3 → w'.cell? ⟨g', x * 3 + i, none⟩ = w.cell? ⟨g, x * 3 + i, none⟩) (hs : ∀ A l, SlAt vN F w A l → SlAt vN G w' A l) : EndC G w' g' x o := by
  have c0 := hc 0 (by omega)
  have c1 := hc 1 (by omega)
  have c2 := hc 2 (by omega)
  rw [Nat.add_zero] at c0
  cases o with
  | none => obtain ⟨h1, h2, h3⟩ := h; exact ⟨c0.trans h1, c1.trans h2, c2.trans h3⟩
  | some e =>
    obtain ⟨A, c, h1, h2, h3, h4, h5⟩ := h
    exact ⟨A, c, c0.trans h1, c1.trans h2, c2.trans h3, h4, hs A e.l h5⟩
theorem EndRow.mono (h : EndRow F w g m E) (hG : ∀ b, F b → G b) : EndRow G w g m E := ⟨h.lt, h.free, fun x hx => (h.at_ x hx).mono hG⟩
theorem EndRow.below (h : EndRow F w g m E) (hb : Below w.heap.size w w') : EndRow F w' g m E :=
  ⟨Nat.lt_of_lt_of_le h.lt hb.size, fun i => (hb.frozen (p := ⟨g, i, none⟩) h.lt).trans (h.free i), fun x hx => (h.at_ x hx).keep (fun i _ => hb.cell (p := ⟨g, x * 3 + i, none⟩) h.lt) fun A l hl => Reads.below hl hb⟩
/-- a store elsewhere -/
theorem Reads.farF {A : Option Addr} {xs : List Value} (h : Reads F w A xs) {p : Addr} (hp : ∀ b, F b → b ≠ p.block) (u : Value) : Reads F (w.setCell p u) A xs :=
  h.keep (by simp [World.setCell]) fun b hb _ => Below.heap_setCell _ _ _ _ (hp b hb)
theorem EndRow.far (h : EndRow F w g m E) {p : Addr} (hg : g ≠ p.block) (hp : ∀ b, F b → b ≠ p.block) (u : Value) : EndRow F (w.setCell p u) g m E := by
  have hbk : ∀ i : Nat, (w.setCell p u).heap[g]? = w.heap[g]? := fun _ => Below.heap_setCell _ _ _ _ hg
  refine ⟨by simpa [World.setCell] using h.lt, fun i => ?_, fun x hx => (h.at_ x hx).keep (fun i _ => World.cell?_of_block (hbk i)) fun A l hl => Reads.farF hl hp u⟩
  exact (World.frozen?_of_block (a := ⟨g, i, none⟩) (hbk i)).trans (h.free i)
theorem cell_put3 {w : World} {g k : Nat} {u0 u1 u2 v0 v1 v2 : Value} (h0 : w.cell? ⟨g, k, none⟩ = some u0) (h1 : w.cell? ⟨g, k + 1, none⟩ = some u1) (h2 : w.cell? ⟨g, k + 2, none⟩ = some u2) :
    let W := ((w.setCell ⟨g, k, none⟩ v0).setCell ⟨g, k + 1, none⟩ v1).setCell ⟨g, k + 2, none⟩ v2
    W.cell? ⟨g, k, none⟩ = some v0 ∧ W.cell? ⟨g, k + 1, none⟩ = some v1 ∧ W.cell? ⟨g, k + 2, none⟩ = some v2 ∧ (∀ j, j < k ∨ k + 2 < j → W.cell? ⟨g, j, none⟩ = w.cell? ⟨g, j, none⟩) := by
  have n01 : (⟨g, k + 1, none⟩ : Addr) ≠ ⟨g, k, none⟩ := by simp
  have n02 : (⟨g, k + 2, none⟩ : Addr) ≠ ⟨g, k, none⟩ := by simp
  have n12 : (⟨g, k + 2, none⟩ : Addr) ≠ ⟨g, k + 1, none⟩ := by simp
  intro W
  refine ⟨?_, ?_, ?_, fun j hj => ?_⟩
  · show World.cell? _ _ = _
    rw [World.cell?_setCell_other _ _ _ _ n02, World.cell?_setCell_other _ _ _ _ n01]
    exact World.cell?_setCell_same _ _ _ h0
  · show World.cell? _ _ = _
    rw [World.cell?_setCell_other _ _ _ _ n12]
    exact World.cell?_setCell_same _ _ _ ((World.cell?_setCell_other _ _ _ _ n01.symm).trans h1)
  · exact World.cell?_setCell_same _ _ _ ((World.cell?_setCell_other _ _ _ _ n12.symm).trans ((World.cell?_setCell_other _ _ _ _ n02.symm).trans h2))
  · show World.cell? _ _ = _
    rw [World.cell?_setCell_other _ _ _ _ (by intro h; injection h; omega), World.cell?_setCell_other _ _ _ _ (by intro h; injection h; omega), World.cell?_setCell_other _ _ _ _ (by intro h; injection h; omega)]
theorem EndC.some3 (h : EndC F w g x o) : ∃ u0 u1 u2, w.cell? ⟨g, x * 3, none⟩ = some u0 ∧ w.cell? ⟨g, x * 3 + 1, none⟩ = some u1 ∧ w.cell? ⟨g, x * 3 + 2, none⟩ = some u2 ∧ u0.oneCell' = true ∧ u1.oneCell' = true ∧ u2.oneCell' = true := by
  cases o with
  | none => obtain ⟨h1, h2, h3⟩ := h; exact ⟨_, _, _, h1, h2, h3, rfl, rfl, rfl⟩
  | some e => obtain ⟨A, c, h1, h2, h3, h4, h5⟩ := h; exact ⟨_, _, _, h1, h2, h3, rfl, rfl, rfl⟩
/-- the whole end at place x is stored anew -/
theorem EndRow.put (h : EndRow F w g m E) (hF : ∀ b, F b → b ≠ g) (hx : x < m) {e : EndR} {A : Option Addr} {c : Nat} (hA : SlAt vN F w A e.l) (hc : e.l.length ≤ c) :
    EndRow F (((w.setCell ⟨g, x * 3, none⟩ (.slice A e.l.length c)).setCell ⟨g, x * 3 + 1, none⟩ (.int .i64 e.cost)).setCell ⟨g, x * 3 + 2, none⟩ (.bool true)) g m (upd E x (some e)) := by
  obtain ⟨u0, u1, u2, h0, h1, h2, _⟩ := (h.at_ x hx).some3
  obtain ⟨c0, c1, c2, c3⟩ := cell_put3 (v0 := .slice A e.l.length c) (v1 := .int .i64 e.cost) (v2 := .bool true) h0 h1 h2
  have hs : ∀ B l, SlAt vN F w B l → SlAt vN F (((w.setCell ⟨g, x * 3, none⟩ (.slice A e.l.length c)).setCell ⟨g, x * 3 + 1, none⟩ (.int .i64 e.cost)).setCell ⟨g, x * 3 + 2, none⟩ (.bool true)) B l :=
    fun B l hl => Reads.farF (Reads.farF (Reads.farF hl (p := ⟨g, x * 3, none⟩) hF _) (p := ⟨g, x * 3 + 1, none⟩) hF _) (p := ⟨g, x * 3 + 2, none⟩) hF _
  refine ⟨by simpa [World.setCell] using h.lt, fun i => by simpa using h.free i, fun y hy => ?_⟩
  by_cases hyx : y = x
  · subst hyx
    rw [upd_same]
    exact ⟨A, c, c0, c1, c2, hc, hs _ _ hA⟩
  · rw [upd_ne _ _ hyx]
    exact (h.at_ y hy).keep (fun i hi => c3 _ (by omega)) hs
/-- the mark at place x is stored -/
theorem EndRow.mark (h : EndRow F w g m E) (hF : ∀ b, F b → b ≠ g) (hx : x < m) (hE : E x = none) (b : Bool) :
    EndRow F (w.setCell ⟨g, x * 3 + 2, none⟩ (.bool b)) g m (if b = true then upd E x (some ⟨[], 0⟩) else E) := by
  have h0 := h.at_ x hx
  rw [hE] at h0
  obtain ⟨c0, c1, c2⟩ := h0
  have k2 : (w.setCell ⟨g, x * 3 + 2, none⟩ (.bool b)).cell? ⟨g, x * 3 + 2, none⟩ = some (.bool b) := World.cell?_setCell_same _ _ _ c2
  have ko : ∀ j, j ≠ x * 3 + 2 → (w.setCell ⟨g, x * 3 + 2, none⟩ (.bool b)).cell? ⟨g, j, none⟩ = w.cell? ⟨g, j, none⟩ := fun j hj => World.cell?_setCell_other _ _ _ _ (by intro h; injection h; omega)
  refine ⟨by simpa [World.setCell] using h.lt, fun i => by simpa using h.free i, fun y hy => ?_⟩
  by_cases hyx : y = x
  · subst hyx
    cases b with
    | true =>
      rw [if_pos rfl, upd_same]
      exact ⟨none, 0, (ko _ (by omega)).trans c0, (ko _ (by omega)).trans c1, k2, Nat.le_refl _, Reads.nil _⟩
    | false =>
      rw [if_neg (by decide), hE]
      exact ⟨(ko _ (by omega)).trans c0, (ko _ (by omega)).trans c1, k2⟩
  · have : (if b = true then upd E x (some ⟨[], 0⟩) else E) y = E y := by
      split
      · exact upd_ne _ _ hyx
      · rfl
    rw [this]
    exact (h.at_ y hy).keep (fun i hi => ko _ (by omega)) fun A l hl => Reads.farF hl (p := ⟨g, x * 3 + 2, none⟩) hF _
/-- the cells of a row of ends, as a list -/
def EndRow.list (w : World) (g m : Nat) : List Value := (List.range (m * 3)).map fun i => (w.cell? ⟨g, i, none⟩).getD (.bool false)
theorem EndRow.list_len (w : World) (g m : Nat) : (EndRow.list w g m).length = m * 3 := by simp [EndRow.list]
theorem EndRow.cell_some (h : EndRow F w g m E) {i : Nat} (hi : i < m * 3) : ∃ u, w.cell? ⟨g, i, none⟩ = some u ∧ u.oneCell' = true := by
  obtain ⟨u0, u1, u2, h0, h1, h2, o0, o1, o2⟩ := (h.at_ (i / 3) (by omega)).some3
  have h3 : i % 3 = 0 ∨ i % 3 = 1 ∨ i % 3 = 2 := by omega
  rcases h3 with h3 | h3 | h3
  · exact ⟨u0, by rw [← h0]; congr 2; omega, o0⟩
  · exact ⟨u1, by rw [← h1]; congr 2; omega, o1⟩
  · exact ⟨u2, by rw [← h2]; congr 2; omega, o2⟩
theorem EndRow.list_get (h : EndRow F w g m E) {i : Nat} {u : Value} (hu : (EndRow.list w g m)[i]? = some u) : i < m * 3 ∧ w.cell? ⟨g, i, none⟩ = some u := by
  have hi : i < m * 3 := by
    have := (List.getElem?_eq_some_iff.1 hu).1
    rwa [EndRow.list_len] at this
  obtain ⟨u', h1, _⟩ := h.cell_some hi
  simp only [EndRow.list, List.getElem?_map, List.getElem?_range hi, Option.map_some, h1, Option.getD_some, Option.some.injEq] at hu
  subst hu
  exact ⟨hi, h1⟩
theorem EndRow.reads (h : EndRow F w g m E) : Reads (fun _ => True) w (some ⟨g, 0, none⟩) (EndRow.list w g m) := fun _ =>
  ⟨g, 0, rfl, trivial, h.lt, fun j u hu => by rw [Nat.zero_add]; exact (h.list_get hu).2⟩
theorem EndRow.one (h : EndRow F w g m E) : ∀ u ∈ EndRow.list w g m, u.oneCell' = true := by
  intro u hu
  obtain ⟨i, hi⟩ := List.getElem?_of_mem hu
  obtain ⟨h1, h2⟩ := h.list_get hi
  obtain ⟨u', h3, h4⟩ := h.cell_some h1
  rw [h2] at h3
  injection h3 with h3
  rw [h3]
  exact h4
/-- a copy of the row in a block of its own -/
theorem EndRow.copy {base B cap : Nat} (h : EndRow F w g m E) (ho : w'.ownsRow base 57 3 (.slice (some ⟨B, 0, none⟩) m cap) m (EndRow.list w g m)) (hs : ∀ A l, SlAt vN F w A l → SlAt vN G w' A l) : EndRow G w' B m E := by
  have hr := Reads.of_own ho
  have hBl : B < w'.heap.size := (ho.lt B (by simp [Value.ownBlock])).2
  refine ⟨hBl, fun i => ?_, fun x hx => (h.at_ x hx).keep' ?_ hs⟩
  · rcases ho.2 with ⟨hv, _⟩ | ⟨g', cap', cur, hv, _, hh, _⟩
    · cases hv
    · injection hv with h1
      injection h1 with h1
      injection h1 with h1
      subst h1
      exact Blk.free (show Blk w' B _ cur from hh) i
  · intro i hi
    have hlt : x * 3 + i < m * 3 := by omega
    obtain ⟨u, h1, _⟩ := h.cell_some hlt
    have hu : (EndRow.list w g m)[x * 3 + i]? = some u := by simp [EndRow.list, List.getElem?_range hlt, h1]
    obtain ⟨b', o', e0, _, _, hc⟩ := hr (by intro h0; rw [h0] at hu; simp at hu)
    injection e0 with e0
    injection e0 with e0 e1
    subst e0 e1
    have := hc _ _ hu
    rw [Nat.zero_add] at this
    exact this.trans h1.symm
end
end Go.Proofs.Ytpidgkngefkbeaa
namespace Go.Proofs.Ytpidgkngefkbeaa
open Go.RowKit Go.Maps Go.WideElems

section
variable {P : Program} (w : World)
theorem wp_append_one {o : Oper} {a : Act} {K : Act → World → Prop} {Q : Exit → Act → World → Prop} (s y : Operand) (t : TypeId)
    (ho : o.op = .call { callee := .builtin .append, args := #[s, y], argTypes := #[t, t] })
    (e : TypeId) (i : TypeInfo) (z : Value) (bytes : Nat) (ht : P.underlying t = some (.slice e)) (hi : P.info? e = some i) (hz : i.zero = some z) (hsize : i.size = 1) (hby : i.bytes = bytes) (hzs : z.cells.size = 1)
    (blk : Nat) (x : Value) (hs : a.eval s = .slice (some ⟨blk, 0, none⟩) 1 1) (hblk : Blk w blk e #[x]) (F : Nat → Prop) (A : Option Addr) (c : Nat) (xs : List Value) (n : Nat) (hnx : xs.length = n) (hy : a.eval y = .slice A n c) (hA : Reads F w A xs) (h1 : ∀ u ∈ xs, u.oneCell' = true) (h63 : 1 + n ≤ maxLen)
    (hbytes : (1 + n) * bytes ≤ 140737488355328)
    (h : ∀ g cap w', 1 + n ≤ cap → Reads (blk ≤ ·) w' (some ⟨g, 0, none⟩) (x :: xs) → w.grownBy w' (some blk) → K (a.put o.dst (.slice (some ⟨g, 0, none⟩) (1 + n) cap)) w') : o.wp P a w K Q := by
  subst hnx
  obtain ⟨g, cap, w', hr, h1c, h2, h3⟩ := run_append_one (P := P) w t o.type e i z bytes ht hi hz hsize hby hzs blk x hblk F A c xs hA h1 h63 hbytes
  unfold Oper.wp execOp
  simp only [ho, resolve, invoke, builtin, Sem.run_bind, Sem.run_pure, Result.andThen_ok, List.map_toArray, List.map_cons, List.map_nil, hs, hy, hr]
  exact h g cap w' h1c h2 h3
theorem wpList_append_one {ops : Array Oper} {rest : List Oper} {o : Oper} {a : Act} {Q : Exit → Act → World → Prop} (hgd : o.guard = none) (s y : Operand) (t : TypeId)
    (ho : o.op = .call { callee := .builtin .append, args := #[s, y], argTypes := #[t, t] })
    (e : TypeId) (i : TypeInfo) (z : Value) (bytes : Nat) (ht : P.underlying t = some (.slice e)) (hi : P.info? e = some i) (hz : i.zero = some z) (hsize : i.size = 1) (hby : i.bytes = bytes) (hzs : z.cells.size = 1)
    (blk : Nat) (x : Value) (hs : a.eval s = .slice (some ⟨blk, 0, none⟩) 1 1) (hblk : Blk w blk e #[x]) (F : Nat → Prop) (A : Option Addr) (c : Nat) (xs : List Value) (n : Nat) (hnx : xs.length = n) (hy : a.eval y = .slice A n c) (hA : Reads F w A xs) (h1 : ∀ u ∈ xs, u.oneCell' = true) (h63 : 1 + n ≤ maxLen)
    (hbytes : (1 + n) * bytes ≤ 140737488355328)
    (h : ∀ g cap w', 1 + n ≤ cap → Reads (blk ≤ ·) w' (some ⟨g, 0, none⟩) (x :: xs) → w.grownBy w' (some blk) → wpList P ops Q rest (a.put o.dst (.slice (some ⟨g, 0, none⟩) (1 + n) cap)) w') : wpList P ops Q (o :: rest) a w :=
  wpList_plain hgd fun _ hK => wp_append_one w s y t ho e i z bytes ht hi hz hsize hby hzs blk x hs hblk F A c xs n hnx hy hA h1 h63 hbytes fun g cap w' h1 h2 h3 => hK _ _ (h g cap w' h1 h2 h3)
theorem wp_append_all {o : Oper} {a : Act} {K : Act → World → Prop} {Q : Exit → Act → World → Prop} (s y : Operand) (t : TypeId)
    (ho : o.op = .call { callee := .builtin .append, args := #[s, y], argTypes := #[t, t] })
    (e : TypeId) (i : TypeInfo) (z : Value) (size bytes : Nat) (ht : P.underlying t = some (.slice e)) (hi : P.info? e = some i) (hz : i.zero = some z) (hsize : i.size = size) (hby : i.bytes = bytes) (hzs : z.cells.size = size) (hsz : 0 < size)
    (blk : Nat) (hs : a.eval s = .slice (some ⟨blk, 0, none⟩) 0 0) (hblk : Blk w blk e #[]) (F : Nat → Prop) (A : Option Addr) (n c : Nat) (xs : List Value) (hy : a.eval y = .slice A n c) (hA : Reads F w A xs) (hl : xs.length = n * size) (h1 : ∀ u ∈ xs, u.oneCell' = true) (h63 : n ≤ maxLen) (hbytes : n * bytes ≤ 140737488355328)
    (h : ∀ g cap w', w'.ownsRow blk e size (.slice (some ⟨g, 0, none⟩) n cap) n xs → w.grownBy w' (some blk) → K (a.put o.dst (.slice (some ⟨g, 0, none⟩) n cap)) w') : o.wp P a w K Q := by
  obtain ⟨g, cap, w', hr, h2, h3⟩ := run_append_all (P := P) w t o.type e i z size bytes ht hi hz hsize hby hzs hsz blk hblk F A n c xs hA hl h1 h63 hbytes
  unfold Oper.wp execOp
  simp only [ho, resolve, invoke, builtin, Sem.run_bind, Sem.run_pure, Result.andThen_ok, List.map_toArray, List.map_cons, List.map_nil, hs, hy, hr]
  exact h g cap w' h2 h3
theorem wpList_append_all {ops : Array Oper} {rest : List Oper} {o : Oper} {a : Act} {Q : Exit → Act → World → Prop} (hgd : o.guard = none) (s y : Operand) (t : TypeId)
    (ho : o.op = .call { callee := .builtin .append, args := #[s, y], argTypes := #[t, t] })
    (e : TypeId) (i : TypeInfo) (z : Value) (size bytes : Nat) (ht : P.underlying t = some (.slice e)) (hi : P.info? e = some i) (hz : i.zero = some z) (hsize : i.size = size) (hby : i.bytes = bytes) (hzs : z.cells.size = size) (hsz : 0 < size)
    (blk : Nat) (hs : a.eval s = .slice (some ⟨blk, 0, none⟩) 0 0) (hblk : Blk w blk e #[]) (F : Nat → Prop) (A : Option Addr) (n c : Nat) (xs : List Value) (hy : a.eval y = .slice A n c) (hA : Reads F w A xs) (hl : xs.length = n * size) (h1 : ∀ u ∈ xs, u.oneCell' = true) (h63 : n ≤ maxLen) (hbytes : n * bytes ≤ 140737488355328)
    (h : ∀ g cap w', w'.ownsRow blk e size (.slice (some ⟨g, 0, none⟩) n cap) n xs → w.grownBy w' (some blk) → wpList P ops Q rest (a.put o.dst (.slice (some ⟨g, 0, none⟩) n cap)) w') : wpList P ops Q (o :: rest) a w :=
  wpList_plain hgd fun _ hK => wp_append_all w s y t ho e i z size bytes ht hi hz hsize hby hzs hsz blk hs hblk F A n c xs hy hA hl h1 h63 hbytes fun g cap w' h2 h3 => hK _ _ (h g cap w' h2 h3)
end

theorem made_get (z : Array Value) (n i : Nat) (hi : i < n) : (madeCells z n)[i]? = some (z[i % z.size]!) := by
  simp [madeCells, hi]
theorem run_make_ends (m : Nat) (hm : m ≤ 8) (w : World) : (Instr.makeSlice 75 (.int .i64 (m : Int)) (.int .i64 (m : Int))).run Try.prog w = .ok (.slice (some ⟨w.heap.size, 0, none⟩) m m) (w.alloc (.cells (madeCells #[.slice none 0 0, .int .i64 0, .bool false] (m * 3)) 57)) := by
  obtain ⟨i, hi, hz, hs, hb⟩ := info_parts end3_info
  have h := run_make (P := Try.prog) w 75 57 i _ Try.underlying75 hi hz .i64 .i64 m m (by omega) (Int.le_refl _) (by rw [hb]; omega) (by omega)
  simp only [Int.toNat_natCast, hs] at h
  exact h
theorem EndRow.made (F : Nat → Prop) {w : World} {g m : Nat} (h : Blk w g 57 (madeCells #[.slice none 0 0, .int .i64 0, .bool false] (m * 3))) : EndRow F w g m (fun _ => none) := by
  refine ⟨h.lt, h.free, fun x hx => ⟨?_, ?_, ?_⟩⟩
  · rw [h.cell, made_get _ _ _ (by omega)]
    have : x * 3 % 3 = 0 := by omega
    simp [this]
  · rw [h.cell, made_get _ _ _ (by omega)]
    have : (x * 3 + 1) % 3 = 1 := by omega
    simp [this]
  · rw [h.cell, made_get _ _ _ (by omega)]
    have : (x * 3 + 2) % 3 = 2 := by omega
    simp [this]
/-- at the head of the outer loop -/
structure EnW (m ac : Nat) (A : Option Addr) (n c : Nat) (w W : World) (g : Nat) (E : Nat → Option EndR) : Prop where
  bel : Below w.heap.size w W
  hg : w.heap.size < g
  b0 : Blk W w.heap.size 30 #[.int .i64 m, .int .u8 ac, .slice A n c]
  row : EndRow (fun b => w.heap.size < b ∧ b ≠ g) W g m E
/-- within a round -/
structure EnM (m ac : Nat) (A : Option Addr) (n c : Nat) (w W : World) (g h : Nat) (E N : Nat → Option EndR) : Prop where
  bel : Below w.heap.size w W
  hg : w.heap.size < g
  hh : w.heap.size < h
  ne : g ≠ h
  b0 : Blk W w.heap.size 30 #[.int .i64 m, .int .u8 ac, .slice A n c]
  r1 : EndRow (fun b => w.heap.size < b ∧ b ≠ g ∧ b ≠ h) W g m E
  r2 : EndRow (fun b => w.heap.size < b ∧ b ≠ g ∧ b ≠ h) W h m N
section
variable {m ac : Nat} {A : Option Addr} {n c : Nat} {w W W' : World} {g h : Nat} {E N : Nat → Option EndR}
theorem EnW.next (x : EnW m ac A n c w W g E) (hb : Below W.heap.size W W') : EnW m ac A n c w W' g E := ⟨x.bel.trans (hb.mono x.bel.size), x.hg, x.b0.next hb, x.row.below hb⟩
theorem EnM.next (x : EnM m ac A n c w W g h E N) (hb : Below W.heap.size W W') : EnM m ac A n c w W' g h E N := ⟨x.bel.trans (hb.mono x.bel.size), x.hg, x.hh, x.ne, x.b0.next hb, x.r1.below hb, x.r2.below hb⟩
theorem EnM.out (x : EnM m ac A n c w W g h E N) : EnW m ac A n c w W h N := ⟨x.bel, x.hh, x.b0, x.r2.mono fun b hb => ⟨hb.1, hb.2.2⟩⟩
theorem EnW.mark {k : Nat} (x : EnW m ac A n c w W g (startO ac k)) (hk : k < m) : EnW m ac A n c w (W.setCell ⟨g, k * 3 + 2, none⟩ (.bool (accB ac k))) g (startO ac (k + 1)) := by
  have hg := x.hg
  have h0 : startO ac k k = none := by unfold startO; rw [if_neg (by omega)]
  have h1 := x.row.mark (fun b hb => hb.2) hk h0 (accB ac k)
  refine ⟨x.bel.setCell (p := ⟨g, k * 3 + 2, none⟩) (Nat.le_of_lt hg) _, hg, x.b0.far (by simp; omega) _, ?_⟩
  cases ha : accB ac k with
  | true => rw [ha, if_pos rfl] at h1; rw [startO_yes ha]; exact h1
  | false => rw [ha, if_neg (by decide)] at h1; rw [startO_no ha]; exact h1
theorem EnM.put (x : EnM m ac A n c w W g h E N) {q : Nat} (hq : q < m) {e : EndR} {B : Option Addr} {d : Nat} (hB : SlAt vN (fun b => w.heap.size < b ∧ b ≠ g ∧ b ≠ h) W B e.l) (hd : e.l.length ≤ d) :
    EnM m ac A n c w (((W.setCell ⟨h, q * 3, none⟩ (.slice B e.l.length d)).setCell ⟨h, q * 3 + 1, none⟩ (.int .i64 e.cost)).setCell ⟨h, q * 3 + 2, none⟩ (.bool true)) g h E (upd N q (some e)) := by
  have hh := Nat.le_of_lt x.hh
  have hne := Nat.ne_of_lt x.hh
  refine ⟨((x.bel.setCell (p := ⟨h, q * 3, none⟩) hh _).setCell (p := ⟨h, q * 3 + 1, none⟩) hh _).setCell (p := ⟨h, q * 3 + 2, none⟩) hh _, x.hg, x.hh, x.ne, ((x.b0.far hne _).far hne _).far hne _, ?_, x.r2.put (fun b hb => hb.2.2) hq hB hd⟩
  exact ((x.r1.far (p := ⟨h, q * 3, none⟩) x.ne (fun b hb => hb.2.2) _).far (p := ⟨h, q * 3 + 1, none⟩) x.ne (fun b hb => hb.2.2) _).far (p := ⟨h, q * 3 + 2, none⟩) x.ne (fun b hb => hb.2.2) _
/-- the next row is begun -/
theorem EnM.begin {cap B : Nat} {C : Array Value} {t : TypeId} {w4 : World} (x : EnW m ac A n c w W g E) (hg : (W.alloc (.cells C t)).grownBy w4 (some W.heap.size)) (ho : w4.ownsRow W.heap.size 57 3 (.slice (some ⟨B, 0, none⟩) m cap) m (EndRow.list W g m)) : EnM m ac A n c w w4 g B E E := by
  have hb : Below W.heap.size W w4 := (below_one W _).grown hg (by simp) (fun k hk => Nat.le_of_eq (Option.some.inj hk))
  have hB : W.heap.size ≤ B := (ho.lt B (by simp [Value.ownBlock])).1
  have hl := x.row.lt
  have hs := x.bel.size
  have hgg := x.hg
  have hk : ∀ D l, SlAt vN (fun b => w.heap.size < b ∧ b ≠ g) W D l → SlAt vN (fun b => w.heap.size < b ∧ b ≠ g ∧ b ≠ B) w4 D l := by
    intro D l hl
    have h2 := Reads.below hl hb
    intro hn
    obtain ⟨b, o, e1, e2, e3, e4⟩ := hl hn
    obtain ⟨b', o', e1', e2', e3', e4'⟩ := h2 hn
    rw [e1] at e1'
    injection e1' with e1'
    injection e1' with e1' e1''
    subst e1' e1''
    exact ⟨b, o, e1, ⟨e2.1, e2.2, by omega⟩, e3', e4'⟩
  refine ⟨x.bel.trans (hb.mono hs), hgg, by omega, by omega, x.b0.next hb, ?_, x.row.copy ho hk⟩
  have h1 := x.row
  exact ⟨Nat.lt_of_lt_of_le h1.lt hb.size, fun i => (hb.frozen (p := ⟨g, i, none⟩) h1.lt).trans (h1.free i), fun y hy => (h1.at_ y hy).keep (fun i _ => hb.cell (p := ⟨g, y * 3 + i, none⟩) h1.lt) hk⟩
end
theorem Bnd.mono {E : Nat → Option EndR} {j k : Nat} (h : Bnd E j) (hj : j ≤ k) : Bnd E k := fun x e he => by
  have := h x e he
  omega
/-- behind the building of a new end -/
def EnCut (m ac : Nat) (A : Option Addr) (n c : Nat) (w : World) (g h : Nat) (E N : Nat → Option EndR) (X : Nat) (r : Rule) (e : EndR) (v : Value) (wx : World) : Prop :=
  ∃ Y B d, v = .pointer (some ⟨Y, 0, none⟩) ∧ EnM m ac A n c w wx g h E N ∧ Blk wx X 53 #[.int .i64 r.frm, .int .i64 r.dst, .string r.inp, .string r.out, .int .i64 r.cost] ∧
    Blk wx Y 57 #[.slice B e.l.length d, .int .i64 e.cost, .bool true] ∧ SlAt vN (fun b => w.heap.size < b ∧ b ≠ g ∧ b ≠ h) wx B e.l ∧ e.l.length ≤ d
section
variable {m ac : Nat} {A : Option Addr} {n c : Nat} {w W w5 : World} {g h : Nat} {E N : Nat → Option EndR} {X : Nat} {r : Rule} {e : EndR} {i B cap Y : Nat}
theorem EnM.fresh {A' : Option Addr} {xs : List Value} (x : EnM m ac A n c w W g h E N) (hr : Reads (W.heap.size ≤ ·) w5 A' xs) : Reads (fun b => w.heap.size < b ∧ b ≠ g ∧ b ≠ h) w5 A' xs := by
  have h1 := x.bel.size
  have h2 := x.r1.lt
  have h3 := x.r2.lt
  have h4 := x.b0.lt
  exact hr.mono fun b hb => ⟨by omega, by omega, by omega⟩
theorem EnCut.fresh (x : EnM m ac A n c w W g h E N) (bX : Blk W X 53 #[.int .i64 r.frm, .int .i64 r.dst, .string r.inp, .string r.out, .int .i64 r.cost]) (hs : SlAt vN (fun b => w.heap.size < b ∧ b ≠ g ∧ b ≠ h) W (some ⟨B, 0, none⟩) (i :: e.l)) (hcap : 1 + e.l.length ≤ cap) {W' : World} (hb : Below W.heap.size W W') :
    EnCut m ac A n c w g h E N X r (e.ext i r.cost) (.pointer (some ⟨W'.heap.size, 0, none⟩)) (W'.alloc (.cells #[.slice (some ⟨B, 0, none⟩) (1 + e.l.length) cap, .int .i64 (r.cost + e.cost), .bool true] 57)) := by
  have hb2 := hb.alloc hb.size (.cells #[.slice (some ⟨B, 0, none⟩) (1 + e.l.length) cap, .int .i64 (r.cost + e.cost), .bool true] 57)
  refine ⟨_, some ⟨B, 0, none⟩, cap, rfl, x.next hb2, bX.next hb2, ?_, Reads.below hs hb2, by simp only [EndR.ext, List.length_cons]; omega⟩
  have h0 := Blk.new W' 57 #[.slice (some ⟨B, 0, none⟩) (1 + e.l.length) cap, .int .i64 (r.cost + e.cost), .bool true]
  simp only [EndR.ext, List.length_cons, Nat.add_comm e.l.length 1, Int.natCast_add]
  exact h0
theorem EnCut.stored (x : EnM m ac A n c w W g h E N) (bX : Blk W X 53 #[.int .i64 r.frm, .int .i64 r.dst, .string r.inp, .string r.out, .int .i64 r.cost]) (hs : SlAt vN (fun b => w.heap.size < b ∧ b ≠ g ∧ b ≠ h) W (some ⟨B, 0, none⟩) (i :: e.l)) (hcap : 1 + e.l.length ≤ cap) {W' : World} (hb : Below W.heap.size W W') (hY : W.heap.size ≤ Y)
    (bY : Blk W' Y 57 #[.slice none 0 0, .int .i64 0, .bool false]) :
    EnCut m ac A n c w g h E N X r (e.ext i r.cost) (.pointer (some ⟨Y, 0, none⟩)) (((W'.setCell ⟨Y, 0, none⟩ (.slice (some ⟨B, 0, none⟩) (1 + e.l.length) cap)).setCell ⟨Y, 1, none⟩ (.int .i64 (r.cost + e.cost))).setCell ⟨Y, 2, none⟩ (.bool true)) := by
  have hb2 := ((hb.setCell (p := ⟨Y, 0, none⟩) hY (.slice (some ⟨B, 0, none⟩) (1 + e.l.length) cap)).setCell (p := ⟨Y, 1, none⟩) hY (.int .i64 (r.cost + e.cost))).setCell (p := ⟨Y, 2, none⟩) hY (.bool true)
  refine ⟨_, some ⟨B, 0, none⟩, cap, rfl, x.next hb2, bX.next hb2, ?_, Reads.below hs hb2, by simp only [EndR.ext, List.length_cons]; omega⟩
  have h0 := ((bY.set 0 (.slice (some ⟨B, 0, none⟩) (1 + e.l.length) cap)).set 1 (.int .i64 (r.cost + e.cost))).set 2 (.bool true)
  simp only [EndR.ext, List.length_cons, Nat.add_comm e.l.length 1, Int.natCast_add]
  exact h0
end
/-- what Ends hands back -/
def EndsRes (acc : Nat → Bool) (rs : List Rule) (m : Nat) (w : World) (e : Ending) (w' : World) : Prop :=
  ∃ g cap E, e = .returned (.slice (some ⟨g, 0, none⟩) m cap) ∧ Below w.heap.size w w' ∧ w.heap.size < g ∧ EndRow (fun b => w.heap.size < b ∧ b ≠ g) w' g m E ∧ (∀ x, x < m → LeastK acc rs m x (E x)) ∧ Bnd E m
end Go.Proofs.Ytpidgkngefkbeaa
