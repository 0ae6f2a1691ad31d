/- A slice that the call itself gathers: it lies in a row of its own, or it is full and only read so far. What append does to it, in one law for both; as a step of the walk and as a step of a region that draws its order. No program is in sight here. -/
import Derived.Test.YtpidgkngefkbeaaL1
import Derived.Deep.Onto
import Derived.Maps.AppendAt
import Derived.ArgAppend
import Derived.Lib.SmallJoins
set_option linter.unusedVariables false
set_option linter.unusedSimpArgs false
namespace Go.Proofs.Ytpidgkngefkbeaa
open Go.RowKit

/-- The slice value (A, n, c) holds the cells xs; it may be appended to: its row is the call's own (from block base on), or it is full. -/
def Acc (base : Nat) (w : World) (e : TypeId) (size : Nat) (A : Option Addr) (n c : Nat) (xs : List Value) : Prop :=
  w.ownsRow base e size (.slice A n c) n xs ∨ (c = n ∧ xs.length = n * size ∧ (A = none → n = 0) ∧ Reads (base ≤ ·) w A xs)

/-- The one row that append may have written: of elements of type e, from block base on. -/
def RowOk (base : Nat) (w : World) (e : TypeId) (row : Option Nat) : Prop := ∀ k, row = some k → base ≤ k ∧ ∃ cur, w.heap[k]? = some (.cells cur e (0, 0))

section
variable {base B n c : Nat} {w w' : World} {e : TypeId} {size : Nat} {A : Option Addr} {xs : List Value} {row : Option Nat}
theorem Acc.length (h : Acc base w e size A n c xs) : xs.length = n * size := by
  rcases h with h | h
  · exact h.1
  · exact h.2.1
theorem Acc.nil (base : Nat) (w : World) (e : TypeId) (size : Nat) : Acc base w e size none 0 0 [] := .inl (World.ownsRow_nil w base e size)
theorem Acc.reads (h : Acc base w e size A n c xs) : Reads (base ≤ ·) w A xs := by
  rcases h with h | h
  · exact Reads.of_own h
  · exact h.2.2.2
/-- nothing that was there has turned -/
theorem Acc.below (h : Acc base w e size A n c xs) (hb : Below w.heap.size w w') : Acc base w' e size A n c xs := by
  rcases h with h | ⟨h1, h2, h3, h4⟩
  · refine .inl (h.kept (row := none) ⟨hb.os, hb.tape, hb.output, hb.size, fun k hk _ => hb.block k hk⟩ ?_)
    cases hv : (Value.slice A n c).ownBlock <;> simp
  · exact .inr ⟨h1, h2, h3, h4.below hb⟩
theorem Acc.le_ (h : Acc base w e size A n c xs) : n ≤ c := by
  rcases h with h | h
  · rcases h.2 with ⟨hv, h0⟩ | ⟨g, cap, cur, hv, hg, hh, hnc, _⟩
    · omega
    · injection hv; omega
  · omega
/-- a store below the base -/
theorem Acc.low {p : Addr} (h : Acc base w e size A n c xs) (hp : p.block < base) (u : Value) : Acc base (w.setCell p u) e size A n c xs := by
  rcases h with h | ⟨h1, h2, h3, h4⟩
  · exact .inl (ownsRow_setCell_below h hp u)
  · refine .inr ⟨h1, h2, h3, fun hn => ?_⟩
    obtain ⟨b, o, e1, e2, e3, e4⟩ := h4 hn
    exact ⟨b, o, e1, e2, by simpa [World.setCell] using e3, fun j u hu => (World.cell?_of_block (Below.heap_setCell _ _ _ _ (show b ≠ p.block by omega))).trans (e4 j u hu)⟩
theorem Acc.mono {base' : Nat} (h : Acc base w e size A n c xs) (hb : base' ≤ base) : Acc base' w e size A n c xs := by
  rcases h with h | ⟨h1, h2, h3, h4⟩
  · exact .inl (h.mono hb)
  · exact .inr ⟨h1, h2, h3, h4.mono fun b h => Nat.le_trans hb h⟩
/-- a store into a block of another element type -/
theorem Acc.far {p : Addr} {t : TypeId} {cs : Array Value} (h : w.ownsRow base e size (.slice A n c) n xs) (hp : Blk w p.block t cs) (hne : t ≠ e) (u : Value) : (w.setCell p u).ownsRow base e size (.slice A n c) n xs := by
  refine ⟨h.1, ?_⟩
  rcases h.2 with hn | ⟨g, cap, cur, hv, hg, hh, r⟩
  · exact .inl hn
  · refine .inr ⟨g, cap, cur, hv, hg, ?_, r⟩
    rw [Below.heap_setCell _ _ _ _ ?_]
    · exact hh
    · rintro rfl
      unfold Blk at hp
      rw [hh] at hp
      injection hp with hp
      injection hp with _ ht
      exact hne ht.symm
theorem Blk.rowOk {b : Nat} {t : TypeId} {cs : Array Value} (h : Blk w b t cs) (hg : w.grownBy w' row) (hr : RowOk base w e row) (hne : t ≠ e) : Blk w' b t cs := by
  refine h.grown hg fun hb => ?_
  obtain ⟨_, cur, hc⟩ := hr b hb.symm
  unfold Blk at h
  rw [h] at hc
  injection hc with hc
  injection hc with _ ht
  exact hne ht
theorem below_rowOk {a : World} (h : Below B a w) (hg : w.grownBy w' row) (hr : RowOk base w e row) (hB : B ≤ base) (hs : B ≤ w.heap.size) : Below B a w' :=
  h.grown hg hs fun k hk => Nat.le_trans hB (hr k hk).1
/-- what lies in other blocks than the row reads as before -/
theorem Reads.rowOk {F : Nat → Prop} {A' : Option Addr} {ys : List Value} (h : Reads F w A' ys) (hg : w.grownBy w' row) (hr : RowOk base w e row) (hF : ∀ b, F b → b < base) : Reads F w' A' ys := by
  refine h.keep hg.size fun b hb hl => hg.block b hl fun hk => ?_
  have h1 := hF b hb
  have h2 := (hr b hk.symm).1
  omega
end

section
variable {P : Program} (w : World)
theorem run_append_acc (base : Nat) (t ty e : TypeId) (i : TypeInfo) (z : Value) (size bytes : Nat) (ht : P.underlying t = some (.slice e)) (hi : P.info? e = some i) (hz : i.zero = some z)
    (hsize : i.size = size) (hby : i.bytes = bytes) (hzs : z.cells.size = size) (hsz : 0 < size)
    (A : Option Addr) (n c : Nat) (xs : List Value) (hacc : Acc base w e size A n c xs)
    (b : Nat) (t2 : TypeId) (fr : Nat × Nat) (m c2 : Nat) (news : Array Value) (hl : news.size = m * size) (hblk : w.heap[b]? = some (.cells news t2 fr)) (h1 : ∀ u ∈ news.toList, u.oneCell' = true)
    (hm : 0 < m) (h63 : n + m ≤ maxLen) (hbytes : (n + m) * bytes ≤ 140737488355328) (hbase : base ≤ w.heap.size) :
    ∃ g cap w' row, (Builtin.append_ #[t, t] ty #[.slice A n c, .slice (some ⟨b, 0, none⟩) m c2]).run P w = .ok (.slice (some ⟨g, 0, none⟩) (n + m) cap) w' ∧
      w'.ownsRow base e size (.slice (some ⟨g, 0, none⟩) (n + m) cap) (n + m) (xs ++ news.toList) ∧ w.grownBy w' row ∧ RowOk base w e row ∧ (row = some g ∨ w.heap.size ≤ g) ∧ g < w'.heap.size := by
  have hnews : ∀ j u, news.toList[j]? = some u → w.cell? ((⟨b, 0, none⟩ : Addr).add j) = some u := by
    intro j u hu
    rw [show (⟨b, 0, none⟩ : Addr).add j = ⟨b, j, none⟩ from by unfold Addr.add; split <;> simp_all]
    rw [cell_of_row _ _ _ _ _ _ hblk]
    simpa using hu
  have hll : news.toList.length = m * size := by simpa using hl
  rcases hacc with h | ⟨h1', h2, h3, h4⟩
  · obtain ⟨v', w', hr, ho, hg, _, h5⟩ := run_append_own_at (P := P) w base t ty e i z size bytes ht hi hz hsize hby hzs hsz _ n xs h ⟨b, 0, none⟩ m c2 news.toList hll hnews h1 h63 hbytes hbase
    obtain ⟨g, cap, rfl, _⟩ := ho.form (by omega)
    have hlt : g < w'.heap.size := (ho.lt g (by simp [Value.ownBlock])).2
    refine ⟨g, cap, w', _, hr, ho, hg, ?_, ?_, hlt⟩
    · intro k hk
      rcases h.2 with ⟨hv, _⟩ | ⟨g', cap', cur, hv, hb', hh, _⟩
      · rw [hv] at hk; simp [Value.ownBlock] at hk
      · rw [hv] at hk
        have : k = g' := by simpa [Value.ownBlock] using hk.symm
        subst this
        exact ⟨hb', cur, hh⟩
    · rcases h5 with h5 | h5
      · left; rw [← h5]; simp [Value.ownBlock]
      · right
        have : g = w.heap.size := by simpa [Value.ownBlock] using h5
        omega
  · subst h1'
    cases A with
    | none =>
      obtain rfl : c = 0 := h3 rfl
      obtain rfl : xs = [] := List.eq_nil_of_length_eq_zero (by simpa using h2)
      obtain ⟨v', w', hr, ho, hg, _, h5⟩ := run_append_own_at (P := P) w base t ty e i z size bytes ht hi hz hsize hby hzs hsz _ 0 [] (World.ownsRow_nil w base e size) ⟨b, 0, none⟩ m c2 news.toList hll hnews h1 h63 hbytes hbase
      obtain ⟨g, cap, rfl, _⟩ := ho.form (by omega)
      have hlt : g < w'.heap.size := (ho.lt g (by simp [Value.ownBlock])).2
      refine ⟨g, cap, w', none, hr, ho, hg, fun k hk => by simp at hk, ?_, hlt⟩
      rcases h5 with h5 | h5
      · simp [Value.ownBlock] at h5
      · right
        have : g = w.heap.size := by simpa [Value.ownBlock] using h5
        omega
    | some ad =>
      have hcells : ∀ j u, xs[j]? = some u → w.cell? (ad.add j) = some u := by
        intro j u hu
        obtain ⟨b', o, hA, _, _, hc⟩ := h4 (by rintro rfl; simp at hu)
        injection hA with hA
        subst hA
        rw [show (⟨b', o, none⟩ : Addr).add j = ⟨b', o + j, none⟩ from by unfold Addr.add; split <;> simp_all]
        exact hc j u hu
      obtain ⟨v', w', hr, ho, hg⟩ := run_append_arg_grows (P := P) w t ty e i z size bytes ht hi hz hsize hby hzs hsz ad c c xs h2 hcells ⟨b, 0, none⟩ m c2 news.toList hll hnews (by omega) h63 hbytes
      obtain ⟨g, cap, rfl, _⟩ := ho.form (by omega)
      have hlt := ho.lt g (by simp [Value.ownBlock])
      exact ⟨g, cap, w', none, hr, ho.mono hbase, hg, fun k hk => by simp at hk, .inr hlt.1, hlt.2⟩

theorem wp_append_acc {o : Oper} {a : Act} {K : Act → World → Prop} {Q : Exit → Act → World → Prop} (s x : Operand) (t : TypeId)
    (ho : o.op = .call { callee := .builtin .append, args := #[s, x], argTypes := #[t, t] })
    (base : Nat) (e : TypeId) (i : TypeInfo) (z : Value) (size bytes : Nat) (ht : P.underlying t = some (.slice e)) (hi : P.info? e = some i) (hz : i.zero = some z)
    (hsize : i.size = size) (hby : i.bytes = bytes) (hzs : z.cells.size = size) (hsz : 0 < size)
    (A : Option Addr) (n c : Nat) (xs : List Value) (hs : a.eval s = .slice A n c) (hacc : Acc base w e size A n c xs)
    (b : Nat) (t2 : TypeId) (fr : Nat × Nat) (m c2 : Nat) (news : Array Value) (hx : a.eval x = .slice (some ⟨b, 0, none⟩) m c2) (hl : news.size = m * size) (hblk : w.heap[b]? = some (.cells news t2 fr)) (h1 : ∀ u ∈ news.toList, u.oneCell' = true)
    (hm : 0 < m) (h63 : n + m ≤ maxLen) (hbytes : (n + m) * bytes ≤ 140737488355328) (hbase : base ≤ w.heap.size)
    (h : ∀ g cap w' row, w'.ownsRow base e size (.slice (some ⟨g, 0, none⟩) (n + m) cap) (n + m) (xs ++ news.toList) → w.grownBy w' row → RowOk base w e row → (row = some g ∨ w.heap.size ≤ g) → g < w'.heap.size → K (a.put o.dst (.slice (some ⟨g, 0, none⟩) (n + m) cap)) w') : o.wp P a w K Q := by
  obtain ⟨g, cap, w', row, hr, h2, h3, h4, h5, h6⟩ := run_append_acc (P := P) w base t o.type e i z size bytes ht hi hz hsize hby hzs hsz A n c xs hacc b t2 fr m c2 news hl hblk h1 hm h63 hbytes hbase
  unfold Oper.wp execOp
  simp only [ho, resolve, invoke, builtin, Sem.run_bind, Sem.run_pure, Result.andThen_ok, List.map_toArray, List.map_cons, List.map_nil, hs, hx, hr]
  exact h g cap w' row h2 h3 h4 h5 h6

theorem wpList_append_acc {ops : Array Oper} {rest : List Oper} {o : Oper} {a : Act} {Q : Exit → Act → World → Prop} (hgd : o.guard = none) (s x : Operand) (t : TypeId)
    (ho : o.op = .call { callee := .builtin .append, args := #[s, x], argTypes := #[t, t] })
    (base : Nat) (e : TypeId) (i : TypeInfo) (z : Value) (size bytes : Nat) (ht : P.underlying t = some (.slice e)) (hi : P.info? e = some i) (hz : i.zero = some z)
    (hsize : i.size = size) (hby : i.bytes = bytes) (hzs : z.cells.size = size) (hsz : 0 < size)
    (A : Option Addr) (n c : Nat) (xs : List Value) (hs : a.eval s = .slice A n c) (hacc : Acc base w e size A n c xs)
    (b : Nat) (t2 : TypeId) (fr : Nat × Nat) (m c2 : Nat) (news : Array Value) (hx : a.eval x = .slice (some ⟨b, 0, none⟩) m c2) (hl : news.size = m * size) (hblk : w.heap[b]? = some (.cells news t2 fr)) (h1 : ∀ u ∈ news.toList, u.oneCell' = true)
    (hm : 0 < m) (h63 : n + m ≤ maxLen) (hbytes : (n + m) * bytes ≤ 140737488355328) (hbase : base ≤ w.heap.size)
    (h : ∀ g cap w' row, w'.ownsRow base e size (.slice (some ⟨g, 0, none⟩) (n + m) cap) (n + m) (xs ++ news.toList) → w.grownBy w' row → RowOk base w e row → (row = some g ∨ w.heap.size ≤ g) → g < w'.heap.size → wpList P ops Q rest (a.put o.dst (.slice (some ⟨g, 0, none⟩) (n + m) cap)) w') : wpList P ops Q (o :: rest) a w :=
  wpList_plain hgd fun _ hK => wp_append_acc w s x t ho base e i z size bytes ht hi hz hsize hby hzs hsz A n c xs hs hacc b t2 fr m c2 news hx hl hblk h1 hm h63 hbytes hbase fun g cap w' row h2 h3 h4 h5 h6 => hK _ _ (h g cap w' row h2 h3 h4 h5 h6)

theorem step_append_acc {ops : Array Oper} {o : Oper} {a : Act} {K : Act → World → Prop} {Q : Exit → Act → World → Prop} {E : Prop} (hgd : o.guard = none) (s x : Operand) (t : TypeId)
    (ho : o.op = .call { callee := .builtin .append, args := #[s, x], argTypes := #[t, t] })
    (base : Nat) (e : TypeId) (i : TypeInfo) (z : Value) (size bytes : Nat) (ht : P.underlying t = some (.slice e)) (hi : P.info? e = some i) (hz : i.zero = some z)
    (hsize : i.size = size) (hby : i.bytes = bytes) (hzs : z.cells.size = size) (hsz : 0 < size)
    (A : Option Addr) (n c : Nat) (xs : List Value) (hs : a.eval s = .slice A n c) (hacc : Acc base w e size A n c xs)
    (b : Nat) (t2 : TypeId) (fr : Nat × Nat) (m c2 : Nat) (news : Array Value) (hx : a.eval x = .slice (some ⟨b, 0, none⟩) m c2) (hl : news.size = m * size) (hblk : w.heap[b]? = some (.cells news t2 fr)) (h1 : ∀ u ∈ news.toList, u.oneCell' = true)
    (hm : 0 < m) (h63 : n + m ≤ maxLen) (hbytes : (n + m) * bytes ≤ 140737488355328) (hbase : base ≤ w.heap.size)
    (h : ∀ g cap w' row, w'.ownsRow base e size (.slice (some ⟨g, 0, none⟩) (n + m) cap) (n + m) (xs ++ news.toList) → w.grownBy w' row → RowOk base w e row → (row = some g ∨ w.heap.size ≤ g) → g < w'.heap.size → K (a.put o.dst (.slice (some ⟨g, 0, none⟩) (n + m) cap)) w') :
    if Region.wanted o (yielded ops a.tmps) = true then Oper.wp P o a w K Q else E := by
  have hw : Region.wanted o (yielded ops a.tmps) = true := by simp [Region.wanted, hgd]
  rw [if_pos hw]
  exact wp_append_acc w s x t ho base e i z size bytes ht hi hz hsize hby hzs hsz A n c xs hs hacc b t2 fr m c2 news hx hl hblk h1 hm h63 hbytes hbase h
end
end Go.Proofs.Ytpidgkngefkbeaa
