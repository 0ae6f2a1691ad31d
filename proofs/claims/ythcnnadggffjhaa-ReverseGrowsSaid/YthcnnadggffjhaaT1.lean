/- The walk of route.Trim. -/
import Derived.Test.YthcnnadggffjhaaMB
import Derived.Test.YthcnnadggffjhaaW8
set_option linter.unusedVariables false
set_option linter.unusedSimpArgs false
namespace Go.Proofs.Ythcnnadggffjhaa
open Go.RowKit

/-- the numbers below k that are kept; their rules -/
def idx (keep : Nat → Bool) (k : Nat) : List Nat := (List.range k).filter keep
def kept (keep : Nat → Bool) (rs : List Rule) (k : Nat) : List Rule := (idx keep k).map fun i => rs.getD i ⟨0, 0, .empty, .empty, 0⟩
theorem idx_succ (keep : Nat → Bool) (k : Nat) : idx keep (k + 1) = if keep k then idx keep k ++ [k] else idx keep k := by
  unfold idx
  rw [List.range_succ, List.filter_append]
  split
  · rename_i h; simp [h]
  · rename_i h; simp [h]
theorem kept_succ (keep : Nat → Bool) (rs : List Rule) (k : Nat) (hk : k < rs.length) : kept keep rs (k + 1) = if keep k then kept keep rs k ++ [rs[k]] else kept keep rs k := by
  unfold kept
  rw [idx_succ]
  split
  · rw [List.map_append]; simp [hk]
  · rfl
theorem idx_len (keep : Nat → Bool) (k : Nat) : (idx keep k).length ≤ k := by
  have := List.length_filter_le keep (List.range k)
  simpa [idx] using this
theorem kept_len (keep : Nat → Bool) (rs : List Rule) (k : Nat) : (kept keep rs k).length = (idx keep k).length := by simp [kept]

/-- both lists of marks are at hand -/
def TrimA (m ac : Nat) (A : Option Addr) (c : Nat) (rs : List Rule) (w : World) (x y : Value) (W : World) : Prop :=
  ∃ g1 g2 V1 V2, x = .slice (some ⟨g1, 0, none⟩) m m ∧ y = .slice (some ⟨g2, 0, none⟩) m m ∧ Below w.heap.size w W ∧ Blk W w.heap.size 31 #[.int .i64 m, .int .u8 ac, .slice A rs.length c] ∧
    Blk W (w.heap.size + 1) 31 #[.int .i64 0, .int .u8 0, .slice none 0 0] ∧ w.heap.size + 1 < g1 ∧ w.heap.size + 1 < g2 ∧ Blk W g1 4 ((V1 : List Bool).map vB).toArray ∧ Blk W g2 4 ((V2 : List Bool).map vB).toArray ∧
    V1.length = m ∧ V2.length = m ∧ (∀ x : Nat, V1[x]? = some true ↔ ReachedP rs x) ∧ ∀ x : Nat, V2[x]? = some true ↔ LiveP ac m rs x

theorem trimA_of {m ac : Nat} {A : Option Addr} {c : Nat} {rs : List Rule} {w W w2 : World} {g1 g2 : Nat} {V1 V2 : List Bool} (hbel : Below w.heap.size w W) (b0 : Blk W w.heap.size 31 #[.int .i64 m, .int .u8 ac, .slice A rs.length c])
    (b1 : Blk W (w.heap.size + 1) 31 #[.int .i64 0, .int .u8 0, .slice none 0 0]) (hb2 : Below W.heap.size W w2) (h1 : W.heap.size ≤ g1) (h2 : W.heap.size ≤ g2) (hg1 : Blk w2 g1 4 (V1.map vB).toArray) (hg2 : Blk w2 g2 4 (V2.map vB).toArray)
    (l1 : V1.length = m) (l2 : V2.length = m) (r1 : ∀ x : Nat, V1[x]? = some true ↔ ReachedP rs x) (r2 : ∀ x : Nat, V2[x]? = some true ↔ LiveP ac m rs x) :
    TrimA m ac A c rs w (.slice (some ⟨g1, 0, none⟩) m m) (.slice (some ⟨g2, 0, none⟩) m m) w2 := by
  have := b1.lt
  exact ⟨g1, g2, V1, V2, rfl, rfl, hbel.trans (hb2.mono hbel.size), b0.next hb2, b1.next hb2, by omega, by omega, hg1, hg2, l1, l2, r1, r2⟩

/-- a row of the call's own is kept by an append to a row of another element type -/
theorem own_other {w w' : World} {base base' : Nat} {e e' : TypeId} {size n c : Nat} {A : Option Addr} {xs : List Value} {row : Option Nat} (h : w.ownsRow base e size (.slice A n c) n xs) (hg : w.grownBy w' row) (hr : RowOk base' w e' row) (hne : e ≠ e') :
    w'.ownsRow base e size (.slice A n c) n xs := by
  refine h.kept hg ?_
  rcases h.2 with ⟨hv, _⟩ | ⟨g, cap, cur, hv, _, hh, _⟩
  · rw [hv]; exact .inl rfl
  · rw [hv]
    refine .inr fun hb => ?_
    obtain ⟨_, cur', hc⟩ := hr g hb.symm
    rw [hh] at hc
    injection hc with hc
    injection hc with _ hc
    exact hne hc
theorem own_below {w w' : World} {base : Nat} {e : TypeId} {size n : Nat} {v : Value} {xs : List Value} (h : w.ownsRow base e size v n xs) (hb : Below w.heap.size w w') : w'.ownsRow base e size v n xs :=
  h.kept (grownBy_below hb) (by cases v.ownBlock <;> simp)

def keepOf (V1 V2 : List Bool) (rs : List Rule) (i : Nat) : Bool := V1.getD (rs.getD i ⟨0, 0, .empty, .empty, 0⟩).frm false && V2.getD (rs.getD i ⟨0, 0, .empty, .empty, 0⟩).dst false
theorem keepOf_at {V1 V2 : List Bool} {rs : List Rule} {k : Nat} {r : Rule} (hk : k < rs.length) (hr : r = rs[k]) (hf1 : r.frm < V1.length) (hf2 : r.dst < V2.length) : keepOf V1 V2 rs k = (V1[r.frm] && V2[r.dst]) := by
  have e : rs.getD k ⟨0, 0, .empty, .empty, 0⟩ = r := by rw [hr]; simp [List.getD_eq_getElem?_getD, hk]
  unfold keepOf
  rw [e]
  simp [List.getD_eq_getElem?_getD, hf1, hf2]
/-- what Trim hands back -/
def TrimRes (m ac : Nat) (rs : List Rule) (w : World) (e : Ending) (w' : World) : Prop :=
  ∃ keep A1 c1 A2 c2, e = .returned (.tuple #[.agg #[.int .i64 m, .int .u8 ac, .slice A1 (idx keep rs.length).length c1], .slice A2 (idx keep rs.length).length c2]) ∧ Below w.heap.size w w' ∧
    (∀ i (h : i < rs.length), keep i = true ↔ ReachedP rs rs[i].frm ∧ LiveP ac m rs rs[i].dst) ∧ RulesAt (w.heap.size ≤ ·) w' A1 (kept keep rs rs.length) ∧ SlAt vN (w.heap.size ≤ ·) w' A2 (idx keep rs.length)
/-- while Trim gathers: k rules done -/
def TrimW (m ac : Nat) (A : Option Addr) (c : Nat) (rs : List Rule) (g1 g2 : Nat) (V1 V2 : List Bool) (S k : Nat) (w : World) (x : Value) (W : World) : Prop :=
  ∃ A1 c1 A2 c2, x = .slice A2 (idx (keepOf V1 V2 rs) k).length c2 ∧ Below w.heap.size w W ∧ Blk W w.heap.size 31 #[.int .i64 m, .int .u8 ac, .slice A rs.length c] ∧
    Blk W (w.heap.size + 1) 31 #[.int .i64 0, .int .u8 0, .slice none 0 0] ∧ Blk W g1 4 (V1.map vB).toArray ∧ Blk W g2 4 (V2.map vB).toArray ∧
    Blk W S 31 #[.int .i64 m, .int .u8 ac, .slice A1 (idx (keepOf V1 V2 rs) k).length c1] ∧
    W.ownsRow (S + 1) 65 5 (.slice A1 (idx (keepOf V1 V2 rs) k).length c1) (idx (keepOf V1 V2 rs) k).length ((kept (keepOf V1 V2 rs) rs k).flatMap Rule.cells) ∧
    W.ownsRow (S + 1) 3 1 (.slice A2 (idx (keepOf V1 V2 rs) k).length c2) (idx (keepOf V1 V2 rs) k).length ((idx (keepOf V1 V2 rs) k).map vN)

theorem trimW_same {m ac : Nat} {A : Option Addr} {c : Nat} {rs : List Rule} {g1 g2 : Nat} {V1 V2 : List Bool} {S k nk : Nat} {w wr w2 : World} {A1 A2 : Option Addr} {c1 c2 : Nat} (hnk : nk = (idx (keepOf V1 V2 rs) k).length) (hbel : Below w.heap.size w wr)
    (hB : Blk wr w.heap.size 31 #[.int .i64 m, .int .u8 ac, .slice A rs.length c] ∧ Blk wr (w.heap.size + 1) 31 #[.int .i64 0, .int .u8 0, .slice none 0 0] ∧ Blk wr g1 4 (V1.map vB).toArray ∧ Blk wr g2 4 (V2.map vB).toArray ∧
      Blk wr S 31 #[.int .i64 m, .int .u8 ac, .slice A1 nk c1] ∧ wr.ownsRow (S + 1) 65 5 (.slice A1 nk c1) nk ((kept (keepOf V1 V2 rs) rs k).flatMap Rule.cells) ∧ wr.ownsRow (S + 1) 3 1 (.slice A2 nk c2) nk ((idx (keepOf V1 V2 rs) k).map vN))
    (hs : idx (keepOf V1 V2 rs) (k + 1) = idx (keepOf V1 V2 rs) k ∧ kept (keepOf V1 V2 rs) rs (k + 1) = kept (keepOf V1 V2 rs) rs k) (hb : Below wr.heap.size wr w2) : TrimW m ac A c rs g1 g2 V1 V2 S (k + 1) w (.slice A2 nk c2) w2 := by
  obtain ⟨b0, b1, r1, r2, bS, o1, o2⟩ := hB
  refine ⟨A1, c1, A2, c2, by rw [hs.1, hnk], hbel.trans (hb.mono hbel.size), b0.next hb, b1.next hb, r1.next hb, r2.next hb, ?_, ?_, ?_⟩
  · rw [hs.1, ← hnk]; exact bS.next hb
  · rw [hs.1, hs.2, ← hnk]; exact own_below o1 hb
  · rw [hs.1, ← hnk]; exact own_below o2 hb

theorem trimW_more {m ac : Nat} {A : Option Addr} {c : Nat} {rs : List Rule} {g1 g2 : Nat} {V1 V2 : List Bool} {S k nk g4 cap4 g5 cap5 : Nat} {row4 row5 : Option Nat} {w wr W w4 w5 : World} {A1 A2 : Option Addr} {c1 c2 : Nat} {r : Rule} {C1 C2 : Array Value} (hnk : nk = (idx (keepOf V1 V2 rs) k).length) (hbel : Below w.heap.size w wr) (hS1 : w.heap.size + 1 < S)
    (hB : Blk wr w.heap.size 31 #[.int .i64 m, .int .u8 ac, .slice A rs.length c] ∧ Blk wr (w.heap.size + 1) 31 #[.int .i64 0, .int .u8 0, .slice none 0 0] ∧ Blk wr g1 4 (V1.map vB).toArray ∧ Blk wr g2 4 (V2.map vB).toArray ∧
      Blk wr S 31 #[.int .i64 m, .int .u8 ac, .slice A1 nk c1] ∧ wr.ownsRow (S + 1) 65 5 (.slice A1 nk c1) nk ((kept (keepOf V1 V2 rs) rs k).flatMap Rule.cells) ∧ wr.ownsRow (S + 1) 3 1 (.slice A2 nk c2) nk ((idx (keepOf V1 V2 rs) k).map vN))
    (hs : idx (keepOf V1 V2 rs) (k + 1) = idx (keepOf V1 V2 rs) k ++ [k] ∧ kept (keepOf V1 V2 rs) rs (k + 1) = kept (keepOf V1 V2 rs) rs k ++ [r]) (hb : Below wr.heap.size wr W) (hgr4 : (W.alloc (.cells C1 65)).grownBy w4 row4) (hrow4 : RowOk (S + 1) (W.alloc (.cells C1 65)) 65 row4)
    (hown4 : w4.ownsRow (S + 1) 65 5 (.slice (some ⟨g4, 0, none⟩) (nk + 1) cap4) (nk + 1) ((kept (keepOf V1 V2 rs) rs k).flatMap Rule.cells ++ [.int .i64 r.frm, .int .i64 r.dst, .string r.inp, .string r.out, .int .i64 r.cost]))
    (hgr5 : ((w4.setCell ⟨S, 2, none⟩ (.slice (some ⟨g4, 0, none⟩) (nk + 1) cap4)).alloc (.cells C2 3)).grownBy w5 row5) (hrow5 : RowOk (S + 1) ((w4.setCell ⟨S, 2, none⟩ (.slice (some ⟨g4, 0, none⟩) (nk + 1) cap4)).alloc (.cells C2 3)) 3 row5)
    (hown5 : w5.ownsRow (S + 1) 3 1 (.slice (some ⟨g5, 0, none⟩) (nk + 1) cap5) (nk + 1) ((idx (keepOf V1 V2 rs) k).map vN ++ [.int .i64 k])) : TrimW m ac A c rs g1 g2 V1 V2 S (k + 1) w (.slice (some ⟨g5, 0, none⟩) (nk + 1) cap5) w5 := by
  obtain ⟨b0, b1, r1, r2, bS, o1, o2⟩ := hB
  have hlen : (idx (keepOf V1 V2 rs) (k + 1)).length = nk + 1 := by rw [hs.1, hnk]; simp
  have hbel1 : Below w.heap.size w (W.alloc (.cells C1 65)) := (hbel.trans (hb.mono hbel.size)).alloc (Nat.le_trans hbel.size hb.size) _
  have hbel4 := below_rowOk hbel1 hgr4 hrow4 (by omega) hbel1.size
  have hbel5 : Below w.heap.size w ((w4.setCell ⟨S, 2, none⟩ (.slice (some ⟨g4, 0, none⟩) (nk + 1) cap4)).alloc (.cells C2 3)) := (hbel4.setCell (p := ⟨S, 2, none⟩) (by simp; omega) _).alloc (by have := hbel4.size; simpa using this) _
  have hbel6 := below_rowOk hbel5 hgr5 hrow5 (by omega) hbel5.size
  have go : ∀ {x : Nat} {T : TypeId} {cs : Array Value}, Blk wr x T cs → x ≠ S → T ≠ 65 → T ≠ 3 → Blk w5 x T cs := fun h hx h1 h2 =>
    (((((h.next hb).alloc _).rowOk hgr4 hrow4 h1).far (p := ⟨S, 2, none⟩) (by simpa using hx) _).alloc _).rowOk hgr5 hrow5 h2
  have hw : w.heap.size < S := by omega
  refine ⟨some ⟨g4, 0, none⟩, cap4, some ⟨g5, 0, none⟩, cap5, by rw [hlen], hbel6, go b0 (by omega) (by decide) (by decide), go b1 (by omega) (by decide) (by decide), go r1 ?_ (by decide) (by decide), go r2 ?_ (by decide) (by decide), ?_, ?_, ?_⟩
  · exact r1.ne bS (by decide)
  · exact r2.ne bS (by decide)
  · have h4 := (((((bS.next hb).alloc _).rowOk hgr4 hrow4 (by decide)).set 2 (.slice (some ⟨g4, 0, none⟩) (nk + 1) cap4)).alloc (.cells C2 3)).rowOk hgr5 hrow5 (by decide)
    rw [hlen]
    simpa using h4
  · have bS4 := ((bS.next hb).alloc (.cells C1 65)).rowOk hgr4 hrow4 (by decide)
    have h4 := own_other ((Acc.far (p := ⟨S, 2, none⟩) hown4 bS4 (by decide) (.slice (some ⟨g4, 0, none⟩) (nk + 1) cap4)).alloc (.cells C2 3)) hgr5 hrow5 (by decide)
    rw [hlen, hs.2, List.flatMap_append]
    simpa [Rule.cells] using h4
  · rw [hlen, hs.1, List.map_append]
    exact hown5

end Go.Proofs.Ythcnnadggffjhaa
