/- The walk of route.Trim. -/
import Derived.Test.YtpidgkngefkbeaaMB
import Derived.Test.YtpidgkngefkbeaaW8
set_option linter.unusedVariables false
set_option linter.unusedSimpArgs false
namespace Go.Proofs.Ytpidgkngefkbeaa
open Go.RowKit

/-- the numbers below k that are kept; their rules -/
def idx (keep : Nat → Bool) (k : Nat) : List Nat := (List.range k).filter keep
def kept (keep : Nat → Bool) (rs : List Rule) (k : Nat) : List Rule := (idx keep k).map fun i => rs.getD i ⟨0, 0, .empty, .empty, 0⟩
theorem idx_succ (keep : Nat → Bool) (k : Nat) : idx keep (k + 1) = if keep k then idx keep k ++ [k] else idx keep k := by
  unfold idx
  rw [List.range_succ, List.filter_append]
  split
  · rename_i h; simp [h]
  · rename_i h; simp [h]
theorem kept_succ (keep : Nat → Bool) (rs : List Rule) (k : Nat) (hk : k < rs.length) : kept keep rs (k + 1) = if keep k then kept keep rs k ++ [rs[k]] else kept keep rs k := by
  unfold kept
  rw [idx_succ]
  split
  · rw [List.map_append]; simp [hk]
  · rfl
theorem idx_len (keep : Nat → Bool) (k : Nat) : (idx keep k).length ≤ k := by
  have := List.length_filter_le keep (List.range k)
  simpa [idx] using this
theorem kept_len (keep : Nat → Bool) (rs : List Rule) (k : Nat) : (kept keep rs k).length = (idx keep k).length := by simp [kept]

/-- both lists of marks are at hand -/
def TrimA (m ac : Nat) (A : Option Addr) (c : Nat) (rs : List Rule) (w : World) (x y : Value) (W : World) : Prop :=
  ∃ g1 g2 V1 V2, x = .slice (some ⟨g1, 0, none⟩) m m ∧ y = .slice (some ⟨g2, 0, none⟩) m m ∧ Below w.heap.size w W ∧ Blk W w.heap.size 30 #[.int .i64 m, .int .u8 ac, .slice A rs.length c] ∧
    Blk W (w.heap.size + 1) 30 #[.int .i64 0, .int .u8 0, .slice none 0 0] ∧ w.heap.size + 1 < g1 ∧ w.heap.size + 1 < g2 ∧ Blk W g1 4 ((V1 : List Bool).map vB).toArray ∧ Blk W g2 4 ((V2 : List Bool).map vB).toArray ∧
    V1.length = m ∧ V2.length = m ∧ (∀ x : Nat, V1[x]? = some true ↔ ReachedP rs x) ∧ ∀ x : Nat, V2[x]? = some true ↔ LiveP ac m rs x

theorem trimA_of {m ac : Nat} {A : Option Addr} {c : Nat} {rs : List Rule} {w W w2 : World} {g1 g2 : Nat} {V1 V2 : List Bool} (hbel : Below w.heap.size w W) (b0 : Blk W w.heap.size 30 #[.int .i64 m, .int .u8 ac, .slice A rs.length c])
    (b1 : Blk W (w.heap.size + 1) 30 #[.int .i64 0, .int .u8 0, .slice none 0 0]) (hb2 : Below W.heap.size W w2) (h1 : W.heap.size ≤ g1) (h2 : W.heap.size ≤ g2) (hg1 : Blk w2 g1 4 (V1.map vB).toArray) (hg2 : Blk w2 g2 4 (V2.map vB).toArray)
    (l1 : V1.length = m) (l2 : V2.length = m) (r1 : ∀ x : Nat, V1[x]? = some true ↔ ReachedP rs x) (r2 : ∀ x : Nat, V2[x]? = some true ↔ LiveP ac m rs x) :
    TrimA m ac A c rs w (.slice (some ⟨g1, 0, none⟩) m m) (.slice (some ⟨g2, 0, none⟩) m m) w2 := by
  have := b1.lt
  exact ⟨g1, g2, V1, V2, rfl, rfl, hbel.trans (hb2.mono hbel.size), b0.next hb2, b1.next hb2, by omega, by omega, hg1, hg2, l1, l2, r1, r2⟩

/-- a row of the call's own is kept by an append to a row of another element type -/
theorem own_other {w w' : World} {base base' : Nat} {e e' : TypeId} {size n c : Nat} {A : Option Addr} {xs : List Value} {row : Option Nat} (h : w.ownsRow base e size (.slice A n c) n xs) (hg : w.grownBy w' row) (hr : RowOk base' w e' row) (hne : e ≠ e') :
    w'.ownsRow base e size (.slice A n c) n xs := by
  refine h.kept hg ?_
  rcases h.2 with ⟨hv, _⟩ | ⟨g, cap, cur, hv, _, hh, _⟩
  · rw [hv]; exact .inl rfl
  · rw [hv]
    refine .inr fun hb => ?_
    obtain ⟨_, cur', hc⟩ := hr g hb.symm
    rw [hh] at hc
    injection hc with hc
    injection hc with _ hc
    exact hne hc
theorem own_below {w w' : World} {base : Nat} {e : TypeId} {size n : Nat} {v : Value} {xs : List Value} (h : w.ownsRow base e size v n xs) (hb : Below w.heap.size w w') : w'.ownsRow base e size v n xs :=
  h.kept (grownBy_below hb) (by cases v.ownBlock <;> simp)

def keepOf (V1 V2 : List Bool) (rs : List Rule) (i : Nat) : Bool := V1.getD (rs.getD i ⟨0, 0, .empty, .empty, 0⟩).frm false && V2.getD (rs.getD i ⟨0, 0, .empty, .empty, 0⟩).dst false
theorem keepOf_at {V1 V2 : List Bool} {rs : List Rule} {k : Nat} {r : Rule} (hk : k < rs.length) (hr : r = rs[k]) (hf1 : r.frm < V1.length) (hf2 : r.dst < V2.length) : keepOf V1 V2 rs k = (V1[r.frm] && V2[r.dst]) := by
  have e : rs.getD k ⟨0, 0, .empty, .empty, 0⟩ = r := by rw [hr]; simp [List.getD_eq_getElem?_getD, hk]
  unfold keepOf
  rw [e]
  simp [List.getD_eq_getElem?_getD, hf1, hf2]
/-- what Trim hands back -/
def TrimRes (m ac : Nat) (rs : List Rule) (w : World) (e : Ending) (w' : World) : Prop :=
  ∃ keep A1 c1 A2 c2, e = .returned (.tuple #[.agg #[.int .i64 m, .int .u8 ac, .slice A1 (idx keep rs.length).length c1], .slice A2 (idx keep rs.length).length c2]) ∧ Below w.heap.size w w' ∧
    (∀ i (h : i < rs.length), keep i = true ↔ ReachedP rs rs[i].frm ∧ LiveP ac m rs rs[i].dst) ∧ RulesAt (w.heap.size ≤ ·) w' A1 (kept keep rs rs.length) ∧ SlAt vN (w.heap.size ≤ ·) w' A2 (idx keep rs.length)
/-- while Trim gathers: k rules done -/
def TrimW (m ac : Nat) (A : Option Addr) (c : Nat) (rs : List Rule) (g1 g2 : Nat) (V1 V2 : List Bool) (S k : Nat) (w : World) (x : Value) (W : World) : Prop :=
  ∃ A1 c1 A2 c2, x = .slice A2 (idx (keepOf V1 V2 rs) k).length c2 ∧ Below w.heap.size w W ∧ Blk W w.heap.size 30 #[.int .i64 m, .int .u8 ac, .slice A rs.length c] ∧
    Blk W (w.heap.size + 1) 30 #[.int .i64 0, .int .u8 0, .slice none 0 0] ∧ Blk W g1 4 (V1.map vB).toArray ∧ Blk W g2 4 (V2.map vB).toArray ∧
    Blk W S 30 #[.int .i64 m, .int .u8 ac, .slice A1 (idx (keepOf V1 V2 rs) k).length c1] ∧
    W.ownsRow (S + 1) 53 5 (.slice A1 (idx (keepOf V1 V2 rs) k).length c1) (idx (keepOf V1 V2 rs) k).length ((kept (keepOf V1 V2 rs) rs k).flatMap Rule.cells) ∧
    W.ownsRow (S + 1) 3 1 (.slice A2 (idx (keepOf V1 V2 rs) k).length c2) (idx (keepOf V1 V2 rs) k).length ((idx (keepOf V1 V2 rs) k).map vN)

theorem trimW_same {m ac : Nat} {A : Option Addr} {c : Nat} {rs : List Rule} {g1 g2 : Nat} {V1 V2 : List Bool} {S k nk : Nat} {w wr w2 : World} {A1 A2 : Option Addr} {c1 c2 : Nat} (hnk : nk = (idx (keepOf V1 V2 rs) k).length) (hbel : Below w.heap.size w wr)
    (hB : Blk wr w.heap.size 30 #[.int .i64 m, .int .u8 ac, .slice A rs.length c] ∧ Blk wr (w.heap.size + 1) 30 #[.int .i64 0, .int .u8 0, .slice none 0 0] ∧ Blk wr g1 4 (V1.map vB).toArray ∧ Blk wr g2 4 (V2.map vB).toArray ∧
      Blk wr S 30 #[.int .i64 m, .int .u8 ac, .slice A1 nk c1] ∧ wr.ownsRow (S + 1) 53 5 (.slice A1 nk c1) nk ((kept (keepOf V1 V2 rs) rs k).flatMap Rule.cells) ∧ wr.ownsRow (S + 1) 3 1 (.slice A2 nk c2) nk ((idx (keepOf V1 V2 rs) k).map vN))
    (hs : idx (keepOf V1 V2 rs) (k + 1) = idx (keepOf V1 V2 rs) k ∧ kept (keepOf V1 V2 rs) rs (k + 1) = kept (keepOf V1 V2 rs) rs k) (hb : Below wr.heap.size wr w2) : TrimW m ac A c rs g1 g2 V1 V2 S (k + 1) w (.slice A2 nk c2) w2 := by
  obtain ⟨b0, b1, r1, r2, bS, o1, o2⟩ := hB
  refine ⟨A1, c1, A2, c2, by rw [hs.1, hnk], hbel.trans (hb.mono hbel.size), b0.next hb, b1.next hb, r1.next hb, r2.next hb, ?_, ?_, ?_⟩
  · rw [hs.1, ← hnk]; exact bS.next hb
  · rw [hs.1, hs.2, ← hnk]; exact own_below o1 hb
  · rw [hs.1, ← hnk]; exact own_below o2 hb

theorem trimW_more {m ac : Nat} {A : Option Addr} {c : Nat} {rs : List Rule} {g1 g2 : Nat} {V1 V2 : List Bool} {S k nk g4 cap4 g5 cap5 : Nat} {row4 row5 : Option Nat} {w wr W w4 w5 : World} {A1 A2 : Option Addr} {c1 c2 : Nat} {r : Rule} {C1 C2 : Array Value} (hnk : nk = (idx (keepOf V1 V2 rs) k).length) (hbel : Below w.heap.size w wr) (hS1 : w.heap.size + 1 < S)
    (hB : Blk wr w.heap.size 30 #[.int .i64 m, .int .u8 ac, .slice A rs.length c] ∧ Blk wr (w.heap.size + 1) 30 #[.int .i64 0, .int .u8 0, .slice none 0 0] ∧ Blk wr g1 4 (V1.map vB).toArray ∧ Blk wr g2 4 (V2.map vB).toArray ∧
      Blk wr S 30 #[.int .i64 m, .int .u8 ac, .slice A1 nk c1] ∧ wr.ownsRow (S + 1) 53 5 (.slice A1 nk c1) nk ((kept (keepOf V1 V2 rs) rs k).flatMap Rule.cells) ∧ wr.ownsRow (S + 1) 3 1 (.slice A2 nk c2) nk ((idx (keepOf V1 V2 rs) k).map vN))
    (hs : idx (keepOf V1 V2 rs) (k + 1) = idx (keepOf V1 V2 rs) k ++ [k] ∧ kept (keepOf V1 V2 rs) rs (k + 1) = kept (keepOf V1 V2 rs) rs k ++ [r]) (hb : Below wr.heap.size wr W) (hgr4 : (W.alloc (.cells C1 53)).grownBy w4 row4) (hrow4 : RowOk (S + 1) (W.alloc (.cells C1 53)) 53 row4)
    (hown4 : w4.ownsRow (S + 1) 53 5 (.slice (some ⟨g4, 0, none⟩) (nk + 1) cap4) (nk + 1) ((kept (keepOf V1 V2 rs) rs k).flatMap Rule.cells ++ [.int .i64 r.frm, .int .i64 r.dst, .string r.inp, .string r.out, .int .i64 r.cost]))
    (hgr5 : ((w4.setCell ⟨S, 2, none⟩ (.slice (some ⟨g4, 0, none⟩) (nk + 1) cap4)).alloc (.cells C2 3)).grownBy w5 row5) (hrow5 : RowOk (S + 1) ((w4.setCell ⟨S, 2, none⟩ (.slice (some ⟨g4, 0, none⟩) (nk + 1) cap4)).alloc (.cells C2 3)) 3 row5)
    (hown5 : w5.ownsRow (S + 1) 3 1 (.slice (some ⟨g5, 0, none⟩) (nk + 1) cap5) (nk + 1) ((idx (keepOf V1 V2 rs) k).map vN ++ [.int .i64 k])) : TrimW m ac A c rs g1 g2 V1 V2 S (k + 1) w (.slice (some ⟨g5, 0, none⟩) (nk + 1) cap5) w5 := by
  obtain ⟨b0, b1, r1, r2, bS, o1, o2⟩ := hB
  have hlen : (idx (keepOf V1 V2 rs) (k + 1)).length = nk + 1 := by rw [hs.1, hnk]; simp
  have hbel1 : Below w.heap.size w (W.alloc (.cells C1 53)) := (hbel.trans (hb.mono hbel.size)).alloc (Nat.le_trans hbel.size hb.size) _
  have hbel4 := below_rowOk hbel1 hgr4 hrow4 (by omega) hbel1.size
  have hbel5 : Below w.heap.size w ((w4.setCell ⟨S, 2, none⟩ (.slice (some ⟨g4, 0, none⟩) (nk + 1) cap4)).alloc (.cells C2 3)) := (hbel4.setCell (p := ⟨S, 2, none⟩) (by simp; omega) _).alloc (by have := hbel4.size; simpa using this) _
  have hbel6 := below_rowOk hbel5 hgr5 hrow5 (by omega) hbel5.size
  have go : ∀ {x : Nat} {T : TypeId} {cs : Array Value}, Blk wr x T cs → x ≠ S → T ≠ 53 → T ≠ 3 → Blk w5 x T cs := fun h hx h1 h2 =>
    (((((h.next hb).alloc _).rowOk hgr4 hrow4 h1).far (p := ⟨S, 2, none⟩) (by simpa using hx) _).alloc _).rowOk hgr5 hrow5 h2
  have hw : w.heap.size < S := by omega
  refine ⟨some ⟨g4, 0, none⟩, cap4, some ⟨g5, 0, none⟩, cap5, by rw [hlen], hbel6, go b0 (by omega) (by decide) (by decide), go b1 (by omega) (by decide) (by decide), go r1 ?_ (by decide) (by decide), go r2 ?_ (by decide) (by decide), ?_, ?_, ?_⟩
  · exact r1.ne bS (by decide)
  · exact r2.ne bS (by decide)
  · have h4 := (((((bS.next hb).alloc _).rowOk hgr4 hrow4 (by decide)).set 2 (.slice (some ⟨g4, 0, none⟩) (nk + 1) cap4)).alloc (.cells C2 3)).rowOk hgr5 hrow5 (by decide)
    rw [hlen]
    simpa using h4
  · have bS4 := ((bS.next hb).alloc (.cells C1 53)).rowOk hgr4 hrow4 (by decide)
    have h4 := own_other ((Acc.far (p := ⟨S, 2, none⟩) hown4 bS4 (by decide) (.slice (some ⟨g4, 0, none⟩) (nk + 1) cap4)).alloc (.cells C2 3)) hgr5 hrow5 (by decide)
    rw [hlen, hs.2, List.flatMap_append]
    simpa [Rule.cells] using h4
  · rw [hlen, hs.1, List.map_append]
    exact hown5

set_option maxHeartbeats 1000000 in
theorem trim_any (F : Nat → Prop) (m ac : Nat) (A : Option Addr) (c : Nat) (rs : List Rule) (w : World) (hA : RulesAt F w A rs) (hF : ∀ b, F b → b < w.heap.size) (hn : rs.length < 1000) (hm0 : 0 < m) (hm : m ≤ 8) (hac : ac < 256) (hs : ∀ r ∈ rs, r.frm < m ∧ r.dst < m) :
    Calls Try.prog 13 #[.agg #[.int .i64 m, .int .u8 ac, .slice A rs.length c]] w (TrimRes m ac rs w) := by
  go_enter Try.func13, Try.ntmps13
  go_upto_region 1 with (fail)
  go_cut [4, 5] (fun x y wx => TrimA m ac A c rs w x y wx)
  case first =>
    refine world_gen (fun W => Below w.heap.size w W ∧ Blk W w.heap.size 30 #[.int .i64 m, .int .u8 ac, .slice A rs.length c] ∧ Blk W (w.heap.size + 1) 30 #[.int .i64 0, .int .u8 0, .slice none 0 0]) ⟨((Below.refl _ _).alloc (Nat.le_refl _) _).alloc (by simp) _, (Blk.new _ _ _).alloc _, ?_⟩ ?_
    · rw [show w.heap.size + 1 = (w.alloc (.cells #[.int .i64 m, .int .u8 ac, .slice A rs.length c] 30)).heap.size from (by simp)]; exact Blk.new _ _ _
    rintro W ⟨hbel, b0, b1⟩
    have hA' : RulesAt F W A rs := Reads.lower hA hF hbel
    have hF' : ∀ b, F b → b < W.heap.size := fun b hb => Nat.lt_of_lt_of_le (hF b hb) hbel.size
    have hD := below_drewN (Below.refl W.heap.size W) 1
    have x0 : W.cell? ⟨w.heap.size, 0, none⟩ = some (.int .i64 m) := b0.cell 0
    have x1 : W.cell? ⟨w.heap.size, 1, none⟩ = some (.int .u8 ac) := b0.cell 1
    have x2 : W.cell? ⟨w.heap.size, 2, none⟩ = some (.slice A rs.length c) := b0.cell 2
    have B0 := Lib.hid b0
    have B1 := Lib.hid b1
    have HA := Lib.hid hA'
    clear b0 b1 hA hA'
    go_region_law (first
      | (go_simp; go_at_call 20; refine (reached_any F m ac A c rs _ (by first | exact RulesAt.below HA.out hD | exact RulesAt.below HA.out hWL) (fun b hb => by first | exact hF' b hb | exact Nat.lt_of_lt_of_le (hF' b hb) hWL.size) hn hm0 (by omega) hs).mono ?_; rintro e wR ⟨gR, VR, rfl, hbR, hgR, hrR, hlR, hiR⟩; have hWR : Below W.heap.size W wR := (by first | exact hD.trans (hbR.mono hD.size) | exact hWL.trans (hbR.mono hWL.size)); have xR0 : wR.cell? ⟨w.heap.size, 0, none⟩ = some (.int .i64 m) := (B0.out.next hWR).cell 0; have xR1 : wR.cell? ⟨w.heap.size, 1, none⟩ = some (.int .u8 ac) := (B0.out.next hWR).cell 1; have xR2 : wR.cell? ⟨w.heap.size, 2, none⟩ = some (.slice A rs.length c) := (B0.out.next hWR).cell 2)
      | (go_simp; go_at_call 22; refine (live_any F m ac A c rs _ (by first | exact RulesAt.below HA.out hD | exact RulesAt.below HA.out hWR) (fun b hb => by first | exact hF' b hb | exact Nat.lt_of_lt_of_le (hF' b hb) hWR.size) hn hm hac hs).mono ?_; rintro e wL ⟨gL, VL, rfl, hbL, hgL, hrL, hlL, hiL⟩; have hWL : Below W.heap.size W wL := (by first | exact hD.trans (hbL.mono hD.size) | exact hWR.trans (hbL.mono hWR.size)); have xL0 : wL.cell? ⟨w.heap.size, 0, none⟩ = some (.int .i64 m) := (B0.out.next hWL).cell 0; have xL1 : wL.cell? ⟨w.heap.size, 1, none⟩ = some (.int .u8 ac) := (B0.out.next hWL).cell 1; have xL2 : wL.cell? ⟨w.heap.size, 2, none⟩ = some (.slice A rs.length c) := (B0.out.next hWL).cell 2))
    all_goals (go_wp2; go_meet)
    all_goals first
      | exact trimA_of hbel B0.out B1.out hWL (by exact hgR) (Nat.le_trans hWR.size hgL) (hrR.next hbL) hrL hlR hlL hiR hiL
      | exact trimA_of hbel B0.out B1.out hWR (Nat.le_trans hWL.size hgR) (by exact hgL) hrR (hrL.next hbR) hlR hlL hiR hiL
  case rest =>
    obtain ⟨g1, g2, V1, V2, rfl, rfl, hbel, b0, b1, hg1, hg2, r1, r2, l1, l2, i1, i2⟩ := hcut
    have x0 : wc.cell? ⟨w.heap.size, 0, none⟩ = some (.int .i64 m) := b0.cell 0
    have x1 : wc.cell? ⟨w.heap.size, 1, none⟩ = some (.int .u8 ac) := b0.cell 1
    have x2 : wc.cell? ⟨w.heap.size, 2, none⟩ = some (.slice A rs.length c) := b0.cell 2
    have hlt0 := b0.lt
    have hlt1 := b1.lt
    have hS1 : w.heap.size + 1 < wc.heap.size := b1.lt
    have hW : TrimW m ac A c rs g1 g2 V1 V2 wc.heap.size 0 w (.slice none 0 0) (wc.alloc (.cells #[.int .i64 m, .int .u8 ac, .slice none 0 0] 30)) :=
      ⟨none, 0, none, 0, rfl, hbel.alloc hbel.size _, b0.alloc _, b1.alloc _, r1.alloc _, r2.alloc _, Blk.new _ _ _, World.ownsRow_nil _ _ _ _, World.ownsRow_nil _ _ _ _⟩
    clear hbel b0 b1 r1 r2
    go_wp2_with fail
    clear x0 x1 x2 hlt0 hlt1
    generalize wc.heap.size = S at *
    generalize wc.alloc (.cells #[.int .i64 m, .int .u8 ac, .slice none 0 0] 30) = W0 at *
    go_loopw [7, 22] (fun x y wr => ∃ k : Nat, k ≤ rs.length ∧ y = .int .i64 k ∧ TrimW m ac A c rs g1 g2 V1 V2 S k w x wr) (fun x y _ => rs.length - (intOf y).toNat)
    case atStart => exact ⟨0, Nat.zero_le _, rfl, hW⟩
    case round =>
      clear hW W0
      obtain ⟨k, hk, rfl, A1, c1, A2, c2, rfl, hbel, b0, b1, r1, r2, bS, own1, own2⟩ := hrel
      have hil := idx_len (keepOf V1 V2 rs) k
      obtain ⟨nk, hnk⟩ : ∃ nk, nk = (idx (keepOf V1 V2 rs) k).length := ⟨_, rfl⟩
      rw [← hnk] at bS own1 own2 hil ⊢
      have HNK := Lib.hid hnk
      clear hnk
      by_cases hkl : k < rs.length
      · obtain ⟨br, or, rfl, hFb, hbr, y0, y1, y2, y3, y4⟩ := RulesAt.at_ (Reads.lower hA hF hbel) hkl
        obtain ⟨r, hr⟩ : ∃ r, r = rs[k] := ⟨_, rfl⟩
        rw [← hr] at y0 y1 y2 y3 y4
        have hrs : r.frm < m ∧ r.dst < m := by rw [hr]; exact hs _ (List.getElem_mem hkl)
        have hf1 : r.frm < V1.length := by omega
        have hf2 : r.dst < V2.length := by omega
        have hkp : keepOf V1 V2 rs k = (V1[r.frm] && V2[r.dst]) := keepOf_at hkl hr hf1 hf2
        have z1 : wr.cell? ⟨g1, r.frm, none⟩ = some (.bool V1[r.frm]) := by rw [r1.cell]; simp [hf1, vB]
        have z2 : wr.cell? ⟨g2, r.dst, none⟩ = some (.bool V2[r.dst]) := by rw [r2.cell]; simp [hf2, vB]
        have hi1 : (r.frm : Int) < (m : Int) := by omega
        have hi2 : (r.dst : Int) < (m : Int) := by omega
        have hlg1 := r1.lt
        have hlg2 := r2.lt
        have hlS := bS.lt
        have HR := Lib.hid hr
        have HB := Lib.hid (And.intro b0 (And.intro b1 (And.intro r1 (And.intro r2 (And.intro bS (And.intro own1 own2))))))
        clear hr b0 b1 r1 r2 bS own1 own2
        rcases hv1 : V1[r.frm] with _ | _
        · rw [hv1] at z1 hkp
          have hsame : idx (keepOf V1 V2 rs) (k + 1) = idx (keepOf V1 V2 rs) k ∧ kept (keepOf V1 V2 rs) rs (k + 1) = kept (keepOf V1 V2 rs) rs k := by rw [idx_succ, kept_succ _ _ _ hkl, hkp]; exact ⟨rfl, rfl⟩
          go_wp2_with fail
          go_roundw
          case rel => exact ⟨k + 1, by omega, by go_num, trimW_same HNK.out hbel HB.out hsame ((Below.refl _ _).alloc (Nat.le_refl _) _)⟩
          case measure => simp [intOf]; omega
        · rw [hv1] at z1 hkp
          rcases hv2 : V2[r.dst] with _ | _
          · rw [hv2] at z2 hkp
            have hsame : idx (keepOf V1 V2 rs) (k + 1) = idx (keepOf V1 V2 rs) k ∧ kept (keepOf V1 V2 rs) rs (k + 1) = kept (keepOf V1 V2 rs) rs k := by rw [idx_succ, kept_succ _ _ _ hkl, hkp]; exact ⟨rfl, rfl⟩
            go_wp2_with fail
            go_roundw
            case rel => exact ⟨k + 1, by omega, by go_num, trimW_same HNK.out hbel HB.out hsame ((Below.refl _ _).alloc (Nat.le_refl _) _)⟩
            case measure => simp [intOf]; omega
          · rw [hv2] at z2 hkp
            have hmore : idx (keepOf V1 V2 rs) (k + 1) = idx (keepOf V1 V2 rs) k ++ [k] ∧ kept (keepOf V1 V2 rs) rs (k + 1) = kept (keepOf V1 V2 rs) rs k ++ [r] := by rw [idx_succ, kept_succ _ _ _ hkl, hkp, HR.out]; exact ⟨rfl, rfl⟩
            go_upto_region 8 with (fail)
            refine world_gen (fun W => Below wr.heap.size wr W ∧ Blk W wr.heap.size 53 #[.int .i64 r.frm, .int .i64 r.dst, .string r.inp, .string r.out, .int .i64 r.cost]) ⟨(Below.refl _ _).alloc (Nat.le_refl _) _, Blk.new _ _ _⟩ ?_
            rintro W ⟨hbW, bR⟩
            have yy0 : W.cell? ⟨wr.heap.size, 0, none⟩ = some (.int .i64 r.frm) := bR.cell 0
            have yy1 : W.cell? ⟨wr.heap.size, 1, none⟩ = some (.int .i64 r.dst) := bR.cell 1
            have yy2 : W.cell? ⟨wr.heap.size, 2, none⟩ = some (.string r.inp) := bR.cell 2
            have yy3 : W.cell? ⟨wr.heap.size, 3, none⟩ = some (.string r.out) := bR.cell 3
            have yy4 : W.cell? ⟨wr.heap.size, 4, none⟩ = some (.int .i64 r.cost) := bR.cell 4
            have hbR := bR.lt
            have bS := HB.out.2.2.2.2.1.next hbW
            have xS2 : W.cell? ⟨S, 2, none⟩ = some (.slice A1 nk c1) := bS.cell 2
            have hSW := bS.lt
            have o1 := own_below HB.out.2.2.2.2.2.1 hbW
            have o2 := own_below HB.out.2.2.2.2.2.2 hbW
            have BS := Lib.hid bS
            have HbW := Lib.hid hbW
            have Hbel := Lib.hid hbel
            clear bR bS hbW hbel y0 y1 y2 y3 y4 z1 z2 hA hF hs hFb hbr
            obtain ⟨i0, hi0, hz0, hz1, hz2⟩ := info_parts rule_info
            obtain ⟨j0, hj0, hy0, hy1, hy2⟩ := info_parts int_info
            go_wp2_with (first
              | (at_builtin; refine wpList_append_acc _ (by rfl) _ _ 28 (by rfl) (S + 1) 53 i0 _ 5 56 Try.underlying28 hi0 hz0 hz1 hz2 (by rfl) (by omega) A1 nk c1 _ (by rfl) (by exact .inl (o1.alloc _)) W.heap.size 53 (0, 0) 1 1 #[.int .i64 r.frm, .int .i64 r.dst, .string r.inp, .string r.out, .int .i64 r.cost] (by rfl) (by rfl) (by exact heap_alloc_new _ _) (by simp [Value.oneCell']) (by omega) (by unfold maxLen; omega) (by omega) (by simp; omega) ?_; intro g4 cap4 w4 row4 hown4 hgr4 hrow4 hat4 hlt4; have bS4 := (BS.out.alloc _).rowOk hgr4 hrow4 (by decide); have xx2 : w4.cell? ⟨S, 2, none⟩ = some (.slice A1 nk c1) := bS4.cell 2; have fx2 : w4.frozen? ⟨S, 2, none⟩ = false := bS4.free 2; have o2b := Acc.far (p := ⟨S, 2, none⟩) (own_other (o2.alloc _) hgr4 hrow4 (by decide)) bS4 (by decide) (.slice (some ⟨g4, 0, none⟩) (nk + 1) cap4); have hs4 := hgr4.size)
              | (at_builtin; refine wpList_append_acc _ (by rfl) _ _ 32 (by rfl) (S + 1) 3 j0 _ 1 8 Try.underlying32 hj0 hy0 hy1 hy2 (by rfl) (by omega) A2 nk c2 _ (by rfl) (by exact .inl (o2b.alloc _)) w4.heap.size 3 (0, 0) 1 1 #[.int .i64 k] (by rfl) (by rfl) (by simpa using heap_alloc_new (w4.setCell ⟨S, 2, none⟩ (.slice (some ⟨g4, 0, none⟩) (nk + 1) cap4)) (.cells #[.int .i64 k] 3)) (by simp [Value.oneCell']) (by omega) (by unfold maxLen; omega) (by omega) (by simp at hs4 ⊢; omega) ?_; intro g5 cap5 w5 row5 hown5 hgr5 hrow5 hat5 hlt5))
            go_roundw
            case rel => exact ⟨k + 1, by omega, by go_num, trimW_more HNK.out Hbel.out hS1 HB.out hmore HbW.out hgr4 hrow4 hown4 hgr5 hrow5 hown5⟩
            case measure => simp [intOf]; omega
      · obtain rfl : k = rs.length := by omega
        have q0 : wr.cell? ⟨S, 0, none⟩ = some (.int .i64 m) := bS.cell 0
        have q1 : wr.cell? ⟨S, 1, none⟩ = some (.int .u8 ac) := bS.cell 1
        have q2 : wr.cell? ⟨S, 2, none⟩ = some (.slice A1 nk c1) := bS.cell 2
        have p0 : wr.cell? ⟨w.heap.size + 1, 0, none⟩ = some (.int .i64 0) := b1.cell 0
        have p1 : wr.cell? ⟨w.heap.size + 1, 1, none⟩ = some (.int .u8 0) := b1.cell 1
        have p2 : wr.cell? ⟨w.heap.size + 1, 2, none⟩ = some (.slice none 0 0) := b1.cell 2
        have f0 : wr.frozen? ⟨w.heap.size + 1, 0, none⟩ = false := b1.free 0
        have f1 : wr.frozen? ⟨w.heap.size + 1, 1, none⟩ = false := b1.free 1
        have f2 : wr.frozen? ⟨w.heap.size + 1, 2, none⟩ = false := b1.free 2
        have hlt1 := b1.lt
        have hltS := bS.lt
        have HB := Lib.hid (And.intro b0 (And.intro b1 (And.intro r1 (And.intro r2 (And.intro bS (And.intro own1 own2))))))
        clear b0 b1 r1 r2 bS own1 own2
        go_wp2_with fail
        refine bodyPost_ret (v := .tuple #[.agg #[.int .i64 m, .int .u8 ac, .slice A1 nk c1], .slice A2 nk c2]) (by simp [results, Try.results13, go_sem, p0, p1, p2, f0, f1, f2]) rfl ?_
        refine ⟨keepOf V1 V2 rs, A1, c1, A2, c2, by rw [HNK.out], ((hbel.setCell (p := ⟨w.heap.size + 1, 0, none⟩) (by simp) _).setCell (p := ⟨w.heap.size + 1, 1, none⟩) (by simp) _).setCell (p := ⟨w.heap.size + 1, 2, none⟩) (by simp) _, ?_, ?_, ?_⟩
        · intro i hi
          have hf1 : rs[i].frm < V1.length := by have := hs rs[i] (List.getElem_mem hi); omega
          have hf2 : rs[i].dst < V2.length := by have := hs rs[i] (List.getElem_mem hi); omega
          rw [keepOf_at hi rfl hf1 hf2, ← i1, ← i2, List.getElem?_eq_getElem hf1, List.getElem?_eq_getElem hf2]
          simp
        · have h := Reads.of_own HB.out.2.2.2.2.2.1
          exact (Reads.farB (Reads.farB (Reads.farB h (p := ⟨w.heap.size + 1, 0, none⟩) (fun b hb => by simp; omega) _) (p := ⟨w.heap.size + 1, 1, none⟩) (fun b hb => by simp; omega) _) (p := ⟨w.heap.size + 1, 2, none⟩) (fun b hb => by simp; omega) _).mono fun b hb => by omega
        · have h := Reads.of_own HB.out.2.2.2.2.2.2
          exact (Reads.farB (Reads.farB (Reads.farB h (p := ⟨w.heap.size + 1, 0, none⟩) (fun b hb => by simp; omega) _) (p := ⟨w.heap.size + 1, 1, none⟩) (fun b hb => by simp; omega) _) (p := ⟨w.heap.size + 1, 2, none⟩) (fun b hb => by simp; omega) _).mono fun b hb => by omega
end Go.Proofs.Ytpidgkngefkbeaa
