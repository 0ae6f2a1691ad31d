/- The walks of push and pop. -/
import Derived.Test.YthcnnadggffjhaaI3
set_option linter.unusedVariables false
set_option linter.unusedSimpArgs false
namespace Go.Proofs.Ythcnnadggffjhaa
open Go.RowKit

/-- what lies in a cell -/
def look (w : World) (p : Addr) : Value := (w.cell? p).getD undef
theorem look_of {w : World} {p : Addr} {v : Value} (h : w.cell? p = some v) : w.cell? p = some (look w p) := by simp [look, h]
theorem look_is {w : World} {p : Addr} {v : Value} (h : w.cell? p = some v) : look w p = v := by simp [look, h]
/-- the queue: its variable lies in block Q -/
structure Que (base Q : Nat) (w : World) (A : Option Addr) (c : Nat) (vs : List PartV) : Prop where
  box : Blk w Q 78 #[.slice A vs.length c]
  row : RowP base w A c vs
theorem Que.qrow {base Q : Nat} {w : World} {A : Option Addr} {c : Nat} {vs : List PartV} (h : Que base Q w A c vs) : (Value.slice A vs.length c).ownBlock ≠ some Q := by
  intro he
  rcases h.row.2 with ⟨hv, _⟩ | ⟨g, cap, cur, hv, hg, hh, _⟩
  · rw [hv] at he; cases he
  · rw [hv] at he
    have : g = Q := by simpa [Value.ownBlock] using he
    subst this
    have hb : Blk w g 78 _ := h.box
    unfold Blk at hb
    rw [hh] at hb
    injection hb with hb
    injection hb with _ ht
    exact absurd ht (by decide)
theorem Que.next {base Q : Nat} {w w' : World} {A : Option Addr} {c : Nat} {vs : List PartV} (h : Que base Q w A c vs) (hb : Below w.heap.size w w') : Que base Q w' A c vs := ⟨h.box.next hb, ownBelow hb h.row⟩
/-- what push turns: the queue's variable and its row -/
def QTurns (Q : Nat) (A : Option Addr) (b : Nat) : Prop := b = Q ∨ ∃ o s, A = some ⟨b, o, s⟩
def Pushed (base Q : Nat) (A : Option Addr) (w : World) (p : PartV) (vs : List PartV) (e : Ending) (w' : World) : Prop :=
  e = .returned (.tuple #[]) ∧ Mod (QTurns Q A) w w' ∧ ∃ A' c', Que base Q w' A' c' (pushV p vs) ∧ (A' = A ∨ ∀ b, QTurns Q A' b → b = Q ∨ w.heap.size ≤ b)
theorem pushV_len (p : PartV) (vs : List PartV) : (pushV p vs).length = vs.length + 1 := by
  have := place_le p vs
  simp only [pushV, List.length_append, List.length_take, List.length_cons, List.length_drop]
  omega
theorem pushV_cells (p : PartV) (vs : List PartV) : (pushV p vs).flatMap PartV.cells = (vs.flatMap PartV.cells).take (place p vs * 3) ++ p.cells ++ (vs.flatMap PartV.cells).drop (place p vs * 3) := by
  rw [partCells_take, partCells_drop]
  simp [pushV]
theorem pushed_of {base Q : Nat} {A : Option Addr} {c : Nat} {vs : List PartV} {p : PartV} {w wc w5 : World} {X : Obj} {g cap : Nat} (hq : Que base Q w A c vs) (hb : Below w.heap.size w wc) (hq2 : Que base Q wc A c vs)
    (hown : w5.ownsRow base 76 3 (.slice (some ⟨g, 0, none⟩) (vs.length + 1) cap) (vs.length + 1) ((vs.flatMap PartV.cells).take (place p vs * 3) ++ [.string p.inp, .int .i64 p.cost, .slice p.a p.n p.c] ++ (vs.flatMap PartV.cells).drop (place p vs * 3)))
    (hg : ((wc.alloc X).drew).grownBy w5 ((Value.slice A vs.length c).ownBlock)) (hat : (Value.slice A vs.length c).ownBlock = some g ∨ ((wc.alloc X).drew).heap.size ≤ g) :
    Pushed base Q A w p vs (.returned (.tuple #[])) (w5.setCell ⟨Q, 0, none⟩ (.slice (some ⟨g, 0, none⟩) (vs.length + 1) cap)) := by
  have hrow : ∀ k, (Value.slice A vs.length c).ownBlock = some k → QTurns Q A k := fun k hk => by
    cases A with
    | none => cases hk
    | some a =>
      have he : a.block = k := by simpa [Value.ownBlock] using hk
      subst he
      exact .inr ⟨a.off, a.spot, rfl⟩
  have hne : some Q ≠ (Value.slice A vs.length c).ownBlock := fun h => hq2.qrow h.symm
  have hm : Mod (QTurns Q A) w w5 := ((Mod.of_below hb).next ((below_one wc X).drew)).trans (Mod.of_grown hg hrow)
  have hbox : Blk w5 Q 78 #[.slice A vs.length c] := ((hq2.box.alloc X).drew).grown hg hne
  refine ⟨rfl, hm.set (.inl rfl) _, some ⟨g, 0, none⟩, cap, ⟨?_, ?_⟩, ?_⟩
  · have := hbox.set 0 (.slice (some ⟨g, 0, none⟩) (vs.length + 1) cap)
    rw [pushV_len]
    simpa using this
  · unfold RowP
    rw [pushV_len, pushV_cells]
    exact Acc.far (p := ⟨Q, 0, none⟩) hown hbox (by decide) _
  · rcases hat with hat | hat
    · left
      rcases hq.row.2 with ⟨hv, _⟩ | ⟨g', cap', cur, hv, _⟩
      · rw [hv] at hat; cases hat
      · rw [hv] at hat
        have h1 : g' = g := by simpa [Value.ownBlock] using hat
        subst h1
        injection hv with h2
        exact h2.symm
    · right
      rintro b (hb' | ⟨o, s, h⟩)
      · exact .inl hb'
      · right
        injection h with h
        injection h with h
        subst h
        have := hb.size
        simp at hat
        omega
set_option maxHeartbeats 2000000 in
set_option maxRecDepth 100000 in
theorem push_any (base Q : Nat) (A : Option Addr) (c : Nat) (vs : List PartV) (p : PartV) (w : World) (hq : Que base Q w A c vs) (hbase : base ≤ w.heap.size) (hd : Down vs) (hn : vs.length < 1000000000000) (hp : p.inp.size ≤ 1000000) (hv : ∀ q ∈ vs, q.inp.size ≤ 1000000) :
    Calls Try.prog 36 #[.pointer (some ⟨Q, 0, none⟩), p.agg] w (Pushed base Q A w p vs) := by
  have hpl := place_le p vs
  go_enter Try.func36, Try.ntmps36
  go_upto_region 1 with (fail)
  have hb1 := below_one w (.cells p.cells.toArray 76)
  refine world_gen (fun W => Below w.heap.size w W ∧ Blk W w.heap.size 76 p.cells.toArray ∧ Que base Q W A c vs ∧ w.heap.size < W.heap.size) ⟨below_one _ _, Blk.new _ _ _, hq.next (below_one _ _), by simp⟩ ?_
  clear hb1
  rintro W ⟨hbel, b0, hqW, hWs⟩
  obtain ⟨x0, x1, x2, hl0⟩ := b0.partIs
  have y0 : W.cell? ⟨Q, 0, none⟩ = some (.slice A vs.length c) := hqW.box.cell 0
  have hlQ := hqW.box.lt
  have HB := Lib.hid hbel
  have HB0 := Lib.hid b0
  have HQ := Lib.hid hqW
  clear hbel b0 hqW
  go_cut [4] (fun x wx => x = .int .i64 (place p vs) ∧ Below W.heap.size W wx)
  case first =>
    have HC : Hid (Below W.heap.size W W.drew) := Lib.hid (Below.refl _ _).drew
    go_region_held3 (fun w' => w'.cell? ⟨Q, 0, none⟩ = some (.slice A vs.length c) ∧ w'.cell? ⟨w.heap.size, 0, none⟩ = some (.string p.inp) ∧ w'.cell? ⟨w.heap.size, 1, none⟩ = some (.int .i64 p.cost) ∧ w'.cell? ⟨w.heap.size, 2, none⟩ = some (.slice p.a p.n p.c))
      (first | exact ⟨y0, x0, x1, x2⟩ | go_keep)
      (first | (go_at_call 53; refine (search_any _ A c vs p _ (by exact Reads.below (HQ.out.row.reads) HC.out) hd (by omega) hp hv).mono ?_; rintro e w2 ⟨bb, rfl, hb2⟩; have hs2 := hb2.size; have y0 := (hb2.cell (p := ⟨Q, 0, none⟩) hlQ).trans y0; have x0 := (hb2.cell (p := ⟨w.heap.size, 0, none⟩) hl0).trans x0; have x1 := (hb2.cell (p := ⟨w.heap.size, 1, none⟩) hl0).trans x1; have x2 := (hb2.cell (p := ⟨w.heap.size, 2, none⟩) hl0).trans x2; replace HC := Lib.hid (HC.out.trans (hb2.mono HC.out.size))))
    all_goals (go_wp2; go_meet)
    all_goals exact ⟨rfl, HC.out⟩
  case rest =>
    obtain ⟨rfl, hb2⟩ := hcut
    have y0 := (hb2.cell (p := ⟨Q, 0, none⟩) hlQ).trans y0
    have x0 := (hb2.cell (p := ⟨w.heap.size, 0, none⟩) hl0).trans x0
    have x1 := (hb2.cell (p := ⟨w.heap.size, 1, none⟩) hl0).trans x1
    have x2 := (hb2.cell (p := ⟨w.heap.size, 2, none⟩) hl0).trans x2
    have fQ := (hb2.frozen (p := ⟨Q, 0, none⟩) hlQ).trans (HQ.out.box.free 0)
    have hs2 := hb2.size
    have HQ2 := Lib.hid (HQ.out.next hb2)
    have HB2 := Lib.hid (HB.out.trans (hb2.mono HB.out.size))
    clear hb2
    have hbs : base ≤ wc.heap.size := by omega
    go_upto_region 2 with (fail)
    have hlQ2 : Q < wc.heap.size := by omega
    have hl02 : w.heap.size < wc.heap.size := by omega
    have hrow : (Value.slice A vs.length c).ownBlock ≠ some Q := HQ2.out.qrow
    have hrlt : ∀ k, (Value.slice A vs.length c).ownBlock = some k → k < w.heap.size := fun k hk => (hq.row.lt k hk).2
    have hpl2 : (place p vs : Int) ≤ (vs.length : Int) := by omega
    have n1 := World.new_ne wc _ y0
    have n2 := World.new_ne wc _ x0
    go_region_law (first | (go_simp; go_at_call 55; refine (insert_any base A vs.length c (place p vs) wc.heap.size (vs.flatMap PartV.cells) (.string p.inp) (.int .i64 p.cost) (.slice p.a p.n p.c) _ (by exact ownBelow ((Below.refl _ _).alloc (Nat.le_refl _) _).drew HQ2.out.row) (by simp; omega) (by exact Blk.new wc _ _) (fun he => by have := hrlt _ he; omega) rfl rfl rfl (partCells_one vs) hpl (by omega)).mono ?_; rintro e w5 ⟨g, cap, rfl, hown5, hgr5, hat5⟩; have y0 := hgr5.cell (a := ⟨Q, 0, none⟩) ((World.cell?_alloc_lt _ _ _ hlQ2).trans y0) (fun he => hrow he.symm); have fQ := (World.frozen?_of_block (a := ⟨Q, 0, none⟩) (hgr5.block Q (by simp; omega) (fun he => hrow he.symm))).trans ((World.frozen?_of_block (a := ⟨Q, 0, none⟩) (Below.heap_alloc wc _ _ hlQ2)).trans fQ); have x0 := hgr5.cell (a := ⟨w.heap.size, 0, none⟩) ((World.cell?_alloc_lt _ _ _ hl02).trans x0) (fun he => absurd (hrlt _ he.symm) (Nat.lt_irrefl _)); have x1 := hgr5.cell (a := ⟨w.heap.size, 1, none⟩) ((World.cell?_alloc_lt _ _ _ hl02).trans x1) (fun he => absurd (hrlt _ he.symm) (Nat.lt_irrefl _)); have x2 := hgr5.cell (a := ⟨w.heap.size, 2, none⟩) ((World.cell?_alloc_lt _ _ _ hl02).trans x2) (fun he => absurd (hrlt _ he.symm) (Nat.lt_irrefl _))))
    all_goals go_wp2
    all_goals go_end0
    all_goals exact pushed_of hq HB2.out HQ2.out hown5 hgr5 hat5
end Go.Proofs.Ythcnnadggffjhaa
