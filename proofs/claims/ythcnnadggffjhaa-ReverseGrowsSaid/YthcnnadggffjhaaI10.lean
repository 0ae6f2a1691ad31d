/- The memory of Best. -/
import Derived.Test.YthcnnadggffjhaaI5
import Derived.Test.YthcnnadggffjhaaI8
import Derived.Test.YthcnnadggffjhaaI9
import Derived.Test.YthcnnadggffjhaaQ2
set_option linter.unusedVariables false
set_option linter.unusedSimpArgs false
namespace Go.Proofs.Ythcnnadggffjhaa
open Go.RowKit

/-- block b is a row of elements of type t -/
def Ty (w : World) (t : TypeId) (b : Nat) : Prop := ∃ cs, Blk w b t cs
def NotTy (S : Nat → Prop) (w : World) (t : TypeId) : Prop := ∀ b, S b → ¬ Ty w t b
/-- a slice whose cells lie in a row of type t -/
def ReadsT (t : TypeId) (w : World) (A : Option Addr) (xs : List Value) : Prop := Reads (Ty w t) w A xs
section
variable {S : Nat → Prop} {w w' : World} {t : TypeId} {b : Nat} {cs : Array Value} {A : Option Addr} {xs : List Value}
theorem Ty.unique {t' : TypeId} (h : Ty w t b) (h' : Ty w t' b) : t = t' := by
  obtain ⟨cs, h⟩ := h
  obtain ⟨cs', h'⟩ := h'
  unfold Blk at h h'
  rw [h] at h'
  injection h' with h'
  injection h' with _ h'
theorem Mod.blkT (hm : Mod S w w') (h : Blk w b t cs) (hs : NotTy S w t) : Blk w' b t cs := hm.blk h fun hb => hs b hb ⟨cs, h⟩
theorem Mod.ty (hm : Mod S w w') (h : Ty w t b) (hs : NotTy S w t) : Ty w' t b := let ⟨cs, hc⟩ := h; ⟨cs, hm.blkT hc hs⟩
theorem ReadsT.mod (hm : Mod S w w') (h : ReadsT t w A xs) (hs : NotTy S w t) : ReadsT t w' A xs := fun hn => by
  obtain ⟨b, o, e, hb, hl, hc⟩ := h hn
  exact ⟨b, o, e, hm.ty hb hs, Nat.lt_of_lt_of_le hl hm.size, fun j u hu => (World.cell?_of_block (hm.block b hl fun hb' => hs b hb' hb)).trans (hc j u hu)⟩
theorem ReadsT.next (h : ReadsT t w A xs) (hb : Below w.heap.size w w') : ReadsT t w' A xs := h.mod (Mod.of_below (S := fun _ => False) hb) fun _ h => h.elim
theorem ReadsT.block (h : Blk w b t cs) : ReadsT t w (some ⟨b, 0, none⟩) cs.toList := Reads.block h ⟨cs, h⟩
theorem ReadsT.reads (h : ReadsT t w A xs) : Reads (fun _ => True) w A xs := Reads.mono h fun _ _ => trivial
theorem own_ty {base size n : Nat} {v : Value} (h : w.ownsRow base t size v n xs) (hb : v.ownBlock = some b) : Ty w t b := by
  rcases h.2 with ⟨hv, _⟩ | ⟨g, cap, cur, hv, hg, hh, _⟩
  · rw [hv] at hb; cases hb
  · rw [hv] at hb
    have : g = b := by simpa [Value.ownBlock] using hb
    subst this
    exact ⟨cur, hh⟩
theorem Mod.ownT (hm : Mod S w w') {base size n : Nat} {v : Value} (h : w.ownsRow base t size v n xs) (hs : NotTy S w t) : w'.ownsRow base t size v n xs := hm.own h fun b hb hsb => hs b hsb (own_ty h hb)
theorem notTy_own {t' : TypeId} {base size n : Nat} {v : Value} (h : w.ownsRow base t size v n xs) (hne : t ≠ t') : NotTy (fun b => v.ownBlock = some b) w t' := fun b hb h' => hne ((own_ty h hb).unique h')
theorem ReadsT.of_own {base size n c : Nat} (h : w.ownsRow base t size (.slice A n c) n xs) : ReadsT t w A xs := fun hn => by
  obtain ⟨b, o, e, hb, hl, hc⟩ := Reads.of_own h hn
  exact ⟨b, o, e, own_ty h (by rw [e]; rfl), hl, hc⟩
theorem Que.notTy {base Q c : Nat} {vs : List PartV} (h : Que base Q w A c vs) (h1 : 78 ≠ t) (h2 : 76 ≠ t) : NotTy (QTurns Q A) w t := by
  rintro b (rfl | ⟨o, s, hA⟩) h'
  · exact h1 (Ty.unique ⟨_, h.box⟩ h')
  · exact h2 (Ty.unique (own_ty h.row (by rw [hA]; rfl)) h')
theorem Known.notTy {n : Nat} {K : List ByteArray} (h : Known w b n K) : NotTy (· = b) w t := by
  rintro x rfl ⟨cs, hc⟩
  obtain ⟨D, ⟨es, clock, h1, _⟩, _⟩ := h
  unfold Blk at hc
  rw [h1] at hc
  cases hc
theorem Known.ty {n : Nat} {K : List ByteArray} (h : Known w b n K) : ¬ Ty w t b := fun h' => h.notTy b rfl h'
end
/-- a part's spots lie in memory -/
structure VOk (w : World) (v : PartV) : Prop where
  len : v.n = v.spots.length
  cap : v.n ≤ v.c
  at_ : ReadsT 73 w v.a (v.spots.flatMap spotCells)
def resCells (r : ByteArray × Nat) : List Value := [.string r.1, .int .i64 r.2]
/-- while Best runs: the scheme's box, the queue, what is known, what is ready, the list -/
structure BW (m ac : Nat) (A : Option Addr) (n c : Nat) (w W : World) (Q : Nat) (A1 : Option Addr) (c1 : Nat) (vs : List PartV) (Kb nk : Nat) (S : List ByteArray) (A2 : Option Addr) (c2 : Nat) (ready : List ByteArray) (A3 : Option Addr) (c3 : Nat) (l : List (ByteArray × Nat)) : Prop where
  bel : Below w.heap.size w W
  box : Blk W w.heap.size 31 #[.int .i64 m, .int .u8 ac, .slice A n c]
  hQ : w.heap.size < Q
  hK : w.heap.size < Kb
  que : Que (w.heap.size + 1) Q W A1 c1 vs
  vok : ∀ v ∈ vs, VOk W v
  kn : Known W Kb nk S
  rd : W.ownsRow (w.heap.size + 1) 9 1 (.slice A2 ready.length c2) ready.length (ready.map Value.string)
  ls : W.ownsRow (w.heap.size + 1) 46 2 (.slice A3 l.length c3) l.length (l.flatMap resCells)
section
variable {m ac : Nat} {A : Option Addr} {n c : Nat} {w W W' : World} {Q : Nat} {A1 : Option Addr} {c1 : Nat} {vs : List PartV} {Kb nk : Nat} {S : List ByteArray} {A2 : Option Addr} {c2 : Nat} {ready : List ByteArray} {A3 : Option Addr} {c3 : Nat} {l : List (ByteArray × Nat)}
theorem VOk.mod {T : Nat → Prop} {v : PartV} (h : VOk W v) (hm : Mod T W W') (hs : NotTy T W 73) : VOk W' v := ⟨h.len, h.cap, ReadsT.mod hm h.at_ hs⟩
theorem VOk.next {v : PartV} (h : VOk W v) (hb : Below W.heap.size W W') : VOk W' v := h.mod (Mod.of_below (S := fun _ => False) hb) fun _ h => h.elim
theorem BW.next (h : BW m ac A n c w W Q A1 c1 vs Kb nk S A2 c2 ready A3 c3 l) (hb : Below W.heap.size W W') : BW m ac A n c w W' Q A1 c1 vs Kb nk S A2 c2 ready A3 c3 l :=
  ⟨h.bel.trans (hb.mono h.bel.size), h.box.next hb, h.hQ, h.hK, h.que.next hb, fun v hv => (h.vok v hv).next hb, h.kn.next hb, ownBelow hb h.rd, ownBelow hb h.ls⟩
theorem BW.lt (h : BW m ac A n c w W Q A1 c1 vs Kb nk S A2 c2 ready A3 c3 l) : w.heap.size < W.heap.size := h.box.lt
/-- all blocks that a push turns are the call's own -/
theorem Que.above {base : Nat} (h : Que base Q W A1 c1 vs) (hQ : base ≤ Q) : ∀ b, QTurns Q A1 b → base ≤ b := by
  rintro b (rfl | ⟨o, s, hA⟩)
  · exact hQ
  · exact (h.row.lt b (by rw [hA]; rfl)).1
theorem BW.push (h : BW m ac A n c w W Q A1 c1 vs Kb nk S A2 c2 ready A3 c3 l) {p : PartV} (hp : VOk W p) {e : Ending} (hP : Pushed (w.heap.size + 1) Q A1 W p vs e W') :
    ∃ A1' c1', BW m ac A n c w W' Q A1' c1' (pushV p vs) Kb nk S A2 c2 ready A3 c3 l ∧ (A1' = A1 ∨ ∀ b, QTurns Q A1' b → b = Q ∨ W.heap.size ≤ b) := by
  obtain ⟨_, hm, A1', c1', hq', hA'⟩ := hP
  have hQ := h.hQ
  have hab := h.que.above hQ
  have hnt : ∀ t, 78 ≠ t → 76 ≠ t → NotTy (QTurns Q A1) W t := fun t h1 h2 => h.que.notTy h1 h2
  have hkb : ¬ QTurns Q A1 Kb := by
    rintro (he | ⟨o, s, hA⟩)
    · exact h.kn.ty (t := 78) (by rw [he]; exact ⟨_, h.que.box⟩)
    · exact h.kn.ty (t := 76) (own_ty h.que.row (by rw [hA]; rfl))
  have hlt := h.lt
  refine ⟨A1', c1', ⟨hm.below h.bel (by omega) fun b _ hb => by have := hab b hb; omega, hm.blk h.box fun hb => by have := hab _ hb; omega, hQ, h.hK, hq', fun v hv => ?_, h.kn.mod hm hkb, hm.ownT h.rd (hnt _ (by decide) (by decide)), hm.ownT h.ls (hnt _ (by decide) (by decide))⟩, hA'⟩
  have hv' : v = p ∨ v ∈ vs := by
    unfold pushV at hv
    rw [List.mem_append, List.mem_cons] at hv
    rcases hv with h1 | h1 | h1
    · exact .inr (List.mem_of_mem_take h1)
    · exact .inl h1
    · exact .inr (List.mem_of_mem_drop h1)
  rcases hv' with rfl | hv'
  · exact hp.mod hm (hnt _ (by decide) (by decide))
  · exact (h.vok v hv').mod hm (hnt _ (by decide) (by decide))
theorem BW.pop {p : PartV} (h : BW m ac A n c w W Q A1 c1 (vs ++ [p]) Kb nk S A2 c2 ready A3 c3 l) {e : Ending} (hP : Popped (w.heap.size + 1) Q A1 c1 W p vs e W') :
    BW m ac A n c w W' Q A1 c1 vs Kb nk S A2 c2 ready A3 c3 l ∧ VOk W' p := by
  obtain ⟨_, hm, hq'⟩ := hP
  have hQ := h.hQ
  have hlt := h.lt
  have hnt : ∀ t, 78 ≠ t → NotTy (· = Q) W t := fun t h1 b hb h' => by
    have hb : b = Q := hb
    subst hb
    exact h1 (Ty.unique ⟨_, h.que.box⟩ h')
  have hkb : ¬ Kb = Q := fun he => h.kn.ty (t := 78) (by rw [he]; exact ⟨_, h.que.box⟩)
  refine ⟨⟨hm.below h.bel (by omega) fun b _ hb => by omega, hm.blk h.box (by omega), hQ, h.hK, hq', fun v hv => (h.vok v (List.mem_append_left _ hv)).mod hm (hnt _ (by decide)), h.kn.mod hm hkb, hm.ownT h.rd (hnt _ (by decide)), hm.ownT h.ls (hnt _ (by decide))⟩, ?_⟩
  exact (h.vok p (by simp)).mod hm (hnt _ (by decide))
theorem BW.know (h : BW m ac A n c w W Q A1 c1 vs Kb nk S A2 c2 ready A3 c3 l) {s : ByteArray} (hk : Known W' Kb (nk + 1) (S ++ [s])) (hg : W.grownBy W' (some Kb)) : BW m ac A n c w W' Q A1 c1 vs Kb (nk + 1) (S ++ [s]) A2 c2 ready A3 c3 l := by
  have hm : Mod (· = Kb) W W' := Mod.of_grown hg fun k hk => by injection hk with hk; exact hk.symm
  have hK := h.hK
  have hlt := h.lt
  have hnt : ∀ t, NotTy (· = Kb) W t := fun t => h.kn.notTy
  refine ⟨hm.below h.bel (by omega) fun b _ hb => by omega, hm.blkT h.box (hnt _), h.hQ, hK, ⟨hm.blkT h.que.box (hnt _), hm.ownT h.que.row (hnt _)⟩, fun v hv => (h.vok v hv).mod hm (hnt _), hk, hm.ownT h.rd (hnt _), hm.ownT h.ls (hnt _)⟩
/-- one more is ready -/
theorem BW.ready1 (h : BW m ac A n c w W Q A1 c1 vs Kb nk S A2 c2 ready A3 c3 l) {row : Option Nat} {s : ByteArray} {g cap : Nat} (hg : W.grownBy W' row) (hr : RowOk (w.heap.size + 1) W 9 row)
    (ho : W'.ownsRow (w.heap.size + 1) 9 1 (.slice (some ⟨g, 0, none⟩) (ready.length + 1) cap) (ready.length + 1) (ready.map Value.string ++ [.string s])) :
    BW m ac A n c w W' Q A1 c1 vs Kb nk S (some ⟨g, 0, none⟩) cap (ready ++ [s]) A3 c3 l := by
  have hm : Mod (fun b => row = some b) W W' := Mod.of_grown hg fun k hk => hk
  have hlt := h.lt
  have hnt : ∀ t, 9 ≠ t → NotTy (fun b => row = some b) W t := fun t h1 b hb h' => by
    obtain ⟨_, cur, hc⟩ := hr b hb
    exact h1 (Ty.unique ⟨cur, hc⟩ h')
  have hkb : ¬ row = some Kb := fun he => by
    obtain ⟨_, cur, hc⟩ := hr Kb he
    exact h.kn.ty (t := 9) ⟨cur, hc⟩
  refine ⟨hm.below h.bel (by omega) fun b _ hb => by have := (hr b hb).1; omega, hm.blkT h.box (hnt _ (by decide)), h.hQ, h.hK, ⟨hm.blkT h.que.box (hnt _ (by decide)), hm.ownT h.que.row (hnt _ (by decide))⟩, fun v hv => (h.vok v hv).mod hm (hnt _ (by decide)), h.kn.mod hm hkb, ?_, hm.ownT h.ls (hnt _ (by decide))⟩
  rw [List.length_append, List.map_append]
  exact ho
/-- one result more -/
theorem BW.res1 (h : BW m ac A n c w W Q A1 c1 vs Kb nk S A2 c2 ready A3 c3 l) {row : Option Nat} {r : ByteArray × Nat} {g cap : Nat} (hg : W.grownBy W' row) (hr : RowOk (w.heap.size + 1) W 46 row)
    (ho : W'.ownsRow (w.heap.size + 1) 46 2 (.slice (some ⟨g, 0, none⟩) (l.length + 1) cap) (l.length + 1) (l.flatMap resCells ++ [.string r.1, .int .i64 r.2])) :
    BW m ac A n c w W' Q A1 c1 vs Kb nk S A2 c2 ready (some ⟨g, 0, none⟩) cap (l ++ [r]) := by
  have hm : Mod (fun b => row = some b) W W' := Mod.of_grown hg fun k hk => hk
  have hlt := h.lt
  have hnt : ∀ t, 46 ≠ t → NotTy (fun b => row = some b) W t := fun t h1 b hb h' => by
    obtain ⟨_, cur, hc⟩ := hr b hb
    exact h1 (Ty.unique ⟨cur, hc⟩ h')
  have hkb : ¬ row = some Kb := fun he => by
    obtain ⟨_, cur, hc⟩ := hr Kb he
    exact h.kn.ty (t := 46) ⟨cur, hc⟩
  refine ⟨hm.below h.bel (by omega) fun b _ hb => by have := (hr b hb).1; omega, hm.blkT h.box (hnt _ (by decide)), h.hQ, h.hK, ⟨hm.blkT h.que.box (hnt _ (by decide)), hm.ownT h.que.row (hnt _ (by decide))⟩, fun v hv => (h.vok v hv).mod hm (hnt _ (by decide)), h.kn.mod hm hkb, hm.ownT h.rd (hnt _ (by decide)), ?_⟩
  rw [List.length_append, List.flatMap_append]
  exact ho
theorem BW.fresh (h : BW m ac A n c w W Q A1 c1 vs Kb nk S A2 c2 ready A3 c3 l) : BW m ac A n c w W Q A1 c1 vs Kb nk S none 0 [] A3 c3 l :=
  ⟨h.bel, h.box, h.hQ, h.hK, h.que, h.vok, h.kn, World.ownsRow_nil _ _ _ _, h.ls⟩
/-- what is ready is put in order -/
theorem BW.sorted (h : BW m ac A n c w W Q A1 c1 vs Kb nk S A2 c2 ready A3 c3 l) (hm : Mod (fun b => (Value.slice A2 ready.length c2).ownBlock = some b) W W') (ho : W'.ownsRow (w.heap.size + 1) 9 1 (.slice A2 ready.length c2) ready.length ((sortedS ready).map Value.string)) :
    BW m ac A n c w W' Q A1 c1 vs Kb nk S A2 c2 (sortedS ready) A3 c3 l := by
  have hlt := h.lt
  have hl : (sortedS ready).length = ready.length := by simp [sortedS]
  have hnt : ∀ t, 9 ≠ t → NotTy (fun b => (Value.slice A2 ready.length c2).ownBlock = some b) W t := fun t h1 => notTy_own h.rd h1
  have hkb : ¬ (Value.slice A2 ready.length c2).ownBlock = some Kb := fun he => h.kn.ty (own_ty h.rd he)
  refine ⟨hm.below h.bel (by omega) fun b _ hb => by have := (h.rd.lt b hb).1; omega, hm.blkT h.box (hnt _ (by decide)), h.hQ, h.hK, ⟨hm.blkT h.que.box (hnt _ (by decide)), hm.ownT h.que.row (hnt _ (by decide))⟩, fun v hv => (h.vok v hv).mod hm (hnt _ (by decide)), h.kn.mod hm hkb, ?_, hm.ownT h.ls (hnt _ (by decide))⟩
  rw [hl]
  exact ho
end
/-- in the round of a part p: v came first; their boxes, the box of the last spot of p -/
structure HereW (m ac : Nat) (A : Option Addr) (n c : Nat) (w W : World) (Q : Nat) (A1 : Option Addr) (c1 : Nat) (vs : List PartV) (Kb nk : Nat) (S : List ByteArray) (A2 : Option Addr) (c2 : Nat) (ready : List ByteArray) (A3 : Option Addr) (c3 : Nat) (l : List (ByteArray × Nat))
    (v p : PartV) (X P0 H bs os j h1 h2 : Nat) : Prop where
  bw : BW m ac A n c w W Q A1 c1 vs Kb nk S A2 c2 ready A3 c3 l
  bx : Blk W X 76 v.cells.toArray
  bp : Blk W P0 76 #[.string p.inp, .int .i64 p.cost, .slice (some ⟨bs, os, none⟩) (j + 1) p.c]
  bh : Blk W H 73 #[.int .i64 h1, .int .i64 h2]
  vok : VOk W p
  ne : ∀ b, QTurns Q A1 b → b ≠ X ∧ b ≠ P0
section
variable {m ac : Nat} {A : Option Addr} {n c : Nat} {w W W' : World} {Q : Nat} {A1 : Option Addr} {c1 : Nat} {vs : List PartV} {Kb nk : Nat} {S : List ByteArray} {A2 : Option Addr} {c2 : Nat} {ready : List ByteArray} {A3 : Option Addr} {c3 : Nat} {l : List (ByteArray × Nat)} {v p : PartV} {X P0 H bs os j h1 h2 : Nat}
theorem HereW.next (h : HereW m ac A n c w W Q A1 c1 vs Kb nk S A2 c2 ready A3 c3 l v p X P0 H bs os j h1 h2) (hb : Below W.heap.size W W') : HereW m ac A n c w W' Q A1 c1 vs Kb nk S A2 c2 ready A3 c3 l v p X P0 H bs os j h1 h2 :=
  ⟨h.bw.next hb, h.bx.next hb, h.bp.next hb, h.bh.next hb, h.vok.next hb, h.ne⟩
theorem HereW.know (h : HereW m ac A n c w W Q A1 c1 vs Kb nk S A2 c2 ready A3 c3 l v p X P0 H bs os j h1 h2) {s : ByteArray} (hk : Known W' Kb (nk + 1) (S ++ [s])) (hg : W.grownBy W' (some Kb)) : HereW m ac A n c w W' Q A1 c1 vs Kb (nk + 1) (S ++ [s]) A2 c2 ready A3 c3 l v p X P0 H bs os j h1 h2 := by
  have hm : Mod (· = Kb) W W' := Mod.of_grown hg fun k hk => by injection hk with hk; exact hk.symm
  have hnt : ∀ t, NotTy (· = Kb) W t := fun t => h.bw.kn.notTy
  exact ⟨h.bw.know hk hg, hm.blkT h.bx (hnt _), hm.blkT h.bp (hnt _), hm.blkT h.bh (hnt _), h.vok.mod hm (hnt _), h.ne⟩
theorem HereW.ready1 (h : HereW m ac A n c w W Q A1 c1 vs Kb nk S A2 c2 ready A3 c3 l v p X P0 H bs os j h1 h2) {row : Option Nat} {s : ByteArray} {g cap : Nat} (hg : W.grownBy W' row) (hr : RowOk (w.heap.size + 1) W 9 row)
    (ho : W'.ownsRow (w.heap.size + 1) 9 1 (.slice (some ⟨g, 0, none⟩) (ready.length + 1) cap) (ready.length + 1) (ready.map Value.string ++ [.string s])) :
    HereW m ac A n c w W' Q A1 c1 vs Kb nk S (some ⟨g, 0, none⟩) cap (ready ++ [s]) A3 c3 l v p X P0 H bs os j h1 h2 := by
  have hm : Mod (fun b => row = some b) W W' := Mod.of_grown hg fun k hk => hk
  have hnt : ∀ t, 9 ≠ t → NotTy (fun b => row = some b) W t := fun t h1 b hb h' => by
    obtain ⟨_, cur, hc⟩ := hr b hb
    exact h1 (Ty.unique ⟨cur, hc⟩ h')
  exact ⟨h.bw.ready1 hg hr ho, hm.blkT h.bx (hnt _ (by decide)), hm.blkT h.bp (hnt _ (by decide)), hm.blkT h.bh (hnt _ (by decide)), h.vok.mod hm (hnt _ (by decide)), h.ne⟩
theorem HereW.push (h : HereW m ac A n c w W Q A1 c1 vs Kb nk S A2 c2 ready A3 c3 l v p X P0 H bs os j h1 h2) {q : PartV} (hq : VOk W q) {e : Ending} (hP : Pushed (w.heap.size + 1) Q A1 W q vs e W') :
    ∃ A1' c1', HereW m ac A n c w W' Q A1' c1' (pushV q vs) Kb nk S A2 c2 ready A3 c3 l v p X P0 H bs os j h1 h2 := by
  obtain ⟨A1', c1', hB, hA⟩ := h.bw.push hq hP
  have hm := hP.2.1
  have hnt : NotTy (QTurns Q A1) W 73 := h.bw.que.notTy (by decide) (by decide)
  have hQ := h.ne Q (.inl rfl)
  have hXl := h.bx.lt
  have hPl := h.bp.lt
  refine ⟨A1', c1', hB, hm.blk h.bx fun hb => (h.ne _ hb).1 rfl, hm.blk h.bp fun hb => (h.ne _ hb).2 rfl, hm.blkT h.bh hnt, h.vok.mod hm hnt, ?_⟩
  rcases hA with rfl | hA
  · exact h.ne
  · intro b hb
    rcases hA b hb with rfl | hb'
    · exact hQ
    · exact ⟨by omega, by omega⟩
end
theorem result_info : (Try.prog.info? 46).map (fun i => (i.zero, i.size, i.bytes)) = some (some (.agg #[.string ⟨#[]⟩, .int .i64 0]), 2, 24) := by kernel_rfl
theorem string_info : (Try.prog.info? 9).map (fun i => (i.zero, i.size, i.bytes)) = some (some (.string ⟨#[]⟩), 1, 16) := by kernel_rfl
theorem spot_info : (Try.prog.info? 73).map (fun i => (i.zero, i.size, i.bytes)) = some (some (.agg #[.int .i64 0, .int .i64 0]), 2, 16) := by kernel_rfl
theorem sortedS_len (l : List ByteArray) : (sortedS l).length = l.length := by simp [sortedS]
section
variable {P : Program} (w : World)
/-- append onto a slice that is full: a new row -/
theorem run_append_full (t ty e : TypeId) (i : TypeInfo) (z : Value) (size bytes : Nat) (ht : P.underlying t = some (.slice e)) (hi : P.info? e = some i) (hz : i.zero = some z) (hsize : i.size = size) (hby : i.bytes = bytes) (hzs : z.cells.size = size) (hsz : 0 < size)
    (F : Nat → Prop) (A : Option Addr) (n : Nat) (xs : List Value) (hA : Reads F w A xs) (hl : xs.length = n * size) (hn : 0 < n)
    (b : Nat) (t2 : TypeId) (fr : Nat × Nat) (m c2 : Nat) (news : Array Value) (hnl : news.size = m * size) (hblk : w.heap[b]? = some (.cells news t2 fr)) (h1 : ∀ u ∈ news.toList, u.oneCell' = true) (hm : 0 < m) (h63 : n + m ≤ maxLen) (hbytes : (n + m) * bytes ≤ 140737488355328) :
    ∃ g cap w', (Builtin.append_ #[t, t] ty #[.slice A n n, .slice (some ⟨b, 0, none⟩) m c2]).run P w = .ok (.slice (some ⟨g, 0, none⟩) (n + m) cap) w' ∧
      w'.ownsRow w.heap.size e size (.slice (some ⟨g, 0, none⟩) (n + m) cap) (n + m) (xs ++ news.toList) ∧ Below w.heap.size w w' := by
  have hnews : ∀ j u, news.toList[j]? = some u → w.cell? ((⟨b, 0, none⟩ : Addr).add j) = some u := by
    intro j u hu
    rw [show (⟨b, 0, none⟩ : Addr).add j = ⟨b, j, none⟩ from by unfold Addr.add; split <;> simp_all]
    rw [cell_of_row _ _ _ _ _ _ hblk]
    simpa using hu
  have hne : xs ≠ [] := by
    rintro rfl
    have := Nat.mul_pos hn hsz
    simp at hl
    omega
  obtain ⟨b', o, rfl, _, _, hc⟩ := hA hne
  have hcells : ∀ j u, xs[j]? = some u → w.cell? ((⟨b', o, none⟩ : Addr).add j) = some u := by
    intro j u hu
    rw [show (⟨b', o, none⟩ : Addr).add j = ⟨b', o + j, none⟩ from by unfold Addr.add; split <;> simp_all]
    exact hc j u hu
  obtain ⟨v', w', hr, ho, hg⟩ := run_append_arg_grows (P := P) w t ty e i z size bytes ht hi hz hsize hby hzs hsz ⟨b', o, none⟩ n n xs hl hcells ⟨b, 0, none⟩ m c2 news.toList (by simpa using hnl) hnews (by omega) h63 hbytes
  obtain ⟨g, cap, rfl, _⟩ := ho.form (by omega)
  exact ⟨g, cap, w', hr, ho, hg.os, hg.tape, hg.output, hg.size, fun k hk => hg.block k hk (by simp)⟩
theorem step_append_full {ops : Array Oper} {o : Oper} {a : Act} {K : Act → World → Prop} {Q : Exit → Act → World → Prop} {E : Prop} (hgd : o.guard = none) (s x : Operand) (t : TypeId)
    (ho : o.op = .call { callee := .builtin .append, args := #[s, x], argTypes := #[t, t] })
    (e : TypeId) (i : TypeInfo) (z : Value) (size bytes : Nat) (ht : P.underlying t = some (.slice e)) (hi : P.info? e = some i) (hz : i.zero = some z) (hsize : i.size = size) (hby : i.bytes = bytes) (hzs : z.cells.size = size) (hsz : 0 < size)
    (F : Nat → Prop) (A : Option Addr) (n : Nat) (xs : List Value) (hs : a.eval s = .slice A n n) (hA : Reads F w A xs) (hl : xs.length = n * size) (hn : 0 < n)
    (b : Nat) (t2 : TypeId) (fr : Nat × Nat) (m c2 : Nat) (news : Array Value) (hx : a.eval x = .slice (some ⟨b, 0, none⟩) m c2) (hnl : news.size = m * size) (hblk : w.heap[b]? = some (.cells news t2 fr)) (h1 : ∀ u ∈ news.toList, u.oneCell' = true) (hm : 0 < m) (h63 : n + m ≤ maxLen) (hbytes : (n + m) * bytes ≤ 140737488355328)
    (h : ∀ g cap w', w'.ownsRow w.heap.size e size (.slice (some ⟨g, 0, none⟩) (n + m) cap) (n + m) (xs ++ news.toList) → Below w.heap.size w w' → K (a.put o.dst (.slice (some ⟨g, 0, none⟩) (n + m) cap)) w') :
    if Region.wanted o (yielded ops a.tmps) = true then Oper.wp P o a w K Q else E := by
  have hw : Region.wanted o (yielded ops a.tmps) = true := by simp [Region.wanted, hgd]
  rw [if_pos hw]
  obtain ⟨g, cap, w', hr, h2, h3⟩ := run_append_full (P := P) w t o.type e i z size bytes ht hi hz hsize hby hzs hsz F A n xs hA hl hn b t2 fr m c2 news hnl hblk h1 hm h63 hbytes
  unfold Oper.wp execOp
  simp only [ho, resolve, invoke, builtin, Sem.run_bind, Sem.run_pure, Result.andThen_ok, List.map_toArray, List.map_cons, List.map_nil, hs, hx, hr]
  exact h g cap w' h2 h3
end
theorem wpList_store_run {P : Program} {w w' : World} {ops : Array Oper} {rest : List Oper} {o : Oper} {a : Act} {Q : Exit → Act → World → Prop} (hg : o.guard = none) (m x v : Operand) (t : TypeId) (hop : o.op = Op.mapUpdate t m x v)
    {mv xv vv : Value} (hm : a.eval m = mv) (hx : a.eval x = xv) (hv : a.eval v = vv) (hr : (Instr.mapUpdate t mv xv vv).run P w = .ok () w') (h : wpList P ops Q rest (a.put o.dst undef) w') : wpList P ops Q (o :: rest) a w := by
  refine wpList_plain hg fun K' hK' => ?_
  unfold Oper.wp
  simp [execOp, hop, hm, hx, hv, hr, Result.andThen]
  exact hK' _ _ h
end Go.Proofs.Ythcnnadggffjhaa
