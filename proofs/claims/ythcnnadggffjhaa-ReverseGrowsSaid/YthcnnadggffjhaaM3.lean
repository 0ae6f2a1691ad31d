/- The walk of route.spread. -/
import Derived.Test.YthcnnadggffjhaaMA
import Derived.Test.YthcnnadggffjhaaW7
import Derived.Deep.AppendLies
import Derived.Deep.RegionLaw
set_option linter.unusedVariables false
set_option linter.unusedSimpArgs false
namespace Go.Proofs.Ythcnnadggffjhaa
open Go.RowKit Go.Maps Go.WideElems Go.ChangeShapes

@[go_sem] theorem run_store_func1 {P : Program} {w : World} {a : Addr} {m : Mode} (fn : Fn) (first cap : Array Value) : (store a (.func fn first cap) m).run P w = stored P w a (.func fn first cap) m := run_store P w a _ m rfl

theorem marks_start {w W : World} {m : Nat} {ed : Nat → List Nat} (hE : EdgeMap W (w.heap.size + 1) W.heap.size m ed) (b2 : Blk W (w.heap.size + 1 + 1) 150 #[.map (some (w.heap.size + 1))]) (hlt : w.heap.size + 1 + 1 < W.heap.size) :
    Marks (((W.alloc (.cells (madeCells #[.bool false] m) 4)).alloc (.cells #[.slice (some ⟨W.heap.size, 0, none⟩) m m] 88)).alloc (.cells #[.func (.func 85) #[] #[.pointer (some ⟨W.heap.size + 1, 0, none⟩), .pointer (some ⟨w.heap.size + 1 + 1, 0, none⟩), .pointer (some ⟨W.heap.size + 1 + 1, 0, none⟩)]] 152))
      (W.heap.size + 1) (w.heap.size + 1 + 1) (W.heap.size + 1 + 1) W.heap.size (w.heap.size + 1) W.heap.size m ed (List.replicate m false) := by
  have hb3 : Below W.heap.size W (((W.alloc (.cells (madeCells #[.bool false] m) 4)).alloc (.cells #[.slice (some ⟨W.heap.size, 0, none⟩) m m] 88)).alloc (.cells #[.func (.func 85) #[] #[.pointer (some ⟨W.heap.size + 1, 0, none⟩), .pointer (some ⟨w.heap.size + 1 + 1, 0, none⟩), .pointer (some ⟨W.heap.size + 1 + 1, 0, none⟩)]] 152)) :=
    (((Below.refl _ _).alloc (Nat.le_refl _) _).alloc (by simp) _).alloc (by simp; omega) _
  refine ⟨?_, b2.next hb3, ?_, ?_, by simp, hE.below hb3, by omega, Nat.le_refl _⟩
  · have h := Blk.new (W.alloc (.cells (madeCells #[.bool false] m) 4)) 88 #[.slice (some ⟨W.heap.size, 0, none⟩) m m]
    rw [show (W.alloc (.cells (madeCells #[.bool false] m) 4)).heap.size = W.heap.size + 1 from (by simp)] at h
    exact h.alloc _
  · have h := Blk.new ((W.alloc (.cells (madeCells #[.bool false] m) 4)).alloc (.cells #[.slice (some ⟨W.heap.size, 0, none⟩) m m] 88)) 152 #[.func (.func 85) #[] #[.pointer (some ⟨W.heap.size + 1, 0, none⟩), .pointer (some ⟨w.heap.size + 1 + 1, 0, none⟩), .pointer (some ⟨W.heap.size + 1 + 1, 0, none⟩)]]
    rw [show ((W.alloc (.cells (madeCells #[.bool false] m) 4)).alloc (.cells #[.slice (some ⟨W.heap.size, 0, none⟩) m m] 88)).heap.size = W.heap.size + 1 + 1 from (by simp)] at h
    exact h
  · have h := ((Blk.new W 4 (madeCells #[.bool false] m)).alloc (.cells #[.slice (some ⟨W.heap.size, 0, none⟩) m m] 88)).alloc (.cells #[.func (.func 85) #[] #[.pointer (some ⟨W.heap.size + 1, 0, none⟩), .pointer (some ⟨w.heap.size + 1 + 1, 0, none⟩), .pointer (some ⟨W.heap.size + 1 + 1, 0, none⟩)]] 152)
    have e : madeCells #[.bool false] m = ((List.replicate m false).map vB).toArray := by
      apply Array.toList_inj.1
      rw [toList_madeCells_one]
      simp [vB]
    rw [← e]
    exact h

theorem int_info : (Try.prog.info? 3).map (fun i => (i.zero, i.size, i.bytes)) = some (some (.int .i64 0), 1, 8) := by kernel_rfl
theorem bool_info : (Try.prog.info? 4).map (fun i => (i.zero, i.size, i.bytes)) = some (some (.bool false), 1, 1) := by kernel_rfl

/-- while the edges are gathered: the scheme's box, the map's box, k rules done -/
def SpreadW (m ac : Nat) (A : Option Addr) (n c : Nat) (sel : Rule → Nat × Nat) (rs : List Rule) (k : Nat) (w W : World) : Prop :=
  Below w.heap.size w W ∧ Blk W w.heap.size 31 #[.int .i64 m, .int .u8 ac, .slice A n c] ∧ Blk W (w.heap.size + 1 + 1) 150 #[.map (some (w.heap.size + 1))] ∧ Gather W (w.heap.size + 1) k (edgesOf sel (rs.take k))

theorem Blk.groups4 {w0 w4 : World} {x base : Nat} {T e : TypeId} {cs : Array Value} {q : IntKind} {v : Value} {zs : List Int} (h : Blk w0 x T cs) (ho : w0.ownsInts base e q v zs) (hne : T ≠ e) (hall : w0.grownBy w4 v.ownBlock) : Blk w4 x T cs := by
  refine h.grown hall fun hb => ?_
  rcases ho.1.2 with ⟨hv, _⟩ | ⟨g, cap, cur, hv, _, hh, _⟩
  · rw [hv] at hb; cases hb
  · rw [hv] at hb
    injection hb with hb
    unfold Blk at h
    rw [hb, hh] at h
    injection h with h
    injection h with _ h
    exact hne h.symm
theorem Blk.groups {w0 w4 w5 : World} {x b base : Nat} {T e : TypeId} {cs : Array Value} {q : IntKind} {v : Value} {zs : List Int} (h : Blk w0 x T cs) (ho : w0.ownsInts base e q v zs) (hne : T ≠ e) (hall : w0.grownBy w4 v.ownBlock) (hg : w4.grownBy w5 (some b)) (hx : x ≠ b) : Blk w5 x T cs :=
  (h.groups4 ho hne hall).kept hg hx

theorem grownBy_any {w w' : World} (h : w.grownBy w' none) (row : Option Nat) : w.grownBy w' row := ⟨h.os, h.tape, h.output, h.size, fun i hi _ => h.block i hi (by simp)⟩
theorem group_store {w0 w1 w4 : World} {base b k : Nat} {D : DataW Unit} {v : Value} {zs : List Int} {x a : Int} {g cap : Nat} (hback : w0.groupBack Try.prog 150 3 base 3 .i64 b k D (.int .i64 a) (.int .i64 a) v) (h01 : w0.grownBy w1 none)
    (hoi : w0.ownsInts base 3 .i64 v zs) (hown4 : w4.ownsRow base 3 1 (.slice (some ⟨g, 0, none⟩) (zs.length + 1) cap) (zs.length + 1) (zs.map (Value.int .i64) ++ [.int .i64 x])) (hg4 : w1.grownBy w4 v.ownBlock) (hat : v.ownBlock = some g ∨ g = w1.heap.size)
    (hz : zs.length ≤ k) (hx : (Lit.int .i64 x).wf = true) :
    ∃ w5, (Instr.mapUpdate 150 (.map (some b)) (.int .i64 a) (.slice (some ⟨g, 0, none⟩) (zs.length + 1) cap)).run Try.prog w4 = .ok () w5 ∧
      w5.ownsGroups Try.prog 3 base 3 .i64 b (k + 1) (D.put (.int .i64 a) (rowDatum .i64 (.slice (some ⟨g, 0, none⟩) (zs.length + 1) cap) (zs ++ [x]))) ∧ w4.grownBy w5 (some b) ∧
      w4.ownsInts base 3 .i64 (.slice (some ⟨g, 0, none⟩) (zs.length + 1) cap) (zs ++ [x]) ∧ w0.grownBy w4 v.ownBlock := by
  have hall := (grownBy_any h01 v.ownBlock).trans hg4
  have hoi4 := hoi.appended hown4 hx
  obtain ⟨w5, h1, h2, h3⟩ := hback w4 (.slice (some ⟨g, 0, none⟩) (zs.length + 1) cap) (zs ++ [x]) hall hoi4 (by simp; omega) (by
    rcases hat with h | h
    · exact .inl h.symm
    · exact .inr ⟨g, rfl, by rw [h]; exact h01.size⟩)
  exact ⟨w5, h1, h2, h3, hoi4, hall⟩

theorem SpreadW.step {m ac : Nat} {A : Option Addr} {n c : Nat} {sel : Rule → Nat × Nat} {rs : List Rule} {k : Nat} {w W w0 w4 w5 : World} {D : DataW Unit} {v : Value} {zs : List Int} {g cap : Nat} {r : Rule}
    (hbel : Below w.heap.size w W) (b0 : Blk W w.heap.size 31 #[.int .i64 m, .int .u8 ac, .slice A n c]) (b2 : Blk W (w.heap.size + 1 + 1) 150 #[.map (some (w.heap.size + 1))]) (hM : IsMap D)
    (hD : ∀ m : Nat, D.atKey (.int .i64 m) .nil = edat (edgesOf sel (rs.take k) m)) (hk : k < rs.length) (hr : r = rs[k]) (hb0 : Below W.heap.size W w0) (hat : D.atKey (.int .i64 (sel r).1) .nil = rowDatum .i64 v zs) (hoi : w0.ownsInts (w.heap.size + 1 + 1) 3 .i64 v zs)
    (hoi4 : w4.ownsInts (w.heap.size + 1 + 1) 3 .i64 (.slice (some ⟨g, 0, none⟩) (zs.length + 1) cap) (zs ++ [((sel r).2 : Int)])) (hall : w0.grownBy w4 v.ownBlock) (hg5 : w4.grownBy w5 (some (w.heap.size + 1)))
    (hown : w5.ownsGroups Try.prog 3 (w.heap.size + 1 + 1) 3 .i64 (w.heap.size + 1) (k + 1) (D.put (.int .i64 (sel r).1) (rowDatum .i64 (.slice (some ⟨g, 0, none⟩) (zs.length + 1) cap) (zs ++ [((sel r).2 : Int)])))) :
    SpreadW m ac A n c sel rs (k + 1) w w5 := by
  have hnx : Below w.heap.size w w0 := hbel.trans (hb0.mono hbel.size)
  refine ⟨hnx.groups hoi hall hg5 hnx.size (by omega) (by omega), (b0.next hb0).groups hoi (by decide) hall hg5 (by omega), (b2.next hb0).groups hoi (by decide) hall hg5 (by omega), ⟨_, hown, ?_, ?_⟩⟩
  · obtain ⟨es, rfl⟩ := hM
    exact ⟨_, rfl⟩
  · intro x
    have e1 : rs.take (k + 1) = rs.take k ++ [r] := by rw [hr]; exact List.take_succ_eq_append_getElem hk
    rw [e1, edgesOf_snoc]
    have hzs : zs = (edgesOf sel (rs.take k) (sel r).1).map Int.ofNat := by
      rw [hD] at hat
      unfold edat at hat
      rcases hoi.datum (H := Unit) with ⟨h1, h2⟩ | h1
      · rw [h1] at hat
        split at hat
        · rename_i h0; rw [h2, h0]; rfl
        · cases hat
      · rw [h1] at hat
        split at hat
        · cases hat
        · injection hat with hat
          exact ((List.map_inj_right (fun a b hab => by cases hab; rfl)).1 hat).symm
    split
    · rename_i hx
      rw [hx, atKey_put_same hM (list_key _), hoi4.datum_pos (by simp)]
      unfold edat
      rw [if_neg (by simp), List.map_append, ← hzs]
      rfl
    · rename_i hx
      rw [atKey_put_other (by intro e; injection e; omega)]
      exact hD x

end Go.Proofs.Ythcnnadggffjhaa
