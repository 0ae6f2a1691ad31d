/- The walks of the reference of layer 2: Base, one theorem a case. -/
import Derived.Test.YthcnnadggffjhaaWA
import Derived.Test.YthcnnadggffjhaaLA
set_option linter.unusedVariables false
set_option linter.unusedSimpArgs false
namespace Go.Proofs.Ythcnnadggffjhaa
open Go.RowKit

/-- what 'Base' hands back: a scheme whose rules lie in a block of their own, without room to spare -/
def BaseRes (s : Scheme) (w : World) (e : Ending) (w' : World) : Prop :=
  ∃ g, e = .returned (.agg #[.int .i64 s.modes, .int .u8 s.accept, .slice (some ⟨g, 0, none⟩) s.rules.length s.rules.length]) ∧ Below w.heap.size w w' ∧ w.heap.size ≤ g ∧
    w'.heap[g]? = some (.cells (s.rules.flatMap Rule.cells).toArray 65 (0, 0))

/-- what stays true of the world while 'Base' makes its rules: w is the world in which it began -/
def BaseF (m ac : Nat) (w w' : World) : Prop := Below w.heap.size w w' ∧ w.heap.size + 1 + 1 < w'.heap.size ∧ w'.heap[w.heap.size]? = some (.cells #[.int .i64 0, .int .u8 0, .slice none 0 0] 31 (0, 0)) ∧
  ∃ x, w'.heap[w.heap.size + 1]? = some (.cells #[.int .i64 1, .int .u8 1, x] 31 (0, 0))
def BaseS (w w' : World) : Prop := BaseF 1 1 w w' ∧ w'.cell? ⟨w.heap.size + 1 + 1, 0, none⟩ = some (.int .i64 0) ∧ w'.cell? ⟨w.heap.size + 1 + 1, 1, none⟩ = some (.int .i64 0)
def baseW (w : World) : World := ((w.alloc (Obj.cells #[Value.int IntKind.i64 0, Value.int IntKind.u8 0, Value.slice none 0 0] 31)).alloc
      (Obj.cells #[Value.int IntKind.i64 1, Value.int IntKind.u8 1, Value.slice none 0 0] 31)).alloc (Obj.cells #[Value.int IntKind.i64 0, Value.int IntKind.i64 0] 50)
theorem base_start0 (w : World) : BaseS w (baseW w) := by
  unfold baseW
  refine ⟨⟨(((Below.refl _ _).alloc (Nat.le_refl _) _).alloc (by simp) _).alloc (by simp; omega) _, by simp, ?_, .slice none 0 0, ?_⟩, by go_simp, by go_simp⟩
  · show ((baseW w).heap)[w.heap.size]? = _
    unfold baseW
    rw [Below.heap_alloc _ _ _ (by simp; omega), Below.heap_alloc _ _ _ (by simp), heap_alloc_new]
  · show ((baseW w).heap)[w.heap.size + 1]? = _
    unfold baseW
    rw [Below.heap_alloc _ _ _ (by simp)]
    rw [show w.heap.size + 1 = (w.alloc (Obj.cells #[Value.int IntKind.i64 0, Value.int IntKind.u8 0, Value.slice none 0 0] 31)).heap.size from by simp, heap_alloc_new]
theorem base_next {w w1 w2 : World} (h : BaseS w w1) (hb : Below w1.heap.size w1 w2) : BaseS w w2 := by
  obtain ⟨⟨h1, h2, h3, x, h4⟩, h5, h6⟩ := h
  exact ⟨⟨h1.trans (hb.mono h1.size), Nat.lt_of_lt_of_le h2 hb.size, (hb.block _ (by omega)).trans h3, x, (hb.block _ (by omega)).trans h4⟩, (hb.cell (p := ⟨_, _, _⟩) h2).trans h5, (hb.cell (p := ⟨_, _, _⟩) h2).trans h6⟩
theorem base_start (w : World) : BaseS w (baseW w).drew := base_next (base_start0 w) (Below.refl _ _).drew
theorem base_alloc {w w1 : World} (h : BaseS w w1) (o : Obj) : BaseS w (w1.alloc o) := base_next h ((Below.refl _ _).alloc (Nat.le_refl _) _)
theorem base_set {w w1 : World} (h : BaseS w w1) (u : Value) : BaseS w (w1.setCell ⟨w.heap.size + 1, 2, none⟩ u) := by
  obtain ⟨⟨h1, h2, h3, x, h4⟩, h5, h6⟩ := h
  refine ⟨⟨h1.setCell (p := ⟨w.heap.size + 1, 2, none⟩) (by simp) _, by simpa [World.setCell] using h2, ?_, u, ?_⟩, ?_, ?_⟩
  · rw [Below.heap_setCell _ _ _ _ (by simp)]; exact h3
  · simp [World.setCell, Array.getElem?_modify, h4]
  · rw [World.cell?_setCell_other _ _ _ _ (by simp)]; exact h5
  · rw [World.cell?_setCell_other _ _ _ _ (by simp)]; exact h6
theorem BaseS.free {w w1 : World} (h : BaseS w w1) : (w1.cell? ⟨w.heap.size + 1, 2, none⟩).isSome = true ∧ w1.frozen? ⟨w.heap.size + 1, 2, none⟩ = false := by
  obtain ⟨⟨h1, h2, h3, x, h4⟩, h5, h6⟩ := h
  exact ⟨by rw [cell_of_row _ _ _ _ _ _ h4]; rfl, by simp [World.frozen?, h4]⟩


/-- what a cell holds, if it is there -/
def peek (w : World) (p : Addr) : Value := (w.cell? p).getD undef
theorem peek_of {w : World} {p : Addr} (h : (w.cell? p).isSome = true) : w.cell? p = some (peek w p) := by
  obtain ⟨x, hx⟩ := Option.isSome_iff_exists.1 h
  simp [peek, hx]
theorem base_w {w w1 : World} (h : BaseS w w1) : BaseS w w1 ∧ w1.cell? ⟨w.heap.size + 1 + 1, 0, none⟩ = some (.int .i64 0) ∧ w1.cell? ⟨w.heap.size + 1 + 1, 1, none⟩ = some (.int .i64 0) ∧ w1.cell? ⟨w.heap.size + 1, 2, none⟩ = some (peek w1 ⟨w.heap.size + 1, 2, none⟩) ∧ w1.frozen? ⟨w.heap.size + 1, 2, none⟩ = false := ⟨h, h.2.1, h.2.2, peek_of h.free.1, h.free.2⟩
theorem base_o {w w1 : World} (h : BaseS w w1 ∧ w1.cell? ⟨w.heap.size + 1 + 1, 0, none⟩ = some (.int .i64 0) ∧ w1.cell? ⟨w.heap.size + 1 + 1, 1, none⟩ = some (.int .i64 0) ∧ w1.cell? ⟨w.heap.size + 1, 2, none⟩ = some (peek w1 ⟨w.heap.size + 1, 2, none⟩) ∧ w1.frozen? ⟨w.heap.size + 1, 2, none⟩ = false) : BaseS w w1 := h.1


/-- the facts of the world behind the region that makes the rules -/
def BaseE' (m a : Int) (w : World) (C : Array Value) (n g : Nat) (W : World) : Prop :=
  W.cell? ⟨w.heap.size + 1, 0, none⟩ = some (.int .i64 m) ∧ W.cell? ⟨w.heap.size + 1, 1, none⟩ = some (.int .u8 a) ∧ W.cell? ⟨w.heap.size + 1, 2, none⟩ = some (.slice (some ⟨g, 0, none⟩) n n) ∧
    W.cell? ⟨w.heap.size, 0, none⟩ = some (.int .i64 0) ∧ W.cell? ⟨w.heap.size, 1, none⟩ = some (.int .u8 0) ∧ W.cell? ⟨w.heap.size, 2, none⟩ = some (.slice none 0 0) ∧
    W.frozen? ⟨w.heap.size, 0, none⟩ = false ∧ W.frozen? ⟨w.heap.size, 1, none⟩ = false ∧ W.frozen? ⟨w.heap.size, 2, none⟩ = false ∧ Below w.heap.size w W ∧
    w.heap.size + 1 < g ∧ W.heap[g]? = some (.cells C 65 (0, 0))
abbrev BaseE := BaseE' 1 1
theorem base_end {w w1 : World} {C : Array Value} {n : Nat} (h : BaseS w ((w1.alloc (.cells C 65)).setCell ⟨w.heap.size + 1, 2, none⟩ (.slice (some ⟨w1.heap.size, 0, none⟩) n n))) :
    BaseE w C n w1.heap.size ((w1.alloc (.cells C 65)).setCell ⟨w.heap.size + 1, 2, none⟩ (.slice (some ⟨w1.heap.size, 0, none⟩) n n)) := by
  have h' := h
  obtain ⟨⟨h1, h2, h3, x, h4⟩, h5, h6⟩ := h
  have hs : w.heap.size + 1 < w1.heap.size := by simp [World.setCell] at h2; omega
  have hx : x = .slice (some ⟨w1.heap.size, 0, none⟩) n n := by
    have hc := cell_of_row _ (w.heap.size + 1) 2 _ _ _ h4
    have h5 := h4
    simp only [World.setCell, Array.getElem?_modify, if_true] at h5
    cases hq : (w1.alloc (.cells C 65)).heap[w.heap.size + 1]? with
    | none => rw [hq] at h5; simp at h5
    | some o =>
      rw [hq] at h5
      cases o <;> simp at h5
      rename_i c el fr
      obtain ⟨h7, _⟩ := h5
      have h8 : c.size = 3 := by have := congrArg Array.size h7; simpa using this
      have h9 := congrArg (fun a => a[2]?) h7
      simp [h8] at h9
      exact h9.symm
  subst hx
  refine ⟨by rw [cell_of_row _ _ _ _ _ _ h4]; rfl, by rw [cell_of_row _ _ _ _ _ _ h4]; rfl, by rw [cell_of_row _ _ _ _ _ _ h4]; rfl, by rw [cell_of_row _ _ _ _ _ _ h3]; rfl, by rw [cell_of_row _ _ _ _ _ _ h3]; rfl, by rw [cell_of_row _ _ _ _ _ _ h3]; rfl,
    by simp [World.frozen?, h3], by simp [World.frozen?, h3], by simp [World.frozen?, h3], h1, hs, ?_⟩
  rw [Below.heap_setCell _ _ _ _ (by simp; omega), heap_alloc_new]

/-- the same where the whole scheme is stored anew -/
def BaseT (w w' : World) : Prop := (Below w.heap.size w w' ∧ w.heap.size + 1 + 1 < w'.heap.size ∧ w'.heap[w.heap.size]? = some (.cells #[.int .i64 0, .int .u8 0, .slice none 0 0] 31 (0, 0)) ∧
  ∃ x y z, w'.heap[w.heap.size + 1]? = some (.cells #[x, y, z] 31 (0, 0))) ∧ w'.cell? ⟨w.heap.size + 1 + 1, 0, none⟩ = some (.int .i64 0) ∧ w'.cell? ⟨w.heap.size + 1 + 1, 1, none⟩ = some (.int .i64 0)
theorem baseT_next {w w1 w2 : World} (h : BaseT w w1) (hb : Below w1.heap.size w1 w2) : BaseT w w2 := by
  obtain ⟨⟨h1, h2, h3, x, y, z, h4⟩, h5, h6⟩ := h
  exact ⟨⟨h1.trans (hb.mono h1.size), Nat.lt_of_lt_of_le h2 hb.size, (hb.block _ (by omega)).trans h3, x, y, z, (hb.block _ (by omega)).trans h4⟩, (hb.cell (p := ⟨_, _, _⟩) h2).trans h5, (hb.cell (p := ⟨_, _, _⟩) h2).trans h6⟩
theorem baseT_start (w : World) : BaseT w (baseW w).drew := by
  obtain ⟨⟨h1, h2, h3, x, h4⟩, h5, h6⟩ := base_start w
  exact ⟨⟨h1, h2, h3, _, _, _, h4⟩, h5, h6⟩
theorem baseT_alloc {w w1 : World} (h : BaseT w w1) (o : Obj) : BaseT w (w1.alloc o) := baseT_next h ((Below.refl _ _).alloc (Nat.le_refl _) _)
theorem baseT_set {w w1 : World} (h : BaseT w w1) (i : Nat) (u : Value) : BaseT w (w1.setCell ⟨w.heap.size + 1, i, none⟩ u) := by
  obtain ⟨⟨h1, h2, h3, x, y, z, h4⟩, h5, h6⟩ := h
  refine ⟨⟨h1.setCell (p := ⟨w.heap.size + 1, i, none⟩) (by simp) _, by simpa [World.setCell] using h2, ?_, ?_⟩, ?_, ?_⟩
  · rw [Below.heap_setCell _ _ _ _ (by simp)]; exact h3
  · match i with
    | 0 => exact ⟨u, y, z, by simp [World.setCell, Array.getElem?_modify, h4]⟩
    | 1 => exact ⟨x, u, z, by simp [World.setCell, Array.getElem?_modify, h4]⟩
    | 2 => exact ⟨x, y, u, by simp [World.setCell, Array.getElem?_modify, h4]⟩
    | n + 3 => exact ⟨x, y, z, by simp [World.setCell, Array.getElem?_modify, h4]⟩
  · rw [World.cell?_setCell_other _ _ _ _ (by simp)]; exact h5
  · rw [World.cell?_setCell_other _ _ _ _ (by simp)]; exact h6
theorem BaseT.free {w w1 : World} (h : BaseT w w1) (i : Nat) (hi : i < 3) : (w1.cell? ⟨w.heap.size + 1, i, none⟩).isSome = true ∧ w1.frozen? ⟨w.heap.size + 1, i, none⟩ = false := by
  obtain ⟨⟨h1, h2, h3, x, y, z, h4⟩, h5, h6⟩ := h
  exact ⟨by rw [cell_of_row _ _ _ _ _ _ h4]; simp; omega, by simp [World.frozen?, h4]⟩
theorem baseT_w {w w1 : World} (h : BaseT w w1) : BaseT w w1 ∧ w1.cell? ⟨w.heap.size + 1 + 1, 0, none⟩ = some (.int .i64 0) ∧ w1.cell? ⟨w.heap.size + 1 + 1, 1, none⟩ = some (.int .i64 0) ∧ w1.cell? ⟨w.heap.size + 1, 0, none⟩ = some (peek w1 ⟨w.heap.size + 1, 0, none⟩) ∧ w1.cell? ⟨w.heap.size + 1, 1, none⟩ = some (peek w1 ⟨w.heap.size + 1, 1, none⟩) ∧ w1.cell? ⟨w.heap.size + 1, 2, none⟩ = some (peek w1 ⟨w.heap.size + 1, 2, none⟩) ∧ w1.frozen? ⟨w.heap.size + 1, 0, none⟩ = false ∧ w1.frozen? ⟨w.heap.size + 1, 1, none⟩ = false ∧ w1.frozen? ⟨w.heap.size + 1, 2, none⟩ = false := ⟨h, h.2.1, h.2.2, peek_of (h.free 0 (by omega)).1, peek_of (h.free 1 (by omega)).1, peek_of (h.free 2 (by omega)).1, (h.free 0 (by omega)).2, (h.free 1 (by omega)).2, (h.free 2 (by omega)).2⟩
theorem baseT_o {w w1 : World} (h : BaseT w w1 ∧ w1.cell? ⟨w.heap.size + 1 + 1, 0, none⟩ = some (.int .i64 0) ∧ w1.cell? ⟨w.heap.size + 1 + 1, 1, none⟩ = some (.int .i64 0) ∧ w1.cell? ⟨w.heap.size + 1, 0, none⟩ = some (peek w1 ⟨w.heap.size + 1, 0, none⟩) ∧ w1.cell? ⟨w.heap.size + 1, 1, none⟩ = some (peek w1 ⟨w.heap.size + 1, 1, none⟩) ∧ w1.cell? ⟨w.heap.size + 1, 2, none⟩ = some (peek w1 ⟨w.heap.size + 1, 2, none⟩) ∧ w1.frozen? ⟨w.heap.size + 1, 0, none⟩ = false ∧ w1.frozen? ⟨w.heap.size + 1, 1, none⟩ = false ∧ w1.frozen? ⟨w.heap.size + 1, 2, none⟩ = false) : BaseT w w1 := h.1
theorem baseT_end {w w1 : World} {C : Array Value} {n : Nat} {m a : Int} (h : BaseT w ((((w1.alloc (.cells C 65)).setCell ⟨w.heap.size + 1, 0, none⟩ (.int .i64 m)).setCell ⟨w.heap.size + 1, 1, none⟩ (.int .u8 a)).setCell ⟨w.heap.size + 1, 2, none⟩ (.slice (some ⟨w1.heap.size, 0, none⟩) n n))) :
    BaseE' m a w C n w1.heap.size ((((w1.alloc (.cells C 65)).setCell ⟨w.heap.size + 1, 0, none⟩ (.int .i64 m)).setCell ⟨w.heap.size + 1, 1, none⟩ (.int .u8 a)).setCell ⟨w.heap.size + 1, 2, none⟩ (.slice (some ⟨w1.heap.size, 0, none⟩) n n)) := by
  have h' := h
  obtain ⟨⟨h1, h2, h3, x, y, z, h4⟩, h5, h6⟩ := h
  have hs : w.heap.size + 1 < w1.heap.size := by simp [World.setCell] at h2; omega
  have hx : x = .int .i64 m ∧ y = .int .u8 a ∧ z = .slice (some ⟨w1.heap.size, 0, none⟩) n n := by
    have h5 := h4
    simp only [World.setCell, Array.getElem?_modify, if_true] at h5
    cases hq : (w1.alloc (.cells C 65)).heap[w.heap.size + 1]? with
    | none => rw [hq] at h5; simp at h5
    | some o =>
      rw [hq] at h5
      cases o <;> simp at h5
      rename_i c el fr
      obtain ⟨h7, _⟩ := h5
      have h8 : c.size = 3 := by have := congrArg Array.size h7; simpa using this
      have g0 := congrArg (fun a => a[0]?) h7
      have g1 := congrArg (fun a => a[1]?) h7
      have g2 := congrArg (fun a => a[2]?) h7
      simp [h8, Array.getElem?_setIfInBounds] at g0 g1 g2
      exact ⟨g0.symm, g1.symm, g2.symm⟩
  obtain ⟨rfl, rfl, rfl⟩ := hx
  refine ⟨by rw [cell_of_row _ _ _ _ _ _ h4]; rfl, by rw [cell_of_row _ _ _ _ _ _ h4]; rfl, by rw [cell_of_row _ _ _ _ _ _ h4]; rfl, by rw [cell_of_row _ _ _ _ _ _ h3]; rfl, by rw [cell_of_row _ _ _ _ _ _ h3]; rfl, by rw [cell_of_row _ _ _ _ _ _ h3]; rfl,
    by simp [World.frozen?, h3], by simp [World.frozen?, h3], by simp [World.frozen?, h3], h1, hs, ?_⟩
  rw [Below.heap_setCell _ _ _ _ (by simp; omega), Below.heap_setCell _ _ _ _ (by simp; omega), Below.heap_setCell _ _ _ _ (by simp; omega), heap_alloc_new]


set_option maxHeartbeats 1000000 in
set_option maxRecDepth 100000 in
theorem base0 (ac : Nat) (w : World) (h : ac % 6 = 0) (h8 : ac < 256) : Calls Try.prog 46 #[.int .u8 ac] w (BaseRes (baseOf 0) w) := by
  have hd0 : (((ac : Int) % 6) == 0) = true := by simp; omega
  go_enter Try.func46, Try.ntmps46
  go_wp2_with fail
  go_region_held3 (fun w' => BaseS w w' ∧ w'.cell? ⟨w.heap.size + 1 + 1, 0, none⟩ = some (.int .i64 0) ∧ w'.cell? ⟨w.heap.size + 1 + 1, 1, none⟩ = some (.int .i64 0) ∧ w'.cell? ⟨w.heap.size + 1, 2, none⟩ = some (peek w' ⟨w.heap.size + 1, 2, none⟩) ∧ w'.frozen? ⟨w.heap.size + 1, 2, none⟩ = false)
    (first | exact base_w (base_start _) | exact base_w (base_next (base_o (by assumption)) hb1) | exact base_w (base_alloc (base_o (by assumption)) _) | exact base_w (base_set (base_o (by assumption)) _))
    (first | (go_at_call 67; refine (simple_any _ _ _ _ _ (by decide)).mono ?_; rintro e w1 ⟨rfl, hb1⟩))
  rename_i hS
  have hE := base_end hS.1
  clear hS hb1
  refine world_gen (BaseE w _ 3 _) hE ?_
  clear hE
  rintro W ⟨k1, k2, k3, k4, k5, k6, k7, k8, k9, k10, k11, k12⟩
  have K12 := Lib.hid k12
  clear k12
  go_wp2
  refine bodyPost_ret (v := .agg #[.int .i64 1, .int .u8 1, .slice (some ⟨w1.heap.size, 0, none⟩) 3 3]) (by simp [results, Try.results46, go_sem, k4, k5, k6, k7, k8, k9]) rfl ⟨w1.heap.size, rfl, ?_, by omega, ?_⟩
  · exact ((k10.setCell (p := ⟨w.heap.size, 0, none⟩) (Nat.le_refl _) _).setCell (p := ⟨w.heap.size, 1, none⟩) (Nat.le_refl _) _).setCell (p := ⟨w.heap.size, 2, none⟩) (Nat.le_refl _) _
  · rw [Below.heap_setCell _ _ _ _ (by simp; omega), Below.heap_setCell _ _ _ _ (by simp; omega), Below.heap_setCell _ _ _ _ (by simp; omega)]
    exact K12.out


set_option maxHeartbeats 1000000 in
set_option maxRecDepth 100000 in
theorem base1 (ac : Nat) (w : World) (h : ac % 6 = 1) (h8 : ac < 256) : Calls Try.prog 46 #[.int .u8 ac] w (BaseRes (baseOf 1) w) := by
  have hd0 : (((ac : Int) % 6) == 0) = false := by simp; omega
  have hd1 : (((ac : Int) % 6) == 1) = true := by simp; omega
  go_enter Try.func46, Try.ntmps46
  go_wp2_with fail
  go_region_held3 (fun w' => BaseS w w' ∧ w'.cell? ⟨w.heap.size + 1 + 1, 0, none⟩ = some (.int .i64 0) ∧ w'.cell? ⟨w.heap.size + 1 + 1, 1, none⟩ = some (.int .i64 0) ∧ w'.cell? ⟨w.heap.size + 1, 2, none⟩ = some (peek w' ⟨w.heap.size + 1, 2, none⟩) ∧ w'.frozen? ⟨w.heap.size + 1, 2, none⟩ = false)
    (first | exact base_w (base_start _) | exact base_w (base_next (base_o (by assumption)) hb1) | exact base_w (base_alloc (base_o (by assumption)) _) | exact base_w (base_set (base_o (by assumption)) _))
    (first | (go_at_call 67; refine (simple_any _ _ _ _ _ (by decide)).mono ?_; rintro e w1 ⟨rfl, hb1⟩))
  rename_i hS
  have hE := base_end hS.1
  clear hS hb1
  refine world_gen (BaseE w _ 4 _) hE ?_
  clear hE
  rintro W ⟨k1, k2, k3, k4, k5, k6, k7, k8, k9, k10, k11, k12⟩
  have K12 := Lib.hid k12
  clear k12
  go_wp2
  refine bodyPost_ret (v := .agg #[.int .i64 1, .int .u8 1, .slice (some ⟨w1.heap.size, 0, none⟩) 4 4]) (by simp [results, Try.results46, go_sem, k4, k5, k6, k7, k8, k9]) rfl ⟨w1.heap.size, rfl, ?_, by omega, ?_⟩
  · exact ((k10.setCell (p := ⟨w.heap.size, 0, none⟩) (Nat.le_refl _) _).setCell (p := ⟨w.heap.size, 1, none⟩) (Nat.le_refl _) _).setCell (p := ⟨w.heap.size, 2, none⟩) (Nat.le_refl _) _
  · rw [Below.heap_setCell _ _ _ _ (by simp; omega), Below.heap_setCell _ _ _ _ (by simp; omega), Below.heap_setCell _ _ _ _ (by simp; omega)]
    exact K12.out


set_option maxHeartbeats 1000000 in
set_option maxRecDepth 100000 in
theorem base2 (ac : Nat) (w : World) (h : ac % 6 = 2) (h8 : ac < 256) : Calls Try.prog 46 #[.int .u8 ac] w (BaseRes (baseOf 2) w) := by
  have hd0 : (((ac : Int) % 6) == 0) = false := by simp; omega
  have hd1 : (((ac : Int) % 6) == 1) = false := by simp; omega
  have hd2 : (((ac : Int) % 6) == 2) = true := by simp; omega
  go_enter Try.func46, Try.ntmps46
  go_wp2_with fail
  go_region_held3 (fun w' => BaseT w w' ∧ w'.cell? ⟨w.heap.size + 1 + 1, 0, none⟩ = some (.int .i64 0) ∧ w'.cell? ⟨w.heap.size + 1 + 1, 1, none⟩ = some (.int .i64 0) ∧ w'.cell? ⟨w.heap.size + 1, 0, none⟩ = some (peek w' ⟨w.heap.size + 1, 0, none⟩) ∧ w'.cell? ⟨w.heap.size + 1, 1, none⟩ = some (peek w' ⟨w.heap.size + 1, 1, none⟩) ∧ w'.cell? ⟨w.heap.size + 1, 2, none⟩ = some (peek w' ⟨w.heap.size + 1, 2, none⟩) ∧ w'.frozen? ⟨w.heap.size + 1, 0, none⟩ = false ∧ w'.frozen? ⟨w.heap.size + 1, 1, none⟩ = false ∧ w'.frozen? ⟨w.heap.size + 1, 2, none⟩ = false)
    (first | exact baseT_w (baseT_start _) | exact baseT_w (baseT_next (baseT_o (by assumption)) hb1) | exact baseT_w (baseT_alloc (baseT_o (by assumption)) _) | exact baseT_w (baseT_set (baseT_set (baseT_set (baseT_o (by assumption)) _ _) _ _) _ _))
    (first | (go_at_call 67; refine (simple_any _ _ _ _ _ (by decide)).mono ?_; rintro e w1 ⟨rfl, hb1⟩))
  rename_i hS
  have hE := baseT_end hS.1
  clear hS hb1
  refine world_gen (BaseE' 2 1 w _ 5 _) hE ?_
  clear hE
  rintro W ⟨k1, k2, k3, k4, k5, k6, k7, k8, k9, k10, k11, k12⟩
  have K12 := Lib.hid k12
  clear k12
  go_wp2
  refine bodyPost_ret (v := .agg #[.int .i64 2, .int .u8 1, .slice (some ⟨w1.heap.size, 0, none⟩) 5 5]) (by simp [results, Try.results46, go_sem, k4, k5, k6, k7, k8, k9]) rfl ⟨w1.heap.size, rfl, ?_, by omega, ?_⟩
  · exact ((k10.setCell (p := ⟨w.heap.size, 0, none⟩) (Nat.le_refl _) _).setCell (p := ⟨w.heap.size, 1, none⟩) (Nat.le_refl _) _).setCell (p := ⟨w.heap.size, 2, none⟩) (Nat.le_refl _) _
  · rw [Below.heap_setCell _ _ _ _ (by simp; omega), Below.heap_setCell _ _ _ _ (by simp; omega), Below.heap_setCell _ _ _ _ (by simp; omega)]
    exact K12.out


set_option maxHeartbeats 1000000 in
set_option maxRecDepth 100000 in
theorem base3 (ac : Nat) (w : World) (h : ac % 6 = 3) (h8 : ac < 256) : Calls Try.prog 46 #[.int .u8 ac] w (BaseRes (baseOf 3) w) := by
  have hd0 : (((ac : Int) % 6) == 0) = false := by simp; omega
  have hd1 : (((ac : Int) % 6) == 1) = false := by simp; omega
  have hd2 : (((ac : Int) % 6) == 2) = false := by simp; omega
  have hd3 : (((ac : Int) % 6) == 3) = true := by simp; omega
  go_enter Try.func46, Try.ntmps46
  go_wp2_with fail
  go_region_held3 (fun w' => BaseS w w' ∧ w'.cell? ⟨w.heap.size + 1 + 1, 0, none⟩ = some (.int .i64 0) ∧ w'.cell? ⟨w.heap.size + 1 + 1, 1, none⟩ = some (.int .i64 0) ∧ w'.cell? ⟨w.heap.size + 1, 2, none⟩ = some (peek w' ⟨w.heap.size + 1, 2, none⟩) ∧ w'.frozen? ⟨w.heap.size + 1, 2, none⟩ = false)
    (first | exact base_w (base_start _) | exact base_w (base_next (base_o (by assumption)) hb1) | exact base_w (base_alloc (base_o (by assumption)) _) | exact base_w (base_set (base_o (by assumption)) _))
    (first | (go_at_call 67; refine (simple_any _ _ _ _ _ (by decide)).mono ?_; rintro e w1 ⟨rfl, hb1⟩))
  rename_i hS
  have hE := base_end hS.1
  clear hS hb1
  refine world_gen (BaseE w _ 4 _) hE ?_
  clear hE
  rintro W ⟨k1, k2, k3, k4, k5, k6, k7, k8, k9, k10, k11, k12⟩
  have K12 := Lib.hid k12
  clear k12
  go_wp2
  refine bodyPost_ret (v := .agg #[.int .i64 1, .int .u8 1, .slice (some ⟨w1.heap.size, 0, none⟩) 4 4]) (by simp [results, Try.results46, go_sem, k4, k5, k6, k7, k8, k9]) rfl ⟨w1.heap.size, rfl, ?_, by omega, ?_⟩
  · exact ((k10.setCell (p := ⟨w.heap.size, 0, none⟩) (Nat.le_refl _) _).setCell (p := ⟨w.heap.size, 1, none⟩) (Nat.le_refl _) _).setCell (p := ⟨w.heap.size, 2, none⟩) (Nat.le_refl _) _
  · rw [Below.heap_setCell _ _ _ _ (by simp; omega), Below.heap_setCell _ _ _ _ (by simp; omega), Below.heap_setCell _ _ _ _ (by simp; omega)]
    exact K12.out


set_option maxHeartbeats 1000000 in
set_option maxRecDepth 100000 in
theorem base4 (ac : Nat) (w : World) (h : ac % 6 = 4) (h8 : ac < 256) : Calls Try.prog 46 #[.int .u8 ac] w (BaseRes (baseOf 4) w) := by
  have hd0 : (((ac : Int) % 6) == 0) = false := by simp; omega
  have hd1 : (((ac : Int) % 6) == 1) = false := by simp; omega
  have hd2 : (((ac : Int) % 6) == 2) = false := by simp; omega
  have hd3 : (((ac : Int) % 6) == 3) = false := by simp; omega
  have hd4 : (((ac : Int) % 6) == 4) = true := by simp; omega
  go_enter Try.func46, Try.ntmps46
  go_wp2_with fail
  refine (simple_any _ _ _ _ _ (by decide)).mono ?_
  rintro e w1 ⟨rfl, hb1⟩
  obtain ⟨hS, k1, k2, k3, k4⟩ := base_w (base_next (base_start0 w) hb1)
  have ks : w.heap.size + 1 < w1.heap.size := by have := hS.1.2.1; omega
  have HS := Lib.hid hS
  clear hS
  go_upto_region 15 with (fail)
  refine world_gen (BaseE w ((baseOf 4).rules.flatMap Rule.cells).toArray 4 w1.heap.size) ?_ ?_
  · rw [← World.setCell_alloc_past _ _ _ _ ks]
    exact base_end (base_set (base_alloc HS.out _) _)
  clear HS k1 k2 k3 k4 ks hb1
  rintro W ⟨k1, k2, k3, k4, k5, k6, k7, k8, k9, k10, k11, k12⟩
  have K12 := Lib.hid k12
  clear k12
  go_wp2
  refine bodyPost_ret (v := .agg #[.int .i64 1, .int .u8 1, .slice (some ⟨w1.heap.size, 0, none⟩) 4 4]) (by simp [results, Try.results46, go_sem, k4, k5, k6, k7, k8, k9]) rfl ⟨w1.heap.size, rfl, ?_, by omega, ?_⟩
  · exact ((k10.setCell (p := ⟨w.heap.size, 0, none⟩) (Nat.le_refl _) _).setCell (p := ⟨w.heap.size, 1, none⟩) (Nat.le_refl _) _).setCell (p := ⟨w.heap.size, 2, none⟩) (Nat.le_refl _) _
  · rw [Below.heap_setCell _ _ _ _ (by simp; omega), Below.heap_setCell _ _ _ _ (by simp; omega), Below.heap_setCell _ _ _ _ (by simp; omega)]
    exact K12.out


set_option maxHeartbeats 1000000 in
set_option maxRecDepth 100000 in
theorem base5 (ac : Nat) (w : World) (h : ac % 6 = 5) (h8 : ac < 256) : Calls Try.prog 46 #[.int .u8 ac] w (BaseRes (baseOf 5) w) := by
  have hd0 : (((ac : Int) % 6) == 0) = false := by simp; omega
  have hd1 : (((ac : Int) % 6) == 1) = false := by simp; omega
  have hd2 : (((ac : Int) % 6) == 2) = false := by simp; omega
  have hd3 : (((ac : Int) % 6) == 3) = false := by simp; omega
  have hd4 : (((ac : Int) % 6) == 4) = false := by simp; omega
  go_enter Try.func46, Try.ntmps46
  go_wp2_with fail
  go_region_held3 (fun w' => BaseS w w' ∧ w'.cell? ⟨w.heap.size + 1 + 1, 0, none⟩ = some (.int .i64 0) ∧ w'.cell? ⟨w.heap.size + 1 + 1, 1, none⟩ = some (.int .i64 0) ∧ w'.cell? ⟨w.heap.size + 1, 2, none⟩ = some (peek w' ⟨w.heap.size + 1, 2, none⟩) ∧ w'.frozen? ⟨w.heap.size + 1, 2, none⟩ = false)
    (first | exact base_w (base_start _) | exact base_w (base_next (base_o (by assumption)) hb1) | exact base_w (base_alloc (base_o (by assumption)) _) | exact base_w (base_set (base_o (by assumption)) _))
    (first | (go_at_call 67; refine (simple_any _ _ _ _ _ (by decide)).mono ?_; rintro e w1 ⟨rfl, hb1⟩))
  rename_i hS
  have hE := base_end hS.1
  clear hS hb1
  refine world_gen (BaseE w _ 5 _) hE ?_
  clear hE
  rintro W ⟨k1, k2, k3, k4, k5, k6, k7, k8, k9, k10, k11, k12⟩
  have K12 := Lib.hid k12
  clear k12
  go_wp2
  refine bodyPost_ret (v := .agg #[.int .i64 1, .int .u8 1, .slice (some ⟨w1.heap.size, 0, none⟩) 5 5]) (by simp [results, Try.results46, go_sem, k4, k5, k6, k7, k8, k9]) rfl ⟨w1.heap.size, rfl, ?_, by omega, ?_⟩
  · exact ((k10.setCell (p := ⟨w.heap.size, 0, none⟩) (Nat.le_refl _) _).setCell (p := ⟨w.heap.size, 1, none⟩) (Nat.le_refl _) _).setCell (p := ⟨w.heap.size, 2, none⟩) (Nat.le_refl _) _
  · rw [Below.heap_setCell _ _ _ _ (by simp; omega), Below.heap_setCell _ _ _ _ (by simp; omega), Below.heap_setCell _ _ _ _ (by simp; omega)]
    exact K12.out

theorem base_any (ac : Nat) (w : World) (h8 : ac < 256) : Calls Try.prog 46 #[.int .u8 ac] w (BaseRes (baseOf (ac % 6)) w) := by
  have h : ac % 6 < 6 := Nat.mod_lt _ (by omega)
  match hk : ac % 6, h with
  | 0, _ => exact base0 ac w hk h8
  | 1, _ => exact base1 ac w hk h8
  | 2, _ => exact base2 ac w hk h8
  | 3, _ => exact base3 ac w hk h8
  | 4, _ => exact base4 ac w hk h8
  | 5, _ => exact base5 ac w hk h8
end Go.Proofs.Ythcnnadggffjhaa
