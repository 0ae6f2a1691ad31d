/- The walk of slices.Insert at parts of routes: one element, into a row of the call's own. -/
import Derived.Test.YthcnnadggffjhaaProg
import Derived.Test.YthcnnadggffjhaaIA
set_option linter.unusedVariables false
set_option linter.unusedSimpArgs false
namespace Go.Proofs.Ythcnnadggffjhaa
open Go.RowKit Go.Lib

theorem part_info : (Try.prog.info? 76).map (fun i => (i.zero, i.size, i.bytes)) = some (some (.agg #[.string ⟨#[]⟩, .int .i64 0, .slice none 0 0]), 3, 48) := by kernel_rfl
/-- what Insert hands back: the row with one element more -/
def Inserted (base : Nat) (xs news : List Value) (i n : Nat) (old : Option Nat) (w : World) (e : Ending) (w' : World) : Prop :=
  ∃ g cap, e = .returned (.slice (some ⟨g, 0, none⟩) (n + 1) cap) ∧ w'.ownsRow base 76 3 (.slice (some ⟨g, 0, none⟩) (n + 1) cap) (n + 1) (xs.take (i * 3) ++ news ++ xs.drop (i * 3)) ∧ w.grownBy w' old ∧ (old = some g ∨ w.heap.size ≤ g)
set_option maxHeartbeats 2000000 in
set_option maxRecDepth 100000 in
theorem insert_end (base : Nat) (A : Option Addr) (n c vb : Nat) (xs : List Value) (v0 v1 v2 : Value) (w : World) (hown : w.ownsRow base 76 3 (.slice A n c) n xs) (hb : base ≤ w.heap.size) (hv : Blk w vb 76 #[v0, v1, v2])
    (h0 : v0.oneCell' = true) (h1 : v1.oneCell' = true) (h2 : v2.oneCell' = true) (hn : n < 2000000000000) :
    Calls Try.prog 55 #[.slice A n c, .int .i64 n, .slice (some ⟨vb, 0, none⟩) 1 1] w (Inserted base xs [v0, v1, v2] n n ((Value.slice A n c).ownBlock) w) := by
  obtain ⟨i0, hi0, hz0, hz1, hz2⟩ := info_parts part_info
  have hnc : n ≤ c := Acc.le_ (.inl hown)
  have hl := hown.1
  have hcm : c ≤ maxLen := by
    rcases hown.2 with ⟨hv, h0⟩ | ⟨g, cap, cur, hv, _, _, _, hcm, _⟩
    · injection hv with _ _ hc; rw [hc]; exact Nat.zero_le _
    · injection hv with _ _ hc; rw [hc]; exact hcm
  unfold maxLen at hcm
  have hnews : ∀ j u, [v0, v1, v2][j]? = some u → w.cell? ((⟨vb, 0, none⟩ : Addr).add j) = some u := fun j u hj => by
    rw [show (⟨vb, 0, none⟩ : Addr).add j = ⟨vb, j, none⟩ from by unfold Addr.add; split <;> simp_all, hv.cell]
    simpa using hj
  have hone : ∀ u ∈ [v0, v1, v2], u.oneCell' = true := by simp [h0, h1, h2]
  have HN := Lib.hid hnews
  have HO := Lib.hid hown
  have HONE := Lib.hid hone
  have HL := Lib.hid hl
  have hA : A = none → n = 0 ∧ c = 0 := fun h => by
    rcases hown.2 with ⟨hv, h0⟩ | ⟨g, cap, cur, hv, _⟩
    · injection hv with _ h1 h2; exact ⟨h1, h2⟩
    · injection hv with h1; rw [h] at h1; cases h1
  clear hnews hown hone hl
  have hfin : ∀ v' w', w'.ownsRow base 76 3 v' (n + 1) (xs ++ [v0, v1, v2]) → w.grownBy w' ((Value.slice A n c).ownBlock) → (v'.ownBlock = (Value.slice A n c).ownBlock ∨ v'.ownBlock = some w.heap.size) → Inserted base xs [v0, v1, v2] n n ((Value.slice A n c).ownBlock) w (.returned v') w' := by
    intro v' w' ho hg hat
    obtain ⟨g, cap, rfl, _⟩ := ho.form (by omega)
    refine ⟨g, cap, rfl, ?_, hg, ?_⟩
    · rw [List.take_of_length_le (by rw [HL.out]; omega), List.drop_eq_nil_of_le (by rw [HL.out]; omega), List.append_nil]
      exact ho
    · rcases hat with hat | hat
      · left; rw [← hat]; rfl
      · right
        have : g = w.heap.size := by simpa [Value.ownBlock] using hat
        omega
  have HF := Lib.hid hfin
  clear hfin
  go_enter Try.func55, Try.ntmps55
  cases A with
  | none =>
    obtain ⟨rfl, rfl⟩ := hA rfl
    go_wp2_with (at_builtin; refine wpList_append_own2 _ (by rfl) _ _ _ _ (by rfl) base 76 76 i0 _ 3 48 Try.underlying78 Try.underlying77 hi0 hz0 hz1 hz2 (by rfl) (by decide) _ 0 xs (by rfl) (by exact HO.out) ⟨vb, 0, none⟩ 1 1 [v0, v1, v2] (by rfl) (by simp) (by exact HN.out) (by exact HONE.out) (by unfold maxLen; omega) (by omega) hb ?_; intro v5 w5 hown5 hgr5 hat5)
    go_ret
    exact HF.out _ _ hown5 hgr5 hat5
  | some a =>
    clear hA
    go_wp2_with (at_builtin; refine wpList_append_own2 _ (by rfl) _ _ _ _ (by rfl) base 76 76 i0 _ 3 48 Try.underlying78 Try.underlying77 hi0 hz0 hz1 hz2 (by rfl) (by decide) _ n xs (by rfl) (by exact HO.out) ⟨vb, 0, none⟩ 1 1 [v0, v1, v2] (by rfl) (by simp) (by exact HN.out) (by exact HONE.out) (by unfold maxLen; omega) (by omega) hb ?_; intro v5 w5 hown5 hgr5 hat5)
    all_goals (go_ret; exact HF.out _ _ hown5 hgr5 hat5)
theorem row_shift (cur xs : List Value) (v0 v1 v2 : Value) (i n cap : Nat) (hx : cur.take (n * 3) = xs) (hs : cur.length = cap * 3) (hi : i < n) (hn : n + 1 ≤ cap) :
    (let R1 := cur.take ((i + 1) * 3) ++ xs.drop (i * 3) ++ cur.drop ((i + 1) * 3 + (xs.drop (i * 3)).length)
     R1.take (i * 3) ++ [v0, v1, v2] ++ R1.drop (i * 3 + 3)).take ((n + 1) * 3) = xs.take (i * 3) ++ [v0, v1, v2] ++ xs.drop (i * 3) := by
  have hxl : xs.length = n * 3 := by rw [← hx, List.length_take, hs]; omega
  have hdl : (xs.drop (i * 3)).length = (n - i) * 3 := by rw [List.length_drop, hxl]; omega
  have h1 : cur.take ((i + 1) * 3) = xs.take ((i + 1) * 3) := by rw [← hx, List.take_take]; congr 1; omega
  have h2 : (xs.take ((i + 1) * 3)).length = (i + 1) * 3 := by rw [List.length_take, hxl]; omega
  simp only [h1]
  have h3 : (xs.take ((i + 1) * 3) ++ xs.drop (i * 3) ++ cur.drop ((i + 1) * 3 + (xs.drop (i * 3)).length)).take (i * 3) = xs.take (i * 3) := by
    rw [List.append_assoc, List.take_append_of_le_length (by omega), List.take_take]
    congr 1; omega
  have h4 : (xs.take ((i + 1) * 3) ++ xs.drop (i * 3) ++ cur.drop ((i + 1) * 3 + (xs.drop (i * 3)).length)).drop (i * 3 + 3) = xs.drop (i * 3) ++ cur.drop ((i + 1) * 3 + (xs.drop (i * 3)).length) := by
    rw [List.append_assoc, show i * 3 + 3 = (xs.take ((i + 1) * 3)).length by omega, List.drop_left]
  rw [h3, h4]
  rw [← List.append_assoc, List.take_append_of_le_length (by simp only [List.length_append, List.length_take, hxl, hdl, List.length_cons, List.length_nil]; omega)]
  exact List.take_of_length_le (by simp only [List.length_append, List.length_take, hxl, hdl, List.length_cons, List.length_nil]; omega)
set_option maxHeartbeats 1000000 in
set_option maxRecDepth 100000 in
theorem insert_shift (base : Nat) (g n c i vb : Nat) (xs : List Value) (v0 v1 v2 : Value) (w : World) (hown : w.ownsRow base 76 3 (.slice (some ⟨g, 0, none⟩) n c) n xs) (hv : Blk w vb 76 #[v0, v1, v2]) (hvb : vb ≠ g)
    (h0 : v0.oneCell' = true) (h1 : v1.oneCell' = true) (h2 : v2.oneCell' = true) (h1x : ∀ u ∈ xs, u.oneCell' = true) (hin : i < n) (hroom : n + 1 ≤ c) :
    Calls Try.prog 55 #[.slice (some ⟨g, 0, none⟩) n c, .int .i64 i, .slice (some ⟨vb, 0, none⟩) 1 1] w (Inserted base xs [v0, v1, v2] i n (some g) w) := by
  obtain ⟨cur, hB, hbase, hnc, hcm, hcs, hx⟩ := own_blk hown
  have hxl : xs.length = n * 3 := hown.1
  have hsz : (Try.prog.info? 76).map (·.size) = some 3 := by
    obtain ⟨i0, hi0, _, h1, _⟩ := info_parts part_info
    rw [hi0]; simp [h1]
  have hcell : ∀ j u, xs[j]? = some u → w.cell? ⟨g, j, none⟩ = some u := fun j u hj => by
    rw [hB.cell]
    have hjl := (List.getElem?_eq_some_iff.1 hj).1
    rw [← hx, List.getElem?_take, if_pos (by omega)] at hj
    simpa using hj
  have hov : ∀ lb cb, (callFunc 69 #[.slice (some ⟨vb, 0, none⟩) 1 1, .slice (some ⟨g, (i + 1) * 3, none⟩) lb cb]).run Try.prog w = .ok (.value (.bool false)) w := fun lb cb => by
    rw [run_callFunc_extern Try.func69 (by kernel_rfl) (by kernel_rfl) (by kernel_rfl) (e := Extern.SlicesOverlaps.overlaps #[77, 77] #[4]) (by kernel_rfl),
      Lib.run_overlaps_apart w 77 4 76 Try.underlying77 3 (fun w => by obtain ⟨i0, hi0, _, h1, _⟩ := info_parts part_info; simp [sizeOf, typeInfo, hi0, h1]) ⟨vb, 0, none⟩ ⟨g, (i + 1) * 3, none⟩ 1 1 lb cb hvb _ _ _ _ (blk_shape hv) (blk_shape hB) (by rw [hcs]; omega) (hv.free 0) (hv.free _)]
    rfl
  have hdl : (xs.drop (i * 3)).length = (n - i) * 3 := by rw [List.length_drop, hxl]; omega
  obtain ⟨R1, hR1⟩ : ∃ R1, R1 = (cur.toList.take ((i + 1) * 3) ++ xs.drop (i * 3) ++ cur.toList.drop ((i + 1) * 3 + (xs.drop (i * 3)).length)).toArray := ⟨_, rfl⟩
  have hR1s : R1.size = cur.size := by
    rw [hR1]
    simp only [List.size_toArray, List.length_append, List.length_take, List.length_drop, Array.length_toList, hdl, hxl, hcs]
    omega
  have hcp1 : ∀ ty dc sc, (Builtin.copy_ #[78, 78] ty #[.slice (some ⟨g, (i + 1) * 3, none⟩) (n - i) dc, .slice (some ⟨g, i * 3, none⟩) (n + 1 - i) sc]).run Try.prog w.drew = .ok (goInt ((n - i : Nat) : Int)) (w.drew.setRow g R1) := fun ty dc sc => by
    have h := run_copy_rowK (P := Try.prog) w.drew 78 78 ty 76 3 g ((i + 1) * 3) (n + 1 - (i + 1)) dc ⟨g, i * 3, none⟩ (n + 1 - i) sc cur 76 (xs.drop (i * 3)) Try.underlying78 hsz hB
      (by rw [hdl]; congr 1; simp only [Nat.min_def]; split <;> omega)
      (fun j v hj => by
        rw [show (⟨g, i * 3, none⟩ : Addr).add j = ⟨g, i * 3 + j, none⟩ from by unfold Addr.add; split <;> simp_all]
        exact hcell _ v (by rwa [List.getElem?_drop] at hj))
      (by rw [hdl, hcs]; omega) (fun v hv => h1x v (List.mem_of_mem_drop hv))
    rw [← hR1, show Nat.min (n + 1 - i) (n + 1 - (i + 1)) = n - i from by simp only [Nat.min_def]; split <;> omega, show n + 1 - (i + 1) = n - i from by omega] at h
    exact h
  obtain ⟨R2, hR2⟩ : ∃ R2, R2 = (R1.toList.take (i * 3) ++ [v0, v1, v2] ++ R1.toList.drop (i * 3 + 3)).toArray := ⟨_, rfl⟩
  have hB1 : Blk (w.drew.setRow g R1) g 76 R1 := setRow_blk (hB.drew) R1
  have hcp2 : ∀ ty dc, (Builtin.copy_ #[78, 77] ty #[.slice (some ⟨g, i * 3, none⟩) (n + 1 - i) dc, .slice (some ⟨vb, 0, none⟩) 1 1]).run Try.prog (w.drew.setRow g R1) = .ok (goInt 1) ((w.drew.setRow g R1).setRow g R2) := fun ty dc => by
    have h := run_copy_rowK (P := Try.prog) (w.drew.setRow g R1) 78 77 ty 76 3 g (i * 3) (n + 1 - i) dc ⟨vb, 0, none⟩ 1 1 R1 76 [v0, v1, v2] Try.underlying78 hsz hB1
      (by rw [show Nat.min 1 (n + 1 - i) = 1 from by simp only [Nat.min_def]; split <;> omega]; rfl)
      (fun j v hj => by
        rw [show (⟨vb, 0, none⟩ : Addr).add j = ⟨vb, j, none⟩ from by unfold Addr.add; split <;> simp_all]
        have : (w.drew.setRow g R1).cell? ⟨vb, j, none⟩ = w.cell? ⟨vb, j, none⟩ := cell_setRow_other w.drew g R1 ⟨vb, j, none⟩ hvb
        rw [this, hv.cell]
        simpa using hj)
      (by simp only [List.length_cons, List.length_nil]; omega) (by simp [h0, h1, h2])
    rw [show Nat.min 1 (n + 1 - i) = 1 from by simp only [Nat.min_def]; split <;> omega] at h
    rw [hR2]
    exact h
  have hfin : (R2.toList).take ((n + 1) * 3) = xs.take (i * 3) ++ [v0, v1, v2] ++ xs.drop (i * 3) := by
    rw [hR2, hR1]
    exact row_shift cur.toList xs v0 v1 v2 i n c hx (by simpa using hcs) hin hroom
  have hR2s : R2.size = c * 3 := by
    rw [hR2]
    simp only [List.size_toArray, List.length_append, List.length_take, List.length_drop, Array.length_toList, List.length_cons, List.length_nil]
    omega
  have hgrow : Inserted base xs [v0, v1, v2] i n (some g) w (.returned (.slice (some ⟨g, 0, none⟩) (n + 1) c)) ((w.drew.setRow g R1).setRow g R2) := by
    refine ⟨g, c, rfl, own_of_blk (setRow_blk hB1 R2) hbase hroom hcm hR2s hfin, ?_, .inl rfl⟩
    have h1 : w.grownBy (w.drew.setRow g R1) (some g) := grownBy_setRow (w := w) (w' := w.drew) ⟨rfl, rfl, rfl, Nat.le_refl _, fun _ _ _ => rfl⟩ (.inl rfl) R1
    exact grownBy_setRow h1 (.inl rfl) R2
  have HG := Lib.hid hgrow
  have HC1 := Lib.hid hcp1
  have HC2 := Lib.hid hcp2
  unfold maxLen at hcm
  have hw1 : IntKind.i64.wrap ((i : Int) + 1) = (i : Int) + 1 := by rw [IntKind.wrap_i64]; omega
  have hb1 : (0 : Int) ≤ (i : Int) + 1 := by omega
  have htn : ((i : Int) + 1).toNat = i + 1 := by omega
  have hb2 : ¬ (c = i + 1) := by omega
  have hb3 : (i : Int) ≤ (n : Int) + 1 := by omega
  have hb4 : ¬ (c = i) := by omega
  have hz2 : ¬ ((i : Int) = (n : Int)) := by omega
  have hin2 : i ≤ n := by omega
  clear hown hB hxl hx hcell hdl hR1 hR1s hR2 hB1 hfin hR2s hgrow hcp1 hcp2 hsz h1x h0 h1 h2 hv hcs
  go_enter Try.func55, Try.ntmps55
  go_wp2_with (simp only [hov])
  go_region_law (refine step_copy_runI (by rfl) _ _ 78 78 (by rfl) (.slice (some ⟨g, (i + 1) * 3, none⟩) (n - i) (c - (i + 1))) (.slice (some ⟨g, i * 3, none⟩) (n + 1 - i) (c - i)) (by simp [Act.eval, Act.put]) (by simp [Act.eval, Act.put]) (HC1.out _ _ _) ?_)
  go_wp2_with (refine wpList_copy_runI _ (by rfl) _ _ 78 77 (by rfl) _ _ (by rfl) (by rfl) (HC2.out _ _) ?_)
  go_ret
  exact HG.out
theorem row_grow (C0 xs : List Value) (v0 v1 v2 : Value) (i n cap : Nat) (hx : C0.take (i * 3) = xs.take (i * 3)) (hxl : xs.length = n * 3) (hs : C0.length = cap * 3) (hi : i < n) (hn : n + 1 ≤ cap) :
    (let R1 := C0.take (i * 3) ++ [v0, v1, v2] ++ C0.drop (i * 3 + 3)
     R1.take ((i + 1) * 3) ++ xs.drop (i * 3) ++ R1.drop ((i + 1) * 3 + (xs.drop (i * 3)).length)).take ((n + 1) * 3) = xs.take (i * 3) ++ [v0, v1, v2] ++ xs.drop (i * 3) := by
  have hdl : (xs.drop (i * 3)).length = (n - i) * 3 := by rw [List.length_drop, hxl]; omega
  have h2 : (xs.take (i * 3)).length = i * 3 := by rw [List.length_take, hxl]; omega
  simp only [hx]
  have h3 : (xs.take (i * 3) ++ [v0, v1, v2] ++ C0.drop (i * 3 + 3)).take ((i + 1) * 3) = xs.take (i * 3) ++ [v0, v1, v2] := by
    rw [show (i + 1) * 3 = (xs.take (i * 3) ++ [v0, v1, v2]).length from by simp only [List.length_append, h2, List.length_cons, List.length_nil]; omega, List.take_left]
  rw [h3, List.take_append_of_le_length (by simp only [List.length_append, h2, hdl, List.length_cons, List.length_nil]; omega)]
  exact List.take_of_length_le (by simp only [List.length_append, h2, hdl, List.length_cons, List.length_nil]; omega)
set_option maxHeartbeats 1000000 in
set_option maxRecDepth 100000 in
theorem insert_grow (base : Nat) (g n c i vb : Nat) (xs : List Value) (v0 v1 v2 : Value) (w : World) (hown : w.ownsRow base 76 3 (.slice (some ⟨g, 0, none⟩) n c) n xs) (hbw : base ≤ w.heap.size) (hv : Blk w vb 76 #[v0, v1, v2])
    (h0 : v0.oneCell' = true) (h1 : v1.oneCell' = true) (h2 : v2.oneCell' = true) (h1x : ∀ u ∈ xs, u.oneCell' = true) (hin : i < n) (hroom : c < n + 1) (hbig : n < 2000000000000) :
    Calls Try.prog 55 #[.slice (some ⟨g, 0, none⟩) n c, .int .i64 i, .slice (some ⟨vb, 0, none⟩) 1 1] w (Inserted base xs [v0, v1, v2] i n (some g) w) := by
  obtain ⟨cur, hB, hbase, hnc, hcm, hcs, hx⟩ := own_blk hown
  obtain rfl : c = n := by omega
  have hxl : xs.length = c * 3 := hown.1
  have hgl := hB.lt
  have hvl := hv.lt
  have hsz : (Try.prog.info? 76).map (·.size) = some 3 := by
    obtain ⟨i0, hi0, _, h1, _⟩ := info_parts part_info
    rw [hi0]; simp [h1]
  have hcell : ∀ j u, xs[j]? = some u → w.cell? ⟨g, j, none⟩ = some u := fun j u hj => by
    rw [hB.cell]
    have hjl := (List.getElem?_eq_some_iff.1 hj).1
    rw [← hx, List.getElem?_take, if_pos (by omega)] at hj
    simpa using hj
  have hdl : (xs.drop (i * 3)).length = (c - i) * 3 := by rw [List.length_drop, hxl]; omega
  obtain ⟨i0, hi0, hz0, hz1, hz2⟩ := info_parts part_info
  have hold : (Builtin.firstCells i0.size i (.slice (some ⟨g, 0, none⟩) i c)).run Try.prog w.drew = .ok (xs.take (i * 3)).toArray w.drew := by
    rw [hz1]
    refine run_firstCells_some w.drew 3 i ⟨g, 0, none⟩ i c (xs.take (i * 3)) (by rw [List.length_take, hxl]; omega) fun j v hj => ?_
    rw [show (⟨g, 0, none⟩ : Addr).add j = ⟨g, j, none⟩ from by unfold Addr.add; split <;> simp_all]
    have hjl := (List.getElem?_eq_some_iff.1 hj).1
    rw [List.length_take] at hjl
    rw [List.getElem?_take, if_pos (by omega)] at hj
    exact hcell j v hj
  have hneed : i + (c + 1 - i) = c + 1 := by omega
  have hrun := fun ty => run_append_grow_zeros (P := Try.prog) w 78 3 ty 76 i0 _ .i64 .i64 Try.underlying78 Try.underlying3 hi0 hz0 (some ⟨g, 0, none⟩) i c (xs.take (i * 3)) hold (c + 1 - i) (by omega) (by rw [hz1]; decide) (by omega) (by omega) (by rw [hz2]; omega) (by rw [hz2, hneed]; exact growslice_fits (by omega) (by omega))
  rw [hneed] at hrun
  obtain ⟨cap, hcap⟩ : ∃ cap, cap = grownCap w (c + 1) c 76 := ⟨_, rfl⟩
  have hge : c + 1 ≤ cap := by rw [hcap]; exact grownCap_ge w _ _ _
  have hle : cap ≤ maxLen := by rw [hcap]; exact grownCap_le_maxLen w _ _ _ (by unfold maxLen at hcm ⊢; omega)
  rw [← hcap] at hrun
  obtain ⟨C0, hC0⟩ : ∃ C0, C0 = (xs.take (i * 3)).toArray ++ Builtin.zeroCells (Value.agg #[.string ⟨#[]⟩, .int .i64 0, .slice none 0 0]).cells (c + 1 - i) ++ Builtin.zeroCells (Value.agg #[.string ⟨#[]⟩, .int .i64 0, .slice none 0 0]).cells (cap - (c + 1)) := ⟨_, rfl⟩
  rw [← hC0] at hrun
  have htl : (xs.take (i * 3)).length = i * 3 := by rw [List.length_take, hxl]; omega
  have hCs : C0.size = cap * 3 := by
    rw [hC0]
    simp only [Array.size_append, List.size_toArray, htl, size_zeroCells]
    show i * 3 + (c + 1 - i) * 3 + (cap - (c + 1)) * 3 = cap * 3
    omega
  have hCt : C0.toList.take (i * 3) = xs.take (i * 3) := by
    rw [hC0, Array.toList_append, Array.toList_append, List.append_assoc, List.toList_toArray, List.take_append_of_le_length (by rw [htl]; exact Nat.le_refl _)]
    exact List.take_of_length_le (by rw [htl]; exact Nat.le_refl _)
  have hrun2 : ∀ ty, (Builtin.append_ #[78, 3] ty #[.slice (some ⟨g, 0, none⟩) i c, .int .i64 ((c : Int) + 1 - (i : Int))]).run Try.prog w = .ok (.slice (some ⟨w.heap.size, 0, none⟩) (c + 1) cap) (w.drew.alloc (.cells C0 76)) := fun ty => by
    rw [show (c : Int) + 1 - (i : Int) = ((c + 1 - i : Nat) : Int) from by omega]
    exact hrun ty
  obtain ⟨W1, hW1⟩ : ∃ W1, W1 = w.drew.alloc (.cells C0 76) := ⟨_, rfl⟩
  rw [← hW1] at hrun2
  have hB1 : Blk W1 w.heap.size 76 C0 := by rw [hW1]; exact Blk.new w.drew _ _
  obtain ⟨R1, hR1⟩ : ∃ R1, R1 = (C0.toList.take (i * 3) ++ [v0, v1, v2] ++ C0.toList.drop (i * 3 + 3)).toArray := ⟨_, rfl⟩
  have hR1s : R1.size = cap * 3 := by
    rw [hR1]
    simp only [List.size_toArray, List.length_append, List.length_take, List.length_drop, Array.length_toList, hCs, List.length_cons, List.length_nil]
    omega
  have hcp1 : ∀ ty dc, (Builtin.copy_ #[78, 77] ty #[.slice (some ⟨w.heap.size, i * 3, none⟩) (c + 1 - i) dc, .slice (some ⟨vb, 0, none⟩) 1 1]).run Try.prog W1 = .ok (goInt 1) (W1.setRow w.heap.size R1) := fun ty dc => by
    have h := run_copy_rowK (P := Try.prog) W1 78 77 ty 76 3 w.heap.size (i * 3) (c + 1 - i) dc ⟨vb, 0, none⟩ 1 1 C0 76 [v0, v1, v2] Try.underlying78 hsz hB1
      (by rw [show Nat.min 1 (c + 1 - i) = 1 from by simp only [Nat.min_def]; split <;> omega]; rfl)
      (fun j v hj => by
        rw [show (⟨vb, 0, none⟩ : Addr).add j = ⟨vb, j, none⟩ from by unfold Addr.add; split <;> simp_all, hW1]
        rw [World.cell?_alloc_lt _ _ _ (show vb < w.drew.heap.size from hvl)]
        show w.cell? _ = _
        rw [hv.cell]
        simpa using hj)
      (by simp only [List.length_cons, List.length_nil]; omega) (by simp [h0, h1, h2])
    rw [show Nat.min 1 (c + 1 - i) = 1 from by simp only [Nat.min_def]; split <;> omega] at h
    rw [hR1]
    exact h
  obtain ⟨R2, hR2⟩ : ∃ R2, R2 = (R1.toList.take ((i + 1) * 3) ++ xs.drop (i * 3) ++ R1.toList.drop ((i + 1) * 3 + (xs.drop (i * 3)).length)).toArray := ⟨_, rfl⟩
  have hB2 : Blk (W1.setRow w.heap.size R1).drew w.heap.size 76 R1 := (setRow_blk hB1 R1).drew
  have hcp2 : ∀ ty dc sc, (Builtin.copy_ #[78, 78] ty #[.slice (some ⟨w.heap.size, (i + 1) * 3, none⟩) (c - i) dc, .slice (some ⟨g, i * 3, none⟩) (c - i) sc]).run Try.prog (W1.setRow w.heap.size R1).drew = .ok (goInt ((c - i : Nat) : Int)) ((W1.setRow w.heap.size R1).drew.setRow w.heap.size R2) := fun ty dc sc => by
    have h := run_copy_rowK (P := Try.prog) (W1.setRow w.heap.size R1).drew 78 78 ty 76 3 w.heap.size ((i + 1) * 3) (c - i) dc ⟨g, i * 3, none⟩ (c - i) sc R1 76 (xs.drop (i * 3)) Try.underlying78 hsz hB2
      (by rw [hdl]; congr 1; simp only [Nat.min_def]; split <;> omega)
      (fun j v hj => by
        rw [show (⟨g, i * 3, none⟩ : Addr).add j = ⟨g, i * 3 + j, none⟩ from by unfold Addr.add; split <;> simp_all]
        have h1 : (W1.setRow w.heap.size R1).drew.cell? ⟨g, i * 3 + j, none⟩ = W1.cell? ⟨g, i * 3 + j, none⟩ := cell_setRow_other W1 w.heap.size R1 ⟨g, i * 3 + j, none⟩ (by simp; omega)
        rw [h1, hW1, World.cell?_alloc_lt _ _ _ (show g < w.drew.heap.size from hgl)]
        exact hcell _ v (by rwa [List.getElem?_drop] at hj))
      (by rw [hdl]; omega) (fun v hv => h1x v (List.mem_of_mem_drop hv))
    rw [show Nat.min (c - i) (c - i) = c - i from by simp only [Nat.min_def]; split <;> omega] at h
    rw [hR2]
    exact h
  have hfin : (R2.toList).take ((c + 1) * 3) = xs.take (i * 3) ++ [v0, v1, v2] ++ xs.drop (i * 3) := by
    rw [hR2, hR1]
    exact row_grow C0.toList xs v0 v1 v2 i c cap hCt hxl (by simpa using hCs) hin hge
  have hR2s : R2.size = cap * 3 := by
    rw [hR2]
    simp only [List.size_toArray, List.length_append, List.length_take, List.length_drop, Array.length_toList, hdl]
    omega
  have hgrow : Inserted base xs [v0, v1, v2] i c (some g) w (.returned (.slice (some ⟨w.heap.size, 0, none⟩) (c + 1) cap)) ((W1.setRow w.heap.size R1).drew.setRow w.heap.size R2) := by
    refine ⟨w.heap.size, cap, rfl, own_of_blk (setRow_blk hB2 R2) hbw hge hle hR2s hfin, ?_, .inr (Nat.le_refl _)⟩
    have g1 : w.grownBy W1 (some g) := by
      rw [hW1]
      have := World.grownBy_alloc w.drew (.cells C0 76) (some g)
      exact ⟨this.os, this.tape, this.output, this.size, this.block⟩
    have g2 : w.grownBy (W1.setRow w.heap.size R1).drew (some g) := by
      have := grownBy_setRow g1 (.inr (Nat.le_refl _)) R1
      exact ⟨this.os, this.tape, this.output, this.size, this.block⟩
    exact grownBy_setRow g2 (.inr (Nat.le_refl _)) R2
  have HG := Lib.hid hgrow
  have HC1 := Lib.hid hcp1
  have HC2 := Lib.hid hcp2
  have HRUN := Lib.hid hrun2
  unfold maxLen at hle
  have hw1 : IntKind.i64.wrap ((i : Int) + 1) = (i : Int) + 1 := by rw [IntKind.wrap_i64]; omega
  have hw2 : IntKind.i64.wrap ((c : Int) + 1) = (c : Int) + 1 := by rw [IntKind.wrap_i64]; omega
  have hw3 : IntKind.i64.wrap ((c : Int) + 1 - (i : Int)) = (c : Int) + 1 - (i : Int) := by rw [IntKind.wrap_i64]; omega
  have hb1 : (0 : Int) ≤ (i : Int) + 1 := by omega
  have htn : ((i : Int) + 1).toNat = i + 1 := by omega
  have hb2 : ¬ (cap = i + 1) := by omega
  have hb3 : (i : Int) ≤ (c : Int) + 1 := by omega
  have hb4 : ¬ (c = i) := by omega
  have hb5 : ¬ (cap = i) := by omega
  have hz2' : ¬ ((i : Int) = (c : Int)) := by omega
  have hin2 : i ≤ c := by omega
  have hnn : c + 1 - (i + 1) = c - i := by omega
  clear hown hB hxl hx hcell hdl hR1 hR1s hR2 hB1 hB2 hfin hR2s hgrow hcp1 hcp2 hsz h1x h0 h1 h2 hv hcs hC0 hCs hCt hrun hrun2 hold hneed hi0 hz0 hz1 hz2 hcap htl hW1 hgl hvl
  go_enter Try.func55, Try.ntmps55
  go_wp2_with (first | (at_builtin; refine Lib.wpList_append_run _ (by rfl) _ _ _ _ (by rfl) _ _ (by rfl) (by rfl) _ _ (HRUN.out _) ?_) | (refine wpList_copy_runI _ (by rfl) _ _ 78 77 (by rfl) _ _ (by rfl) (by rfl) (HC1.out _ _) ?_))
  go_region_law (refine step_copy_runI (by rfl) _ _ 78 78 (by rfl) (.slice (some ⟨w.heap.size, (i + 1) * 3, none⟩) (c - i) (cap - (i + 1))) (.slice (some ⟨g, i * 3, none⟩) (c - i) (c - i)) (by simp [Act.eval, Act.put]) (by simp [Act.eval, Act.put]) (HC2.out _ _ _) ?_)
  go_wp2_with fail
  go_ret
  exact HG.out
/-- Insert of one element into a row of the call's own -/
theorem insert_any (base : Nat) (A : Option Addr) (n c i vb : Nat) (xs : List Value) (v0 v1 v2 : Value) (w : World) (hown : w.ownsRow base 76 3 (.slice A n c) n xs) (hbw : base ≤ w.heap.size) (hv : Blk w vb 76 #[v0, v1, v2]) (hvb : (Value.slice A n c).ownBlock ≠ some vb)
    (h0 : v0.oneCell' = true) (h1 : v1.oneCell' = true) (h2 : v2.oneCell' = true) (h1x : ∀ u ∈ xs, u.oneCell' = true) (hin : i ≤ n) (hbig : n < 2000000000000) :
    Calls Try.prog 55 #[.slice A n c, .int .i64 i, .slice (some ⟨vb, 0, none⟩) 1 1] w (Inserted base xs [v0, v1, v2] i n ((Value.slice A n c).ownBlock) w) := by
  rcases Nat.lt_or_ge i n with h | h
  · obtain ⟨g, cap, e, _⟩ := hown.form (by omega)
    injection e with e1 e2 e3
    subst e1 e3
    rcases Nat.lt_or_ge c (n + 1) with h3 | h3
    · exact insert_grow base g n c i vb xs v0 v1 v2 w hown hbw hv h0 h1 h2 h1x h h3 hbig
    · exact insert_shift base g n c i vb xs v0 v1 v2 w hown hv (fun he => hvb (by rw [he]; rfl)) h0 h1 h2 h1x h h3
  · obtain rfl : i = n := by omega
    exact insert_end base A i c vb xs v0 v1 v2 w hown hbw hv h0 h1 h2 hbig
end Go.Proofs.Ythcnnadggffjhaa
