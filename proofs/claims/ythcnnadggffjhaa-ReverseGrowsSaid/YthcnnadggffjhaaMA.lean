/- The walk of the recursive closure 'mark' of route.spread: it marks what can be reached, in a row of bools; the edges lie in a map of slices. The walk of route.spread: the edges are gathered in a map of slices, then each mode of a list is marked with all that it leads to. -/
import Derived.Test.YthcnnadggffjhaaWA
import Derived.Test.YthcnnadggffjhaaLA
import Derived.Maps.GroupsBeside
import Derived.Maps.Views
import Derived.Laws.OwnMore
import Derived.Deep.OwnRows
set_option linter.unusedVariables false
set_option linter.unusedSimpArgs false
namespace Go.Proofs.Ythcnnadggffjhaa
open Go.RowKit Go.Maps Go.WideElems Go.ChangeShapes

theorem law3 : Keyed Try.prog 3 := int_keyed Try.underlying3
theorem zero32 (w : World) : (zeroValue 40).run Try.prog w = .ok (.slice none 0 0) w := by kernel_rfl

/-- Block b is a map from modes to slices, at m the numbers ed m; no slice lies from block B on. -/
def EdgeMap (w : World) (b B n : Nat) (ed : Nat → List Nat) : Prop :=
  ∃ N, ∃ D : DataW Unit, w.ownsGroups Try.prog 3 (b + 1) 3 .i64 b N D ∧ N < 1000 ∧ w.Shuns b (B ≤ ·) ∧
    ∀ m, m < n → D.atKey (.int .i64 m) .nil = if ed m = [] then .nil else .slice (lits .i64 ((ed m).map Int.ofNat)) []

theorem EdgeMap.kept {w w' : World} {b B n g : Nat} {ed : Nat → List Nat} (h : EdgeMap w b B n ed) (hg : w.grownBy w' (some g)) (hB : B ≤ g) (hb : b < B) : EdgeMap w' b B n ed := by
  obtain ⟨N, D, h1, h2, h3, h4⟩ := h
  have hne : some b ≠ some g := by intro e; injection e; omega
  obtain ⟨es, clock, hm, _⟩ := id h1
  have hlt : b < w.heap.size := (Array.getElem?_eq_some_iff.1 hm).1
  exact ⟨N, D, h1.kept hg hne (h3.rowsOff fun j hj => by injection hj; omega), h2, h3.kept hg hlt hne, h4⟩

/-- what the marking does: V before, V' behind -/
def MarkPost (ed : Nat → List Nat) (R : Nat → Prop) (V V' : List Bool) (m : Nat) : Prop :=
  V'.length = V.length ∧ (∀ x : Nat, V[x]? = some true → V'[x]? = some true) ∧ V'[m]? = some true ∧ (∀ x : Nat, V'[x]? = some true → V[x]? = some true ∨ R x) ∧
    ∀ x : Nat, V'[x]? = some true → V[x]? = some true ∨ ∀ y ∈ ed x, V'[y]? = some true

structure Marks (w : World) (bo be bm g b B n : Nat) (ed : Nat → List Nat) (V : List Bool) : Prop where
  co : Blk w bo 88 #[.slice (some ⟨g, 0, none⟩) n n]
  ce : Blk w be 150 #[.map (some b)]
  cm : Blk w bm 152 #[.func (.func 85) #[] #[.pointer (some ⟨bo, 0, none⟩), .pointer (some ⟨be, 0, none⟩), .pointer (some ⟨bm, 0, none⟩)]]
  row : Blk w g 4 (V.map vB).toArray
  len : V.length = n
  grp : EdgeMap w b B n ed
  lt : b < B
  le : B ≤ g

theorem Blk.kept {w w' : World} {b g : Nat} {e : TypeId} {cs : Array Value} (h : Blk w b e cs) (hg : w.grownBy w' (some g)) (hne : b ≠ g) : Blk w' b e cs := h.grown hg (by simpa using hne)
theorem Blk.ne {w : World} {b b' : Nat} {e e' : TypeId} {cs cs' : Array Value} (h : Blk w b e cs) (h' : Blk w b' e' cs') (hne : e ≠ e') : b ≠ b' := by
  rintro rfl
  unfold Blk at h h'
  rw [h] at h'
  injection h' with h'
  injection h' with _ h'
  exact hne h'

theorem Marks.kept {w w' : World} {bo be bm g b B n : Nat} {ed : Nat → List Nat} {V V' : List Bool} (h : Marks w bo be bm g b B n ed V) (hg : w.grownBy w' (some g)) (hr : Blk w' g 4 (V'.map vB).toArray) (hl : V'.length = n) : Marks w' bo be bm g b B n ed V' :=
  ⟨h.co.kept hg (h.co.ne h.row (by decide)), h.ce.kept hg (h.ce.ne h.row (by decide)), h.cm.kept hg (h.cm.ne h.row (by decide)), hr, hl, h.grp.kept hg h.le h.lt, h.lt, h.le⟩

theorem grownBy_setCell (w : World) (p : Addr) (u : Value) : w.grownBy (w.setCell p u) (some p.block) :=
  ⟨rfl, rfl, rfl, by simp [World.setCell], fun i _ hi => Below.heap_setCell w p u i (fun e => hi (by rw [e]))⟩

theorem Marks.set {w : World} {bo be bm g b B n : Nat} {ed : Nat → List Nat} {V : List Bool} (h : Marks w bo be bm g b B n ed V) (m : Nat) : Marks (w.setCell ⟨g, m, none⟩ (.bool true)) bo be bm g b B n ed (V.set m true) := by
  refine h.kept (grownBy_setCell w ⟨g, m, none⟩ (.bool true)) ?_ (by rw [List.length_set]; exact h.len)
  have := h.row.set m (.bool true)
  rw [List.map_set]
  simpa [vB] using this

theorem Marks.at_ {w : World} {bo be bm g b B n : Nat} {ed : Nat → List Nat} {V : List Bool} (h : Marks w bo be bm g b B n ed V) {m : Nat} (hm : m < V.length) : w.cell? ⟨g, m, none⟩ = some (.bool V[m]) := by
  rw [h.row.cell m]; simp [hm, vB]

theorem count_set {V : List Bool} {m : Nat} (hm : V[m]? = some false) : (V.set m true).count false + 1 = V.count false := by
  induction V generalizing m with
  | nil => simp at hm
  | cons a V ih =>
    cases m with
    | zero =>
      simp at hm
      subst hm
      simp
    | succ m =>
      have := ih (m := m) (by simpa using hm)
      simp [List.count_cons]
      omega
theorem count_le {V V' : List Bool} (hl : V'.length = V.length) (h : ∀ x : Nat, V[x]? = some true → V'[x]? = some true) : V'.count false ≤ V.count false := by
  induction V generalizing V' with
  | nil =>
    have : V' = [] := List.length_eq_zero_iff.1 (by simpa using hl)
    simp [this]
  | cons a V ih =>
    cases V' with
    | nil => simp at hl
    | cons a' V' =>
      have h1 := ih (V' := V') (by simpa using hl) (fun x hx => by simpa using h (x + 1) (by simpa using hx))
      have h0 := h 0
      rw [List.count_cons, List.count_cons]
      cases a <;> cases a' <;> simp_all <;> omega

/-- the slice at a mode -/
theorem edge_look {w : World} {b B n : Nat} {ed : Nat → List Nat} {D : DataW Unit} {v : Value} {zs : List Int} {m : Nat} (hD : ∀ m, m < n → D.atKey (.int .i64 m) .nil = if ed m = [] then .nil else .slice (lits .i64 ((ed m).map Int.ofNat)) []) (hm : m < n)
    (hat : D.atKey (.int .i64 m) .nil = rowDatum .i64 v zs) (hoi : w.ownsInts (b + 1) 3 .i64 v zs) (hs : ∀ g, v.ownBlock = some g → ¬ B ≤ g) :
    ∃ A c, v = .slice A (ed m).length c ∧ SlAt vN (· < B) w A (ed m) := by
  have hzs : zs = (ed m).map Int.ofNat := by
    rw [hD m hm] at hat
    rcases hoi.datum (H := Unit) with ⟨h1, h2⟩ | h1
    · rw [h1] at hat
      split at hat
      · rename_i h0; rw [h2, h0]; rfl
      · cases hat
    · rw [h1] at hat
      split at hat
      · cases hat
      · injection hat with hat
        exact ((List.map_inj_right (fun a b hab => by cases hab; rfl)).1 hat).symm
  have hrow := hoi.1
  have hlen : zs.length = (ed m).length := by rw [hzs]; simp
  have hsl : ∃ A c, v = .slice A zs.length c ∧ ∀ b, (∃ o, A = some ⟨b, o, none⟩) → b < B := by
    rcases hrow.2 with ⟨hv, h0⟩ | ⟨g, cap, cur, hv, hg, hh, _⟩
    · exact ⟨none, 0, by rw [hv, h0], by simp⟩
    · refine ⟨some ⟨g, 0, none⟩, cap, hv, ?_⟩
      rintro b ⟨o, ho⟩
      injection ho with ho
      injection ho with ho
      have := hs g (by rw [hv]; rfl)
      omega
  obtain ⟨A, c, rfl, hA⟩ := hsl
  refine ⟨A, c, by rw [hlen], ?_⟩
  have hr := Reads.of_own hrow
  have e : zs.map (Value.int .i64) = (ed m).map vN := by rw [hzs]; simp [vN]
  rw [e] at hr
  intro hne
  obtain ⟨g, o, e1, e2, e3, e4⟩ := hr hne
  exact ⟨g, o, e1, hA g ⟨o, e1⟩, e3, e4⟩

/-- while the marking goes over the edges of m: V1 with m marked, Vj behind j edges -/
def MarkMid (ed : Nat → List Nat) (R : Nat → Prop) (V1 Vj : List Bool) (m j : Nat) : Prop :=
  Vj.length = V1.length ∧ (∀ x : Nat, V1[x]? = some true → Vj[x]? = some true) ∧ (∀ x : Nat, Vj[x]? = some true → V1[x]? = some true ∨ R x) ∧
    (∀ x : Nat, Vj[x]? = some true → V1[x]? = some true ∨ ∀ y ∈ ed x, Vj[y]? = some true) ∧ ∀ i, i < j → ∀ y, (ed m)[i]? = some y → Vj[y]? = some true
theorem MarkMid.step {ed : Nat → List Nat} {R R' : Nat → Prop} {V1 Vj V2 : List Bool} {m j y : Nat} (h : MarkMid ed R V1 Vj m j) (hy : (ed m)[j]? = some y) (hp : MarkPost ed R' Vj V2 y) (hR : ∀ x, R' x → R x) : MarkMid ed R V1 V2 m (j + 1) := by
  obtain ⟨h1, h2, h3, h4, h5⟩ := h
  obtain ⟨p1, p2, p3, p4, p5⟩ := hp
  refine ⟨p1.trans h1, fun x hx => p2 x (h2 x hx), fun x hx => ?_, fun x hx => ?_, fun i hi z hz => ?_⟩
  · rcases p4 x hx with h | h
    · exact h3 x h
    · exact .inr (hR x h)
  · rcases p5 x hx with h | h
    · rcases h4 x h with h | h
      · exact .inl h
      · exact .inr fun y hy => p2 y (h y hy)
    · exact .inr h
  · rcases Nat.lt_or_ge i j with hlt | hge
    · exact p2 z (h5 i hlt z hz)
    · obtain rfl : i = j := by omega
      rw [hy] at hz
      injection hz with hz
      rw [← hz]
      exact p3
theorem MarkMid.post {ed : Nat → List Nat} {R : Nat → Prop} {V V2 : List Bool} {m j : Nat} (hmV : V[m]? = some false) (h : MarkMid ed R (V.set m true) V2 m j) (hj : (ed m).length ≤ j) (hR : R m) : MarkPost ed R V V2 m := by
  obtain ⟨h1, h2, h3, h4, h5⟩ := h
  have hlt : m < V.length := by
    rcases Nat.lt_or_ge m V.length with h | h
    · exact h
    · rw [List.getElem?_eq_none h] at hmV; cases hmV
  have hset : ∀ x : Nat, (V.set m true)[x]? = some true → V[x]? = some true ∨ x = m := by
    intro x hx
    rw [List.getElem?_set] at hx
    split at hx
    · rename_i h; exact .inr h.symm
    · exact .inl hx
  refine ⟨by rw [h1, List.length_set], fun x hx => h2 x ?_, h2 m ?_, fun x hx => ?_, fun x hx => ?_⟩
  · rw [List.getElem?_set]
    split
    · rename_i h; subst h; simp [hlt]
    · exact hx
  · simp [hlt]
  · rcases h3 x hx with h | h
    · rcases hset x h with h | rfl
      · exact .inl h
      · exact .inr hR
    · exact .inr h
  · rcases h4 x hx with h | h
    · rcases hset x h with h | rfl
      · exact .inl h
      · refine .inr fun y hy => ?_
        obtain ⟨i, hi, e⟩ := List.mem_iff_getElem.1 hy
        exact h5 i (by omega) y (by rw [List.getElem?_eq_getElem hi, e])
    · exact .inr h

set_option maxHeartbeats 1000000 in
set_option maxRecDepth 100000 in
theorem mark_any (bo be bm g b B n : Nat) (ed : Nat → List Nat) (R : Nat → Nat → Prop) (hR0 : ∀ m, R m m) (hRs : ∀ m x y, x ∈ ed m → R x y → R m y) (hed : ∀ m, m < n → ∀ x ∈ ed m, x < n) (hel : ∀ m, (ed m).length < 1000) (hn : n < 1000) :
    ∀ (k : Nat) (V : List Bool) (m : Nat) (w : World), V.count false < k → m < n → Marks w bo be bm g b B n ed V →
      Calls Try.prog 85 #[.int .i64 m, .pointer (some ⟨bo, 0, none⟩), .pointer (some ⟨be, 0, none⟩), .pointer (some ⟨bm, 0, none⟩)] w fun e w' =>
        e = .returned (.tuple #[]) ∧ ∃ V', MarkPost ed (R m) V V' m ∧ Marks w' bo be bm g b B n ed V' ∧ w.grownBy w' (some g) := by
  intro k
  induction k with
  | zero => intro V m w hc; omega
  | succ k ih =>
    intro V m w hc hm hM
    have hmV : m < V.length := by rw [hM.len]; exact hm
    have d0 : w.cell? ⟨bo, 0, none⟩ = some (.slice (some ⟨g, 0, none⟩) n n) := hM.co.cell 0
    have dg := hM.at_ hmV
    have fg : w.frozen? ⟨g, m, none⟩ = false := hM.row.free m
    have hlo : (0 : Int) ≤ (m : Int) := by omega
    have hhi : (m : Int) < (n : Int) := by omega
    rcases hv : V[m] with _ | _
    · rw [hv] at dg
      go_enter Try.func85, Try.ntmps85
      go_upto_region 2 with (fail)
      have hV1 : V[m]? = some false := by rw [List.getElem?_eq_getElem hmV, hv]
      have hM1 := hM.set m
      have hg1 := grownBy_setCell w ⟨g, m, none⟩ (.bool true)
      refine world_gen (fun W => Marks W bo be bm g b B n ed (V.set m true) ∧ w.grownBy W (some g)) ⟨hM1, hg1⟩ ?_
      clear hM1 hg1 d0 dg fg
      rintro W ⟨hM1, hg1⟩
      have hce : W.cell? ⟨be, 0, none⟩ = some (.map (some b)) := hM1.ce.cell 0
      have hM1' := Lib.hid hM1
      obtain ⟨N, D, hown, hN, hsh, hD⟩ := hM1.grp
      have HD := Lib.hid hD
      clear hM1 hD
      go_wp2_with (at_lookup; refine wpList_lookup_groups_shuns _ rfl _ _ 150 rfl 3 40 3 .i64 law3 Try.underlying150 (zero32 _) (b + 1) b N D rfl hown (by unfold maxLen; omega) _ _ rfl (keyOf_int_mk Try.underlying3 (WalkArith.wf_i64 (by omega))) ?_; intro v zs hat hoi hzl hback hsv; obtain ⟨A, c, rfl, hsl⟩ := edge_look HD.out hm hat hoi (hsv _ hsh); clear hat hoi hzl hback hsv)
      have hc1 : (V.set m true).count false < k := by have := count_set hV1; omega
      clear hce hown hN hsh HD hM hlo hhi hc
      go_loopw [18] (fun x wr => ∃ j : Nat, j ≤ (ed m).length ∧ x = .int .i64 j ∧ ∃ Vj, MarkMid ed (R m) (V.set m true) Vj m j ∧ Marks wr bo be bm g b B n ed Vj ∧ W.grownBy wr (some g)) (fun x _ => (ed m).length - (intOf x).toNat)
      case atStart => exact ⟨0, by omega, rfl, _, ⟨rfl, fun x hx => hx, fun x hx => .inl hx, fun x hx => .inl hx, fun i hi => by omega⟩, hM1'.out, rfl, rfl, rfl, Nat.le_refl _, fun _ _ _ => rfl⟩
      case round =>
        obtain ⟨j, hj, rfl, Vj, hmid, hMj, hgj⟩ := hrel
        have hlen := hel m
        by_cases hjl : (j : Int) < ((ed m).length : Int)
        · have hjn : j < (ed m).length := by omega
          have hsl' : SlAt vN (· < B) wr A (ed m) := Reads.keep hsl hgj.size fun b hb hl => hgj.block b hl (by have := hMj.le; intro e; injection e; omega)
          obtain ⟨bl, ol, rfl, hGb, hbl, hcell0⟩ := hsl'.at_ hjn
          obtain ⟨y, hy⟩ : ∃ y, y = (ed m)[j] := ⟨_, rfl⟩
          have hcell : wr.cell? ⟨bl, ol + j, none⟩ = some (.int .i64 y) := by rw [hy]; exact hcell0
          clear hcell0
          have hye : (ed m)[j]? = some y := by rw [hy]; exact List.getElem?_eq_getElem hjn
          have hym : y ∈ ed m := by rw [hy]; exact List.getElem_mem hjn
          have hcm : wr.cell? ⟨bm, 0, none⟩ = some (.func (.func 85) #[] #[.pointer (some ⟨bo, 0, none⟩), .pointer (some ⟨be, 0, none⟩), .pointer (some ⟨bm, 0, none⟩)]) := hMj.cm.cell 0
          have hcj : Vj.count false < k := Nat.lt_of_le_of_lt (count_le hmid.1 hmid.2.1) hc1
          have hih := ih Vj y wr hcj (hed m hm y hym) hMj
          have HY := Lib.hid hy
          have HM := Lib.hid hMj
          clear hy hMj
          go_wp2_with (go_at_call 85; refine hih.mono ?_; rintro e w2 ⟨rfl, V2, hp2, hM2, hg2⟩)
          go_roundw
          case rel => exact ⟨j + 1, by omega, by go_num, V2, hmid.step hye hp2 (fun x hx => hRs m y x hym hx), hM2, hgj.trans hg2⟩
          case measure => simp [intOf]; omega
        · obtain rfl : j = (ed m).length := by omega
          go_wp2
          go_end0
          exact ⟨rfl, Vj, hmid.post hV1 (Nat.le_refl _) (hR0 m), hMj, hg1.trans hgj⟩
    · rw [hv] at dg
      have hM' := Lib.hid hM
      clear hM
      go_enter Try.func85, Try.ntmps85
      go_wp2
      refine bodyPost_ret (v := .tuple #[]) (by simp [results, Try.results85, go_sem]) rfl ?_
      exact ⟨rfl, V, ⟨rfl, fun x hx => hx, by rw [List.getElem?_eq_getElem hmV, hv], fun x hx => .inl hx, fun x hx => .inl hx⟩, hM'.out, rfl, rfl, rfl, Nat.le_refl _, fun _ _ _ => rfl⟩
end Go.Proofs.Ythcnnadggffjhaa
namespace Go.Proofs.Ythcnnadggffjhaa
open Go.RowKit Go.Maps Go.WideElems Go.ChangeShapes

/-- y can be reached from x along the edges -/
inductive Reach (ed : Nat → List Nat) : Nat → Nat → Prop
  | refl (m : Nat) : Reach ed m m
  | step {m x y : Nat} : x ∈ ed m → Reach ed x y → Reach ed m y
/-- the edges that a list of rules gives -/
def edgesOf (sel : Rule → Nat × Nat) (rs : List Rule) (m : Nat) : List Nat := (rs.filter fun r => decide ((sel r).1 = m)).map fun r => (sel r).2
theorem edgesOf_snoc (sel : Rule → Nat × Nat) (rs : List Rule) (r : Rule) (m : Nat) : edgesOf sel (rs ++ [r]) m = if m = (sel r).1 then edgesOf sel rs m ++ [(sel r).2] else edgesOf sel rs m := by
  unfold edgesOf
  rw [List.filter_append, List.map_append]
  split
  · rename_i h; simp [h]
  · rename_i h; simp [show ¬ (sel r).1 = m from fun e => h e.symm]

def edat (l : List Nat) : DataW Unit := if l = [] then .nil else .slice (lits .i64 (l.map Int.ofNat)) []
/-- while the edges are gathered -/
def Gather (w : World) (b k : Nat) (ed : Nat → List Nat) : Prop :=
  ∃ D : DataW Unit, w.ownsGroups Try.prog 3 (b + 1) 3 .i64 b k D ∧ IsMap D ∧ ∀ m : Nat, D.atKey (.int .i64 m) .nil = edat (ed m)
theorem grownBy_below {w w' : World} (hb : Below w.heap.size w w') : w.grownBy w' none := ⟨hb.os, hb.tape, hb.output, hb.size, fun k hk _ => hb.block k hk⟩
theorem Gather.below {w w' : World} {b k : Nat} {ed : Nat → List Nat} (h : Gather w b k ed) (hb : Below w.heap.size w w') : Gather w' b k ed := by
  obtain ⟨D, h1, h2, h3⟩ := h
  refine ⟨D, h1.kept (grownBy_below hb) (by simp) fun es c _ x _ => ?_, h2, h3⟩
  cases x.val.ownBlock <;> simp
theorem Gather.start (w : World) : Gather (w.alloc (.map #[] 0)) w.heap.size 0 (fun _ => []) := ⟨.map [], World.ownsGroups_made _ _ _ _ _, isMap_empty, fun m => rfl⟩

theorem list_key (m : Nat) : WideAt.IsKeyLit (.int .i64 (m : Int)) := trivial

/-- the edges are all gathered: nothing more is laid into the map -/
theorem Gather.done {w : World} {b k n : Nat} {ed : Nat → List Nat} (h : Gather w b k ed) (hk : k < 1000) : EdgeMap w b w.heap.size n ed := by
  obtain ⟨D, h1, h2, h3⟩ := h
  have h0 : w.Shuns b (fun _ => False) := fun _ _ _ _ _ _ _ h => h
  exact ⟨k, D, h1, hk, h0.reno h1 fun g hg => .inr hg, fun m _ => h3 m⟩
theorem EdgeMap.below {w w' : World} {b B n : Nat} {ed : Nat → List Nat} (h : EdgeMap w b B n ed) (hb : Below w.heap.size w w') : EdgeMap w' b B n ed := by
  obtain ⟨N, D, h1, h2, h3, h4⟩ := h
  obtain ⟨es, clock, hm, _⟩ := id h1
  have hlt : b < w.heap.size := (Array.getElem?_eq_some_iff.1 hm).1
  refine ⟨N, D, h1.kept (grownBy_below hb) (by simp) (fun es c _ x _ => ?_), h2, h3.kept (grownBy_below hb) hlt (by simp), h4⟩
  cases x.val.ownBlock <;> simp

/-- while the modes are marked: V behind j of them -/
def SpreadMid (ed : Nat → List Nat) (from_ : List Nat) (n : Nat) (V : List Bool) (j : Nat) : Prop :=
  V.length = n ∧ (∀ x : Nat, V[x]? = some true → ∃ s ∈ from_, Reach ed s x) ∧ (∀ x : Nat, V[x]? = some true → ∀ y ∈ ed x, V[y]? = some true) ∧ ∀ i, i < j → ∀ y, from_[i]? = some y → V[y]? = some true
theorem SpreadMid.start (ed : Nat → List Nat) (from_ : List Nat) (n : Nat) : SpreadMid ed from_ n (List.replicate n false) 0 := by
  have h : ∀ x : Nat, (List.replicate n false)[x]? = some true → False := by
    intro x hx
    rw [List.getElem?_replicate] at hx
    split at hx <;> simp at hx
  exact ⟨by simp, fun x hx => (h x hx).elim, fun x hx => (h x hx).elim, fun i hi => by omega⟩
theorem SpreadMid.step {ed : Nat → List Nat} {from_ : List Nat} {n : Nat} {V V2 : List Bool} {j y : Nat} (h : SpreadMid ed from_ n V j) (hy : from_[j]? = some y) (hp : MarkPost ed (Reach ed y) V V2 y) : SpreadMid ed from_ n V2 (j + 1) := by
  obtain ⟨h1, h2, h3, h4⟩ := h
  obtain ⟨p1, p2, p3, p4, p5⟩ := hp
  refine ⟨p1.trans h1, fun x hx => ?_, fun x hx => ?_, fun i hi z hz => ?_⟩
  · rcases p4 x hx with h | h
    · exact h2 x h
    · exact ⟨y, List.mem_of_getElem? hy, h⟩
  · rcases p5 x hx with h | h
    · exact fun z hz => p2 z (h3 x h z hz)
    · exact h
  · rcases Nat.lt_or_ge i j with hlt | hge
    · exact p2 z (h4 i hlt z hz)
    · obtain rfl : i = j := by omega
      rw [hy] at hz
      injection hz with hz
      rw [← hz]
      exact p3
theorem reach_marked {ed : Nat → List Nat} {V : List Bool} (hc : ∀ x : Nat, V[x]? = some true → ∀ y ∈ ed x, V[y]? = some true) {s x : Nat} (h : Reach ed s x) : V[s]? = some true → V[x]? = some true := by
  induction h with
  | refl m => exact id
  | step hx _ ih => exact fun hs => ih (hc _ hs _ hx)
theorem SpreadMid.done {ed : Nat → List Nat} {from_ : List Nat} {n : Nat} {V : List Bool} {j : Nat} (h : SpreadMid ed from_ n V j) (hj : from_.length ≤ j) : V.length = n ∧ ∀ x : Nat, V[x]? = some true ↔ ∃ s ∈ from_, Reach ed s x := by
  obtain ⟨h1, h2, h3, h4⟩ := h
  refine ⟨h1, fun x => ⟨h2 x, ?_⟩⟩
  rintro ⟨s, hs, hr⟩
  obtain ⟨i, hi, e⟩ := List.mem_iff_getElem.1 hs
  exact reach_marked h3 hr (h4 i (by omega) s (by rw [List.getElem?_eq_getElem hi, e]))

/-- a row of bools as a result -/
def BoolsRes (n : Nat) (P : Nat → Prop) (w : World) (e : Ending) (w' : World) : Prop :=
  ∃ g V, e = .returned (.slice (some ⟨g, 0, none⟩) n n) ∧ Below w.heap.size w w' ∧ w.heap.size ≤ g ∧ Blk w' g 4 ((V : List Bool).map vB).toArray ∧ V.length = n ∧ ∀ x : Nat, V[x]? = some true ↔ P x

section
variable {P : Program}
theorem step_lookup_groups {H : Type} {ops : Array Oper} {o : Oper} {a : Act} {w : World} {K : Act → World → Prop} {Q : Exit → Act → World → Prop} {E0 : Prop}
    (hg : o.guard = none) (m x : Operand) (t : TypeId) (hop : o.op = Op.lookup t m x false)
    (k E e : TypeId) (q : IntKind) (Ky : Keyed P k) (ht : P.underlying t = some (.map k E)) (hz : (zeroValue E).run P w = .ok (.slice none 0 0) w) (base b n : Nat) (D : DataW H)
    (hm : a.eval m = .map (some b)) (hown : w.ownsGroups P k base e q b n D) (hn : n < maxLen) (key : Value) (kl : Lit) (hx : a.eval x = key) (hkey : keyOf P k key = some kl)
    (hK : ∀ v zs, D.atKey kl .nil = rowDatum q v zs → w.ownsInts base e q v zs → zs.length ≤ n → w.groupBack P t k base e q b n D key kl v → K (a.put o.dst v) w) :
    if Region.wanted o (yielded ops a.tmps) = true then Oper.wp P o a w K Q else E0 := by
  have hw : Region.wanted o (yielded ops a.tmps) = true := by simp [Region.wanted, hg]
  rw [if_pos hw]
  obtain ⟨v, zs, hrun, hat, hoi, hzl, hback⟩ := hown.at Ky ht hz hn hkey
  unfold Oper.wp
  simp [execOp, hop, hm, hx, hrun, Result.andThen]
  exact hK v zs hat hoi hzl hback
theorem step_mapUpdate_back {H : Type} {ops : Array Oper} {o : Oper} {a : Act} {w : World} {K : Act → World → Prop} {Q : Exit → Act → World → Prop} {E0 : Prop}
    (hg : o.guard = none) (m x v : Operand) (t : TypeId) (hop : o.op = Op.mapUpdate t m x v)
    {w0 : World} {k : TypeId} {base : Nat} {e : TypeId} {q : IntKind} {b n : Nat} {D : DataW H} {key : Value} {kl : Lit} {u v' : Value} {zs' : List Int}
    (hback : w0.groupBack P t k base e q b n D key kl u) (hm : a.eval m = .map (some b)) (hx : a.eval x = key) (hv : a.eval v = v')
    (hgr : w0.grownBy w u.ownBlock) (hown' : w.ownsInts base e q v' zs') (hl' : zs'.length ≤ n + 1) (hloc : v'.ownBlock = u.ownBlock ∨ ∃ g, v'.ownBlock = some g ∧ w0.heap.size ≤ g)
    (hK : ∀ w2, w2.ownsGroups P k base e q b (n + 1) (D.put kl (rowDatum q v' zs')) → w.grownBy w2 (some b) → K (a.put o.dst undef) w2) :
    if Region.wanted o (yielded ops a.tmps) = true then Oper.wp P o a w K Q else E0 := by
  have hw : Region.wanted o (yielded ops a.tmps) = true := by simp [Region.wanted, hg]
  rw [if_pos hw]
  obtain ⟨w2, hrun, r1, r2⟩ := hback w v' zs' hgr hown' hl' hloc
  unfold Oper.wp
  simp [execOp, hop, hm, hx, hv, hrun, Result.andThen]
  exact hK w2 r1 r2
end
end Go.Proofs.Ythcnnadggffjhaa
