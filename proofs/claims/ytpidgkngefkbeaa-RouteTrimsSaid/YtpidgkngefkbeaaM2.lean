/- The walk of route.spread: the edges are gathered in a map of slices, then each mode of a list is marked with all that it leads to. -/
import Derived.Test.YtpidgkngefkbeaaM1
import Derived.Maps.Views
import Derived.Laws.OwnMore
import Derived.Deep.OwnRows
set_option linter.unusedVariables false
set_option linter.unusedSimpArgs false
namespace Go.Proofs.Ytpidgkngefkbeaa
open Go.RowKit Go.Maps Go.WideElems Go.ChangeShapes

/-- y can be reached from x along the edges -/
inductive Reach (ed : Nat → List Nat) : Nat → Nat → Prop
  | refl (m : Nat) : Reach ed m m
  | step {m x y : Nat} : x ∈ ed m → Reach ed x y → Reach ed m y
/-- the edges that a list of rules gives -/
def edgesOf (sel : Rule → Nat × Nat) (rs : List Rule) (m : Nat) : List Nat := (rs.filter fun r => decide ((sel r).1 = m)).map fun r => (sel r).2
theorem edgesOf_snoc (sel : Rule → Nat × Nat) (rs : List Rule) (r : Rule) (m : Nat) : edgesOf sel (rs ++ [r]) m = if m = (sel r).1 then edgesOf sel rs m ++ [(sel r).2] else edgesOf sel rs m := by
  unfold edgesOf
  rw [List.filter_append, List.map_append]
  split
  · rename_i h; simp [h]
  · rename_i h; simp [show ¬ (sel r).1 = m from fun e => h e.symm]

def edat (l : List Nat) : DataW Unit := if l = [] then .nil else .slice (lits .i64 (l.map Int.ofNat)) []
/-- while the edges are gathered -/
def Gather (w : World) (b k : Nat) (ed : Nat → List Nat) : Prop :=
  ∃ D : DataW Unit, w.ownsGroups Try.prog 3 (b + 1) 3 .i64 b k D ∧ IsMap D ∧ ∀ m : Nat, D.atKey (.int .i64 m) .nil = edat (ed m)
theorem grownBy_below {w w' : World} (hb : Below w.heap.size w w') : w.grownBy w' none := ⟨hb.os, hb.tape, hb.output, hb.size, fun k hk _ => hb.block k hk⟩
theorem Gather.below {w w' : World} {b k : Nat} {ed : Nat → List Nat} (h : Gather w b k ed) (hb : Below w.heap.size w w') : Gather w' b k ed := by
  obtain ⟨D, h1, h2, h3⟩ := h
  refine ⟨D, h1.kept (grownBy_below hb) (by simp) fun es c _ x _ => ?_, h2, h3⟩
  cases x.val.ownBlock <;> simp
theorem Gather.start (w : World) : Gather (w.alloc (.map #[] 0)) w.heap.size 0 (fun _ => []) := ⟨.map [], World.ownsGroups_made _ _ _ _ _, isMap_empty, fun m => rfl⟩

theorem list_key (m : Nat) : WideAt.IsKeyLit (.int .i64 (m : Int)) := trivial

/-- the edges are all gathered: nothing more is laid into the map -/
theorem Gather.done {w : World} {b k n : Nat} {ed : Nat → List Nat} (h : Gather w b k ed) (hk : k < 1000) : EdgeMap w b w.heap.size n ed := by
  obtain ⟨D, h1, h2, h3⟩ := h
  have h0 : w.Shuns b (fun _ => False) := fun _ _ _ _ _ _ _ h => h
  exact ⟨k, D, h1, hk, h0.reno h1 fun g hg => .inr hg, fun m _ => h3 m⟩
theorem EdgeMap.below {w w' : World} {b B n : Nat} {ed : Nat → List Nat} (h : EdgeMap w b B n ed) (hb : Below w.heap.size w w') : EdgeMap w' b B n ed := by
  obtain ⟨N, D, h1, h2, h3, h4⟩ := h
  obtain ⟨es, clock, hm, _⟩ := id h1
  have hlt : b < w.heap.size := (Array.getElem?_eq_some_iff.1 hm).1
  refine ⟨N, D, h1.kept (grownBy_below hb) (by simp) (fun es c _ x _ => ?_), h2, h3.kept (grownBy_below hb) hlt (by simp), h4⟩
  cases x.val.ownBlock <;> simp

/-- while the modes are marked: V behind j of them -/
def SpreadMid (ed : Nat → List Nat) (from_ : List Nat) (n : Nat) (V : List Bool) (j : Nat) : Prop :=
  V.length = n ∧ (∀ x : Nat, V[x]? = some true → ∃ s ∈ from_, Reach ed s x) ∧ (∀ x : Nat, V[x]? = some true → ∀ y ∈ ed x, V[y]? = some true) ∧ ∀ i, i < j → ∀ y, from_[i]? = some y → V[y]? = some true
theorem SpreadMid.start (ed : Nat → List Nat) (from_ : List Nat) (n : Nat) : SpreadMid ed from_ n (List.replicate n false) 0 := by
  have h : ∀ x : Nat, (List.replicate n false)[x]? = some true → False := by
    intro x hx
    rw [List.getElem?_replicate] at hx
    split at hx <;> simp at hx
  exact ⟨by simp, fun x hx => (h x hx).elim, fun x hx => (h x hx).elim, fun i hi => by omega⟩
theorem SpreadMid.step {ed : Nat → List Nat} {from_ : List Nat} {n : Nat} {V V2 : List Bool} {j y : Nat} (h : SpreadMid ed from_ n V j) (hy : from_[j]? = some y) (hp : MarkPost ed (Reach ed y) V V2 y) : SpreadMid ed from_ n V2 (j + 1) := by
  obtain ⟨h1, h2, h3, h4⟩ := h
  obtain ⟨p1, p2, p3, p4, p5⟩ := hp
  refine ⟨p1.trans h1, fun x hx => ?_, fun x hx => ?_, fun i hi z hz => ?_⟩
  · rcases p4 x hx with h | h
    · exact h2 x h
    · exact ⟨y, List.mem_of_getElem? hy, h⟩
  · rcases p5 x hx with h | h
    · exact fun z hz => p2 z (h3 x h z hz)
    · exact h
  · rcases Nat.lt_or_ge i j with hlt | hge
    · exact p2 z (h4 i hlt z hz)
    · obtain rfl : i = j := by omega
      rw [hy] at hz
      injection hz with hz
      rw [← hz]
      exact p3
theorem reach_marked {ed : Nat → List Nat} {V : List Bool} (hc : ∀ x : Nat, V[x]? = some true → ∀ y ∈ ed x, V[y]? = some true) {s x : Nat} (h : Reach ed s x) : V[s]? = some true → V[x]? = some true := by
  induction h with
  | refl m => exact id
  | step hx _ ih => exact fun hs => ih (hc _ hs _ hx)
theorem SpreadMid.done {ed : Nat → List Nat} {from_ : List Nat} {n : Nat} {V : List Bool} {j : Nat} (h : SpreadMid ed from_ n V j) (hj : from_.length ≤ j) : V.length = n ∧ ∀ x : Nat, V[x]? = some true ↔ ∃ s ∈ from_, Reach ed s x := by
  obtain ⟨h1, h2, h3, h4⟩ := h
  refine ⟨h1, fun x => ⟨h2 x, ?_⟩⟩
  rintro ⟨s, hs, hr⟩
  obtain ⟨i, hi, e⟩ := List.mem_iff_getElem.1 hs
  exact reach_marked h3 hr (h4 i (by omega) s (by rw [List.getElem?_eq_getElem hi, e]))

/-- a row of bools as a result -/
def BoolsRes (n : Nat) (P : Nat → Prop) (w : World) (e : Ending) (w' : World) : Prop :=
  ∃ g V, e = .returned (.slice (some ⟨g, 0, none⟩) n n) ∧ Below w.heap.size w w' ∧ w.heap.size ≤ g ∧ Blk w' g 4 ((V : List Bool).map vB).toArray ∧ V.length = n ∧ ∀ x : Nat, V[x]? = some true ↔ P x

section
variable {P : Program}
theorem step_lookup_groups {H : Type} {ops : Array Oper} {o : Oper} {a : Act} {w : World} {K : Act → World → Prop} {Q : Exit → Act → World → Prop} {E0 : Prop}
    (hg : o.guard = none) (m x : Operand) (t : TypeId) (hop : o.op = Op.lookup t m x false)
    (k E e : TypeId) (q : IntKind) (Ky : Keyed P k) (ht : P.underlying t = some (.map k E)) (hz : (zeroValue E).run P w = .ok (.slice none 0 0) w) (base b n : Nat) (D : DataW H)
    (hm : a.eval m = .map (some b)) (hown : w.ownsGroups P k base e q b n D) (hn : n < maxLen) (key : Value) (kl : Lit) (hx : a.eval x = key) (hkey : keyOf P k key = some kl)
    (hK : ∀ v zs, D.atKey kl .nil = rowDatum q v zs → w.ownsInts base e q v zs → zs.length ≤ n → w.groupBack P t k base e q b n D key kl v → K (a.put o.dst v) w) :
    if Region.wanted o (yielded ops a.tmps) = true then Oper.wp P o a w K Q else E0 := by
  have hw : Region.wanted o (yielded ops a.tmps) = true := by simp [Region.wanted, hg]
  rw [if_pos hw]
  obtain ⟨v, zs, hrun, hat, hoi, hzl, hback⟩ := hown.at Ky ht hz hn hkey
  unfold Oper.wp
  simp [execOp, hop, hm, hx, hrun, Result.andThen]
  exact hK v zs hat hoi hzl hback
theorem step_mapUpdate_back {H : Type} {ops : Array Oper} {o : Oper} {a : Act} {w : World} {K : Act → World → Prop} {Q : Exit → Act → World → Prop} {E0 : Prop}
    (hg : o.guard = none) (m x v : Operand) (t : TypeId) (hop : o.op = Op.mapUpdate t m x v)
    {w0 : World} {k : TypeId} {base : Nat} {e : TypeId} {q : IntKind} {b n : Nat} {D : DataW H} {key : Value} {kl : Lit} {u v' : Value} {zs' : List Int}
    (hback : w0.groupBack P t k base e q b n D key kl u) (hm : a.eval m = .map (some b)) (hx : a.eval x = key) (hv : a.eval v = v')
    (hgr : w0.grownBy w u.ownBlock) (hown' : w.ownsInts base e q v' zs') (hl' : zs'.length ≤ n + 1) (hloc : v'.ownBlock = u.ownBlock ∨ ∃ g, v'.ownBlock = some g ∧ w0.heap.size ≤ g)
    (hK : ∀ w2, w2.ownsGroups P k base e q b (n + 1) (D.put kl (rowDatum q v' zs')) → w.grownBy w2 (some b) → K (a.put o.dst undef) w2) :
    if Region.wanted o (yielded ops a.tmps) = true then Oper.wp P o a w K Q else E0 := by
  have hw : Region.wanted o (yielded ops a.tmps) = true := by simp [Region.wanted, hg]
  rw [if_pos hw]
  obtain ⟨w2, hrun, r1, r2⟩ := hback w v' zs' hgr hown' hl' hloc
  unfold Oper.wp
  simp [execOp, hop, hm, hx, hv, hrun, Result.andThen]
  exact hK w2 r1 r2
end
end Go.Proofs.Ytpidgkngefkbeaa
