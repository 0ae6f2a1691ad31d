/- The search for inputs of a text as a plain function: parts of direct routes in a queue. No program is in sight here. -/
import Derived.Test.YthcnnadggffjhaaQ1
import Derived.Test.YthcnnadggffjhaaQ0
set_option linter.unusedVariables false
set_option linter.unusedSimpArgs false
namespace Go.Proofs.Ythcnnadggffjhaa
open Go.RowKit

/-- the beginning of a direct route -/
structure Part where
  inp : ByteArray
  cost : Nat
  spots : List (Nat × Nat)
def PartV.part (v : PartV) : Part := ⟨v.inp, v.cost, v.spots⟩
def Part.key (p q : Part) : Int := keyI p.cost p.inp.size q.cost q.inp.size
def Part.here (p : Part) : Nat × Nat := p.spots.getLast?.getD (0, 0)
def childOf (p : Part) (r : Rule) : Part := ⟨p.inp ++ r.inp, p.cost + r.cost, p.spots ++ [(r.dst, p.here.2 + r.out.size)]⟩
def childOk (out : ByteArray) (p : Part) (r : Rule) : Bool := decide (r.frm = p.here.1) && prefB (out.extract p.here.2 out.size) r.out && !decide ((r.dst, p.here.2 + r.out.size) ∈ p.spots)
def placeP (p : Part) (qs : List Part) : Nat := qs.findIdx fun q => !decide (p.key q < 0)
def pushP (p : Part) (qs : List Part) : List Part := qs.take (placeP p qs) ++ p :: qs.drop (placeP p qs)
def pushIf (out : ByteArray) (p : Part) (q : List Part) (r : Rule) : List Part := if childOk out p r then pushP (childOf p r) q else q
def pushRules (out : ByteArray) (p : Part) (rs : List Rule) (q : List Part) : List Part := rs.foldl (pushIf out p) q
structure Seek where
  q : List Part
  known : List ByteArray
  ready : List ByteArray
def endOk (acc : Nat → Bool) (out : ByteArray) (known : List ByteArray) (p : Part) : Bool := decide (p.here.2 = out.size) && acc p.here.1 && decide (p.inp.size ≤ 40) && !memS known p.inp
def seekStep (acc : Nat → Bool) (rs : List Rule) (out : ByteArray) (st : Seek) (init : List Part) (p : Part) : Seek :=
  ⟨pushRules out p rs init, if endOk acc out st.known p then st.known ++ [p.inp] else st.known, if endOk acc out st.known p then st.ready ++ [p.inp] else st.ready⟩
section
variable (acc : Nat → Bool) (rs : List Rule) (out : ByteArray) (sort : List ByteArray → List ByteArray)
def innerF : Nat → Nat → Nat → Seek → Option Seek
  | 0, _, _, _ => none
  | n + 1, c, len, st =>
    match st.q.getLast? with
    | none => some st
    | some p => if p.cost = c ∧ p.inp.size = len then innerF n c len (seekStep acc rs out st st.q.dropLast p) else some st
def outerF : Nat → Nat → List Part → List ByteArray → List (ByteArray × Nat) → Option (List (ByteArray × Nat))
  | 0, _, _, _, _ => none
  | n + 1, k, q, known, l =>
    match q.getLast? with
    | none => some l
    | some now =>
      if l.length < k then
        match innerF acc rs out n now.cost now.inp.size ⟨q, known, []⟩ with
        | none => none
        | some st => outerF n k st.q st.known (l ++ (sort st.ready).map fun s => (s, now.cost))
      else some l
theorem innerF_mono {n m c len : Nat} {st st' : Seek} (h : innerF acc rs out n c len st = some st') (hm : n ≤ m) : innerF acc rs out m c len st = some st' := by
  induction n generalizing m st with
  | zero => cases h
  | succ n ih =>
    obtain ⟨m, rfl⟩ : ∃ k, m = k + 1 := ⟨m - 1, by omega⟩
    unfold innerF at h ⊢
    split at h
    · exact h
    · rename_i p hp
      split at h
      · rename_i hc
        rw [if_pos hc]
        exact ih h (by omega)
      · rename_i hc
        rw [if_neg hc]
        exact h
theorem outerF_mono {n m k : Nat} {q : List Part} {known : List ByteArray} {l r : List (ByteArray × Nat)} (h : outerF acc rs out sort n k q known l = some r) (hm : n ≤ m) : outerF acc rs out sort m k q known l = some r := by
  induction n generalizing m q known l with
  | zero => cases h
  | succ n ih =>
    obtain ⟨m, rfl⟩ : ∃ k, m = k + 1 := ⟨m - 1, by omega⟩
    unfold outerF at h ⊢
    split at h
    · exact h
    · rename_i now hn
      split at h
      · rename_i hk
        rw [if_pos hk]
        split at h
        · cases h
        · rename_i st hst
          rw [innerF_mono acc rs out hst (by omega : n ≤ m)]
          exact ih h (by omega)
      · rename_i hk
        rw [if_neg hk]
        exact h
end
/-- what every part in the queue is -/
structure PartOk (m : Nat) (out : ByteArray) (p : Part) : Prop where
  ne : p.spots ≠ []
  nodup : p.spots.Nodup
  inn : ∀ s ∈ p.spots, s.1 < m ∧ s.2 ≤ out.size
  isz : p.inp.size ≤ 4 * p.spots.length
  csz : p.cost ≤ 1000 * p.spots.length
theorem getLast_mem_of {l : List (Nat × Nat)} (h : l ≠ []) : l.getLast?.getD (0, 0) ∈ l := by
  rw [List.getLast?_eq_some_getLast h]
  exact List.getLast_mem h
theorem PartOk.here {m : Nat} {out : ByteArray} {p : Part} (h : PartOk m out p) : p.here.1 < m ∧ p.here.2 ≤ out.size := h.inn _ (getLast_mem_of h.ne)
theorem extract_size (s : ByteArray) (k : Nat) : (s.extract k s.size).size = s.size - k := by simp
theorem childOk_parts {out : ByteArray} {p : Part} {r : Rule} (h : childOk out p r = true) : r.frm = p.here.1 ∧ r.out.size ≤ out.size - p.here.2 ∧ (r.dst, p.here.2 + r.out.size) ∉ p.spots := by
  unfold childOk prefB at h
  simp only [Bool.and_eq_true, decide_eq_true_eq, Bool.not_eq_true', decide_eq_false_iff_not] at h
  obtain ⟨⟨h1, h2, _⟩, h3⟩ := h
  rw [extract_size] at h2
  exact ⟨h1, h2, h3⟩
theorem PartOk.child {m : Nat} {out : ByteArray} {p : Part} {r : Rule} (h : PartOk m out p) (hr : r.dst < m) (hi : r.inp.size ≤ 4) (hc : r.cost ≤ 1000) (hk : childOk out p r = true) : PartOk m out (childOf p r) := by
  obtain ⟨h1, h2, h3⟩ := childOk_parts hk
  have hh := h.here
  refine ⟨by simp [childOf], ?_, ?_, ?_, ?_⟩
  · show (p.spots ++ [_]).Nodup
    rw [List.nodup_append]
    refine ⟨h.nodup, by simp, ?_⟩
    intro a ha b hb
    simp only [List.mem_singleton] at hb
    subst hb
    rintro rfl
    exact h3 ha
  · intro s hs
    simp only [childOf, List.mem_append, List.mem_singleton] at hs
    rcases hs with hs | rfl
    · exact h.inn s hs
    · exact ⟨hr, by simp only; omega⟩
  · have := h.isz
    simp only [childOf, ByteArray.size_append, List.length_append, List.length_cons, List.length_nil]
    omega
  · have := h.csz
    simp only [childOf, List.length_append, List.length_cons, List.length_nil]
    omega
def DownP (qs : List Part) : Prop := qs.Pairwise fun x y => ¬ x.key y < 0
theorem placeP_le (p : Part) (qs : List Part) : placeP p qs ≤ qs.length := List.findIdx_le_length
theorem DownP.push {p : Part} {qs : List Part} (h : DownP qs) : DownP (pushP p qs) := by
  unfold DownP pushP
  rw [List.pairwise_append]
  refine ⟨h.sublist (List.take_sublist _ _), ?_, ?_⟩
  · rw [List.pairwise_cons]
    refine ⟨fun y hy => ?_, h.sublist (List.drop_sublist _ _)⟩
    obtain ⟨i, hi, rfl⟩ := List.getElem_of_mem hy
    rw [List.length_drop] at hi
    rw [List.getElem_drop]
    have hpl : placeP p qs < qs.length := by omega
    have h0 : ¬ p.key qs[placeP p qs] < 0 := by
      have := List.findIdx_getElem (p := fun q => !decide (p.key q < 0)) (xs := qs) (w := hpl)
      have h4 : (!decide (p.key qs[placeP p qs] < 0)) = true := this
      simp at h4
      omega
    rcases Nat.eq_zero_or_pos i with rfl | hi0
    · simpa using h0
    · have h1 := List.pairwise_iff_getElem.1 h (placeP p qs) (placeP p qs + i) hpl (by omega) (by omega)
      unfold Part.key at h0 h1 ⊢
      rw [keyI_lt] at h0 h1 ⊢
      omega
  · intro x hx y hy
    obtain ⟨i, hi, rfl⟩ := List.getElem_of_mem hx
    rw [List.length_take] at hi
    rw [List.getElem_take]
    have h1 := List.not_of_lt_findIdx (p := fun q => !decide (p.key q < 0)) (xs := qs) (i := i) (by show i < placeP p qs; omega)
    have h2 : p.key qs[i] < 0 := by simpa using h1
    rw [List.mem_cons] at hy
    rcases hy with rfl | hy
    · unfold Part.key at h2 ⊢
      rw [keyI_lt] at h2 ⊢
      omega
    · obtain ⟨j, hj, rfl⟩ := List.getElem_of_mem hy
      rw [List.length_drop] at hj
      rw [List.getElem_drop]
      exact List.pairwise_iff_getElem.1 h i (placeP p qs + j) (by omega) (by omega) (by omega)
theorem DownP.init {p : Part} {qs : List Part} (h : DownP (qs ++ [p])) : DownP qs := h.sublist (List.sublist_append_left _ _)
theorem mem_pushP {p x : Part} {qs : List Part} : x ∈ pushP p qs ↔ x = p ∨ x ∈ qs := by
  unfold pushP
  rw [List.mem_append, List.mem_cons]
  constructor
  · rintro (h | h | h)
    · exact .inr (List.mem_of_mem_take h)
    · exact .inl h
    · exact .inr (List.mem_of_mem_drop h)
  · rintro (h | h)
    · exact .inr (.inl h)
    · have : x ∈ qs.take (placeP p qs) ++ qs.drop (placeP p qs) := by rw [List.take_append_drop]; exact h
      rw [List.mem_append] at this
      rcases this with h1 | h1
      · exact .inl h1
      · exact .inr (.inr h1)
/-- how much is still to come -/
def weight (W B : Nat) (qs : List Part) : Nat := (qs.map fun p => W ^ (B - p.spots.length)).sum
theorem weight_append (W B : Nat) (a b : List Part) : weight W B (a ++ b) = weight W B a + weight W B b := by simp [weight]
theorem weight_push (W B : Nat) (p : Part) (qs : List Part) : weight W B (pushP p qs) = weight W B qs + W ^ (B - p.spots.length) := by
  have h : weight W B qs = weight W B (qs.take (placeP p qs)) + weight W B (qs.drop (placeP p qs)) := by
    rw [← weight_append, List.take_append_drop]
  rw [pushP, weight_append, h]
  simp only [weight, List.map_cons, List.sum_cons]
  omega
theorem weight_len {W B : Nat} (hW : 0 < W) (qs : List Part) : qs.length ≤ weight W B qs := by
  induction qs with
  | nil => exact Nat.zero_le _
  | cons p qs ih =>
    have : 0 < W ^ (B - p.spots.length) := Nat.pow_pos hW
    simp only [weight, List.map_cons, List.sum_cons, List.length_cons] at ih ⊢
    omega
theorem weight_pushIf {W B : Nat} {out : ByteArray} {p : Part} {q : List Part} {r : Rule} : weight W B (pushIf out p q r) ≤ weight W B q + W ^ (B - (p.spots.length + 1)) := by
  unfold pushIf
  split
  · rw [weight_push]
    simp [childOf]
  · omega
theorem weight_step {W B n L : Nat} (hW : L < W) (hn : n < B) : L * W ^ (B - (n + 1)) + 1 ≤ W ^ (B - n) := by
  have h1 : B - n = (B - (n + 1)) + 1 := by omega
  have h2 : 0 < W ^ (B - (n + 1)) := Nat.pow_pos (by omega)
  rw [h1, Nat.pow_succ, Nat.mul_comm (W ^ _) W]
  have h3 : (L + 1) * W ^ (B - (n + 1)) ≤ W * W ^ (B - (n + 1)) := Nat.mul_le_mul_right _ hW
  rw [Nat.add_mul] at h3
  omega
theorem place_map (p : PartV) (vs : List PartV) : placeP p.part (vs.map PartV.part) = place p vs := by
  unfold placeP place
  rw [List.findIdx_map]
  rfl
theorem push_map (p : PartV) (vs : List PartV) : (pushV p vs).map PartV.part = pushP p.part (vs.map PartV.part) := by
  unfold pushV pushP
  rw [place_map, List.map_append, List.map_take, List.map_cons, List.map_drop]
theorem down_map {vs : List PartV} (h : DownP (vs.map PartV.part)) : Down vs := by
  unfold DownP at h
  rw [List.pairwise_map] at h
  exact h
theorem nodup_lt_len : ∀ (m : Nat) (l : List Nat), l.Nodup → (∀ x ∈ l, x < m) → l.length ≤ m
  | 0, l, _, h => by
    cases l with
    | nil => exact Nat.le_refl _
    | cons a l => exact absurd (h a (List.mem_cons_self ..)) (by omega)
  | m + 1, l, hn, h => by
    have h1 : (l.erase m).length ≤ m := nodup_lt_len m _ (hn.erase m) fun x hx => by
      have h2 := h x (List.mem_of_mem_erase hx)
      have h3 : x ≠ m := fun he => by
        subst he
        exact absurd hx (hn.not_mem_erase)
      omega
    have h2 := List.length_erase (a := m) (l := l)
    split at h2 <;> omega
theorem PartOk.len {m : Nat} {out : ByteArray} {p : Part} (h : PartOk m out p) : p.spots.length ≤ m * (out.size + 1) := by
  have h1 := nodup_lt_len (m * (out.size + 1)) (p.spots.map fun s => s.1 * (out.size + 1) + s.2) ?_ ?_
  · simpa using h1
  · rw [List.nodup_iff_pairwise_ne, List.pairwise_map]
    have hp := h.nodup
    rw [List.nodup_iff_pairwise_ne] at hp
    refine hp.imp_of_mem ?_
    intro a b ha hb hab he
    have h2 := (h.inn a ha).2
    have h3 := (h.inn b hb).2
    apply hab
    have h4 : a.1 = b.1 := by
      have e1 : (a.1 * (out.size + 1) + a.2) / (out.size + 1) = a.1 := by
        rw [Nat.mul_comm, Nat.mul_add_div (by omega), Nat.div_eq_of_lt (by omega), Nat.add_zero]
      have e2 : (b.1 * (out.size + 1) + b.2) / (out.size + 1) = b.1 := by
        rw [Nat.mul_comm, Nat.mul_add_div (by omega), Nat.div_eq_of_lt (by omega), Nat.add_zero]
      rw [← e1, ← e2, he]
    have h5 : a.2 = b.2 := by rw [h4] at he; omega
    exact Prod.ext h4 h5
  · intro x hx
    rw [List.mem_map] at hx
    obtain ⟨s, hs, rfl⟩ := hx
    have h2 := h.inn s hs
    have h3 : (s.1 + 1) * (out.size + 1) ≤ m * (out.size + 1) := Nat.mul_le_mul_right _ h2.1
    rw [Nat.add_mul] at h3
    omega
theorem PartOk.pos {m : Nat} {out : ByteArray} {p : Part} (h : PartOk m out p) : 0 < p.spots.length := List.length_pos_iff.2 h.ne
end Go.Proofs.Ythcnnadggffjhaa
