/- What the search finds: all inputs of direct whole routes, with their least costs, in order; plain facts. No program is in sight here. -/
import Derived.Test.YthcnnadggffjhaaQ5
set_option linter.unusedVariables false
set_option linter.unusedSimpArgs false
namespace Go.Proofs.Ythcnnadggffjhaa
open Go.RowKit

/-- a result comes before another one -/
def lessR (a b : ByteArray × Nat) : Prop := a.2 < b.2 ∨ (a.2 = b.2 ∧ (a.1.size < b.1.size ∨ (a.1.size = b.1.size ∧ a.1.data.toList < b.1.data.toList)))
theorem sortedS_mem {l : List ByteArray} {s : ByteArray} : s ∈ sortedS l ↔ s ∈ l := by
  unfold sortedS
  simp only [List.mem_map, List.mem_mergeSort]
  constructor
  · rintro ⟨x, ⟨y, hy, rfl⟩, rfl⟩
    exact hy
  · intro h
    exact ⟨s.data.toList, ⟨s, h, rfl⟩, rfl⟩
theorem sortedS_sorted {l : List ByteArray} (hn : l.Nodup) : (sortedS l).Pairwise fun x y => x.data.toList < y.data.toList := by
  unfold sortedS
  rw [List.pairwise_map]
  have h1 := List.pairwise_mergeSort (le := fun x y : List UInt8 => decide (x ≤ y)) (fun a b c h1 h2 => by simp only [decide_eq_true_eq] at *; exact List.le_trans h1 h2) (fun a b => by simp only [Bool.or_eq_true, decide_eq_true_eq]; exact List.le_total a b) (l.map fun s => s.data.toList)
  have h2 : ((l.map fun s => s.data.toList).mergeSort fun x y => decide (x ≤ y)).Nodup := by
    refine (List.mergeSort_perm _ _).nodup_iff.2 ?_
    rw [List.nodup_iff_pairwise_ne, List.pairwise_map]
    rw [List.nodup_iff_pairwise_ne] at hn
    exact hn.imp fun h he => h (ByteArray.ext (Array.toList_inj.1 he))
  rw [List.nodup_iff_pairwise_ne] at h2
  refine (h1.and h2).imp ?_
  rintro a b ⟨h3, h4⟩
  simp only [decide_eq_true_eq] at h3
  rcases List.le_iff_lt_or_eq.1 h3 with h | h
  · exact h
  · exact absurd h h4
section
variable (acc : Nat → Bool) (rs : List Rule) (out : ByteArray)
/-- the beginnings of direct routes -/
inductive Gen : Part → Prop
  | start : Gen startP
  | step {p : Part} {r : Rule} : Gen p → r ∈ rs → childOk out p r = true → Gen (childOf p r)
/-- one beginning goes on as another one -/
inductive Desc : Part → Part → Prop
  | refl (p : Part) : Desc p p
  | step {a p : Part} {r : Rule} : r ∈ rs → childOk out a r = true → Desc (childOf a r) p → Desc a p
def FinP (p : Part) : Bool := decide (p.here.2 = out.size) && acc p.here.1 && decide (p.inp.size ≤ 40)
end
section
variable {acc : Nat → Bool} {rs : List Rule} {out : ByteArray}
theorem Desc.snoc {a p : Part} {r : Rule} (h : Desc rs out a p) (hr : r ∈ rs) (hk : childOk out p r = true) : Desc rs out a (childOf p r) := by
  induction h with
  | refl p => exact .step hr hk (.refl _)
  | step h1 h2 _ ih => exact .step h1 h2 (ih hk)
theorem Gen.desc {p : Part} (h : Gen rs out p) : Desc rs out startP p := by
  induction h with
  | start => exact .refl _
  | step _ h1 h2 ih => exact ih.snoc h1 h2
theorem Desc.key {a p : Part} (h : Desc rs out a p) : a.cost ≤ p.cost ∧ a.inp.size ≤ p.inp.size := by
  induction h with
  | refl p => exact ⟨Nat.le_refl _, Nat.le_refl _⟩
  | step _ _ _ ih =>
    simp only [childOf, ByteArray.size_append] at ih
    omega
/-- what is not known yet has a beginning in the queue -/
def Cov (acc : Nat → Bool) (rs : List Rule) (out : ByteArray) (q : List Part) (S : List ByteArray) : Prop := ∀ p, Gen rs out p → FinP acc out p = true → p.inp ∈ S ∨ ∃ p0 ∈ q, Desc rs out p0 p
theorem mem_pushRules {p x : Part} : ∀ {l : List Rule} {q : List Part}, x ∈ pushRules out p l q ↔ x ∈ q ∨ ∃ r ∈ l, childOk out p r = true ∧ x = childOf p r
  | [], q => by simp [pushRules]
  | r :: l, q => by
    show x ∈ pushRules out p l (pushIf out p q r) ↔ _
    rw [mem_pushRules]
    unfold pushIf
    by_cases h : childOk out p r = true
    · rw [if_pos h, mem_pushP]
      constructor
      · rintro ((rfl | h1) | ⟨r', h1, h2, h3⟩)
        · exact .inr ⟨r, List.mem_cons_self .., h, rfl⟩
        · exact .inl h1
        · exact .inr ⟨r', List.mem_cons_of_mem _ h1, h2, h3⟩
      · rintro (h1 | ⟨r', h1, h2, h3⟩)
        · exact .inl (.inr h1)
        · rw [List.mem_cons] at h1
          rcases h1 with rfl | h1
          · exact .inl (.inl h3)
          · exact .inr ⟨r', h1, h2, h3⟩
    · rw [if_neg h]
      constructor
      · rintro (h1 | ⟨r', h1, h2, h3⟩)
        · exact .inl h1
        · exact .inr ⟨r', List.mem_cons_of_mem _ h1, h2, h3⟩
      · rintro (h1 | ⟨r', h1, h2, h3⟩)
        · exact .inl h1
        · rw [List.mem_cons] at h1
          rcases h1 with rfl | h1
          · exact absurd h2 h
          · exact .inr ⟨r', h1, h2, h3⟩
theorem down_pushRules {p : Part} : ∀ {l : List Rule} {q : List Part}, DownP q → DownP (pushRules out p l q)
  | [], q, h => h
  | r :: l, q, h => by
    show DownP (pushRules out p l (pushIf out p q r))
    refine down_pushRules ?_
    unfold pushIf
    split
    · exact h.push
    · exact h
theorem endOk_fin {known : List ByteArray} {p : Part} : endOk acc out known p = (FinP acc out p && !memS known p.inp) := rfl
theorem Cov.step {init : List Part} {p : Part} {S : List ByteArray} (h : Cov acc rs out (init ++ [p]) S) : Cov acc rs out (pushRules out p rs init) (if endOk acc out S p then S ++ [p.inp] else S) := by
  intro x hx hf
  have hin : ∀ s, s ∈ S → s ∈ (if endOk acc out S p then S ++ [p.inp] else S) := fun s hs => by
    split
    · exact List.mem_append_left _ hs
    · exact hs
  rcases h x hx hf with h1 | ⟨p0, hp0, hd⟩
  · exact .inl (hin _ h1)
  · rw [List.mem_append, List.mem_singleton] at hp0
    rcases hp0 with hp0 | rfl
    · exact .inr ⟨p0, mem_pushRules.2 (.inl hp0), hd⟩
    · cases hd with
      | refl =>
        left
        by_cases hm : memS S x.inp = true
        · exact hin _ (memS_iff.1 hm)
        · rw [endOk_fin, hf, Bool.true_and, if_pos (by simpa using hm)]
          simp
      | step hr hk hd => exact .inr ⟨_, mem_pushRules.2 (.inr ⟨_, hr, hk, rfl⟩), hd⟩
/-- an input with its least cost -/
def MinR (acc : Nat → Bool) (rs : List Rule) (out : ByteArray) (s : ByteArray) (c : Nat) : Prop := (∃ p, Gen rs out p ∧ FinP acc out p = true ∧ p.inp = s ∧ p.cost = c) ∧ ∀ p, Gen rs out p → FinP acc out p = true → p.inp = s → c ≤ p.cost
/-- in the loop over the beginnings of one cost and one length -/
structure InnI (acc : Nat → Bool) (rs : List Rule) (out : ByteArray) (c len : Nat) (S0 : List ByteArray) (st : Seek) : Prop where
  cov : Cov acc rs out st.q st.known
  gen : ∀ x ∈ st.q, Gen rs out x
  down : DownP st.q
  low : ∀ x ∈ st.q, c < x.cost ∨ (c = x.cost ∧ len ≤ x.inp.size)
  known : st.known = S0 ++ st.ready
  nodup : st.ready.Nodup
  new : ∀ s ∈ st.ready, s ∉ S0
  mins : ∀ s ∈ st.ready, s.size = len ∧ MinR acc rs out s c
theorem inner_inv {c len : Nat} {S0 : List ByteArray} : ∀ {n : Nat} {st st' : Seek}, innerF acc rs out n c len st = some st' → InnI acc rs out c len S0 st → InnI acc rs out c len S0 st' ∧ ∀ x ∈ st'.q, c < x.cost ∨ (c = x.cost ∧ len < x.inp.size)
  | 0, _, _, h, _ => by cases h
  | n + 1, st, st', h, I => by
    unfold innerF at h
    split at h
    · rename_i hq
      injection h with h
      subst h
      rw [List.getLast?_eq_none_iff] at hq
      exact ⟨I, fun x hx => by rw [hq] at hx; cases hx⟩
    · rename_i p hq
      have hsplit : st.q = st.q.dropLast ++ [p] := by
        obtain ⟨ys, hys⟩ := List.getLast?_eq_some_iff.1 hq
        rw [hys]
        simp
      have hpm : p ∈ st.q := by rw [hsplit]; simp
      split at h
      · rename_i hc
        refine inner_inv h ?_
        have hcov := I.cov
        rw [hsplit] at hcov
        have hdn := I.down
        rw [hsplit] at hdn
        have hinit : ∀ x ∈ st.q.dropLast, x ∈ st.q := fun x hx => (List.dropLast_sublist _).subset hx
        refine ⟨hcov.step, fun x hx => ?_, down_pushRules hdn.init, fun x hx => ?_, ?_, ?_, ?_, ?_⟩
        · rcases mem_pushRules.1 hx with h1 | ⟨r, h1, h2, rfl⟩
          · exact I.gen x (hinit x h1)
          · exact .step (I.gen p hpm) h1 h2
        · rcases mem_pushRules.1 hx with h1 | ⟨r, h1, h2, rfl⟩
          · exact I.low x (hinit x h1)
          · simp only [childOf, ByteArray.size_append]
            omega
        · simp only [seekStep]
          split
          · rw [I.known, List.append_assoc]
          · exact I.known
        · simp only [seekStep]
          split
          · rename_i he
            rw [List.nodup_append]
            refine ⟨I.nodup, by simp, fun a ha b hb => ?_⟩
            rw [List.mem_singleton] at hb
            subst hb
            rintro rfl
            rw [endOk_fin] at he
            simp only [Bool.and_eq_true, Bool.not_eq_true'] at he
            have : memS st.known p.inp = true := memS_iff.2 (by rw [I.known]; exact List.mem_append_right _ ha)
            rw [this] at he
            cases he.2
          · exact I.nodup
        · intro s hs
          simp only [seekStep] at hs
          split at hs
          · rename_i he
            rw [List.mem_append, List.mem_singleton] at hs
            rcases hs with hs | rfl
            · exact I.new s hs
            · intro hs0
              rw [endOk_fin] at he
              simp only [Bool.and_eq_true, Bool.not_eq_true'] at he
              have : memS st.known p.inp = true := memS_iff.2 (by rw [I.known]; exact List.mem_append_left _ hs0)
              rw [this] at he
              cases he.2
          · exact I.new s hs
        · intro s hs
          simp only [seekStep] at hs
          split at hs
          · rename_i he
            rw [List.mem_append, List.mem_singleton] at hs
            rcases hs with hs | rfl
            · exact I.mins s hs
            · rw [endOk_fin] at he
              simp only [Bool.and_eq_true, Bool.not_eq_true'] at he
              refine ⟨hc.2, ⟨p, I.gen p hpm, he.1, rfl, hc.1⟩, fun p' hg hf hi => ?_⟩
              rcases I.cov p' hg hf with h1 | ⟨p0, h1, h2⟩
              · rw [hi] at h1
                rw [memS_iff.2 h1] at he
                cases he.2
              · have h3 := I.low p0 h1
                have h4 := h2.key
                omega
          · exact I.mins s hs
      · rename_i hc
        injection h with h
        subst h
        refine ⟨I, fun x hx => ?_⟩
        have h1 := I.low p hpm
        have h2 : ¬ (c = p.cost ∧ len = p.inp.size) := fun h => hc ⟨h.1.symm, h.2.symm⟩
        rw [hsplit, List.mem_append, List.mem_singleton] at hx
        rcases hx with hx | rfl
        · have h3 := I.down
          rw [hsplit] at h3
          have h4 := (List.pairwise_append.1 h3).2.2 x hx p (by simp)
          unfold Part.key at h4
          rw [keyI_lt] at h4
          omega
        · omega
/-- at the head of the outer loop -/
structure OutI (acc : Nat → Bool) (rs : List Rule) (out : ByteArray) (q : List Part) (S : List ByteArray) (l : List (ByteArray × Nat)) : Prop where
  cov : Cov acc rs out q S
  gen : ∀ x ∈ q, Gen rs out x
  down : DownP q
  known : ∀ s, s ∈ S ↔ ∃ e ∈ l, e.1 = s
  sorted : l.Pairwise lessR
  mins : ∀ e ∈ l, MinR acc rs out e.1 e.2
  low : ∀ e ∈ l, ∀ x ∈ q, e.2 < x.cost ∨ (e.2 = x.cost ∧ e.1.size < x.inp.size)
/-- all inputs, or those ahead of all others -/
structure Found (acc : Nat → Bool) (rs : List Rule) (out : ByteArray) (k : Nat) (l : List (ByteArray × Nat)) : Prop where
  sorted : l.Pairwise lessR
  mins : ∀ e ∈ l, MinR acc rs out e.1 e.2
  all : ∀ p, Gen rs out p → FinP acc out p = true → (∃ e ∈ l, e.1 = p.inp) ∨ (k ≤ l.length ∧ ∀ e ∈ l, lessR e (p.inp, p.cost))
theorem outer_found : ∀ {n k : Nat} {q : List Part} {S : List ByteArray} {l r : List (ByteArray × Nat)}, outerF acc rs out sortedS n k q S l = some r → OutI acc rs out q S l → Found acc rs out k r
  | 0, _, _, _, _, _, h, _ => by cases h
  | n + 1, k, q, S, l, r, h, I => by
    unfold outerF at h
    split at h
    · rename_i hq
      injection h with h
      subst h
      rw [List.getLast?_eq_none_iff] at hq
      refine ⟨I.sorted, I.mins, fun p hg hf => .inl ?_⟩
      rcases I.cov p hg hf with h1 | ⟨p0, h1, _⟩
      · exact (I.known _).1 h1
      · rw [hq] at h1; cases h1
    · rename_i now hq
      have hsplit : q = q.dropLast ++ [now] := by
        obtain ⟨ys, hys⟩ := List.getLast?_eq_some_iff.1 hq
        rw [hys]
        simp
      have hnow : now ∈ q := by rw [hsplit]; simp
      split at h
      · split at h
        · cases h
        · rename_i st hst
          have hlow : ∀ x ∈ q, now.cost < x.cost ∨ (now.cost = x.cost ∧ now.inp.size ≤ x.inp.size) := fun x hx => by
            have h3 := I.down
            rw [hsplit] at hx h3
            rw [List.mem_append, List.mem_singleton] at hx
            rcases hx with hx | rfl
            · have h4 := (List.pairwise_append.1 h3).2.2 x hx now (by simp)
              unfold Part.key at h4
              rw [keyI_lt] at h4
              omega
            · omega
          obtain ⟨J, hJ⟩ := inner_inv (S0 := S) hst ⟨I.cov, I.gen, I.down, hlow, by simp, List.nodup_nil, fun s hs => (by cases hs), fun s hs => (by cases hs)⟩
          refine outer_found h ⟨J.cov, J.gen, J.down, fun s => ?_, ?_, ?_, ?_⟩
          · rw [J.known, List.mem_append]
            constructor
            · rintro (h1 | h1)
              · obtain ⟨e, h2, h3⟩ := (I.known s).1 h1
                exact ⟨e, List.mem_append_left _ h2, h3⟩
              · exact ⟨(s, now.cost), List.mem_append_right _ (List.mem_map.2 ⟨s, sortedS_mem.2 h1, rfl⟩), rfl⟩
            · rintro ⟨e, h1, h2⟩
              rw [List.mem_append] at h1
              rcases h1 with h1 | h1
              · exact .inl ((I.known s).2 ⟨e, h1, h2⟩)
              · obtain ⟨x, h3, h4⟩ := List.mem_map.1 h1
                subst h4
                have h2 : x = s := h2
                subst h2
                exact .inr (sortedS_mem.1 h3)
          · rw [List.pairwise_append]
            refine ⟨I.sorted, ?_, fun a ha b hb => ?_⟩
            · rw [List.pairwise_map]
              refine (sortedS_sorted J.nodup).imp_of_mem fun {a b} ha hb hab => .inr ⟨rfl, .inr ⟨?_, hab⟩⟩
              show a.size = b.size
              rw [(J.mins a (sortedS_mem.1 ha)).1, (J.mins b (sortedS_mem.1 hb)).1]
            · obtain ⟨x, h3, h4⟩ := List.mem_map.1 hb
              subst h4
              have h5 := I.low a ha now hnow
              have h6 := (J.mins x (sortedS_mem.1 h3)).1
              rcases h5 with h5 | ⟨h5, h7⟩
              · exact .inl h5
              · exact .inr ⟨h5, .inl (by show a.1.size < x.size; omega)⟩
          · intro e he
            rw [List.mem_append] at he
            rcases he with he | he
            · exact I.mins e he
            · obtain ⟨x, h3, h4⟩ := List.mem_map.1 he
              subst h4
              exact (J.mins x (sortedS_mem.1 h3)).2
          · intro e he x hx
            have h1 := hJ x hx
            rw [List.mem_append] at he
            rcases he with he | he
            · have h5 := I.low e he now hnow
              omega
            · obtain ⟨y, h3, h4⟩ := List.mem_map.1 he
              subst h4
              have h6 := (J.mins y (sortedS_mem.1 h3)).1
              simp only
              omega
      · rename_i hk
        injection h with h
        subst h
        refine ⟨I.sorted, I.mins, fun p hg hf => ?_⟩
        rcases I.cov p hg hf with h1 | ⟨p0, h1, h2⟩
        · exact .inl ((I.known _).1 h1)
        · refine .inr ⟨by omega, fun e he => ?_⟩
          have h3 := I.low e he p0 h1
          have h4 := h2.key
          unfold lessR
          simp only
          omega
theorem found {n k : Nat} {r : List (ByteArray × Nat)} (h : outerF acc rs out sortedS n k [startP] [] [] = some r) : Found acc rs out k r :=
  outer_found h ⟨fun p hg _ => .inr ⟨startP, by simp, hg.desc⟩, fun x hx => by rw [List.mem_singleton] at hx; subst hx; exact .start, by simp [DownP], fun s => by simp, .nil, fun e he => (by cases he), fun e he => (by cases he)⟩
end
end Go.Proofs.Ythcnnadggffjhaa
