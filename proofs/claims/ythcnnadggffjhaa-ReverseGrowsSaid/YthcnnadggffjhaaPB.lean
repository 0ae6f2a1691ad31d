/- Which modes are reached and which are live: plain facts. No program is in sight here. Ends as routes to an accepting mode: plain facts. No program is in sight here. A scheme trimmed twice is a scheme trimmed once; rules on whole routes are kept: plain facts. No program is in sight here. The list of kept indices, walked along: plain facts for RouteTrims. No program is in sight here. A least end goes through no mode twice; ends of bounded length: plain facts for the reference's Ends. No program is in sight here. A round of the reference's Ends: the least ends of at most k + 1 rules out of those of at most k. No program is in sight here. -/
import Derived.Test.YthcnnadggffjhaaMB
import Derived.Test.YthcnnadggffjhaaPA
import Derived.Test.YthcnnadggffjhaaT1
set_option linter.unusedVariables false
set_option linter.unusedSimpArgs false
namespace Go.Proofs.Ythcnnadggffjhaa
open Go.RowKit

theorem Reach.snoc {ed : Nat → List Nat} {a b c : Nat} (h : Reach ed a b) : c ∈ ed b → Reach ed a c := by
  induction h with
  | refl m => exact fun hc => .step hc (.refl _)
  | step hx _ ih => exact fun hc => .step hx (ih hc)
theorem mem_edges {sel : Rule → Nat × Nat} {rs : List Rule} {m x : Nat} : x ∈ edgesOf sel rs m ↔ ∃ r ∈ rs, (sel r).1 = m ∧ (sel r).2 = x := by
  unfold edgesOf
  simp only [List.mem_map, List.mem_filter, decide_eq_true_eq]
  exact ⟨fun ⟨r, ⟨h1, h2⟩, h3⟩ => ⟨r, h1, h2, h3⟩, fun ⟨r, h1, h2, h3⟩ => ⟨r, ⟨h1, h2⟩, h3⟩⟩
theorem reached_rule {rs : List Rule} {r : Rule} (hr : r ∈ rs) (h : ReachedP rs r.frm) : ReachedP rs r.dst := Reach.snoc h (mem_edges.2 ⟨r, hr, rfl, rfl⟩)
theorem live_rule {ac m : Nat} {rs : List Rule} {r : Rule} (hr : r ∈ rs) (h : LiveP ac m rs r.dst) : LiveP ac m rs r.frm := by
  obtain ⟨s, h1, h2, h3⟩ := h
  exact ⟨s, h1, h2, Reach.snoc h3 (mem_edges.2 ⟨r, hr, rfl, rfl⟩)⟩
theorem reached_path {rs : List Rule} {k : Nat} : ∀ {m : Nat} {l : List Nat}, pathTo rs m l = some k → ReachedP rs m → ReachedP rs k
  | m, [], h, hm => by injection h with h; subst h; exact hm
  | m, i :: l, h, hm => by
    obtain ⟨r, h1, h2, h3⟩ := pathTo_inv h
    subst h2
    exact reached_path h3 (reached_rule (List.mem_of_getElem? h1) hm)
theorem isEnd_acc {acc : Nat → Bool} {rs : List Rule} {m c : Nat} (h : IsEnd acc rs m ⟨[], c⟩) : acc m = true := by
  unfold IsEnd endOf at h
  split at h
  · assumption
  · cases h
theorem live_end {ac m : Nat} {rs : List Rule} (hs : ∀ r ∈ rs, r.frm < m ∧ r.dst < m) : ∀ {l : List Nat} {x c : Nat}, x < m → IsEnd (accB ac) rs x ⟨l, c⟩ → LiveP ac m rs x
  | [], x, c, hx, h => ⟨x, hx, isEnd_acc h, .refl x⟩
  | i :: l, x, c, hx, h => by
    obtain ⟨r, c', h1, h2, h3, _⟩ := h.cons
    subst h2
    exact live_rule (List.mem_of_getElem? h1) (live_end hs (hs r (List.mem_of_getElem? h1)).2 h3)
theorem end_reach {acc : Nat → Bool} {rs : List Rule} {a b : Nat} (h : Reach (edgesOf selL rs) a b) : (∃ e, IsEnd acc rs a e) → ∃ e, IsEnd acc rs b e := by
  induction h with
  | refl m => exact id
  | step hx _ ih =>
    rintro ⟨e, he⟩
    obtain ⟨r, hr, h1, h2⟩ := mem_edges.1 hx
    obtain ⟨i, hi, hi2⟩ := List.getElem_of_mem hr
    subst h1 h2
    exact ih ⟨_, IsEnd.ext (i := i) (e := e) (by rw [List.getElem?_eq_getElem hi, hi2]) rfl he⟩
theorem end_live {ac m : Nat} {rs : List Rule} {x : Nat} (h : LiveP ac m rs x) : ∃ e, IsEnd (accB ac) rs x e := by
  obtain ⟨s, h1, h2, h3⟩ := h
  exact end_reach h3 ⟨_, IsEnd.nil h2⟩
theorem acc_live {ac m : Nat} {rs : List Rule} {x : Nat} (hx : x < m) (h : accB ac x = true) : LiveP ac m rs x := ⟨x, hx, h, .refl x⟩
end Go.Proofs.Ythcnnadggffjhaa
namespace Go.Proofs.Ythcnnadggffjhaa
open Go.RowKit

/-- what a list of rules costs -/
def costOf (rs : List Rule) (l : List Nat) : Nat := l.foldl (fun c i => c + (rs.getD i ⟨0, 0, .empty, .empty, 0⟩).cost) 0
theorem costOf_from (rs : List Rule) : ∀ (l : List Nat) (c : Nat), l.foldl (fun c i => c + (rs.getD i ⟨0, 0, .empty, .empty, 0⟩).cost) c = c + costOf rs l
  | [], c => rfl
  | i :: l, c => by
    unfold costOf
    rw [List.foldl_cons, List.foldl_cons, costOf_from rs l, costOf_from rs l]
    omega
theorem costOf_cons {rs : List Rule} {i : Nat} {r : Rule} (h : rs[i]? = some r) (l : List Nat) : costOf rs (i :: l) = r.cost + costOf rs l := by
  unfold costOf
  rw [List.foldl_cons, costOf_from]
  simp [h, costOf]
theorem costOf_snoc {rs : List Rule} {l : List Nat} {i j : Nat} {r : Rule} (hj : l[i]? = some j) (hr : rs[j]? = some r) : costOf rs (l.take (i + 1)) = costOf rs (l.take i) + r.cost := by
  obtain ⟨h1, h2⟩ := List.getElem?_eq_some_iff.1 hj
  unfold costOf
  rw [List.take_succ_eq_append_getElem h1, List.foldl_append, h2]
  simp [hr]
theorem costOf_le {rs : List Rule} (hb : ∀ r ∈ rs, r.cost ≤ 1000) : ∀ l : List Nat, (∀ i ∈ l, i < rs.length) → costOf rs l ≤ 1000 * l.length
  | [], _ => Nat.zero_le _
  | i :: l, h => by
    have hi := h i (List.mem_cons_self ..)
    rw [costOf_cons (List.getElem?_eq_getElem hi)]
    have := hb _ (List.getElem_mem hi)
    have := costOf_le hb l fun j hj => h j (List.mem_cons_of_mem _ hj)
    simp only [List.length_cons]
    omega
theorem path_end {acc : Nat → Bool} {rs : List Rule} {q : Nat} (hq : acc q = true) : ∀ {m : Nat} {l : List Nat}, pathTo rs m l = some q → IsEnd acc rs m ⟨l, costOf rs l⟩
  | m, [], h => by
    injection h with h
    subst h
    exact IsEnd.nil hq
  | m, i :: l, h => by
    obtain ⟨r, h1, h2, h3⟩ := pathTo_inv h
    have := IsEnd.ext h1 h2 (path_end hq h3)
    rwa [EndR.ext, ← costOf_cons h1] at this
theorem end_path {acc : Nat → Bool} {rs : List Rule} : ∀ {m : Nat} {l : List Nat} {c : Nat}, IsEnd acc rs m ⟨l, c⟩ → ∃ q, pathTo rs m l = some q ∧ acc q = true ∧ c = costOf rs l
  | m, [], c, h => by
    refine ⟨m, rfl, isEnd_acc h, ?_⟩
    unfold IsEnd endOf at h
    split at h
    · injection h with h; exact h.symm
    · cases h
  | m, i :: l, c, h => by
    obtain ⟨r, c', h1, h2, h3, rfl⟩ := h.cons
    obtain ⟨q, h4, h5, rfl⟩ := end_path h3
    exact ⟨q, by rw [pathTo_cons h1 h2]; exact h4, h5, (costOf_cons h1 l).symm⟩
theorem le_ext_inv {e f : EndR} {i c : Nat} (h : (e.ext i c).le (f.ext i c)) : e.le f := by
  unfold EndR.le
  rcases hb : f.before e with _ | _
  · rfl
  · have h2 := EndR.le_ext i c (EndR.before_le hb)
    have h3 := EndR.le_antisymm h h2
    simp only [EndR.ext, EndR.mk.injEq, List.cons.injEq, true_and] at h3
    have : e = f := by
      obtain ⟨l, x⟩ := e
      obtain ⟨l', x'⟩ := f
      simp only at h3
      obtain ⟨h4, h5⟩ := h3
      have : x = x' := by omega
      rw [h4, this]
    subst this
    exact absurd hb (by have := EndR.le_refl e; unfold EndR.le at this; rw [this]; decide)
theorem least_tail {acc : Nat → Bool} {rs : List Rule} {m i c : Nat} {l : List Nat} {r : Rule} (h : Least acc rs m ⟨i :: l, c⟩) (hr : rs[i]? = some r) : r.frm = m ∧ r.cost ≤ c ∧ Least acc rs r.dst ⟨l, c - r.cost⟩ := by
  obtain ⟨r', c', h1, h2, h3, rfl⟩ := h.1.cons
  rw [hr] at h1
  injection h1 with h1
  subst h1
  refine ⟨h2, by omega, by rw [Nat.add_sub_cancel_left]; exact ⟨h3, fun f hf => le_ext_inv (i := i) (c := r.cost) (h.2 _ (IsEnd.ext hr h2 hf))⟩⟩
end Go.Proofs.Ythcnnadggffjhaa
namespace Go.Proofs.Ythcnnadggffjhaa
open Go.RowKit

/-- which rules Trim keeps -/
def Keeps (ac m : Nat) (rs : List Rule) (keep : Nat → Bool) : Prop := ∀ i (h : i < rs.length), keep i = true ↔ ReachedP rs rs[i].frm ∧ LiveP ac m rs rs[i].dst
theorem Reach.trans {ed : Nat → List Nat} {a b c : Nat} (h : Reach ed a b) : Reach ed b c → Reach ed a c := by
  induction h with
  | refl m => exact id
  | step hx _ ih => exact fun h => .step hx (ih h)
/-- what is reached from a mode that is reached, where the end is live, is reached by rules that are kept -/
theorem reach_kept {ac m : Nat} {rs ts : List Rule} (hk : ∀ r ∈ rs, ReachedP rs r.frm → LiveP ac m rs r.dst → r ∈ ts) {a b : Nat} (h : Reach (edgesOf selR rs) a b) : ReachedP rs a → LiveP ac m rs b → Reach (edgesOf selR ts) a b ∧ LiveP ac m rs a := by
  induction h with
  | refl m => exact fun _ hl => ⟨.refl m, hl⟩
  | step hx _ ih =>
    intro ha hl
    obtain ⟨r, hr, e1, e2⟩ := mem_edges.1 hx
    have e1 : r.frm = _ := e1
    have e2 : r.dst = _ := e2
    subst e1 e2
    obtain ⟨h1, h2⟩ := ih (reached_rule hr ha) hl
    exact ⟨.step (mem_edges.2 ⟨r, hk r hr ha h2, rfl, rfl⟩) h1, live_rule hr h2⟩
theorem reached_kept {ac m : Nat} {rs ts : List Rule} (hk : ∀ r ∈ rs, ReachedP rs r.frm → LiveP ac m rs r.dst → r ∈ ts) {x : Nat} (h : ReachedP rs x) (hl : LiveP ac m rs x) : ReachedP ts x := (reach_kept hk h (.refl 0) hl).1
theorem live_kept {ac m : Nat} {rs ts : List Rule} (hk : ∀ r ∈ rs, ReachedP rs r.frm → LiveP ac m rs r.dst → r ∈ ts) {s : Nat} (hs : s < m) (hacc : accB ac s = true) {x : Nat} (h : Reach (edgesOf selL rs) s x) : ReachedP rs x → LiveP ac m ts x ∧ LiveP ac m rs x := by
  have key : ∀ a b, Reach (edgesOf selL rs) a b → LiveP ac m rs a → (ReachedP rs a → LiveP ac m ts a) → LiveP ac m rs b ∧ (ReachedP rs b → LiveP ac m ts b) := by
    intro a b hab
    induction hab with
    | refl m => exact fun h1 h2 => ⟨h1, h2⟩
    | step hx _ ih =>
      intro h1 h2
      obtain ⟨r, hr, e1, e2⟩ := mem_edges.1 hx
      have e1 : r.dst = _ := e1
      have e2 : r.frm = _ := e2
      subst e1 e2
      refine ih (live_rule hr h1) fun hf => ?_
      have := h2 (reached_rule hr hf)
      exact live_rule (hk r hr hf h1) this
  intro hx
  have := key s x h ⟨s, hs, hacc, .refl s⟩ fun _ => ⟨s, hs, hacc, .refl s⟩
  exact ⟨this.2 hx, this.1⟩
theorem kept_mem {rs : List Rule} {keep : Nat → Bool} {r : Rule} : r ∈ kept keep rs rs.length ↔ ∃ i, ∃ h : i < rs.length, keep i = true ∧ rs[i] = r := by
  unfold kept idx
  simp only [List.mem_map, List.mem_filter, List.mem_range]
  constructor
  · rintro ⟨i, ⟨hi, hk⟩, rfl⟩
    exact ⟨i, hi, hk, by rw [List.getD_eq_getElem?_getD, List.getElem?_eq_getElem hi]; rfl⟩
  · rintro ⟨i, hi, hk, rfl⟩
    exact ⟨i, ⟨hi, hk⟩, by rw [List.getD_eq_getElem?_getD, List.getElem?_eq_getElem hi]; rfl⟩
/-- of a trimmed scheme all rules are kept -/
theorem again_all {ac m : Nat} {rs : List Rule} {keep keep2 : Nat → Bool} (h : Keeps ac m rs keep) (h2 : Keeps ac m (kept keep rs rs.length) keep2) : ∀ i, i < (kept keep rs rs.length).length → keep2 i = true := by
  intro i hi
  have hk : ∀ r ∈ rs, ReachedP rs r.frm → LiveP ac m rs r.dst → r ∈ kept keep rs rs.length := fun r hr h3 h4 => by
    obtain ⟨j, hj, rfl⟩ := List.getElem_of_mem hr
    exact kept_mem.2 ⟨j, hj, (h j hj).2 ⟨h3, h4⟩, rfl⟩
  obtain ⟨j, hj, hkj, he⟩ := kept_mem.1 (List.getElem_mem hi)
  obtain ⟨h3, h4⟩ := (h j hj).1 hkj
  rw [he] at h3 h4
  refine (h2 i hi).2 ⟨reached_kept hk h3 (live_rule (he ▸ List.getElem_mem hj) h4), ?_⟩
  obtain ⟨s, h5, h6, h7⟩ := h4
  exact (live_kept hk h5 h6 h7 (reached_rule (he ▸ List.getElem_mem hj) h3)).1
theorem idx_all {keep : Nat → Bool} : ∀ {n : Nat}, (∀ i, i < n → keep i = true) → idx keep n = List.range n := by
  intro n h
  unfold idx
  exact List.filter_eq_self.2 fun i hi => h i (List.mem_range.1 hi)
theorem kept_all {keep : Nat → Bool} {rs : List Rule} (h : ∀ i, i < rs.length → keep i = true) : kept keep rs rs.length = rs := by
  unfold kept
  rw [idx_all h]
  apply List.ext_getElem (by simp)
  intro i h1 h2
  simp [h2]
/-- a rule on a whole route is kept -/
theorem path_keeps {ac m : Nat} {rs : List Rule} {keep : Nat → Bool} (h : Keeps ac m rs keep) (hs : ∀ r ∈ rs, r.frm < m ∧ r.dst < m) {q : Nat} (hq : accB ac q = true) : ∀ {m0 : Nat} {l : List Nat}, m0 < m → ReachedP rs m0 → pathTo rs m0 l = some q → (∀ i ∈ l, keep i = true) ∧ LiveP ac m rs m0
  | m0, [], hm, hr, hp => by
    injection hp with hp
    subst hp
    exact ⟨fun i hi => (by cases hi), acc_live hm hq⟩
  | m0, i :: l, hm, hr, hp => by
    obtain ⟨r, h1, h2, h3⟩ := pathTo_inv hp
    have hmem := List.mem_of_getElem? h1
    subst h2
    obtain ⟨h4, h5⟩ := path_keeps h hs hq (hs r hmem).2 (reached_rule hmem hr) h3
    refine ⟨fun j hj => ?_, live_rule hmem h5⟩
    rcases List.mem_cons.1 hj with rfl | hj
    · obtain ⟨hi, he⟩ := List.getElem?_eq_some_iff.1 h1
      exact (h _ hi).2 ⟨by rw [he]; exact hr, by rw [he]; exact h5⟩
    · exact h4 j hj
end Go.Proofs.Ythcnnadggffjhaa
namespace Go.Proofs.Ythcnnadggffjhaa
open Go.RowKit

theorem idx_split (keep : Nat → Bool) (i : Nat) : ∀ n : Nat, i ≤ n → ∃ rest, idx keep n = idx keep i ++ rest ∧ (∀ j ∈ rest, i ≤ j ∧ keep j = true) ∧ (i < n → keep i = true → rest.head? = some i)
  | 0, h => by
    obtain rfl : i = 0 := by omega
    exact ⟨[], by simp, by simp, fun h => absurd h (by omega)⟩
  | n + 1, h => by
    rcases Nat.lt_or_ge n i with h1 | h1
    · obtain rfl : i = n + 1 := by omega
      exact ⟨[], by simp, by simp, fun h => absurd h (by omega)⟩
    · obtain ⟨rest, h2, h3, h4⟩ := idx_split keep i n h1
      rw [idx_succ]
      cases hk : keep n with
      | false =>
        refine ⟨rest, by simpa using h2, h3, fun h5 h6 => ?_⟩
        rcases Nat.lt_or_ge i n with h7 | h7
        · exact h4 h7 h6
        · obtain rfl : i = n := by omega
          rw [hk] at h6; cases h6
      | true =>
        refine ⟨rest ++ [n], by simp [h2], fun j hj => ?_, fun h5 h6 => ?_⟩
        · rcases List.mem_append.1 hj with hj | hj
          · exact h3 j hj
          · rw [List.mem_singleton.1 hj]; exact ⟨h1, hk⟩
        · rcases Nat.lt_or_ge i n with h7 | h7
          · rw [List.head?_append, h4 h7 h6]; rfl
          · obtain rfl : i = n := by omega
            cases rest with
            | nil => rfl
            | cons a l =>
              have h8 := h2
              have hl := congrArg List.length h8
              simp at hl
theorem idx_at {keep : Nat → Bool} {i n : Nat} (hi : i < n) (hk : keep i = true) : (idx keep n)[(idx keep i).length]? = some i := by
  obtain ⟨rest, h1, _, h3⟩ := idx_split keep i n (by omega)
  rw [h1, List.getElem?_append_right (Nat.le_refl _), Nat.sub_self, ← List.head?_eq_getElem?]
  exact h3 hi hk
theorem idx_not {keep : Nat → Bool} {i n j : Nat} (hi : i < n) (hk : keep i = false) (hj : (idx keep n)[(idx keep i).length]? = some j) : ¬ j = i := by
  obtain ⟨rest, h1, h2, _⟩ := idx_split keep i n (by omega)
  rw [h1, List.getElem?_append_right (Nat.le_refl _), Nat.sub_self] at hj
  have := (h2 j (List.mem_of_getElem? hj)).2
  rintro rfl
  rw [hk] at this; cases this
theorem idx_le {keep : Nat → Bool} {i n : Nat} (hi : i ≤ n) : (idx keep i).length ≤ (idx keep n).length := by
  obtain ⟨rest, h1, _, _⟩ := idx_split keep i n hi
  rw [h1, List.length_append]; omega
theorem kept_at {keep : Nat → Bool} {rs : List Rule} {i k : Nat} {r : Rule} (hi : (idx keep rs.length)[k]? = some i) (hr : rs[i]? = some r) : (kept keep rs rs.length)[k]? = some r := by
  unfold kept
  rw [List.getElem?_map, hi]
  simp [hr]
theorem idx_mem {keep : Nat → Bool} {i n : Nat} : i ∈ idx keep n ↔ i < n ∧ keep i = true := by simp [idx]
end Go.Proofs.Ythcnnadggffjhaa
namespace Go.Proofs.Ythcnnadggffjhaa
open Go.RowKit

theorem nodup_len : ∀ (m : Nat) (l : List Nat), l.Nodup → (∀ x ∈ l, x < m) → l.length ≤ m
  | 0, l, _, h => by
    cases l with
    | nil => exact Nat.le_refl _
    | cons a l => exact absurd (h a (List.mem_cons_self ..)) (by omega)
  | m + 1, l, hn, h => by
    have h1 : (l.erase m).length ≤ m := nodup_len m _ (hn.erase m) fun x hx => by
      have h2 := h x (List.mem_of_mem_erase hx)
      have h3 : x ≠ m := fun he => by
        subst he
        exact absurd hx (hn.not_mem_erase)
      omega
    have h2 := List.length_erase (a := m) (l := l)
    split at h2 <;> omega
/-- the modes that a list of rules goes through, the last one left out -/
def modesOf (rs : List Rule) (l : List Nat) : List Nat := l.map fun i => (rs.getD i ⟨0, 0, .empty, .empty, 0⟩).frm
theorem least_suffix {acc : Nat → Bool} {rs : List Rule} : ∀ {l : List Nat} {m c x : Nat}, Least acc rs m ⟨l, c⟩ → x ∈ modesOf rs l → ∃ l' c', Least acc rs x ⟨l', c'⟩ ∧ l'.length ≤ l.length
  | [], m, c, x, h, hx => by simp [modesOf] at hx
  | i :: l, m, c, x, h, hx => by
    obtain ⟨r, c', h1, h2, h3, h4⟩ := h.1.cons
    have hd : rs.getD i ⟨0, 0, .empty, .empty, 0⟩ = r := by rw [List.getD_eq_getElem?_getD, h1]; rfl
    simp only [modesOf, List.map_cons, List.mem_cons] at hx
    rcases hx with hx | hx
    · rw [hd, h2] at hx
      subst hx
      exact ⟨i :: l, c, h, Nat.le_refl _⟩
    · obtain ⟨_, _, h5⟩ := least_tail h h1
      obtain ⟨l', c'', h6, h7⟩ := least_suffix h5 hx
      exact ⟨l', c'', h6, by simp only [List.length_cons]; omega⟩
theorem least_nodup {acc : Nat → Bool} {rs : List Rule} : ∀ {l : List Nat} {m c : Nat}, Least acc rs m ⟨l, c⟩ → (modesOf rs l).Nodup
  | [], m, c, h => List.nodup_nil
  | i :: l, m, c, h => by
    obtain ⟨r, c', h1, h2, h3, h4⟩ := h.1.cons
    have hd : rs.getD i ⟨0, 0, .empty, .empty, 0⟩ = r := by rw [List.getD_eq_getElem?_getD, h1]; rfl
    obtain ⟨_, _, h5⟩ := least_tail h h1
    simp only [modesOf, List.map_cons, List.nodup_cons]
    refine ⟨fun hx => ?_, least_nodup h5⟩
    rw [hd, h2] at hx
    obtain ⟨l', c'', h6, h7⟩ := least_suffix h5 hx
    have := h6.unique h
    injection this with h8
    rw [h8] at h7
    simp only [List.length_cons] at h7
    omega
theorem least_short {acc : Nat → Bool} {rs : List Rule} {n m : Nat} {e : EndR} (hs : ∀ r ∈ rs, r.frm < n ∧ r.dst < n) (h : Least acc rs m e) : e.l.length ≤ n := by
  have h1 := least_nodup (l := e.l) (c := e.cost) h
  have h2 : (modesOf rs e.l).length = e.l.length := by simp [modesOf]
  rw [← h2]
  refine nodup_len n _ h1 fun x hx => ?_
  obtain ⟨i, hi, rfl⟩ := List.mem_map.1 hx
  obtain ⟨q, hp, _⟩ := end_path (l := e.l) (c := e.cost) h.1
  have hin := pathTo_in hp i hi
  rw [List.getD_eq_getElem?_getD, List.getElem?_eq_getElem hin]
  exact (hs _ (List.getElem_mem hin)).1

/-- the least among the ends of at most k rules -/
def LeastK (acc : Nat → Bool) (rs : List Rule) (k x : Nat) (o : Option EndR) : Prop :=
  match o with
  | none => ∀ f, IsEnd acc rs x f → f.l.length ≤ k → False
  | some e => IsEnd acc rs x e ∧ e.l.length ≤ k ∧ ∀ f, IsEnd acc rs x f → f.l.length ≤ k → e.le f
theorem leastK_some {acc : Nat → Bool} {rs : List Rule} {n x : Nat} {o : Option EndR} {p : EndR} (hs : ∀ r ∈ rs, r.frm < n ∧ r.dst < n) (h : LeastK acc rs n x o) (hp : Least acc rs x p) : o = some p := by
  have hl := least_short hs hp
  cases o with
  | none => exact (h p hp.1 hl).elim
  | some e => exact congrArg some (EndR.le_antisymm (h.2.2 p hp.1 hl) (hp.2 e h.1))
theorem leastK_none {acc : Nat → Bool} {rs : List Rule} {n x : Nat} {o : Option EndR} (h : LeastK acc rs n x o) (hp : ∀ p, ¬ IsEnd acc rs x p) : o = none := by
  cases o with
  | none => rfl
  | some e => exact absurd h.1 (hp e)
theorem leastK_zero (acc : Nat → Bool) (rs : List Rule) (x : Nat) : LeastK acc rs 0 x (if acc x = true then some ⟨[], 0⟩ else none) := by
  by_cases h : acc x = true
  · rw [if_pos h]
    refine ⟨IsEnd.nil h, Nat.le_refl _, fun f hf hl => ?_⟩
    obtain ⟨l, c⟩ := f
    obtain rfl : l = [] := List.eq_nil_of_length_eq_zero (by simpa using hl)
    rw [EndR.le_iff]
    rcases Nat.eq_zero_or_pos c with h0 | h0
    · exact .inr ⟨h0.symm, .inr ⟨rfl, rfl⟩⟩
    · exact .inl h0
  · rw [if_neg h]
    intro f hf hl
    obtain ⟨l, c⟩ := f
    obtain rfl : l = [] := List.eq_nil_of_length_eq_zero (by simpa using hl)
    exact h (isEnd_acc hf)
end Go.Proofs.Ythcnnadggffjhaa
namespace Go.Proofs.Ythcnnadggffjhaa
open Go.RowKit

/-- within a round: E as it stood, N the next one, i rules are done -/
structure BF (rs : List Rule) (E : Nat → Option EndR) (i : Nat) (N : Nat → Option EndR) : Prop where
  sound : ∀ x g, N x = some g → E x = some g ∨ ∃ j r e, j < i ∧ rs[j]? = some r ∧ r.frm = x ∧ E r.dst = some e ∧ g = e.ext j r.cost
  leE : ∀ x e, E x = some e → ∃ g, N x = some g ∧ g.le e
  leR : ∀ (j : Nat) r e, j < i → rs[j]? = some r → E r.dst = some e → ∃ g, N r.frm = some g ∧ g.le (e.ext j r.cost)
section
variable {acc : Nat → Bool} {rs : List Rule} {E N : Nat → Option EndR} {i k m : Nat} {r : Rule} {e g : EndR}
theorem BF.begin (rs : List Rule) (E : Nat → Option EndR) : BF rs E 0 E := ⟨fun x g h => .inl h, fun x e h => ⟨e, h, EndR.le_refl e⟩, fun j r e hj => absurd hj (by omega)⟩
theorem BF.skip (h : BF rs E i N) (hr : rs[i]? = some r) (hE : E r.dst = none) : BF rs E (i + 1) N := by
  refine ⟨fun x g hx => ?_, h.leE, fun j r' e hj hr' he => ?_⟩
  · rcases h.sound x g hx with h1 | ⟨j, r', e, h1, h2⟩
    · exact .inl h1
    · exact .inr ⟨j, r', e, by omega, h2⟩
  · rcases Nat.lt_or_ge j i with h1 | h1
    · exact h.leR j r' e h1 hr' he
    · obtain rfl : j = i := by omega
      rw [hr] at hr'
      injection hr' with hr'
      subst hr'
      rw [hE] at he; cases he
theorem BF.stay (h : BF rs E i N) (hr : rs[i]? = some r) (hE : E r.dst = some e) (hN : N r.frm = some g) (hb : EndR.before (e.ext i r.cost) g = false) : BF rs E (i + 1) N := by
  refine ⟨fun x g hx => ?_, h.leE, fun j r' e' hj hr' he => ?_⟩
  · rcases h.sound x g hx with h1 | ⟨j, r', e, h1, h2⟩
    · exact .inl h1
    · exact .inr ⟨j, r', e, by omega, h2⟩
  · rcases Nat.lt_or_ge j i with h1 | h1
    · exact h.leR j r' e' h1 hr' he
    · obtain rfl : j = i := by omega
      rw [hr] at hr'
      injection hr' with hr'
      subst hr'
      rw [hE] at he
      injection he with he
      subst he
      exact ⟨g, hN, hb⟩
theorem BF.take (h : BF rs E i N) (hr : rs[i]? = some r) (hE : E r.dst = some e) (hN : ∀ g, N r.frm = some g → EndR.before (e.ext i r.cost) g = true) : BF rs E (i + 1) (upd N r.frm (some (e.ext i r.cost))) := by
  have hle : ∀ x e', (∃ g, N x = some g ∧ g.le e') → ∃ g, upd N r.frm (some (e.ext i r.cost)) x = some g ∧ g.le e' := by
    rintro x e' ⟨g, h1, h2⟩
    by_cases hx : x = r.frm
    · subst hx
      exact ⟨_, upd_same _ _ _, EndR.le_trans (EndR.before_le (hN g h1)) h2⟩
    · exact ⟨g, by rw [upd_ne _ _ hx]; exact h1, h2⟩
  refine ⟨fun x g hx => ?_, fun x e' h1 => hle x e' (h.leE x e' h1), fun j r' e' hj hr' he => ?_⟩
  · by_cases hxr : x = r.frm
    · subst hxr
      rw [upd_same] at hx
      injection hx with hx
      exact .inr ⟨i, r, e, by omega, hr, rfl, hE, hx.symm⟩
    · rw [upd_ne _ _ hxr] at hx
      rcases h.sound x g hx with h1 | ⟨j, r', e, h1, h2⟩
      · exact .inl h1
      · exact .inr ⟨j, r', e, by omega, h2⟩
  · rcases Nat.lt_or_ge j i with h1 | h1
    · exact hle _ _ (h.leR j r' e' h1 hr' he)
    · obtain rfl : j = i := by omega
      rw [hr] at hr'
      injection hr' with hr'
      subst hr'
      rw [hE] at he
      injection he with he
      subst he
      exact ⟨_, upd_same _ _ _, EndR.le_refl _⟩
theorem BF.done (h : BF rs E i N) (hi : rs.length ≤ i) (hs : ∀ r ∈ rs, r.frm < m ∧ r.dst < m) (hE : ∀ x, x < m → LeastK acc rs k x (E x)) : ∀ x, x < m → LeastK acc rs (k + 1) x (N x) := by
  intro x hx
  -- an end of at most k + 1 rules is no less than what stands in N
  have key : ∀ f, IsEnd acc rs x f → f.l.length ≤ k + 1 → ∃ g, N x = some g ∧ g.le f := by
    rintro ⟨l, c⟩ hf hl
    cases l with
    | nil =>
      have h0 := hE x hx
      cases he : E x with
      | none => rw [he] at h0; exact (h0 _ hf (Nat.zero_le _)).elim
      | some e =>
        rw [he] at h0
        obtain ⟨g, h1, h2⟩ := h.leE x e he
        exact ⟨g, h1, EndR.le_trans h2 (h0.2.2 _ hf (Nat.zero_le _))⟩
    | cons j l =>
      obtain ⟨r, c', h1, h2, h3, rfl⟩ := hf.cons
      have hjn : j < rs.length := (List.getElem?_eq_some_iff.1 h1).1
      have h0 := hE r.dst (hs r (List.mem_of_getElem? h1)).2
      have hl' : l.length ≤ k := by simp only [List.length_cons] at hl; omega
      cases he : E r.dst with
      | none => rw [he] at h0; exact (h0 _ h3 hl').elim
      | some e =>
        rw [he] at h0
        obtain ⟨g, h4, h5⟩ := h.leR j r e (by omega) h1 he
        rw [h2] at h4
        exact ⟨g, h4, EndR.le_trans h5 (EndR.le_ext j r.cost (h0.2.2 _ h3 hl'))⟩
  cases hN : N x with
  | none =>
    intro f hf hl
    obtain ⟨g, h1, _⟩ := key f hf hl
    rw [hN] at h1; cases h1
  | some g =>
    refine ⟨?_, ?_, fun f hf hl => ?_⟩
    · rcases h.sound x g hN with h1 | ⟨j, r, e, h1, h2, h3, h4, rfl⟩
      · have h0 := hE x hx
        rw [h1] at h0
        exact h0.1
      · have h0 := hE r.dst (hs r (List.mem_of_getElem? h2)).2
        rw [h4] at h0
        exact IsEnd.ext h2 h3 h0.1
    · rcases h.sound x g hN with h1 | ⟨j, r, e, h1, h2, h3, h4, rfl⟩
      · have h0 := hE x hx
        rw [h1] at h0
        have := h0.2.1
        omega
      · have h0 := hE r.dst (hs r (List.mem_of_getElem? h2)).2
        rw [h4] at h0
        have := h0.2.1
        show (j :: e.l).length ≤ k + 1
        simp only [List.length_cons]
        omega
    · obtain ⟨g', h1, h2⟩ := key f hf hl
      rw [hN] at h1
      injection h1 with h1
      subst h1
      exact h2
end
end Go.Proofs.Ythcnnadggffjhaa
