/- A scheme trimmed twice is a scheme trimmed once; rules on whole routes are kept: plain facts. No program is in sight here. -/
import Derived.Test.YtpidgkngefkbeaaP7
import Derived.Test.YtpidgkngefkbeaaT1
set_option linter.unusedVariables false
set_option linter.unusedSimpArgs false
namespace Go.Proofs.Ytpidgkngefkbeaa
open Go.RowKit

/-- which rules Trim keeps -/
def Keeps (ac m : Nat) (rs : List Rule) (keep : Nat → Bool) : Prop := ∀ i (h : i < rs.length), keep i = true ↔ ReachedP rs rs[i].frm ∧ LiveP ac m rs rs[i].dst
theorem Reach.trans {ed : Nat → List Nat} {a b c : Nat} (h : Reach ed a b) : Reach ed b c → Reach ed a c := by
  induction h with
  | refl m => exact id
  | step hx _ ih => exact fun h => .step hx (ih h)
/-- what is reached from a mode that is reached, where the end is live, is reached by rules that are kept -/
theorem reach_kept {ac m : Nat} {rs ts : List Rule} (hk : ∀ r ∈ rs, ReachedP rs r.frm → LiveP ac m rs r.dst → r ∈ ts) {a b : Nat} (h : Reach (edgesOf selR rs) a b) : ReachedP rs a → LiveP ac m rs b → Reach (edgesOf selR ts) a b ∧ LiveP ac m rs a := by
  induction h with
  | refl m => exact fun _ hl => ⟨.refl m, hl⟩
  | step hx _ ih =>
    intro ha hl
    obtain ⟨r, hr, e1, e2⟩ := mem_edges.1 hx
    have e1 : r.frm = _ := e1
    have e2 : r.dst = _ := e2
    subst e1 e2
    obtain ⟨h1, h2⟩ := ih (reached_rule hr ha) hl
    exact ⟨.step (mem_edges.2 ⟨r, hk r hr ha h2, rfl, rfl⟩) h1, live_rule hr h2⟩
theorem reached_kept {ac m : Nat} {rs ts : List Rule} (hk : ∀ r ∈ rs, ReachedP rs r.frm → LiveP ac m rs r.dst → r ∈ ts) {x : Nat} (h : ReachedP rs x) (hl : LiveP ac m rs x) : ReachedP ts x := (reach_kept hk h (.refl 0) hl).1
theorem live_kept {ac m : Nat} {rs ts : List Rule} (hk : ∀ r ∈ rs, ReachedP rs r.frm → LiveP ac m rs r.dst → r ∈ ts) {s : Nat} (hs : s < m) (hacc : accB ac s = true) {x : Nat} (h : Reach (edgesOf selL rs) s x) : ReachedP rs x → LiveP ac m ts x ∧ LiveP ac m rs x := by
  have key : ∀ a b, Reach (edgesOf selL rs) a b → LiveP ac m rs a → (ReachedP rs a → LiveP ac m ts a) → LiveP ac m rs b ∧ (ReachedP rs b → LiveP ac m ts b) := by
    intro a b hab
    induction hab with
    | refl m => exact fun h1 h2 => ⟨h1, h2⟩
    | step hx _ ih =>
      intro h1 h2
      obtain ⟨r, hr, e1, e2⟩ := mem_edges.1 hx
      have e1 : r.dst = _ := e1
      have e2 : r.frm = _ := e2
      subst e1 e2
      refine ih (live_rule hr h1) fun hf => ?_
      have := h2 (reached_rule hr hf)
      exact live_rule (hk r hr hf h1) this
  intro hx
  have := key s x h ⟨s, hs, hacc, .refl s⟩ fun _ => ⟨s, hs, hacc, .refl s⟩
  exact ⟨this.2 hx, this.1⟩
theorem kept_mem {rs : List Rule} {keep : Nat → Bool} {r : Rule} : r ∈ kept keep rs rs.length ↔ ∃ i, ∃ h : i < rs.length, keep i = true ∧ rs[i] = r := by
  unfold kept idx
  simp only [List.mem_map, List.mem_filter, List.mem_range]
  constructor
  · rintro ⟨i, ⟨hi, hk⟩, rfl⟩
    exact ⟨i, hi, hk, by rw [List.getD_eq_getElem?_getD, List.getElem?_eq_getElem hi]; rfl⟩
  · rintro ⟨i, hi, hk, rfl⟩
    exact ⟨i, ⟨hi, hk⟩, by rw [List.getD_eq_getElem?_getD, List.getElem?_eq_getElem hi]; rfl⟩
/-- of a trimmed scheme all rules are kept -/
theorem again_all {ac m : Nat} {rs : List Rule} {keep keep2 : Nat → Bool} (h : Keeps ac m rs keep) (h2 : Keeps ac m (kept keep rs rs.length) keep2) : ∀ i, i < (kept keep rs rs.length).length → keep2 i = true := by
  intro i hi
  have hk : ∀ r ∈ rs, ReachedP rs r.frm → LiveP ac m rs r.dst → r ∈ kept keep rs rs.length := fun r hr h3 h4 => by
    obtain ⟨j, hj, rfl⟩ := List.getElem_of_mem hr
    exact kept_mem.2 ⟨j, hj, (h j hj).2 ⟨h3, h4⟩, rfl⟩
  obtain ⟨j, hj, hkj, he⟩ := kept_mem.1 (List.getElem_mem hi)
  obtain ⟨h3, h4⟩ := (h j hj).1 hkj
  rw [he] at h3 h4
  refine (h2 i hi).2 ⟨reached_kept hk h3 (live_rule (he ▸ List.getElem_mem hj) h4), ?_⟩
  obtain ⟨s, h5, h6, h7⟩ := h4
  exact (live_kept hk h5 h6 h7 (reached_rule (he ▸ List.getElem_mem hj) h3)).1
theorem idx_all {keep : Nat → Bool} : ∀ {n : Nat}, (∀ i, i < n → keep i = true) → idx keep n = List.range n := by
  intro n h
  unfold idx
  exact List.filter_eq_self.2 fun i hi => h i (List.mem_range.1 hi)
theorem kept_all {keep : Nat → Bool} {rs : List Rule} (h : ∀ i, i < rs.length → keep i = true) : kept keep rs rs.length = rs := by
  unfold kept
  rw [idx_all h]
  apply List.ext_getElem (by simp)
  intro i h1 h2
  simp [h2]
/-- a rule on a whole route is kept -/
theorem path_keeps {ac m : Nat} {rs : List Rule} {keep : Nat → Bool} (h : Keeps ac m rs keep) (hs : ∀ r ∈ rs, r.frm < m ∧ r.dst < m) {q : Nat} (hq : accB ac q = true) : ∀ {m0 : Nat} {l : List Nat}, m0 < m → ReachedP rs m0 → pathTo rs m0 l = some q → (∀ i ∈ l, keep i = true) ∧ LiveP ac m rs m0
  | m0, [], hm, hr, hp => by
    injection hp with hp
    subst hp
    exact ⟨fun i hi => (by cases hi), acc_live hm hq⟩
  | m0, i :: l, hm, hr, hp => by
    obtain ⟨r, h1, h2, h3⟩ := pathTo_inv hp
    have hmem := List.mem_of_getElem? h1
    subst h2
    obtain ⟨h4, h5⟩ := path_keeps h hs hq (hs r hmem).2 (reached_rule hmem hr) h3
    refine ⟨fun j hj => ?_, live_rule hmem h5⟩
    rcases List.mem_cons.1 hj with rfl | hj
    · obtain ⟨hi, he⟩ := List.getElem?_eq_some_iff.1 h1
      exact (h _ hi).2 ⟨by rw [he]; exact hr, by rw [he]; exact h5⟩
    · exact h4 j hj
end Go.Proofs.Ytpidgkngefkbeaa
