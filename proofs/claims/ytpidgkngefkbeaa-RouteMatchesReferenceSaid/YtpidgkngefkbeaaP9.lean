/- Marks that spread round by round: behind as many rounds as there are modes they are closed. No program is in sight here. -/
import Derived.Test.YtpidgkngefkbeaaPB
import Derived.Test.YtpidgkngefkbeaaMA
set_option linter.unusedVariables false
set_option linter.unusedSimpArgs false
namespace Go.Proofs.Ytpidgkngefkbeaa
open Go.RowKit

def ClosedR (sel : Rule → Nat × Nat) (rs : List Rule) (V : List Bool) : Prop := ∀ r ∈ rs, V[(sel r).1]? = some true → V[(sel r).2]? = some true
/-- k rounds are done -/
structure Rnd (sel : Rule → Nat × Nat) (rs : List Rule) (m : Nat) (V0 : List Bool) (k : Nat) (V : List Bool) : Prop where
  len : V.length = m
  sound : ∀ x : Nat, V[x]? = some true → ∃ s, V0[s]? = some true ∧ Reach (edgesOf sel rs) s x
  start : ∀ x : Nat, V0[x]? = some true → V[x]? = some true
  prog : ClosedR sel rs V ∨ V.count false + k ≤ m
/-- within a round that began with V: i rules are done -/
structure Mid (sel : Rule → Nat × Nat) (rs : List Rule) (V : List Bool) (i : Nat) (V' : List Bool) : Prop where
  len : V'.length = V.length
  sound : ∀ (Q : Nat → Prop), (∀ x : Nat, V[x]? = some true → Q x) → (∀ r ∈ rs, Q (sel r).1 → Q (sel r).2) → ∀ x : Nat, V'[x]? = some true → Q x
  mono : ∀ x : Nat, V[x]? = some true → V'[x]? = some true
  same : ClosedR sel rs V → V' = V
  eqc : V' = V → ∀ (j : Nat) r, j < i → rs[j]? = some r → V[(sel r).1]? = some true → V[(sel r).2]? = some true
  ne : V' = V ∨ V'.count false < V.count false
section
variable {sel : Rule → Nat × Nat} {rs : List Rule} {m k i : Nat} {V0 V V' : List Bool} {r : Rule}
theorem Rnd.begin (h : V.length = m) : Rnd sel rs m V 0 V := ⟨h, fun x hx => ⟨x, hx, .refl x⟩, fun x hx => hx, .inr (by have := List.count_le_length (a := false) (l := V); omega)⟩
theorem Mid.begin (sel : Rule → Nat × Nat) (rs : List Rule) (V : List Bool) : Mid sel rs V 0 V := ⟨rfl, fun Q h _ => h, fun x h => h, fun _ => rfl, fun _ j r hj => absurd hj (by omega), .inl rfl⟩
theorem Mid.no (h : Mid sel rs V i V') (hr : rs[i]? = some r) (hf : V'[(sel r).1]? = some false) : Mid sel rs V (i + 1) V' := by
  refine ⟨h.len, h.sound, h.mono, h.same, fun he j r' hj hj' hv => ?_, h.ne⟩
  rcases Nat.lt_or_ge j i with h1 | h1
  · exact h.eqc he j r' h1 hj' hv
  · obtain rfl : j = i := by omega
    rw [hr] at hj'
    injection hj' with hj'
    subst hj'
    rw [he, hv] at hf
    cases hf
theorem Mid.yes (h : Mid sel rs V i V') (hr : rs[i]? = some r) (hf : V'[(sel r).1]? = some true) (hd : (sel r).2 < V'.length) : Mid sel rs V (i + 1) (V'.set (sel r).2 true) := by
  have hmem : r ∈ rs := List.mem_of_getElem? hr
  have hmono : ∀ x : Nat, V'[x]? = some true → (V'.set (sel r).2 true)[x]? = some true := fun x hx => by
    rw [List.getElem?_set]
    split
    · rename_i he; subst he; simp [hd]
    · exact hx
  cases hb : V'[(sel r).2]? with
  | none => rw [List.getElem?_eq_none_iff] at hb; omega
  | some b =>
    cases b with
    | true =>
      have hs : V'.set (sel r).2 true = V' := by
        apply List.ext_getElem?
        intro x
        rw [List.getElem?_set]
        split
        · rename_i he; subst he; exact hb.symm
        · rfl
      rw [hs]
      refine ⟨h.len, h.sound, h.mono, h.same, fun he j r' hj hj' hv => ?_, h.ne⟩
      rcases Nat.lt_or_ge j i with h1 | h1
      · exact h.eqc he j r' h1 hj' hv
      · obtain rfl : j = i := by omega
        rw [hr] at hj'
        injection hj' with hj'
        subst hj'
        rw [← he]; exact hb
    | false =>
      have hc := count_set hb
      have hlt : (V'.set (sel r).2 true).count false < V.count false := by
        rcases h.ne with he | he
        · rw [he] at hc ⊢; omega
        · omega
      refine ⟨by rw [List.length_set]; exact h.len, fun Q h1 h2 x hx => ?_, fun x hx => hmono x (h.mono x hx), fun hcl => ?_, fun he => ?_, .inr hlt⟩
      · rw [List.getElem?_set] at hx
        split at hx
        · rename_i he
          subst he
          exact h2 r hmem (h.sound Q h1 h2 _ hf)
        · exact h.sound Q h1 h2 x hx
      · exfalso
        have he := h.same hcl
        rw [he] at hf hb
        rw [hcl r hmem hf] at hb
        cases hb
      · rw [he] at hlt; omega
theorem Mid.done (h : Mid sel rs V i V') (hi : rs.length ≤ i) (hR : Rnd sel rs m V0 k V) : Rnd sel rs m V0 (k + 1) V' := by
  refine ⟨h.len.trans hR.len, ?_, fun x hx => h.mono x (hR.start x hx), ?_⟩
  · refine h.sound _ hR.sound fun r hr ⟨s, h1, h2⟩ => ⟨s, h1, Reach.snoc h2 (mem_edges.2 ⟨r, hr, rfl, rfl⟩)⟩
  · have hcl : V' = V → ClosedR sel rs V' := fun he => by
      rw [he]
      intro r hr hv
      obtain ⟨j, hj, rfl⟩ := List.getElem_of_mem hr
      exact h.eqc he j _ (by omega) (List.getElem?_eq_getElem hj) hv
    rcases h.ne with he | he
    · exact .inl (hcl he)
    · rcases hR.prog with hp | hp
      · exact .inl (hcl (h.same hp))
      · exact .inr (by omega)
theorem Rnd.iff (h : Rnd sel rs m V0 m V) (hs : ∀ r ∈ rs, (sel r).2 < m) : ∀ x : Nat, V[x]? = some true ↔ ∃ s, V0[s]? = some true ∧ Reach (edgesOf sel rs) s x := by
  have hcl : ClosedR sel rs V := by
    rcases h.prog with hp | hp
    · exact hp
    · intro r hr _
      have h0 : V.count false = 0 := by omega
      have hd : (sel r).2 < V.length := by rw [h.len]; exact hs r hr
      rw [List.getElem?_eq_getElem hd]
      cases hb : V[(sel r).2] with
      | true => rfl
      | false =>
        have := List.count_pos_iff.2 (hb ▸ List.getElem_mem hd : false ∈ V)
        omega
  intro x
  refine ⟨h.sound x, fun ⟨s, h1, h2⟩ => ?_⟩
  have key : ∀ a b, Reach (edgesOf sel rs) a b → V[a]? = some true → V[b]? = some true := by
    intro a b hab
    induction hab with
    | refl m => exact id
    | step hx _ ih =>
      intro ha
      obtain ⟨r, hr, e1, e2⟩ := mem_edges.1 hx
      subst e1 e2
      exact ih (hcl r hr ha)
  exact key _ _ h2 (h.start s h1)
end
end Go.Proofs.Ytpidgkngefkbeaa
