/- Which modes are reached and which are live: plain facts. No program is in sight here. -/
import Derived.Test.YtpidgkngefkbeaaM7
import Derived.Test.YtpidgkngefkbeaaE1
import Derived.Test.YtpidgkngefkbeaaP4
set_option linter.unusedVariables false
set_option linter.unusedSimpArgs false
namespace Go.Proofs.Ytpidgkngefkbeaa
open Go.RowKit

theorem Reach.snoc {ed : Nat → List Nat} {a b c : Nat} (h : Reach ed a b) : c ∈ ed b → Reach ed a c := by
  induction h with
  | refl m => exact fun hc => .step hc (.refl _)
  | step hx _ ih => exact fun hc => .step hx (ih hc)
theorem mem_edges {sel : Rule → Nat × Nat} {rs : List Rule} {m x : Nat} : x ∈ edgesOf sel rs m ↔ ∃ r ∈ rs, (sel r).1 = m ∧ (sel r).2 = x := by
  unfold edgesOf
  simp only [List.mem_map, List.mem_filter, decide_eq_true_eq]
  exact ⟨fun ⟨r, ⟨h1, h2⟩, h3⟩ => ⟨r, h1, h2, h3⟩, fun ⟨r, h1, h2, h3⟩ => ⟨r, ⟨h1, h2⟩, h3⟩⟩
theorem reached_rule {rs : List Rule} {r : Rule} (hr : r ∈ rs) (h : ReachedP rs r.frm) : ReachedP rs r.dst := Reach.snoc h (mem_edges.2 ⟨r, hr, rfl, rfl⟩)
theorem live_rule {ac m : Nat} {rs : List Rule} {r : Rule} (hr : r ∈ rs) (h : LiveP ac m rs r.dst) : LiveP ac m rs r.frm := by
  obtain ⟨s, h1, h2, h3⟩ := h
  exact ⟨s, h1, h2, Reach.snoc h3 (mem_edges.2 ⟨r, hr, rfl, rfl⟩)⟩
theorem reached_path {rs : List Rule} {k : Nat} : ∀ {m : Nat} {l : List Nat}, pathTo rs m l = some k → ReachedP rs m → ReachedP rs k
  | m, [], h, hm => by injection h with h; subst h; exact hm
  | m, i :: l, h, hm => by
    obtain ⟨r, h1, h2, h3⟩ := pathTo_inv h
    subst h2
    exact reached_path h3 (reached_rule (List.mem_of_getElem? h1) hm)
theorem isEnd_acc {acc : Nat → Bool} {rs : List Rule} {m c : Nat} (h : IsEnd acc rs m ⟨[], c⟩) : acc m = true := by
  unfold IsEnd endOf at h
  split at h
  · assumption
  · cases h
theorem live_end {ac m : Nat} {rs : List Rule} (hs : ∀ r ∈ rs, r.frm < m ∧ r.dst < m) : ∀ {l : List Nat} {x c : Nat}, x < m → IsEnd (accB ac) rs x ⟨l, c⟩ → LiveP ac m rs x
  | [], x, c, hx, h => ⟨x, hx, isEnd_acc h, .refl x⟩
  | i :: l, x, c, hx, h => by
    obtain ⟨r, c', h1, h2, h3, _⟩ := h.cons
    subst h2
    exact live_rule (List.mem_of_getElem? h1) (live_end hs (hs r (List.mem_of_getElem? h1)).2 h3)
theorem end_reach {acc : Nat → Bool} {rs : List Rule} {a b : Nat} (h : Reach (edgesOf selL rs) a b) : (∃ e, IsEnd acc rs a e) → ∃ e, IsEnd acc rs b e := by
  induction h with
  | refl m => exact id
  | step hx _ ih =>
    rintro ⟨e, he⟩
    obtain ⟨r, hr, h1, h2⟩ := mem_edges.1 hx
    obtain ⟨i, hi, hi2⟩ := List.getElem_of_mem hr
    subst h1 h2
    exact ih ⟨_, IsEnd.ext (i := i) (e := e) (by rw [List.getElem?_eq_getElem hi, hi2]) rfl he⟩
theorem end_live {ac m : Nat} {rs : List Rule} {x : Nat} (h : LiveP ac m rs x) : ∃ e, IsEnd (accB ac) rs x e := by
  obtain ⟨s, h1, h2, h3⟩ := h
  exact end_reach h3 ⟨_, IsEnd.nil h2⟩
theorem acc_live {ac m : Nat} {rs : List Rule} {x : Nat} (hx : x < m) (h : accB ac x = true) : LiveP ac m rs x := ⟨x, hx, h, .refl x⟩
end Go.Proofs.Ytpidgkngefkbeaa
