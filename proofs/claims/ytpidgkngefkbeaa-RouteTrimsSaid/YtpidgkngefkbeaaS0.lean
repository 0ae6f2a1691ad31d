/- What the fixed examples of layer 3 come to: plain facts. No program is in sight here. -/
import Derived.Test.YtpidgkngefkbeaaE1
import Derived.Test.YtpidgkngefkbeaaM7
import Derived.Test.YtpidgkngefkbeaaT1
set_option linter.unusedVariables false
set_option linter.unusedSimpArgs false
namespace Go.Proofs.Ytpidgkngefkbeaa
open Go.RowKit

def twoR : List Rule := [⟨0, 1, ⟨#[99]⟩, ⟨#[]⟩, 1⟩, ⟨1, 0, ⟨#[97]⟩, ⟨#[65]⟩, 1⟩, ⟨0, 0, ⟨#[98]⟩, ⟨#[98]⟩, 2⟩]
def fewR : List Rule := [⟨0, 1, ⟨#[99]⟩, ⟨#[]⟩, 1⟩, ⟨0, 0, ⟨#[98]⟩, ⟨#[98]⟩, 2⟩]

theorem acc1_0 : accB 1 0 = true := by decide
theorem acc1_1 : accB 1 1 = false := by decide
theorem nil_le (e : EndR) : EndR.le ⟨[], 0⟩ e := by
  rw [EndR.le_iff]
  rcases e with ⟨l, c⟩
  simp only
  rcases Nat.eq_zero_or_pos c with h | h
  · right
    refine ⟨h.symm, ?_⟩
    cases l with
    | nil => exact .inr ⟨rfl, rfl⟩
    | cons x l => exact .inl (by simp)
  · exact .inl h
theorem least_acc {acc : Nat → Bool} {rs : List Rule} {m : Nat} (h : acc m = true) : Least acc rs m ⟨[], 0⟩ := ⟨IsEnd.nil h, fun f _ => nil_le f⟩
theorem isEnd_nil {acc : Nat → Bool} {rs : List Rule} {m c : Nat} (h : IsEnd acc rs m ⟨[], c⟩) : acc m = true := by
  unfold IsEnd endOf at h
  split at h
  · assumption
  · cases h
theorem least_two1 : Least (accB 1) twoR 1 ⟨[1], 1⟩ := by
  refine ⟨IsEnd.ext (i := 1) (e := ⟨[], 0⟩) (r := ⟨1, 0, ⟨#[97]⟩, ⟨#[65]⟩, 1⟩) rfl rfl (IsEnd.nil acc1_0), ?_⟩
  rintro ⟨l, c⟩ h
  cases l with
  | nil => exact absurd (isEnd_nil h) (by rw [acc1_1]; decide)
  | cons i l =>
    obtain ⟨r, c', h1, h2, h3, rfl⟩ := h.cons
    match i, h1 with
    | 0, h1 => injection h1 with h1; subst h1; cases h2
    | 1, h1 => injection h1 with h1; subst h1; exact EndR.le_ext 1 1 (nil_le ⟨l, c'⟩)
    | 2, h1 => injection h1 with h1; subst h1; cases h2
    | n + 3, h1 => simp [twoR] at h1
theorem no_few1 (p : EndR) : ¬ IsEnd (accB 1) fewR 1 p := by
  rcases p with ⟨l, c⟩
  intro h
  cases l with
  | nil => exact absurd (isEnd_nil h) (by rw [acc1_1]; decide)
  | cons i l =>
    obtain ⟨r, c', h1, h2, h3, rfl⟩ := h.cons
    match i, h1 with
    | 0, h1 => injection h1 with h1; subst h1; cases h2
    | 1, h1 => injection h1 with h1; subst h1; cases h2
    | n + 2, h1 => simp [fewR] at h1

theorem reached_two0 : ReachedP twoR 0 := .refl 0
theorem reached_two1 : ReachedP twoR 1 := .step (x := 1) (by decide) (.refl 1)
theorem reached_few0 : ReachedP fewR 0 := .refl 0
theorem live_few0 : LiveP 1 2 fewR 0 := ⟨0, by decide, acc1_0, .refl 0⟩
theorem live_few1 : ¬ LiveP 1 2 fewR 1 := by
  rintro ⟨s, h1, h2, h3⟩
  have h0 : s = 0 := by
    rcases s with _ | _ | s
    · rfl
    · rw [acc1_1] at h2; cases h2
    · omega
  subst h0
  have key : ∀ a b, Reach (edgesOf selL fewR) a b → a = 0 → b = 0 := by
    intro a b h
    induction h with
    | refl m => exact id
    | step hx _ ih =>
      rintro rfl
      apply ih
      have : edgesOf selL fewR 0 = [0] := by decide
      rw [this] at hx
      simpa using hx
  have := key _ _ h3 rfl
  cases this
theorem bools_two {P : Nat → Prop} {V : List Bool} (hl : V.length = 2) (hV : ∀ x : Nat, V[x]? = some true ↔ P x) (b0 b1 : Bool) (h0 : b0 = true ↔ P 0) (h1 : b1 = true ↔ P 1) : V = [b0, b1] := by
  match V, hl with
  | [x, y], _ =>
    have e0 := hV 0
    have e1 := hV 1
    simp at e0 e1
    have : x = b0 := by rw [Bool.eq_iff_iff, e0, h0]
    have : y = b1 := by rw [Bool.eq_iff_iff, e1, h1]
    subst_vars; rfl
theorem idx_few {keep : Nat → Bool} (h : ∀ i (h : i < fewR.length), keep i = true ↔ ReachedP fewR fewR[i].frm ∧ LiveP 1 2 fewR fewR[i].dst) : idx keep fewR.length = [1] := by
  have h0 : keep 0 = false := by
    have := h 0 (by decide)
    rw [Bool.eq_false_iff]
    intro hk
    exact live_few1 (this.1 hk).2
  have h1 : keep 1 = true := (h 1 (by decide)).2 ⟨reached_few0, live_few0⟩
  show (List.range 2).filter keep = [1]
  simp [List.range_succ, List.filter_cons, h0, h1]
theorem SlAt.ints {F : Nat → Prop} {w : World} {A : Option Addr} {l : List Nat} (h : SlAt vN F w A l) : SlAt vI F w A (l.map fun n : Nat => (n : Int)) := by
  unfold SlAt at h ⊢
  rw [List.map_map]
  exact h
end Go.Proofs.Ytpidgkngefkbeaa
