/- The first list of rules between an input and a text as a plain function (reverse.pairing.from and the reference's From). No program is in sight here. -/
import Derived.Test.YthcnnadggffjhaaQ2
set_option linter.unusedVariables false
set_option linter.unusedSimpArgs false
namespace Go.Proofs.Ythcnnadggffjhaa
open Go.RowKit

/-- the better of what there is and a new way -/
def pickE : Option EndR → EndR → Option EndR
  | none, e => some e
  | some b, e => if e.before b then some e else some b
section
variable (acc : Nat → Bool) (rs : List Rule) (inp out : ByteArray)
/-- a rule goes on at a spot -/
def fitsE (m i k : Nat) (r : Rule) : Bool := decide (r.frm = m) && prefB (inp.extract i inp.size) r.inp && prefB (out.extract k out.size) r.out
/-- the way with which a spot's loop begins -/
def restE (m i k : Nat) : Option EndR := if i = inp.size ∧ k = out.size ∧ acc m = true then some ⟨[], 0⟩ else none
/-- one rule of a spot's loop; rest: the ways from behind it -/
def stepE (rest : Nat → Nat → Nat → Option EndR) (m i k : Nat) (best : Option EndR) (n : Nat) (r : Rule) : Option EndR :=
  if fitsE inp out m i k r then
    match rest r.dst (i + r.inp.size) (k + r.out.size) with
    | none => best
    | some e => pickE best (e.ext n r.cost)
  else best
/-- the loop over the first j rules -/
def loopE (rest : Nat → Nat → Nat → Option EndR) (m i k : Nat) : Nat → Option EndR
  | 0 => restE acc inp out m i k
  | j + 1 => match rs[j]? with
    | none => loopE rest m i k j
    | some r => stepE inp out rest m i k (loopE rest m i k j) j r
/-- the first way from a spot, by fuel -/
def fromF : Nat → Nat → Nat → Nat → Option EndR
  | 0, _, _, _ => none
  | f + 1, m, i, k => loopE acc rs inp out (fromF f) m i k rs.length
theorem fits_in {m i k : Nat} {r : Rule} (hi : i ≤ inp.size) (hk : k ≤ out.size) (h : fitsE inp out m i k r = true) : i + r.inp.size ≤ inp.size ∧ k + r.out.size ≤ out.size := by
  unfold fitsE prefB at h
  simp only [Bool.and_eq_true, decide_eq_true_eq, ByteArray.size_extract] at h
  obtain ⟨⟨_, h1, _⟩, h2, _⟩ := h
  omega
theorem loopE_eq {rest rest' : Nat → Nat → Nat → Option EndR} {m i k : Nat} (h : ∀ r ∈ rs, fitsE inp out m i k r = true → rest r.dst (i + r.inp.size) (k + r.out.size) = rest' r.dst (i + r.inp.size) (k + r.out.size)) :
    ∀ j, loopE acc rs inp out rest m i k j = loopE acc rs inp out rest' m i k j
  | 0 => rfl
  | j + 1 => by
    unfold loopE
    rw [loopE_eq h j]
    cases hr : rs[j]? with
    | none => rfl
    | some r =>
      simp only [stepE]
      by_cases hf : fitsE inp out m i k r = true
      · rw [h r (List.mem_of_getElem? hr) hf]
      · simp [hf]
/-- what is still to come at a spot; a rule lowers it -/
def mu (m i : Nat) : Nat := (inp.size - i) * 8 + (7 - m)
/-- a rule that takes no letter leads to a greater mode -/
def OnE (r : Rule) : Prop := r.dst < 8 ∧ (1 ≤ r.inp.size ∨ r.frm < r.dst)
theorem mu_on {m i k : Nat} {r : Rule} (hi : i ≤ inp.size) (hk : k ≤ out.size) (hr : OnE r) (h : fitsE inp out m i k r = true) : mu inp r.dst (i + r.inp.size) < mu inp m i := by
  have h1 := (fits_in inp out hi hk h).1
  obtain ⟨h2, h3⟩ := hr
  have h4 : r.frm = m := by
    unfold fitsE at h
    simp only [Bool.and_eq_true, decide_eq_true_eq] at h
    exact h.1.1
  unfold mu
  omega
/-- fuel enough is fuel enough -/
theorem fromF_fuel (h1 : ∀ r ∈ rs, OnE r) : ∀ f f' m i k, i ≤ inp.size → k ≤ out.size → mu inp m i < f → mu inp m i < f' → fromF acc rs inp out f m i k = fromF acc rs inp out f' m i k
  | 0, _, _, _, _, _, _, h, _ => by omega
  | _, 0, _, _, _, _, _, _, h => by omega
  | f + 1, f' + 1, m, i, k, hi, hk, hf, hf' => by
    unfold fromF
    refine loopE_eq acc rs inp out (fun r hr ht => ?_) _
    have hin := fits_in inp out hi hk ht
    have := mu_on inp out hi hk (h1 r hr) ht
    exact fromF_fuel h1 f f' _ _ _ hin.1 hin.2 (by omega) (by omega)
/-- the way from a spot -/
def fromE (m i k : Nat) : Option EndR := fromF acc rs inp out (mu inp m i + 1) m i k
theorem fromE_eq (h1 : ∀ r ∈ rs, OnE r) {m i k : Nat} (hi : i ≤ inp.size) (hk : k ≤ out.size) : fromE acc rs inp out m i k = loopE acc rs inp out (fromE acc rs inp out) m i k rs.length := by
  show loopE acc rs inp out (fromF acc rs inp out (mu inp m i)) m i k rs.length = _
  refine loopE_eq acc rs inp out (fun r hr ht => ?_) _
  have hin := fits_in inp out hi hk ht
  have := mu_on inp out hi hk (h1 r hr) ht
  exact fromF_fuel acc rs inp out h1 _ _ _ _ _ hin.1 hin.2 (by omega) (by omega)
/-- no list is longer than what is to come, and none dearer than a thousand for each of that -/
def SmallE (x : Nat) (o : Option EndR) : Prop := ∀ e, o = some e → e.l.length ≤ x ∧ e.cost ≤ 1000 * x ∧ ∀ n ∈ e.l, n < rs.length
theorem pick_some {o : Option EndR} {e x : EndR} (h : pickE o e = some x) : x = e ∨ o = some x := by
  cases o with
  | none => injection h with h; exact .inl h.symm
  | some b =>
    by_cases hb : e.before b = true
    · simp [pickE, hb] at h
      exact .inl h.symm
    · simp [pickE, hb] at h
      exact .inr (by rw [h])
theorem stepE_small (h1 : ∀ r ∈ rs, OnE r ∧ r.cost ≤ 1000) {rest : Nat → Nat → Nat → Option EndR} {m i k : Nat} {best : Option EndR} (hi : i ≤ inp.size) (hk : k ≤ out.size) (hb : SmallE rs (mu inp m i) best) {j : Nat} {r : Rule} (hr : rs[j]? = some r)
    (hrest : fitsE inp out m i k r = true → SmallE rs (mu inp r.dst (i + r.inp.size)) (rest r.dst (i + r.inp.size) (k + r.out.size))) : SmallE rs (mu inp m i) (stepE inp out rest m i k best j r) := by
  intro e he
  unfold stepE at he
  split at he
  · rename_i hf
    have hr1 := h1 r (List.mem_of_getElem? hr)
    have hmu := mu_on inp out hi hk hr1.1 hf
    have hj := (List.getElem?_eq_some_iff.1 hr).1
    split at he
    · exact hb e he
    · rename_i x hx
      rcases pick_some he with rfl | h
      · have h2 := hrest hf x hx
        refine ⟨?_, ?_, ?_⟩
        · simp only [EndR.ext, List.length_cons]
          omega
        · simp only [EndR.ext]
          omega
        · intro n hn
          simp only [EndR.ext, List.mem_cons] at hn
          rcases hn with rfl | hn
          · exact hj
          · exact h2.2.2 n hn
      · exact hb e h
  · exact hb e he
theorem restE_small (x m i k : Nat) : SmallE rs x (restE acc inp out m i k) := by
  intro e he
  unfold restE at he
  split at he
  · injection he with he
    subst he
    simp
  · cases he
theorem loopE_small (h1 : ∀ r ∈ rs, OnE r ∧ r.cost ≤ 1000) {rest : Nat → Nat → Nat → Option EndR} {m i k : Nat} (hi : i ≤ inp.size) (hk : k ≤ out.size)
    (hrest : ∀ r ∈ rs, fitsE inp out m i k r = true → SmallE rs (mu inp r.dst (i + r.inp.size)) (rest r.dst (i + r.inp.size) (k + r.out.size))) (j : Nat) : SmallE rs (mu inp m i) (loopE acc rs inp out rest m i k j) := by
  induction j with
  | zero => exact restE_small acc rs inp out _ m i k
  | succ j ih =>
    unfold loopE
    cases hr : rs[j]? with
    | none => exact ih
    | some r => exact stepE_small rs inp out h1 hi hk ih hr (hrest r (List.mem_of_getElem? hr))
theorem fromF_small (h1 : ∀ r ∈ rs, OnE r ∧ r.cost ≤ 1000) : ∀ f m i k, i ≤ inp.size → k ≤ out.size → SmallE rs (mu inp m i) (fromF acc rs inp out f m i k)
  | 0, _, _, _, _, _ => fun e he => by cases he
  | f + 1, m, i, k, hi, hk => by
    unfold fromF
    exact loopE_small acc rs inp out h1 hi hk (fun r _ hf => fromF_small h1 f _ _ _ (fits_in inp out hi hk hf).1 (fits_in inp out hi hk hf).2) _
theorem fromE_small (h1 : ∀ r ∈ rs, OnE r ∧ r.cost ≤ 1000) {m i k : Nat} (hi : i ≤ inp.size) (hk : k ≤ out.size) : SmallE rs (mu inp m i) (fromE acc rs inp out m i k) := fromF_small acc rs inp out h1 _ _ _ _ hi hk
theorem loopE_small' (h1 : ∀ r ∈ rs, OnE r ∧ r.cost ≤ 1000) {m i k : Nat} (hi : i ≤ inp.size) (hk : k ≤ out.size) (j : Nat) : SmallE rs (mu inp m i) (loopE acc rs inp out (fromE acc rs inp out) m i k j) :=
  loopE_small acc rs inp out h1 hi hk (fun r _ hf => fromE_small acc rs inp out h1 (fits_in inp out hi hk hf).1 (fits_in inp out hi hk hf).2) j
end
end Go.Proofs.Ythcnnadggffjhaa
