/- Ends of a scheme's modes, their order, and why taking the least open end again and again finds each mode's least end. No program is in sight here. -/
import Derived.Test.YtpidgkngefkbeaaP2
set_option linter.unusedVariables false
set_option linter.unusedSimpArgs false
namespace Go.Proofs.Ytpidgkngefkbeaa
open Go.RowKit

structure EndR where
  l : List Nat
  cost : Nat
  deriving DecidableEq
/-- one list comes before another of the same length -/
def lexB : List Nat → List Nat → Bool
  | a :: l, b :: m => decide (a < b) || (decide (a = b) && lexB l m)
  | _, _ => false
def EndR.before (e f : EndR) : Bool := if e.cost ≠ f.cost then decide (e.cost < f.cost) else if e.l.length ≠ f.l.length then decide (e.l.length < f.l.length) else lexB e.l f.l
def EndR.le (e f : EndR) : Prop := f.before e = false
def EndR.ext (i c : Nat) (e : EndR) : EndR := ⟨i :: e.l, c + e.cost⟩

theorem lexB_irrefl : ∀ l : List Nat, lexB l l = false
  | [] => rfl
  | a :: l => by simp [lexB, lexB_irrefl l]
theorem lexB_trans : ∀ {a b c : List Nat}, a.length = b.length → b.length = c.length → lexB b a = false → lexB c b = false → lexB c a = false
  | [], b, c, h1, h2, _, _ => by
    have : b = [] := List.length_eq_zero_iff.1 (by simpa using h1.symm)
    subst this
    have : c = [] := List.length_eq_zero_iff.1 (by simpa using h2.symm)
    subst this
    rfl
  | x :: a, [], c, h1, _, _, _ => by simp at h1
  | x :: a, y :: b, [], _, h2, _, _ => by simp at h2
  | x :: a, y :: b, z :: c, h1, h2, h3, h4 => by
    simp only [lexB, Bool.or_eq_false_iff, decide_eq_false_iff_not, Bool.and_eq_false_iff] at h3 h4 ⊢
    refine ⟨by omega, ?_⟩
    by_cases hzx : z = x
    · have h5 : y = x := by omega
      right
      refine lexB_trans (by simpa using h1) (by simpa using h2) ?_ ?_
      · rcases h3.2 with h | h
        · exact absurd h5 h
        · exact h
      · rcases h4.2 with h | h
        · exact absurd (by omega) h
        · exact h
    · exact .inl hzx
theorem lexB_antisymm : ∀ {a b : List Nat}, a.length = b.length → lexB a b = false → lexB b a = false → a = b
  | [], b, h, _, _ => (List.length_eq_zero_iff.1 (by simpa using h.symm)).symm
  | x :: a, [], h, _, _ => by simp at h
  | x :: a, y :: b, h, h1, h2 => by
    simp only [lexB, Bool.or_eq_false_iff, decide_eq_false_iff_not, Bool.and_eq_false_iff] at h1 h2
    have hxy : x = y := by omega
    subst hxy
    simp at h1 h2
    rw [lexB_antisymm (by simpa using h) h1 h2]

theorem EndR.le_iff {e f : EndR} : e.le f ↔ e.cost < f.cost ∨ (e.cost = f.cost ∧ (e.l.length < f.l.length ∨ (e.l.length = f.l.length ∧ lexB f.l e.l = false))) := by
  unfold EndR.le EndR.before
  by_cases h1 : f.cost = e.cost
  · by_cases h2 : f.l.length = e.l.length
    · simp only [h1, h2, ne_eq, not_true, if_false]
      constructor
      · intro h; exact .inr ⟨trivial, .inr ⟨trivial, h⟩⟩
      · rintro (h | ⟨_, h | ⟨_, h⟩⟩)
        · omega
        · omega
        · exact h
    · simp only [h1, h2, ne_eq, not_true, not_false_iff, if_false, if_true, decide_eq_false_iff_not]
      constructor
      · intro h; exact .inr ⟨trivial, .inl (by omega)⟩
      · rintro (h | ⟨_, h | ⟨h, _⟩⟩)
        · omega
        · omega
        · omega
  · simp only [h1, ne_eq, not_false_iff, if_true, decide_eq_false_iff_not]
    constructor
    · intro h; exact .inl (by omega)
    · rintro (h | ⟨h, _⟩)
      · omega
      · omega
theorem EndR.le_refl (e : EndR) : e.le e := EndR.le_iff.2 (.inr ⟨rfl, .inr ⟨rfl, lexB_irrefl _⟩⟩)
theorem EndR.le_trans {e f g : EndR} (h1 : e.le f) (h2 : f.le g) : e.le g := by
  rw [EndR.le_iff] at *
  rcases h1 with h1 | ⟨h1, h1' | ⟨h1', h1''⟩⟩ <;> rcases h2 with h2 | ⟨h2, h2' | ⟨h2', h2''⟩⟩
  · exact .inl (by omega)
  · exact .inl (by omega)
  · exact .inl (by omega)
  · exact .inl (by omega)
  · exact .inr ⟨by omega, .inl (by omega)⟩
  · exact .inr ⟨by omega, .inl (by omega)⟩
  · exact .inl (by omega)
  · exact .inr ⟨by omega, .inl (by omega)⟩
  · exact .inr ⟨by omega, .inr ⟨by omega, lexB_trans h1' h2' h1'' h2''⟩⟩
theorem EndR.le_antisymm {e f : EndR} (h1 : e.le f) (h2 : f.le e) : e = f := by
  rw [EndR.le_iff] at h1 h2
  obtain ⟨l, c⟩ := e
  obtain ⟨l', c'⟩ := f
  simp only at h1 h2
  have hc : c = c' := by omega
  have hl : l.length = l'.length := by omega
  have h3 : lexB l' l = false := by
    rcases h1 with h | ⟨_, h | ⟨_, h⟩⟩
    · omega
    · omega
    · exact h
  have h4 : lexB l l' = false := by
    rcases h2 with h | ⟨_, h | ⟨_, h⟩⟩
    · omega
    · omega
    · exact h
  rw [hc, lexB_antisymm hl h4 h3]
theorem EndR.before_le {e f : EndR} (h : e.before f = true) : e.le f := by
  have h0 : ¬ f.le e := fun h' => by unfold EndR.le at h'; rw [h] at h'; cases h'
  rw [EndR.le_iff] at h0 ⊢
  by_cases hc : e.cost = f.cost
  · by_cases hl : e.l.length = f.l.length
    · refine .inr ⟨hc, .inr ⟨hl, ?_⟩⟩
      rcases hb : lexB f.l e.l with _ | _
      · rfl
      · exfalso
        apply h0
        refine .inr ⟨hc.symm, .inr ⟨hl.symm, ?_⟩⟩
        have : ∀ a b : List Nat, lexB b a = true → lexB a b = false := by
          intro a
          induction a with
          | nil => intro b h; cases b <;> rfl
          | cons x a ih =>
            intro b h
            cases b with
            | nil => rfl
            | cons y b =>
              simp only [lexB, Bool.or_eq_true, decide_eq_true_eq, Bool.and_eq_true] at h
              simp only [lexB, Bool.or_eq_false_iff, decide_eq_false_iff_not, Bool.and_eq_false_iff]
              rcases h with h | ⟨h, h'⟩
              · exact ⟨by omega, .inl (by omega)⟩
              · exact ⟨by omega, .inr (ih b h')⟩
        exact this _ _ hb
    · refine .inr ⟨hc, .inl ?_⟩
      have := fun h => h0 (.inr ⟨hc.symm, .inl h⟩)
      omega
  · refine .inl ?_
    have := fun h => h0 (.inl h)
    omega
theorem EndR.le_ext {e f : EndR} (i c : Nat) (h : e.le f) : (e.ext i c).le (f.ext i c) := by
  rw [EndR.le_iff] at *
  simp only [EndR.ext, List.length_cons]
  rcases h with h | ⟨h, h' | ⟨h', h''⟩⟩
  · exact .inl (by omega)
  · exact .inr ⟨by omega, .inl (by omega)⟩
  · exact .inr ⟨by omega, .inr ⟨by omega, by simp [lexB, h'']⟩⟩
theorem EndR.le_of_ext (i c : Nat) (e : EndR) : e.le (e.ext i c) := by
  rw [EndR.le_iff]
  simp only [EndR.ext, List.length_cons]
  rcases Nat.eq_zero_or_pos c with h | h
  · exact .inr ⟨by omega, .inl (by omega)⟩
  · exact .inl (by omega)

/-- what a list of rules from a mode to an accepting one costs -/
def endOf (ac : Nat) (acc : Nat → Bool) (rs : List Rule) : Nat → List Nat → Option Nat
  | m, [] => if acc m then some 0 else none
  | m, i :: l =>
    match rs[i]? with
    | none => none
    | some r => if r.frm = m then (endOf ac acc rs r.dst l).map (r.cost + ·) else none
def IsEnd (acc : Nat → Bool) (rs : List Rule) (m : Nat) (e : EndR) : Prop := endOf 0 acc rs m e.l = some e.cost
def Least (acc : Nat → Bool) (rs : List Rule) (m : Nat) (e : EndR) : Prop := IsEnd acc rs m e ∧ ∀ f, IsEnd acc rs m f → e.le f
theorem Least.unique {acc : Nat → Bool} {rs : List Rule} {m : Nat} {e f : EndR} (h1 : Least acc rs m e) (h2 : Least acc rs m f) : e = f := EndR.le_antisymm (h1.2 f h2.1) (h2.2 e h1.1)
theorem IsEnd.nil {acc : Nat → Bool} {rs : List Rule} {m : Nat} (h : acc m = true) : IsEnd acc rs m ⟨[], 0⟩ := by simp [IsEnd, endOf, h]
theorem IsEnd.ext {acc : Nat → Bool} {rs : List Rule} {m i : Nat} {r : Rule} {e : EndR} (hi : rs[i]? = some r) (hm : r.frm = m) (h : IsEnd acc rs r.dst e) : IsEnd acc rs m (e.ext i r.cost) := by
  unfold IsEnd at *
  simp [EndR.ext, endOf, hi, hm, h]
theorem IsEnd.cons {acc : Nat → Bool} {rs : List Rule} {m i c : Nat} {l : List Nat} (h : IsEnd acc rs m ⟨i :: l, c⟩) : ∃ r c', rs[i]? = some r ∧ r.frm = m ∧ IsEnd acc rs r.dst ⟨l, c'⟩ ∧ c = r.cost + c' := by
  unfold IsEnd at *
  simp only [endOf] at h
  cases hr : rs[i]? with
  | none => simp [hr] at h
  | some r =>
    simp only [hr] at h
    split at h
    · rename_i hm
      obtain ⟨c', h1, h2⟩ := Option.map_eq_some_iff.1 h
      exact ⟨r, c', rfl, hm, h1, h2.symm⟩
    · cases h

/-- Dijkstra's state: D done, O open; of the rules that lead to 'at' those below i are done -/
structure Dij (acc : Nat → Bool) (rs : List Rule) (m : Nat) (D O : Nat → Option EndR) (at_ i : Nat) : Prop where
  done : ∀ k e, D k = some e → Least acc rs k e
  opn : ∀ k e, O k = some e → IsEnd acc rs k e ∧ D k = none
  start : ∀ k, k < m → acc k = true → D k = none → ∃ e, O k = some e ∧ e.le ⟨[], 0⟩
  edge : ∀ j r e, rs[j]? = some r → D r.dst = some e → (r.dst = at_ → j < i) → D r.frm = none → ∃ f, O r.frm = some f ∧ f.le (e.ext j r.cost)

/-- each end of a mode that is not done is no less than an open one -/
theorem Dij.open_le {acc : Nat → Bool} {rs : List Rule} {m at_ : Nat} {D O : Nat → Option EndR} (h : Dij acc rs m D O at_ rs.length) (hs : ∀ r ∈ rs, r.frm < m ∧ r.dst < m) :
    ∀ (l : List Nat) (c k : Nat), k < m → D k = none → IsEnd acc rs k ⟨l, c⟩ → ∃ j f, O j = some f ∧ f.le ⟨l, c⟩ := by
  intro l
  induction l with
  | nil =>
    intro c k hk hD he
    unfold IsEnd at he
    simp only [endOf] at he
    split at he
    · rename_i ha
      injection he with he
      obtain ⟨e, h1, h2⟩ := h.start k hk ha hD
      exact ⟨k, e, h1, by rw [← he]; exact h2⟩
    · cases he
  | cons i l ih =>
    intro c k hk hD he
    obtain ⟨r, c', h1, h2, h3, h4⟩ := he.cons
    have hlt : i < rs.length := by
      rcases Nat.lt_or_ge i rs.length with h | h
      · exact h
      · rw [List.getElem?_eq_none h] at h1; cases h1
    have hx : EndR.le ⟨l, c'⟩ ⟨i :: l, c⟩ := by rw [h4]; exact EndR.le_of_ext i r.cost ⟨l, c'⟩
    cases hd : D r.dst with
    | none =>
      obtain ⟨j, f, h5, h6⟩ := ih c' r.dst (hs r (List.mem_of_getElem? h1)).2 hd h3
      exact ⟨j, f, h5, EndR.le_trans h6 hx⟩
    | some e =>
      have hl := (h.done _ _ hd).2 _ h3
      obtain ⟨f, h5, h6⟩ := h.edge i r e h1 hd (fun _ => hlt) (by rw [h2]; exact hD)
      refine ⟨r.frm, f, h5, EndR.le_trans h6 ?_⟩
      rw [h4]
      exact EndR.le_ext i r.cost hl
/-- nothing is open any more: whoever has an end is done -/
theorem Dij.end_done {acc : Nat → Bool} {rs : List Rule} {m at_ : Nat} {D O : Nat → Option EndR} (h : Dij acc rs m D O at_ rs.length) (hs : ∀ r ∈ rs, r.frm < m ∧ r.dst < m) (hO : ∀ k, O k = none) {k : Nat} (hk : k < m) (hD : D k = none) (e : EndR) : ¬ IsEnd acc rs k e := by
  intro he
  obtain ⟨j, f, h1, _⟩ := h.open_le hs e.l e.cost k hk hD he
  rw [hO] at h1
  cases h1
/-- the least open end is the least of its mode -/
theorem Dij.least {acc : Nat → Bool} {rs : List Rule} {m at_ a : Nat} {D O : Nat → Option EndR} {e : EndR} (h : Dij acc rs m D O at_ rs.length) (hs : ∀ r ∈ rs, r.frm < m ∧ r.dst < m) (ha : O a = some e) (ham : a < m) (hmin : ∀ k f, O k = some f → e.le f) : Least acc rs a e := by
  refine ⟨(h.opn a e ha).1, fun p hp => ?_⟩
  obtain ⟨j, f, h1, h2⟩ := h.open_le hs p.l p.cost a ham (h.opn a e ha).2 hp
  exact EndR.le_trans (hmin j f h1) h2
def upd (D : Nat → Option EndR) (a : Nat) (e : Option EndR) (k : Nat) : Option EndR := if k = a then e else D k
theorem upd_same (D : Nat → Option EndR) (a : Nat) (e : Option EndR) : upd D a e a = e := by simp [upd]
theorem upd_ne (D : Nat → Option EndR) {a k : Nat} (e : Option EndR) (h : k ≠ a) : upd D a e k = D k := by simp [upd, h]
/-- the least open end is laid among the done ones -/
theorem Dij.take {acc : Nat → Bool} {rs : List Rule} {m at_ a : Nat} {D O : Nat → Option EndR} {e : EndR} (h : Dij acc rs m D O at_ rs.length) (hs : ∀ r ∈ rs, r.frm < m ∧ r.dst < m) (ha : O a = some e) (ham : a < m) (hmin : ∀ k f, O k = some f → e.le f) :
    Dij acc rs m (upd D a (some e)) (upd O a none) a 0 := by
  refine ⟨fun k f hk => ?_, fun k f hk => ?_, fun k hk hacc hD => ?_, fun j r f hr hD hj hF => ?_⟩
  · by_cases hka : k = a
    · subst hka
      rw [upd_same] at hk
      injection hk with hk
      rw [← hk]
      exact h.least hs ha ham hmin
    · rw [upd_ne _ _ hka] at hk
      exact h.done k f hk
  · by_cases hka : k = a
    · subst hka; rw [upd_same] at hk; cases hk
    · rw [upd_ne _ _ hka] at hk ⊢
      exact h.opn k f hk
  · by_cases hka : k = a
    · subst hka; rw [upd_same] at hD; cases hD
    · rw [upd_ne _ _ hka] at hD ⊢
      exact h.start k hk hacc hD
  · by_cases hda : r.dst = a
    · exact absurd (hj hda) (by omega)
    · rw [upd_ne _ _ hda] at hD
      by_cases hfa : r.frm = a
      · rw [hfa, upd_same] at hF; cases hF
      · rw [upd_ne _ _ hfa] at hF ⊢
        have hlt : j < rs.length := by
          rcases Nat.lt_or_ge j rs.length with h | h
          · exact h
          · rw [List.getElem?_eq_none h] at hr; cases hr
        exact h.edge j r f hr hD (fun _ => hlt) hF
/-- a rule is passed over: it leads elsewhere, or from a mode that is done -/
theorem Dij.skip {acc : Nat → Bool} {rs : List Rule} {m a i : Nat} {D O : Nat → Option EndR} {r : Rule} (h : Dij acc rs m D O a i) (hi : rs[i]? = some r) (hr : r.dst ≠ a ∨ D r.frm ≠ none) : Dij acc rs m D O a (i + 1) := by
  refine ⟨h.done, h.opn, h.start, fun j q f hq hD hj hF => ?_⟩
  by_cases hji : j = i
  · subst hji
    rw [hi] at hq
    injection hq with hq
    subst hq
    rcases hr with hr | hr
    · exact h.edge j r f hi hD (fun e => absurd e hr) hF
    · exact absurd hF hr
  · exact h.edge j q f hq hD (fun e => by have := hj e; omega) hF
/-- a rule that leads to 'at' from a mode that is not done: the better end remains -/
theorem Dij.relax {acc : Nat → Bool} {rs : List Rule} {m a i : Nat} {D O : Nat → Option EndR} {r : Rule} {e g : EndR} (h : Dij acc rs m D O a i) (hi : rs[i]? = some r) (hr : r.dst = a) (hDa : D a = some e) (hF : D r.frm = none)
    (hg : g = e.ext i r.cost ∨ O r.frm = some g) (hg1 : g.le (e.ext i r.cost)) (hg2 : ∀ f, O r.frm = some f → g.le f) : Dij acc rs m D (upd O r.frm (some g)) a (i + 1) := by
  refine ⟨h.done, fun k f hk => ?_, fun k hk hacc hD => ?_, fun j q f hq hD hj hFq => ?_⟩
  · by_cases hkf : k = r.frm
    · subst hkf
      rw [upd_same] at hk
      injection hk with hk
      subst hk
      refine ⟨?_, hF⟩
      rcases hg with hg | hg
      · rw [hg]; exact IsEnd.ext hi rfl (by rw [hr]; exact (h.done a e hDa).1)
      · exact (h.opn _ _ hg).1
    · rw [upd_ne _ _ hkf] at hk
      exact h.opn k f hk
  · obtain ⟨f, h1, h2⟩ := h.start k hk hacc hD
    by_cases hkf : k = r.frm
    · subst hkf
      exact ⟨g, upd_same _ _ _, EndR.le_trans (hg2 f h1) h2⟩
    · exact ⟨f, by rw [upd_ne _ _ hkf]; exact h1, h2⟩
  · by_cases hji : j = i
    · subst hji
      rw [hi] at hq
      injection hq with hq
      subst hq
      rw [hr, hDa] at hD
      injection hD with hD
      subst hD
      exact ⟨g, upd_same _ _ _, hg1⟩
    · obtain ⟨f', h1, h2⟩ := h.edge j q f hq hD (fun e => by have := hj e; omega) hFq
      by_cases hkf : q.frm = r.frm
      · rw [hkf] at h1 ⊢
        exact ⟨g, upd_same _ _ _, EndR.le_trans (hg2 f' h1) h2⟩
      · exact ⟨f', by rw [upd_ne _ _ hkf]; exact h1, h2⟩
/-- it begins: the accepting modes are open, with nothing -/
theorem Dij.begin (acc : Nat → Bool) (rs : List Rule) (m a : Nat) : Dij acc rs m (fun _ => none) (fun k => if k < m ∧ acc k = true then some ⟨[], 0⟩ else none) a rs.length := by
  refine ⟨fun k e h => by (cases h), fun k e h => ?_, fun k hk hacc _ => ?_, fun j r e _ hD _ _ => by (cases hD)⟩
  · by_cases hk : k < m ∧ acc k = true
    · rw [if_pos hk] at h
      injection h with h
      rw [← h]
      exact ⟨IsEnd.nil hk.2, rfl⟩
    · rw [if_neg hk] at h
      cases h
  · exact ⟨⟨[], 0⟩, by simp [hk, hacc], EndR.le_refl _⟩
end Go.Proofs.Ytpidgkngefkbeaa
