/- Maps keyed by [3]int: the key's law. -/
import Derived.Test.YthcnnadggffjhaaI9
import Derived.DeepKeys4
set_option linter.unusedVariables false
set_option linter.unusedSimpArgs false
namespace Go.Proofs.Ythcnnadggffjhaa
open Go.RowKit Go.Lib Go.Maps Go.ChangeShapes Go.WideShapes Go.ChangeAt Go.WideMaps

theorem spot3_laidOut : laidOutB Try.prog = true := by kernel_rfl
theorem spot3_wide : (match Try.prog.underlying 97 with | some (.array _ _) | some (.struct _) => true | _ => false) = true := by kernel_rfl
theorem spot3_row : (97 : TypeId) < Try.prog.types.size := of_decide_eq_true (by kernel_rfl)
theorem spot3_key : Try.prog.keyTypeAt 2 97 = true := by kernel_rfl
set_option maxRecDepth 100000 in
theorem spot3_law : Go.WideMaps.KeyLaw Try.prog 97 := deep_law_laid spot3_laidOut (m := 2) (by omega) spot3_row spot3_key spot3_wide
theorem spot3_keyed : Keyed Try.prog 97 := Keyed.of_law spot3_law
/-- an element as it stands: read through no place -/
def rawE (v : Value) : Option (DataW Value × List MemPlace) := some (.held v, [])
/-- a map of the call's own whose entries are those of f -/
def MapV (P : Program) (k : TypeId) (w : World) (b n : Nat) (f : Lit → Option Value) : Prop :=
  ∃ D : DataW Value, w.ownsMap P k rawE b n D ∧ ∀ kl, WideAt.IsKeyLit kl → ∀ zd, D.atKey kl zd = match f kl with | none => zd | some v => .held v
theorem MapV.new (P : Program) (k : TypeId) (w : World) : MapV P k (w.alloc (.map #[] 0)) w.heap.size 0 (fun _ => none) := ⟨_, World.ownsMap_made _ _ _ _, fun kl _ zd => rfl⟩
theorem MapV.look {P : Program} {k t e : TypeId} {w : World} {b n : Nat} {f : Lit → Option Value} (h : MapV P k w b n f) (K : Keyed P k) (ht : P.underlying t = some (.map k e)) {z : Value} (hz : (zeroValue e).run P w = .ok z w) {key : Value} {kl : Lit} (hkey : keyOf P k key = some kl) :
    (Instr.lookup t (.map (some b)) key true).run P w = .ok (match f kl with | none => .tuple #[z, .bool false] | some v => .tuple #[v, .bool true]) w := by
  obtain ⟨D, ⟨es, clock, hb, F, hs, rfl⟩, hD⟩ := h
  have hk := K.key hkey
  rcases Maps.fit_look true K ht hz hb F hkey with ⟨hrun, _, hat⟩ | ⟨e0, y, _, _, hrun, hR, hat, _⟩
  · have h1 := hD kl hk .nil
    rw [hat] at h1
    cases hf : f kl with
    | none => simpa [hf] using hrun
    | some v => rw [hf] at h1; cases h1
  · have h1 := hD kl hk .nil
    rw [hat] at h1
    unfold rawE at hR
    injection hR with hR
    subst hR
    cases hf : f kl with
    | none => rw [hf] at h1; cases h1
    | some v =>
      rw [hf] at h1
      injection h1 with h1
      subst h1
      simpa [hf] using hrun
theorem MapV.store {P : Program} {k t e : TypeId} {w : World} {b n : Nat} {f : Lit → Option Value} (h : MapV P k w b n f) (K : Keyed P k) (ht : P.underlying t = some (.map k e)) (hn : n < maxLen) {key val : Value} {kl : Lit} (hkey : keyOf P k key = some kl) {f' : Lit → Option Value} (h1 : f' kl = some val) (h2 : ∀ x, x ≠ kl → f' x = f x) :
    ∃ w', (Instr.mapUpdate t (.map (some b)) key val).run P w = .ok () w' ∧ MapV P k w' b (n + 1) f' ∧ w.grownBy w' (some b) := by
  obtain ⟨D, hO, hD⟩ := h
  obtain ⟨w', hrun, hO', hg⟩ := hO.update K ht hn hkey (d := .held val) (ps := []) rfl
  obtain ⟨es, clock, hb, F, hs, rfl⟩ := hO
  refine ⟨w', hrun, ⟨_, hO', fun x hx zd => ?_⟩, hg⟩
  by_cases hxk : x = kl
  · subst hxk
    rw [h1]
    exact atKey_put_same (by exact ⟨_, rfl⟩) hx _ _
  · rw [h2 x hxk, atKey_put_other hxk]
    exact hD x hx zd
section
variable {P : Program} {k : TypeId} {w w' : World} {b n : Nat} {f : Lit → Option Value}
theorem MapV.lt (h : MapV P k w b n f) : b < w.heap.size := by obtain ⟨D, h1, _⟩ := h; exact h1.lt
theorem MapV.mod {T : Nat → Prop} (h : MapV P k w b n f) (hm : Mod T w w') (hb : ¬ T b) : MapV P k w' b n f := by
  obtain ⟨D, ⟨es, clock, h1, h2, h3, h4⟩, h5⟩ := h
  exact ⟨D, ⟨es, clock, (hm.block b (Array.getElem?_eq_some_iff.1 h1).1 hb).trans h1, h2, h3, h4⟩, h5⟩
theorem MapV.next (h : MapV P k w b n f) (hb : Below w.heap.size w w') : MapV P k w' b n f := h.mod (Mod.of_below (S := fun _ => False) hb) fun h => h
end
/-- a spot as a key -/
def spotK (a b c : Nat) : Value := .agg #[.int .i64 a, .int .i64 b, .int .i64 c]
theorem spot3_keyOf (a b c : Nat) (ha : a < 1000000) (hb : b < 1000000) (hc : c < 1000000) : ∃ l, keyOf Try.prog 97 (spotK a b c) = some l := by
  have h1 : Try.prog.keyType 97 = true := by kernel_rfl
  have hcell : Try.prog.cellsOf 97 = 3 := by kernel_rfl
  have hci : Try.prog.cellsOf 3 = 1 := by kernel_rfl
  have hf : (spotK a b c).formed Try.prog 97 = true := by simp [spotK, Value.formed, Try.underlying97, hcell]
  have hw : ∀ x : Nat, x < 1000000 → (Lit.int .i64 (x : Int)).wf = true := by
    intro x hx
    have e1 : IntKind.i64.min = -9223372036854775808 := rfl
    have e2 : IntKind.i64.max = 9223372036854775807 := rfl
    simp [Lit.wf, e1, e2]
    omega
  have hs : ∃ N, Try.prog.types.size + 1 = N + 2 := ⟨Try.prog.types.size - 1, by have h0 : 0 < Try.prog.types.size := Nat.lt_of_le_of_lt (Nat.zero_le _) spot3_row; omega⟩
  obtain ⟨N, hN⟩ := hs
  unfold keyOf
  rw [Try.underlying97]
  simp only [h1, hf, Bool.and_self, if_true]
  rw [hN]
  simp [spotK, Program.keyLits, Try.underlying97, Try.underlying3, hcell, hci, hw a ha, hw b hb, hw c hc, List.range_succ, Value.cells]
end Go.Proofs.Ythcnnadggffjhaa
