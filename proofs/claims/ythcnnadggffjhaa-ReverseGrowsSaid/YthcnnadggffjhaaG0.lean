/- The frame of a law: where the call hands back 'true' and leaves all that was there as it was, the row holds; arguments opened. No program is in sight here. -/
import Derived.ProofKit
import Derived.OpenVars
import Derived.Deep.Slices
import Derived.Deep.Fields
import Derived.Handed
import Derived.OpenShut
import Derived.Test.YthcnnadggffjhaaLA
set_option linter.unusedVariables false
set_option linter.unusedSimpArgs false
namespace Go.Proofs.Ythcnnadggffjhaa
open Go.RowKit Go.ChangeShapes Go.WideShapes Go.Deep

def RetTrue (w : World) (e : Ending) (w' : World) : Prop := e = .returned (.bool true) ∧ Below w.heap.size w w'
/-- all types of a list are read to the bottom -/
def rowed (P : Program) (ts : List TypeId) : Bool := ts.all fun t => P.readableRec t && decide (t < P.types.size)
section
variable {H : Type} {enc : TypeId × Value → H} {P : Program}
theorem trodAll_later (hl : laidOutB P = true) {W W' : World} (hb : Below W.heap.size W W') : ∀ {ts : List TypeId} {vs : List Value} {ds : List (DataW H)} {ps : List MemPlace}, rowed P ts = true → DataW.TrodAll enc P W 0 (fun _ => true) true ts vs ds ps → (∀ x ∈ ps, x.block < W.heap.size) →
    DataW.TrodAll enc P W' 0 (fun b => decide (b < W.heap.size)) true ts vs ds ps
  | [], _, _, _, _, h, _ => by
    obtain ⟨rfl, rfl, rfl⟩ := trodAll_nil h
    rfl
  | t :: ts, vs, ds, ps, hr, h, hlt => by
    obtain ⟨v, vs', d, ds', p, q, rfl, rfl, rfl, h1, h2⟩ := trodAll_cons h
    simp only [rowed, List.all_cons, Bool.and_eq_true, decide_eq_true_eq] at hr
    exact ⟨p, q, Below.trod hl hr.1.1 hr.1.2 h1 hb fun x hx => hlt x (by simp [hx]), trodAll_later hl hb hr.2 h2 fun x hx => hlt x (by simp [hx]), rfl⟩
/-- THE LAW's FRAME. -/
theorem law_lifted {C : Checked} {os : Os} (started : os.Started) {f : FuncId} {fn : Func} {s : ChangeSpec} (own : ownKnob C.prog.godebug = none) (hl : laidOutB C.prog = true) (noInit : C.prog.inits.idxOf? f = none) (hfn : C.prog.funcs[f]? = some fn)
    (tb : TypeId) (htb : C.prog.underlying tb = some .bool) (hres : fn.resultTypes = #[tb]) (hpar : rowed C.prog fn.params.toList = true) (hvars : s.vars = [])
    (hs : ∀ (vs : List Value) (ds : List (DataW H)) (W : World) (p : List MemPlace), DataW.TrodAll enc C.prog W 0 (fun _ => true) true fn.params.toList vs ds p → s.fn H ds = { results := [.lit (.bool true)], args := ds })
    (witness : ∃ (w : World) (tape : Tape) (i : Input), w.os = os ∧ (w.forCall tape i).Shaped C.prog ∧ i.vars = [] ∧ Input.okWide C.prog (w.forCall tape i) .any w.heap.size f i ∧
      s.pre6 enc C.prog fn [] false (w.forCall tape i).memory i.args ∧ Assume.holds {} C.prog (lone (Frame.enter C.prog f i.args .normal) [] (w.forCall tape i)))
    (walk : ∀ (W : World) (base : Nat) (args : Array Value) (ds : List (DataW H)) (p : List MemPlace), (∀ (j : Nat) t v, fn.params[j]? = some t → args[j]? = some v → Value.okWide C.prog W .any base t v) →
      DataW.TrodAll enc C.prog W 0 (fun _ => true) true fn.params.toList args.toList ds p → Calls C.prog f args W (RetTrue W)) :
    ReturnsInHanded {} C os f .any (s.pre6 enc C.prog fn [] false) (s.post enc C.prog fn false true false false) := by
  refine returnsInHanded_of_change own started noInit hfn witness ?_
  intro W base args ds gs before hval hW _ _
  have hlt : ∀ p ∈ before, p.block < W.heap.size := fun p hp => hW.lt p hp
  have hW' := hW
  obtain ⟨p, q, hA, hV, rfl, hfz, hnd⟩ := hW
  rw [hvars] at hV
  obtain ⟨rfl, rfl⟩ := trodVars_none hV
  refine (walk W base args ds p hval hA).mono fun e W' h => ?_
  obtain ⟨rfl, hb⟩ := h
  have hsp := hs _ _ _ _ hA
  refine ⟨_, rfl, ds, [], p ++ [], [], p, [], hW', ?_, ?_, ?_, hb.frame _, fun h => by cases h⟩
  · rw [List.append_nil, hsp, hres]
    exact trodAll_mk1 (shut_bool htb true)
  · rw [List.append_nil, hsp]
    exact trodAll_later hl hb hpar hA fun x hx => hlt x (by simp [hx])
  · rw [List.append_nil, hsp, hvars]
    rfl
end

/-! ### arguments opened -/
section
variable {H : Type} {enc : TypeId × Value → H} {P : Program} {w : World} {spare : Nat → Bool} {held : Bool} {n : Nat}
theorem list_of {T : Type} {R : Nat → T → Prop} : ∀ m : Nat, (∀ i, i < m → ∃ x, R i x) → ∃ l : List T, l.length = m ∧ ∀ (i : Nat) x, l[i]? = some x → R i x
  | 0, _ => ⟨[], rfl, fun i x h => by simp at h⟩
  | m + 1, h => by
    obtain ⟨l, hl, hR⟩ := list_of m fun i hi => h i (by omega)
    obtain ⟨x, hx⟩ := h m (by omega)
    refine ⟨l ++ [x], by simp [hl], fun i y hy => ?_⟩
    rcases Nat.lt_or_ge i l.length with h1 | h1
    · rw [List.getElem?_append_left h1] at hy; exact hR i y hy
    · rw [List.getElem?_append_right h1] at hy
      have : i - l.length = 0 := by
        rcases Nat.eq_zero_or_pos (i - l.length) with h2 | h2
        · exact h2
        · rw [List.getElem?_eq_none (by simp; omega)] at hy; cases hy
      rw [this] at hy
      simp at hy
      subst hy
      rw [show i = m from by omega]; exact hx
theorem cell_there {a : Addr} {u : Value} (h : w.cell? a = some u) : a.spot = none ∧ a.block < w.heap.size := by
  unfold World.cell? at h
  split at h
  · rename_i hh
    split at h
    · cases h
    · rename_i hs
      exact ⟨by simpa using hs, (Array.getElem?_eq_some_iff.1 hh).1⟩
  · cases h
theorem u8_open {t : TypeId} {v : Value} {y : DataW H × List MemPlace} (ht : P.underlying t = some (.int .u8)) (h : DataW.trod enc P w 0 spare held n t [v] = some y) : ∃ x : Nat, x < 256 ∧ v = .int .u8 x := by
  obtain ⟨k, h1, _, h2⟩ := DataW.trod_int ht h
  simp [Lit.wf, IntKind.min, IntKind.max, IntKind.signed, IntKind.bits] at h2
  refine ⟨k.toNat, by omega, ?_⟩
  injection h1 with h1
  rw [h1, Int.toNat_of_nonneg h2.1]
/-- a slice: its elements' cells -/
theorem slice_open {t e : TypeId} {v : Value} {y : DataW H × List MemPlace} (ht : P.underlying t = some (.slice e)) (hk : 0 < P.cellsOf e) (h : DataW.trod enc P w 0 spare held n t [v] = some y) :
    ∃ A len c, v = .slice A len c ∧ len ≤ maxLen ∧ ∀ i, i < len → ∃ b o cs m z, A = some ⟨b, o, none⟩ ∧ b < w.heap.size ∧ cs.length = P.cellsOf e ∧ (∀ j, j < P.cellsOf e → w.cell? ⟨b, o + i * P.cellsOf e + j, none⟩ = cs[j]?) ∧ DataW.trod enc P w 0 spare held m e cs = some z := by
  rcases open_slice ht h with ⟨h1, _⟩ | ⟨a, len, cap, m, k, D, Pl, h1, _, hl, hm, hmm, _, hi⟩
  · injection h1 with h1
    subst h1
    exact ⟨none, 0, 0, rfl, Nat.zero_le _, fun i hi => absurd hi (by omega)⟩
  · injection h1 with h1
    subst h1
    refine ⟨some a, len, cap, rfl, by omega, fun i hil => ?_⟩
    have hlm : len ≤ m := by rw [hmm]; split <;> omega
    obtain ⟨cs, hc, ht⟩ := hi i (by omega)
    obtain ⟨_, hcl, hat⟩ := World.cells?_some hc
    obtain ⟨cs0, hc0, _⟩ := hi 0 (by omega)
    obtain ⟨_, hcl0, hat0⟩ := World.cells?_some hc0
    have h0 := hat0 0 hk
    rw [List.getElem?_eq_getElem (by omega)] at h0
    have h0' : w.cell? a = some (cs0[0]'(by omega)) := by simpa [Addr.add] using h0
    obtain ⟨hs, hb⟩ := cell_there h0'
    obtain ⟨b, o, sp⟩ := a
    simp only at hs hb
    subst hs
    refine ⟨b, o, cs, k, _, rfl, hb, hcl, fun j hj => ?_, ht⟩
    rw [← hat j hj]
    congr 1
    unfold Addr.add
    by_cases h1 : i * P.cellsOf e = 0 <;> by_cases h2 : j = 0 <;> simp [h1, h2] <;> omega
/-- a struct's field of one cell -/
theorem field_open {t : TypeId} {fs : Array Field} {cs : List Value} {y : DataW H × List MemPlace} (ht : P.underlying t = some (.struct fs)) (h : DataW.trod enc P w 0 spare held n t cs = some y) {i : Nat} {f : Field} (hf : fs[i]? = some f) (hc : P.cellsOf f.type = 1) (ho : f.offset < P.cellsOf t) :
    ∃ v m z, cs[f.offset]? = some v ∧ DataW.trod enc P w 0 spare held m f.type [v] = some z := by
  obtain ⟨xs, m, _, _, hlen, hxl, hg⟩ := DataW.trod_struct ht h
  have h1 := hg i f hf
  have hi : i < xs.length := by rw [hxl]; exact (Array.getElem?_eq_some_iff.1 hf).1
  rw [hc, List.getElem?_eq_getElem hi, List.drop_eq_getElem_cons (by omega)] at h1
  exact ⟨_, m, _, List.getElem?_eq_getElem (by omega), h1⟩
/-- an array's element of one cell -/
theorem elem_open {t e : TypeId} {k : Nat} {cs : List Value} {y : DataW H × List MemPlace} (ht : P.underlying t = some (.array k e)) (hc : P.cellsOf e = 1) (hk : P.cellsOf t = k) (h : DataW.trod enc P w 0 spare held n t cs = some y) {i : Nat} (hi : i < k) :
    ∃ v m z, cs[i]? = some v ∧ DataW.trod enc P w 0 spare held m e [v] = some z := by
  obtain ⟨xs, m, _, _, hlen, hxl, hg⟩ := DataW.trod_array ht h
  have h1 := hg i hi
  rw [hc, List.getElem?_eq_getElem (by omega), Nat.mul_one, List.drop_eq_getElem_cons (by omega)] at h1
  exact ⟨_, m, _, List.getElem?_eq_getElem (by omega), h1⟩
theorem okWide_arr {r : Reach} {b : Nat} {t e : TypeId} {k : Nat} {v : Value} (ht : P.underlying t = some (.array k e)) (h : Value.okWide P w r b t v) : ∃ cs, v = .agg cs ∧ cs.size = P.cellsOf t := by
  simp only [Value.okWide, ht] at h
  obtain ⟨cs, h1, h2, _⟩ := h
  exact ⟨cs, h1, h2⟩
/-- a slice of bytes -/
theorem bytes_open {t e : TypeId} {v : Value} {y : DataW H × List MemPlace} (ht : P.underlying t = some (.slice e)) (he : P.underlying e = some (.int .u8)) (hc : P.cellsOf e = 1) (h : DataW.trod enc P w 0 spare held n t [v] = some y) :
    ∃ A c, ∃ l : List Nat, v = .slice A l.length c ∧ SlAt v8 (· < w.heap.size) w A l ∧ (∀ x ∈ l, x < 256) ∧ l.length ≤ maxLen := by
  obtain ⟨A, len, c, rfl, hl, hi⟩ := slice_open ht (by omega) h
  obtain ⟨l, hll, hR⟩ := list_of (R := fun i (x : Nat) => x < 256 ∧ ∃ b o, A = some ⟨b, o, none⟩ ∧ b < w.heap.size ∧ w.cell? ⟨b, o + i, none⟩ = some (.int .u8 x)) len fun i hi' => by
    obtain ⟨b, o, cs, m, z, hA, hb, hcl, hcell, htr⟩ := hi i hi'
    rw [hc] at hcl hcell
    match cs, hcl with
    | [u], _ =>
      obtain ⟨x, hx, rfl⟩ := u8_open he htr
      have := hcell 0 (by omega)
      rw [Nat.mul_one, Nat.add_zero] at this
      exact ⟨x, hx, b, o, hA, hb, this⟩
  refine ⟨A, c, l, by rw [hll], ?_, fun x hx => ?_, by omega⟩
  · intro hn
    have h0 : 0 < l.length := by cases l with
      | nil => exact absurd rfl hn
      | cons _ _ => simp
    obtain ⟨_, b, o, hA, hb, _⟩ := hR 0 l[0] (List.getElem?_eq_getElem h0)
    refine ⟨b, o, hA, hb, hb, fun j u hu => ?_⟩
    rw [List.getElem?_map] at hu
    cases hx : l[j]? with
    | none => rw [hx] at hu; cases hu
    | some x =>
      rw [hx] at hu
      injection hu with hu
      obtain ⟨_, b', o', hA', _, hc'⟩ := hR j x hx
      rw [hA] at hA'
      injection hA' with hA'
      injection hA' with h1 h2
      subst h1 h2
      rw [hc', ← hu]
  · obtain ⟨i, hi1, rfl⟩ := List.getElem_of_mem hx
    exact (hR i _ (List.getElem?_eq_getElem hi1)).1
end
end Go.Proofs.Ythcnnadggffjhaa
