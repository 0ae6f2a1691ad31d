/- Arguments of the laws of layer 3 opened: schemes in the raw, bytes, arrays of bytes. Arguments of the laws of layer 3 opened: an array of four bytes, numbers of one byte with a sign, a rule in the raw. An argument of a law opened: a rule in the raw, by value. An argument of a law opened: a slice of numbers of one byte with a sign. -/
import Derived.Test.YthcnnadggffjhaaG0
import Derived.Test.YthcnnadggffjhaaW7
set_option linter.unusedVariables false
set_option linter.unusedSimpArgs false
namespace Go.Proofs.Ythcnnadggffjhaa
open Go.RowKit Go.ChangeShapes Go.WideShapes Go.Deep

set_option maxRecDepth 100000 in
theorem cellsB : Try.prog.cellsOf 5 = 1 := by kernel_rfl
set_option maxRecDepth 100000 in
theorem cellsBs : Try.prog.cellsOf 25 = 1 := by kernel_rfl
set_option maxRecDepth 100000 in
theorem cellsRawRule : Try.prog.cellsOf 63 = 5 := by kernel_rfl
set_option maxRecDepth 100000 in
theorem cellsRawRules : Try.prog.cellsOf 22 = 1 := by kernel_rfl
set_option maxRecDepth 100000 in
theorem cellsRaw : Try.prog.cellsOf 24 = 3 := by kernel_rfl
set_option maxRecDepth 100000 in
theorem cellsB2 : Try.prog.cellsOf 60 = 2 := by kernel_rfl

section
variable {H : Type} {enc : TypeId × Value → H} {w : World} {spare : Nat → Bool} {held : Bool} {n : Nat}
set_option maxRecDepth 100000 in
theorem trodAll3 {P : Program} {base : Nat} {t0 t1 t2 : TypeId} {vs : List Value} {ds : List (DataW H)} {ps : List MemPlace} (h : DataW.TrodAll enc P w base spare held [t0, t1, t2] vs ds ps) :
    ∃ v0 v1 v2 d0 d1 d2 p0 p1 p2, vs = [v0, v1, v2] ∧ ds = [d0, d1, d2] ∧ DataW.Trod enc P w base spare held t0 v0 d0 p0 ∧ DataW.Trod enc P w base spare held t1 v1 d1 p1 ∧ DataW.Trod enc P w base spare held t2 v2 d2 p2 := by
  obtain ⟨v0, vs1, d0, ds1, p0, q0, rfl, rfl, rfl, h0, h⟩ := trodAll_cons h
  obtain ⟨v1, vs2, d1, ds2, p1, q1, rfl, rfl, rfl, h1, h⟩ := trodAll_cons h
  obtain ⟨v2, vs3, d2, ds3, p2, q2, rfl, rfl, rfl, h2, h⟩ := trodAll_cons h
  obtain ⟨rfl, rfl, rfl⟩ := trodAll_nil h
  exact ⟨v0, v1, v2, d0, d1, d2, p0, p1, p2, rfl, rfl, h0, h1, h2⟩
/-- the cells of a rule in the raw -/
def RawCells (w : World) (r : RawRule) (cs : List Value) : Prop := ∃ A1 c1 A2 c2, cs = [.slice A1 r.inp.length c1, .slice A2 r.out.length c2, .int .u8 r.frm, .int .u8 r.dst, .int .u8 r.cost] ∧ SlAt v8 (· < w.heap.size) w A1 r.inp ∧ SlAt v8 (· < w.heap.size) w A2 r.out ∧ r.wf
set_option maxRecDepth 100000 in
theorem rawRule_open {cs : List Value} {y : DataW H × List MemPlace} (hl : cs.length = 5) (h : DataW.trod enc Try.prog w 0 spare held n 63 cs = some y) : ∃ r, RawCells w r cs := by
  obtain ⟨c0, m0, z0, e0, h0⟩ := field_open Try.underlying63 h (i := 0) rfl cellsBs (by rw [cellsRawRule]; decide)
  obtain ⟨c1, m1, z1, e1, h1⟩ := field_open Try.underlying63 h (i := 1) rfl cellsBs (by rw [cellsRawRule]; decide)
  obtain ⟨c2, m2, z2, e2, h2⟩ := field_open Try.underlying63 h (i := 2) rfl cellsB (by rw [cellsRawRule]; decide)
  obtain ⟨c3, m3, z3, e3, h3⟩ := field_open Try.underlying63 h (i := 3) rfl cellsB (by rw [cellsRawRule]; decide)
  obtain ⟨c4, m4, z4, e4, h4⟩ := field_open Try.underlying63 h (i := 4) rfl cellsB (by rw [cellsRawRule]; decide)
  obtain ⟨A1, d1, l1, rfl, r1, b1, k1⟩ := bytes_open Try.underlying25 Try.underlying5 cellsB h0
  obtain ⟨A2, d2, l2, rfl, r2, b2, k2⟩ := bytes_open Try.underlying25 Try.underlying5 cellsB h1
  obtain ⟨x2, hx2, rfl⟩ := u8_open Try.underlying5 h2
  obtain ⟨x3, hx3, rfl⟩ := u8_open Try.underlying5 h3
  obtain ⟨x4, hx4, rfl⟩ := u8_open Try.underlying5 h4
  match cs, hl with
  | [_, _, _, _, _], _ =>
    simp at e0 e1 e2 e3 e4
    subst e0 e1 e2 e3 e4
    exact ⟨⟨l1, l2, x2, x3, x4⟩, A1, d1, A2, d2, rfl, r1, r2, hx2, hx3, hx4, k1, k2, b1, b2⟩
set_option maxRecDepth 100000 in
theorem rawRules_open {v : Value} {y : DataW H × List MemPlace} (h : DataW.trod enc Try.prog w 0 spare held n 22 [v] = some y) :
    ∃ A c, ∃ l : List RawRule, v = .slice A l.length c ∧ RawAt (· < w.heap.size) w A l ∧ (∀ r ∈ l, r.wf) ∧ l.length ≤ maxLen := by
  obtain ⟨A, len, c, rfl, hl, hi⟩ := slice_open Try.underlying22 (by rw [cellsRawRule]; decide) h
  rw [cellsRawRule] at hi
  obtain ⟨l, hll, hR⟩ := list_of (R := fun i (r : RawRule) => ∃ b o cs, A = some ⟨b, o, none⟩ ∧ b < w.heap.size ∧ (∀ j, j < 5 → w.cell? ⟨b, o + i * 5 + j, none⟩ = cs[j]?) ∧ RawCells w r cs) len fun i hi' => by
    obtain ⟨b, o, cs, m, z, hA, hb, hcl, hcell, htr⟩ := hi i hi'
    obtain ⟨r, hr⟩ := rawRule_open hcl htr
    exact ⟨r, b, o, cs, hA, hb, hcell, hr⟩
  refine ⟨A, c, l, by rw [hll], fun k hk => ?_, fun r hr => ?_, by omega⟩
  · obtain ⟨b, o, cs, hA, hb, hcell, A1, c1, A2, c2, rfl, r1, r2, _⟩ := hR k _ (List.getElem?_eq_getElem hk)
    exact ⟨b, o, A1, c1, A2, c2, hA, hb, hb, hcell 0 (by omega), hcell 1 (by omega), hcell 2 (by omega), hcell 3 (by omega), hcell 4 (by omega), r1, r2⟩
  · obtain ⟨i, hi1, rfl⟩ := List.getElem_of_mem hr
    obtain ⟨b, o, cs, _, _, _, A1, c1, A2, c2, _, _, _, hw⟩ := hR i _ (List.getElem?_eq_getElem hi1)
    exact hw
set_option maxRecDepth 100000 in
/-- a scheme in the raw, by value -/
theorem raw_open {r : Reach} {b0 : Nat} {v : Value} {d : DataW H} {p : List MemPlace} (hv : Value.okWide Try.prog w r b0 24 v) (h : DataW.Trod enc Try.prog w 0 spare held 24 v d p) :
    ∃ (b dr : Nat) (A : Option Addr) (more : List RawRule) (c : Nat), v = .agg #[.int .u8 b, .int .u8 dr, .slice A more.length c] ∧ b < 256 ∧ dr < 256 ∧ RawAt (· < w.heap.size) w A more ∧ (∀ r ∈ more, r.wf) ∧ more.length ≤ maxLen := by
  obtain ⟨cs, rfl, hsz⟩ := okWide_struct Try.underlying24 hv
  rw [cellsRaw] at hsz
  obtain ⟨fuel, h⟩ := h
  obtain ⟨c0, m0, z0, e0, h0⟩ := field_open Try.underlying24 h (i := 0) rfl cellsB (by rw [cellsRaw]; decide)
  obtain ⟨c1, m1, z1, e1, h1⟩ := field_open Try.underlying24 h (i := 1) rfl cellsB (by rw [cellsRaw]; decide)
  obtain ⟨c2, m2, z2, e2, h2⟩ := field_open Try.underlying24 h (i := 2) rfl cellsRawRules (by rw [cellsRaw]; decide)
  obtain ⟨x0, hx0, rfl⟩ := u8_open Try.underlying5 h0
  obtain ⟨x1, hx1, rfl⟩ := u8_open Try.underlying5 h1
  obtain ⟨A, c, l, rfl, r1, r2, r3⟩ := rawRules_open h2
  obtain ⟨cs⟩ := cs
  match cs, hsz with
  | [_, _, _], _ =>
    simp [Value.cells] at e0 e1 e2
    subst e0 e1 e2
    exact ⟨x0, x1, A, l, c, rfl, hx0, hx1, r1, r2, r3⟩
set_option maxRecDepth 100000 in
theorem b2_open {r : Reach} {b0 : Nat} {v : Value} {d : DataW H} {p : List MemPlace} (hv : Value.okWide Try.prog w r b0 60 v) (h : DataW.Trod enc Try.prog w 0 spare held 60 v d p) :
    ∃ a b : Nat, v = .agg #[.int .u8 a, .int .u8 b] ∧ a < 256 ∧ b < 256 := by
  obtain ⟨cs, rfl, hsz⟩ := okWide_arr Try.underlying60 hv
  rw [cellsB2] at hsz
  obtain ⟨fuel, h⟩ := h
  obtain ⟨c0, m0, z0, e0, h0⟩ := elem_open Try.underlying60 cellsB cellsB2 h (i := 0) (by decide)
  obtain ⟨c1, m1, z1, e1, h1⟩ := elem_open Try.underlying60 cellsB cellsB2 h (i := 1) (by decide)
  obtain ⟨x0, hx0, rfl⟩ := u8_open Try.underlying5 h0
  obtain ⟨x1, hx1, rfl⟩ := u8_open Try.underlying5 h1
  obtain ⟨cs⟩ := cs
  match cs, hsz with
  | [_, _], _ =>
    simp [Value.cells] at e0 e1
    subst e0 e1
    exact ⟨x0, x1, rfl, hx0, hx1⟩
set_option maxRecDepth 100000 in
theorem bs_open {r : Reach} {b0 : Nat} {v : Value} {d : DataW H} {p : List MemPlace} (hv : Value.okWide Try.prog w r b0 25 v) (h : DataW.Trod enc Try.prog w 0 spare held 25 v d p) :
    ∃ A c, ∃ l : List Nat, v = .slice A l.length c ∧ SlAt v8 (· < w.heap.size) w A l ∧ (∀ x ∈ l, x < 256) ∧ l.length ≤ maxLen := by
  obtain ⟨a, len, cap, rfl⟩ := okWide_slice Try.underlying25 hv
  obtain ⟨fuel, h⟩ := h
  exact bytes_open Try.underlying25 Try.underlying5 cellsB h
end
end Go.Proofs.Ythcnnadggffjhaa
namespace Go.Proofs.Ythcnnadggffjhaa
open Go.RowKit Go.ChangeShapes Go.WideShapes Go.Deep

section
variable {H : Type} {enc : TypeId × Value → H} {w : World} {spare : Nat → Bool} {held : Bool} {n : Nat}
end
end Go.Proofs.Ythcnnadggffjhaa
namespace Go.Proofs.Ythcnnadggffjhaa
open Go.RowKit Go.ChangeShapes Go.WideShapes Go.Deep

section
variable {H : Type} {enc : TypeId × Value → H} {w : World} {spare : Nat → Bool} {held : Bool} {n : Nat}
set_option maxRecDepth 100000 in
theorem rr_open {r0 : Reach} {b0 : Nat} {v : Value} {d : DataW H} {p : List MemPlace} (hv : Value.okWide Try.prog w r0 b0 63 v) (h : DataW.Trod enc Try.prog w 0 spare held 63 v d p) :
    ∃ A1 c1 A2 c2, ∃ r : RawRule, v = .agg #[.slice A1 r.inp.length c1, .slice A2 r.out.length c2, .int .u8 r.frm, .int .u8 r.dst, .int .u8 r.cost] ∧ SlAt v8 (· < w.heap.size) w A1 r.inp ∧ SlAt v8 (· < w.heap.size) w A2 r.out ∧ r.wf := by
  obtain ⟨cs, rfl, hsz⟩ := okWide_struct Try.underlying63 hv
  rw [cellsRawRule] at hsz
  obtain ⟨fuel, h⟩ := h
  obtain ⟨r, A1, c1, A2, c2, hcs, r1, r2, hw⟩ := rawRule_open (by simpa [Value.cells] using hsz) h
  obtain ⟨cs⟩ := cs
  simp only [Value.cells] at hcs
  subst hcs
  exact ⟨A1, c1, A2, c2, r, rfl, r1, r2, hw⟩
end
end Go.Proofs.Ythcnnadggffjhaa
namespace Go.Proofs.Ythcnnadggffjhaa
open Go.RowKit Go.ChangeShapes Go.WideShapes Go.Deep

abbrev vI8 (x : Int) : Value := .int .i8 x
set_option maxRecDepth 100000 in
theorem cellsI8 : Try.prog.cellsOf 26 = 1 := by kernel_rfl
section
variable {H : Type} {P : Program} {enc : TypeId × Value → H} {w : World} {spare : Nat → Bool} {held : Bool} {n : Nat}
set_option maxRecDepth 100000 in
theorem i8_open {t : TypeId} {v : Value} {y : DataW H × List MemPlace} (ht : P.underlying t = some (.int .i8)) (h : DataW.trod enc P w 0 spare held n t [v] = some y) : ∃ x : Int, -128 ≤ x ∧ x ≤ 127 ∧ v = .int .i8 x := by
  obtain ⟨k, h1, _, h2⟩ := DataW.trod_int ht h
  simp [Lit.wf, IntKind.min, IntKind.max, IntKind.signed, IntKind.bits] at h2
  injection h1 with h1
  exact ⟨k, by omega, by omega, h1⟩
set_option maxRecDepth 100000 in
theorem int8s_open {t e : TypeId} {v : Value} {y : DataW H × List MemPlace} (ht : P.underlying t = some (.slice e)) (he : P.underlying e = some (.int .i8)) (hc : P.cellsOf e = 1) (h : DataW.trod enc P w 0 spare held n t [v] = some y) :
    ∃ A c, ∃ l : List Int, v = .slice A l.length c ∧ SlAt vI8 (· < w.heap.size) w A l ∧ (∀ x ∈ l, -128 ≤ x ∧ x ≤ 127) ∧ l.length ≤ maxLen := by
  obtain ⟨A, len, c, rfl, hl, hi⟩ := slice_open ht (by omega) h
  obtain ⟨l, hll, hR⟩ := list_of (R := fun i (x : Int) => (-128 ≤ x ∧ x ≤ 127) ∧ ∃ b o, A = some ⟨b, o, none⟩ ∧ b < w.heap.size ∧ w.cell? ⟨b, o + i, none⟩ = some (.int .i8 x)) len fun i hi' => by
    obtain ⟨b, o, cs, m, z, hA, hb, hcl, hcell, htr⟩ := hi i hi'
    rw [hc] at hcl hcell
    match cs, hcl with
    | [u], _ =>
      obtain ⟨x, hx, hx', rfl⟩ := i8_open he htr
      have := hcell 0 (by omega)
      rw [Nat.mul_one, Nat.add_zero] at this
      exact ⟨x, ⟨hx, hx'⟩, b, o, hA, hb, this⟩
  refine ⟨A, c, l, by rw [hll], ?_, fun x hx => ?_, by omega⟩
  · intro hn
    have h0 : 0 < l.length := by cases l with
      | nil => exact absurd rfl hn
      | cons _ _ => simp
    obtain ⟨_, b, o, hA, hb, _⟩ := hR 0 l[0] (List.getElem?_eq_getElem h0)
    refine ⟨b, o, hA, hb, hb, fun j u hu => ?_⟩
    rw [List.getElem?_map] at hu
    cases hx : l[j]? with
    | none => rw [hx] at hu; cases hu
    | some x =>
      rw [hx] at hu
      injection hu with hu
      obtain ⟨_, b', o', hA', _, hc'⟩ := hR j x hx
      rw [hA] at hA'
      injection hA' with hA'
      injection hA' with h1 h2
      subst h1 h2
      rw [hc', ← hu]
  · obtain ⟨i, hi1, rfl⟩ := List.getElem_of_mem hx
    exact (hR i _ (List.getElem?_eq_getElem hi1)).1
end
end Go.Proofs.Ythcnnadggffjhaa
