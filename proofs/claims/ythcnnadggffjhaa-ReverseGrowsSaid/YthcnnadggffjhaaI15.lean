/- The memo of pairing.from. -/
import Derived.Test.YthcnnadggffjhaaI14
import Derived.Test.YthcnnadggffjhaaI13
import Derived.Test.YthcnnadggffjhaaI10
import Derived.Test.YthcnnadggffjhaaQ3
set_option linter.unusedVariables false
set_option linter.unusedSimpArgs false
namespace Go.Proofs.Ythcnnadggffjhaa
open Go.RowKit Go.Maps

def wayOf (o : Option EndR) : EndR := o.getD ⟨[], 0⟩
/-- the cells of a way -/
def wayV (A : Option Addr) (c : Nat) (o : Option EndR) : Value := .agg #[.slice A (wayOf o).l.length c, .int .i64 (wayOf o).cost, .bool o.isSome]
def rowI (l : List Nat) : List Value := l.map vN
/-- a value shows a way -/
def WayAt (w : World) (v : Value) (o : Option EndR) : Prop := ∃ A c, v = wayV A c o ∧ ReadsT 3 w A (rowI (wayOf o).l)
theorem spotK_inj {a b c a' b' c' : Nat} (h : spotK a b c = spotK a' b' c') : a = a' ∧ b = b' ∧ c = c' := by
  unfold spotK at h
  simp only [Value.agg.injEq, Array.mk.injEq, List.cons.injEq, Value.int.injEq, and_true, true_and] at h
  omega
/-- the map in block b holds the ways from the spots in S -/
def Memo (fr : Nat → Nat → Nat → Option EndR) (w : World) (b : Nat) (S : List (Nat × Nat × Nat)) : Prop :=
  ∃ f, MapV Try.prog 97 w b S.length f ∧ ∀ m i k l, keyOf Try.prog 97 (spotK m i k) = some l → (((m, i, k) ∈ S → ∃ v, f l = some v ∧ WayAt w v (fr m i k)) ∧ ((m, i, k) ∉ S → f l = none))
section
variable {fr : Nat → Nat → Nat → Option EndR} {w w' : World} {b : Nat} {S : List (Nat × Nat × Nat)}
theorem WayAt.mod {T : Nat → Prop} {v : Value} {o : Option EndR} (h : WayAt w v o) (hm : Mod T w w') (ht : NotTy T w 3) : WayAt w' v o := let ⟨A, c, h1, h2⟩ := h; ⟨A, c, h1, h2.mod hm ht⟩
theorem WayAt.next {v : Value} {o : Option EndR} (h : WayAt w v o) (hb : Below w.heap.size w w') : WayAt w' v o := let ⟨A, c, h1, h2⟩ := h; ⟨A, c, h1, h2.next hb⟩
theorem Memo.new (fr : Nat → Nat → Nat → Option EndR) (w : World) : Memo fr (w.alloc (.map #[] 0)) w.heap.size [] := ⟨_, MapV.new _ _ _, fun m i k l _ => ⟨fun h => by simp at h, fun _ => rfl⟩⟩
theorem MapV.notTy {n : Nat} {f : Lit → Option Value} (h : MapV Try.prog 97 w b n f) (t : TypeId) : NotTy (· = b) w t := by
  rintro b' rfl ⟨cs, hc⟩
  obtain ⟨D, ⟨es, clock, h1, _⟩, _⟩ := h
  unfold Blk at hc
  rw [hc] at h1
  cases h1
theorem Memo.notTy (h : Memo fr w b S) (t : TypeId) : NotTy (· = b) w t := let ⟨f, h1, _⟩ := h; h1.notTy t
theorem Memo.lt (h : Memo fr w b S) : b < w.heap.size := let ⟨f, h1, _⟩ := h; h1.lt
theorem Memo.next (h : Memo fr w b S) (hb : Below w.heap.size w w') : Memo fr w' b S := by
  obtain ⟨f, h1, h2⟩ := h
  refine ⟨f, h1.next hb, fun m i k l hl => ⟨fun hs => ?_, (h2 m i k l hl).2⟩⟩
  obtain ⟨v, h3, h4⟩ := (h2 m i k l hl).1 hs
  exact ⟨v, h3, h4.next hb⟩
theorem Memo.mod {T : Nat → Prop} (h : Memo fr w b S) (hm : Mod T w w') (hb : ¬ T b) (ht : NotTy T w 3) : Memo fr w' b S := by
  obtain ⟨f, h1, h2⟩ := h
  refine ⟨f, h1.mod hm hb, fun m i k l hl => ⟨fun hs => ?_, (h2 m i k l hl).2⟩⟩
  obtain ⟨v, h3, h4⟩ := (h2 m i k l hl).1 hs
  exact ⟨v, h3, h4.mod hm ht⟩
theorem way_zero (w : World) : (zeroValue 95).run Try.prog w = .ok (wayV none 0 none) w := Try.zeroValue95 w
theorem Memo.hit (h : Memo fr w b S) {m i k : Nat} (hm : m < 1000000) (hi : i < 1000000) (hk : k < 1000000) (hs : (m, i, k) ∈ S) :
    ∃ A c, (∀ w2, Below w.heap.size w w2 → (Instr.lookup 91 (.map (some b)) (.agg #[.int .i64 m, .int .i64 i, .int .i64 k]) true).run Try.prog w2 = .ok (.tuple #[.agg #[.slice A (wayOf (fr m i k)).l.length c, .int .i64 (wayOf (fr m i k)).cost, .bool (fr m i k).isSome], .bool true]) w2) ∧ ReadsT 3 w A (rowI (wayOf (fr m i k)).l) := by
  obtain ⟨f, h1, h2⟩ := h
  obtain ⟨l, hl⟩ := spot3_keyOf m i k hm hi hk
  obtain ⟨v, h3, A, c, rfl, h4⟩ := (h2 m i k l hl).1 hs
  refine ⟨A, c, fun w2 hb => ?_, h4⟩
  have h5 := (h1.next hb).look spot3_keyed Try.underlying91 (way_zero w2) hl
  rw [h3] at h5
  exact h5
theorem Memo.miss (h : Memo fr w b S) {m i k : Nat} (hm : m < 1000000) (hi : i < 1000000) (hk : k < 1000000) (hs : (m, i, k) ∉ S) :
    ∀ w2, Below w.heap.size w w2 → (Instr.lookup 91 (.map (some b)) (.agg #[.int .i64 m, .int .i64 i, .int .i64 k]) true).run Try.prog w2 = .ok (.tuple #[.agg #[.slice none 0 0, .int .i64 0, .bool false], .bool false]) w2 := by
  obtain ⟨f, h1, h2⟩ := h
  obtain ⟨l, hl⟩ := spot3_keyOf m i k hm hi hk
  intro w2 hb
  have h5 := (h1.next hb).look spot3_keyed Try.underlying91 (way_zero w2) hl
  rw [(h2 m i k l hl).2 hs] at h5
  exact h5
theorem Memo.put (h : Memo fr w b S) {m i k : Nat} (hm : m < 1000000) (hi : i < 1000000) (hk : k < 1000000) (hs : (m, i, k) ∉ S) (hn : S.length < maxLen) {v : Value} (hv : WayAt w v (fr m i k)) :
    ∃ w', (Instr.mapUpdate 91 (.map (some b)) (spotK m i k) v).run Try.prog w = .ok () w' ∧ Memo fr w' b ((m, i, k) :: S) ∧ Mod (· = b) w w' ∧ WayAt w' v (fr m i k) := by
  classical
  obtain ⟨f, h1, h2⟩ := h
  obtain ⟨l, hl⟩ := spot3_keyOf m i k hm hi hk
  obtain ⟨w', hrun, h3, hg⟩ := h1.store spot3_keyed Try.underlying91 hn hl (val := v) (f' := fun x => if x = l then some v else f x) (by simp) (fun x hx => by simp [hx])
  have hmod : Mod (· = b) w w' := Mod.of_grown hg fun q hq => (Option.some.inj hq).symm
  have hnt := h1.notTy 3
  refine ⟨w', hrun, ⟨_, h3, fun m' i' k' l' hl' => ⟨fun hs' => ?_, fun hs' => ?_⟩⟩, hmod, hv.mod hmod hnt⟩
  · by_cases he : l' = l
    · subst he
      obtain ⟨rfl, rfl, rfl⟩ := spotK_inj (spot3_keyed.inj hl hl')
      exact ⟨v, by simp, hv.mod hmod hnt⟩
    · rw [List.mem_cons] at hs'
      rcases hs' with hs' | hs'
      · injection hs' with e1 e2
        injection e2 with e2 e3
        subst e1 e2 e3
        rw [hl] at hl'
        injection hl' with hl'
        exact absurd hl'.symm he
      · obtain ⟨v', h4, h5⟩ := (h2 m' i' k' l' hl').1 hs'
        exact ⟨v', by simp [he, h4], h5.mod hmod hnt⟩
  · rw [List.mem_cons, not_or] at hs'
    have he : ¬ l' = l := by
      rintro rfl
      obtain ⟨rfl, rfl, rfl⟩ := spotK_inj (spot3_keyed.inj hl hl')
      exact hs'.1 rfl
    simp only [he, if_false]
    exact (h2 m' i' k' l' hl').2 hs'.2
end
/-- what is known lies in a box, each once -/
def BoxS (a b : Nat) (S : List (Nat × Nat × Nat)) : Prop := S.Nodup ∧ ∀ s ∈ S, s.1 < 8 ∧ s.2.1 ≤ a ∧ s.2.2 ≤ b
theorem BoxS.len {a b : Nat} {S : List (Nat × Nat × Nat)} (h : BoxS a b S) : S.length ≤ 8 * ((a + 1) * (b + 1)) := by
  have h1 := nodup_lt_len (8 * ((a + 1) * (b + 1))) (S.map fun s => s.1 * ((a + 1) * (b + 1)) + (s.2.1 * (b + 1) + s.2.2)) ?_ ?_
  · simpa using h1
  · rw [List.nodup_iff_pairwise_ne, List.pairwise_map]
    have hp := h.1
    rw [List.nodup_iff_pairwise_ne] at hp
    refine hp.imp_of_mem ?_
    rintro ⟨x1, x2, x3⟩ ⟨y1, y2, y3⟩ hx hy hxy he
    obtain ⟨_, hx2, hx3⟩ := h.2 _ hx
    obtain ⟨_, hy2, hy3⟩ := h.2 _ hy
    simp only at hx2 hx3 hy2 hy3 he
    have key : ∀ u v, u ≤ a → v ≤ b → u * (b + 1) + v < (a + 1) * (b + 1) := fun u v hu hv => by
      have := Nat.mul_le_mul_right (b + 1) hu
      rw [Nat.add_mul]
      omega
    have kx := key x2 x3 hx2 hx3
    have ky := key y2 y3 hy2 hy3
    have d1 : ∀ u v, v < (a + 1) * (b + 1) → (u * ((a + 1) * (b + 1)) + v) / ((a + 1) * (b + 1)) = u := fun u v hv => by
      rw [Nat.mul_comm, Nat.mul_add_div (by omega), Nat.div_eq_of_lt hv, Nat.add_zero]
    have d2 : ∀ u v, v ≤ b → (u * (b + 1) + v) / (b + 1) = u := fun u v hv => by
      rw [Nat.mul_comm, Nat.mul_add_div (by omega), Nat.div_eq_of_lt (by omega), Nat.add_zero]
    have e1 : x1 = y1 := by rw [← d1 x1 _ kx, ← d1 y1 _ ky, he]
    have e2 : x2 * (b + 1) + x3 = y2 * (b + 1) + y3 := by rw [e1] at he; omega
    have e3 : x2 = y2 := by rw [← d2 x2 x3 hx3, ← d2 y2 y3 hy3, e2]
    have e4 : x3 = y3 := by rw [e3] at e2; omega
    exact hxy (by rw [e1, e3, e4])
  · intro x hx
    rw [List.mem_map] at hx
    obtain ⟨⟨x1, x2, x3⟩, hs, rfl⟩ := hx
    obtain ⟨h1, h2, h3⟩ := h.2 _ hs
    simp only at h1 h2 h3 ⊢
    have h4 := Nat.mul_le_mul_right (b + 1) h2
    have h5 : x1 * ((a + 1) * (b + 1)) ≤ 7 * ((a + 1) * (b + 1)) := Nat.mul_le_mul_right _ (by omega)
    have h6 : (a + 1) * (b + 1) = a * (b + 1) + (b + 1) := by rw [Nat.add_mul, Nat.one_mul]
    omega
section
variable {P : Program} (w : World)
/-- append([]T{x}, xs...): the new slice's row has the type T -/
theorem run_append_oneT (t ty e : TypeId) (i : TypeInfo) (z : Value) (bytes : Nat) (ht : P.underlying t = some (.slice e)) (hi : P.info? e = some i) (hz : i.zero = some z) (hsize : i.size = 1) (hby : i.bytes = bytes) (hzs : z.cells.size = 1)
    (blk : Nat) (x : Value) (hblk : Blk w blk e #[x]) (F : Nat → Prop) (A : Option Addr) (c : Nat) (xs : List Value) (hA : Reads F w A xs) (h1 : ∀ u ∈ xs, u.oneCell' = true) (h63 : 1 + xs.length ≤ maxLen) (hbytes : (1 + xs.length) * bytes ≤ 140737488355328) :
    ∃ g cap w', (Builtin.append_ #[t, t] ty #[.slice (some ⟨blk, 0, none⟩) 1 1, .slice A xs.length c]).run P w = .ok (.slice (some ⟨g, 0, none⟩) (1 + xs.length) cap) w' ∧ 1 + xs.length ≤ cap ∧ ReadsT e w' (some ⟨g, 0, none⟩) (x :: xs) ∧ w.grownBy w' (some blk) := by
  have hown : w.ownsRow blk e 1 (.slice (some ⟨blk, 0, none⟩) 1 1) 1 [x] := ⟨rfl, .inr ⟨blk, 1, #[x], rfl, Nat.le_refl _, hblk, Nat.le_refl _, by unfold maxLen; omega, rfl, rfl⟩⟩
  have key : ∀ (ad : Addr) (ys : List Value), (∀ j u, ys[j]? = some u → w.cell? (ad.add j) = some u) → (∀ u ∈ ys, u.oneCell' = true) → 1 + ys.length ≤ maxLen → (1 + ys.length) * bytes ≤ 140737488355328 →
      ∃ g cap w', (Builtin.append_ #[t, t] ty #[.slice (some ⟨blk, 0, none⟩) 1 1, .slice (some ad) ys.length c]).run P w = .ok (.slice (some ⟨g, 0, none⟩) (1 + ys.length) cap) w' ∧ 1 + ys.length ≤ cap ∧ ReadsT e w' (some ⟨g, 0, none⟩) (x :: ys) ∧ w.grownBy w' (some blk) := by
    intro ad ys hc h1 h63 hbytes
    obtain ⟨v', w', hr, ho, hg, _, h5⟩ := run_append_own_at (P := P) w blk t ty e i z 1 bytes ht hi hz hsize hby hzs (by omega) _ 1 [x] hown ad ys.length c ys (by simp) hc h1 h63 hbytes (Nat.le_of_lt hblk.lt)
    obtain ⟨g, cap, rfl, _⟩ := ho.form (by omega)
    exact ⟨g, cap, w', hr, Acc.le_ (.inl ho), ReadsT.of_own ho, hg⟩
  cases xs with
  | nil =>
    cases A with
    | none => exact ⟨blk, 1, w, run_append_nothing w t ty e i ht hi hsize blk c x hblk, Nat.le_refl _, ReadsT.of_own hown, rfl, rfl, rfl, Nat.le_refl _, fun _ _ _ => rfl⟩
    | some ad => exact key ad [] (fun j u hu => by simp at hu) h1 h63 hbytes
  | cons y ys =>
    obtain ⟨b, o, rfl, _, hlt, hc⟩ := hA (by simp)
    exact key _ (y :: ys) (fun j u hu => by
      rw [show (⟨b, o, none⟩ : Addr).add j = ⟨b, o + j, none⟩ from by unfold Addr.add; split <;> simp_all]
      exact hc j u hu) h1 h63 hbytes
end
section
variable {P : Program} {w : World}
theorem step_append_oneT {ops : Array Oper} {o : Oper} {a : Act} {K : Act → World → Prop} {Q : Exit → Act → World → Prop} {E : Prop} (hgd : o.guard = none) (s y : Operand) (t : TypeId)
    (ho : o.op = .call { callee := .builtin .append, args := #[s, y], argTypes := #[t, t] })
    (e : TypeId) (i : TypeInfo) (z : Value) (bytes : Nat) (ht : P.underlying t = some (.slice e)) (hi : P.info? e = some i) (hz : i.zero = some z) (hsize : i.size = 1) (hby : i.bytes = bytes) (hzs : z.cells.size = 1)
    (blk : Nat) (x : Value) (hs : a.eval s = .slice (some ⟨blk, 0, none⟩) 1 1) (hblk : Blk w blk e #[x]) (F : Nat → Prop) (A : Option Addr) (c : Nat) (xs : List Value) (n : Nat) (hy : a.eval y = .slice A n c) (hxn : xs.length = n) (hA : Reads F w A xs) (h1 : ∀ u ∈ xs, u.oneCell' = true) (h63 : 1 + n ≤ maxLen)
    (hbytes : (1 + n) * bytes ≤ 140737488355328)
    (h : ∀ g cap w', 1 + n ≤ cap → ReadsT e w' (some ⟨g, 0, none⟩) (x :: xs) → w.grownBy w' (some blk) → K (a.put o.dst (.slice (some ⟨g, 0, none⟩) (1 + n) cap)) w') :
    if Region.wanted o (yielded ops a.tmps) = true then Oper.wp P o a w K Q else E := by
  subst hxn
  have hw : Region.wanted o (yielded ops a.tmps) = true := by simp [Region.wanted, hgd]
  rw [if_pos hw]
  obtain ⟨g, cap, w', hr, h1c, h2, h3⟩ := run_append_oneT (P := P) w t o.type e i z bytes ht hi hz hsize hby hzs blk x hblk F A c xs hA h1 h63 hbytes
  unfold Oper.wp execOp
  simp only [ho, resolve, invoke, builtin, Sem.run_bind, Sem.run_pure, Result.andThen_ok, List.map_toArray, List.map_cons, List.map_nil, hs, hy, hr]
  exact h g cap w' h1c h2 h3
end
end Go.Proofs.Ythcnnadggffjhaa
