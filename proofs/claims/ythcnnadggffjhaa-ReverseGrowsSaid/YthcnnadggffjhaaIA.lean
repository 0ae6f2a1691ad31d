/- Copy and append at elements of several cells, in a row of the call's own. No program is in sight here. -/
import Derived.Test.YthcnnadggffjhaaLA
import Derived.Shelf.Spec.SlicesInsert
import Derived.Lib.AppendZerosOnto
import Derived.Laws.CopyRow
set_option linter.unusedVariables false
set_option linter.unusedSimpArgs false
namespace Go.Proofs.Ythcnnadggffjhaa
open Go.RowKit Go.Lib

theorem run_copy_rowK {P : Program} (w : World) (dT sT ty elem : TypeId) (k : Nat) (g o dLen dCap : Nat) (a : Addr) (sLen sCap : Nat) (cur : Array Value) (t : TypeId) (cs : List Value)
    (hu : P.underlying dT = some (.slice elem)) (hs : (P.info? elem).map (·.size) = some k)
    (hg : w.heap[g]? = some (.cells cur t (0, 0))) (hn : cs.length = Nat.min sLen dLen * k)
    (hsrc : ∀ j v, cs[j]? = some v → w.cell? (a.add j) = some v) (hfit : o + cs.length ≤ cur.size) (h1 : ∀ v ∈ cs, v.oneCell' = true) :
    (Builtin.copy_ #[dT, sT] ty #[.slice (some ⟨g, o, none⟩) dLen dCap, .slice (some a) sLen sCap]).run P w =
      .ok (goInt (Nat.min sLen dLen)) (w.setRow g (cur.toList.take o ++ cs ++ cur.toList.drop (o + cs.length)).toArray) := by
  have hl := run_loadCells_list (P := P) w a cs hsrc
  have hst := run_storeCells_at P g o t cs 0 cur w hg (by simpa using hfit) h1
  cases hq : P.info? elem with
  | none => simp [hq] at hs
  | some i =>
    have hi : i.size = k := by simpa [hq] using hs
    simp [Builtin.copy_, run_underlying hu, Builtin.lenOf, Builtin.firstCells, sizeOf, typeInfo, hq, hi, ← hn, hl, hst]
theorem blk_shape {w : World} {b : Nat} {t : TypeId} {cs : Array Value} (h : Blk w b t cs) : w.shape? b = some (t, cs.size) := by
  unfold Blk at h
  simp [World.shape?, h]
theorem setRow_blk {w : World} {g : Nat} {t : TypeId} {cs : Array Value} (h : Blk w g t cs) (ds : Array Value) : Blk (w.setRow g ds) g t ds := setRow_heap w g cs ds t (0, 0) h
theorem grownBy_setRow {w w' : World} {g : Nat} {row : Option Nat} (h : w.grownBy w' row) (hg : row = some g ∨ w.heap.size ≤ g) (cs : Array Value) : w.grownBy (w'.setRow g cs) row :=
  ⟨by simpa using h.os, by have := h.tape; simpa [World.setRow] using this, by simpa using h.output, by simpa using h.size, fun k hk hne => by
    have hkg : k ≠ g := by
      rcases hg with hg | hg
      · rintro rfl; exact hne hg.symm
      · omega
    rw [setRow_other _ _ _ _ hkg]
    exact h.block k hk hne⟩
/-- the cells of a row of the call's own in its middle turned -/
theorem own_of_blk {w : World} {base g n cap size : Nat} {e : TypeId} {cur : Array Value} {xs : List Value} (h : Blk w g e cur) (hb : base ≤ g) (hn : n ≤ cap) (hc : cap ≤ maxLen) (hs : cur.size = cap * size) (hx : cur.toList.take (n * size) = xs) :
    w.ownsRow base e size (.slice (some ⟨g, 0, none⟩) n cap) n xs := by
  refine ⟨?_, .inr ⟨g, cap, cur, rfl, hb, h, hn, hc, hs, hx⟩⟩
  rw [← hx, List.length_take, Array.length_toList, hs]
  exact Nat.min_eq_left (Nat.mul_le_mul_right _ hn)
theorem own_blk {w : World} {base g n cap size : Nat} {e : TypeId} {xs : List Value} (h : w.ownsRow base e size (.slice (some ⟨g, 0, none⟩) n cap) n xs) :
    ∃ cur, Blk w g e cur ∧ base ≤ g ∧ n ≤ cap ∧ cap ≤ maxLen ∧ cur.size = cap * size ∧ cur.toList.take (n * size) = xs := by
  rcases h.2 with ⟨hv, _⟩ | ⟨g', cap', cur, hv, hb, hh, h1, h2, h3, h4⟩
  · cases hv
  · injection hv with e1 e2 e3
    injection e1 with e1
    injection e1 with e1
    subst e1 e3
    exact ⟨cur, hh, hb, h1, h2, h3, h4⟩
section
variable {P : Program} (w : World)
theorem run_append_types (t t2 ty e e2 : TypeId) (ht : P.underlying t = some (.slice e)) (ht2 : P.underlying t2 = some (.slice e2)) (i : TypeInfo) (hi : P.info? e = some i) (x y : Value) : (Builtin.append_ #[t, t2] ty #[x, y]).run P w = (Builtin.append_ #[t, t] ty #[x, y]).run P w := by
  cases x <;> simp [Builtin.append_, run_underlying ht, run_underlying ht2, sizeOf, typeInfo, hi]
theorem wpList_append_own2 {ops : Array Oper} {rest : List Oper} {o : Oper} {a : Act} {Q : Exit → Act → World → Prop} (hgd : o.guard = none) (s x : Operand) (t t2 : TypeId)
    (ho : o.op = .call { callee := .builtin .append, args := #[s, x], argTypes := #[t, t2] })
    (base : Nat) (e e2 : TypeId) (i : TypeInfo) (z : Value) (size bytes : Nat) (ht : P.underlying t = some (.slice e)) (ht2 : P.underlying t2 = some (.slice e2)) (hi : P.info? e = some i) (hz : i.zero = some z)
    (hsize : i.size = size) (hby : i.bytes = bytes) (hzs : z.cells.size = size) (hsz : 0 < size)
    (v : Value) (n : Nat) (xs : List Value) (hs : a.eval s = v) (hown : w.ownsRow base e size v n xs)
    (ad : Addr) (m c2 : Nat) (news : List Value) (hx : a.eval x = .slice (some ad) m c2) (hl : news.length = m * size) (hnews : ∀ j u, news[j]? = some u → w.cell? (ad.add j) = some u) (h1 : ∀ u ∈ news, u.oneCell' = true)
    (h63 : n + m ≤ maxLen) (hbytes : (n + m) * bytes ≤ 140737488355328) (hbase : base ≤ w.heap.size)
    (h : ∀ v' w', w'.ownsRow base e size v' (n + m) (xs ++ news) → w.grownBy w' v.ownBlock → (v'.ownBlock = v.ownBlock ∨ v'.ownBlock = some w.heap.size) → wpList P ops Q rest (a.put o.dst v') w') : wpList P ops Q (o :: rest) a w := by
  obtain ⟨v', w', hr, hown', hg, _, hat⟩ := run_append_own_at (P := P) w base t o.type e i z size bytes ht hi hz hsize hby hzs hsz v n xs hown ad m c2 news hl hnews h1 h63 hbytes hbase
  refine wpList_plain hgd fun _ hK => ?_
  unfold Oper.wp execOp
  simp only [ho, resolve, invoke, builtin, Sem.run_bind, Sem.run_pure, Result.andThen_ok, List.map_toArray, List.map_cons, List.map_nil, hs, hx, run_append_types w t t2 o.type e e2 ht ht2 i hi, hr]
  exact hK _ _ (h v' w' hown' hg hat)
end
/-- only blocks that meet S have turned -/
structure Mod (S : Nat → Prop) (w w' : World) : Prop where
  os : w'.os = w.os
  tape : w'.tape = w.tape
  output : w'.output = w.output
  size : w.heap.size ≤ w'.heap.size
  block : ∀ b, b < w.heap.size → ¬ S b → w'.heap[b]? = w.heap[b]?
section
variable {S T : Nat → Prop} {w w' a c : World}
theorem Mod.refl (S : Nat → Prop) (w : World) : Mod S w w := ⟨rfl, rfl, rfl, Nat.le_refl _, fun _ _ _ => rfl⟩
theorem Mod.of_below (h : Below w.heap.size w w') : Mod S w w' := ⟨h.os, h.tape, h.output, h.size, fun b hb _ => h.block b hb⟩
theorem Mod.of_grown {row : Option Nat} (h : w.grownBy w' row) (hr : ∀ k, row = some k → S k) : Mod S w w' := ⟨h.os, h.tape, h.output, h.size, fun b hb hs => h.block b hb fun he => hs (hr b he.symm)⟩
theorem Mod.trans (h : Mod S a w) (k : Mod S w c) : Mod S a c :=
  ⟨k.os.trans h.os, k.tape.trans h.tape, k.output.trans h.output, Nat.le_trans h.size k.size, fun b hb hs => (k.block b (Nat.lt_of_lt_of_le hb h.size) hs).trans (h.block b hb hs)⟩
theorem Mod.mono (h : Mod S w w') (hs : ∀ b, b < w.heap.size → S b → T b) : Mod T w w' := ⟨h.os, h.tape, h.output, h.size, fun b hb ht => h.block b hb fun h => ht (hs b hb h)⟩
theorem Mod.set (h : Mod S w w') {p : Addr} (hp : S p.block) (u : Value) : Mod S w (w'.setCell p u) :=
  ⟨h.os, h.tape, h.output, by simpa [World.setCell] using h.size, fun b hb hs => by
    rw [Below.heap_setCell _ _ _ _ (show b ≠ p.block from fun he => hs (by rw [he]; exact hp))]
    exact h.block b hb hs⟩
theorem Mod.next (h : Mod S w w') (k : Below w'.heap.size w' c) : Mod S w c := h.trans (Mod.of_below k)
theorem Mod.blk (h : Mod S w w') {b : Nat} {e : TypeId} {cs : Array Value} (hb : Blk w b e cs) (hs : ¬ S b) : Blk w' b e cs := (h.block b hb.lt hs).trans hb
theorem Mod.reads (h : Mod S w w') {F : Nat → Prop} {A : Option Addr} {xs : List Value} (hr : Reads F w A xs) (hf : ∀ b, b < w.heap.size → F b → ¬ S b) : Reads F w' A xs := fun hn => by
  obtain ⟨b, o, e, hb, hl, hc⟩ := hr hn
  exact ⟨b, o, e, hb, Nat.lt_of_lt_of_le hl h.size, fun j u hu => (World.cell?_of_block (h.block b hl (hf b hl hb))).trans (hc j u hu)⟩
theorem Mod.below (h : Mod S w w') {B : Nat} (ha : Below B a w) (hB : B ≤ w.heap.size) (hs : ∀ b, b < w.heap.size → S b → B ≤ b) : Below B a w' :=
  ⟨h.os.trans ha.os, h.tape.trans ha.tape, h.output.trans ha.output, Nat.le_trans ha.size h.size, fun k hk => (h.block k (by omega) fun hk' => by have := hs k (by omega) hk'; omega).trans (ha.block k hk)⟩
theorem Mod.toBelow (h : Mod S w w') {B : Nat} (hB : B ≤ w.heap.size) (hs : ∀ b, b < w.heap.size → S b → B ≤ b) : Below B w w' := h.below (Below.refl _ _) hB hs
theorem Mod.own (h : Mod S w w') {base : Nat} {e : TypeId} {size : Nat} {v : Value} {n : Nat} {xs : List Value} (ho : w.ownsRow base e size v n xs) (hs : ∀ b, v.ownBlock = some b → ¬ S b) : w'.ownsRow base e size v n xs := by
  refine ⟨ho.1, ?_⟩
  rcases ho.2 with h0 | ⟨g, cap, cur, hv, hg, hh, r⟩
  · exact .inl h0
  · have hlt : g < w.heap.size := (Array.getElem?_eq_some_iff.1 hh).1
    exact .inr ⟨g, cap, cur, hv, hg, (h.block g hlt (hs g (by rw [hv]; rfl))).trans hh, r⟩
theorem ownBelow (hb : Below w.heap.size w w') {base : Nat} {e : TypeId} {size : Nat} {v : Value} {n : Nat} {xs : List Value} (ho : w.ownsRow base e size v n xs) : w'.ownsRow base e size v n xs :=
  (Mod.of_below (S := fun _ => False) hb).own ho fun _ _ h => h
end
end Go.Proofs.Ythcnnadggffjhaa
