/- The memory of route.Least: the scheme's box, the map of done ends, the map of open ends. -/
import Derived.Test.YtpidgkngefkbeaaE4
set_option linter.unusedVariables false
set_option linter.unusedSimpArgs false
namespace Go.Proofs.Ytpidgkngefkbeaa
open Go.RowKit Go.Maps Go.WideElems

/-- the scheme's box at h, the maps at h + 1 (done) and h + 2 (open) show D and O -/
structure LW (m ac : Nat) (A : Option Addr) (n c : Nat) (w W : World) (N : Nat) (D O : Nat → Option EndR) : Prop where
  bel : Below w.heap.size w W
  box : Blk W w.heap.size 30 #[.int .i64 m, .int .u8 ac, .slice A n c]
  dn : ∃ f, EndMap W (w.heap.size + 1) N m f ∧ Shows (w.heap.size + 1) W f D
  op : ∃ f, EndMap W (w.heap.size + 1 + 1) N m f ∧ Shows (w.heap.size + 1) W f O

section
variable {m ac : Nat} {A : Option Addr} {n c : Nat} {w W W' : World} {N : Nat} {D O : Nat → Option EndR}
theorem LW.below (h : LW m ac A n c w W N D O) (hb : Below W.heap.size W W') : LW m ac A n c w W' N D O := by
  obtain ⟨h1, h2, ⟨f, h3, h4⟩, ⟨g, h5, h6⟩⟩ := h
  exact ⟨h1.trans (hb.mono h1.size), h2.next hb, ⟨f, h3.below hb, h4.below hb⟩, ⟨g, h5.below hb, h6.below hb⟩⟩
theorem LW.mono (h : LW m ac A n c w W N D O) {N' : Nat} (hN : N ≤ N') : LW m ac A n c w W N' D O := by
  obtain ⟨h1, h2, ⟨f, h3, h4⟩, ⟨g, h5, h6⟩⟩ := h
  exact ⟨h1, h2, ⟨f, h3.mono hN, h4⟩, ⟨g, h5.mono hN, h6⟩⟩
theorem show_look {w : World} {b N m B : Nat} {f : Nat → Option Ent} {F : Nat → Option EndR} (h : EndMap w b N m f) (hs : Shows B w f F) {k : Nat} (hk : k < 1000000) {e : EndR} (hF : F k = some e) :
    ∃ A c, (Instr.lookup 70 (.map (some b)) (.int .i64 k) false).run Try.prog w = .ok (.agg #[.slice A e.l.length c, .int .i64 e.cost]) w ∧ e.l.length ≤ c ∧ SlAt vN (B ≤ ·) w A e.l := by
  have hr := h.look hk
  have h1 := hs k
  cases hf : f k with
  | none => rw [hf, hF] at h1; exact h1.elim
  | some p =>
    rw [hf, hF] at h1
    obtain ⟨e1, e2, e0, e3⟩ := h1
    refine ⟨p.A, p.c, ?_, by rw [← e1]; exact e0, e3⟩
    rw [hr, hf, ← e1, ← e2]; rfl
theorem show_lookOk {w : World} {b N m B : Nat} {f : Nat → Option Ent} {F : Nat → Option EndR} (h : EndMap w b N m f) (hs : Shows B w f F) {k : Nat} (hk : k < 1000000) {e : EndR} (hF : F k = some e) :
    ∃ A c, (Instr.lookup 70 (.map (some b)) (.int .i64 k) true).run Try.prog w = .ok (.tuple #[.agg #[.slice A e.l.length c, .int .i64 e.cost], .bool true]) w ∧ e.l.length ≤ c ∧ SlAt vN (B ≤ ·) w A e.l := by
  have hr := h.lookOk hk
  have h1 := hs k
  cases hf : f k with
  | none => rw [hf, hF] at h1; exact h1.elim
  | some p =>
    rw [hf, hF] at h1
    obtain ⟨e1, e2, e0, e3⟩ := h1
    refine ⟨p.A, p.c, ?_, by rw [← e1]; exact e0, e3⟩
    rw [hr, hf, ← e1, ← e2]; rfl
theorem show_lookNo {w : World} {b N m B : Nat} {f : Nat → Option Ent} {F : Nat → Option EndR} (h : EndMap w b N m f) (hs : Shows B w f F) {k : Nat} (hk : k < 1000000) (hF : F k = none) :
    (Instr.lookup 70 (.map (some b)) (.int .i64 k) true).run Try.prog w = .ok (.tuple #[.agg #[.slice none 0 0, .int .i64 0], .bool false]) w := by
  have hr := h.lookOk hk
  have h1 := hs k
  cases hf : f k with
  | none => rw [hr, hf]; rfl
  | some p => rw [hf, hF] at h1; exact h1.elim

/-- a store into the map of done ends -/
theorem LW.storeD (h : LW m ac A n c w W N D O) {k : Nat} (hk : k < m) (hm : m < 1000000) (hN : N < 1000000) {e : EndR} {B : Option Addr} {d : Nat} (hB : SlAt vN (w.heap.size + 1 ≤ ·) W B e.l) (hd : e.l.length ≤ d) :
    ∃ W', (Instr.mapUpdate 70 (.map (some (w.heap.size + 1))) (.int .i64 k) (.agg #[.slice B e.l.length d, .int .i64 e.cost])).run Try.prog W = .ok () W' ∧ LW m ac A n c w W' (N + 1) (upd D k (some e)) O ∧ W.grownBy W' (some (w.heap.size + 1)) := by
  obtain ⟨h1, h2, ⟨f, h3, h4⟩, ⟨g, h5, h6⟩⟩ := h
  obtain ⟨W', r1, r2, r3⟩ := h3.store hk hm hN ⟨B, e.l.length, d, e.cost⟩
  obtain ⟨es, cl, hmap⟩ := h3.isMap
  have hno := no_cell_map hmap
  refine ⟨W', r1, ⟨h1.grown r3 h1.size (fun k hk => by injection hk; omega), h2.grown r3 (by simp), ⟨_, r2, ?_⟩, ⟨g, (h5.kept r3 (by simp)).mono (Nat.le_succ _), h6.other r3 hno⟩⟩, r3⟩
  exact (h4.other r3 hno).put_ k ⟨rfl, rfl, hd, Reads.other hB r3 hno⟩
/-- a store into the map of open ends -/
theorem LW.storeO (h : LW m ac A n c w W N D O) {k : Nat} (hk : k < m) (hm : m < 1000000) (hN : N < 1000000) {e : EndR} {B : Option Addr} {d : Nat} (hB : SlAt vN (w.heap.size + 1 ≤ ·) W B e.l) (hd : e.l.length ≤ d) :
    ∃ W', (Instr.mapUpdate 70 (.map (some (w.heap.size + 1 + 1))) (.int .i64 k) (.agg #[.slice B e.l.length d, .int .i64 e.cost])).run Try.prog W = .ok () W' ∧ LW m ac A n c w W' (N + 1) D (upd O k (some e)) ∧ W.grownBy W' (some (w.heap.size + 1 + 1)) := by
  obtain ⟨h1, h2, ⟨f, h3, h4⟩, ⟨g, h5, h6⟩⟩ := h
  obtain ⟨W', r1, r2, r3⟩ := h5.store hk hm hN ⟨B, e.l.length, d, e.cost⟩
  obtain ⟨es, cl, hmap⟩ := h5.isMap
  have hno := no_cell_map hmap
  refine ⟨W', r1, ⟨h1.grown r3 h1.size (fun k hk => by injection hk; omega), h2.grown r3 (by simp; omega), ⟨f, (h3.kept r3 (by simp)).mono (Nat.le_succ _), h4.other r3 hno⟩, ⟨_, r2, ?_⟩⟩, r3⟩
  exact (h6.other r3 hno).put_ k ⟨rfl, rfl, hd, Reads.other hB r3 hno⟩
theorem LW.dropO (h : LW m ac A n c w W N D O) {k : Nat} (hk : k < 1000000) (ty : TypeId) :
    ∃ W', (Builtin.delete_ #[70, 3] ty #[.map (some (w.heap.size + 1 + 1)), .int .i64 k]).run Try.prog W = .ok (.tuple #[]) W' ∧ LW m ac A n c w W' N D (upd O k none) ∧ W.grownBy W' (some (w.heap.size + 1 + 1)) := by
  obtain ⟨h1, h2, ⟨f, h3, h4⟩, ⟨g, h5, h6⟩⟩ := h
  obtain ⟨W', r1, r2, r3⟩ := h5.drop hk ty
  obtain ⟨es, cl, hmap⟩ := h5.isMap
  have hno := no_cell_map hmap
  exact ⟨W', r1, ⟨h1.grown r3 h1.size (fun k hk => by injection hk; omega), h2.grown r3 (by simp; omega), ⟨f, h3.kept r3 (by simp), h4.other r3 hno⟩, ⟨_, r2, (h6.other r3 hno).cut_ k⟩⟩, r3⟩
theorem LW.lenO (h : LW m ac A n c w W N D O) (ty : TypeId) : ∃ s : Nat, (Builtin.len_ #[70] ty #[.map (some (w.heap.size + 1 + 1))]).run Try.prog W = .ok (.int .i64 s) W ∧ (s = 0 → ∀ k, O k = none) ∧ (0 < s → ∃ k e, k < m ∧ O k = some e) := by
  obtain ⟨h1, h2, _, ⟨g, h5, h6⟩⟩ := h
  obtain ⟨s, r1, r2, r3⟩ := h5.len_ ty
  refine ⟨s, r1, fun h0 k => h6.none_ (r2 h0 k), fun h0 => ?_⟩
  obtain ⟨k, p, hp⟩ := r3 h0
  obtain ⟨e, he, _⟩ := h6.some_ hp
  exact ⟨k, e, h5.dom hp, he⟩
theorem LW.lookO (h : LW m ac A n c w W N D O) {k : Nat} (hk : k < 1000000) {e : EndR} (hF : O k = some e) :
    ∃ B d, (Instr.lookup 70 (.map (some (w.heap.size + 1 + 1))) (.int .i64 k) false).run Try.prog W = .ok (.agg #[.slice B e.l.length d, .int .i64 e.cost]) W ∧ e.l.length ≤ d ∧ SlAt vN (w.heap.size + 1 ≤ ·) W B e.l := by
  obtain ⟨h1, h2, _, ⟨g, h5, h6⟩⟩ := h; exact show_look h5 h6 hk hF
theorem LW.lookOok (h : LW m ac A n c w W N D O) {k : Nat} (hk : k < 1000000) {e : EndR} (hF : O k = some e) :
    ∃ B d, (Instr.lookup 70 (.map (some (w.heap.size + 1 + 1))) (.int .i64 k) true).run Try.prog W = .ok (.tuple #[.agg #[.slice B e.l.length d, .int .i64 e.cost], .bool true]) W ∧ e.l.length ≤ d ∧ SlAt vN (w.heap.size + 1 ≤ ·) W B e.l := by
  obtain ⟨h1, h2, _, ⟨g, h5, h6⟩⟩ := h; exact show_lookOk h5 h6 hk hF
theorem LW.lookOno (h : LW m ac A n c w W N D O) {k : Nat} (hk : k < 1000000) (hF : O k = none) :
    (Instr.lookup 70 (.map (some (w.heap.size + 1 + 1))) (.int .i64 k) true).run Try.prog W = .ok (.tuple #[.agg #[.slice none 0 0, .int .i64 0], .bool false]) W := by
  obtain ⟨h1, h2, _, ⟨g, h5, h6⟩⟩ := h; exact show_lookNo h5 h6 hk hF
theorem LW.lookDok (h : LW m ac A n c w W N D O) {k : Nat} (hk : k < 1000000) {e : EndR} (hF : D k = some e) :
    ∃ B d, (Instr.lookup 70 (.map (some (w.heap.size + 1))) (.int .i64 k) true).run Try.prog W = .ok (.tuple #[.agg #[.slice B e.l.length d, .int .i64 e.cost], .bool true]) W ∧ e.l.length ≤ d ∧ SlAt vN (w.heap.size + 1 ≤ ·) W B e.l := by
  obtain ⟨h1, h2, ⟨g, h5, h6⟩, _⟩ := h; exact show_lookOk h5 h6 hk hF
theorem LW.lookDno (h : LW m ac A n c w W N D O) {k : Nat} (hk : k < 1000000) (hF : D k = none) :
    (Instr.lookup 70 (.map (some (w.heap.size + 1))) (.int .i64 k) true).run Try.prog W = .ok (.tuple #[.agg #[.slice none 0 0, .int .i64 0], .bool false]) W := by
  obtain ⟨h1, h2, ⟨g, h5, h6⟩, _⟩ := h; exact show_lookNo h5 h6 hk hF
end
theorem Shows.isSome_ {B : Nat} {w : World} {f : Nat → Option Ent} {F : Nat → Option EndR} (h : Shows B w f F) (k : Nat) : (f k).isSome = (F k).isSome := by
  have := h k
  revert this
  cases f k <;> cases F k <;> simp
theorem LW.iter {m ac : Nat} {A : Option Addr} {n c : Nat} {w W W' : World} {N r : Nat} {D O : Nat → Option EndR} (h : LW m ac A n c w W N D O) (hg : W.grownBy W' (some r)) (hr : w.heap.size + 1 + 1 < r) (hno : ∀ i, W.cell? ⟨r, i, none⟩ = none) : LW m ac A n c w W' N D O := by
  obtain ⟨h1, h2, ⟨f, h3, h4⟩, ⟨g, h5, h6⟩⟩ := h
  exact ⟨h1.grown hg h1.size (fun k hk => by injection hk; omega), h2.grown hg (by simp; omega), ⟨f, h3.kept hg (by simp; omega), h4.other hg hno⟩, ⟨g, h5.kept hg (by simp; omega), h6.other hg hno⟩⟩
theorem wpList_next_show {ops : Array Oper} {rest : List Oper} {o : Oper} {a : Act} {Q : Exit → Act → World → Prop} (w : World) (hg : o.guard = none) (it : Operand) (hop : o.op = Op.next it false) {b r n m cnt B : Nat} {f : Nat → Option Ent} {O : Nat → Option EndR} {left : Nat → Bool}
    (hit : a.eval it = .pointer (some ⟨r, 0, none⟩)) (h : EndRange w b r n m f left cnt) (hs : Shows B w f O) (hl0 : ∀ k, left k = true → (O k).isSome = true)
    (hDone : (∀ k, left k = false) → wpList Try.prog ops Q rest (a.put o.dst (.tuple #[.bool false])) w)
    (hMore : ∀ (k : Nat) (e : EndR) (A : Option Addr) (d : Nat) (w' : World) (cnt' : Nat), k < m → O k = some e → left k = true → e.l.length ≤ d → SlAt vN (B ≤ ·) w' A e.l → EndRange w' b r n m f (fun j => left j && !decide (j = k)) cnt' → Shows B w' f O → cnt' < cnt → w.grownBy w' (some r) → w'.heap.size = w.heap.size →
      (Instr.entry (.pointer (some ⟨r, 0, none⟩))).run Try.prog w' = .ok (.tuple #[.int .i64 k, .agg #[.slice A e.l.length d, .int .i64 e.cost]]) w' → wpList Try.prog ops Q rest (a.put o.dst (.tuple #[.bool true, .int .i64 k, .agg #[.slice A e.l.length d, .int .i64 e.cost]])) w') :
    wpList Try.prog ops Q (o :: rest) a w := by
  obtain ⟨i1, i2, i3, i4, hiter⟩ := h.iter
  have hno := no_cell_iter hiter
  refine wpList_next_end w hg it hop hit h (fun k hk => by rw [hs.isSome_]; exact hl0 k hk) hDone fun k p w' cnt' hk hf hl hER hlt hgr hsz hen => ?_
  obtain ⟨e, he, e1, e2, e0, e3⟩ := hs.some_ hf
  obtain ⟨pA, pn, pc, px⟩ := p
  simp only at e1 e2 e0 e3
  subst e1 e2
  exact hMore k e pA pc w' cnt' hk he hl e0 (Reads.other e3 hgr hno) hER (hs.other hgr hno) hlt hgr hsz hen
/-- stores and deletions at the operation -/
theorem wpList_store_end {ops : Array Oper} {rest : List Oper} {o : Oper} {a : Act} {Q : Exit → Act → World → Prop} (w w' : World) (hg : o.guard = none) (m x v : Operand) (t : TypeId) (hop : o.op = Op.mapUpdate t m x v)
    (hrun : (Instr.mapUpdate t (a.eval m) (a.eval x) (a.eval v)).run Try.prog w = .ok () w') (hK : wpList Try.prog ops Q rest (a.put o.dst undef) w') : wpList Try.prog ops Q (o :: rest) a w := by
  refine wpList_plain hg fun K' hK' => ?_
  unfold Oper.wp
  simp [execOp, hop, hrun, Result.andThen]
  exact hK' _ _ hK
theorem wpList_len_end {ops : Array Oper} {rest : List Oper} {o : Oper} {a : Act} {Q : Exit → Act → World → Prop} (w : World) (hg : o.guard = none) (m : Operand) (t : TypeId) (hop : o.op = Op.call { callee := Callee.builtin Builtin.len, args := #[m], argTypes := #[t] }) (v : Value)
    (hrun : (Builtin.len_ #[t] o.type #[a.eval m]).run Try.prog w = .ok v w) (hK : wpList Try.prog ops Q rest (a.put o.dst v) w) : wpList Try.prog ops Q (o :: rest) a w := by
  refine wpList_plain hg fun K' hK' => ?_
  unfold Oper.wp
  simp [execOp, hop, resolve, invoke, builtin, hrun, Result.andThen]
  exact hK' _ _ hK
theorem wpList_delete_end {ops : Array Oper} {rest : List Oper} {o : Oper} {a : Act} {Q : Exit → Act → World → Prop} (w w' : World) (hg : o.guard = none) (m x : Operand) (t k : TypeId) (hop : o.op = Op.call { callee := Callee.builtin Builtin.delete, args := #[m, x], argTypes := #[t, k] })
    (hrun : (Builtin.delete_ #[t, k] o.type #[a.eval m, a.eval x]).run Try.prog w = .ok (.tuple #[]) w') (hK : wpList Try.prog ops Q rest (a.put o.dst (.tuple #[])) w') : wpList Try.prog ops Q (o :: rest) a w := by
  refine wpList_plain hg fun K' hK' => ?_
  unfold Oper.wp
  simp [execOp, hop, resolve, invoke, builtin, hrun, Result.andThen]
  exact hK' _ _ hK
end Go.Proofs.Ytpidgkngefkbeaa
