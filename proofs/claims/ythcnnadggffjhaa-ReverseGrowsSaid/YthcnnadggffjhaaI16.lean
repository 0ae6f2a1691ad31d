/- The walk of pairing.from. -/
import Derived.Test.YthcnnadggffjhaaI15
import Derived.Test.YthcnnadggffjhaaI11
set_option linter.unusedVariables false
set_option linter.unusedSimpArgs false
namespace Go.Proofs.Ythcnnadggffjhaa
open Go.RowKit

/-- what from hands back -/
def FromRes (acc : Nat → Bool) (rs : List Rule) (inp out : ByteArray) (Kb : Nat) (S : List (Nat × Nat × Nat)) (m i k : Nat) (w : World) (e : Ending) (w' : World) : Prop :=
  ∃ A c S', e = .returned (wayV A c (fromE acc rs inp out m i k)) ∧ ReadsT 3 w' A (rowI (wayOf (fromE acc rs inp out m i k)).l) ∧ Memo (fromE acc rs inp out) w' Kb S' ∧ BoxS inp.size out.size S' ∧ (∀ s ∈ S', s ∈ S ∨ mu inp s.1 s.2.1 ≤ mu inp m i) ∧ Mod (· = Kb) w w'
/-- the memory of from: Bx is the box of the best way so far, o that way -/
structure FromW (acc : Nat → Bool) (M ac : Nat) (A : Option Addr) (c : Nat) (rs : List Rule) (inp out : ByteArray) (P0 Kb : Nat) (S : List (Nat × Nat × Nat)) (m i k : Nat) (w : World) (Bx : Nat) (o : Option EndR) (A1 : Option Addr) (c1 : Nat) (S' : List (Nat × Nat × Nat)) (W : World) : Prop where
  mod : Mod (fun b => b = Kb ∨ w.heap.size ≤ b) w W
  spot : Blk W w.heap.size 97 #[.int .i64 m, .int .i64 i, .int .i64 k]
  res : Blk W (w.heap.size + 1) 95 #[.slice none 0 0, .int .i64 0, .bool false]
  pair : Blk W P0 93 #[.int .i64 M, .int .u8 ac, .slice A rs.length c, .string inp, .string out, .map (some Kb)]
  best : Blk W Bx 95 #[.slice A1 (wayOf o).l.length c1, .int .i64 (wayOf o).cost, .bool o.isSome]
  reads : ReadsT 3 W A1 (rowI (wayOf o).l)
  memo : Memo (fromE acc rs inp out) W Kb S'
  box : BoxS inp.size out.size S'
  low : ∀ s ∈ S', s ∈ S ∨ mu inp s.1 s.2.1 < mu inp m i
  hB : w.heap.size + 1 < Bx
section
variable {acc : Nat → Bool} {M ac : Nat} {A : Option Addr} {c : Nat} {rs : List Rule} {inp out : ByteArray} {P0 Kb : Nat} {S : List (Nat × Nat × Nat)} {m i k : Nat} {w : World} {Bx : Nat} {o : Option EndR} {A1 : Option Addr} {c1 : Nat} {S' : List (Nat × Nat × Nat)} {W W' : World}
theorem FromW.next (h : FromW acc M ac A c rs inp out P0 Kb S m i k w Bx o A1 c1 S' W) (hb : Below W.heap.size W W') : FromW acc M ac A c rs inp out P0 Kb S m i k w Bx o A1 c1 S' W' :=
  ⟨h.mod.next hb, h.spot.next hb, h.res.next hb, h.pair.next hb, h.best.next hb, h.reads.next hb, h.memo.next hb, h.box, h.low, h.hB⟩
theorem FromW.rules (h : FromW acc M ac A c rs inp out P0 Kb S m i k w Bx o A1 c1 S' W) {F : Nat → Prop} (hA : RulesAt F w A rs) (hFK : ¬ F Kb) : RulesAt F W A rs :=
  h.mod.reads hA fun b hb hF hk => by
    rcases hk with rfl | hk
    · exact hFK hF
    · omega
theorem FromW.call (h : FromW acc M ac A c rs inp out P0 Kb S m i k w Bx o A1 c1 S' W) {m' i' k' : Nat} {e : Ending} (hmu : mu inp m' i' < mu inp m i) (hr : FromRes acc rs inp out Kb S' m' i' k' W e W') :
    ∃ A2 c2 S2, e = .returned (wayV A2 c2 (fromE acc rs inp out m' i' k')) ∧ ReadsT 3 W' A2 (rowI (wayOf (fromE acc rs inp out m' i' k')).l) ∧ Mod (· = Kb) W W' ∧ FromW acc M ac A c rs inp out P0 Kb S m i k w Bx o A1 c1 S2 W' := by
  obtain ⟨A2, c2, S2, he, hrd, hmemo, hbox, hlow, hmod⟩ := hr
  have hnt := fun t => h.memo.notTy t
  refine ⟨A2, c2, S2, he, hrd, hmod, ⟨h.mod.trans ?_, hmod.blkT h.spot (hnt _), hmod.blkT h.res (hnt _), hmod.blkT h.pair (hnt _), hmod.blkT h.best (hnt _), h.reads.mod hmod (hnt _), hmemo, hbox, fun s hs => ?_, h.hB⟩⟩
  · exact hmod.mono fun b _ hb => .inl hb
  · rcases hlow s hs with h1 | h1
    · exact h.low s h1
    · exact .inr (by omega)
theorem set3 (w : World) (b : Nat) (t : TypeId) {x y z : Value} (u0 u1 u2 : Value) (h : Blk w b t #[x, y, z]) : Blk (((w.setCell ⟨b, 0, none⟩ u0).setCell ⟨b, 1, none⟩ u1).setCell ⟨b, 2, none⟩ u2) b t #[u0, u1, u2] := by
  simpa using ((h.set 0 u0).set 1 u1).set 2 u2
theorem cell_far3 {w : World} {u v z : Value} {b i q : Nat} {x : Option Value} (h : w.cell? ⟨b, i, none⟩ = x) (hp : b ≠ q) : (((w.setCell ⟨q, 0, none⟩ u).setCell ⟨q, 1, none⟩ v).setCell ⟨q, 2, none⟩ z).cell? ⟨b, i, none⟩ = x := by
  have h1 := Below.heap_setCell ((w.setCell ⟨q, 0, none⟩ u).setCell ⟨q, 1, none⟩ v) ⟨q, 2, none⟩ z b hp
  have h2 := Below.heap_setCell (w.setCell ⟨q, 0, none⟩ u) ⟨q, 1, none⟩ v b hp
  have h3 := Below.heap_setCell w ⟨q, 0, none⟩ u b hp
  exact (World.cell?_of_block (h1.trans (h2.trans h3))).trans h
theorem mod3 (w : World) (b : Nat) (u0 u1 u2 : Value) : Mod (· = b) w (((w.setCell ⟨b, 0, none⟩ u0).setCell ⟨b, 1, none⟩ u1).setCell ⟨b, 2, none⟩ u2) :=
  (((Mod.refl (fun x => x = b) _).set (p := ⟨b, 0, none⟩) rfl _).set (p := ⟨b, 1, none⟩) rfl _).set (p := ⟨b, 2, none⟩) rfl _
theorem Blk.notTy {b : Nat} {t t' : TypeId} {cs : Array Value} (h : Blk w b t cs) (hne : t ≠ t') : NotTy (· = b) w t' := by
  rintro b' rfl ⟨cs', h'⟩
  exact hne (Ty.unique ⟨cs, h⟩ ⟨cs', h'⟩)
theorem loopE_at {rest : Nat → Nat → Nat → Option EndR} {j : Nat} {r : Rule} (h : rs[j]? = some r) : loopE acc rs inp out rest m i k (j + 1) = stepE inp out rest m i k (loopE acc rs inp out rest m i k j) j r := by rw [loopE, h]
theorem wayOf_small {x : Nat} {o : Option EndR} (h : SmallE rs x o) : (wayOf o).l.length ≤ x ∧ (wayOf o).cost ≤ 1000 * x := by
  cases o with
  | none => simp [wayOf]
  | some e => exact ⟨(h e rfl).1, (h e rfl).2.1⟩
theorem rowI_one (l : List Nat) : ∀ u ∈ rowI l, u.oneCell' = true := by
  intro u hu
  unfold rowI at hu
  rw [List.mem_map] at hu
  obtain ⟨n, _, rfl⟩ := hu
  rfl
theorem rowI_len (l : List Nat) : (rowI l).length = l.length := by simp [rowI]
/-- behind a new way: w's box Y -/
def NewW (acc : Nat → Bool) (M ac : Nat) (A : Option Addr) (c : Nat) (rs : List Rule) (inp out : ByteArray) (P0 Kb : Nat) (S : List (Nat × Nat × Nat)) (m i k : Nat) (w : World) (Bx : Nat) (o : Option EndR) (A1 : Option Addr) (c1 : Nat) (S' : List (Nat × Nat × Nat)) (j tot : Nat) (o5 : Option EndR) (x : Value) (W : World) : Prop :=
  ∃ Y g cap, x = .pointer (some ⟨Y, 0, none⟩) ∧ FromW acc M ac A c rs inp out P0 Kb S m i k w Bx o A1 c1 S' W ∧ Blk W Y 95 #[.slice (some ⟨g, 0, none⟩) ((wayOf o5).l.length + 1) cap, .int .i64 tot, .bool o5.isSome] ∧ ReadsT 3 W (some ⟨g, 0, none⟩) (.int .i64 j :: rowI (wayOf o5).l)
theorem NewW.fresh (h : FromW acc M ac A c rs inp out P0 Kb S m i k w Bx o A1 c1 S' W) {j tot : Nat} {o5 : Option EndR} {w5 : World} {g cap : Nat} (hpre : Below W.heap.size W w5) (hrd : ReadsT 3 w5 (some ⟨g, 0, none⟩) (.int .i64 j :: rowI (wayOf o5).l)) :
    NewW acc M ac A c rs inp out P0 Kb S m i k w Bx o A1 c1 S' j tot o5 (.pointer (some ⟨w5.heap.size, 0, none⟩)) (w5.alloc (.cells #[.slice (some ⟨g, 0, none⟩) (1 + (wayOf o5).l.length) cap, .int .i64 tot, .bool o5.isSome] 95)) := by
  refine ⟨_, g, cap, rfl, h.next (hpre.alloc hpre.size _), ?_, hrd.next (below_one _ _)⟩
  rw [Nat.add_comm (wayOf o5).l.length 1]
  exact Blk.new _ _ _
theorem NewW.stored (h : FromW acc M ac A c rs inp out P0 Kb S m i k w Bx o A1 c1 S' W) {j tot : Nat} {o5 : Option EndR} {w5 : World} {g cap Y : Nat} {x0 x1 x2 : Value} (hpre : Below W.heap.size W w5) (hrd : ReadsT 3 w5 (some ⟨g, 0, none⟩) (.int .i64 j :: rowI (wayOf o5).l)) (bY : Blk w5 Y 95 #[x0, x1, x2]) (hY : W.heap.size ≤ Y) :
    NewW acc M ac A c rs inp out P0 Kb S m i k w Bx o A1 c1 S' j tot o5 (.pointer (some ⟨Y, 0, none⟩)) (((w5.setCell ⟨Y, 0, none⟩ (.slice (some ⟨g, 0, none⟩) (1 + (wayOf o5).l.length) cap)).setCell ⟨Y, 1, none⟩ (.int .i64 tot)).setCell ⟨Y, 2, none⟩ (.bool o5.isSome)) := by
  refine ⟨Y, g, cap, rfl, h.next (((hpre.setCell (p := ⟨Y, 0, none⟩) hY _).setCell (p := ⟨Y, 1, none⟩) hY _).setCell (p := ⟨Y, 2, none⟩) hY _), ?_, hrd.mod (mod3 _ _ _ _ _) (bY.notTy (by decide))⟩
  rw [Nat.add_comm (wayOf o5).l.length 1]
  exact set3 _ _ _ _ _ _ bY
def extP (lo : Option EndR) (j x : Nat) : Option EndR → Option EndR
  | none => lo
  | some e => pickE lo (e.ext j x)
theorem pick_no {lo o5 : Option EndR} {j tot x : Nat} (ht : tot = x + (wayOf o5).cost) (h : (if o5.isSome = lo.isSome then (⟨j :: (wayOf o5).l, tot⟩ : EndR).before (wayOf lo) else o5.isSome) = false ∨ o5.isSome = false) :
    extP lo j x o5 = lo := by
  cases o5 with
  | none => rfl
  | some e =>
    rcases h with h | h
    · cases lo with
      | none => simp at h
      | some b =>
        simp only [Option.isSome_some, if_true, wayOf, Option.getD_some] at h ht
        simp only [extP, pickE, EndR.ext, ← ht, h]
        rfl
    · cases h
theorem pick_yes {lo o5 : Option EndR} {j tot x : Nat} (ht : tot = x + (wayOf o5).cost) (h : (if o5.isSome = lo.isSome then (⟨j :: (wayOf o5).l, tot⟩ : EndR).before (wayOf lo) else o5.isSome) = true) (h2 : o5.isSome = true) :
    extP lo j x o5 = some ⟨j :: (wayOf o5).l, tot⟩ := by
  cases o5 with
  | none => cases h2
  | some e =>
    cases lo with
    | none =>
      simp only [wayOf, Option.getD_some] at ht
      simp only [extP, pickE, EndR.ext, ← ht, wayOf, Option.getD_some]
    | some b =>
      simp only [Option.isSome_some, if_true, wayOf, Option.getD_some] at h ht
      simp only [extP, pickE, EndR.ext, ← ht, h, wayOf, Option.getD_some, if_true]
/-- another way is the best -/
theorem FromW.put (h : FromW acc M ac A c rs inp out P0 Kb S m i k w Bx o A1 c1 S' W) {A2 : Option Addr} {n2 c2 x2 : Nat} {b2 : Bool} {o' : Option EndR} (hn : n2 = (wayOf o').l.length) (hx : x2 = (wayOf o').cost) (hb2 : b2 = o'.isSome) (hrd : ReadsT 3 W A2 (rowI (wayOf o').l)) (hP : P0 < w.heap.size) :
    FromW acc M ac A c rs inp out P0 Kb S m i k w Bx o' A2 c2 S' (((W.setCell ⟨Bx, 0, none⟩ (.slice A2 n2 c2)).setCell ⟨Bx, 1, none⟩ (.int .i64 x2)).setCell ⟨Bx, 2, none⟩ (.bool b2)) := by
  subst hn hx hb2
  have hm := mod3 W Bx (.slice A2 (wayOf o').l.length c2) (.int .i64 (wayOf o').cost) (.bool o'.isSome)
  have hnt : ∀ t, 95 ≠ t → NotTy (· = Bx) W t := fun t ht => h.best.notTy ht
  have hB := h.hB
  have hkb : ¬ Kb = Bx := fun he => h.memo.notTy 95 Bx he.symm ⟨_, h.best⟩
  refine ⟨h.mod.trans (hm.mono fun b _ hb => .inr (by have hb : b = Bx := hb; omega)), hm.blk h.spot (by omega), hm.blk h.res (by omega), hm.blk h.pair (by omega), set3 _ _ _ _ _ _ h.best, hrd.mod hm (hnt _ (by decide)), ?_, h.box, h.low, h.hB⟩
  obtain ⟨f, h1, h2⟩ := h.memo
  refine ⟨f, h1.mod hm hkb, fun a b d l hl => ⟨fun hs => ?_, (h2 a b d l hl).2⟩⟩
  obtain ⟨v, h3, h4⟩ := (h2 a b d l hl).1 hs
  exact ⟨v, h3, h4.mod hm (hnt _ (by decide))⟩
end
set_option maxHeartbeats 20000000 in
set_option maxRecDepth 100000 in
theorem from_any (F : Nat → Prop) (M ac : Nat) (A : Option Addr) (c : Nat) (rs : List Rule) (inp out : ByteArray) (P0 Kb : Nat) (hac : ac < 256) (hn : rs.length < 1000) (hi4 : inp.size ≤ 40) (ho2 : out.size ≤ 20)
    (hr : ∀ r ∈ rs, OnE r ∧ r.cost ≤ 1000) (hb : ∀ r ∈ rs, r.inp.size ≤ 4 ∧ r.out.size ≤ 4) (hFK : ¬ F Kb) (hPK : P0 ≠ Kb) :
    ∀ (d m i k : Nat) (S : List (Nat × Nat × Nat)) (w : World), mu inp m i < d → m < 8 → i ≤ inp.size → k ≤ out.size → RulesAt F w A rs →
      Blk w P0 93 #[.int .i64 M, .int .u8 ac, .slice A rs.length c, .string inp, .string out, .map (some Kb)] → Memo (fromE (accB ac) rs inp out) w Kb S → BoxS inp.size out.size S →
      Calls Try.prog 41 #[.pointer (some ⟨P0, 0, none⟩), .agg #[.int .i64 m, .int .i64 i, .int .i64 k]] w (FromRes (accB ac) rs inp out Kb S m i k w) := by
  intro d
  induction d with
  | zero => intro m i k S w h; omega
  | succ d ih =>
    intro m i k S w hd hm hi hk hA bP hM hS
    have hmu : mu inp m i ≤ 8 * 40 + 7 := by unfold mu; omega
    have hPw := bP.lt
    have HIH := Lib.hid ih
    have HA := Lib.hid hA
    have HP := Lib.hid bP
    have HS := Lib.hid hS
    have HR := Lib.hid hr
    have HB := Lib.hid hb
    clear ih hA bP hS hr hb
    have HM := Lib.hid hM
    clear hM
    go_enter Try.func41, Try.ntmps41
    go_upto_region 1 with (fail)
    refine world_gen (fun W => Below w.heap.size w W ∧ Blk W w.heap.size 97 #[.int .i64 m, .int .i64 i, .int .i64 k] ∧ Blk W (w.heap.size + 1) 95 #[.slice none 0 0, .int .i64 0, .bool false]) ⟨(below_one _ _).alloc (by simp) _, (Blk.new _ _ _).alloc _, Blk.new2 _ _ _ _⟩ ?_
    rintro W ⟨hbel, b0, b1⟩
    have hP2 := HP.out.next hbel
    have x5 : W.cell? ⟨P0, 5, none⟩ = some (.map (some Kb)) := hP2.cell 5
    have hPl := hP2.lt
    have y0 : W.cell? ⟨w.heap.size, 0, none⟩ = some (.int .i64 m) := b0.cell 0
    have y1 : W.cell? ⟨w.heap.size, 1, none⟩ = some (.int .i64 i) := b0.cell 1
    have y2 : W.cell? ⟨w.heap.size, 2, none⟩ = some (.int .i64 k) := b0.cell 2
    have hl0 := b0.lt
    have hl1 := b1.lt
    have HB0 := Lib.hid (And.intro hbel (And.intro b0 b1))
    have HP2 := Lib.hid hP2
    have hb1 := hbel.drew
    have hb2 := (hbel.alloc hbel.size (.cells #[.slice none 0 0, .int .i64 0, .bool false] 95)).drew
    clear hbel b0 b1 hP2
    go_cut [5, 6] (fun x y wx => x = .pointer (some ⟨W.heap.size, 0, none⟩) ∧ Below W.heap.size W wx ∧ ((y = .bool true ∧ ∃ A1 c1, Blk wx W.heap.size 95 #[.slice A1 (wayOf (fromE (accB ac) rs inp out m i k)).l.length c1, .int .i64 (wayOf (fromE (accB ac) rs inp out m i k)).cost, .bool (fromE (accB ac) rs inp out m i k).isSome] ∧ ReadsT 3 w A1 (rowI (wayOf (fromE (accB ac) rs inp out m i k)).l)) ∨ (y = .bool false ∧ (m, i, k) ∉ S)))
    case first =>
      as_aux_lemma =>
        by_cases hin : (m, i, k) ∈ S
        · obtain ⟨A1, c1, hl, hR⟩ := HM.out.hit (by omega) (by omega) (by omega) hin
          have hl1 := hl _ hb1
          have hl2 := hl _ hb2
          have HO := Lib.hid hR
          clear hR hl hb1 hb2
          go_region
          all_goals (go_wp2; go_meet)
          all_goals exact ⟨rfl, (below_one _ _).drew, .inl ⟨rfl, A1, c1, (Blk.new _ _ _).drew, HO.out⟩⟩
        · have hl := HM.out.miss (m := m) (i := i) (k := k) (by omega) (by omega) (by omega) hin
          have hl1 := hl _ hb1
          have hl2 := hl _ hb2
          have HN := Lib.hid hin
          clear hl hin hb1 hb2
          go_region
          all_goals (go_wp2; go_meet)
          all_goals exact ⟨rfl, (below_one _ _).drew, .inr ⟨rfl, HN.out⟩⟩
    case rest =>
      obtain ⟨rfl, hbx, hk1⟩ := hcut
      rcases hk1 with ⟨rfl, A1, c1, bw, hR⟩ | ⟨rfl, hin⟩
      ·
        as_aux_lemma =>
          obtain ⟨o, ho⟩ : ∃ o, o = fromE (accB ac) rs inp out m i k := ⟨_, rfl⟩
          rw [← ho] at bw hR
          have z0 : wc.cell? ⟨W.heap.size, 0, none⟩ = some (.slice A1 (wayOf o).l.length c1) := bw.cell 0
          have z1 : wc.cell? ⟨W.heap.size, 1, none⟩ = some (.int .i64 (wayOf o).cost) := bw.cell 1
          have z2 : wc.cell? ⟨W.heap.size, 2, none⟩ = some (.bool o.isSome) := bw.cell 2
          have hbr := HB0.out.2.2.next hbx
          have p0 : wc.cell? ⟨w.heap.size + 1, 0, none⟩ = some (.slice none 0 0) := hbr.cell 0
          have p1 : wc.cell? ⟨w.heap.size + 1, 1, none⟩ = some (.int .i64 0) := hbr.cell 1
          have p2 : wc.cell? ⟨w.heap.size + 1, 2, none⟩ = some (.bool false) := hbr.cell 2
          have f0 : wc.frozen? ⟨w.heap.size + 1, 0, none⟩ = false := hbr.free 0
          have f1 : wc.frozen? ⟨w.heap.size + 1, 1, none⟩ = false := hbr.free 1
          have f2 : wc.frozen? ⟨w.heap.size + 1, 2, none⟩ = false := hbr.free 2
          have hlr := hbr.lt
          have hlw := bw.lt
          have HE := Lib.hid (And.intro ho (And.intro hR (HB0.out.1.trans (hbx.mono HB0.out.1.size))))
          clear ho hR bw hbr hbx
          go_wp2_with fail
          refine bodyPost_ret (v := .agg #[.slice A1 (wayOf o).l.length c1, .int .i64 (wayOf o).cost, .bool o.isSome]) (by simp [results, Try.results41, go_sem, p0, p1, p2, f0, f1, f2]) rfl ?_
          have hbq := ((HE.out.2.2.setCell (p := ⟨w.heap.size + 1, 0, none⟩) (by simp) (.slice A1 (wayOf o).l.length c1)).setCell (p := ⟨w.heap.size + 1, 1, none⟩) (by simp) (.int .i64 (wayOf o).cost)).setCell (p := ⟨w.heap.size + 1, 2, none⟩) (by simp) (.bool o.isSome)
          exact ⟨A1, c1, S, by rw [← HE.out.1]; rfl, by rw [← HE.out.1]; exact HE.out.2.1.next hbq, HM.out.next hbq, HS.out, fun s hs => .inl hs, Mod.of_below hbq⟩
      · have HN := Lib.hid hin
        have hP3 := HP2.out.next hbx
        have b3 := HB0.out.2.1.next hbx
        have br := HB0.out.2.2.next hbx
        have hb3 := HB0.out.1.trans (hbx.mono HB0.out.1.size)
        have HW := Lib.hid (And.intro hb3 (And.intro b3 (And.intro br hP3)))
        have y0 : wc.cell? ⟨w.heap.size, 0, none⟩ = some (.int .i64 m) := b3.cell 0
        have y1 : wc.cell? ⟨w.heap.size, 1, none⟩ = some (.int .i64 i) := b3.cell 1
        have y2 : wc.cell? ⟨w.heap.size, 2, none⟩ = some (.int .i64 k) := b3.cell 2
        have x0 : wc.cell? ⟨P0, 0, none⟩ = some (.int .i64 M) := hP3.cell 0
        have x1 : wc.cell? ⟨P0, 1, none⟩ = some (.int .u8 ac) := hP3.cell 1
        have x2 : wc.cell? ⟨P0, 2, none⟩ = some (.slice A rs.length c) := hP3.cell 2
        have x3 : wc.cell? ⟨P0, 3, none⟩ = some (.string inp) := hP3.cell 3
        have x4 : wc.cell? ⟨P0, 4, none⟩ = some (.string out) := hP3.cell 4
        clear hin hbx hP3 b3 br hb3 hb1 hb2
        clear x5
        go_upto_region 4 with (fail)
        go_quiet (fail)
        go_upto_region 5 with (fail)
        refine world_gen (fun W2 => Below w.heap.size w W2 ∧ Blk W2 w.heap.size 97 #[.int .i64 m, .int .i64 i, .int .i64 k] ∧ Blk W2 (w.heap.size + 1) 95 #[.slice none 0 0, .int .i64 0, .bool false] ∧ Blk W2 P0 93 #[.int .i64 M, .int .u8 ac, .slice A rs.length c, .string inp, .string out, .map (some Kb)]) ⟨below_drewN HW.out.1 _, HW.out.2.1.drewN _, HW.out.2.2.1.drewN _, HW.out.2.2.2.drewN _⟩ ?_
        clear HW HB0 HP2 y0 y1 y2 x0 x1 x2 x3 x4
        rintro W2 ⟨hb3, b3, br, hP3⟩
        have x0 : W2.cell? ⟨P0, 0, none⟩ = some (.int .i64 M) := hP3.cell 0
        have x1 : W2.cell? ⟨P0, 1, none⟩ = some (.int .u8 ac) := hP3.cell 1
        have x2 : W2.cell? ⟨P0, 2, none⟩ = some (.slice A rs.length c) := hP3.cell 2
        have x3 : W2.cell? ⟨P0, 3, none⟩ = some (.string inp) := hP3.cell 3
        have x4 : W2.cell? ⟨P0, 4, none⟩ = some (.string out) := hP3.cell 4
        have hPl := hP3.lt
        have HW := Lib.hid (And.intro hb3 (And.intro b3 (And.intro br hP3)))
        clear hb3 b3 br hP3
        go_cut [10] (fun x wx => ∃ Bx, x = .pointer (some ⟨Bx, 0, none⟩) ∧ W2.heap.size ≤ Bx ∧ Blk wx Bx 95 #[.slice none 0 0, .int .i64 0, .bool (restE (accB ac) inp out m i k).isSome] ∧ Below W2.heap.size W2 wx)
        case first =>
          as_aux_lemma =>
            by_cases e1 : i = inp.size
            · have q1 : ((i : Int) == (inp.size : Int)) = true := by rw [e1]; simp
              by_cases e2 : k = out.size
              · have q2 : ((k : Int) == (out.size : Int)) = true := by rw [e2]; simp
                obtain ⟨ab, hab⟩ : ∃ ab, accB ac m = ab := ⟨_, rfl⟩
                have hrest : (restE (accB ac) inp out m i k).isSome = ab := by unfold restE; rw [hab]; cases ab <;> simp [e1, e2]
                have HRE := Lib.hid (And.intro hrest hab)
                clear hrest hab e1 e2
                go_wp2_with (go_at_call 33; refine (raccepts_any M ac A rs.length c m _ hac hm).mono ?_; rintro e w5 ⟨rfl, hb5⟩; rw [HRE.out.2]; have HB5 := Lib.hid hb5; have hs5 := hb5.size; clear hb5)
                go_meet
                exact ⟨_, rfl, hs5, by rw [HRE.out.1]; exact Blk.new _ _ _, HB5.out.alloc hs5 _⟩
              · have q2 : ((k : Int) == (out.size : Int)) = false := by rw [beq_eq_false_iff_ne]; omega
                have hrest : (restE (accB ac) inp out m i k).isSome = false := by unfold restE; simp [e2]
                have HRE := Lib.hid hrest
                clear hrest e2
                go_wp2_with fail
                go_meet
                exact ⟨_, rfl, Nat.le_refl _, by rw [HRE.out]; exact Blk.new _ _ _, below_one _ _⟩
            · have q1 : ((i : Int) == (inp.size : Int)) = false := by rw [beq_eq_false_iff_ne]; omega
              have hrest : (restE (accB ac) inp out m i k).isSome = false := by unfold restE; simp [e1]
              have HRE := Lib.hid hrest
              clear hrest e1
              go_wp2_with fail
              go_meet
              exact ⟨_, rfl, Nat.le_refl _, by rw [HRE.out]; exact Blk.new _ _ _, below_one _ _⟩
        case rest =>
          obtain ⟨Bx, rfl, hBx, bB, hb4⟩ := hcut
          have hP4 := HW.out.2.2.2.next hb4
          have x0 : wc.cell? ⟨P0, 0, none⟩ = some (.int .i64 M) := hP4.cell 0
          have x1 : wc.cell? ⟨P0, 1, none⟩ = some (.int .u8 ac) := hP4.cell 1
          have x2 : wc.cell? ⟨P0, 2, none⟩ = some (.slice A rs.length c) := hP4.cell 2
          have hPl := hP4.lt
          have hW2 := HW.out.1.trans (hb4.mono HW.out.1.size)
          have hwB : w.heap.size + 1 < Bx := Nat.lt_of_lt_of_le HW.out.2.2.1.lt hBx
          have H4 := Lib.hid (And.intro hW2 (And.intro (HW.out.2.1.next hb4) (And.intro (HW.out.2.2.1.next hb4) (And.intro hP4 bB))))
          clear hP4 hW2 bB hb4 HW x3 x4
          have hF0 : FromW (accB ac) M ac A c rs inp out P0 Kb S m i k w Bx (loopE (accB ac) rs inp out (fromE (accB ac) rs inp out) m i k 0) none 0 S wc := by
            obtain ⟨g1, g2, g3, g4, g5⟩ := H4.out
            have hw0 : wayOf (restE (accB ac) inp out m i k) = ⟨[], 0⟩ := by
              unfold restE
              split <;> rfl
            refine ⟨Mod.of_below g1, g2, g3, g4, ?_, ?_, HM.out.next g1, HS.out, fun s hs => .inl hs, hwB⟩
            · show Blk wc Bx _ #[.slice none (wayOf (restE (accB ac) inp out m i k)).l.length 0, .int .i64 (wayOf (restE (accB ac) inp out m i k)).cost, .bool (restE (accB ac) inp out m i k).isSome]
              rw [hw0]
              exact g5
            · show ReadsT _ wc none (rowI (wayOf (restE (accB ac) inp out m i k)).l)
              rw [hw0]
              exact Reads.nil _
          have HF0 := Lib.hid hF0
          clear hF0
          go_wp2_with fail
          go_loopw [63] (fun z wr => ∃ (j : Nat) (A1 : Option Addr) (c1 : Nat) (S' : List (Nat × Nat × Nat)), j ≤ rs.length ∧ z = .int .i64 j ∧ FromW (accB ac) M ac A c rs inp out P0 Kb S m i k w Bx (loopE (accB ac) rs inp out (fromE (accB ac) rs inp out) m i k j) A1 c1 S' wr) (fun z _ => rs.length - (intOf z).toNat)
          case atStart => exact ⟨0, none, 0, S, by omega, rfl, HF0.out⟩
          case round =>
            clear HF0 H4 x0 x1 x2 hPl wc
            obtain ⟨j, A1, c1, S', hj, rfl, hFW⟩ := hrel
            by_cases hjl : j < rs.length
            · obtain ⟨r, hrj⟩ : ∃ r, rs[j]? = some r := ⟨_, List.getElem?_eq_getElem hjl⟩
              have hA2 := hFW.rules HA.out hFK
              obtain ⟨br, or, rfl⟩ := Reads.some_ hA2 (by rw [cells_length]; omega)
              obtain ⟨_, hbr, y0, y1, y2, y3, y4⟩ := RulesAt.got hA2 hrj
              have hi0 : (0 : Int) ≤ (j : Int) := by omega
              have hi1 : (j : Int) < (rs.length : Int) := by omega
              have HFW := Lib.hid hFW
              have HRJ := Lib.hid hrj
              clear hFW hA2 hrj
              go_upto_region 9 with (fail)
              refine world_gen (fun W3 => FromW (accB ac) M ac (some ⟨br, or, none⟩) c rs inp out P0 Kb S m i k w Bx (loopE (accB ac) rs inp out (fromE (accB ac) rs inp out) m i k j) A1 c1 S' W3 ∧ Blk W3 wr.heap.size 65 #[.int .i64 r.frm, .int .i64 r.dst, .string r.inp, .string r.out, .int .i64 r.cost]) ⟨HFW.out.next (below_one _ _), Blk.new _ _ _⟩ ?_
              clear y0 y1 y2 y3 y4 hbr HFW
              generalize wr.heap.size = R at *
              rintro W3 ⟨hF3, hR3⟩
              have r0 : W3.cell? ⟨R, 0, none⟩ = some (.int .i64 r.frm) := hR3.cell 0
              have r2 : W3.cell? ⟨R, 2, none⟩ = some (.string r.inp) := hR3.cell 2
              have r3 : W3.cell? ⟨R, 3, none⟩ = some (.string r.out) := hR3.cell 3
              have x3 : W3.cell? ⟨P0, 3, none⟩ = some (.string inp) := hF3.pair.cell 3
              have x4 : W3.cell? ⟨P0, 4, none⟩ = some (.string out) := hF3.pair.cell 4
              have hlR := hR3.lt
              have hlP := hF3.pair.lt
              have HF3 := Lib.hid (And.intro hF3 hR3)
              clear hF3 hR3
              obtain ⟨hri, hro⟩ := HB.out r (List.mem_of_getElem? HRJ.out)
              have hii0 : (0 : Int) ≤ (i : Int) := by omega
              have hii1 : (i : Int) ≤ (inp.size : Int) := by omega
              have hkk0 : (0 : Int) ≤ (k : Int) := by omega
              have hkk1 : (k : Int) ≤ (out.size : Int) := by omega
              go_cut [95] (fun x wx => x = .bool (!fitsE inp out m i k r) ∧ Below W3.heap.size W3 wx)
              case first =>
                as_aux_lemma =>
                  by_cases e1 : r.frm = m
                  · have q1 : ((r.frm : Int) == (m : Int)) = true := by rw [e1]; simp
                    have q1' : ((r.frm : Int) != (m : Int)) = false := by rw [e1]; simp
                    obtain ⟨p1, hp1⟩ : ∃ p1, prefB (inp.extract i inp.size) r.inp = p1 := ⟨_, rfl⟩
                    obtain ⟨p2, hp2⟩ : ∃ p2, prefB (out.extract k out.size) r.out = p2 := ⟨_, rfl⟩
                    have hpre1 : ∀ w : World, Calls Try.prog 34 #[.string (inp.extract i inp.size), .string r.inp] w fun e w' => e = .returned (.bool p1) ∧ w' = w := fun w => by
                      have h := pref_any (inp.extract i inp.size) r.inp w (by rw [extract_size]; unfold maxLen; omega) (by unfold maxLen; omega)
                      rw [hp1] at h
                      exact h
                    have hpre2 : ∀ w : World, Calls Try.prog 34 #[.string (out.extract k out.size), .string r.out] w fun e w' => e = .returned (.bool p2) ∧ w' = w := fun w => by
                      have h := pref_any (out.extract k out.size) r.out w (by rw [extract_size]; unfold maxLen; omega) (by unfold maxLen; omega)
                      rw [hp2] at h
                      exact h
                    have HPRE1 := Lib.hid hpre1
                    have HPRE2 := Lib.hid hpre2
                    have hfit : fitsE inp out m i k r = (p1 && p2) := by unfold fitsE; rw [hp1, hp2, e1]; simp
                    have HFIT := Lib.hid hfit
                    clear hpre1 hpre2 hfit hp1 hp2 e1
                    cases p1 with
                    | false =>
                      go_quiet ((go_at_call 34; exact Calls.quiet_of_same (HPRE1.out _)))
                      go_wp2
                      go_meet
                      case rel => exact ⟨by rw [HFIT.out]; rfl, below_drewN (Below.refl _ _) _⟩
                    | true =>
                      go_region_held3 (fun w' => w'.cell? ⟨R, 0, none⟩ = some (.int .i64 r.frm) ∧ w'.cell? ⟨R, 2, none⟩ = some (.string r.inp) ∧ w'.cell? ⟨R, 3, none⟩ = some (.string r.out) ∧ w'.cell? ⟨P0, 3, none⟩ = some (.string inp) ∧ w'.cell? ⟨P0, 4, none⟩ = some (.string out))
                        (first | exact ⟨r0, r2, r3, x3, x4⟩ | go_keep)
                        (first
                          | (go_at_call 34; refine (HPRE1.out _).mono ?_; rintro e w2 ⟨rfl, rfl⟩)
                          | (go_at_call 34; refine (HPRE2.out _).mono ?_; rintro e w2 ⟨rfl, rfl⟩))
                      all_goals (go_wp2; go_meet)
                      all_goals exact ⟨by rw [HFIT.out]; simp, by first | exact below_drewN (Below.refl _ _) _ | exact (Below.refl _ _).drew⟩
                  · have q1 : ((r.frm : Int) == (m : Int)) = false := by rw [beq_eq_false_iff_ne]; omega
                    have q1' : ((r.frm : Int) != (m : Int)) = true := by simp; omega
                    have hfit : fitsE inp out m i k r = false := by unfold fitsE; simp [e1]
                    have HFIT := Lib.hid hfit
                    clear hfit e1
                    go_quiet (fail)
                    go_wp2
                    go_meet
                    case rel => exact ⟨by rw [HFIT.out]; rfl, below_drewN (Below.refl _ _) _⟩
              case rest =>
                obtain ⟨rfl, hb9⟩ := hcut
                obtain ⟨ft, hft⟩ : ∃ ft, fitsE inp out m i k r = ft := ⟨_, rfl⟩
                have hstep := loopE_at (acc := accB ac) (rs := rs) (inp := inp) (out := out) (m := m) (i := i) (k := k) (rest := fromE (accB ac) rs inp out) HRJ.out
                unfold stepE at hstep
                rw [hft] at hstep
                have HST := Lib.hid hstep
                have HFT := Lib.hid hft
                have HF4 := Lib.hid (And.intro (HF3.out.1.next hb9) (HF3.out.2.next hb9))
                rw [hft]
                clear hstep hft r0 r2 r3 x3 x4 HF3 hb9
                cases ft with
                | false =>
                  go_wp2_with fail
                  go_roundw
                  case rel => exact ⟨j + 1, A1, c1, S', by omega, by go_num, by rw [HST.out]; exact HF4.out.1⟩
                  case measure => simp [intOf]; omega
                | true =>
                  have hon := HR.out r (List.mem_of_getElem? HRJ.out)
                  have hmuR := mu_on inp out hi hk hon.1 HFT.out
                  have hin2 := fits_in inp out hi hk HFT.out
                  have hdst := hon.1.1
                  have hco := hon.2
                  obtain ⟨ii, hii⟩ : ∃ ii, ii = i + r.inp.size := ⟨_, rfl⟩
                  obtain ⟨kk, hkk⟩ : ∃ kk, kk = k + r.out.size := ⟨_, rfl⟩
                  rw [← hii, ← hkk] at hin2
                  rw [← hii] at hmuR
                  have hst := HST.out
                  simp only [if_true] at hst
                  rw [← hii, ← hkk] at hst
                  have HST2 := Lib.hid hst
                  have s1 : (i : Int) + (r.inp.size : Int) = (ii : Int) := by omega
                  have s2 : (k : Int) + (r.out.size : Int) = (kk : Int) := by omega
                  have HSS := Lib.hid (And.intro s1 s2)
                  clear s1 s2
                  have r1 : wc.cell? ⟨R, 1, none⟩ = some (.int .i64 r.dst) := HF4.out.2.cell 1
                  have r2 : wc.cell? ⟨R, 2, none⟩ = some (.string r.inp) := HF4.out.2.cell 2
                  have r3 : wc.cell? ⟨R, 3, none⟩ = some (.string r.out) := HF4.out.2.cell 3
                  have hlR := HF4.out.2.lt
                  have HMU := Lib.hid (And.intro hmuR (And.intro hin2 (And.intro hdst hco)))
                  have hsm := fromE_small (accB ac) rs inp out HR.out hin2.1 hin2.2 (m := r.dst)
                  have HSM := Lib.hid hsm
                  have HII := Lib.hid (And.intro hii hkk)
                  clear hsm hon hst HST hii hkk
                  have HC := Lib.hid (HIH.out r.dst ii kk S' wc (by omega) hdst hin2.1 hin2.2 (HF4.out.1.rules HA.out hFK) HF4.out.1.pair HF4.out.1.memo HF4.out.1.box)
                  go_upto_region 11 with (go_at_call 41; rw [HSS.out.1, HSS.out.2]; refine HC.out.mono ?_; rintro e w5 hr5; obtain ⟨A5, c5, S5, rfl, hrd5, hm5, hF5⟩ := HF4.out.1.call hmuR hr5; have hR5 := hm5.blkT HF4.out.2 (HF4.out.1.memo.notTy _); have H5 := Lib.hid (And.intro hrd5 (And.intro hF5 hR5)); clear hrd5 hF5 hR5 hm5 hr5; unfold wayV)
                  obtain ⟨o5, ho5⟩ : ∃ o5, fromE (accB ac) rs inp out r.dst ii kk = o5 := ⟨_, rfl⟩
                  rw [ho5] at H5 HSM HST2 ⊢
                  clear ho5
                  refine world_gen (fun W5 => FromW (accB ac) M ac (some ⟨br, or, none⟩) c rs inp out P0 Kb S m i k w Bx (loopE (accB ac) rs inp out (fromE (accB ac) rs inp out) m i k j) A1 c1 S5 W5 ∧ Blk W5 R 65 #[.int .i64 r.frm, .int .i64 r.dst, .string r.inp, .string r.out, .int .i64 r.cost] ∧ Blk W5 w5.heap.size 95 #[.slice A5 (wayOf o5).l.length c5, .int .i64 (wayOf o5).cost, .bool o5.isSome] ∧ ReadsT 3 W5 A5 (rowI (wayOf o5).l)) ⟨H5.out.2.1.next (below_one _ _), H5.out.2.2.next (below_one _ _), Blk.new _ _ _, H5.out.1.next (below_one _ _)⟩ ?_
                  generalize w5.heap.size = Zb at *
                  clear r1 r2 r3 hlR HC HF4 H5
                  rintro W5 ⟨hF5, hR5, hZ5, hrd5⟩
                  have hsmall := wayOf_small HSM.out
                  have hmu5 := HMU.out.1
                  obtain ⟨lo, hlo⟩ : ∃ lo, loopE (accB ac) rs inp out (fromE (accB ac) rs inp out) m i k j = lo := ⟨_, rfl⟩
                  have hsl := wayOf_small (loopE_small' (accB ac) rs inp out HR.out hi hk j (m := m))
                  rw [hlo] at hF5 HST2 hsl
                  have HSL := Lib.hid (And.intro hsmall hsl)
                  have hcost : (wayOf o5).cost ≤ 1000 * 327 := by omega
                  have hlen5 : (wayOf o5).l.length ≤ 327 := by omega
                  clear hsmall hsl hlo
                  obtain ⟨tot, htot⟩ : ∃ tot, tot = r.cost + (wayOf o5).cost := ⟨_, rfl⟩
                  have hsum : IntKind.i64.wrap ((r.cost : Int) + ((wayOf o5).cost : Int)) = (tot : Int) := by
                    have := HMU.out.2.2.2
                    rw [IntWalk.i64_in _ (by omega)]; omega
                  have HTOT := Lib.hid htot
                  clear htot
                  go_cut [14] (fun x wx => NewW (accB ac) M ac (some ⟨br, or, none⟩) c rs inp out P0 Kb S m i k w Bx lo A1 c1 S5 j tot o5 x wx)
                  case first =>
                    as_aux_lemma =>
                      obtain ⟨j0, hj0, hy0, hy1, hy2⟩ := info_parts int_info
                      have x4 : W5.cell? ⟨R, 4, none⟩ = some (.int .i64 r.cost) := hR5.cell 4
                      have p0 : W5.cell? ⟨Zb, 0, none⟩ = some (.slice A5 (wayOf o5).l.length c5) := hZ5.cell 0
                      have p1 : W5.cell? ⟨Zb, 1, none⟩ = some (.int .i64 (wayOf o5).cost) := hZ5.cell 1
                      have p2 : W5.cell? ⟨Zb, 2, none⟩ = some (.bool o5.isSome) := hZ5.cell 2
                      have hZW := hZ5.lt
                      have hRW := hR5.lt
                      have hco := HMU.out.2.2.2
                      have hD := below_drewN (Below.refl W5.heap.size W5) 1
                      have HH := Lib.hid (And.intro hF5 (And.intro hR5 (And.intro hZ5 hrd5)))
                      clear hF5 hR5 hZ5
                      go_region_held3 (fun w' => w'.cell? ⟨R, 4, none⟩ = some (.int .i64 r.cost) ∧ w'.cell? ⟨Zb, 0, none⟩ = some (.slice A5 (wayOf o5).l.length c5) ∧ w'.cell? ⟨Zb, 1, none⟩ = some (.int .i64 (wayOf o5).cost) ∧ w'.cell? ⟨Zb, 2, none⟩ = some (.bool o5.isSome)) (first | exact ⟨x45, p05, p15, p25⟩ | exact ⟨cell_far3 x45 (by simp; omega), cell_far3 p05 (by simp; omega), cell_far3 p15 (by simp; omega), cell_far3 p25 (by simp; omega)⟩ | go_keep | exact ⟨cell_far3 (by go_simp) (by simp; omega), cell_far3 (by go_simp) (by simp; omega), cell_far3 (by go_simp) (by simp; omega), cell_far3 (by go_simp) (by simp; omega)⟩) ((first | (refine step_append_oneT (by rfl) _ _ 40 (by rfl) 3 j0 (.int .i64 0) 8 Try.underlying40 hj0 hy0 hy1 hy2 (by rfl) _ (.int .i64 j) (by rfl) (by first | exact Blk.new _ _ _ | exact (Blk.new _ _ _).alloc _ | (have h := Blk.new (W5.alloc (.cells #[.slice none 0 0, .int .i64 0, .bool false] 95)) 3 #[.int .i64 j]; simp at h; exact h)) (Ty W5 3) A5 c5 (rowI (wayOf o5).l) (wayOf o5).l.length (by rfl) (by exact rowI_len _) (by first | exact Reads.below hrd5 (below_drewN ((Below.refl _ _).alloc (Nat.le_refl _) _) 1) | exact Reads.below hrd5 (below_drewN (((Below.refl _ _).alloc (Nat.le_refl _) _).alloc (by simp) _) 1)) (by exact rowI_one _) (by unfold maxLen; omega) (by omega) ?_; intro g cap w5 hcap5 hrd hgr5; have hpre5 : Below W5.heap.size W5 w5 := (by first | exact (below_drewN ((Below.refl _ _).alloc (Nat.le_refl _) _) 1).grown hgr5 (by simp) (fun k hk => by have := Option.some.inj hk; omega) | exact (below_drewN (((Below.refl _ _).alloc (Nat.le_refl _) _).alloc (by simp) _) 1).grown hgr5 (by simp; omega) (fun k hk => by have := Option.some.inj hk; omega)); have x45 : w5.cell? ⟨R, 4, none⟩ = some (.int .i64 r.cost) := (HH.out.2.1.next hpre5).cell 4; have p05 : w5.cell? ⟨Zb, 0, none⟩ = some (.slice A5 (wayOf o5).l.length c5) := (HH.out.2.2.1.next hpre5).cell 0; have p15 : w5.cell? ⟨Zb, 1, none⟩ = some (.int .i64 (wayOf o5).cost) := (HH.out.2.2.1.next hpre5).cell 1; have p25 : w5.cell? ⟨Zb, 2, none⟩ = some (.bool o5.isSome) := (HH.out.2.2.1.next hpre5).cell 2; have hz5 : Zb < w5.heap.size := Nat.lt_of_lt_of_le hZW hpre5.size; have hx5 : R < w5.heap.size := Nat.lt_of_lt_of_le hRW hpre5.size; have hw5 := hpre5.size; (first | (have b18 : Blk w5 W5.heap.size 95 #[.slice none 0 0, .int .i64 0, .bool false] := (by refine Blk.grown ?_ hgr5 (by simp); exact (Blk.new W5 _ _).alloc _); have u180 : w5.cell? ⟨W5.heap.size, 0, none⟩ = some (.slice none 0 0) := b18.cell 0; have u181 : w5.cell? ⟨W5.heap.size, 1, none⟩ = some (.int .i64 0) := b18.cell 1; have u182 : w5.cell? ⟨W5.heap.size, 2, none⟩ = some (.bool false) := b18.cell 2; have v180 : w5.frozen? ⟨W5.heap.size, 0, none⟩ = false := b18.free 0; have v181 : w5.frozen? ⟨W5.heap.size, 1, none⟩ = false := b18.free 1; have v182 : w5.frozen? ⟨W5.heap.size, 2, none⟩ = false := b18.free 2; have B18 := Lib.hid b18; clear b18) | (have b19 : Blk w5 (W5.heap.size + 1) 95 #[.slice none 0 0, .int .i64 0, .bool false] := (by refine Blk.grown ?_ hgr5 (by simp); have h := Blk.new (W5.alloc (.cells #[.int .i64 j] 3)) 95 #[.slice none 0 0, .int .i64 0, .bool false]; simp at h; exact h); have u190 : w5.cell? ⟨W5.heap.size + 1, 0, none⟩ = some (.slice none 0 0) := b19.cell 0; have u191 : w5.cell? ⟨W5.heap.size + 1, 1, none⟩ = some (.int .i64 0) := b19.cell 1; have u192 : w5.cell? ⟨W5.heap.size + 1, 2, none⟩ = some (.bool false) := b19.cell 2; have v190 : w5.frozen? ⟨W5.heap.size + 1, 0, none⟩ = false := b19.free 0; have v191 : w5.frozen? ⟨W5.heap.size + 1, 1, none⟩ = false := b19.free 1; have v192 : w5.frozen? ⟨W5.heap.size + 1, 2, none⟩ = false := b19.free 2; have B18 := Lib.hid b19; clear b19) | skip))))
                      all_goals (go_wp2; go_meet)
                      all_goals first
                        | exact NewW.fresh HH.out.1 hpre5 hrd
                        | exact NewW.stored HH.out.1 hpre5 hrd B18.out (by omega)
                  case rest =>
                    obtain ⟨Y, g, cap, rfl, hFY, bY, hrY⟩ := hcut
                    have z0 : wc.cell? ⟨Y, 0, none⟩ = some (.slice (some ⟨g, 0, none⟩) ((wayOf o5).l.length + 1) cap) := bY.cell 0
                    have z1 : wc.cell? ⟨Y, 1, none⟩ = some (.int .i64 tot) := bY.cell 1
                    have z2 : wc.cell? ⟨Y, 2, none⟩ = some (.bool o5.isSome) := bY.cell 2
                    have b0 : wc.cell? ⟨Bx, 0, none⟩ = some (.slice A1 (wayOf lo).l.length c1) := hFY.best.cell 0
                    have b1 : wc.cell? ⟨Bx, 1, none⟩ = some (.int .i64 (wayOf lo).cost) := hFY.best.cell 1
                    have b2 : wc.cell? ⟨Bx, 2, none⟩ = some (.bool lo.isSome) := hFY.best.cell 2
                    have hYl := bY.lt
                    have hBl := hFY.best.lt
                    obtain ⟨bq, hbq⟩ : ∃ bq, (if o5.isSome = lo.isSome then (⟨j :: (wayOf o5).l, tot⟩ : EndR).before (wayOf lo) else o5.isSome) = bq := ⟨_, rfl⟩
                    have hcb : Calls Try.prog 63 #[.agg #[.slice (some ⟨g, 0, none⟩) ((wayOf o5).l.length + 1) cap, .int .i64 tot, .bool o5.isSome], .agg #[.slice A1 (wayOf lo).l.length c1, .int .i64 (wayOf lo).cost, .bool lo.isSome]] wc fun z w' => z = .returned (.bool bq) ∧ Below wc.heap.size wc w' := by
                      have h := wayBefore_any (fun _ => True) (fun _ => True) (some ⟨g, 0, none⟩) A1 cap c1 o5.isSome lo.isSome ⟨j :: (wayOf o5).l, tot⟩ (wayOf lo) wc hrY.reads hFY.reads.reads (by have := HSL.out; simp only [List.length_cons]; omega) (by have := HSL.out; omega)
                      rw [hbq] at h
                      exact h
                    have HBQ := Lib.hid hbq
                    have HY := Lib.hid (And.intro hFY (And.intro bY hrY))
                    obtain ⟨y5, hy5⟩ : ∃ y5, o5.isSome = y5 := ⟨_, rfl⟩
                    rw [hy5] at z2 hcb
                    have HCB := Lib.hid hcb
                    have HY5 := Lib.hid hy5
                    clear hcb hbq hFY bY hrY hy5
                    have hst3 : loopE (accB ac) rs inp out (fromE (accB ac) rs inp out) m i k (j + 1) = extP lo j r.cost o5 := HST2.out.trans (by cases o5 <;> rfl)
                    have HST3 := Lib.hid hst3
                    clear hst3
                    cases bq with
                    | false =>
                      have HN5 := Lib.hid (HST3.out.trans (pick_no HTOT.out (.inl HBQ.out)))
                      cases y5
                      all_goals
                        go_wp2_with (go_at_call 63; refine HCB.out.mono ?_; rintro e w12 ⟨rfl, hb12⟩; have H12 := Lib.hid hb12; have z2 : w12.cell? ⟨Y, 2, none⟩ = some (.bool _) := (hb12.cell (p := ⟨Y, 2, none⟩) hYl).trans z2; clear hb12)
                        go_roundw
                        case rel => exact ⟨j + 1, A1, c1, S5, by omega, by go_num, by rw [HN5.out]; exact HY.out.1.next H12.out⟩
                        case measure => simp [intOf]; omega
                    | true =>
                      cases y5 with
                      | false =>
                        have HN5 := Lib.hid (HST3.out.trans (pick_no HTOT.out (.inr HY5.out)))
                        go_wp2_with (go_at_call 63; refine HCB.out.mono ?_; rintro e w12 ⟨rfl, hb12⟩; have H12 := Lib.hid hb12; have z2 : w12.cell? ⟨Y, 2, none⟩ = some (.bool false) := (hb12.cell (p := ⟨Y, 2, none⟩) hYl).trans z2; clear hb12)
                        go_roundw
                        case rel => exact ⟨j + 1, A1, c1, S5, by omega, by go_num, by rw [HN5.out]; exact HY.out.1.next H12.out⟩
                        case measure => simp [intOf]; omega
                      | true =>
                        have HN5 := Lib.hid (HST3.out.trans (pick_yes HTOT.out HBQ.out HY5.out))
                        go_wp2_with (go_at_call 63; refine HCB.out.mono ?_; rintro e w12 ⟨rfl, hb12⟩; have H12 := Lib.hid hb12; have hY12 := HY.out.2.1.next hb12; have hB12 := HY.out.1.best.next hb12; have z0 : w12.cell? ⟨Y, 0, none⟩ = some (.slice (some ⟨g, 0, none⟩) ((wayOf o5).l.length + 1) cap) := hY12.cell 0; have z1 : w12.cell? ⟨Y, 1, none⟩ = some (.int .i64 tot) := hY12.cell 1; have z2 : w12.cell? ⟨Y, 2, none⟩ = some (.bool true) := (hb12.cell (p := ⟨Y, 2, none⟩) hYl).trans z2; have b0 : w12.cell? ⟨Bx, 0, none⟩ = some (.slice A1 (wayOf lo).l.length c1) := hB12.cell 0; have b1 : w12.cell? ⟨Bx, 1, none⟩ = some (.int .i64 (wayOf lo).cost) := hB12.cell 1; have b2 : w12.cell? ⟨Bx, 2, none⟩ = some (.bool lo.isSome) := hB12.cell 2; have g0 : w12.frozen? ⟨Bx, 0, none⟩ = false := hB12.free 0; have g1 : w12.frozen? ⟨Bx, 1, none⟩ = false := hB12.free 1; have g2 : w12.frozen? ⟨Bx, 2, none⟩ = false := hB12.free 2; clear hb12 hY12 hB12)
                        go_roundw
                        case rel => exact ⟨j + 1, some ⟨g, 0, none⟩, cap, S5, by omega, by go_num, by rw [HN5.out]; exact (HY.out.1.next H12.out).put (o' := some ⟨j :: (wayOf o5).l, tot⟩) rfl rfl rfl (HY.out.2.2.next H12.out) hPw⟩
                        case measure => simp [intOf]; omega
            · obtain rfl : j = rs.length := by omega
              rw [← fromE_eq (accB ac) rs inp out (fun r hr => (HR.out r hr).1) hi hk] at hFW
              obtain ⟨o, ho⟩ : ∃ o, fromE (accB ac) rs inp out m i k = o := ⟨_, rfl⟩
              rw [ho] at hFW
              have x5 : wr.cell? ⟨P0, 5, none⟩ = some (.map (some Kb)) := hFW.pair.cell 5
              have y0 : wr.cell? ⟨w.heap.size, 0, none⟩ = some (.int .i64 m) := hFW.spot.cell 0
              have y1 : wr.cell? ⟨w.heap.size, 1, none⟩ = some (.int .i64 i) := hFW.spot.cell 1
              have y2 : wr.cell? ⟨w.heap.size, 2, none⟩ = some (.int .i64 k) := hFW.spot.cell 2
              have b0 : wr.cell? ⟨Bx, 0, none⟩ = some (.slice A1 (wayOf o).l.length c1) := hFW.best.cell 0
              have b1 : wr.cell? ⟨Bx, 1, none⟩ = some (.int .i64 (wayOf o).cost) := hFW.best.cell 1
              have b2 : wr.cell? ⟨Bx, 2, none⟩ = some (.bool o.isSome) := hFW.best.cell 2
              have hnew : (m, i, k) ∉ S' := fun hs => by
                rcases hFW.low _ hs with h1 | h1
                · exact HN.out h1
                · simp only at h1; omega
              have hD := below_drewN (Below.refl wr.heap.size wr) 1
              have hFD := hFW.next hD
              have hlenS : S'.length < maxLen := by
                have h1 := hFW.box.len
                have h2 : (inp.size + 1) * (out.size + 1) ≤ 41 * 21 := Nat.mul_le_mul (by omega) (by omega)
                unfold maxLen
                omega
              have hway : WayAt wr.drew (wayV A1 c1 o) (fromE (accB ac) rs inp out m i k) := by rw [ho]; exact ⟨A1, c1, rfl, hFD.reads⟩
              obtain ⟨w15, hrun, hM15, hmod15, hW15⟩ := hFD.memo.put (m := m) (i := i) (k := k) (by omega) (by omega) (by omega) hnew hlenS hway
              have hnt := hFD.memo.notTy
              have hres15 := hmod15.blkT hFD.res (hnt _)
              have hbest15 := hmod15.blkT hFD.best (hnt _)
              have hrd15 := hFD.reads.mod hmod15 (hnt _)
              have hmodw := hFD.mod.trans (hmod15.mono fun b _ hb => .inl hb)
              have hlow15 : ∀ s ∈ (m, i, k) :: S', s ∈ S ∨ mu inp s.1 s.2.1 ≤ mu inp m i := fun s hs => by
                rw [List.mem_cons] at hs
                rcases hs with rfl | hs
                · exact .inr (Nat.le_refl _)
                · rcases hFW.low s hs with h1 | h1
                  · exact .inl h1
                  · exact .inr (by omega)
              have hbox15 : BoxS inp.size out.size ((m, i, k) :: S') := ⟨List.nodup_cons.2 ⟨hnew, hFW.box.1⟩, fun s hs => by
                rw [List.mem_cons] at hs
                rcases hs with rfl | hs
                · exact ⟨hm, hi, hk⟩
                · exact hFW.box.2 s hs⟩
              have hrun2 : (Instr.mapUpdate 91 (.map (some Kb)) (.agg #[.int .i64 m, .int .i64 i, .int .i64 k]) (.agg #[.slice A1 (wayOf o).l.length c1, .int .i64 (wayOf o).cost, .bool o.isSome])).run Try.prog wr.drew = .ok () w15 := hrun
              have HRUN := Lib.hid hrun2
              have q0 : w15.cell? ⟨Bx, 0, none⟩ = some (.slice A1 (wayOf o).l.length c1) := hbest15.cell 0
              have q1 : w15.cell? ⟨Bx, 1, none⟩ = some (.int .i64 (wayOf o).cost) := hbest15.cell 1
              have q2 : w15.cell? ⟨Bx, 2, none⟩ = some (.bool o.isSome) := hbest15.cell 2
              have p0 : w15.cell? ⟨w.heap.size + 1, 0, none⟩ = some (.slice none 0 0) := hres15.cell 0
              have p1 : w15.cell? ⟨w.heap.size + 1, 1, none⟩ = some (.int .i64 0) := hres15.cell 1
              have p2 : w15.cell? ⟨w.heap.size + 1, 2, none⟩ = some (.bool false) := hres15.cell 2
              have f0 : w15.frozen? ⟨w.heap.size + 1, 0, none⟩ = false := hres15.free 0
              have f1 : w15.frozen? ⟨w.heap.size + 1, 1, none⟩ = false := hres15.free 1
              have f2 : w15.frozen? ⟨w.heap.size + 1, 2, none⟩ = false := hres15.free 2
              have hlr := hres15.lt
              have hlb := hbest15.lt
              have HE := Lib.hid (And.intro ho (And.intro hM15 (And.intro hmodw (And.intro hrd15 (And.intro hbox15 (And.intro hlow15 hres15))))))
              clear ho hFW hFD hway hrun hrun2 hM15 hmod15 hW15 hres15 hbest15 hrd15 hmodw hbox15 hlow15 hnew hD hnt
              go_upto_region 15 with (fail)
              go_still_tail 6, (by kernel_rfl)
              change wpList _ _ _ _ _ wr.drew
              go_wp2_with (at_mapUpdate; refine wpList_store_run (by rfl) _ _ _ _ (by rfl) (by rfl) (by rfl) (by rfl) (by exact HRUN.out) ?_)
              refine bodyPost_ret (v := .agg #[.slice A1 (wayOf o).l.length c1, .int .i64 (wayOf o).cost, .bool o.isSome]) (by simp [results, Try.results41, go_sem, p0, p1, p2, f0, f1, f2]) rfl ?_
              obtain ⟨g1, g2, g3, g4, g5, g6, g7⟩ := HE.out
              have hm3 := mod3 w15 (w.heap.size + 1) (.slice A1 (wayOf o).l.length c1) (.int .i64 (wayOf o).cost) (.bool o.isSome)
              have hn3 : NotTy (· = w.heap.size + 1) w15 3 := g7.notTy (by decide)
              have hk3 : ¬ Kb = w.heap.size + 1 := fun he => g2.notTy 95 _ he.symm ⟨_, g7⟩
              refine ⟨A1, c1, (m, i, k) :: S', by rw [g1]; rfl, by rw [g1]; exact g4.mod hm3 hn3, g2.mod hm3 hk3 hn3, g5, g6, ?_⟩
              refine (g3.trans (hm3.mono (T := fun b => b = Kb ∨ w.heap.size ≤ b) fun b _ hb => .inr (by have hb : b = w.heap.size + 1 := hb; omega))).mono fun b hb hs => ?_
              rcases hs with hs | hs
              · exact hs
              · omega
end Go.Proofs.Ythcnnadggffjhaa
