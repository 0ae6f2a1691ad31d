/- The walk of the reference of layer 2: Made. -/
import Derived.Test.YthcnnadggffjhaaW5
import Derived.Test.YthcnnadggffjhaaW6
import Derived.Test.YthcnnadggffjhaaLA
import Derived.Test.YthcnnadggffjhaaPA
set_option linter.unusedVariables false
set_option linter.unusedSimpArgs false
namespace Go.Proofs.Ythcnnadggffjhaa
open Go.RowKit

/-- bytes and lengths as the reader gives them -/
def RawRule.wf (r : RawRule) : Prop := r.frm < 256 ∧ r.dst < 256 ∧ r.cost < 256 ∧ r.inp.length ≤ maxLen ∧ r.out.length ≤ maxLen ∧ (∀ c ∈ r.inp, c < 256) ∧ ∀ c ∈ r.out, c < 256
/-- a slice of rules in the raw -/
def RawAt (F : Nat → Prop) (w : World) (A : Option Addr) (l : List RawRule) : Prop :=
  ∀ k (hk : k < l.length), ∃ b o A1 c1 A2 c2, A = some ⟨b, o, none⟩ ∧ F b ∧ b < w.heap.size ∧ w.cell? ⟨b, o + k * 5, none⟩ = some (.slice A1 l[k].inp.length c1) ∧ w.cell? ⟨b, o + k * 5 + 1, none⟩ = some (.slice A2 l[k].out.length c2) ∧
    w.cell? ⟨b, o + k * 5 + 2, none⟩ = some (.int .u8 l[k].frm) ∧ w.cell? ⟨b, o + k * 5 + 3, none⟩ = some (.int .u8 l[k].dst) ∧ w.cell? ⟨b, o + k * 5 + 4, none⟩ = some (.int .u8 l[k].cost) ∧
    SlAt v8 F w A1 l[k].inp ∧ SlAt v8 F w A2 l[k].out
theorem RawAt.below {F : Nat → Prop} {w w' : World} {A : Option Addr} {l : List RawRule} (h : RawAt F w A l) (hb : Below w.heap.size w w') : RawAt F w' A l := fun k hk =>
  let ⟨b, o, A1, c1, A2, c2, e, hF, hl, h0, h1, h2, h3, h4, h5, h6⟩ := h k hk
  ⟨b, o, A1, c1, A2, c2, e, hF, Nat.lt_of_lt_of_le hl hb.size, (hb.cell (p := ⟨b, _, _⟩) hl).trans h0, (hb.cell (p := ⟨b, _, _⟩) hl).trans h1, (hb.cell (p := ⟨b, _, _⟩) hl).trans h2, (hb.cell (p := ⟨b, _, _⟩) hl).trans h3, (hb.cell (p := ⟨b, _, _⟩) hl).trans h4, h5.below hb, h6.below hb⟩
theorem Reads.lower {F : Nat → Prop} {w w' : World} {A : Option Addr} {xs : List Value} {B : Nat} (h : Reads F w A xs) (hF : ∀ b, F b → b < B) (hb : Below B w w') : Reads F w' A xs := h.keep hb.size fun b hb' _ => hb.block b (hF b hb')
theorem RawAt.lower {F : Nat → Prop} {w w' : World} {A : Option Addr} {l : List RawRule} {B : Nat} (h : RawAt F w A l) (hF : ∀ b, F b → b < B) (hb : Below B w w') : RawAt F w' A l := fun k hk =>
  let ⟨b, o, A1, c1, A2, c2, e, hf, hl, h0, h1, h2, h3, h4, h5, h6⟩ := h k hk
  have hB := hF b hf
  ⟨b, o, A1, c1, A2, c2, e, hf, Nat.lt_of_lt_of_le hl hb.size, (hb.cell (p := ⟨b, _, _⟩) hB).trans h0, (hb.cell (p := ⟨b, _, _⟩) hB).trans h1, (hb.cell (p := ⟨b, _, _⟩) hB).trans h2, (hb.cell (p := ⟨b, _, _⟩) hB).trans h3, (hb.cell (p := ⟨b, _, _⟩) hB).trans h4, Reads.lower h5 hF hb, Reads.lower h6 hF hb⟩

/-- a scheme as the result of a call that makes it: its rules may be appended to -/
def SchemeRes (s : Scheme) (w : World) (e : Ending) (w' : World) : Prop :=
  ∃ A c, e = .returned (.agg #[.int .i64 s.modes, .int .u8 s.accept, .slice A s.rules.length c]) ∧ Below w.heap.size w w' ∧ Acc w.heap.size w' 65 5 A s.rules.length c (s.rules.flatMap Rule.cells)

theorem rule_info : (Try.prog.info? 65).map (fun i => (i.zero, i.size, i.bytes)) = some (some (.agg #[.int .i64 0, .int .i64 0, .string .empty, .string .empty, .int .i64 0]), 5, 56) := by kernel_rfl

/-- what is known of the world while 'Made' works: w is the world in which it began, S the block of its scheme -/
def Made2W (base drop : Nat) (A : Option Addr) (n c : Nat) (m a S : Nat) (rs : List Rule) (w W : World) : Prop :=
  Below w.heap.size w W ∧ w.heap.size + 1 < S ∧ Blk W w.heap.size 24 #[.int .u8 base, .int .u8 drop, .slice A n c] ∧
    Blk W (w.heap.size + 1) 31 #[.int .i64 0, .int .u8 0, .slice none 0 0] ∧ (∀ r ∈ rs, r.short) ∧
    ∃ A' c', Blk W S 31 #[.int .i64 m, .int .u8 a, .slice A' rs.length c'] ∧ Acc (w.heap.size + 2) W 65 5 A' rs.length c' (rs.flatMap Rule.cells)

/-- the same behind an append: the rules lie in a row of the call's own -/
def Made2P (base drop : Nat) (A : Option Addr) (n c : Nat) (m a S : Nat) (rs : List Rule) (w W : World) : Prop :=
  Below w.heap.size w W ∧ w.heap.size + 1 < S ∧ Blk W w.heap.size 24 #[.int .u8 base, .int .u8 drop, .slice A n c] ∧
    Blk W (w.heap.size + 1) 31 #[.int .i64 0, .int .u8 0, .slice none 0 0] ∧ (∀ r ∈ rs, r.short) ∧
    ∃ A' c', Blk W S 31 #[.int .i64 m, .int .u8 a, .slice A' rs.length c'] ∧ W.ownsRow (w.heap.size + 2) 65 5 (.slice A' rs.length c') rs.length (rs.flatMap Rule.cells)
theorem own_pop {w : World} {base : Nat} {e : TypeId} {size n c : Nat} {A : Option Addr} {xs ys : List Value} (h : w.ownsRow base e size (.slice A (n + 1) c) (n + 1) (xs ++ ys)) (hx : xs.length = n * size) :
    w.ownsRow base e size (.slice A n c) n xs := by
  refine ⟨hx, ?_⟩
  rcases h.2 with ⟨_, h0⟩ | ⟨g, cap, cur, hv, hg, hh, hnc, hcm, hcs, htake⟩
  · omega
  · injection hv with h1 h2 h3
    refine .inr ⟨g, cap, cur, by rw [h1, h3], hg, hh, by omega, hcm, hcs, ?_⟩
    have : (cur.toList.take ((n + 1) * size)).take (n * size) = (xs ++ ys).take (n * size) := by rw [htake]
    rw [List.take_take, Nat.min_eq_left (Nat.mul_le_mul_right _ (by omega)), ← hx, List.take_left] at this
    rw [← hx]
    exact this
theorem made2_keep {base drop n c m a S : Nat} {A : Option Addr} {rs : List Rule} {w W w5 : World} (h : Made2P base drop A n c m a S rs w W) (hb : Below W.heap.size W w5) : Made2W base drop A n c m a S rs w w5 := by
  obtain ⟨h0, h1, h2, h3, h4, A', c', h5, h6⟩ := h
  have h7 : Acc (w.heap.size + 2) W 65 5 A' rs.length c' (rs.flatMap Rule.cells) := .inl h6
  exact ⟨h0.trans (hb.mono h0.size), h1, h2.next hb, h3.next hb, h4, A', c', h5.next hb, h7.below hb⟩
theorem made2_cut {base drop n c m a S : Nat} {A : Option Addr} {rs : List Rule} {q : Rule} {A' : Option Addr} {c' : Nat} {w W w5 : World} (hbel : Below w.heap.size w W) (hS : w.heap.size + 1 < S)
    (b0 : Blk W w.heap.size 24 #[.int .u8 base, .int .u8 drop, .slice A n c]) (b1 : Blk W (w.heap.size + 1) 31 #[.int .i64 0, .int .u8 0, .slice none 0 0])
    (hs : ∀ r ∈ rs, r.short) (bS : Blk W S 31 #[.int .i64 m, .int .u8 a, .slice A' (rs ++ [q]).length c'])
    (hown : W.ownsRow (w.heap.size + 2) 65 5 (.slice A' (rs ++ [q]).length c') (rs ++ [q]).length ((rs ++ [q]).flatMap Rule.cells)) (hb : Below W.heap.size W w5) :
    Made2W base drop A n c m a S rs w (w5.setCell ⟨S, 2, none⟩ (.slice A' rs.length c')) := by
  have h7 : Acc (w.heap.size + 2) w5 65 5 A' (rs ++ [q]).length c' ((rs ++ [q]).flatMap Rule.cells) := Acc.below (.inl hown) hb
  have hown' : w5.ownsRow (w.heap.size + 2) 65 5 (.slice A' rs.length c') rs.length (rs.flatMap Rule.cells) := by
    refine own_pop (ys := q.cells) ?_ (cells_length rs)
    have h8 := hown.kept (w' := w5) (row := none) ⟨hb.os, hb.tape, hb.output, hb.size, fun k hk _ => hb.block k hk⟩ (by cases hv : (Value.slice A' (rs ++ [q]).length c').ownBlock <;> simp)
    simpa using h8
  refine ⟨(hbel.trans (hb.mono hbel.size)).setCell (p := ⟨S, 2, none⟩) (by simp; omega) _, hS, (b0.next hb).far (by simp; omega) _, (b1.next hb).far (by simp; omega) _, hs, A', c', ?_, .inl ?_⟩
  · have := (bS.next hb).set 2 (.slice A' rs.length c')
    simpa using this
  · exact Acc.far (p := ⟨S, 2, none⟩) hown' (bS.next hb) (by decide) _

theorem made2_start {base drop n c m a S : Nat} {A : Option Addr} {rs : List Rule} {w w1 : World} {A' : Option Addr} {c' : Nat} (hbel : Below w.heap.size w w1) (hS : S = w1.heap.size) (hlt : w.heap.size + 1 < w1.heap.size)
    (b0 : Blk w1 w.heap.size 24 #[.int .u8 base, .int .u8 drop, .slice A n c]) (b1 : Blk w1 (w.heap.size + 1) 31 #[.int .i64 0, .int .u8 0, .slice none 0 0]) (hs : ∀ r ∈ rs, r.short)
    (hacc : Acc (w.heap.size + 2) w1 65 5 A' rs.length c' (rs.flatMap Rule.cells)) :
    Made2W base drop A n c m a S rs w (w1.alloc (.cells #[.int .i64 m, .int .u8 a, .slice A' rs.length c'] 31)) := by
  subst hS
  exact ⟨hbel.alloc hbel.size _, hlt, b0.alloc _, b1.alloc _, hs, A', c', Blk.new _ _ _, hacc.below ((Below.refl _ _).alloc (Nat.le_refl _) _)⟩

theorem made2_push {base drop n c m a S g cap : Nat} {A A' : Option Addr} {c' : Nat} {rs : List Rule} {q : Rule} {r : RawRule} {mo : Nat} {w W w2 w4 : World} {C : Array Value} {row : Option Nat}
    (hbel : Below w.heap.size w W) (hS : w.heap.size + 1 < S) (b0 : Blk W w.heap.size 24 #[.int .u8 base, .int .u8 drop, .slice A n c]) (b1 : Blk W (w.heap.size + 1) 31 #[.int .i64 0, .int .u8 0, .slice none 0 0])
    (hs : ∀ r ∈ rs, r.short) (bS : Blk W S 31 #[.int .i64 m, .int .u8 a, .slice A' rs.length c']) (hb2 : Below W.heap.size W w2) (hgr : (w2.alloc (.cells C 65)).grownBy w4 row)
    (hrow : RowOk (w.heap.size + 2) (w2.alloc (.cells C 65)) 65 row)
    (hown : w4.ownsRow (w.heap.size + 2) 65 5 (.slice (some ⟨g, 0, none⟩) (rs.length + 1) cap) (rs.length + 1) (rs.flatMap Rule.cells ++ [.int .i64 q.frm, .int .i64 q.dst, .string q.inp, .string q.out, .int .i64 q.cost])) (hq : q = r.made mo) :
    Made2P base drop A n c m a S (rs ++ [q]) w (w4.setCell ⟨S, 2, none⟩ (.slice (some ⟨g, 0, none⟩) (rs.length + 1) cap)) := by
  have hbel2 : Below w.heap.size w (w2.alloc (.cells C 65)) := (hbel.trans (hb2.mono hbel.size)).alloc (Nat.le_trans hbel.size hb2.size) _
  have hbel4 := below_rowOk hbel2 hgr hrow (by omega) hbel2.size
  have bS4 := ((bS.next hb2).alloc _).rowOk hgr hrow (by decide)
  have b04 := ((b0.next hb2).alloc _).rowOk hgr hrow (by decide)
  have b14 := ((b1.next hb2).alloc _).rowOk hgr hrow (by decide)
  refine ⟨hbel4.setCell (p := ⟨S, 2, none⟩) (by simp; omega) _, hS, b04.far (by simp; omega) _, b14.far (by simp; omega) _, ?_, some ⟨g, 0, none⟩, cap, ?_, ?_⟩
  · intro x hx
    rcases List.mem_append.1 hx with hx | hx
    · exact hs x hx
    · rw [List.mem_singleton.1 hx, hq]; exact r.made_short _
  · have := bS4.set 2 (.slice (some ⟨g, 0, none⟩) (rs.length + 1) cap)
    simpa using this
  · have e : (rs ++ [q]).flatMap Rule.cells = rs.flatMap Rule.cells ++ [.int .i64 q.frm, .int .i64 q.dst, .string q.inp, .string q.out, .int .i64 q.cost] := by simp [Rule.cells]
    rw [e, List.length_append, List.length_singleton]
    exact Acc.far (p := ⟨S, 2, none⟩) hown bS4 (by decide) _

theorem flat_cells_drop1 (rs : List Rule) : (rs.drop 1).flatMap Rule.cells = (rs.flatMap Rule.cells).drop (1 * 5) := by
  cases rs with
  | nil => rfl
  | cons r rs => simp [Rule.cells]

/-- the tight slice that 'Base' hands back, whole or without its first rule -/
theorem base_acc {g d : Nat} {rs : List Rule} {B : Nat} {w1 : World} (hrow : w1.heap[g]? = some (.cells (rs.flatMap Rule.cells).toArray 65 (0, 0))) (hB : B ≤ g) (hd : d ≤ 1) (hn : 2 ≤ rs.length) :
    Acc B w1 65 5 (some ⟨g, d * 5, none⟩) (rs.drop d).length (rs.drop d).length ((rs.drop d).flatMap Rule.cells) := by
  have hr : Reads (B ≤ ·) w1 (some ⟨g, 0, none⟩) (rs.flatMap Rule.cells) := by
    have := Reads.block (F := (B ≤ ·)) hrow hB
    simpa using this
  refine .inr ⟨rfl, by rw [cells_length], by simp, ?_⟩
  rcases Nat.le_one_iff_eq_zero_or_eq_one.1 hd with rfl | rfl
  · simpa using hr
  · rw [flat_cells_drop1]
    have := hr.drop_ (k := 1) (n := rs.length) (cap := rs.length) (size := 5) (cells_length rs) (by omega) (Nat.le_refl _)
    rw [if_neg (by omega)] at this
    simpa [Addr.add] using this

theorem made1_agg (F : Nat → Prop) (r : RawRule) (q : Rule) (A1 A2 : Option Addr) (c1 c2 m : Nat) (w : World) (h1 : SlAt v8 F w A1 r.inp) (h2 : SlAt v8 F w A2 r.out) (hm : 1 ≤ m) (hm8 : m ≤ 8) (hr : r.wf) (hq : Hid (q = r.made m)) :
    Calls Try.prog 24 #[.agg #[.slice A1 r.inp.length c1, .slice A2 r.out.length c2, .int .u8 r.frm, .int .u8 r.dst, .int .u8 r.cost], .int .i64 m] w fun e w' =>
      e = .returned (.agg #[.int .i64 q.frm, .int .i64 q.dst, .string q.inp, .string q.out, .int .i64 q.cost]) ∧ Below w.heap.size w w' := by
  obtain ⟨q1, q2, q3, q4, q5, q6, q7⟩ := hr
  rw [hq.out]
  exact made1_any F r A1 A2 c1 c2 m w h1 h2 hm hm8 q1 q2 q3 q4 q5 q6 q7

theorem pushRule_no {m : Nat} {rs : List Rule} {q : Rule} (h : rightAt m (rs ++ [q]) rs.length = false) : pushRule m rs q = rs := by unfold pushRule; rw [h]; rfl
theorem pushRule_yes {m : Nat} {rs : List Rule} {q : Rule} (h : rightAt m (rs ++ [q]) rs.length = true) : pushRule m rs q = rs ++ [q] := by unfold pushRule; rw [h]; rfl
set_option maxHeartbeats 2000000 in
set_option maxRecDepth 100000 in
theorem made2_any (F : Nat → Prop) (base drop : Nat) (more : List RawRule) (A : Option Addr) (c : Nat) (w : World) (hF : ∀ b, F b → b < w.heap.size) (h : RawAt F w A more) (hwf : ∀ r ∈ more, r.wf) (hb8 : base < 256) (hd8 : drop < 256) (hl : more.length ≤ maxLen) :
    Calls Try.prog 29 #[.agg #[.int .u8 base, .int .u8 drop, .slice A more.length c]] w (SchemeRes (made2 base drop more) w) := by
  unfold maxLen at hl
  go_enter Try.func29, Try.ntmps29
  go_wp2_with fail
  refine (base_any _ _ hb8).mono ?_
  rintro e w1 ⟨g, rfl, hb1, hg, hrow⟩
  obtain ⟨bs, hbs⟩ : ∃ bs, bs = (baseOf (base % 6)).rules := ⟨_, rfl⟩
  obtain ⟨n, hn⟩ : ∃ n, n = bs.length := ⟨_, rfl⟩
  have hn3 : 3 ≤ n ∧ n ≤ 5 := by rw [hn, hbs]; exact baseOf_len _
  obtain ⟨mo, hmo⟩ : ∃ mo, mo = (baseOf (base % 6)).modes := ⟨_, rfl⟩
  have hm12 : 1 ≤ mo ∧ mo ≤ 2 := by rw [hmo]; rcases baseOf_modes (base % 6) with e | e <;> rw [e] <;> omega
  obtain ⟨ac, hac⟩ : ∃ ac, ac = (baseOf (base % 6)).accept := ⟨_, rfl⟩
  have hshort : ∀ r ∈ bs, r.short := by rw [hbs]; exact baseOf_short _
  rw [← hbs, ← hn, ← hmo, ← hac]
  rw [← hbs] at hrow
  have HF : Hid (SchemeRes (made2 base drop more) w = SchemeRes ⟨mo, ac, madeRules mo (bs.drop (drop % 2)) (more.take 4)⟩ w) := by rw [hmo, hac, hbs]; exact rfl
  have Hrow := Lib.hid hrow
  have HN := Lib.hid hn
  have HS := Lib.hid hshort
  clear hn hmo hac hrow hshort hbs
  have hsz : w.heap.size + 1 < w1.heap.size := by have := hb1.size; simp at this; omega
  have hsz0 : w.heap.size < w1.heap.size := by omega
  have b0 : Blk w1 w.heap.size 24 #[.int .u8 base, .int .u8 drop, .slice A more.length c] := ((Blk.new _ _ _).alloc _).next hb1
  have b1 : Blk w1 (w.heap.size + 1) 31 #[.int .i64 0, .int .u8 0, .slice none 0 0] := (show Blk _ _ _ _ from by rw [show w.heap.size + 1 = (w.alloc _).heap.size from (by simp)]; exact Blk.new _ _ _).next hb1
  have hbel : Below w.heap.size w w1 := (((Below.refl _ _).alloc (Nat.le_refl _) _).alloc (by simp) _).trans (hb1.mono (by simp; omega))
  have hg' : w.heap.size + 1 < g := by simp at hg; omega
  clear hb1 hg
  have c1 : w1.cell? ⟨w.heap.size, 1, none⟩ = some (.int .u8 drop) := b0.cell 1
  have B0 := Lib.hid b0
  have B1 := Lib.hid b1
  clear b0 b1
  generalize hrs0 : bs.drop (drop % 2) = rs0
  have HR0 := Lib.hid hrs0
  clear hrs0
  go_upto_region 2 with (fail)
  go_cut [] (fun wx => Made2W base drop A more.length c mo ac w1.heap.size rs0 w wx)
  case first =>
    rcases Nat.mod_two_eq_zero_or_one drop with hd | hd
    · have hd' : (drop : Int) % 2 = 0 := by omega
      go_wp2_with fail
      go_meet
      have := made2_start (m := mo) (a := ac) (A' := some ⟨g, 0 * 5, none⟩) (rs := bs.drop 0) hbel rfl hsz B0.out B1.out (fun r hr => HS.out r (by simpa using hr)) (base_acc Hrow.out (by omega) (by omega) (by have := HN.out; omega))
      rw [← HR0.out, hd]
      simpa [← HN.out] using this
    · have hd' : (drop : Int) % 2 = 1 := by omega
      go_wp2_with fail
      go_meet
      have := made2_start (m := mo) (a := ac) (A' := some ⟨g, 1 * 5, none⟩) (rs := bs.drop 1) hbel rfl hsz B0.out B1.out (fun r hr => HS.out r (List.mem_of_mem_drop hr)) (base_acc Hrow.out (by omega) (by omega) (by have := HN.out; omega))
      rw [← HR0.out, hd]
      simpa [← HN.out] using this
  case rest =>
    have hr9 : rs0.length ≤ 5 := by rw [← HR0.out, List.length_drop]; have := HN.out; omega
    have HF' : Hid (SchemeRes (made2 base drop more) w = SchemeRes ⟨mo, ac, madeRules mo rs0 (more.take 4)⟩ w) := by rw [← HR0.out]; exact HF.out
    have hW := hcut
    clear HF Hrow HN HS B0 B1 hbel hg' HR0 hcut c1 hsz hsz0
    generalize w1.heap.size = S at *
    go_wp2_with fail
    go_loopw [4] (fun x wr => ∃ k : Nat, k ≤ more.length ∧ k ≤ 4 ∧ x = .int .i64 k ∧ Made2W base drop A more.length c mo ac S (madeRules mo rs0 (more.take k)) w wr) (fun x _ => 4 - (intOf x).toNat)
    case atStart => exact ⟨0, by omega, by omega, rfl, hW⟩
    case round =>
      clear hW
      obtain ⟨k, hk, hk4, rfl, hM⟩ := hrel
      by_cases hin : (k : Int) < (more.length : Int) ∧ (k : Int) < 4
      · obtain ⟨hl1, hl4⟩ := hin
        have hkl : k < more.length := by omega
        obtain ⟨hbel, hSlt, b0, b1, hsh, A', c', bS, hacc⟩ := hM
        obtain ⟨rs, hrs⟩ : ∃ rs, rs = madeRules mo rs0 (more.take k) := ⟨_, rfl⟩
        rw [← hrs] at hsh bS hacc
        have HRS := Lib.hid hrs
        clear hrs
        obtain ⟨b, o, A1, c1, A2, c2, rfl, hFb, hbl, e0, e1, e2, e3, e4, s1, s2⟩ := (h.lower hF hbel) k hkl
        have x0 : wr.cell? ⟨S, 0, none⟩ = some (.int .i64 mo) := bS.cell 0
        have x2 : wr.cell? ⟨S, 2, none⟩ = some (.slice A' rs.length c') := bS.cell 2
        have fx2 : wr.frozen? ⟨S, 2, none⟩ = false := bS.free 2
        have d2 : wr.cell? ⟨w.heap.size, 2, none⟩ = some (.slice (some ⟨b, o, none⟩) more.length c) := b0.cell 2
        have hwk := hwf more[k] (List.getElem_mem hkl)
        obtain ⟨q, hq⟩ : ∃ q, q = more[k].made mo := ⟨_, rfl⟩
        have HQ := Lib.hid hq
        clear hq
        have hlen : rs.length ≤ 9 := by
          have h1 := madeRules_len mo (more.take k) rs0
          rw [← HRS.out, List.length_take] at h1
          omega
        go_upto_region 6 with (fail)
        go_cut [] (fun wx => Made2P base drop (some ⟨b, o, none⟩) more.length c mo ac S (rs ++ [q]) w wx)
        case first =>
          obtain ⟨i0, hi0, hz0, hz1, hz2⟩ := info_parts rule_info
          clear HF' HRS hwf hF hb8 hd8 hr9 hn3 hk hk4
          go_region_law (first | (refine step_append_acc _ (by rfl) _ _ _ (by rfl) (w.heap.size + 2) 65 i0 _ 5 56 Try.underlying29 hi0 hz0 hz1 hz2 (by rfl) (by omega) A' rs.length c' (rs.flatMap Rule.cells) (by rfl) (by exact hacc2.below ((Below.refl _ _).alloc (Nat.le_refl _) _)) w2.heap.size 65 (0, 0) 1 1 #[.int .i64 q.frm, .int .i64 q.dst, .string q.inp, .string q.out, .int .i64 q.cost] (by rfl) (by rfl) (by exact heap_alloc_new _ _) (by simp [Value.oneCell']) (by omega) (by unfold maxLen; omega) (by omega) (by simp; omega) ?_; intro g2 cap w4 row hown hgr hrow hat hlt4; have bS4 := ((bS.next hb2').alloc _).rowOk hgr hrow (by decide); have y2 : w4.cell? ⟨S, 2, none⟩ = some (.slice A' rs.length c') := bS4.cell 2; have fy2 : w4.frozen? ⟨S, 2, none⟩ = false := bS4.free 2) | (go_simp; go_at_call 24; refine (made1_agg F more[k] q A1 A2 c1 c2 mo _ (by exact s1) (by exact s2) hm12.1 (by omega) hwk HQ).mono ?_; rintro e w2 ⟨rfl, hb2⟩; have x2' : w2.cell? ⟨S, 2, none⟩ = some (.slice A' rs.length c') := (hb2.cell (p := ⟨S, 2, none⟩) bS.lt).trans x2; have hb2' : Below wr.heap.size wr w2 := ⟨hb2.os, hb2.tape, hb2.output, hb2.size, hb2.block⟩; have hacc2 := hacc.below hb2'; have hS2 : S < w2.heap.size := Nat.lt_of_lt_of_le bS.lt hb2.size; have hbel2 := hbel.trans (hb2'.mono hbel.size)))
          all_goals (go_wp2_with fail; go_meet)
          all_goals (exact made2_push hbel hSlt b0 b1 hsh bS hb2' hgr hrow hown HQ.out)
        case rest =>
          have HP : Hid (madeRules mo rs0 (more.take (k + 1)) = pushRule mo rs q) := by
            rw [List.take_succ_eq_append_getElem hkl, madeRules_snoc, ← HRS.out, ← HQ.out]
            exact rfl
          clear bS hacc x0 x2 fx2 d2 e0 e1 e2 e3 e4 s1 s2 hsh hbel b0 b1 hFb hbl
          have hcut' := hcut
          obtain ⟨hbel, hSlt, b0, b1, hsh, A', c', bS, hown⟩ := hcut
          have x0 : wc.cell? ⟨S, 0, none⟩ = some (.int .i64 mo) := bS.cell 0
          have x1 : wc.cell? ⟨S, 1, none⟩ = some (.int .u8 ac) := bS.cell 1
          have x2 : wc.cell? ⟨S, 2, none⟩ = some (.slice A' (rs ++ [q]).length c') := bS.cell 2
          go_wp2_with fail
          have H := right_any (w.heap.size + 2 ≤ ·) mo ac A' c' (rs ++ [q]) rs.length wc (Reads.of_own hown) (by simp) (by simp; omega) (by omega) (fun r hr => by have := hsh r hr; unfold Rule.short at this; unfold maxLen; omega)
          rw [List.length_append, List.length_singleton] at H
          have hwc : S < wc.heap.size := bS.lt
          rcases hg : rightAt mo (rs ++ [q]) rs.length with _ | _
          · rw [hg] at H
            have HG := Lib.hid hg
            clear hg
            refine H.mono ?_
            clear H
            rintro e w5 ⟨rfl, hb5⟩
            have y2 : w5.cell? ⟨S, 2, none⟩ = some (.slice A' (rs.length + 1) c') := by
              have := (bS.next hb5).cell 2
              simpa using this
            have fy2 : w5.frozen? ⟨S, 2, none⟩ = false := (bS.next hb5).free 2
            have hc' : (rs.length : Int) ≤ (c' : Int) := by
              have : Acc (w.heap.size + 2) wc 65 5 A' (rs ++ [q]).length c' ((rs ++ [q]).flatMap Rule.cells) := .inl hown
              have := this.le_
              simp at this
              omega
            go_wp2
            go_roundw
            case rel => exact ⟨k + 1, by omega, by omega, by go_num, by rw [HP.out, pushRule_no HG.out]; exact made2_cut hbel hSlt b0 b1 (fun r hr => hsh r (List.mem_append_left _ hr)) bS hown hb5⟩
            case measure => simp [intOf]; omega
          · rw [hg] at H
            have HG := Lib.hid hg
            clear hg
            refine H.mono ?_
            clear H
            rintro e w5 ⟨rfl, hb5⟩
            go_wp2
            go_roundw
            case rel => exact ⟨k + 1, by omega, by omega, by go_num, by rw [HP.out, pushRule_yes HG.out]; exact made2_keep hcut' hb5⟩
            case measure => simp [intOf]; omega
      · have hX : more.take k = more.take 4 := by
          rcases Nat.lt_or_ge k 4 with h | h
          · rw [List.take_of_length_le (by omega), List.take_of_length_le (by omega)]
          · rw [show k = 4 from by omega]
        rw [hX] at hM
        clear hX
        obtain ⟨hbel, hSlt, b0, b1, hsh, A', c', bS, hacc⟩ := hM
        obtain ⟨rs, hrs⟩ : ∃ rs, rs = madeRules mo rs0 (more.take 4) := ⟨_, rfl⟩
        rw [← hrs] at hsh bS hacc HF'
        clear hrs
        have d2 : wr.cell? ⟨w.heap.size, 2, none⟩ = some (.slice A more.length c) := b0.cell 2
        have x0 : wr.cell? ⟨S, 0, none⟩ = some (.int .i64 mo) := bS.cell 0
        have x1 : wr.cell? ⟨S, 1, none⟩ = some (.int .u8 ac) := bS.cell 1
        have x2 : wr.cell? ⟨S, 2, none⟩ = some (.slice A' rs.length c') := bS.cell 2
        have p0 : wr.cell? ⟨w.heap.size + 1, 0, none⟩ = some (.int .i64 0) := b1.cell 0
        have p1 : wr.cell? ⟨w.heap.size + 1, 1, none⟩ = some (.int .u8 0) := b1.cell 1
        have p2 : wr.cell? ⟨w.heap.size + 1, 2, none⟩ = some (.slice none 0 0) := b1.cell 2
        have f0 : wr.frozen? ⟨w.heap.size + 1, 0, none⟩ = false := b1.free 0
        have f1 : wr.frozen? ⟨w.heap.size + 1, 1, none⟩ = false := b1.free 1
        have f2 : wr.frozen? ⟨w.heap.size + 1, 2, none⟩ = false := b1.free 2
        have B1 := Lib.hid b1
        have HACC := Lib.hid hacc
        clear b0 b1 bS hsh hacc h hwf hF
        rcases Int.lt_or_le (k : Int) (more.length : Int) with hl1 | hl1
        all_goals
          go_wp2
          refine bodyPost_ret (v := .agg #[.int .i64 mo, .int .u8 ac, .slice A' rs.length c']) (by simp [results, Try.results29, go_sem, p0, p1, p2, f0, f1, f2]) rfl ?_
          rw [HF'.out]
          refine ⟨A', c', rfl, ((hbel.setCell (p := ⟨w.heap.size + 1, 0, none⟩) (by simp) _).setCell (p := ⟨w.heap.size + 1, 1, none⟩) (by simp) _).setCell (p := ⟨w.heap.size + 1, 2, none⟩) (by simp) _, ?_⟩
          exact (((HACC.out.low (p := ⟨w.heap.size + 1, 0, none⟩) (by simp) _).low (p := ⟨w.heap.size + 1, 1, none⟩) (by simp) _).low (p := ⟨w.heap.size + 1, 2, none⟩) (by simp) _).mono (by omega)
end Go.Proofs.Ythcnnadggffjhaa
