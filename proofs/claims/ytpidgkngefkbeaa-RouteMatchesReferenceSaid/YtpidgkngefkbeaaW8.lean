/- The walk of the reference of layer 3: Made. -/
import Derived.Test.YtpidgkngefkbeaaW7
import Derived.BigRegion
set_option linter.unusedVariables false
set_option linter.unusedSimpArgs false
namespace Go.Proofs.Ytpidgkngefkbeaa
open Go.RowKit

/-- what is known of the world while 'Made' works: w is the world in which it began, S the block of the scheme of layer 2 -/
def Made3W (A2 : Option Addr) (c2 n2 m2 a2 w0 wb : Nat) (l2 : List Rule) (n a S : Nat) (rs : List Rule) (w W : World) : Prop :=
  Below w.heap.size w W ∧ w.heap.size + 2 < S ∧ Blk W (w.heap.size + 1) 25 #[.int .u8 w0, .int .u8 wb] ∧
    Blk W (w.heap.size + 1 + 1) 30 #[.int .i64 0, .int .u8 0, .slice none 0 0] ∧
    Blk W S 30 #[.int .i64 m2, .int .u8 a2, .slice A2 n2 c2] ∧ (∀ r ∈ rs, r.short) ∧ RulesAt (· ≤ S) W A2 l2 ∧
    ∃ A' c', Blk W (S + 1) 30 #[.int .i64 n, .int .u8 a, .slice A' rs.length c'] ∧ Acc (S + 2) W 53 5 A' rs.length c' (rs.flatMap Rule.cells)

/-- the same behind an append: the rules lie in a row of the call's own -/
def Made3P (A2 : Option Addr) (c2 n2 m2 a2 w0 wb : Nat) (l2 : List Rule) (n a S : Nat) (rs : List Rule) (w W : World) : Prop :=
  Below w.heap.size w W ∧ w.heap.size + 2 < S ∧ Blk W (w.heap.size + 1) 25 #[.int .u8 w0, .int .u8 wb] ∧
    Blk W (w.heap.size + 1 + 1) 30 #[.int .i64 0, .int .u8 0, .slice none 0 0] ∧
    Blk W S 30 #[.int .i64 m2, .int .u8 a2, .slice A2 n2 c2] ∧ (∀ r ∈ rs, r.short) ∧ RulesAt (· ≤ S) W A2 l2 ∧
    ∃ A' c', Blk W (S + 1) 30 #[.int .i64 n, .int .u8 a, .slice A' rs.length c'] ∧ W.ownsRow (S + 2) 53 5 (.slice A' rs.length c') rs.length (rs.flatMap Rule.cells)
theorem made3_keep {A2 : Option Addr} {c2 n2 m2 a2 w0 wb n a S : Nat} {l2 rs : List Rule} {w W w5 : World} (h : Made3P A2 c2 n2 m2 a2 w0 wb l2 n a S rs w W) (hb : Below W.heap.size W w5) : Made3W A2 c2 n2 m2 a2 w0 wb l2 n a S rs w w5 := by
  obtain ⟨h0, h1, h2, h3, h4, h5, h6, A', c', h7, h8⟩ := h
  have h9 : Acc (S + 2) W 53 5 A' rs.length c' (rs.flatMap Rule.cells) := .inl h8
  exact ⟨h0.trans (hb.mono h0.size), h1, h2.next hb, h3.next hb, h4.next hb, h5, RulesAt.below h6 hb, A', c', h7.next hb, h9.below hb⟩
theorem Reads.farB {F : Nat → Prop} {w : World} {A : Option Addr} {xs : List Value} (h : Reads F w A xs) {p : Addr} (hp : ∀ b, F b → b ≠ p.block) (u : Value) : Reads F (w.setCell p u) A xs :=
  h.keep (by simp [World.setCell]) fun b hb _ => Below.heap_setCell _ _ _ _ (hp b hb)
theorem made3_cut {A2 : Option Addr} {c2 n2 m2 a2 w0 wb n a S : Nat} {l2 rs : List Rule} {q : Rule} {A' : Option Addr} {c' : Nat} {w W w5 : World} (hbel : Below w.heap.size w W) (hS : w.heap.size + 2 < S)
    (b1 : Blk W (w.heap.size + 1) 25 #[.int .u8 w0, .int .u8 wb])
    (b2 : Blk W (w.heap.size + 1 + 1) 30 #[.int .i64 0, .int .u8 0, .slice none 0 0])
    (bS : Blk W S 30 #[.int .i64 m2, .int .u8 a2, .slice A2 n2 c2]) (hs : ∀ r ∈ rs, r.short) (hR : RulesAt (· ≤ S) W A2 l2) (bT : Blk W (S + 1) 30 #[.int .i64 n, .int .u8 a, .slice A' (rs ++ [q]).length c'])
    (hown : W.ownsRow (S + 2) 53 5 (.slice A' (rs ++ [q]).length c') (rs ++ [q]).length ((rs ++ [q]).flatMap Rule.cells)) (hb : Below W.heap.size W w5) :
    Made3W A2 c2 n2 m2 a2 w0 wb l2 n a S rs w (w5.setCell ⟨S + 1, 2, none⟩ (.slice A' rs.length c')) := by
  have hown' : w5.ownsRow (S + 2) 53 5 (.slice A' rs.length c') rs.length (rs.flatMap Rule.cells) := by
    refine own_pop (ys := q.cells) ?_ (cells_length rs)
    have h8 := hown.kept (w' := w5) (row := none) ⟨hb.os, hb.tape, hb.output, hb.size, fun k hk _ => hb.block k hk⟩ (by cases hv : (Value.slice A' (rs ++ [q]).length c').ownBlock <;> simp)
    simpa using h8
  refine ⟨(hbel.trans (hb.mono hbel.size)).setCell (p := ⟨S + 1, 2, none⟩) (by simp; omega) _, hS, (b1.next hb).far (by simp; omega) _, (b2.next hb).far (by simp; omega) _, (bS.next hb).far (by simp) _, hs, Reads.farB (RulesAt.below hR hb) (fun b hb => by simp; omega) _, A', c', ?_, .inl ?_⟩
  · have := (bT.next hb).set 2 (.slice A' rs.length c')
    simpa using this
  · exact Acc.far (p := ⟨S + 1, 2, none⟩) hown' (bT.next hb) (by decide) _
theorem made3_push {A2 : Option Addr} {c2 n2 m2 a2 w0 wb n a S g cap : Nat} {l2 rs : List Rule} {q : Rule} {A' : Option Addr} {c' : Nat} {w W w2 w4 : World} {row : Option Nat} (hq : q.short) (hbel : Below w.heap.size w W) (hS : w.heap.size + 2 < S)
    (b1 : Blk W (w.heap.size + 1) 25 #[.int .u8 w0, .int .u8 wb])
    (b2 : Blk W (w.heap.size + 1 + 1) 30 #[.int .i64 0, .int .u8 0, .slice none 0 0])
    (bS : Blk W S 30 #[.int .i64 m2, .int .u8 a2, .slice A2 n2 c2]) (hs : ∀ r ∈ rs, r.short) (hR : RulesAt (· ≤ S) W A2 l2) (bT : Blk W (S + 1) 30 #[.int .i64 n, .int .u8 a, .slice A' rs.length c'])
    (hb2 : Below W.heap.size W w2) (hgr : w2.grownBy w4 row)
    (hrow : RowOk (S + 2) w2 53 row)
    (hown : w4.ownsRow (S + 2) 53 5 (.slice (some ⟨g, 0, none⟩) (rs.length + 1) cap) (rs.length + 1) (rs.flatMap Rule.cells ++ [.int .i64 q.frm, .int .i64 q.dst, .string q.inp, .string q.out, .int .i64 q.cost])) :
    Made3P A2 c2 n2 m2 a2 w0 wb l2 n a S (rs ++ [q]) w (w4.setCell ⟨S + 1, 2, none⟩ (.slice (some ⟨g, 0, none⟩) (rs.length + 1) cap)) := by
  have hbel2 : Below w.heap.size w w2 := hbel.trans (hb2.mono hbel.size)
  have hbel4 := below_rowOk hbel2 hgr hrow (by omega) hbel2.size
  have b14 := (b1.next hb2).rowOk hgr hrow (by decide)
  have b24 := (b2.next hb2).rowOk hgr hrow (by decide)
  have bS4 := (bS.next hb2).rowOk hgr hrow (by decide)
  have bT4 := (bT.next hb2).rowOk hgr hrow (by decide)
  refine ⟨hbel4.setCell (p := ⟨S + 1, 2, none⟩) (by simp; omega) _, hS, b14.far (by simp; omega) _, b24.far (by simp; omega) _, bS4.far (by simp) _, ?_, Reads.farB (Reads.rowOk (RulesAt.below hR hb2) hgr hrow (fun b hb => by omega)) (fun b hb => by simp; omega) _, some ⟨g, 0, none⟩, cap, ?_, ?_⟩
  · intro x hx
    rcases List.mem_append.1 hx with hx | hx
    · exact hs x hx
    · rw [List.mem_singleton.1 hx]; exact hq
  · have := bT4.set 2 (.slice (some ⟨g, 0, none⟩) (rs.length + 1) cap)
    simpa using this
  · have e : (rs ++ [q]).flatMap Rule.cells = rs.flatMap Rule.cells ++ [.int .i64 q.frm, .int .i64 q.dst, .string q.inp, .string q.out, .int .i64 q.cost] := by simp [Rule.cells]
    rw [e, List.length_append, List.length_singleton]
    exact Acc.far (p := ⟨S + 1, 2, none⟩) hown bT4 (by decide) _
theorem turn_step {n w0 wb : Nat} {l2 rs : List Rule} {k : Nat} (hk : k < l2.length) : turnRules n w0 wb (l2.drop k) k rs = turnRules n w0 wb (l2.drop (k + 1)) (k + 1) (pushRule n rs (turned n w0 wb l2[k] k)) := by
  rw [List.drop_eq_getElem_cons hk]; rfl

theorem made3_start {A2 : Option Addr} {c2 n2 m2 a2 w0 wb n a S : Nat} {l2 : List Rule} {w W : World} (hbel : Below w.heap.size w W) (hS : w.heap.size + 2 < S) (hWS : W.heap.size = S + 1) (b1 : Blk W (w.heap.size + 1) 25 #[.int .u8 w0, .int .u8 wb])
    (b2 : Blk W (w.heap.size + 1 + 1) 30 #[.int .i64 0, .int .u8 0, .slice none 0 0]) (bS : Blk W S 30 #[.int .i64 m2, .int .u8 a2, .slice A2 n2 c2]) (hR : RulesAt (· ≤ S) W A2 l2) :
    Made3W A2 c2 n2 m2 a2 w0 wb l2 n a S [] w (W.alloc (.cells #[.int .i64 n, .int .u8 a, .slice none 0 0] 30)) :=
  ⟨hbel.alloc hbel.size _, hS, b1.alloc _, b2.alloc _, bS.alloc _, by simp, RulesAt.below hR ((Below.refl _ _).alloc (Nat.le_refl _) _), none, 0, by rw [← hWS]; exact Blk.new _ _ _, Acc.nil _ _ _ _⟩
theorem Made3W.drew {A2 : Option Addr} {c2 n2 m2 a2 w0 wb n a S : Nat} {l2 rs : List Rule} {w W : World} (h : Made3W A2 c2 n2 m2 a2 w0 wb l2 n a S rs w W) : Made3W A2 c2 n2 m2 a2 w0 wb l2 n a S rs w W.drew := by
  obtain ⟨h0, h1, h2, h3, h4, h5, h6, A', c', h7, h8⟩ := h
  have hb := below_drewN (Below.refl W.heap.size W) 1
  exact ⟨below_drewN h0 1, h1, h2, h3, h4, h5, RulesAt.below h6 hb, A', c', h7, h8.below hb⟩

theorem made2_short (base drop : Nat) (more : List RawRule) : ∀ r ∈ (made2 base drop more).rules, r.short :=
  madeRules_short _ fun r hr => baseOf_short _ r (List.mem_of_mem_drop hr)
theorem pushRule_low {m : Nat} {rs : List Rule} {r : Rule} (h : ∀ x ∈ rs, x.frm < 2 ∧ x.dst < 2) (hr : r.frm < 2 ∧ r.dst < 2) : ∀ x ∈ pushRule m rs r, x.frm < 2 ∧ x.dst < 2 := by
  unfold pushRule
  split
  · intro x hx
    rcases List.mem_append.1 hx with hx | hx
    · exact h x hx
    · rw [List.mem_singleton.1 hx]; exact hr
  · exact h
theorem madeRules_low {m : Nat} (hm : 1 ≤ m ∧ m ≤ 2) (l : List RawRule) : ∀ {rs : List Rule}, (∀ x ∈ rs, x.frm < 2 ∧ x.dst < 2) → ∀ x ∈ madeRules m rs l, x.frm < 2 ∧ x.dst < 2 := by
  induction l with
  | nil => exact fun h => h
  | cons a l ih =>
    refine fun h => ih (pushRule_low h ⟨?_, ?_⟩)
    · have := Nat.mod_lt a.frm (show m > 0 by omega)
      show a.frm % m < 2
      omega
    · have := Nat.mod_lt a.dst (show m > 0 by omega)
      show a.dst % m < 2
      omega
theorem baseOf_low (k : Nat) : ∀ r ∈ (baseOf k).rules, r.frm < 2 ∧ r.dst < 2 := by
  unfold baseOf
  split <;> simp [sim]
theorem made2_low (base drop : Nat) (more : List RawRule) : ∀ r ∈ (made2 base drop more).rules, r.frm < 2 ∧ r.dst < 2 :=
  madeRules_low (by rcases baseOf_modes (base % 6) with h | h <;> rw [h] <;> omega) _ fun r hr => baseOf_low _ r (List.mem_of_mem_drop hr)
theorem made2_len (base drop : Nat) (more : List RawRule) : 2 ≤ (made2 base drop more).rules.length ∧ (made2 base drop more).rules.length ≤ 9 := by
  have h1 := madeRules_len (baseOf (base % 6)).modes (more.take 4) ((baseOf (base % 6)).rules.drop (drop % 2))
  have h2 := baseOf_len (base % 6)
  have e : (made2 base drop more).rules = madeRules (baseOf (base % 6)).modes ((baseOf (base % 6)).rules.drop (drop % 2)) (more.take 4) := rfl
  rw [e]
  rw [List.length_take, List.length_drop] at h1
  omega

set_option maxHeartbeats 2000000 in
theorem made3_any (F : Nat → Prop) (base drop w0 wb : Nat) (more : List RawRule) (A : Option Addr) (c : Nat) (w : World) (hF : ∀ b, F b → b < w.heap.size) (h : RawAt F w A more) (hwf : ∀ r ∈ more, r.wf) (hb8 : base < 256) (hd8 : drop < 256)
    (h08 : w0 < 256) (h18 : wb < 256) (hl : more.length ≤ maxLen) :
    Calls Try.prog 11 #[.agg #[.int .u8 base, .int .u8 drop, .slice A more.length c], .agg #[.int .u8 w0, .int .u8 wb]] w (SchemeRes (made3 base drop more w0 wb) w) := by
  obtain ⟨n, hn⟩ : ∃ n : Nat, n = 2 + w0 % 4 := ⟨_, rfl⟩
  have hn5 : 2 ≤ n ∧ n ≤ 5 := by omega
  have hp0 : (2 : Int) ^ n = ((2 ^ n : Nat) : Int) := by simp
  have hp4 : 2 ^ 2 ≤ 2 ^ n := Nat.pow_le_pow_right (by omega) hn5.1
  have hp5 : 2 ^ n ≤ 2 ^ 5 := Nat.pow_le_pow_right (by omega) hn5.2
  have hp1 : (4 : Int) ≤ 2 ^ n := by rw [hp0]; omega
  have hp2 : (2 : Int) ^ n ≤ 32 := by rw [hp0]; omega
  obtain ⟨a, ha⟩ : ∃ a : Nat, a = 1 + wb % (2 ^ n - 1) := ⟨_, rfl⟩
  have hmod : wb % (2 ^ n - 1) < 2 ^ n - 1 := Nat.mod_lt _ (by omega)
  have ha8 : a ≤ 32 := by omega
  have hmodI : (wb : Int) % ((2 : Int) ^ n - 1) = ((wb % (2 ^ n - 1) : Nat) : Int) := by
    rw [hp0, show ((2 ^ n : Nat) : Int) - 1 = ((2 ^ n - 1 : Nat) : Int) from by omega]
    rfl
  obtain ⟨rr, hrr⟩ : ∃ rr, rr = wb % (2 ^ n - 1) := ⟨_, rfl⟩
  rw [← hrr] at hmodI ha hmod
  have hnI : 2 + (w0 : Int) % 4 = (n : Int) := by omega
  have hz : ¬ ((2 : Int) ^ n - 1 = 0) := by omega
  have hwp : IntKind.i64.wrap ((2 : Int) ^ n) = (2 : Int) ^ n := IntWalk.i64_in _ (by omega)
  have hwq : IntKind.i64.wrap ((2 : Int) ^ n - 1) = (2 : Int) ^ n - 1 := IntWalk.i64_in _ (by omega)
  have hww : IntKind.i64.wrap (wb : Int) = wb := IntWalk.i64_in _ (by omega)
  have hwr : IntKind.i64.wrap (1 + (rr : Int)) = (a : Int) := by rw [IntWalk.i64_in _ (by omega)]; omega
  have hwu : IntKind.u8.wrap (a : Int) = (a : Int) := IntWalk.u8_in _ (by omega)
  have HN := Lib.hid hn
  have HAA := Lib.hid ha
  have HP0 := Lib.hid hp0
  have HRR := Lib.hid hrr
  clear hp0 hp4 hp5 hn ha hrr hmod
  have Hl := Lib.hid hl
  clear hl
  go_enter Try.func11, Try.ntmps11
  go_wp2_with fail
  refine (made2_any F base drop more A c _ (fun b hb => by have := hF b hb; simp; omega) (by exact h.lower hF ((((Below.refl _ _).alloc (Nat.le_refl _) _).alloc (by simp) _).alloc (by simp; omega) _)) hwf hb8 hd8 Hl.out).mono ?_
  rintro e w1 ⟨A2, c2, rfl, hb1, hacc⟩
  obtain ⟨l2, hl2⟩ : ∃ l2, l2 = (made2 base drop more).rules := ⟨_, rfl⟩
  obtain ⟨m2, hm2⟩ : ∃ m2, m2 = (made2 base drop more).modes := ⟨_, rfl⟩
  obtain ⟨a2, ha2⟩ : ∃ a2, a2 = (made2 base drop more).accept := ⟨_, rfl⟩
  have HF : Hid (SchemeRes (made3 base drop more w0 wb) w = SchemeRes ⟨n, a, turnRules n w0 wb l2 0 []⟩ w) := by rw [HAA.out, HRR.out, HN.out, hl2]; exact rfl
  have hsh2 := made2_short base drop more
  have hlow2 := made2_low base drop more
  have hlen2 := made2_len base drop more
  rw [← hl2] at hsh2 hlen2 hlow2 hacc ⊢
  rw [← hm2, ← ha2]
  clear hl2 hm2 ha2 h hwf hF hb8 hd8 Hl
  have hsz : w.heap.size + 2 < w1.heap.size := by have := hb1.size; simp at this; omega
  have hsz0 : w.heap.size < w1.heap.size := by omega
  have hsz1 : w.heap.size + 1 < w1.heap.size := by omega
  have b1 : Blk w1 (w.heap.size + 1) 25 #[.int .u8 w0, .int .u8 wb] := (show Blk _ _ _ _ from by rw [show w.heap.size + 1 = (w.alloc _).heap.size from (by simp)]; exact (Blk.new _ _ _).alloc _).next hb1
  have b2 : Blk w1 (w.heap.size + 1 + 1) 30 #[.int .i64 0, .int .u8 0, .slice none 0 0] := (show Blk _ _ _ _ from by rw [show w.heap.size + 1 + 1 = ((w.alloc _).alloc _).heap.size from (by simp)]; exact Blk.new _ _ _).next hb1
  have hbel : Below w.heap.size w w1 := ((((Below.refl _ _).alloc (Nat.le_refl _) _).alloc (by simp) _).alloc (by simp; omega) _).trans (hb1.mono (by simp; omega))
  have hR : RulesAt (· < w1.heap.size) w1 A2 l2 := (Acc.reads hacc).all
  clear hb1 hacc
  have c0 : w1.cell? ⟨w.heap.size + 1, 0, none⟩ = some (.int .u8 w0) := b1.cell 0
  have c1 : w1.cell? ⟨w.heap.size + 1, 1, none⟩ = some (.int .u8 wb) := b1.cell 1
  have B1 := Lib.hid b1
  have B2 := Lib.hid b2
  clear b1 b2
  go_upto_region 3 with (fail)
  refine world_gen (fun W => Below w.heap.size w W ∧ W.heap.size = w1.heap.size + 1 ∧ Blk W (w.heap.size + 1) 25 #[.int .u8 w0, .int .u8 wb] ∧ Blk W (w.heap.size + 1 + 1) 30 #[.int .i64 0, .int .u8 0, .slice none 0 0] ∧
    Blk W w1.heap.size 30 #[.int .i64 m2, .int .u8 a2, .slice A2 l2.length c2] ∧ RulesAt (· ≤ w1.heap.size) W A2 l2) ⟨hbel.alloc hbel.size _, by simp, B1.out.alloc _, B2.out.alloc _, Blk.new _ _ _, (RulesAt.below hR ((Below.refl _ _).alloc (Nat.le_refl _) _)).mono fun b hb => Nat.le_of_lt hb⟩ ?_
  clear hbel B1 B2 hR c0 c1
  generalize w1.heap.size = S at *
  rintro W ⟨hbel, hWS, b1, b2, bS, hR⟩
  have c1 : W.cell? ⟨w.heap.size + 1, 1, none⟩ = some (.int .u8 wb) := b1.cell 1
  have hs1 : w.heap.size + 1 < W.heap.size := by omega
  have B1 := Lib.hid b1
  have B2 := Lib.hid b2
  have BS := Lib.hid bS
  clear b1 b2 bS hsz0 hsz1
  go_region_held3 (fun w' => w'.cell? ⟨w.heap.size + 1, 1, none⟩ = some (.int .u8 wb)) (go_keep) (fail)
  have hW := (made3_start (n := n) (a := a) hbel hsz hWS B1.out B2.out BS.out hR).drew
  clear hbel B1 B2 BS hR c1 hs1
  go_wp2
  go_loopw [8] (fun x wr => ∃ k : Nat, k ≤ l2.length ∧ x = .int .i64 k ∧ ∃ rs, rs.length ≤ k ∧ turnRules n w0 wb l2 0 [] = turnRules n w0 wb (l2.drop k) k rs ∧ Made3W A2 c2 l2.length m2 a2 w0 wb l2 n a S rs w wr) (fun x _ => l2.length - (intOf x).toNat)
  case atStart => exact ⟨0, by omega, rfl, [], by simp, rfl, hW⟩
  case round =>
    clear hW
    obtain ⟨k, hk, rfl, rs, hrk, hrun, hM⟩ := hrel
    have HRUN := Lib.hid hrun
    clear hrun
    by_cases hin : (k : Int) < (l2.length : Int)
    · have hkl : k < l2.length := by omega
      obtain ⟨hbel, hSlt, b1, b2, bS, hsh, hR, A', c', bT, hacc⟩ := hM
      obtain ⟨b, o, rfl, hbS, hbl, e0, e1, e2, e3, e4⟩ := hR.at_ hkl
      obtain ⟨q, hq⟩ : ∃ q, q = l2[k] := ⟨_, rfl⟩
      rw [← hq] at e0 e1 e2 e3 e4
      have HQ := Lib.hid hq
      clear hq
      have x2 : wr.cell? ⟨S, 2, none⟩ = some (.slice (some ⟨b, o, none⟩) l2.length c2) := bS.cell 2
      have hS1 : S < wr.heap.size := bS.lt
      have HB := Lib.hid (And.intro b1 (And.intro b2 (And.intro bS bT)))
      have HA := Lib.hid hacc
      have HR := Lib.hid hR
      clear b1 b2 bS bT hacc hR
      go_upto_region 8 with (fail)
      have hqm : q ∈ l2 := by rw [HQ.out]; exact List.getElem_mem hkl
      obtain ⟨hq1, hq2⟩ := hlow2 q hqm
      obtain ⟨t, ht⟩ : ∃ t, t = turned n w0 wb q k := ⟨_, rfl⟩
      obtain ⟨s1, hs1⟩ : ∃ s, s = q.frm + k / 2 := ⟨_, rfl⟩
      obtain ⟨s2, hs2⟩ : ∃ s, s = w0 / 4 * k := ⟨_, rfl⟩
      obtain ⟨s3, hs3⟩ : ∃ s, s = s1 + s2 := ⟨_, rfl⟩
      obtain ⟨d1, hd1⟩ : ∃ s, s = q.dst + k := ⟨_, rfl⟩
      obtain ⟨d2, hd2⟩ : ∃ s, s = d1 + wb % 3 := ⟨_, rfl⟩
      have hs2b : s2 ≤ 64 * 9 := by rw [hs2]; exact Nat.mul_le_mul (by omega) (by omega)
      have v1 : IntKind.i64.wrap ((q.frm : Int) + (k : Int) / 2) = (s1 : Int) := by rw [IntWalk.i64_in _ (by omega)]; omega
      have v2 : IntKind.i64.wrap ((w0 : Int) / 4 * (k : Int)) = (s2 : Int) := by
        rw [show (w0 : Int) / 4 * (k : Int) = (s2 : Int) from by rw [hs2]; simp]
        exact IntWalk.i64_in _ (by omega)
      have v3 : IntKind.i64.wrap ((s1 : Int) + (s2 : Int)) = (s3 : Int) := by rw [IntWalk.i64_in _ (by omega)]; omega
      have v4 : IntKind.i64.wrap ((q.dst : Int) + (k : Int)) = (d1 : Int) := by rw [IntWalk.i64_in _ (by omega)]; omega
      have v5 : IntKind.i64.wrap ((d1 : Int) + (wb : Int) % 3) = (d2 : Int) := by rw [IntWalk.i64_in _ (by omega)]; omega
      have v6 : (s3 : Int) % (n : Int) = (t.frm : Int) := by rw [ht]; show _ = ((( _ : Nat)) : Int); simp only [turned]; rw [hs3, hs1, hs2]; simp
      have v7 : (d2 : Int) % (n : Int) = (t.dst : Int) := by rw [ht]; show _ = ((( _ : Nat)) : Int); simp only [turned]; rw [hd2, hd1]; simp
      have v8 : IntKind.i64.wrap (w0 : Int) = (w0 : Int) := IntWalk.i64_in _ (by omega)
      have v9 : ¬ (n : Int) = 0 := by omega
      have v10 : ¬ n = 0 := by omega
      have ht3 : t.inp = q.inp := by rw [ht]; rfl
      have ht4 : t.out = q.out := by rw [ht]; rfl
      have ht5 : t.cost = q.cost := by rw [ht]; rfl
      rw [← ht3] at e2
      have HT := Lib.hid ht
      have HT3 := Lib.hid (And.intro ht3 (And.intro ht4 ht5))
      clear ht hs1 hs2 hs3 hd1 hd2 hs2b hq1 hq2 ht3 ht4 ht5
      refine world_gen (fun W => Below wr.heap.size wr W ∧ W.heap.size = wr.heap.size + 1 ∧ Blk W wr.heap.size 53 #[.int .i64 q.frm, .int .i64 q.dst, .string q.inp, .string q.out, .int .i64 q.cost]) ⟨(Below.refl _ _).alloc (Nat.le_refl _) _, by simp, Blk.new _ _ _⟩ ?_
      rintro W ⟨hbW, hWs, bW⟩
      have c0 : W.cell? ⟨w.heap.size + 1, 0, none⟩ = some (.int .u8 w0) := (HB.out.1.next hbW).cell 0
      have c1 : W.cell? ⟨w.heap.size + 1, 1, none⟩ = some (.int .u8 wb) := (HB.out.1.next hbW).cell 1
      have y0 : W.cell? ⟨wr.heap.size, 0, none⟩ = some (.int .i64 q.frm) := bW.cell 0
      have y1 : W.cell? ⟨wr.heap.size, 1, none⟩ = some (.int .i64 q.dst) := bW.cell 1
      have fy0 : W.frozen? ⟨wr.heap.size, 0, none⟩ = false := bW.free 0
      have fy1 : W.frozen? ⟨wr.heap.size, 1, none⟩ = false := bW.free 1
      have hlt1 : w.heap.size + 1 < wr.heap.size := by omega
      have BW := Lib.hid bW
      have HbW := Lib.hid hbW
      clear bW hbW e0 e1 e2 e3 e4 x2
      go_region
      refine world_gen (fun W' => Below wr.heap.size wr W' ∧ W'.heap.size = wr.heap.size + 1 ∧ Blk W' wr.heap.size 53 #[.int .i64 t.frm, .int .i64 t.dst, .string t.inp, .string t.out, .int .i64 t.cost]) ⟨?_, ?_, ?_⟩ ?_
      · exact ((below_drewN HbW.out _).setCell (p := ⟨wr.heap.size, 0, none⟩) (by simp) _).setCell (p := ⟨wr.heap.size, 1, none⟩) (by simp) _
      · simp [World.setCell, World.drew, hWs]
      · have := ((BW.out.set 0 (.int .i64 t.frm)).set 1 (.int .i64 t.dst)).drew
        obtain ⟨u1, u2, u3⟩ := HT3.out
        rw [u1, u2, u3]
        simpa using this
      clear BW HbW c0 c1 y0 y1 fy0 fy1 hWs
      clear v1 v2 v3 v4 v5 v6 v7 v8
      clear W
      rintro W ⟨hbW, hWs, bW⟩
      have bT := HB.out.2.2.2.next hbW
      have x2 : W.cell? ⟨S + 1, 2, none⟩ = some (.slice A' rs.length c') := bT.cell 2
      have y0 : W.cell? ⟨wr.heap.size, 0, none⟩ = some (.int .i64 t.frm) := bW.cell 0
      have y1 : W.cell? ⟨wr.heap.size, 1, none⟩ = some (.int .i64 t.dst) := bW.cell 1
      have y2 : W.cell? ⟨wr.heap.size, 2, none⟩ = some (.string t.inp) := bW.cell 2
      have y3 : W.cell? ⟨wr.heap.size, 3, none⟩ = some (.string t.out) := bW.cell 3
      have y4 : W.cell? ⟨wr.heap.size, 4, none⟩ = some (.int .i64 t.cost) := bW.cell 4
      have hT1 : S + 1 < W.heap.size := bT.lt
      have hT2 : wr.heap.size < W.heap.size := bW.lt
      have hTW : S + 1 < wr.heap.size := HB.out.2.2.2.lt
      have BT := Lib.hid bT
      have HbW := Lib.hid hbW
      have HWs := Lib.hid hWs
      clear bT hbW bW hWs
      have hW9 : Hid (Below w.heap.size w W) := Lib.hid (hbel.trans (HbW.out.mono hbel.size))
      have hrs9 : rs.length ≤ 9 := by omega
      obtain ⟨i0, hi0, hz0, hz1, hz2⟩ := info_parts rule_info
      go_upto_region 10 with (at_builtin; refine wpList_append_acc _ (by rfl) _ _ _ (by rfl) (S + 2) 53 i0 _ 5 56 Try.underlying28 hi0 hz0 hz1 hz2 (by rfl) (by omega) A' rs.length c' (rs.flatMap Rule.cells) (by rfl) (by exact (HA.out.below HbW.out).below ((Below.refl _ _).alloc (Nat.le_refl _) _)) W.heap.size 53 (0, 0) 1 1 #[.int .i64 t.frm, .int .i64 t.dst, .string t.inp, .string t.out, .int .i64 t.cost] (by rfl) (by rfl) (by exact heap_alloc_new _ _) (by simp [Value.oneCell']) (by omega) (by unfold maxLen; omega) (by omega) (by simp; omega) ?_; intro g2 cap w4 row hown hgr hrow hat hlt4; have bT4 := (BT.out.alloc _).rowOk hgr hrow (by decide); have z2 : w4.cell? ⟨S + 1, 2, none⟩ = some (.slice A' rs.length c') := bT4.cell 2; have fz2 : w4.frozen? ⟨S + 1, 2, none⟩ = false := bT4.free 2)
      refine world_gen (Made3P (some ⟨b, o, none⟩) c2 l2.length m2 a2 w0 wb l2 n a S (rs ++ [t]) w) ?_ ?_
      · have htq : t.short := by
          obtain ⟨u1, u2, u3⟩ := HT3.out
          have := hsh2 q (by rw [HQ.out]; exact List.getElem_mem hkl)
          unfold Rule.short at this ⊢
          rw [u1, u2]
          exact this
        exact made3_push htq hbel hSlt HB.out.1 HB.out.2.1 HB.out.2.2.1 hsh HR.out HB.out.2.2.2 (HbW.out.alloc (Nat.le_of_lt (by rw [HWs.out]; omega)) _) hgr hrow hown
      have HP : Hid (turnRules n w0 wb l2 0 [] = turnRules n w0 wb (l2.drop (k + 1)) (k + 1) (pushRule n rs t)) := by
        rw [HRUN.out, turn_step hkl, ← HQ.out, ← HT.out]
        exact rfl
      have htb : ∀ r ∈ rs, r.short := hsh
      clear hown hgr hrow hat hlt4 bT4 z2 fz2 BT HbW HWs hW9 HB HA HR hbel hsh x2 y0 y1 y2 y3 y4 hT1 hT2 hTW hS1 HT3 hSlt hbl hlt1 hi0 hz0 hz1 hz2
      rintro wc hcut
      have hcut' := hcut
      obtain ⟨hbel, hSlt, b1, b2, bS, hsh, hR, A'', c'', bT, hown⟩ := hcut
      have x0 : wc.cell? ⟨S + 1, 0, none⟩ = some (.int .i64 n) := bT.cell 0
      have x1 : wc.cell? ⟨S + 1, 1, none⟩ = some (.int .u8 a) := bT.cell 1
      have x2 : wc.cell? ⟨S + 1, 2, none⟩ = some (.slice A'' (rs ++ [t]).length c'') := bT.cell 2
      have hwc : S + 1 < wc.heap.size := bT.lt
      have H := right_any (S + 2 ≤ ·) n a A'' c'' (rs ++ [t]) rs.length wc (Reads.of_own hown) (by simp) (by simp; omega) (by omega) (fun r hr => by have := hsh r hr; unfold Rule.short at this; unfold maxLen; omega)
      rw [List.length_append, List.length_singleton] at H x2
      go_wp2_with fail
      rcases hg : rightAt n (rs ++ [t]) rs.length with _ | _
      · rw [hg] at H
        have HG := Lib.hid hg
        clear hg
        refine H.mono ?_
        clear H
        rintro e w5 ⟨rfl, hb5⟩
        have y2 : w5.cell? ⟨S + 1, 2, none⟩ = some (.slice A'' (rs.length + 1) c'') := by
          have := (bT.next hb5).cell 2
          simpa using this
        have fy2 : w5.frozen? ⟨S + 1, 2, none⟩ = false := (bT.next hb5).free 2
        have hc' : (rs.length : Int) ≤ (c'' : Int) := by
          have : Acc (S + 2) wc 53 5 A'' (rs ++ [t]).length c'' ((rs ++ [t]).flatMap Rule.cells) := .inl hown
          have := this.le_
          simp at this
          omega
        go_wp2
        go_roundw
        case rel => exact ⟨k + 1, by omega, by go_num, rs, by omega, by rw [HP.out, pushRule_no HG.out], made3_cut hbel hSlt b1 b2 bS htb hR bT hown hb5⟩
        case measure => simp [intOf]; omega
      · rw [hg] at H
        have HG := Lib.hid hg
        clear hg
        refine H.mono ?_
        clear H
        rintro e w5 ⟨rfl, hb5⟩
        go_wp2
        go_roundw
        case rel => exact ⟨k + 1, by omega, by go_num, rs ++ [t], by simp; omega, by rw [HP.out, pushRule_yes HG.out], made3_keep hcut' hb5⟩
        case measure => simp [intOf]; omega
    · obtain rfl : k = l2.length := by omega
      obtain ⟨hbel, hSlt, b1, b2, bS, hsh, hR, A', c', bT, hacc⟩ := hM
      have HF' : Hid (SchemeRes (made3 base drop more w0 wb) w = SchemeRes ⟨n, a, rs⟩ w) := by rw [HF.out, HRUN.out, List.drop_length]; exact rfl
      have d2 : wr.cell? ⟨S, 2, none⟩ = some (.slice A2 l2.length c2) := bS.cell 2
      have x0 : wr.cell? ⟨S + 1, 0, none⟩ = some (.int .i64 n) := bT.cell 0
      have x1 : wr.cell? ⟨S + 1, 1, none⟩ = some (.int .u8 a) := bT.cell 1
      have x2 : wr.cell? ⟨S + 1, 2, none⟩ = some (.slice A' rs.length c') := bT.cell 2
      have p0 : wr.cell? ⟨w.heap.size + 1 + 1, 0, none⟩ = some (.int .i64 0) := b2.cell 0
      have p1 : wr.cell? ⟨w.heap.size + 1 + 1, 1, none⟩ = some (.int .u8 0) := b2.cell 1
      have p2 : wr.cell? ⟨w.heap.size + 1 + 1, 2, none⟩ = some (.slice none 0 0) := b2.cell 2
      have f0 : wr.frozen? ⟨w.heap.size + 1 + 1, 0, none⟩ = false := b2.free 0
      have f1 : wr.frozen? ⟨w.heap.size + 1 + 1, 1, none⟩ = false := b2.free 1
      have f2 : wr.frozen? ⟨w.heap.size + 1 + 1, 2, none⟩ = false := b2.free 2
      have hsz3 : w.heap.size + 1 + 1 < wr.heap.size := b2.lt
      have hsz4 : S < wr.heap.size := bS.lt
      have hsz5 : S + 1 < wr.heap.size := bT.lt
      have HACC := Lib.hid hacc
      clear b1 b2 bS bT hsh hacc hR
      go_wp2
      refine bodyPost_ret (v := .agg #[.int .i64 n, .int .u8 a, .slice A' rs.length c']) (by simp [results, Try.results11, go_sem, p0, p1, p2, f0, f1, f2]) rfl ?_
      rw [HF'.out]
      refine ⟨A', c', rfl, ((hbel.setCell (p := ⟨w.heap.size + 1 + 1, 0, none⟩) (by simp; omega) _).setCell (p := ⟨w.heap.size + 1 + 1, 1, none⟩) (by simp; omega) _).setCell (p := ⟨w.heap.size + 1 + 1, 2, none⟩) (by simp; omega) _, ?_⟩
      exact (((HACC.out.low (p := ⟨w.heap.size + 1 + 1, 0, none⟩) (by simp; omega) _).low (p := ⟨w.heap.size + 1 + 1, 1, none⟩) (by simp; omega) _).low (p := ⟨w.heap.size + 1 + 1, 2, none⟩) (by simp; omega) _).mono (by omega)
end Go.Proofs.Ytpidgkngefkbeaa
