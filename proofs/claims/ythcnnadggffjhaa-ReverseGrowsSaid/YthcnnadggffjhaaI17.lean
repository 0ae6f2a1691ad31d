/- The walk of Pair. -/
import Derived.Test.YthcnnadggffjhaaI16
import Derived.Test.YthcnnadggffjhaaPB
set_option linter.unusedVariables false
set_option linter.unusedSimpArgs false
namespace Go.Proofs.Ythcnnadggffjhaa
open Go.RowKit

theorem fromF_live {ac M : Nat} {rs : List Rule} {inp out : ByteArray} (hs : ∀ r ∈ rs, r.frm < M ∧ r.dst < M) : ∀ (f m i k : Nat), m < M → (∃ e, fromF (accB ac) rs inp out f m i k = some e) → LiveP ac M rs m
  | 0, _, _, _, _, ⟨e, h⟩ => by cases h
  | f + 1, m, i, k, hm, ⟨e, h⟩ => by
    unfold fromF at h
    generalize rs.length = j at h
    induction j generalizing e with
    | zero =>
      unfold loopE restE at h
      split at h
      · rename_i hc
        exact acc_live hm hc.2.2
      · cases h
    | succ j ih =>
      unfold loopE at h
      cases hr : rs[j]? with
      | none => rw [hr] at h; exact ih e h
      | some r =>
        rw [hr] at h
        simp only [stepE] at h
        have hmem := List.mem_of_getElem? hr
        by_cases hf : fitsE inp out m i k r = true
        · rw [if_pos hf] at h
          have hfm : r.frm = m := by
            unfold fitsE at hf
            simp only [Bool.and_eq_true, decide_eq_true_eq] at hf
            exact hf.1.1
          cases hrest : fromF (accB ac) rs inp out f r.dst (i + r.inp.size) (k + r.out.size) with
          | none => rw [hrest] at h; exact ih e h
          | some e' =>
            have := live_rule hmem (fromF_live hs f _ _ _ (hs r hmem).2 ⟨e', hrest⟩)
            rw [hfm] at this
            exact this
        · rw [if_neg hf] at h
          exact ih e h
/-- what Pair answers where its arguments are right -/
def PairRes (acc : Nat → Bool) (rs : List Rule) (inp out : ByteArray) (w : World) (e : Ending) (w' : World) : Prop :=
  Below w.heap.size w w' ∧ ((fromE acc rs inp out 0 0 0 = none ∧ e = .returned (.tuple #[.slice none 0 0, .int .i64 50])) ∨ (∃ x A c, fromE acc rs inp out 0 0 0 = some x ∧ e = .returned (.tuple #[.slice A x.l.length c, .int .i64 0]) ∧ SlAt vN (fun _ => True) w' A x.l))
set_option maxHeartbeats 1000000 in
set_option maxRecDepth 100000 in
theorem pair_arg (m ac : Nat) (A : Option Addr) (n c : Nat) (inp out : ByteArray) (w : World) (hi : inp.size ≤ maxLen) (ho : out.size ≤ maxLen) (h : isLetters inp = false ∨ isText out = false) :
    Calls Try.prog 16 #[.agg #[.int .i64 m, .int .u8 ac, .slice A n c], .string inp, .string out] w fun x w' => x = .returned (.tuple #[.slice none 0 0, .int .i64 1]) ∧ Below w.heap.size w w' := by
  obtain ⟨t, ht⟩ : ∃ t, isText out = t := ⟨_, rfl⟩
  obtain ⟨l, hl⟩ : ∃ l, isLetters inp = l := ⟨_, rfl⟩
  rw [ht, hl] at h
  have HT := Lib.hid (And.intro ht hl)
  clear ht hl
  cases l with
  | false =>
    clear h
    go_enter Try.func16, Try.ntmps16
    go_wp2_with (go_at_call 39; refine (letters_any inp _ hi).mono ?_; rintro e w2 ⟨rfl, rfl⟩; rw [HT.out.2])
    refine bodyPost_ret (v := .tuple #[.slice none 0 0, .int .i64 1]) (by simp [results, Try.results16, go_sem]) rfl ⟨rfl, below_one _ _⟩
  | true =>
    obtain rfl : t = false := by simpa using h
    clear h
    go_enter Try.func16, Try.ntmps16
    go_wp2_with (first | (go_at_call 39; refine (letters_any inp _ hi).mono ?_; rintro e w2 ⟨rfl, rfl⟩; rw [HT.out.2]) | (go_at_call 30; refine (text_any out _ ho).mono ?_; rintro e w2 ⟨rfl, rfl⟩; rw [HT.out.1]))
    refine bodyPost_ret (v := .tuple #[.slice none 0 0, .int .i64 1]) (by simp [results, Try.results16, go_sem]) rfl ⟨rfl, below_one _ _⟩
set_option maxHeartbeats 4000000 in
set_option maxRecDepth 100000 in
theorem pair_any (F : Nat → Prop) (m ac : Nat) (A : Option Addr) (c : Nat) (rs : List Rule) (inp out : ByteArray) (w : World) (hA : RulesAt F w A rs) (hF : ∀ b, F b → b < w.heap.size) (hn : rs.length < 1000) (hm0 : 0 < m) (hm : m ≤ 8) (hac : ac < 256)
    (hs : ∀ r ∈ rs, r.frm < m ∧ r.dst < m) (hb : ∀ r ∈ rs, r.inp.size ≤ 4 ∧ r.out.size ≤ 4 ∧ r.cost ≤ 1000) (hon : ∀ r ∈ rs, 1 ≤ r.inp.size ∨ r.frm < r.dst) (hil : isLetters inp = true) (hot : isText out = true) :
    Calls Try.prog 16 #[.agg #[.int .i64 m, .int .u8 ac, .slice A rs.length c], .string inp, .string out] w (PairRes (accB ac) rs inp out w) := by
  have hi40 : inp.size ≤ 40 := by unfold isLetters at hil; simp at hil; exact hil.1
  have ho20 : out.size ≤ 20 := by unfold isText at hot; simp at hot; exact hot.1
  have hi : inp.size ≤ maxLen := by unfold maxLen; omega
  have ho : out.size ≤ maxLen := by unfold maxLen; omega
  have HA := Lib.hid (Reads.below hA (below_one w (.cells #[.int .i64 m, .int .u8 ac, .slice A rs.length c] 31)))
  have HT := Lib.hid (And.intro hot hil)
  have HC := Lib.hid (And.intro hF (And.intro hs (And.intro hb hon)))
  clear hA hF hs hb hon hil hot
  go_enter Try.func16, Try.ntmps16
  go_wp2_with (first | (go_at_call 39; refine (letters_any inp _ hi).mono ?_; rintro e w2 ⟨rfl, rfl⟩; rw [HT.out.2]) | (go_at_call 30; refine (text_any out _ ho).mono ?_; rintro e w2 ⟨rfl, rfl⟩; rw [HT.out.1]))
  refine (live_any F m ac A c rs _ (by exact HA.out) (fun b h => by have := HC.out.1 b h; simp; omega) hn hm hac HC.out.2.1).mono ?_
  rintro e wL ⟨gL, VL, rfl, hbL, hgL, hrL, hlL, hiL⟩
  have bx := (Blk.new w 31 #[.int .i64 m, .int .u8 ac, .slice A rs.length c]).next hbL
  have c0 : wL.cell? ⟨w.heap.size, 0, none⟩ = some (.int .i64 m) := bx.cell 0
  have c1 : wL.cell? ⟨w.heap.size, 1, none⟩ = some (.int .u8 ac) := bx.cell 1
  have c2 : wL.cell? ⟨w.heap.size, 2, none⟩ = some (.slice A rs.length c) := bx.cell 2
  have hlx := bx.lt
  have hlg := hrL.lt
  obtain ⟨v0, hv0⟩ : ∃ v0, VL[0]? = some v0 := ⟨_, List.getElem?_eq_getElem (by omega)⟩
  have g0 : wL.cell? ⟨gL, 0, none⟩ = some (.bool v0) := by
    rw [hrL.cell]
    simp [hv0]
  have hl0 : v0 = true ↔ LiveP ac m rs 0 := by
    rw [← hiL 0, hv0]
    simp
  have HL := Lib.hid (And.intro hbL (And.intro hrL hl0))
  have hmI : (0 : Int) < (m : Int) := by omega
  have hmm := @run_makeMap Try.prog
  clear hbL hgL hrL hlL hiL hl0 hv0 bx
  have HON : Hid (∀ r ∈ rs, OnE r ∧ r.cost ≤ 1000) := Lib.hid fun r hr => ⟨⟨by have := (HC.out.2.1 r hr).2; omega, HC.out.2.2.2 r hr⟩, (HC.out.2.2.1 r hr).2.2⟩
  cases v0
  · have HNO : Hid (fromE (accB ac) rs inp out 0 0 0 = none) := Lib.hid (by
      cases he : fromE (accB ac) rs inp out 0 0 0 with
      | none => rfl
      | some e => exact absurd (HL.out.2.2.2 (fromF_live HC.out.2.1 _ 0 0 0 hm0 ⟨e, he⟩)) (by decide))
    go_wp2_with fail
    refine bodyPost_ret (v := .tuple #[.slice none 0 0, .int .i64 50]) (by simp [results, Try.results16, go_sem]) rfl ⟨?_, .inl ⟨HNO.out, rfl⟩⟩
    have h1 := (below_one w (.cells #[.int .i64 m, .int .u8 ac, .slice A rs.length c] 31)).trans (HL.out.1.mono (by simp))
    exact (h1.alloc h1.size _).alloc (by have := h1.size; simp; omega) _
  · go_upto_region 7 with (fail)
    refine world_gen (fun W => Below w.heap.size w W ∧ wL.heap.size < W.heap.size ∧ RulesAt F W A rs ∧ Blk W (wL.heap.size + 1) 93 #[.int .i64 m, .int .u8 ac, .slice A rs.length c, .string inp, .string out, .map (some wL.heap.size)] ∧ Memo (fromE (accB ac) rs inp out) W wL.heap.size []) ?_ ?_
    · have h1 := (below_one w (.cells #[.int .i64 m, .int .u8 ac, .slice A rs.length c] 31)).trans (HL.out.1.mono (by simp))
      exact ⟨(h1.alloc h1.size _).alloc (by have := h1.size; simp; omega) _, by simp; omega, Reads.below (Reads.below HA.out HL.out.1) ((below_one _ _).alloc (by simp) _), Blk.new2 _ _ _ _, (Memo.new _ wL).next (below_one _ _)⟩
    have hwL : w.heap.size < wL.heap.size := hlx
    clear c0 c1 c2 g0 HL hlx hlg
    generalize wL.heap.size = Kb at *
    rintro W ⟨hbel, hKl, hA2, hP, hM⟩
    have hf := from_any F m ac A c rs inp out (Kb + 1) Kb hac hn hi40 ho20 HON.out (fun r hr => ⟨(HC.out.2.2.1 r hr).1, (HC.out.2.2.1 r hr).2.1⟩) (fun h => by have := HC.out.1 _ h; omega) (by omega) (mu inp 0 0 + 1) 0 0 0 [] W (Nat.lt_succ_self _) (by omega) (Nat.zero_le _) (Nat.zero_le _) hA2 hP hM ⟨List.nodup_nil, by simp⟩
    rw [show ((0 : Nat) : Int) = 0 from rfl] at hf
    go_wp2_with fail
    refine hf.mono ?_
    clear hf hA2 hP hM
    rintro e w5 ⟨A5, c5, S5, rfl, hrd, _, _, _, hmod⟩
    obtain ⟨o, ho⟩ : ∃ o, fromE (accB ac) rs inp out 0 0 0 = o := ⟨_, rfl⟩
    rw [ho] at hrd ⊢
    have hb5 : Below w.heap.size w w5 := hmod.below hbel hbel.size fun b _ hb => by have hb : b = Kb := hb; omega
    have HE := Lib.hid (And.intro ho (And.intro hrd hb5))
    clear ho hrd hb5 hmod hbel
    unfold wayV
    cases o with
    | none =>
      go_wp2_with fail
      refine bodyPost_ret (v := .tuple #[.slice none 0 0, .int .i64 50]) (by simp [results, Try.results16, go_sem]) rfl ⟨HE.out.2.2.alloc HE.out.2.2.size _, .inl ⟨HE.out.1, rfl⟩⟩
    | some x =>
      go_wp2_with fail
      refine bodyPost_ret (v := .tuple #[.slice A5 x.l.length c5, .int .i64 0]) (by simp [results, Try.results16, go_sem, wayOf]) rfl ⟨HE.out.2.2.alloc HE.out.2.2.size _, .inr ⟨x, A5, c5, HE.out.1, rfl, Reads.below (ReadsT.reads HE.out.2.1) (below_one _ _)⟩⟩
end Go.Proofs.Ythcnnadggffjhaa
