/- The walk of ReverseRefuses. -/
import Derived.Test.YthcnnadggffjhaaV4
import Derived.Test.YthcnnadggffjhaaV5
import Derived.Test.YthcnnadggffjhaaV2
import Derived.Test.YthcnnadggffjhaaG0
set_option linter.unusedVariables false
set_option linter.unusedSimpArgs false
namespace Go.Proofs.Ythcnnadggffjhaa
open Go.RowKit
/-- the scheme of a law of layer 6 in its box S -/
structure SX (s : Scheme) (S : Nat) (A : Option Addr) (c : Nat) (w W : World) : Prop where
  bel : Below w.heap.size w W
  box : Blk W S 31 #[.int .i64 s.modes, .int .u8 s.accept, .slice A s.rules.length c]
  rules : RulesAt (fun _ => True) W A s.rules
theorem SX.next {s : Scheme} {S : Nat} {A : Option Addr} {c : Nat} {w W W' : World} (h : SX s S A c w W) (hb : Below W.heap.size W W') : SX s S A c w W' := ⟨h.bel.trans (hb.mono h.bel.size), h.box.next hb, Reads.below h.rules hb⟩
theorem SX.cells {s : Scheme} {S : Nat} {A : Option Addr} {c : Nat} {w W : World} (h : SX s S A c w W) : W.cell? ⟨S, 0, none⟩ = some (.int .i64 s.modes) ∧ W.cell? ⟨S, 1, none⟩ = some (.int .u8 s.accept) ∧ W.cell? ⟨S, 2, none⟩ = some (.slice A s.rules.length c) ∧ S < W.heap.size := ⟨h.box.cell 0, h.box.cell 1, h.box.cell 2, h.box.lt⟩
/-- Best and Pair at any arguments: the error says whether the arguments are right -/
theorem bestE {s : Scheme} (hs : Ok6 s) (A : Option Addr) (c : Nat) (out : ByteArray) (w : World) (F : Nat → Prop) (hA : RulesAt F w A s.rules) (h24 : out.size ≤ 24) (h5 : isText out = true → out.size ≤ 5) :
    Calls Try.prog 12 #[.agg #[.int .i64 s.modes, .int .u8 s.accept, .slice A s.rules.length c], .string out, .int .i64 3] w fun e w' => (∃ A' n c' er, e = .returned (.tuple #[.slice A' n c', .int .i64 er]) ∧ (er == 1) = !isText out) ∧ Below w.heap.size w w' := by
  cases ht : isText out with
  | false =>
    refine (best_arg s.modes s.accept A s.rules.length c out 3 w (by unfold maxLen; omega) (.inl ht)).mono ?_
    rintro e w' ⟨rfl, hb⟩
    exact ⟨⟨none, 0, 0, 1, rfl, rfl⟩, hb⟩
  | true =>
    refine (best6 hs A c out 3 w F hA ht (h5 ht) (by decide) (by decide)).mono ?_
    rintro e w' ⟨hb, N, l, _, (⟨_, rfl⟩ | ⟨_, A', c', rfl, _, _⟩)⟩
    · exact ⟨⟨none, 0, 0, 50, rfl, rfl⟩, hb⟩
    · exact ⟨⟨A', _, c', 0, rfl, rfl⟩, hb⟩
theorem pairE {s : Scheme} (hs : Ok6 s) (A : Option Addr) (c : Nat) (inp out : ByteArray) (w : World) (F : Nat → Prop) (hA : RulesAt F w A s.rules) (h24 : out.size ≤ 24) (h6 : inp.size ≤ 6) :
    Calls Try.prog 16 #[.agg #[.int .i64 s.modes, .int .u8 s.accept, .slice A s.rules.length c], .string inp, .string out] w fun e w' => (∃ A' n c' er, e = .returned (.tuple #[.slice A' n c', .int .i64 er]) ∧ (er == 1) = !(isLetters inp && isText out)) ∧ Below w.heap.size w w' := by
  by_cases h : isLetters inp = true ∧ isText out = true
  · obtain ⟨h1, h2⟩ := h
    refine (pair6 hs A c inp out w F hA h1 h2).mono ?_
    rintro e w' ⟨hb, (⟨_, rfl⟩ | ⟨x, A', c', _, rfl, _⟩)⟩
    · exact ⟨⟨none, 0, 0, 50, rfl, by rw [h1, h2]; rfl⟩, hb⟩
    · exact ⟨⟨A', _, c', 0, rfl, by rw [h1, h2]; rfl⟩, hb⟩
  · have h' : isLetters inp = false ∨ isText out = false := by
      cases hx : isLetters inp with
      | false => exact .inl rfl
      | true => cases hy : isText out with
        | false => exact .inr rfl
        | true => exact absurd ⟨hx, hy⟩ h
    refine (pair_arg s.modes s.accept A s.rules.length c inp out w (by unfold maxLen; omega) (by unfold maxLen; omega) h').mono ?_
    rintro e w' ⟨rfl, hb⟩
    refine ⟨⟨none, 0, 0, 1, rfl, ?_⟩, hb⟩
    rcases h' with h' | h' <;> simp [h']
set_option maxHeartbeats 4000000 in
set_option maxRecDepth 100000 in
theorem refuses6_any (b dr : Nat) (more : List RawRule) (A : Option Addr) (c : Nat) (o0 s0 s1 : ByteArray) (w : World) (hb8 : b < 256) (hd8 : dr < 256) (hR : RawAt (· < w.heap.size) w A more) (hwf : ∀ r ∈ more, r.wf) (hml : more.length ≤ maxLen) (ho : o0.size ≤ maxLen) (h0 : s0.size ≤ maxLen) :
    Calls Try.prog 7 #[.agg #[.int .u8 b, .int .u8 dr, .slice A more.length c], .string o0, .agg #[.string s0, .string s1]] w (RetTrue w) := by
  go_enter Try.func7, Try.ntmps7
  go_upto_region 1 with (fail)
  refine world_gen (fun W => Below w.heap.size w W ∧ Blk W w.heap.size 24 #[.int .u8 b, .int .u8 dr, .slice A more.length c] ∧ Blk W (w.heap.size + 1) 69 #[.string s0, .string s1]) ⟨(below_one _ _).alloc (by simp) _, (Blk.new _ _ _).alloc _, Blk.new2 _ _ _ _⟩ ?_
  rintro W ⟨hbel, b0, b1⟩
  go_wp2_with fail
  refine (sanity6_any _).mono ?_
  rintro e w1 ⟨rfl, hb1⟩
  have hbel1 := hbel.trans (hb1.mono hbel.size)
  have b01 := b0.next hb1
  have b11 := b1.next hb1
  have x0 : w1.cell? ⟨w.heap.size, 0, none⟩ = some (.int .u8 b) := b01.cell 0
  have x1 : w1.cell? ⟨w.heap.size, 1, none⟩ = some (.int .u8 dr) := b01.cell 1
  have x2 : w1.cell? ⟨w.heap.size, 2, none⟩ = some (.slice A more.length c) := b01.cell 2
  have hlt0 := b01.lt
  have hlt1 := b11.lt
  clear b0 b1 hbel b01
  go_wp2_with fail
  refine (made6_any (· < w.heap.size) b dr more A c _ (fun k hk => by have := hbel1.size; omega) (RawAt.lower hR (fun _ h => h) hbel1) hwf hb8 hd8 hml).mono ?_
  rintro e w2 ⟨A2, c2, rfl, hb2, hacc⟩
  have hok := made6_ok b dr more
  have hbel2 := hbel1.trans (hb2.mono hbel1.size)
  have hb1' := b11.next hb2
  clear x0 x1 x2 hlt0 hlt1 hbel1 hb1 hb2 hR hwf hml b11
  generalize made6 b dr more = s at *
  go_upto_region 3 with (fail)
  refine world_gen (fun W => SX s w2.heap.size A2 c2 w W ∧ Blk W (w.heap.size + 1) 69 #[.string s0, .string s1]) ⟨⟨hbel2.alloc hbel2.size _, Blk.new _ _ _, (Reads.below (Acc.reads hacc) (below_one _ _)).mono (fun _ _ => trivial)⟩, hb1'.alloc _⟩ ?_
  clear hacc hbel2 hb1'
  generalize w2.heap.size = S at *
  rintro W3 ⟨h3, hbx1⟩
  have u0 : W3.cell? ⟨w.heap.size + 1, 0, none⟩ = some (.string s0) := hbx1.cell 0
  have hlu := hbx1.lt
  have H3 := Lib.hid h3
  have HOK := Lib.hid hok
  clear hbx1 hok h3
  obtain ⟨a1, ha1⟩ : ∃ a1 : Nat, min (o0.size : Int) 24 = (a1 : Int) ∧ a1 ≤ o0.size ∧ a1 ≤ 24 := ⟨min o0.size 24, by omega, by omega, by omega⟩
  obtain ⟨a2, ha2⟩ : ∃ a2 : Nat, min (s0.size : Int) 6 = (a2 : Int) ∧ a2 ≤ s0.size ∧ a2 ≤ 6 := ⟨min s0.size 6, by omega, by omega, by omega⟩
  obtain ⟨m1, k1, l1⟩ := ha1
  obtain ⟨m2, k2, l2⟩ := ha2
  unfold maxLen at ho h0
  go_cut [1, 9] (fun x y wx => ∃ o1 i1, x = .string o1 ∧ y = .string i1 ∧ o1.size ≤ 24 ∧ i1.size ≤ 6 ∧ Below W3.heap.size W3 wx)
  case first =>
    as_aux_lemma =>
      have q1 : (a1 : Int) ≤ (o0.size : Int) := by omega
      have q2 : (a2 : Int) ≤ (s0.size : Int) := by omega
      go_quiet (fail)
      go_wp2
      go_meet
      case rel => exact ⟨_, _, rfl, rfl, by simp [ByteArray.size_extract]; omega, by simp [ByteArray.size_extract]; omega, below_drewN (Below.refl _ _) _⟩
  case rest =>
    obtain ⟨o1, i1, rfl, rfl, ho1, hi1, hb3⟩ := hcut
    have H4 := Lib.hid (H3.out.next hb3)
    clear m1 m2 k1 k2 l1 l2 ho h0 u0 hlu H3 hb3
    go_upto_region 4 with (fail)
    go_cut [40] (fun x wx => x = .bool (decide (4 < o1.size) && isText o1) ∧ Below wc.heap.size wc wx)
    case first =>
      as_aux_lemma =>
        by_cases h4 : 4 < o1.size
        · have d1 : decide ((4 : Int) < (o1.size : Int)) = true := by simp; omega
          have d2 : decide (4 < o1.size) = true := by simpa using h4
          go_wp2_with (go_at_call 26; refine (isText6_any o1 _ (by unfold maxLen; omega)).mono ?_; rintro e w5 ⟨rfl, rfl⟩)
          go_meet
          case rel => exact ⟨by rw [d2]; rfl, Below.refl _ _⟩
        · have d1 : decide ((4 : Int) < (o1.size : Int)) = false := by simp; omega
          have d2 : decide (4 < o1.size) = false := by simpa using h4
          go_wp2_with (fail)
          go_meet
          case rel => exact ⟨by rw [d2]; rfl, Below.refl _ _⟩
    case rest =>
      obtain ⟨rfl, hb4⟩ := hcut
      have H5 := Lib.hid (H4.out.next hb4)
      clear H4 hb4
      go_upto_if 40 with (fail)
      go_cut [1] (fun x wx => ∃ o2, x = .string o2 ∧ o2.size ≤ 24 ∧ (isText o2 = true → o2.size ≤ 5) ∧ Below wc.heap.size wc wx)
      case first =>
        as_aux_lemma =>
          obtain ⟨bv, hbv⟩ : ∃ bv, (decide (4 < o1.size) && isText o1) = bv := ⟨_, rfl⟩
          rw [hbv]
          have HBV := Lib.hid hbv
          clear hbv
          cases bv
          · go_wp2_with fail
            go_meet
            case rel =>
              refine ⟨o1, rfl, ho1, fun h => ?_, Below.refl _ _⟩
              have h1 := HBV.out
              rw [h, Bool.and_true, decide_eq_false_iff_not] at h1
              omega
          · have h1 : Hid (4 < o1.size) := Lib.hid (by
              have h1 := HBV.out
              rw [Bool.and_eq_true, decide_eq_true_eq] at h1
              exact h1.1)
            have d3 : (4 : Int) ≤ (o1.size : Int) := by have := h1.out; omega
            go_wp2_with fail
            go_meet
            case rel => exact ⟨o1.extract 0 4, rfl, by simp [ByteArray.size_extract]; omega, fun _ => by simp [ByteArray.size_extract]; omega, Below.refl _ _⟩
      case rest =>
        obtain ⟨o2, rfl, ho2, ht5, hb6⟩ := hcut
        have H6 := Lib.hid (H5.out.next hb6)
        have HT := Lib.hid ht5
        obtain ⟨x0, x1, x2, hlt⟩ := H6.out.cells
        clear H5 hb6 ht5
        go_wp2_with fail
        refine (bestE HOK.out A2 c2 o2 _ (fun _ => True) H6.out.rules ho2 HT.out).mono ?_
        rintro e w7 ⟨⟨A7, n7, c7, er7, rfl, he7⟩, hb7⟩
        obtain ⟨y0, y1, y2, hlt2⟩ := (H6.out.next hb7).cells
        have H7 := Lib.hid (H6.out.next hb7)
        have HE7 := Lib.hid he7
        clear hb7 he7 H6 x0 x1 x2 hlt
        go_wp2_with fail
        refine (pairE HOK.out A2 c2 i1 o2 _ (fun _ => True) H7.out.rules ho2 hi1).mono ?_
        rintro e w8 ⟨⟨A8, n8, c8, er8, rfl, he8⟩, hb8⟩
        obtain ⟨x0, x1, x2, hlt⟩ := (H7.out.next hb8).cells
        have H8 := Lib.hid (H7.out.next hb8)
        have HE8 := Lib.hid he8
        clear hb8 he8 H7 y0 y1 y2 hlt2
        go_wp2_with fail
        refine (best_arg s.modes s.accept A2 s.rules.length c2 ⟨#[]⟩ 51 _ (by decide) (.inr (.inr (by decide)))).mono ?_
        rintro e w9 ⟨rfl, hb9⟩
        obtain ⟨y0, y1, y2, hlt2⟩ := (H8.out.next hb9).cells
        have H9 := Lib.hid (H8.out.next hb9)
        clear hb9 H8 x0 x1 x2 hlt
        go_wp2_with fail
        refine (cheapest_arg s.modes s.accept A2 s.rules.length c2 ⟨#[97, 97, 97, 97, 97, 97, 97, 97, 97, 97, 97, 97, 97, 97, 97, 97, 97, 97, 97, 97, 97]⟩ _ (by decide) (by decide)).mono ?_
        rintro e w10 ⟨rfl, hb10⟩
        have H10 := Lib.hid (H9.out.next hb10)
        clear hb10 H9 y0 y1 y2 hlt2
        obtain ⟨t, ht⟩ : ∃ t, isText o2 = t := ⟨_, rfl⟩
        obtain ⟨l, hl⟩ : ∃ l, isLetters i1 = l := ⟨_, rfl⟩
        have he7 := HE7.out
        have he8 := HE8.out
        rw [ht] at he7
        rw [ht, hl] at he8
        have HTL := Lib.hid (And.intro ht hl)
        have hm1 : o2.size ≤ maxLen := by unfold maxLen; omega
        have hm2 : i1.size ≤ maxLen := by unfold maxLen; omega
        clear ht hl HE7 HE8
        cases t <;> cases l
        all_goals
          go_wp2_with (first | (go_at_call 26; refine (isText6_any o2 _ hm1).mono ?_; rintro e wx ⟨rfl, rfl⟩; rw [HTL.out.1]) | (go_at_call 27; refine (letters2_any i1 _ hm2).mono ?_; rintro e wx ⟨rfl, rfl⟩; rw [HTL.out.2]))
          go_ret
          exact ⟨rfl, H10.out.bel⟩
end Go.Proofs.Ythcnnadggffjhaa
