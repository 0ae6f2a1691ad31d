/- The walk of ReverseBegins. -/
import Derived.Test.YthcnnadggffjhaaV6
set_option linter.unusedVariables false
set_option linter.unusedSimpArgs false
namespace Go.Proofs.Ythcnnadggffjhaa
open Go.RowKit
set_option maxHeartbeats 20000000 in
set_option maxRecDepth 100000 in
theorem begins6_any (b dr w0 wb : Nat) (more : List RawRule) (A : Option Addr) (c : Nat) (A' : Option Addr) (c' : Nat) (l : List Nat) (w : World) (hb8 : b < 256) (hd8 : dr < 256) (h08 : w0 < 256) (h18 : wb < 256) (hR : RawAt (· < w.heap.size) w A more) (hwf : ∀ r ∈ more, r.wf) (hml : more.length ≤ maxLen)
    (hL : SlAt v8 (· < w.heap.size) w A' l) (hl8 : ∀ x ∈ l, x < 256) (hl : l.length ≤ maxLen) :
    Calls Try.prog 5 #[.agg #[.int .u8 b, .int .u8 dr, .slice A more.length c], .slice A' l.length c', .agg #[.int .u8 w0, .int .u8 wb]] w (RetTrue w) := by
  go_enter Try.func5, Try.ntmps5
  go_upto_region 1 with (fail)
  refine world_gen (fun W => Below w.heap.size w W ∧ Blk W w.heap.size 24 #[.int .u8 b, .int .u8 dr, .slice A more.length c] ∧ Blk W (w.heap.size + 1) 60 #[.int .u8 w0, .int .u8 wb]) ⟨(below_one _ _).alloc (by simp) _, (Blk.new _ _ _).alloc _, Blk.new2 _ _ _ _⟩ ?_
  rintro W ⟨hbel, b0, b1⟩
  go_wp2_with fail
  refine (sanity6_any _).mono ?_
  rintro e w1 ⟨rfl, hb1⟩
  have hbel1 := hbel.trans (hb1.mono hbel.size)
  have b01 := b0.next hb1
  have b11 := b1.next hb1
  have x0 : w1.cell? ⟨w.heap.size, 0, none⟩ = some (.int .u8 b) := b01.cell 0
  have x1 : w1.cell? ⟨w.heap.size, 1, none⟩ = some (.int .u8 dr) := b01.cell 1
  have x2 : w1.cell? ⟨w.heap.size, 2, none⟩ = some (.slice A more.length c) := b01.cell 2
  have hlt0 := b01.lt
  have hlt1 := b11.lt
  clear b0 b1 hbel b01
  go_wp2_with fail
  refine (made6_any (· < w.heap.size) b dr more A c _ (fun k hk => by have := hbel1.size; omega) (RawAt.lower hR (fun _ h => h) hbel1) hwf hb8 hd8 hml).mono ?_
  rintro e w2 ⟨A2, c2, rfl, hb2, hacc⟩
  have hok := made6_ok b dr more
  have hbel2 := hbel1.trans (hb2.mono hbel1.size)
  have hb1' := b11.next hb2
  clear x0 x1 x2 hlt0 hlt1 hbel1 hb1 hb2 hR hwf hml b11
  generalize made6 b dr more = s at *
  go_upto_region 3 with (fail)
  refine world_gen (fun W => SY s w2.heap.size A2 c2 w W ∧ Blk W (w.heap.size + 1) 60 #[.int .u8 w0, .int .u8 wb]) ⟨⟨hbel2.alloc hbel2.size _, Blk.new _ _ _, (Reads.below (Acc.reads hacc) (below_one _ _)).mono (fun _ _ => trivial)⟩, hb1'.alloc _⟩ ?_
  clear hacc hbel2 hb1'
  generalize w2.heap.size = S at *
  rintro W3 ⟨h3, hbx1⟩
  have H3 := Lib.hid h3
  have HX := Lib.hid hbx1
  have HOK := Lib.hid hok
  clear hbx1 hok h3
  go_wp2_with fail
  refine (text6_any (· < w.heap.size) A' c' 4 l _ (Reads.below hL H3.out.bel) hl (by decide) hl8).mono ?_
  rintro e w4 ⟨rfl, hb4⟩
  obtain ⟨out, hout⟩ : ∃ out, textOf l 4 = out := ⟨_, rfl⟩
  have hot : isText out = true := by rw [← hout]; exact textOf_text l (by decide)
  have hos : out.size ≤ 4 := by rw [← hout]; exact textOf_size l 4
  rw [hout]
  have H4 := Lib.hid (H3.out.next hb4)
  have HX4 := Lib.hid (HX.out.next hb4)
  clear hout hb4 H3 HX hL hl8 hl
  have u0 : w4.cell? ⟨w.heap.size + 1, 0, none⟩ = some (.int .u8 w0) := HX4.out.cell 0
  have u1 : w4.cell? ⟨w.heap.size + 1, 1, none⟩ = some (.int .u8 wb) := HX4.out.cell 1
  have hlu := HX4.out.lt
  obtain ⟨x0, x1, x2, hlt⟩ := H4.out.cells
  go_wp2_with fail
  obtain ⟨k, hk⟩ : ∃ k : Nat, 1 + (w0 : Int) % 20 = (k : Int) ∧ 1 ≤ k ∧ k ≤ 20 := ⟨1 + w0 % 20, by omega, by omega, by omega⟩
  obtain ⟨hke, hk1, hk2⟩ := hk
  obtain ⟨n, hn⟩ : ∃ n : Nat, (k : Int) + (wb : Int) % 20 = (n : Int) ∧ k ≤ n ∧ n ≤ 40 := ⟨k + wb % 20, by omega, by omega, by omega⟩
  obtain ⟨hne, hn1, hn2⟩ := hn
  rw [hke, hne]
  clear hke hne u0 u1 hlu HX4
  refine (bestC HOK.out A2 c2 out k _ (fun _ => True) H4.out.rules hot (by omega) hk1 (by omega)).mono ?_
  rintro e w5 ⟨A5, n5, c5, er5, l5, N5, rfl, hb5, ho5, hn5, he5, hc5, hr5⟩
  obtain ⟨y0, y1, y2, hlt2⟩ := (H4.out.next hb5).cells
  have H5 := Lib.hid (H4.out.next hb5)
  have R5 := Lib.hid (And.intro ho5 (And.intro hn5 (And.intro he5 hr5)))
  clear hb5 ho5 hn5 he5 hr5 H4 x0 x1 x2 hlt
  go_wp2_with fail
  refine (bestC HOK.out A2 c2 out n _ (fun _ => True) H5.out.rules hot (by omega) (by omega) (by omega)).mono ?_
  rintro e w6 ⟨A6, n6, c6, er6, l6, N6, rfl, hb6, ho6, hn6, he6, hc6, hr6⟩
  obtain ⟨x0, x1, x2, hlt⟩ := (H5.out.next hb6).cells
  have H6 := Lib.hid (H5.out.next hb6)
  have R6 := Lib.hid (And.intro ho6 (And.intro hn6 (And.intro he6 (And.intro hr6 (Reads.below R5.out.2.2.2 hb6)))))
  clear hb6 ho6 hn6 he6 hr6 H5 y0 y1 y2 hlt2
  go_wp2_with fail
  refine (cheapC HOK.out A2 c2 out _ (fun _ => True) H6.out.rules hot (by omega)).mono ?_
  rintro e w7 ⟨p, er7, l7, N7, rfl, hb7, ho7, he7, hp7, _⟩
  have H7 := Lib.hid (H6.out.next hb7)
  obtain ⟨t, ht, htk⟩ := outer_two hn1 R5.out.1 R6.out.1
  obtain ⟨t', ht', htk'⟩ := outer_two hk1 ho7 R5.out.1
  have hbp := begins_plain hk1 hn1 ht htk
  have hbq := begins_plain (Nat.le_refl 1) hk1 ht' htk'
  have R7 := Lib.hid (And.intro (Reads.below R6.out.2.2.2.2 hb7) (And.intro (Reads.below R6.out.2.2.2.1 hb7) (And.intro hbp (And.intro hp7 (And.intro ht' (And.intro R5.out.2.1 R6.out.2.1))))))
  by_cases hem : l5 = []
  · have h5 : er5 = 50 := by rw [R5.out.2.2.1, hem]; rfl
    have h6 : er6 = 50 := by rw [R6.out.2.2.1, hbp.2.2.2.1 hem]; rfl
    have h7 : er7 = 50 := by rw [he7, hbq.2.2.2.2 hem]; rfl
    subst h5 h6 h7
    clear hb7 ho7 he7 hp7 H6 x0 x1 x2 hlt ht htk ht' htk' hbp hbq R5 R6 hem
    go_wp2_with fail
    go_ret
    exact ⟨rfl, H7.out.bel⟩
  · have h5 : er5 = 0 := by rw [R5.out.2.2.1]; exact errOf_some hem
    have h6 : er6 = 0 := by rw [R6.out.2.2.1]; exact errOf_some (fun h => hem (hbp.2.2.2.2 h))
    have h70 : l7 ≠ [] := fun h => hem (hbq.2.2.2.1 h)
    have h7 : er7 = 0 := by rw [he7]; exact errOf_some h70
    subst h5 h6 h7
    have hn5 : 0 < n5 := by
      have := R5.out.2.1
      have := List.length_pos_iff.2 hem
      omega
    have hfirst : (l5.take k)[0]? = some p := by
      rw [ht', List.getElem?_take]
      have h1 := hp7 h70
      cases l7 with
      | nil => exact absurd rfl h70
      | cons q l7 =>
        injection h1 with h1
        subst h1
        simp
        omega
    have hlen5 : (l5.take k).length = n5 := by rw [List.length_take, R5.out.2.1]
    have hlen6 : (l6.take n).length = n6 := by rw [List.length_take, R6.out.2.1]
    have hn56 : n5 ≤ n6 := by rw [R5.out.2.1, R6.out.2.1]; exact hbp.2.1
    have hn5k : n5 ≤ k := by rw [R5.out.2.1]; omega
    have hor : n5 = k ∨ n6 = n5 := by rw [R5.out.2.1, R6.out.2.1]; exact hbp.2.2.1
    have hsame : (l6.take n).take n5 = l5.take k := by rw [R5.out.2.1]; exact hbp.1
    have hr6 : ResAt (fun _ => True) w7 A6 (l5.take k) := by
      have h1 := R7.out.2.1
      have h2 := Reads.take_ h1 (n5 * 2)
      unfold ResAt
      rw [← hsame]
      have h3 : ((l6.take n).flatMap resCells).take (n5 * 2) = ((l6.take n).take n5).flatMap resCells := by
        have h4 : ∀ (xs : List (ByteArray × Nat)) (j : Nat), (xs.flatMap resCells).take (j * 2) = (xs.take j).flatMap resCells := by
          intro xs
          induction xs with
          | nil => intro j; simp
          | cons x xs ih =>
            intro j
            cases j with
            | zero => simp
            | succ j =>
              rw [List.take_succ_cons, List.flatMap_cons, List.flatMap_cons, List.take_append, List.take_of_length_le (by simp [resCells]; omega)]
              congr 1
              rw [show (j + 1) * 2 - (resCells x).length = j * 2 from by simp [resCells]; omega]
              exact ih j
        exact h4 _ _
      rw [h3] at h2
      exact h2
    obtain ⟨b6, o6, rfl⟩ := Reads.some_ hr6 (by rw [resCells_len, hlen5]; omega)
    obtain ⟨b5, o5, rfl⟩ := Reads.some_ R7.out.1 (by rw [resCells_len, hlen5]; omega)
    obtain ⟨_, hlb, v0, v1⟩ := ResAt.got R7.out.1 hfirst
    rw [Nat.zero_mul, Nat.add_zero] at v0 v1
    have HS := Lib.hid (And.intro hr6 (And.intro R7.out.1 hlen5))
    have q1 : (0 : Int) < (n5 : Int) := by omega
    have q2 : (n5 : Int) ≤ (k : Int) := by omega
    have q3 : (n5 : Int) ≤ (n6 : Int) := by omega
    have q4 : (n5 : Int) ≤ (c6 : Int) := by omega
    have hn5s : n5 ≤ 20 := by omega
    clear hb7 ho7 he7 hp7 H6 x0 x1 x2 hlt ht htk ht' htk' hbp hbq R5 R6 R7 hem hlen5 hlen6 hr6 hsame hfirst h70
    by_cases hnk : n5 = k
    · have q5 : ((n5 : Int) == (k : Int)) = true := by rw [hnk]; simp
      have HNK := Lib.hid hnk
      clear hnk hor
      go_wp2_with (go_at_call 18; refine (same6_n (fun _ => True) (fun _ => True) _ _ _ _ n5 (l5.take k) _ HS.out.1 HS.out.2.1 HS.out.2.2 (by omega)).mono ?_; rintro e w8 ⟨rfl, hb8⟩; have v0 := (hb8.cell (p := ⟨b5, o5, none⟩) hlb).trans v0; have v1 := (hb8.cell (p := ⟨b5, o5 + 1, none⟩) hlb).trans v1; have hlb := Nat.lt_of_lt_of_le hlb hb8.size; have H8 := Lib.hid (H7.out.next hb8); clear hb8)
      go_ret
      exact ⟨rfl, H8.out.bel⟩
    · have q5 : ((n5 : Int) == (k : Int)) = false := by rw [beq_eq_false_iff_ne]; omega
      have q6 : ((n6 : Int) == (n5 : Int)) = true := by rw [beq_iff_eq]; omega
      clear hnk hor
      go_wp2_with (go_at_call 18; refine (same6_n (fun _ => True) (fun _ => True) _ _ _ _ n5 (l5.take k) _ HS.out.1 HS.out.2.1 HS.out.2.2 (by omega)).mono ?_; rintro e w8 ⟨rfl, hb8⟩; have v0 := (hb8.cell (p := ⟨b5, o5, none⟩) hlb).trans v0; have v1 := (hb8.cell (p := ⟨b5, o5 + 1, none⟩) hlb).trans v1; have hlb := Nat.lt_of_lt_of_le hlb hb8.size; have H8 := Lib.hid (H7.out.next hb8); clear hb8)
      go_ret
      exact ⟨rfl, H8.out.bel⟩
end Go.Proofs.Ythcnnadggffjhaa
