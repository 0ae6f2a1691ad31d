/- The walk of the reference of layer 6: Made. -/
import Derived.Test.YthcnnadggffjhaaW8
import Derived.Test.YthcnnadggffjhaaI7
set_option linter.unusedVariables false
set_option linter.unusedSimpArgs false
namespace Go.Proofs.Ythcnnadggffjhaa
open Go.RowKit

def keep6 (r : Rule) : Bool := !decide (r.inp.size = 0) || decide (r.frm < r.dst)
def made6 (base drop : Nat) (more : List RawRule) : Scheme := ⟨(made2 base drop more).modes, (made2 base drop more).accept, (made2 base drop more).rules.filter keep6⟩
/-- what is known of the world while 'Made' works: S the box of the scheme of layer 2, behind it that of what is made -/
def Made6W (A2 : Option Addr) (c2 m2 a2 : Nat) (l2 : List Rule) (S : Nat) (rs : List Rule) (w W : World) : Prop :=
  Below w.heap.size w W ∧ w.heap.size + 1 < S ∧ Blk W (w.heap.size + 1) 31 #[.int .i64 0, .int .u8 0, .slice none 0 0] ∧
    Blk W S 31 #[.int .i64 m2, .int .u8 a2, .slice A2 l2.length c2] ∧ RulesAt (· < S) W A2 l2 ∧
    ∃ A' c', Blk W (S + 1) 31 #[.int .i64 m2, .int .u8 a2, .slice A' rs.length c'] ∧ Acc (S + 2) W 65 5 A' rs.length c' (rs.flatMap Rule.cells)
section
variable {A2 : Option Addr} {c2 m2 a2 : Nat} {l2 : List Rule} {S : Nat} {rs : List Rule} {w W W' : World}
theorem Made6W.next (h : Made6W A2 c2 m2 a2 l2 S rs w W) (hb : Below W.heap.size W W') : Made6W A2 c2 m2 a2 l2 S rs w W' := by
  obtain ⟨h0, h1, h2, h3, h4, A', c', h5, h6⟩ := h
  exact ⟨h0.trans (hb.mono h0.size), h1, h2.next hb, h3.next hb, RulesAt.below h4 hb, A', c', h5.next hb, h6.below hb⟩
theorem Made6W.push {A' : Option Addr} {c' : Nat} {W1 : World} {row : Option Nat} {g cap : Nat} {r : Rule} (h0 : Below w.heap.size w W) (h1 : w.heap.size + 1 < S) (h2 : Blk W (w.heap.size + 1) 31 #[.int .i64 0, .int .u8 0, .slice none 0 0])
    (h3 : Blk W S 31 #[.int .i64 m2, .int .u8 a2, .slice A2 l2.length c2]) (h4 : RulesAt (· < S) W A2 l2) (h5 : Blk W (S + 1) 31 #[.int .i64 m2, .int .u8 a2, .slice A' rs.length c'])
    (hb : Below W.heap.size W W1) (hgr : W1.grownBy W' row) (hrow : RowOk (S + 2) W1 65 row)
    (hown : W'.ownsRow (S + 2) 65 5 (.slice (some ⟨g, 0, none⟩) (rs.length + 1) cap) (rs.length + 1) (rs.flatMap Rule.cells ++ [.int .i64 r.frm, .int .i64 r.dst, .string r.inp, .string r.out, .int .i64 r.cost])) :
    Made6W A2 c2 m2 a2 l2 S (rs ++ [r]) w (W'.setCell ⟨S + 1, 2, none⟩ (.slice (some ⟨g, 0, none⟩) (rs.length + 1) cap)) := by
  have hbel2 := h0.trans (hb.mono h0.size)
  have hbel4 := below_rowOk hbel2 hgr hrow (by omega) hbel2.size
  have b24 := (h2.next hb).rowOk hgr hrow (by decide)
  have bS4 := (h3.next hb).rowOk hgr hrow (by decide)
  have bT4 := (h5.next hb).rowOk hgr hrow (by decide)
  refine ⟨hbel4.setCell (p := ⟨S + 1, 2, none⟩) (by simp; omega) _, h1, b24.far (by simp; omega) _, bS4.far (by simp) _, Reads.farB (Reads.rowOk (RulesAt.below h4 hb) hgr hrow (fun b hb => by omega)) (fun b hb => by simp; omega) _, some ⟨g, 0, none⟩, cap, ?_, .inl ?_⟩
  · have := bT4.set 2 (.slice (some ⟨g, 0, none⟩) (rs.length + 1) cap)
    simpa using this
  · have e : (rs ++ [r]).flatMap Rule.cells = rs.flatMap Rule.cells ++ [.int .i64 r.frm, .int .i64 r.dst, .string r.inp, .string r.out, .int .i64 r.cost] := by simp [Rule.cells]
    rw [e, List.length_append, List.length_singleton]
    exact Acc.far (p := ⟨S + 1, 2, none⟩) hown bT4 (by decide) _
end
set_option maxHeartbeats 2000000 in
set_option maxRecDepth 100000 in
theorem made6_any (F : Nat → Prop) (base drop : Nat) (more : List RawRule) (A : Option Addr) (c : Nat) (w : World) (hF : ∀ b, F b → b < w.heap.size) (h : RawAt F w A more) (hwf : ∀ r ∈ more, r.wf) (hb8 : base < 256) (hd8 : drop < 256) (hl : more.length ≤ maxLen) :
    Calls Try.prog 10 #[.agg #[.int .u8 base, .int .u8 drop, .slice A more.length c]] w (SchemeRes (made6 base drop more) w) := by
  have Hl := Lib.hid hl
  clear hl
  go_enter Try.func10, Try.ntmps10
  go_wp2_with (go_at_call 29; refine (made2_any F base drop more A c _ (fun b hb => by have := hF b hb; simp; omega) (by exact h.lower hF (by first | exact below_one _ _ | exact (below_one _ _).alloc (by simp) _ | exact ((below_one _ _).alloc (by simp) _).alloc (by simp; omega) _)) hwf hb8 hd8 Hl.out).mono ?_; rintro e w1 ⟨A2, c2, rfl, hb1, hacc⟩)
  obtain ⟨l2, hl2⟩ : ∃ l2, l2 = (made2 base drop more).rules := ⟨_, rfl⟩
  obtain ⟨m2, hm2⟩ : ∃ m2, m2 = (made2 base drop more).modes := ⟨_, rfl⟩
  obtain ⟨a2, ha2⟩ : ∃ a2, a2 = (made2 base drop more).accept := ⟨_, rfl⟩
  have HF2 : Hid (SchemeRes (made6 base drop more) w = SchemeRes ⟨m2, a2, l2.filter keep6⟩ w) := by rw [hm2, ha2, hl2]; exact rfl
  have hlen2 := made2_len base drop more
  rw [← hl2] at hlen2 hacc ⊢
  rw [← hm2, ← ha2]
  clear hl2 hm2 ha2 h hwf hF hb8 hd8 Hl
  have hsz : w.heap.size + 1 < w1.heap.size := by have := hb1.size; simp at this; omega
  have b1 : Blk w1 (w.heap.size + 1) 31 #[.int .i64 0, .int .u8 0, .slice none 0 0] := (Blk.new2 w _ _ _).next hb1
  have hbel : Below w.heap.size w w1 := ((below_one w _).alloc (by simp) _).trans (hb1.mono (by simp; omega))
  have hR : RulesAt (· < w1.heap.size) w1 A2 l2 := (Acc.reads hacc).all
  have hW : Made6W A2 c2 m2 a2 l2 w1.heap.size [] w ((w1.alloc (.cells #[.int .i64 m2, .int .u8 a2, .slice A2 l2.length c2] 31)).alloc (.cells #[.int .i64 m2, .int .u8 a2, .slice none 0 0] 31)) :=
    ⟨(hbel.alloc hbel.size _).alloc (by have := hbel.size; simp; omega) _, hsz, (b1.alloc _).alloc _, (Blk.new _ _ _).alloc _, RulesAt.below hR ((below_one _ _).alloc (by simp) _), none, 0, Blk.new2 _ _ _ _, Acc.nil _ _ _ _⟩
  clear hb1 hacc b1 hbel hR
  go_loopw [5] (fun x wr => ∃ k : Nat, k ≤ l2.length ∧ x = .int .i64 k ∧ ∃ rs, rs.length ≤ k ∧ rs = (l2.take k).filter keep6 ∧ Made6W A2 c2 m2 a2 l2 w1.heap.size rs w wr) (fun x _ => l2.length - (intOf x).toNat)
  case atStart => exact ⟨0, by omega, rfl, [], by simp, by simp, by first | exact hW | exact hW.next (Below.refl _ _).drew⟩
  case round =>
    clear hW hsz
    generalize w1.heap.size = S at *
    obtain ⟨k, hk, rfl, rs, hrk, hrs, hM⟩ := hrel
    have HRS := Lib.hid hrs
    clear hrs
    by_cases hkl : k < l2.length
    · obtain ⟨r, hr⟩ : ∃ r, l2[k]? = some r := ⟨_, List.getElem?_eq_getElem hkl⟩
      have htk : (l2.take (k + 1)).filter keep6 = rs ++ (if keep6 r then [r] else []) := by
        rw [List.take_add_one, hr, List.filter_append, ← HRS.out]
        by_cases hk6 : keep6 r <;> simp [hk6]
      have HTK := Lib.hid htk
      obtain ⟨hbel, hSlt, b1, bS, hR, A', c', bT, hacc⟩ := hM
      obtain ⟨b, o, rfl⟩ := Reads.some_ hR (by rw [cells_length]; omega)
      obtain ⟨hbS, hbl, y0, y1, y2, y3, y4⟩ := RulesAt.got hR hr
      have x2 : wr.cell? ⟨S, 2, none⟩ = some (.slice (some ⟨b, o, none⟩) l2.length c2) := bS.cell 2
      have z2 : wr.cell? ⟨S + 1, 2, none⟩ = some (.slice A' rs.length c') := bT.cell 2
      have fz2 : wr.frozen? ⟨S + 1, 2, none⟩ = false := bT.free 2
      have hS1 : S < wr.heap.size := bS.lt
      have hS2 : S + 1 < wr.heap.size := bT.lt
      have hk0 : (0 : Int) ≤ (k : Int) := by omega
      have hk1 : (k : Int) < (l2.length : Int) := by omega
      have HB := Lib.hid (And.intro hbel (And.intro b1 (And.intro bS (And.intro hR (And.intro bT hacc)))))
      clear b1 bS bT hacc hR htk hr hbel
      go_upto_region 6 with (fail)
      go_cut [41] (fun x wx => x = .bool (keep6 r) ∧ Below wr.heap.size wr wx)
      case first =>
        by_cases e1 : r.inp.size = 0
        · have q1 : r.inp = ⟨#[]⟩ := by
            obtain ⟨f1, f2, ⟨a⟩, f3, f4⟩ := r
            have : a.size = 0 := e1
            simp only
            rw [Array.eq_empty_of_size_eq_zero this]
          rw [q1] at y2
          obtain ⟨d, hd⟩ : ∃ d, decide (r.frm < r.dst) = d := ⟨_, rfl⟩
          have hd2 : decide ((r.frm : Int) < (r.dst : Int)) = d := by rw [← hd]; simp
          have HK : Hid (keep6 r = d ∧ decide (r.frm < r.dst) = d) := Lib.hid ⟨by unfold keep6; rw [hd]; simp [e1], hd⟩
          clear q1 e1 hd
          go_quiet (fail)
          go_wp2
          go_meet
          case rel => exact ⟨by rw [HK.out.1, HK.out.2], below_drewN (Below.refl _ _) _⟩
        · obtain ⟨q1, q2, q3⟩ := not_empty (s := r.inp) (by omega)
          have HK : Hid (keep6 r = true) := Lib.hid (by unfold keep6; rw [decide_eq_false e1]; rfl)
          clear e1
          go_quiet (fail)
          go_wp2
          go_meet
          case rel => exact ⟨by rw [HK.out], below_drewN (Below.refl _ _) _⟩
      case rest =>
        obtain ⟨rfl, hb6⟩ := hcut
        have HB2 := Lib.hid (And.intro (HB.out.1.trans (hb6.mono HB.out.1.size)) (And.intro (HB.out.2.1.next hb6) (And.intro (HB.out.2.2.1.next hb6) (And.intro (RulesAt.below HB.out.2.2.2.1 hb6) (And.intro (HB.out.2.2.2.2.1.next hb6) (HB.out.2.2.2.2.2.below hb6))))))
        have y0 := (hb6.cell (p := ⟨b, o + k * 5, none⟩) hbl).trans y0
        have y1 := (hb6.cell (p := ⟨b, o + k * 5 + 1, none⟩) hbl).trans y1
        have y2 := (hb6.cell (p := ⟨b, o + k * 5 + 2, none⟩) hbl).trans y2
        have y3 := (hb6.cell (p := ⟨b, o + k * 5 + 3, none⟩) hbl).trans y3
        have y4 := (hb6.cell (p := ⟨b, o + k * 5 + 4, none⟩) hbl).trans y4
        have x2 := (hb6.cell (p := ⟨S, 2, none⟩) hS1).trans x2
        have z2 : wc.cell? ⟨S + 1, 2, none⟩ = some (.slice A' rs.length c') := HB2.out.2.2.2.2.1.cell 2
        have fz2 : wc.frozen? ⟨S + 1, 2, none⟩ = false := HB2.out.2.2.2.2.1.free 2
        have hS1 := HB2.out.2.2.1.lt
        have hS2 := HB2.out.2.2.2.2.1.lt
        have hbl := Nat.lt_of_lt_of_le hbl hb6.size
        clear HB hb6
        cases hk6 : keep6 r with
        | false =>
          rw [hk6] at HTK
          have HK := Lib.hid hk6
          have HM : Hid (Made6W (some ⟨b, o, none⟩) c2 m2 a2 l2 S rs w wc) := Lib.hid ⟨HB2.out.1, hSlt, HB2.out.2.1, HB2.out.2.2.1, HB2.out.2.2.2.1, A', c', HB2.out.2.2.2.2.1, HB2.out.2.2.2.2.2⟩
          clear hk6
          go_wp2_with fail
          go_roundw
          case rel => exact ⟨k + 1, by omega, by go_num, rs, by omega, by simpa using HTK.out.symm, HM.out⟩
          case measure => simp [intOf]; omega
        | true =>
          rw [hk6] at HTK
          have HK := Lib.hid hk6
          obtain ⟨i0, hi0, hz0, hz1, hz2⟩ := info_parts rule_info
          have hlen : rs.length < 10 := by omega
          clear hk6
          go_upto_region 7 with (fail)
          have HR5 : Hid (Acc (S + 2) wc 65 5 A' rs.length c' (rs.flatMap Rule.cells)) := Lib.hid HB2.out.2.2.2.2.2
          go_region_law (go_loud (refine step_append_acc _ (by rfl) _ _ _ (by rfl) (S + 2) 65 i0 _ 5 56 Try.underlying29 hi0 hz0 hz1 hz2 (by rfl) (by omega) A' rs.length c' (rs.flatMap Rule.cells) (by rfl) (by exact HR5.out.below (below_one _ _).drew) wc.heap.size 65 (0, 0) 1 1 #[.int .i64 r.frm, .int .i64 r.dst, .string r.inp, .string r.out, .int .i64 r.cost] (by rfl) (by rfl) (by exact heap_alloc_new _ _) (by simp [Value.oneCell']) (by omega) (by unfold maxLen; omega) (by omega) (by simp; omega) ?_; intro g2 cap w4 row hown hgr hrow hat hlt4; have bS4 := (HB2.out.2.2.2.2.1.alloc (.cells #[.int .i64 r.frm, .int .i64 r.dst, .string r.inp, .string r.out, .int .i64 r.cost] 65)).drew.rowOk hgr hrow (by decide); have zz2 : w4.cell? ⟨S + 1, 2, none⟩ = some (.slice A' rs.length c') := bS4.cell 2; have fzz2 : w4.frozen? ⟨S + 1, 2, none⟩ = false := bS4.free 2))
          all_goals (go_wp2_with fail)
          all_goals refine ⟨⟨k + 1, by omega, by go_num, rs ++ [r], by simp; omega, by simpa using HTK.out.symm, ?_⟩, by simp [intOf]; omega⟩
          all_goals exact Made6W.push HB2.out.1 hSlt HB2.out.2.1 HB2.out.2.2.1 HB2.out.2.2.2.1 HB2.out.2.2.2.2.1 (below_one _ _).drew hgr hrow hown
    · obtain rfl : k = l2.length := by omega
      obtain ⟨hbel, hSlt, b1, bS, hR, A', c', bT, hacc⟩ := hM
      have HF3 : Hid (SchemeRes (made6 base drop more) w = SchemeRes ⟨m2, a2, rs⟩ w) := by rw [HF2.out, HRS.out, List.take_length]; exact rfl
      have d2 : wr.cell? ⟨S, 2, none⟩ = some (.slice A2 l2.length c2) := bS.cell 2
      have x0 : wr.cell? ⟨S + 1, 0, none⟩ = some (.int .i64 m2) := bT.cell 0
      have x1 : wr.cell? ⟨S + 1, 1, none⟩ = some (.int .u8 a2) := bT.cell 1
      have x2 : wr.cell? ⟨S + 1, 2, none⟩ = some (.slice A' rs.length c') := bT.cell 2
      have p0 : wr.cell? ⟨w.heap.size + 1, 0, none⟩ = some (.int .i64 0) := b1.cell 0
      have p1 : wr.cell? ⟨w.heap.size + 1, 1, none⟩ = some (.int .u8 0) := b1.cell 1
      have p2 : wr.cell? ⟨w.heap.size + 1, 2, none⟩ = some (.slice none 0 0) := b1.cell 2
      have f0 : wr.frozen? ⟨w.heap.size + 1, 0, none⟩ = false := b1.free 0
      have f1 : wr.frozen? ⟨w.heap.size + 1, 1, none⟩ = false := b1.free 1
      have f2 : wr.frozen? ⟨w.heap.size + 1, 2, none⟩ = false := b1.free 2
      have hsz3 : w.heap.size + 1 < wr.heap.size := b1.lt
      have hsz4 : S < wr.heap.size := bS.lt
      have hsz5 : S + 1 < wr.heap.size := bT.lt
      have HACC := Lib.hid hacc
      clear b1 bS bT hacc hR HF2 HRS
      go_wp2
      refine bodyPost_ret (v := .agg #[.int .i64 m2, .int .u8 a2, .slice A' rs.length c']) (by simp [results, Try.results10, go_sem, p0, p1, p2, f0, f1, f2]) rfl ?_
      rw [HF3.out]
      refine ⟨A', c', rfl, ((hbel.setCell (p := ⟨w.heap.size + 1, 0, none⟩) (by simp) _).setCell (p := ⟨w.heap.size + 1, 1, none⟩) (by simp) _).setCell (p := ⟨w.heap.size + 1, 2, none⟩) (by simp) _, ?_⟩
      exact (((HACC.out.low (p := ⟨w.heap.size + 1, 0, none⟩) (by simp; omega) _).low (p := ⟨w.heap.size + 1, 1, none⟩) (by simp; omega) _).low (p := ⟨w.heap.size + 1, 2, none⟩) (by simp; omega) _).mono (by omega)
end Go.Proofs.Ythcnnadggffjhaa
