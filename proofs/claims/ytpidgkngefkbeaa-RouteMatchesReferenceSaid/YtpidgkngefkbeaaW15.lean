/- The walk of the reference's Trim. -/
import Derived.Test.YtpidgkngefkbeaaWB
import Derived.Test.YtpidgkngefkbeaaPB
import Derived.Test.YtpidgkngefkbeaaLA
set_option linter.unusedVariables false
set_option linter.unusedSimpArgs false
namespace Go.Proofs.Ytpidgkngefkbeaa
open Go.RowKit

/-- while the reference's Trim gathers: rules ks, indices il -/
structure Tr (m ac : Nat) (A : Option Addr) (n c : Nat) (ks : List Rule) (il : List Nat) (base S g1 g2 : Nat) (V1 V2 : List Bool) (A1 : Option Addr) (c1 : Nat) (A2 : Option Addr) (c2 : Nat) (w W : World) : Prop where
  bel : Below w.heap.size w W
  hb : w.heap.size + 1 < base
  hS : base ≤ S
  b0 : Blk W w.heap.size 30 #[.int .i64 m, .int .u8 ac, .slice A n c]
  b1 : Blk W (w.heap.size + 1) 30 #[.int .i64 0, .int .u8 0, .slice none 0 0]
  r1 : Blk W g1 4 (V1.map vB).toArray
  r2 : Blk W g2 4 (V2.map vB).toArray
  bS : Blk W S 30 #[.int .i64 m, .int .u8 ac, .slice A1 ks.length c1]
  o1 : W.ownsRow base 53 5 (.slice A1 ks.length c1) ks.length (ks.flatMap Rule.cells)
  o2 : W.ownsRow base 3 1 (.slice A2 il.length c2) il.length (il.map vN)
section
variable {m ac : Nat} {A : Option Addr} {n c : Nat} {ks : List Rule} {il : List Nat} {base S g1 g2 : Nat} {V1 V2 : List Bool} {A1 : Option Addr} {c1 : Nat} {A2 : Option Addr} {c2 : Nat} {w W W' w4 : World}
theorem Tr.next (h : Tr m ac A n c ks il base S g1 g2 V1 V2 A1 c1 A2 c2 w W) (hb : Below W.heap.size W W') : Tr m ac A n c ks il base S g1 g2 V1 V2 A1 c1 A2 c2 w W' :=
  ⟨h.bel.trans (hb.mono h.bel.size), h.hb, h.hS, h.b0.next hb, h.b1.next hb, h.r1.next hb, h.r2.next hb, h.bS.next hb, own_below h.o1 hb, own_below h.o2 hb⟩
theorem Tr.rule (h : Tr m ac A n c ks il base S g1 g2 V1 V2 A1 c1 A2 c2 w W) {C : Array Value} {row : Option Nat} {r : Rule} {g cap : Nat} (hg : (W.alloc (.cells C 53)).grownBy w4 row) (hr : RowOk base (W.alloc (.cells C 53)) 53 row)
    (ho : w4.ownsRow base 53 5 (.slice (some ⟨g, 0, none⟩) (ks.length + 1) cap) (ks.length + 1) (ks.flatMap Rule.cells ++ [.int .i64 r.frm, .int .i64 r.dst, .string r.inp, .string r.out, .int .i64 r.cost])) :
    Tr m ac A n c (ks ++ [r]) il base S g1 g2 V1 V2 (some ⟨g, 0, none⟩) cap A2 c2 w (w4.setCell ⟨S, 2, none⟩ (.slice (some ⟨g, 0, none⟩) (ks.length + 1) cap)) := by
  have h1 := h.next (below_one W (.cells C 53))
  have hbS := h.hb
  have hS := h.hS
  have bS4 := h1.bS.rowOk hg hr (by decide)
  have hlen : (ks ++ [r]).length = ks.length + 1 := by simp
  refine ⟨(below_rowOk h1.bel hg hr (by omega) h1.bel.size).setCell (p := ⟨S, 2, none⟩) (by simp; omega) _, h.hb, h.hS, (h1.b0.rowOk hg hr (by decide)).far (by simp; omega) _, (h1.b1.rowOk hg hr (by decide)).far (by simp; omega) _, (h1.r1.rowOk hg hr (by decide)).far (by simpa using h.r1.ne h.bS (by decide)) _, (h1.r2.rowOk hg hr (by decide)).far (by simpa using h.r2.ne h.bS (by decide)) _, ?_, ?_, ?_⟩
  · rw [hlen]
    have := bS4.set 2 (.slice (some ⟨g, 0, none⟩) (ks.length + 1) cap)
    simpa using this
  · rw [hlen, List.flatMap_append]
    have := Acc.far (p := ⟨S, 2, none⟩) ho bS4 (by decide) (.slice (some ⟨g, 0, none⟩) (ks.length + 1) cap)
    simpa [Rule.cells] using this
  · exact Acc.far (p := ⟨S, 2, none⟩) (own_other h1.o2 hg hr (by decide)) bS4 (by decide) _
theorem Tr.idx (h : Tr m ac A n c ks il base S g1 g2 V1 V2 A1 c1 A2 c2 w W) {C : Array Value} {row : Option Nat} {k g cap : Nat} (hg : (W.alloc (.cells C 3)).grownBy w4 row) (hr : RowOk base (W.alloc (.cells C 3)) 3 row)
    (ho : w4.ownsRow base 3 1 (.slice (some ⟨g, 0, none⟩) (il.length + 1) cap) (il.length + 1) (il.map vN ++ [.int .i64 k])) :
    Tr m ac A n c ks (il ++ [k]) base S g1 g2 V1 V2 A1 c1 (some ⟨g, 0, none⟩) cap w w4 := by
  have h1 := h.next (below_one W (.cells C 3))
  have hbS := h.hb
  have hlen : (il ++ [k]).length = il.length + 1 := by simp
  refine ⟨below_rowOk h1.bel hg hr (by omega) h1.bel.size, h.hb, h.hS, h1.b0.rowOk hg hr (by decide), h1.b1.rowOk hg hr (by decide), h1.r1.rowOk hg hr (by decide), h1.r2.rowOk hg hr (by decide), h1.bS.rowOk hg hr (by decide), own_other h1.o1 hg hr (by decide), ?_⟩
  rw [hlen, List.map_append]
  exact ho
end

set_option maxHeartbeats 4000000 in
theorem trim3_any (F : Nat → Prop) (m ac : Nat) (A : Option Addr) (c : Nat) (rs : List Rule) (w : World) (hA : RulesAt F w A rs) (hF : ∀ b, F b → b < w.heap.size) (hn : rs.length < 1000) (hm0 : 0 < m) (hm : m ≤ 8) (hac : ac < 256) (hs : ∀ r ∈ rs, r.frm < m ∧ r.dst < m) :
    Calls Try.prog 14 #[.agg #[.int .i64 m, .int .u8 ac, .slice A rs.length c]] w (TrimRes m ac rs w) := by
  go_enter Try.func14, Try.ntmps14
  go_upto_region 1 with (fail)
  go_cut [4, 5] (fun x y wx => TrimA m ac A c rs w x y wx)
  case first =>
    refine world_gen (fun W => Below w.heap.size w W ∧ Blk W w.heap.size 30 #[.int .i64 m, .int .u8 ac, .slice A rs.length c] ∧ Blk W (w.heap.size + 1) 30 #[.int .i64 0, .int .u8 0, .slice none 0 0]) ⟨((Below.refl _ _).alloc (Nat.le_refl _) _).alloc (by simp) _, (Blk.new _ _ _).alloc _, Blk.new2 _ _ _ _⟩ ?_
    rintro W ⟨hbel, b0, b1⟩
    have hA' : RulesAt F W A rs := Reads.lower hA hF hbel
    have hF' : ∀ b, F b → b < W.heap.size := fun b hb => Nat.lt_of_lt_of_le (hF b hb) hbel.size
    have x0 : W.cell? ⟨w.heap.size, 0, none⟩ = some (.int .i64 m) := b0.cell 0
    have x1 : W.cell? ⟨w.heap.size, 1, none⟩ = some (.int .u8 ac) := b0.cell 1
    have x2 : W.cell? ⟨w.heap.size, 2, none⟩ = some (.slice A rs.length c) := b0.cell 2
    have hlt := b0.lt
    have HC : Hid (Below W.heap.size W W.drew) := Lib.hid (Below.refl _ _).drew
    have B0 := Lib.hid b0
    have B1 := Lib.hid b1
    have HA := Lib.hid hA'
    clear b0 b1 hA hA'
    go_region_held3 (fun w' => w'.cell? ⟨w.heap.size, 0, none⟩ = some (.int .i64 m) ∧ w'.cell? ⟨w.heap.size, 1, none⟩ = some (.int .u8 ac) ∧ w'.cell? ⟨w.heap.size, 2, none⟩ = some (.slice A rs.length c))
      (first | exact ⟨x0, x1, x2⟩ | go_keep)
      (first
        | (go_at_call 21; refine (reached3_any F m ac A c rs _ (by exact RulesAt.below HA.out HC.out) (fun b hb => Nat.lt_of_lt_of_le (hF' b hb) HC.out.size) hn hm0 (by omega) hs).mono ?_; rintro e wA ⟨gA, VA, rfl, hbA, hgA, hrA, hlA, hiA⟩; have hzA := HC.out.size; replace HC := Lib.hid (HC.out.trans (hbA.mono HC.out.size)); have x0 : wA.cell? ⟨w.heap.size, 0, none⟩ = some (.int .i64 m) := (B0.out.next HC.out).cell 0; have x1 : wA.cell? ⟨w.heap.size, 1, none⟩ = some (.int .u8 ac) := (B0.out.next HC.out).cell 1; have x2 : wA.cell? ⟨w.heap.size, 2, none⟩ = some (.slice A rs.length c) := (B0.out.next HC.out).cell 2; try (replace hrB := Blk.next hrB hbA))
        | (go_at_call 23; refine (live3_any F m ac A c rs _ (by exact RulesAt.below HA.out HC.out) (fun b hb => Nat.lt_of_lt_of_le (hF' b hb) HC.out.size) hn hm hac hs).mono ?_; rintro e wB ⟨gB, VB, rfl, hbB, hgB, hrB, hlB, hiB⟩; have hzB := HC.out.size; replace HC := Lib.hid (HC.out.trans (hbB.mono HC.out.size)); have x0 : wB.cell? ⟨w.heap.size, 0, none⟩ = some (.int .i64 m) := (B0.out.next HC.out).cell 0; have x1 : wB.cell? ⟨w.heap.size, 1, none⟩ = some (.int .u8 ac) := (B0.out.next HC.out).cell 1; have x2 : wB.cell? ⟨w.heap.size, 2, none⟩ = some (.slice A rs.length c) := (B0.out.next HC.out).cell 2; try (replace hrA := Blk.next hrA hbB)))
    all_goals (go_wp2; go_meet)
    all_goals exact trimA_of hbel B0.out B1.out HC.out (Nat.le_trans hzA hgA) (Nat.le_trans hzB hgB) hrA hrB hlA hlB hiA hiB
  case rest =>
    obtain ⟨g1, g2, V1, V2, rfl, rfl, hbel, b0, b1, hg1, hg2, r1, r2, l1, l2, i1, i2⟩ := hcut
    have x0 : wc.cell? ⟨w.heap.size, 0, none⟩ = some (.int .i64 m) := b0.cell 0
    have x1 : wc.cell? ⟨w.heap.size, 1, none⟩ = some (.int .u8 ac) := b0.cell 1
    have hlt0 := b0.lt
    have hlt1 := b1.lt
    go_upto_region 3 with (fail)
    refine world_gen (Tr m ac A rs.length c [] [] wc.heap.size (wc.heap.size + 1) g1 g2 V1 V2 none 0 (some ⟨wc.heap.size, 0, none⟩) 0 w) ⟨(hbel.alloc hbel.size _).alloc (by have := hbel.size; simp; omega) _, hlt1, Nat.le_succ _, (b0.alloc _).alloc _, (b1.alloc _).alloc _, (r1.alloc _).alloc _, (r2.alloc _).alloc _, Blk.new2 _ _ _ _, World.ownsRow_nil _ _ _ _, (own_empty wc 3 1 wc.heap.size (Nat.le_refl _)).alloc _⟩ ?_
    clear x0 x1 hlt0 hlt1 hbel b0 b1 r1 r2
    generalize wc.heap.size = Z at *
    intro W3 h3
    have H3 := Lib.hid h3
    clear h3
    go_wp2_with fail
    go_loopw [7, 8] (fun x y wr => ∃ k : Nat, k ≤ rs.length ∧ y = .int .i64 k ∧ ∃ A1 c1 A2 c2, x = .slice A2 (idx (keepOf V1 V2 rs) k).length c2 ∧ Tr m ac A rs.length c (kept (keepOf V1 V2 rs) rs k) (idx (keepOf V1 V2 rs) k) Z (Z + 1) g1 g2 V1 V2 A1 c1 A2 c2 w wr) (fun _ y _ => rs.length - (intOf y).toNat)
    case atStart => exact ⟨0, Nat.zero_le _, rfl, none, 0, _, 0, rfl, H3.out⟩
    case round =>
      clear H3 W3
      obtain ⟨k, hk, rfl, A1, c1, A2, c2, rfl, hT⟩ := hrel
      have x2 : wr.cell? ⟨w.heap.size, 2, none⟩ = some (.slice A rs.length c) := hT.b0.cell 2
      have hlt0 := hT.b0.lt
      have hil := idx_len (keepOf V1 V2 rs) k
      have hkl2 : (kept (keepOf V1 V2 rs) rs k).length = (idx (keepOf V1 V2 rs) k).length := kept_len _ _ _
      have hbel := hT.bel
      have HT := Lib.hid hT
      clear hT
      by_cases hkl : k < rs.length
      · obtain ⟨r, hr⟩ : ∃ r, rs[k]? = some r := ⟨_, List.getElem?_eq_getElem hkl⟩
        have hrk : rs[k] = r := (List.getElem?_eq_some_iff.1 hr).2
        obtain ⟨hrf, hrd⟩ := hs r (List.mem_of_getElem? hr)
        have hA2 := Reads.lower hA hF hbel
        obtain ⟨br, or, rfl⟩ := Reads.some_ hA2 (by rw [cells_length]; omega)
        obtain ⟨_, hbr, y0, y1, y2, y3, y4⟩ := RulesAt.got hA2 hr
        have hf1 : r.frm < V1.length := by omega
        have hf2 : r.dst < V2.length := by omega
        have hkp : keepOf V1 V2 rs k = (V1[r.frm] && V2[r.dst]) := keepOf_at hkl hrk.symm hf1 hf2
        obtain ⟨b1, hb1⟩ : ∃ b, b = V1[r.frm] := ⟨_, rfl⟩
        obtain ⟨b2, hb2⟩ : ∃ b, b = V2[r.dst] := ⟨_, rfl⟩
        have z1 : wr.cell? ⟨g1, r.frm, none⟩ = some (.bool b1) := flag_cell HT.out.r1 (by rw [hb1]; exact List.getElem?_eq_getElem hf1)
        have z2 : wr.cell? ⟨g2, r.dst, none⟩ = some (.bool b2) := flag_cell HT.out.r2 (by rw [hb2]; exact List.getElem?_eq_getElem hf2)
        rw [← hb1, ← hb2] at hkp
        have hi1 : (r.frm : Int) < (m : Int) := by omega
        have hi2 : (r.dst : Int) < (m : Int) := by omega
        have hi3 : (k : Int) < (rs.length : Int) := by omega
        have hi4 : (0 : Int) ≤ (k : Int) := by omega
        have hlg1 := HT.out.r1.lt
        have hlg2 := HT.out.r2.lt
        have hiS := idx_succ (keepOf V1 V2 rs) k
        have hkS := kept_succ (keepOf V1 V2 rs) rs k hkl
        rw [hkp] at hiS hkS
        rw [hrk] at hkS
        have HS := Lib.hid (And.intro hiS hkS)
        have HKL := Lib.hid hkl2
        have HA2 := Lib.hid hA2
        have HR := Lib.hid hr
        clear hiS hkS hr hrk hkp hb1 hb2 hA2 hkl2
        by_cases hboth : b1 = true ∧ b2 = true
        · obtain ⟨rfl, rfl⟩ := hboth
          obtain ⟨ik, hik⟩ : ∃ ik, idx (keepOf V1 V2 rs) k = ik := ⟨_, rfl⟩
          obtain ⟨kk, hkk⟩ : ∃ kk, kept (keepOf V1 V2 rs) rs k = kk := ⟨_, rfl⟩
          have hS2 := HS.out
          simp only [Bool.and_self, if_true] at hS2
          rw [hik, hkk] at hS2
          have HS2 := Lib.hid hS2
          have HT2 : Hid (Tr m ac (some ⟨br, or, none⟩) rs.length c kk ik Z (Z + 1) g1 g2 V1 V2 A1 c1 A2 c2 w wr) := Lib.hid (by rw [← hik, ← hkk]; exact HT.out)
          have hlen : kk.length = ik.length := by rw [← hik, ← hkk]; exact HKL.out
          have hil2 : ik.length ≤ k := by rw [← hik]; exact hil
          rw [hik]
          have HLEN := Lib.hid hlen
          have hlk : kk.length ≤ k := by omega
          clear hS2 hik hkk HT HKL hil hlen
          go_upto_region 7 with (fail)
          go_cut [] (fun wx => ∃ A1' c1', Tr m ac (some ⟨br, or, none⟩) rs.length c (kk ++ [r]) ik Z (Z + 1) g1 g2 V1 V2 A1' c1' A2 c2 w wx)
          case first =>
            obtain ⟨i0, hi0, hz0, hz1, hz2⟩ := info_parts rule_info
            have t2 : wr.cell? ⟨Z + 1, 2, none⟩ = some (.slice A1 kk.length c1) := HT2.out.bS.cell 2
            have hTl := HT2.out.bS.lt
            have hsz := hbel.size
            go_region_law (first
              | (refine step_append_acc _ (by rfl) _ _ 28 (by rfl) Z 53 i0 _ 5 56 Try.underlying28 hi0 hz0 hz1 hz2 (by rfl) (by decide) A1 kk.length c1 _ (by rfl) (by exact .inl (HT2.out.next (below_one _ _).drew).o1) wr.heap.size 53 (0, 0) 1 1 #[.int .i64 r.frm, .int .i64 r.dst, .string r.inp, .string r.out, .int .i64 r.cost] (by rfl) (by rfl) (by exact heap_alloc_new _ _) (by simp [Value.oneCell']) (by omega) (by unfold maxLen; omega) (by omega) (by simp; omega) ?_; intro g8 cap8 w8 row8 hown8 hgr8 hrow8 hat8 hlt8; have b8 := (HT2.out.next (below_one wr _).drew).bS.rowOk hgr8 hrow8 (by decide); have t8 : w8.cell? ⟨Z + 1, 2, none⟩ = some (.slice A1 kk.length c1) := b8.cell 2; have f8 := b8.free 2; clear b8))
            all_goals (go_wp2; go_meet)
            all_goals exact ⟨_, _, Tr.rule (HT2.out.next (Below.refl wr.heap.size wr).drew) hgr8 hrow8 hown8⟩
          case rest =>
            obtain ⟨A1', c1', hT⟩ := hcut
            have hsz := hT.bel.size
            have hbl := hT.bS.lt
            have HT3 := Lib.hid hT
            obtain ⟨j0, hj0, hq0, hq1, hq2⟩ := info_parts int_info
            clear hT HT2
            go_wp2_with (at_builtin; refine wpList_append_acc _ (by rfl) _ _ 32 (by rfl) Z 3 j0 _ 1 8 Try.underlying32 hj0 hq0 hq1 hq2 (by rfl) (by decide) A2 ik.length c2 _ (by rfl) (by exact .inl (HT3.out.next (below_one _ _)).o2) wc.heap.size 3 (0, 0) 1 1 #[.int .i64 k] (by rfl) (by rfl) (by exact heap_alloc_new _ _) (by simp [Value.oneCell']) (by omega) (by unfold maxLen; omega) (by omega) (by simp; omega) ?_; intro g5 cap5 w5 row5 hown5 hgr5 hrow5 hat5 hlt5)
            go_roundw
            case rel => exact ⟨k + 1, by omega, by go_num, A1', c1', some ⟨g5, 0, none⟩, cap5, by rw [HS2.out.1, List.length_append]; rfl, by rw [HS2.out.1, HS2.out.2]; exact HT3.out.idx hgr5 hrow5 hown5⟩
            case measure => simp [intOf]; omega
        · have hsame : idx (keepOf V1 V2 rs) (k + 1) = idx (keepOf V1 V2 rs) k ∧ kept (keepOf V1 V2 rs) rs (k + 1) = kept (keepOf V1 V2 rs) rs k := by
            have h1 := HS.out
            have h2 : (b1 && b2) = false := by
              rcases b1 with _ | _ <;> rcases b2 with _ | _ <;> simp_all
            rw [h2] at h1
            simpa using h1
          have HSAME := Lib.hid hsame
          clear hsame
          rcases b1 with _ | _ <;> rcases b2 with _ | _
          all_goals first | (exact absurd ⟨rfl, rfl⟩ hboth) | clear hboth
          all_goals
            go_wp2_with fail
            go_roundw
            case rel => exact ⟨k + 1, by omega, by go_num, A1, c1, A2, c2, by rw [HSAME.out.1], by rw [HSAME.out.1, HSAME.out.2]; exact HT.out⟩
            case measure => simp [intOf]; omega
      · obtain rfl : k = rs.length := by omega
        have q0 : wr.cell? ⟨Z + 1, 0, none⟩ = some (.int .i64 m) := HT.out.bS.cell 0
        have q1 : wr.cell? ⟨Z + 1, 1, none⟩ = some (.int .u8 ac) := HT.out.bS.cell 1
        have q2 : wr.cell? ⟨Z + 1, 2, none⟩ = some (.slice A1 (kept (keepOf V1 V2 rs) rs rs.length).length c1) := HT.out.bS.cell 2
        have p0 : wr.cell? ⟨w.heap.size + 1, 0, none⟩ = some (.int .i64 0) := HT.out.b1.cell 0
        have p1 : wr.cell? ⟨w.heap.size + 1, 1, none⟩ = some (.int .u8 0) := HT.out.b1.cell 1
        have p2 : wr.cell? ⟨w.heap.size + 1, 2, none⟩ = some (.slice none 0 0) := HT.out.b1.cell 2
        have f0 := HT.out.b1.free 0
        have f1 := HT.out.b1.free 1
        have f2 := HT.out.b1.free 2
        have hlt1 := HT.out.b1.lt
        have hltS := HT.out.bS.lt
        rw [hkl2] at q2
        have hZw := HT.out.hb
        clear hkl2
        obtain ⟨nk, hnk⟩ : ∃ nk, (idx (keepOf V1 V2 rs) rs.length).length = nk := ⟨_, rfl⟩
        rw [hnk] at q2 hil ⊢
        have HNK := Lib.hid hnk
        clear hnk
        go_wp2_with fail
        refine bodyPost_ret (v := .tuple #[.agg #[.int .i64 m, .int .u8 ac, .slice A1 nk c1], .slice A2 nk c2]) (by simp [results, Try.results14, go_sem, p0, p1, p2, f0, f1, f2]) rfl ?_
        refine ⟨keepOf V1 V2 rs, A1, c1, A2, c2, by rw [HNK.out], ((hbel.setCell (p := ⟨w.heap.size + 1, 0, none⟩) (by simp) _).setCell (p := ⟨w.heap.size + 1, 1, none⟩) (by simp) _).setCell (p := ⟨w.heap.size + 1, 2, none⟩) (by simp) _, ?_, ?_, ?_⟩
        · intro i hi
          have hf1 : rs[i].frm < V1.length := by have := hs rs[i] (List.getElem_mem hi); omega
          have hf2 : rs[i].dst < V2.length := by have := hs rs[i] (List.getElem_mem hi); omega
          rw [keepOf_at hi rfl hf1 hf2, ← i1, ← i2, List.getElem?_eq_getElem hf1, List.getElem?_eq_getElem hf2]
          simp
        · have h := Reads.of_own HT.out.o1
          exact (Reads.farB (Reads.farB (Reads.farB h (p := ⟨w.heap.size + 1, 0, none⟩) (fun b hb => by simp; omega) _) (p := ⟨w.heap.size + 1, 1, none⟩) (fun b hb => by simp; omega) _) (p := ⟨w.heap.size + 1, 2, none⟩) (fun b hb => by simp; omega) _).mono fun b hb => by omega
        · have h := Reads.of_own HT.out.o2
          exact (Reads.farB (Reads.farB (Reads.farB h (p := ⟨w.heap.size + 1, 0, none⟩) (fun b hb => by simp; omega) _) (p := ⟨w.heap.size + 1, 1, none⟩) (fun b hb => by simp; omega) _) (p := ⟨w.heap.size + 1, 2, none⟩) (fun b hb => by simp; omega) _).mono fun b hb => by omega
end Go.Proofs.Ytpidgkngefkbeaa
