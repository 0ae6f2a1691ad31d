/- The walk of Best. -/
import Derived.Test.YthcnnadggffjhaaI10
import Derived.Test.YthcnnadggffjhaaMB
set_option linter.unusedVariables false
set_option linter.unusedSimpArgs false
namespace Go.Proofs.Ythcnnadggffjhaa
open Go.RowKit

theorem raccepts_any (M ac : Nat) (A : Option Addr) (n c : Nat) (m : Nat) (w : World) (hac : ac < 256) (hm : m < 8) :
    Calls Try.prog 33 #[.agg #[.int .i64 M, .int .u8 ac, .slice A n c], .int .i64 m] w fun e w' => e = .returned (.bool (accB ac m)) ∧ Below w.heap.size w w' := by
  go_enter Try.func33, Try.ntmps33
  go_wp2
  go_ret
  rw [shr_cast, and8 _ (shr_lt _ _ hac)]
  exact ⟨rfl, (Below.refl _ _).alloc (Nat.le_refl _) _⟩
/-- what Best hands back: nothing but an error, or a list -/
def BestNo (e : Int) (w : World) (x : Ending) (w' : World) : Prop := x = .returned (.tuple #[.slice none 0 0, .int .i64 e]) ∧ Below w.heap.size w w'
set_option maxHeartbeats 1000000 in
set_option maxRecDepth 100000 in
theorem best_arg (m ac : Nat) (A : Option Addr) (n c : Nat) (out : ByteArray) (k : Int) (w : World) (ho : out.size ≤ maxLen) (h : isText out = false ∨ k < 1 ∨ 50 < k) :
    Calls Try.prog 12 #[.agg #[.int .i64 m, .int .u8 ac, .slice A n c], .string out, .int .i64 k] w (BestNo 1 w) := by
  obtain ⟨t, ht⟩ : ∃ t, isText out = t := ⟨_, rfl⟩
  have HT := Lib.hid ht
  rw [ht] at h
  clear ht
  cases t with
  | false =>
    clear h
    go_enter Try.func12, Try.ntmps12
    go_wp2_with (go_at_call 30; refine (text_any out _ ho).mono ?_; rintro e w2 ⟨rfl, rfl⟩; rw [HT.out])
    refine bodyPost_ret (v := .tuple #[.slice none 0 0, .int .i64 1]) (by simp [results, Try.results12, go_sem]) rfl ⟨rfl, below_one _ _⟩
  | true =>
    by_cases h1 : k < 1
    · have d1 : decide (k < 1) = true := by simpa using h1
      clear h h1
      go_enter Try.func12, Try.ntmps12
      go_wp2_with (go_at_call 30; refine (text_any out _ ho).mono ?_; rintro e w2 ⟨rfl, rfl⟩; rw [HT.out])
      refine bodyPost_ret (v := .tuple #[.slice none 0 0, .int .i64 1]) (by simp [results, Try.results12, go_sem]) rfl ⟨rfl, below_one _ _⟩
    · have d1 : decide (k < 1) = false := by simpa using h1
      have h2 : 50 < k := by
        rcases h with h | h | h
        · cases h
        · omega
        · exact h
      have d2 : decide (50 < k) = true := by simpa using h2
      clear h2
      clear h h1
      go_enter Try.func12, Try.ntmps12
      go_wp2_with (go_at_call 30; refine (text_any out _ ho).mono ?_; rintro e w2 ⟨rfl, rfl⟩; rw [HT.out])
      refine bodyPost_ret (v := .tuple #[.slice none 0 0, .int .i64 1]) (by simp [results, Try.results12, go_sem]) rfl ⟨rfl, below_one _ _⟩
/-- the queue to begin with -/
def startV (X : Nat) : PartV := ⟨⟨#[]⟩, 0, some ⟨X, 0, none⟩, 1, 1, [(0, 0)]⟩
theorem BW.start (m ac : Nat) (A : Option Addr) (n c : Nat) (w : World) :
    BW m ac A n c w (((((w.alloc (.cells #[.int .i64 m, .int .u8 ac, .slice A n c] 31)).alloc (.cells #[.int .i64 0, .int .i64 0] 73)).alloc (.cells #[.string ⟨#[]⟩, .int .i64 0, .slice (some ⟨w.heap.size + 1, 0, none⟩) 1 1] 76)).alloc (.cells #[.slice (some ⟨w.heap.size + 1 + 1, 0, none⟩) 1 1] 78)).alloc (.map #[] 0))
      (w.heap.size + 1 + 1 + 1) (some ⟨w.heap.size + 1 + 1, 0, none⟩) 1 [startV (w.heap.size + 1)] (w.heap.size + 1 + 1 + 1 + 1) 0 [] none 0 [] none 0 [] := by
  have z1 : (w.alloc (.cells #[.int .i64 m, .int .u8 ac, .slice A n c] 31)).heap.size = w.heap.size + 1 := by simp
  have b0 := Blk.new w 31 #[.int .i64 m, .int .u8 ac, .slice A n c]
  obtain ⟨W1, hW1⟩ : ∃ W, W = w.alloc (.cells #[.int .i64 m, .int .u8 ac, .slice A n c] 31) := ⟨_, rfl⟩
  have h1 : Below w.heap.size w W1 := by rw [hW1]; exact below_one _ _
  rw [← hW1] at b0 z1 ⊢
  have b1 := Blk.new W1 73 #[.int .i64 0, .int .i64 0]
  obtain ⟨W2, hW2⟩ : ∃ W, W = W1.alloc (.cells #[.int .i64 0, .int .i64 0] 73) := ⟨_, rfl⟩
  have z2 : W2.heap.size = w.heap.size + 1 + 1 := by rw [hW2]; simp [z1]
  have h2 : Below W1.heap.size W1 W2 := by rw [hW2]; exact below_one _ _
  rw [← hW2] at b1 ⊢
  have b2 := Blk.new W2 76 #[.string ⟨#[]⟩, .int .i64 0, .slice (some ⟨w.heap.size + 1, 0, none⟩) 1 1]
  obtain ⟨W3, hW3⟩ : ∃ W, W = W2.alloc (.cells #[.string ⟨#[]⟩, .int .i64 0, .slice (some ⟨w.heap.size + 1, 0, none⟩) 1 1] 76) := ⟨_, rfl⟩
  have z3 : W3.heap.size = w.heap.size + 1 + 1 + 1 := by rw [hW3]; simp [z2]
  have h3 : Below W2.heap.size W2 W3 := by rw [hW3]; exact below_one _ _
  rw [← hW3] at b2 ⊢
  have b3 := Blk.new W3 78 #[.slice (some ⟨w.heap.size + 1 + 1, 0, none⟩) 1 1]
  obtain ⟨W4, hW4⟩ : ∃ W, W = W3.alloc (.cells #[.slice (some ⟨w.heap.size + 1 + 1, 0, none⟩) 1 1] 78) := ⟨_, rfl⟩
  have z4 : W4.heap.size = w.heap.size + 1 + 1 + 1 + 1 := by rw [hW4]; simp [z3]
  have h4 : Below W3.heap.size W3 W4 := by rw [hW4]; exact below_one _ _
  rw [← hW4] at b3 ⊢
  have k5 := Known.new W4
  have h5 : Below W4.heap.size W4 (W4.alloc (.map #[] 0)) := below_one _ _
  rw [z1] at b1
  rw [z2] at b2
  rw [z3] at b3
  rw [z4] at k5
  have a1 := b1.next h3
  have a1' := (a1.next h4).next h5
  have a2' := (b2.next h4).next h5
  have a3' := b3.next h5
  have a0' := (((b0.next h2).next h3).next h4).next h5
  refine ⟨((((h1.trans (h2.mono h1.size)).trans (h3.mono (by omega))).trans (h4.mono (by omega))).trans (h5.mono (by omega))), a0', by omega, by omega, ⟨a3', ?_⟩, ?_, k5, World.ownsRow_nil _ _ _ _, World.ownsRow_nil _ _ _ _⟩
  · refine own_of_blk (size := 3) (n := 1) (cap := 1) a2' (by omega) (Nat.le_refl _) (by decide) rfl ?_
    rfl
  · intro v hv
    simp only [List.mem_singleton] at hv
    subst hv
    exact ⟨rfl, Nat.le_refl _, ReadsT.block a1'⟩
/-- what all parts of the queue keep; 'used': how many ends were found -/
structure InvP (m L : Nat) (out : ByteArray) (W0 : Nat) (ps : List Part) (used : Nat) : Prop where
  down : DownP ps
  ok : ∀ p ∈ ps, PartOk m out p
  wt : weight (L + 1) (m * (out.size + 1)) ps + used ≤ W0
def startP : Part := ⟨⟨#[]⟩, 0, [(0, 0)]⟩
section
variable (acc : Nat → Bool) (m ac : Nat) (A : Option Addr) (c : Nat) (rs : List Rule) (out : ByteArray) (k W0 : Nat) (w : World)
/-- at the head of the outer loop -/
def OutR (g : Nat) (x : Value) (W : World) : Prop :=
  ∃ A1 c1 vs nk S A3 c3 l, x = .slice A3 l.length c3 ∧ BW m ac A rs.length c w W (w.heap.size + 1 + 1 + 1) A1 c1 vs (w.heap.size + 1 + 1 + 1 + 1) nk S none 0 [] A3 c3 l ∧ InvP m rs.length out W0 (vs.map PartV.part) nk ∧ nk = l.length ∧ g = weight (rs.length + 1) (m * (out.size + 1)) (vs.map PartV.part) ∧
    ∀ N r, outerF acc rs out sortedS N k (vs.map PartV.part) S l = some r → ∃ M, outerF acc rs out sortedS M k [startP] [] [] = some r
/-- at the head of the inner loop: v is the part that came first, X its box, g what was to come -/
def InR (v : PartV) (q0 : List Part) (S0 : List ByteArray) (A3 : Option Addr) (c3 : Nat) (l : List (ByteArray × Nat)) (X g gg : Nat) (x : Value) (W : World) : Prop :=
  ∃ A1 c1 vs nk S A2 c2 ready, x = .slice A2 ready.length c2 ∧ BW m ac A rs.length c w W (w.heap.size + 1 + 1 + 1) A1 c1 vs (w.heap.size + 1 + 1 + 1 + 1) nk S A2 c2 ready A3 c3 l ∧ Blk W X 76 v.cells.toArray ∧ (∀ b, QTurns (w.heap.size + 1 + 1 + 1) A1 b → b ≠ X) ∧
    InvP m rs.length out W0 (vs.map PartV.part) nk ∧ nk = l.length + ready.length ∧ gg = weight (rs.length + 1) (m * (out.size + 1)) (vs.map PartV.part) ∧ (gg < g ∨ vs.map PartV.part = q0) ∧
    ∀ N st, innerF acc rs out N v.cost v.inp.size ⟨vs.map PartV.part, S, ready⟩ = some st → ∃ M, innerF acc rs out M v.cost v.inp.size ⟨q0, S0, []⟩ = some st
/-- behind it -/
def InE (v : PartV) (q0 : List Part) (S0 : List ByteArray) (A3 : Option Addr) (c3 : Nat) (l : List (ByteArray × Nat)) (X g : Nat) (x : Value) (W : World) : Prop :=
  ∃ A1 c1 vs nk S A2 c2 ready, x = .slice A2 ready.length c2 ∧ BW m ac A rs.length c w W (w.heap.size + 1 + 1 + 1) A1 c1 vs (w.heap.size + 1 + 1 + 1 + 1) nk S A2 c2 ready A3 c3 l ∧ Blk W X 76 v.cells.toArray ∧
    InvP m rs.length out W0 (vs.map PartV.part) nk ∧ nk = l.length + ready.length ∧ weight (rs.length + 1) (m * (out.size + 1)) (vs.map PartV.part) < g ∧ ∃ M, innerF acc rs out M v.cost v.inp.size ⟨q0, S0, []⟩ = some ⟨vs.map PartV.part, S, ready⟩
/-- behind the outer loop -/
def OutE (x : Value) (W : World) : Prop :=
  ∃ A3 c3 l, x = .slice A3 l.length c3 ∧ Below w.heap.size w W ∧ W.ownsRow (w.heap.size + 1) 46 2 (.slice A3 l.length c3) l.length (l.flatMap resCells) ∧ l.length ≤ W0 ∧ ∃ M, outerF acc rs out sortedS M k [startP] [] [] = some l
def BestRes (e : Ending) (w' : World) : Prop :=
  Below w.heap.size w w' ∧ ∃ N l, outerF acc rs out sortedS N k [startP] [] [] = some l ∧ ((l = [] ∧ e = .returned (.tuple #[.slice none 0 0, .int .i64 50])) ∨ (l ≠ [] ∧ ∃ A c, e = .returned (.tuple #[.slice A (min k l.length) c, .int .i64 0]) ∧ min k l.length ≤ c ∧ Reads (w.heap.size ≤ ·) w' A ((l.take k).flatMap resCells)))
end
theorem hW1' (m L osz j D : Nat) (h : D = if j + 1 < m * (osz + 1) then (L + 1) ^ (m * (osz + 1) - (j + 1 + 1)) else 0) : L * D + 1 ≤ (L + 1) ^ (m * (osz + 1) - (j + 1)) := by
  split at h
  · rw [h]
    exact weight_step (Nat.lt_succ_self _) (by assumption)
  · rw [h, Nat.mul_zero]
    exact Nat.pow_pos (by omega)
theorem hgw' (m : Nat) (out : ByteArray) (init2 : List PartV) (p : PartV) (j : Nat) (hp : p.spots.length = j + 1) (L gg : Nat) (h : gg = weight (L + 1) (m * (out.size + 1)) ((init2 ++ [p]).map PartV.part)) :
    gg = weight (L + 1) (m * (out.size + 1)) (init2.map PartV.part) + (L + 1) ^ (m * (out.size + 1) - (j + 1)) := by
  rw [List.map_append, weight_append] at h
  have h3 : p.part.spots.length = j + 1 := hp
  simp only [weight, List.map_cons, List.map_nil, List.sum_cons, List.sum_nil, h3] at h
  simp only [weight]
  omega
theorem startP_ok (m : Nat) (out : ByteArray) (hm : 0 < m) : PartOk m out startP := ⟨by simp [startP], by simp [startP], by simp [startP]; omega, by decide, by decide⟩
set_option maxHeartbeats 20000000 in
set_option maxRecDepth 100000 in
theorem best_any (F : Nat → Prop) (m ac : Nat) (A : Option Addr) (c : Nat) (rs : List Rule) (out : ByteArray) (k : Nat) (w : World) (hA : RulesAt F w A rs) (hF : ∀ b, F b → b < w.heap.size) (hn : rs.length < 1000) (hm0 : 0 < m) (hm : m ≤ 8) (hac : ac < 256)
    (hs : ∀ r ∈ rs, r.frm < m ∧ r.dst < m) (hb : ∀ r ∈ rs, r.inp.size ≤ 4 ∧ r.out.size ≤ 4 ∧ r.cost ≤ 1000) (hot : isText out = true) (hk1 : 1 ≤ k) (hk2 : k ≤ 50) (hW : (rs.length + 1) ^ (m * (out.size + 1) - 1) < 1000000000000) :
    Calls Try.prog 12 #[.agg #[.int .i64 m, .int .u8 ac, .slice A rs.length c], .string out, .int .i64 k] w (BestRes (accB ac) rs out k w) := by
  have ho20 : out.size ≤ 20 := by
    unfold isText at hot
    simp at hot
    exact hot.1
  have HT := Lib.hid hot
  have d1 : decide ((k : Int) < 1) = false := by simp; omega
  have d2 : decide ((50 : Int) < (k : Int)) = false := by simp; omega
  obtain ⟨W0, hW0⟩ : ∃ W0, W0 = (rs.length + 1) ^ (m * (out.size + 1) - 1) := ⟨_, rfl⟩
  rw [← hW0] at hW
  have HW0 := Lib.hid hW0
  clear hot hW0
  go_enter Try.func12, Try.ntmps12
  go_upto_region 5 with (go_at_call 30; refine (text_any out _ (by unfold maxLen; omega)).mono ?_; rintro e w2 ⟨rfl, rfl⟩; rw [HT.out])
  refine world_gen (fun W => BW m ac A rs.length c w W (w.heap.size + 1 + 1 + 1) (some ⟨w.heap.size + 1 + 1, 0, none⟩) 1 [startV (w.heap.size + 1)] (w.heap.size + 1 + 1 + 1 + 1) 0 [] none 0 [] none 0 []) (BW.start m ac A rs.length c w) ?_
  intro W hW1
  have hI : InvP m rs.length out W0 ([startV (w.heap.size + 1)].map PartV.part) 0 := by
    refine ⟨List.pairwise_singleton _ _, fun p hp => ?_, ?_⟩
    · simp only [List.map_cons, List.map_nil, List.mem_singleton] at hp
      subst hp
      exact startP_ok m out hm0
    · simp [weight, PartV.part, startV, HW0.out]
  have HWI := Lib.hid (And.intro hW1 hI)
  clear hW1 hI d1 d2
  go_upto_block 0 with (fail)
  go_cut [10] (fun x wx => OutE (accB ac) rs out k W0 w x wx)
  case first =>
    go_wp2_with fail
    go_loopg [10] W0 (fun g x wr => OutR (accB ac) m ac A c rs out k W0 w g x wr)
    case atStart => exact ⟨_, _, _, _, _, _, _, _, rfl, HWI.out.1, HWI.out.2, rfl, by simp [weight, PartV.part, startV, HW0.out], fun N r h => ⟨N, h⟩⟩
    case round =>
      clear HWI W
      obtain ⟨A1, c1, vs, nk, S, A3, c3, l, rfl, hB, hI, hnk, hg, hback⟩ := hrel
      obtain ⟨g, hgk⟩ : ∃ g, gk = g := ⟨_, rfl⟩
      rw [hgk] at hg
      have HGK := Lib.hid hgk
      clear hgk
      have y0 : wr.cell? ⟨w.heap.size + 1 + 1 + 1, 0, none⟩ = some (.slice A1 vs.length c1) := hB.que.box.cell 0
      have hlQ := hB.que.box.lt
      have hlen0 := weight_len (W := rs.length + 1) (B := m * (out.size + 1)) (by omega) (vs.map PartV.part)
      rw [List.length_map] at hlen0
      have hwt := hI.wt
      have HB := Lib.hid hB
      have HI := Lib.hid hI
      have HG := Lib.hid hg
      have HBACK := Lib.hid hback
      clear hB hI hback
      rcases List.eq_nil_or_concat vs with rfl | ⟨init, v, rfl⟩
      · go_wp2_with fail
        go_meet
        case rel => exact ⟨A3, c3, l, rfl, HB.out.bel, HB.out.ls, by omega, HBACK.out 1 l rfl⟩
      · rw [List.concat_eq_append] at *
        by_cases hlk : l.length < k
        · have hl1 : (init ++ [v]).length = init.length + 1 := by simp
          rw [hl1] at y0 hlen0
          have hrd := HB.out.que.row.reads
          obtain ⟨bv, ov, rfl⟩ := Reads.some_ hrd (by rw [partCells_len]; omega)
          obtain ⟨_, hbv, z0, z1, z2⟩ := parts_got (k := init.length) (p := v) hrd (by simp)
          have hw1 : IntKind.i64.wrap (init.length : Int) = (init.length : Int) := by rw [IntWalk.i64_in _ (by omega)]
          have hj0 : (0 : Int) ≤ (init.length : Int) := by omega
          have hj1 : (init.length : Int) < (init.length : Int) + 1 := by omega
          clear hrd hl1
          go_upto_region 8 with (fail)
          refine world_gen (fun W => BW m ac A rs.length c w W (w.heap.size + 1 + 1 + 1) (some ⟨bv, ov, none⟩) c1 (init ++ [v]) (w.heap.size + 1 + 1 + 1 + 1) nk S none 0 [] A3 c3 l ∧ Blk W wr.heap.size 76 v.cells.toArray) ⟨HB.out.next (below_one _ _), Blk.new _ _ _⟩ ?_
          have hXQ : ∀ b, QTurns (w.heap.size + 1 + 1 + 1) (some ⟨bv, ov, none⟩) b → b ≠ wr.heap.size := by
            rintro b (rfl | ⟨o, s, hA⟩)
            · omega
            · injection hA with hA
              injection hA with hA
              subst hA
              omega
          have HXQ := Lib.hid hXQ
          clear y0 z0 z1 z2 hbv hlQ hXQ HB
          generalize wr.heap.size = X at *
          rintro W ⟨hB, hX⟩
          have HBX := Lib.hid (And.intro hB hX)
          clear hB hX
          have HIV : Hid (PartOk m out v.part) := Lib.hid (HI.out.ok v.part (List.mem_map.2 ⟨v, by simp, rfl⟩))
          go_upto_block 2 with (fail)
          go_cut [12] (fun x wx => InE (accB ac) m ac A c rs out W0 w v ((init ++ [v]).map PartV.part) S A3 c3 l X g x wx)
          case first =>
            go_wp2_with fail
            go_loopg [12] g (fun gg x wr => InR (accB ac) m ac A c rs out W0 w v ((init ++ [v]).map PartV.part) S A3 c3 l X g gg x wr)
            case atStart => exact ⟨_, _, _, _, _, _, _, _, rfl, HBX.out.1, HBX.out.2, HXQ.out, HI.out, by simpa using hnk, HG.out, .inr rfl, fun N st h => ⟨N, h⟩⟩
            case round =>
              clear HBX W
              obtain ⟨A1, c1, vs, nk2, S2, A2, c2, ready, rfl, hB, hX, hXQ, hI2, hnk2, hgg, hlt2, hback2⟩ := hrel
              obtain ⟨gg, hggk⟩ : ∃ gg, gk = gg := ⟨_, rfl⟩
              rw [hggk] at hgg hlt2
              have HGGK := Lib.hid hggk
              clear hggk
              have y0 : wr.cell? ⟨w.heap.size + 1 + 1 + 1, 0, none⟩ = some (.slice A1 vs.length c1) := hB.que.box.cell 0
              have hlQ := hB.que.box.lt
              obtain ⟨x0, x1, x2, hlX⟩ := hX.partIs
              have hlen2 := weight_len (W := rs.length + 1) (B := m * (out.size + 1)) (by omega) (vs.map PartV.part)
              rw [List.length_map] at hlen2
              have hwt2 := hI2.wt
              have HR := Lib.hid (And.intro hB (And.intro hX (And.intro hXQ hI2)))
              have HB2 := Lib.hid hback2
              have HGG := Lib.hid hgg
              have HLT := Lib.hid hlt2
              clear hB hX hXQ hI2 hback2 hgg hlt2
              rcases List.eq_nil_or_concat vs with rfl | ⟨init2, p, rfl⟩
              · go_wp2_with fail
                go_quiet (fail)
                go_wp2_with fail
                go_meet
                case rel =>
                  have hR := HR.out
                  refine ⟨A1, c1, [], nk2, S2, A2, c2, ready, rfl, hR.1.next (below_drewN (Below.refl _ _) _), hR.2.1.drewN _, hR.2.2.2, hnk2, ?_, HB2.out 1 _ rfl⟩
                  have h1 := HLT.out
                  have h2 := HGG.out
                  rw [← h2]
                  rcases h1 with h1 | h1
                  · exact h1
                  · simp at h1
              · rw [List.concat_eq_append] at *
                have hl1 : (init2 ++ [p]).length = init2.length + 1 := by simp
                rw [hl1] at y0 hlen2
                have hrd := HR.out.1.que.row.reads
                obtain ⟨bq, oq, rfl⟩ := Reads.some_ hrd (by rw [partCells_len]; omega)
                obtain ⟨_, hbq, z0, z1, z2⟩ := parts_got (k := init2.length) (p := p) hrd (by simp)
                have hw2 : IntKind.i64.wrap (init2.length : Int) = (init2.length : Int) := by rw [IntWalk.i64_in _ (by omega)]
                have hq0 : (0 : Int) ≤ (init2.length : Int) := by omega
                have hq1 : (init2.length : Int) < (init2.length : Int) + 1 := by omega
                have hq2 : decide ((0 : Int) < (init2.length : Int) + 1) = true := decide_eq_true (by omega)
                have hpok := HR.out.2.2.2.ok p.part (List.mem_map.2 ⟨p, by simp, rfl⟩)
                have hvok : PartOk m out v.part := HIV.out
                have hps : p.inp.size ≤ 1000000 := by
                  have h1 := hpok.isz
                  have h2 := hpok.len
                  have h3 : m * (out.size + 1) ≤ 8 * 21 := Nat.mul_le_mul hm (by omega)
                  have h4 : p.part.inp = p.inp := rfl
                  rw [h4] at h1
                  omega
                have hvs : v.inp.size ≤ 1000000 := by
                  have h1 := hvok.isz
                  have h2 := hvok.len
                  have h3 : m * (out.size + 1) ≤ 8 * 21 := Nat.mul_le_mul hm (by omega)
                  have h4 : v.part.inp = v.inp := rfl
                  rw [h4] at h1
                  omega
                have HPOK := Lib.hid hpok
                clear hrd hl1 hpok hvok
                go_upto_region 9 with (fail)
                go_cut [65] (fun x wx => x = .bool (p.key v == 0) ∧ Below wr.heap.size wr wx)
                case first =>
                  as_aux_lemma =>
                    have HC : Hid (Below wr.heap.size wr wr.drew) := Lib.hid (Below.refl _ _).drew
                    go_region_held3 (fun w' => w'.cell? ⟨w.heap.size + 1 + 1 + 1, 0, none⟩ = some (.slice (some ⟨bq, oq, none⟩) (init2.length + 1) c1) ∧ w'.cell? ⟨bq, oq + init2.length * 3, none⟩ = some (.string p.inp) ∧ w'.cell? ⟨bq, oq + init2.length * 3 + 1, none⟩ = some (.int .i64 p.cost) ∧ w'.cell? ⟨bq, oq + init2.length * 3 + 2, none⟩ = some (.slice p.a p.n p.c) ∧ w'.cell? ⟨X, 0, none⟩ = some (.string v.inp) ∧ w'.cell? ⟨X, 1, none⟩ = some (.int .i64 v.cost) ∧ w'.cell? ⟨X, 2, none⟩ = some (.slice v.a v.n v.c))
                      (first | exact ⟨y0, z0, z1, z2, x0, x1, x2⟩ | go_keep)
                      (first | (go_at_call 31; refine (partCompare_any p v _ hps hvs).mono ?_; rintro e w2 ⟨rfl, hb2⟩; have hs2 := hb2.size; have y0 := (hb2.cell (p := ⟨w.heap.size + 1 + 1 + 1, 0, none⟩) hlQ).trans y0; have z0 := (hb2.cell (p := ⟨bq, oq + init2.length * 3, none⟩) hbq).trans z0; have z1 := (hb2.cell (p := ⟨bq, oq + init2.length * 3 + 1, none⟩) hbq).trans z1; have z2 := (hb2.cell (p := ⟨bq, oq + init2.length * 3 + 2, none⟩) hbq).trans z2; have x0 := (hb2.cell (p := ⟨X, 0, none⟩) hlX).trans x0; have x1 := (hb2.cell (p := ⟨X, 1, none⟩) hlX).trans x1; have x2 := (hb2.cell (p := ⟨X, 2, none⟩) hlX).trans x2; replace HC := Lib.hid (HC.out.trans (hb2.mono HC.out.size))))
                    all_goals (go_wp2; go_meet)
                    all_goals exact ⟨rfl, HC.out⟩
                case rest =>
                  obtain ⟨rfl, hb9⟩ := hcut
                  have HR9 := Lib.hid (And.intro (HR.out.1.next hb9) (HR.out.2.1.next hb9))
                  have hs9 := hb9.size
                  clear x0 x1 x2 y0 z0 z1 z2 hbq hlX hlQ hb9
                  by_cases hk : p.key v = 0
                  · have d9 : (p.key v == 0) = true := by rw [hk]; rfl
                    have HKEY := Lib.hid hk
                    clear hk
                    have hqn : ¬ X = w.heap.size + 1 + 1 + 1 := fun he => HR.out.2.2.1 _ (.inl rfl) he.symm
                    go_wp2_with fail
                    refine (pop_any (w.heap.size + 1) (w.heap.size + 1 + 1 + 1) (some ⟨bq, oq, none⟩) c1 init2 p _ HR9.out.1.que (by omega)).mono ?_
                    rintro e w10 hP
                    obtain ⟨hB10, hV10⟩ := HR9.out.1.pop hP
                    have hX10 : Blk w10 X 76 v.cells.toArray := hP.2.1.blk HR9.out.2 hqn
                    obtain rfl : e = _ := hP.1
                    have hpn := hV10.len
                    obtain ⟨sp0, h12, hsp⟩ : ∃ sp0 h12, p.spots = sp0 ++ [h12] := by
                      rcases List.eq_nil_or_concat p.spots with h | ⟨a, b, h⟩
                      · exact absurd h HPOK.out.ne
                      · exact ⟨a, b, by rw [h, List.concat_eq_append]⟩
                    obtain ⟨h1, h2⟩ := h12
                    have hpn2 : p.n = sp0.length + 1 := by rw [hpn, hsp]; simp
                    have hhere : p.part.here = (h1, h2) := by
                      show p.spots.getLast?.getD (0, 0) = (h1, h2)
                      rw [hsp]; simp
                    obtain ⟨bs, os, hpa⟩ := Reads.some_ hV10.at_ (by rw [spotCells_len, hsp]; simp)
                    have HSP := Lib.hid (And.intro hsp hhere)
                    obtain ⟨j, hj⟩ : ∃ j, sp0.length = j := ⟨_, rfl⟩
                    rw [hj] at hpn2
                    have hj168 : j ≤ 200 := by
                      have h3 := HPOK.out.len
                      have h4 : m * (out.size + 1) ≤ 8 * 21 := Nat.mul_le_mul hm (by omega)
                      have h5 : p.part.spots = p.spots := rfl
                      rw [h5, hsp] at h3
                      simp at h3
                      omega
                    have HPN := Lib.hid (And.intro hpn2 (And.intro hpa hj))
                    have hXl10 := hX10.lt
                    have HB10 := Lib.hid (And.intro hB10 (And.intro hX10 hV10))
                    clear hP hB10 hX10 hV10 hpn hsp hhere hpn2 hpa hj
                    go_upto_region 11 with (fail)
                    have hne10 : ∀ b, QTurns (w.heap.size + 1 + 1 + 1) (some ⟨bq, oq, none⟩) b → b ≠ X ∧ b ≠ w10.heap.size := fun b hb => ⟨HR.out.2.2.1 b hb, by
                      rcases hb with rfl | ⟨o, s, hA⟩
                      · have := HB10.out.1.que.box.lt; omega
                      · have := (HB10.out.1.que.row.lt b (by rw [hA]; rfl)).2; omega⟩
                    refine world_gen (fun W => BW m ac A rs.length c w W (w.heap.size + 1 + 1 + 1) (some ⟨bq, oq, none⟩) c1 init2 (w.heap.size + 1 + 1 + 1 + 1) nk2 S2 A2 c2 ready A3 c3 l ∧ Blk W X 76 v.cells.toArray ∧ Blk W w10.heap.size 76 #[.string p.inp, .int .i64 p.cost, .slice (some ⟨bs, os, none⟩) (j + 1) p.c] ∧ VOk W p)
                      ⟨HB10.out.1.next (below_one _ _), HB10.out.2.1.alloc _, by rw [← HPN.out.2.1, ← HPN.out.1]; exact Blk.new _ _ _, HB10.out.2.2.next (below_one _ _)⟩ ?_
                    have HNE := Lib.hid hne10
                    clear hne10 HB10 HR9
                    generalize w10.heap.size = P0 at *
                    rintro W11 ⟨hB, hX, hP0, hV⟩
                    have b2 : W11.cell? ⟨P0, 2, none⟩ = some (.slice (some ⟨bs, os, none⟩) (j + 1) p.c) := hP0.cell 2
                    have hlP0 := hP0.lt
                    have hsa := hV.at_
                    rw [HPN.out.2.1] at hsa
                    obtain ⟨_, hbs, t0, t1⟩ := SpotsAt.got (k := j) (p := (h1, h2)) (ReadsT.reads hsa) (by rw [HSP.out.1, ← HPN.out.2.2]; simp)
                    have hw3 : IntKind.i64.wrap (j : Int) = (j : Int) := by rw [IntWalk.i64_in _ (by omega)]
                    have hj0 : (0 : Int) ≤ (j : Int) := by omega
                    have hj1 : (j : Int) < (j : Int) + 1 := by omega
                    have HB11 := Lib.hid (And.intro hB (And.intro hX (And.intro hP0 hV)))
                    clear hB hX hP0 hV hsa
                    go_upto_region 13 with (fail)
                    refine world_gen (fun W => HereW m ac A rs.length c w W (w.heap.size + 1 + 1 + 1) (some ⟨bq, oq, none⟩) c1 init2 (w.heap.size + 1 + 1 + 1 + 1) nk2 S2 A2 c2 ready A3 c3 l v p X P0 W11.heap.size bs os j h1 h2)
                      ⟨HB11.out.1.next (below_one _ _), HB11.out.2.1.alloc _, HB11.out.2.2.1.alloc _, Blk.new _ _ _, HB11.out.2.2.2.next (below_one _ _), HNE.out⟩ ?_
                    clear HB11 b2 hlP0 hbs t0 t1 hw3
                    generalize W11.heap.size = H at *
                    intro W13 hH
                    have hhere2 := HPOK.out.here
                    rw [HSP.out.2] at hhere2
                    obtain ⟨hh1, hh2⟩ := hhere2
                    simp only at hh1 hh2
                    have HH := Lib.hid hH
                    obtain ⟨t, ht⟩ : ∃ t, endOk (accB ac) out S2 p.part = t := ⟨_, rfl⟩
                    have HT13 := Lib.hid ht
                    clear hH ht
                    have hps4 : p.inp.size ≤ maxLen := by unfold maxLen; omega
                    go_cut [99] (fun x wx => x = .bool t ∧ Below W13.heap.size W13 wx)
                    case first =>
                      as_aux_lemma =>
                        have s0 : W13.cell? ⟨H, 0, none⟩ = some (.int .i64 h1) := HH.out.bh.cell 0
                        have s1 : W13.cell? ⟨H, 1, none⟩ = some (.int .i64 h2) := HH.out.bh.cell 1
                        have hlH := HH.out.bh.lt
                        have b0 : W13.cell? ⟨P0, 0, none⟩ = some (.string p.inp) := HH.out.bp.cell 0
                        have hlP := HH.out.bp.lt
                        have c0 : W13.cell? ⟨w.heap.size, 0, none⟩ = some (.int .i64 m) := HH.out.bw.box.cell 0
                        have c1' : W13.cell? ⟨w.heap.size, 1, none⟩ = some (.int .u8 ac) := HH.out.bw.box.cell 1
                        have c2' : W13.cell? ⟨w.heap.size, 2, none⟩ = some (.slice A rs.length c) := HH.out.bw.box.cell 2
                        have hlC := HH.out.bw.box.lt
                        obtain ⟨ab, hab⟩ : ∃ ab, accB ac h1 = ab := ⟨_, rfl⟩
                        obtain ⟨kn, hkn⟩ : ∃ kn, memS S2 p.inp = kn := ⟨_, rfl⟩
                        have htt : t = (decide (h2 = out.size) && ab && decide (p.inp.size ≤ 40) && !kn) := by
                          rw [← HT13.out]
                          unfold endOk
                          rw [HSP.out.2, ← hab, ← hkn]
                          rfl
                        have HAB := Lib.hid hab
                        have HKN := Lib.hid hkn
                        have HTT := Lib.hid htt
                        clear hab hkn htt
                        by_cases e1 : h2 = out.size
                        · have q1 : ((h2 : Int) == (out.size : Int)) = true := by rw [e1]; simp
                          have HE1 := Lib.hid e1
                          clear e1
                          by_cases e2 : p.inp.size ≤ 40
                          · have q2 : decide ((p.inp.size : Int) ≤ 40) = true := decide_eq_true (by omega)
                            have q3 : decide ((40 : Int) < (p.inp.size : Int)) = false := decide_eq_false (by omega)
                            cases ab <;> cases kn
                            all_goals
                              go_wp2_with (go_at_call 33; refine (raccepts_any m ac A rs.length c h1 _ hac (by omega)).mono ?_; rintro e w14 ⟨rfl, hb14⟩; rw [HAB.out]; have b0 := (hb14.cell (p := ⟨P0, 0, none⟩) hlP).trans b0; have hlk14 := (HH.out.next hb14).bw.kn.look p.inp hps4; rw [HKN.out] at hlk14; have hlP := Nat.lt_of_lt_of_le hlP hb14.size; have HB14 := Lib.hid hb14; clear hb14)
                              go_meet
                              case rel => exact ⟨by rw [HTT.out, HE1.out]; simp [e2], HB14.out⟩
                          · have q2 : decide ((p.inp.size : Int) ≤ 40) = false := decide_eq_false (by omega)
                            have q3 : decide ((40 : Int) < (p.inp.size : Int)) = true := decide_eq_true (by omega)
                            cases ab
                            all_goals
                              go_wp2_with (go_at_call 33; refine (raccepts_any m ac A rs.length c h1 _ hac (by omega)).mono ?_; rintro e w14 ⟨rfl, hb14⟩; rw [HAB.out]; have b0 := (hb14.cell (p := ⟨P0, 0, none⟩) hlP).trans b0; have hlP := Nat.lt_of_lt_of_le hlP hb14.size; have HB14 := Lib.hid hb14; clear hb14)
                              go_meet
                              case rel => exact ⟨by rw [HTT.out, HE1.out]; simp [e2], HB14.out⟩
                        · have q1 : ((h2 : Int) == (out.size : Int)) = false := by rw [beq_eq_false_iff_ne]; omega
                          go_wp2_with fail
                          go_meet
                          case rel => exact ⟨by rw [HTT.out]; simp [e1], Below.refl _ _⟩
                    case rest =>
                      obtain ⟨rfl, hb13⟩ := hcut
                      have HH2 := Lib.hid (HH.out.next hb13)
                      clear hb13 HH
                      go_upto_if 99 with (fail)
                      go_cut [12] (fun x wx => ∃ nk3 S3 A2' c2' ready3, x = .slice A2' (ready3 : List ByteArray).length c2' ∧ HereW m ac A rs.length c w wx (w.heap.size + 1 + 1 + 1) (some ⟨bq, oq, none⟩) c1 init2 (w.heap.size + 1 + 1 + 1 + 1) nk3 S3 A2' c2' ready3 A3 c3 l v p X P0 H bs os j h1 h2 ∧ (S3 = if t = true then S2 ++ [p.inp] else S2) ∧ (ready3 = if t = true then ready ++ [p.inp] else ready) ∧ nk3 = l.length + ready3.length ∧ nk3 ≤ nk2 + 1)
                      case first =>
                        cases t with
                        | false =>
                          go_wp2_with fail
                          go_meet
                          case rel => exact ⟨nk2, S2, A2, c2, ready, rfl, HH2.out, rfl, rfl, hnk2, by omega⟩
                        | true =>
                          have b0 : wc.cell? ⟨P0, 0, none⟩ = some (.string p.inp) := HH2.out.bp.cell 0
                          have hlP := HH2.out.bp.lt
                          obtain ⟨w14, hrun, hk14, hg14⟩ := HH2.out.bw.kn.put p.inp hps4 (by unfold maxLen; omega)
                          have HRUN := Lib.hid hrun
                          have h14 := HH2.out.know hk14 hg14
                          have b1 : w14.cell? ⟨P0, 0, none⟩ = some (.string p.inp) := h14.bp.cell 0
                          have hlP1 := h14.bp.lt
                          have H14 := Lib.hid h14
                          have hbs := h14.bw.lt
                          obtain ⟨i0, hi0, hz0, hz1, hz2⟩ := info_parts string_info
                          have HII := Lib.hid (And.intro hi0 (And.intro hz0 (And.intro hz1 hz2)))
                          clear hrun hk14 hg14 h14 hi0 hz0 hz1 hz2
                          go_wp2_with (first | (at_mapUpdate; refine wpList_store_run (by rfl) _ _ _ _ (by rfl) (by rfl) (by rfl) (by rfl) (by exact HRUN.out) ?_) | (at_builtin; refine wpList_append_acc _ (by rfl) _ _ 80 (by rfl) (w.heap.size + 1) 9 i0 _ 1 16 Try.underlying80 HII.out.1 HII.out.2.1 HII.out.2.2.1 HII.out.2.2.2 (by rfl) (by decide) A2 ready.length c2 _ (by rfl) (by exact .inl (H14.out.bw.rd.alloc _)) w14.heap.size 9 (0, 0) 1 1 #[.string p.inp] (by rfl) (by rfl) (by exact heap_alloc_new _ _) (by simp [Value.oneCell']) (by omega) (by unfold maxLen; omega) (by omega) (by simp; omega) ?_; intro g5 cap5 w5 row5 hown5 hgr5 hrow5 hat5 hlt5))
                          go_meet
                          case rel => exact ⟨nk2 + 1, S2 ++ [p.inp], some ⟨g5, 0, none⟩, cap5, ready ++ [p.inp], by simp, (H14.out.next (below_one w14 (.cells #[.string p.inp] 9))).ready1 hgr5 hrow5 hown5, rfl, rfl, by simp; omega, by omega⟩
                      case rest =>
                        obtain ⟨nk3, S3, A2', c2', ready3, rfl, hH3, hS3, hr3, hnk3, hnk4⟩ := hcut
                        have HS3 := Lib.hid (And.intro hS3 hr3)
                        have HH3 := Lib.hid hH3
                        have c2x : wc.cell? ⟨w.heap.size, 2, none⟩ = some (.slice A rs.length c) := hH3.bw.box.cell 2
                        have hlC := hH3.bw.box.lt
                        clear hS3 hr3 hH3 HH2
                        obtain ⟨D, hD⟩ : ∃ D, D = if j + 1 < m * (out.size + 1) then (rs.length + 1) ^ (m * (out.size + 1) - (j + 1 + 1)) else 0 := ⟨_, rfl⟩
                        have HD := Lib.hid hD
                        have hdown0 : DownP (init2.map PartV.part) := by
                          have := HR.out.2.2.2.down
                          rw [List.map_append] at this
                          exact this.sublist (List.sublist_append_left _ _)
                        have hok0 : ∀ q ∈ init2.map PartV.part, PartOk m out q := fun q hq => HR.out.2.2.2.ok q (by rw [List.map_append]; exact List.mem_append_left _ hq)
                        have H0 := Lib.hid (And.intro hdown0 hok0)
                        clear hD hdown0 hok0
                        go_wp2_with fail
                        go_loopw [111] (fun z wr => ∃ (i : Nat) (A1' : Option Addr) (c1' : Nat) (vs' : List PartV), i ≤ rs.length ∧ z = .int .i64 i ∧ vs'.map PartV.part = pushRules out p.part (rs.take i) (init2.map PartV.part) ∧ HereW m ac A rs.length c w wr (w.heap.size + 1 + 1 + 1) A1' c1' vs' (w.heap.size + 1 + 1 + 1 + 1) nk3 S3 A2' c2' ready3 A3 c3 l v p X P0 H bs os j h1 h2 ∧ DownP (vs'.map PartV.part) ∧ (∀ q ∈ vs'.map PartV.part, PartOk m out q) ∧ weight (rs.length + 1) (m * (out.size + 1)) (vs'.map PartV.part) ≤ weight (rs.length + 1) (m * (out.size + 1)) (init2.map PartV.part) + i * D) (fun z _ => rs.length - (intOf z).toNat)
                        case atStart => exact ⟨0, _, c1, init2, Nat.zero_le _, rfl, by simp [pushRules], HH3.out, H0.out.1, H0.out.2, by omega⟩
                        case round =>
                          clear HH3 wc c2x hlC
                          obtain ⟨i, A1', c1', vs', hi, rfl, hmap, hHr, hdn, hokr, hwr⟩ := hrel
                          have HL := Lib.hid (And.intro hmap (And.intro hHr (And.intro hdn (And.intro hokr hwr))))
                          have hbelr := hHr.bw.bel
                          clear hmap hHr hdn hokr hwr
                          by_cases hir : i < rs.length
                          · obtain ⟨r, hr⟩ : ∃ r, rs[i]? = some r := ⟨_, List.getElem?_eq_getElem hir⟩
                            obtain ⟨hrf, hrd⟩ := hs r (List.mem_of_getElem? hr)
                            obtain ⟨hri, hro, hrc⟩ := hb r (List.mem_of_getElem? hr)
                            have hA2 := Reads.lower hA hF hbelr
                            obtain ⟨br, or, rfl⟩ := Reads.some_ hA2 (by rw [cells_length]; omega)
                            obtain ⟨_, hbr, y0, y1, y2, y3, y4⟩ := RulesAt.got hA2 hr
                            have hi0 : (0 : Int) ≤ (i : Int) := by omega
                            have hi1 : (i : Int) < (rs.length : Int) := by omega
                            have htk : rs.take (i + 1) = rs.take i ++ [r] := by rw [List.take_add_one, hr]; rfl
                            have HTK := Lib.hid htk
                            have s1 : wr.cell? ⟨H, 1, none⟩ = some (.int .i64 h2) := HL.out.2.1.bh.cell 1
                            have hlH := HL.out.2.1.bh.lt
                            obtain ⟨nx, hnx⟩ : ∃ nx, nx = h2 + r.out.size := ⟨_, rfl⟩
                            have hsum : IntKind.i64.wrap ((h2 : Int) + (r.out.size : Int)) = (nx : Int) := by rw [IntWalk.i64_in _ (by omega), hnx]; omega
                            have HNX := Lib.hid hnx
                            have hnx20 : nx ≤ 30 := by omega
                            clear hA2 hr htk hnx
                            go_upto_region 20 with (fail)
                            refine world_gen (fun W => HereW m ac (some ⟨br, or, none⟩) rs.length c w W (w.heap.size + 1 + 1 + 1) A1' c1' vs' (w.heap.size + 1 + 1 + 1 + 1) nk3 S3 A2' c2' ready3 A3 c3 l v p X P0 H bs os j h1 h2 ∧ Blk W wr.heap.size 65 #[.int .i64 r.frm, .int .i64 r.dst, .string r.inp, .string r.out, .int .i64 r.cost] ∧ Blk W (wr.heap.size + 1) 73 #[.int .i64 r.dst, .int .i64 nx])
                              ⟨HL.out.2.1.next (((Below.refl _ _).alloc (Nat.le_refl _) _).alloc (by simp) _), (Blk.new _ _ _).alloc _, Blk.new2 _ _ _ _⟩ ?_
                            have HL2 := Lib.hid (And.intro HL.out.1 HL.out.2.2)
                            clear HL y0 y1 y2 y3 y4 s1 hlH hbr hbelr hsum
                            generalize wr.heap.size = R at *
                            rintro W20 ⟨hH20, hR20, hN20⟩
                            have r0 : W20.cell? ⟨R, 0, none⟩ = some (.int .i64 r.frm) := hR20.cell 0
                            have r2 : W20.cell? ⟨R, 2, none⟩ = some (.string r.inp) := hR20.cell 2
                            have r3 : W20.cell? ⟨R, 3, none⟩ = some (.string r.out) := hR20.cell 3
                            have r4 : W20.cell? ⟨R, 4, none⟩ = some (.int .i64 r.cost) := hR20.cell 4
                            have n0 : W20.cell? ⟨R + 1, 0, none⟩ = some (.int .i64 r.dst) := hN20.cell 0
                            have n1 : W20.cell? ⟨R + 1, 1, none⟩ = some (.int .i64 nx) := hN20.cell 1
                            have s0 : W20.cell? ⟨H, 0, none⟩ = some (.int .i64 h1) := hH20.bh.cell 0
                            have s1 : W20.cell? ⟨H, 1, none⟩ = some (.int .i64 h2) := hH20.bh.cell 1
                            have p0 : W20.cell? ⟨P0, 0, none⟩ = some (.string p.inp) := hH20.bp.cell 0
                            have p1 : W20.cell? ⟨P0, 1, none⟩ = some (.int .i64 p.cost) := hH20.bp.cell 1
                            have p2 : W20.cell? ⟨P0, 2, none⟩ = some (.slice (some ⟨bs, os, none⟩) (j + 1) p.c) := hH20.bp.cell 2
                            have hlR := hR20.lt
                            have hlN := hN20.lt
                            have hlH := hH20.bh.lt
                            have hlP := hH20.bp.lt
                            have hck : childOk out p.part r = (decide (r.frm = h1) && prefB (out.extract h2 out.size) r.out && !decide ((r.dst, nx) ∈ p.spots)) := by
                              rw [HNX.out]
                              unfold childOk
                              rw [HSP.out.2]
                              rfl
                            have HCK := Lib.hid hck
                            have HH20 := Lib.hid (And.intro hH20 (And.intro hR20 hN20))
                            have hsa : ReadsT 73 W20 (some ⟨bs, os, none⟩) (p.spots.flatMap spotCells) := by rw [← HPN.out.2.1]; exact hH20.vok.at_
                            have hsl : p.spots.length = j + 1 := by rw [HSP.out.1, List.length_append, HPN.out.2.2]; rfl
                            have HSA := Lib.hid (And.intro hsa hsl)
                            have hpc : j + 1 ≤ p.c := by
                              have := hH20.vok.cap
                              rw [HPN.out.1] at this
                              exact this
                            clear hck hH20 hR20 hN20 hsa hsl
                            have hq1 : (0 : Int) ≤ (h2 : Int) := by omega
                            have hq2 : (h2 : Int) ≤ (out.size : Int) := by omega
                            go_cut [144] (fun x wx => x = .bool (childOk out p.part r) ∧ Below W20.heap.size W20 wx)
                            case first =>
                              as_aux_lemma =>
                                have hos : out.size ≤ maxLen := by unfold maxLen; omega
                                have hxs : (out.extract h2 out.size).size ≤ maxLen := by rw [extract_size]; unfold maxLen; omega
                                have hrs : r.out.size ≤ maxLen := by unfold maxLen; omega
                                by_cases e1 : r.frm = h1
                                · have q1 : ((r.frm : Int) == (h1 : Int)) = true := by rw [e1]; simp
                                  obtain ⟨pf, hpf⟩ : ∃ pf, prefB (out.extract h2 out.size) r.out = pf := ⟨_, rfl⟩
                                  have hpre : ∀ w : World, Calls Try.prog 34 #[.string (out.extract h2 out.size), .string r.out] w fun e w' => e = .returned (.bool pf) ∧ w' = w := fun w => by
                                    have h := pref_any (out.extract h2 out.size) r.out w hxs hrs
                                    rw [hpf] at h
                                    exact h
                                  have HPRE := Lib.hid hpre
                                  have HE := Lib.hid (And.intro e1 hpf)
                                  clear e1 hpf hpre
                                  have HC : Hid (Below W20.heap.size W20 W20.drew) := Lib.hid (Below.refl _ _).drew
                                  cases pf with
                                  | false =>
                                    go_quiet ((go_at_call 34; exact Calls.quiet_of_same (HPRE.out _)))
                                    go_wp2
                                    go_meet
                                    case rel => exact ⟨by rw [HCK.out, HE.out.2]; simp, below_drewN (Below.refl _ _) _⟩
                                  | true =>
                                    go_region_held3 (fun w' => w'.cell? ⟨R, 0, none⟩ = some (.int .i64 r.frm) ∧ w'.cell? ⟨R, 3, none⟩ = some (.string r.out) ∧ w'.cell? ⟨H, 0, none⟩ = some (.int .i64 h1) ∧ w'.cell? ⟨H, 1, none⟩ = some (.int .i64 h2) ∧ w'.cell? ⟨P0, 2, none⟩ = some (.slice (some ⟨bs, os, none⟩) (j + 1) p.c) ∧ w'.cell? ⟨R + 1, 0, none⟩ = some (.int .i64 r.dst) ∧ w'.cell? ⟨R + 1, 1, none⟩ = some (.int .i64 nx))
                                      (first | exact ⟨r0, r3, s0, s1, p2, n0, n1⟩ | go_keep)
                                      (first
                                        | (go_at_call 34; refine (HPRE.out _).mono ?_; rintro e w2 ⟨rfl, rfl⟩)
                                        | (go_at_call 35; refine (spotHas_n (fun _ => True) (some ⟨bs, os, none⟩) p.c (j + 1) p.spots (r.dst, nx) _ (by exact Reads.below (ReadsT.reads HSA.out.1) HC.out) (by omega) HSA.out.2).mono ?_; rintro e w2 ⟨rfl, hb2⟩; have hs2 := hb2.size; have r0 := (hb2.cell (p := ⟨R, 0, none⟩) hlR).trans r0; have r3 := (hb2.cell (p := ⟨R, 3, none⟩) hlR).trans r3; have s0 := (hb2.cell (p := ⟨H, 0, none⟩) hlH).trans s0; have s1 := (hb2.cell (p := ⟨H, 1, none⟩) hlH).trans s1; have p2 := (hb2.cell (p := ⟨P0, 2, none⟩) hlP).trans p2; have n0 := (hb2.cell (p := ⟨R + 1, 0, none⟩) hlN).trans n0; have n1 := (hb2.cell (p := ⟨R + 1, 1, none⟩) hlN).trans n1; replace HC := Lib.hid (HC.out.trans (hb2.mono HC.out.size))))
                                    all_goals (go_wp2; go_meet)
                                    all_goals exact ⟨by rw [HCK.out, HE.out.2, HE.out.1]; simp, HC.out⟩
                                · have q1 : ((r.frm : Int) == (h1 : Int)) = false := by rw [beq_eq_false_iff_ne]; omega
                                  have HE := Lib.hid e1
                                  clear e1
                                  go_quiet (fail)
                                  go_wp2
                                  go_meet
                                  case rel => exact ⟨by rw [HCK.out]; simp [HE.out], below_drewN (Below.refl _ _) _⟩
                            case rest =>
                              obtain ⟨rfl, hb20⟩ := hcut
                              obtain ⟨ck, hckd⟩ : ∃ ck, childOk out p.part r = ck := ⟨_, rfl⟩
                              rw [hckd]
                              have HCKD := Lib.hid hckd
                              have hstep : pushRules out p.part (rs.take (i + 1)) (init2.map PartV.part) = pushIf out p.part (pushRules out p.part (rs.take i) (init2.map PartV.part)) r := by
                                rw [HTK.out]
                                unfold pushRules
                                rw [List.foldl_append]
                                rfl
                              have HSTEP := Lib.hid hstep
                              have HH21 := Lib.hid (HH20.out.1.next hb20)
                              have r2 := (hb20.cell (p := ⟨R, 2, none⟩) hlR).trans r2
                              have r4 := (hb20.cell (p := ⟨R, 4, none⟩) hlR).trans r4
                              have p0 := (hb20.cell (p := ⟨P0, 0, none⟩) hlP).trans p0
                              have p1 := (hb20.cell (p := ⟨P0, 1, none⟩) hlP).trans p1
                              have p2 := (hb20.cell (p := ⟨P0, 2, none⟩) hlP).trans p2
                              have n0 := (hb20.cell (p := ⟨R + 1, 0, none⟩) hlN).trans n0
                              have n1 := (hb20.cell (p := ⟨R + 1, 1, none⟩) hlN).trans n1
                              have hsz20 := hb20.size
                              have HSA2 := Lib.hid (HSA.out.1.next hb20)
                              have HRN := Lib.hid (And.intro (HH20.out.2.1.next hb20) (HH20.out.2.2.next hb20))
                              clear hckd hstep r0 r3 s0 s1 hb20 HH20
                              cases ck with
                              | false =>
                                go_wp2_with fail
                                go_roundw
                                case rel => exact ⟨i + 1, A1', c1', vs', by omega, by go_num, by rw [HSTEP.out, ← HL2.out.1]; unfold pushIf; rw [HCKD.out]; rfl, HH21.out, HL2.out.2.1, HL2.out.2.2.1, by have := HL2.out.2.2.2; rw [Nat.add_mul]; omega⟩
                                case measure => simp [intOf]; omega
                              | true =>
                                obtain ⟨pc2, hpc2⟩ : ∃ pc2, pc2 = p.cost + r.cost := ⟨_, rfl⟩
                                have hpcost : p.cost ≤ 1000 * 200 := by
                                  have h3 := HPOK.out.csz
                                  have h5 : p.part.spots.length = j + 1 := HSA.out.2
                                  have h6 : p.part.cost = p.cost := rfl
                                  rw [h5, h6] at h3
                                  have h7 := HPOK.out.len
                                  have h4 : m * (out.size + 1) ≤ 8 * 21 := Nat.mul_le_mul hm (by omega)
                                  rw [h5] at h7
                                  omega
                                have hwc : IntKind.i64.wrap ((p.cost : Int) + (r.cost : Int)) = (pc2 : Int) := by rw [IntWalk.i64_in _ (by omega), hpc2]; omega
                                have hchild := HPOK.out.child hrd hri hrc HCKD.out
                                have hcd : childOf p.part r = ⟨p.inp ++ r.inp, pc2, p.spots ++ [(r.dst, nx)]⟩ := by
                                  rw [hpc2, HNX.out]
                                  unfold childOf
                                  rw [HSP.out.2]
                                  rfl
                                have hpis : p.inp.size ≤ 4 * 200 := by
                                  have h3 := HPOK.out.isz
                                  have h5 : p.part.spots.length = j + 1 := HSA.out.2
                                  have h6 : p.part.inp = p.inp := rfl
                                  rw [h5, h6] at h3
                                  have h7 := HPOK.out.len
                                  have h4 : m * (out.size + 1) ≤ 8 * 21 := Nat.mul_le_mul hm (by omega)
                                  rw [h5] at h7
                                  omega
                                have hcsz : (p.inp ++ r.inp).size ≤ 1000000 := by rw [ByteArray.size_append]; omega
                                have hvsz : ∀ q ∈ vs', q.inp.size ≤ 1000000 := fun q hq => by
                                  have h1 := HL2.out.2.2.1 q.part (List.mem_map.2 ⟨q, hq, rfl⟩)
                                  have h2 := h1.isz
                                  have h3 := h1.len
                                  have h4 : m * (out.size + 1) ≤ 8 * 21 := Nat.mul_le_mul hm (by omega)
                                  have h5 : q.part.inp = q.inp := rfl
                                  rw [h5] at h2
                                  omega
                                have HCH := Lib.hid (And.intro hchild (And.intro hcd (And.intro hcsz hvsz)))
                                have hvl : vs'.length < 1000000000000 := by
                                  have h1 := weight_len (W := rs.length + 1) (B := m * (out.size + 1)) (by omega) (vs'.map PartV.part)
                                  rw [List.length_map] at h1
                                  have h2 := HL2.out.2.2.2
                                  have h3 : i * D ≤ rs.length * D := Nat.mul_le_mul_right _ hi
                                  have h4 := hW1' m rs.length out.size j D HD.out
                                  have h5 := HGG.out
                                  have h6 := hgw' m out init2 p j HSA.out.2 rs.length gg h5
                                  omega
                                obtain ⟨i0, hi0, hz0, hz1, hz2⟩ := info_parts spot_info
                                have HII := Lib.hid (And.intro hi0 (And.intro hz0 (And.intro hz1 hz2)))
                                have hbs := HH21.out.bw.lt
                                have hcat : ¬ (9223372036854775807 < p.inp.size + r.inp.size) := by omega
                                have hcat2 : p.inp.size + r.inp.size ≤ 9223372036854775807 := by omega
                                have hcat3 : ¬ ((9223372036854775807 : Int) < (p.inp.size : Int) + (r.inp.size : Int)) := by omega
                                have hj3 : (j : Int) + 1 ≤ (p.c : Int) := by omega
                                have hj4 : (0 : Int) ≤ (j : Int) + 1 := by omega
                                have hlR2 : R < wc.heap.size := by omega
                                have hlN2 : R + 1 < wc.heap.size := by omega
                                have hlP2 : P0 < wc.heap.size := by omega
                                clear hchild hcd hvsz hpc2 hi0 hz0 hz1 hz2 hpis hpcost
                                go_upto_region 21 with (fail)
                                go_region_held3 (fun w' => w'.cell? ⟨R, 2, none⟩ = some (.string r.inp) ∧ w'.cell? ⟨R, 4, none⟩ = some (.int .i64 r.cost) ∧ w'.cell? ⟨P0, 0, none⟩ = some (.string p.inp) ∧ w'.cell? ⟨P0, 1, none⟩ = some (.int .i64 p.cost) ∧ w'.cell? ⟨P0, 2, none⟩ = some (.slice (some ⟨bs, os, none⟩) (j + 1) p.c) ∧ w'.cell? ⟨R + 1, 0, none⟩ = some (.int .i64 r.dst) ∧ w'.cell? ⟨R + 1, 1, none⟩ = some (.int .i64 nx))
                                  (first | exact ⟨r2, r4, p0, p1, p2, n0, n1⟩ | exact ⟨(World.cell?_alloc_lt _ _ _ hlR2).trans r2, (World.cell?_alloc_lt _ _ _ hlR2).trans r4, (World.cell?_alloc_lt _ _ _ hlP2).trans p0, (World.cell?_alloc_lt _ _ _ hlP2).trans p1, (World.cell?_alloc_lt _ _ _ hlP2).trans p2, (World.cell?_alloc_lt _ _ _ hlN2).trans n0, (World.cell?_alloc_lt _ _ _ hlN2).trans n1⟩ | go_keep)
                                  (first
                                    | (refine step_append_full _ (by rfl) _ _ 74 (by rfl) 73 i0 _ 2 16 Try.underlying74 HII.out.1 HII.out.2.1 HII.out.2.2.1 HII.out.2.2.2 (by rfl) (by decide) (fun _ => True) (some ⟨bs, os, none⟩) (j + 1) (p.spots.flatMap spotCells) (by rfl) (by exact Reads.below (ReadsT.reads HSA2.out) ((Below.refl _ _).alloc (Nat.le_refl _) _).drew) (by rw [spotCells_len, HSA.out.2]) (by omega) wc.heap.size 73 (0, 0) 1 1 #[.int .i64 r.dst, .int .i64 nx] (by rfl) (by rfl) (by exact heap_alloc_new wc _) (by simp [Value.oneCell']) (by omega) (by unfold maxLen; omega) (by omega) ?_; intro g7 cap7 w7 hown7 hb7; have hbX : Below wc.heap.size wc w7 := ((below_one wc _).drew).trans (hb7.mono (by simp)); have hs7 := hbX.size; have r2 := (hbX.cell (p := ⟨R, 2, none⟩) hlR2).trans r2; have r4 := (hbX.cell (p := ⟨R, 4, none⟩) hlR2).trans r4; have p0 := (hbX.cell (p := ⟨P0, 0, none⟩) hlP2).trans p0; have p1 := (hbX.cell (p := ⟨P0, 1, none⟩) hlP2).trans p1; have p2 := (hbX.cell (p := ⟨P0, 2, none⟩) hlP2).trans p2; have n0 := (hbX.cell (p := ⟨R + 1, 0, none⟩) hlN2).trans n0; have n1 := (hbX.cell (p := ⟨R + 1, 1, none⟩) hlN2).trans n1; have HBX7 := Lib.hid hbX; have HOWN7 := Lib.hid hown7; clear hbX hown7 hb7)
                                    | (go_at_call 36; refine (push_any (w.heap.size + 1) (w.heap.size + 1 + 1 + 1) A1' c1' vs' ⟨p.inp ++ r.inp, pc2, some ⟨g7, 0, none⟩, j + 1 + 1, cap7, p.spots ++ [(r.dst, nx)]⟩ _ (by exact (HH21.out.next HBX7.out).bw.que) (by omega) (down_map HL2.out.2.1) hvl hcsz HCH.out.2.2.2).mono ?_; rintro e w8 hP8; have HP8 := Lib.hid hP8; obtain rfl : e = _ := hP8.1; have hq7 := (HH21.out.next HBX7.out).bw.que; have hnR : ¬ QTurns (w.heap.size + 1 + 1 + 1) A1' R := fun hq => hq7.notTy (t := 65) (by decide) (by decide) _ hq ⟨_, HRN.out.1.next HBX7.out⟩; have hnN : ¬ QTurns (w.heap.size + 1 + 1 + 1) A1' (R + 1) := fun hq => hq7.notTy (t := 73) (by decide) (by decide) _ hq ⟨_, HRN.out.2.next HBX7.out⟩; have hnP : ¬ QTurns (w.heap.size + 1 + 1 + 1) A1' P0 := fun hq => (HH21.out.ne _ hq).2 rfl; have kR := hP8.2.1.block R (by omega) hnR; have kN := hP8.2.1.block (R + 1) (by omega) hnN; have kP := hP8.2.1.block P0 (by omega) hnP; have r2 := (World.cell?_of_block (a := ⟨R, 2, none⟩) kR).trans r2; have r4 := (World.cell?_of_block (a := ⟨R, 4, none⟩) kR).trans r4; have p0 := (World.cell?_of_block (a := ⟨P0, 0, none⟩) kP).trans p0; have p1 := (World.cell?_of_block (a := ⟨P0, 1, none⟩) kP).trans p1; have p2 := (World.cell?_of_block (a := ⟨P0, 2, none⟩) kP).trans p2; have n0 := (World.cell?_of_block (a := ⟨R + 1, 0, none⟩) kN).trans n0; have n1 := (World.cell?_of_block (a := ⟨R + 1, 1, none⟩) kN).trans n1; clear hP8 hq7 hnR hnN hnP kR kN kP))
                                all_goals go_wp2_with fail
                                all_goals
                                  go_roundw
                                  case rel =>
                                    have hown := HOWN7.out
                                    have hV7 : VOk w7 ⟨p.inp ++ r.inp, pc2, some ⟨g7, 0, none⟩, j + 1 + 1, cap7, p.spots ++ [(r.dst, nx)]⟩ := by
                                      refine ⟨by simp [HSA.out.2], Acc.le_ (.inl hown), ?_⟩
                                      have h := ReadsT.of_own hown
                                      rw [List.flatMap_append]
                                      exact h
                                    obtain ⟨A1'', c1'', hH8⟩ := (HH21.out.next HBX7.out).push hV7 HP8.out
                                    have hpart : PartV.part ⟨p.inp ++ r.inp, pc2, some ⟨g7, 0, none⟩, j + 1 + 1, cap7, p.spots ++ [(r.dst, nx)]⟩ = childOf p.part r := HCH.out.2.1.symm
                                    have hmap8 : (pushV ⟨p.inp ++ r.inp, pc2, some ⟨g7, 0, none⟩, j + 1 + 1, cap7, p.spots ++ [(r.dst, nx)]⟩ vs').map PartV.part = pushP (childOf p.part r) (vs'.map PartV.part) := by rw [push_map, hpart]
                                    have hcl : (childOf p.part r).spots.length = j + 1 + 1 := by rw [HCH.out.2.1]; simp [HSA.out.2]
                                    have hlB := HCH.out.1.len
                                    rw [hcl] at hlB
                                    have hDv : D = (rs.length + 1) ^ (m * (out.size + 1) - (j + 1 + 1)) := by rw [HD.out, if_pos (by omega)]
                                    refine ⟨i + 1, A1'', c1'', _, by omega, by go_num, ?_, by first | exact hH8 | exact hH8.next (Below.refl _ _).drew, ?_, ?_, ?_⟩
                                    · rw [hmap8, HSTEP.out, ← HL2.out.1]
                                      unfold pushIf
                                      rw [HCKD.out]
                                      rfl
                                    · rw [hmap8]
                                      exact HL2.out.2.1.push
                                    · rw [hmap8]
                                      intro q hq
                                      rcases mem_pushP.1 hq with rfl | hq
                                      · exact HCH.out.1
                                      · exact HL2.out.2.2.1 q hq
                                    · rw [hmap8, weight_push, hcl, ← hDv]
                                      have := HL2.out.2.2.2
                                      rw [Nat.add_mul]
                                      omega
                                  case measure => simp [intOf]; omega
                          · obtain rfl : i = rs.length := by omega
                            as_aux_lemma =>
                              have hW1 : rs.length * D + 1 ≤ (rs.length + 1) ^ (m * (out.size + 1) - (j + 1)) := by
                                have h := HD.out
                                split at h
                                · rw [h]
                                  exact weight_step (Nat.lt_succ_self _) (by assumption)
                                · rw [h, Nat.mul_zero]
                                  exact Nat.pow_pos (by omega)
                              have hgw : gg = weight (rs.length + 1) (m * (out.size + 1)) (init2.map PartV.part) + (rs.length + 1) ^ (m * (out.size + 1) - (j + 1)) := by
                                have h := HGG.out
                                rw [List.map_append, weight_append] at h
                                have h3 : p.part.spots.length = j + 1 := by
                                  show p.spots.length = j + 1
                                  rw [HSP.out.1, List.length_append, HPN.out.2.2]; rfl
                                simp only [weight, List.map_cons, List.map_nil, List.sum_cons, List.sum_nil, h3] at h
                                simp only [weight]
                                omega
                              have hlt3 : weight (rs.length + 1) (m * (out.size + 1)) (vs'.map PartV.part) < gg := by
                                have := HL.out.2.2.2.2
                                omega
                              have hgg : gg ≤ g := by
                                rcases HLT.out with h | h
                                · omega
                                · have h1 := HGG.out
                                  have h2 := HG.out
                                  rw [h] at h1
                                  omega
                              have hgk2 : gg + nk2 ≤ W0 := by
                                have := HGG.out
                                omega
                              clear hW1 hgw
                              go_wp2_with fail
                              go_roundg (weight (rs.length + 1) (m * (out.size + 1)) (vs'.map PartV.part))
                              case rel =>
                                refine ⟨A1', c1', vs', nk3, S3, A2', c2', ready3, rfl, HL.out.2.1.bw, HL.out.2.1.bx, fun b hb => (HL.out.2.1.ne b hb).1, ⟨HL.out.2.2.1, HL.out.2.2.2.1, by omega⟩, hnk3, rfl, .inl (by omega), fun N st h => ?_⟩
                                refine HB2.out (N + 1) st ?_
                                unfold innerF
                                simp only [List.map_append, List.map_cons, List.map_nil, List.getLast?_append, List.getLast?_singleton, Option.some_or]
                                rw [if_pos (show p.part.cost = v.cost ∧ p.part.inp.size = v.inp.size from (keyI_eq _ _ _ _).1 HKEY.out)]
                                have he : seekStep (accB ac) rs out ⟨init2.map PartV.part ++ [p.part], S2, ready⟩ (init2.map PartV.part ++ [p.part]).dropLast p.part = ⟨vs'.map PartV.part, S3, ready3⟩ := by
                                  unfold seekStep
                                  simp only [List.dropLast_concat, HT13.out]
                                  rw [HL.out.1, List.take_length, HS3.out.1, HS3.out.2]
                                  rfl
                                rw [he]
                                exact h
                              all_goals (have := HGGK.out; omega)
                  · have d9 : (p.key v == 0) = false := by rw [beq_eq_false_iff_ne]; exact hk
                    as_aux_lemma =>
                      have HKEY := Lib.hid hk
                      clear hk
                      go_wp2_with fail
                      go_meet
                      case rel =>
                        have hne : ¬ (p.cost = v.cost ∧ p.inp.size = v.inp.size) := fun h => HKEY.out ((keyI_eq _ _ _ _).2 h)
                        refine ⟨_, c1, init2 ++ [p], nk2, S2, A2, c2, ready, rfl, HR9.out.1, HR9.out.2, HR.out.2.2.2, hnk2, ?_, HB2.out 1 _ ?_⟩
                        · have h1 := HLT.out
                          have h2 := HGG.out
                          rw [← h2]
                          rcases h1 with h1 | h1
                          · exact h1
                          · exfalso
                            simp only [List.map_append, List.map_cons, List.map_nil] at h1
                            have h3 := (List.append_inj' h1 rfl).2
                            injection h3 with h3
                            injection h3 with h4 h5
                            exact hne ⟨h5, by rw [h4]⟩
                        · unfold innerF
                          simp only [List.map_append, List.map_cons, List.map_nil, List.getLast?_append, List.getLast?_singleton, Option.some_or]
                          exact if_neg hne
          case rest =>
            as_aux_lemma =>
              obtain ⟨A1, c1, vs, nk2, S2, A2, c2, ready, rfl, hB, hX, hI2, hnk2, hlt2, hin⟩ := hcut
              have HR := Lib.hid (And.intro hB (And.intro hX (And.intro hI2 hin)))
              have hwt2 := hI2.wt
              clear hB hX hI2 hin HBX HI HG HXQ
              go_wp2_with fail
              refine (sortS_any (w.heap.size + 1) A2 ready.length c2 ready _ HR.out.1.rd (by omega)).mono ?_
              rintro e w2 ⟨rfl, hm2, ho2⟩
              have hB2 := HR.out.1.sorted hm2 ho2
              have hX2 : Blk w2 X 76 v.cells.toArray := hm2.blkT HR.out.2.1 (notTy_own HR.out.1.rd (by decide))
              have HB2 := Lib.hid (And.intro hB2 hX2)
              obtain ⟨sr, hsr⟩ : ∃ sr, sortedS ready = sr := ⟨_, rfl⟩
              have hsl : sr.length = ready.length := by rw [← hsr]; exact sortedS_len _
              rw [hsr] at HB2
              have HSR := Lib.hid hsr
              obtain ⟨i0, hi0, hz0, hz1, hz2⟩ := info_parts result_info
              have HII := Lib.hid (And.intro hi0 (And.intro hz0 (And.intro hz1 hz2)))
              clear hm2 ho2 hB2 hX2 hsr hi0 hz0 hz1 hz2
              go_wp2_with fail
              go_loopw [10, 170] (fun x z wr => ∃ (i : Nat) (A3 : Option Addr) (c3 : Nat), i ≤ ready.length ∧ z = .int .i64 i ∧ x = .slice A3 (l.length + i) c3 ∧ BW m ac A rs.length c w wr (w.heap.size + 1 + 1 + 1) A1 c1 vs (w.heap.size + 1 + 1 + 1 + 1) nk2 S2 A2 c2 sr A3 c3 (l ++ (sr.take i).map fun s => (s, v.cost)) ∧ Blk wr X 76 v.cells.toArray) (fun _ z _ => ready.length - (intOf z).toNat)
              case atStart => exact ⟨0, A3, c3, Nat.zero_le _, rfl, rfl, by simpa using HB2.out.1, HB2.out.2⟩
              case round =>
                clear HB2 w2
                obtain ⟨i, A4, c4, hi, rfl, rfl, hB, hX⟩ := hrel
                obtain ⟨x0, x1, x2, hlX⟩ := hX.partIs
                have HB := Lib.hid (And.intro hB hX)
                have hll : (l ++ (sr.take i).map fun s => (s, v.cost)).length = l.length + i := by simp; omega
                have HLL := Lib.hid hll
                clear hll
                by_cases hil : i < ready.length
                · obtain ⟨s, hsi⟩ : ∃ s, sr[i]? = some s := ⟨_, List.getElem?_eq_getElem (by omega)⟩
                  have hrd := Reads.of_own hB.rd
                  obtain ⟨br, or, rfl⟩ := Reads.some_ hrd (by simp; omega)
                  obtain ⟨_, hbr, yc⟩ := SlAt.got (f := Value.string) hrd hsi
                  have hi1 : (i : Int) < (ready.length : Int) := by omega
                  have hi2 : (0 : Int) ≤ (i : Int) := by omega
                  have htk : (sr.take (i + 1)).map (fun s => (s, v.cost)) = (sr.take i).map (fun s => (s, v.cost)) ++ [(s, v.cost)] := by
                    rw [List.take_add_one, hsi]; simp
                  have HTK := Lib.hid htk
                  have hls := HB.out.1.ls
                  rw [HLL.out] at hls
                  have HLS := Lib.hid hls
                  have hbs := HB.out.1.lt
                  clear hB hX hsi hrd htk hls
                  go_wp2_with (at_builtin; refine wpList_append_acc _ (by rfl) _ _ 34 (by rfl) (w.heap.size + 1) 46 i0 _ 2 24 Try.underlying34 HII.out.1 HII.out.2.1 HII.out.2.2.1 HII.out.2.2.2 (by rfl) (by decide) A4 (l.length + i) c4 _ (by rfl) (by exact .inl (HLS.out.alloc _)) wr.heap.size 46 (0, 0) 1 1 #[.string s, .int .i64 v.cost] (by rfl) (by rfl) (by exact heap_alloc_new _ _) (by simp [Value.oneCell']) (by omega) (by unfold maxLen; omega) (by omega) (by simp; omega) ?_; intro g5 cap5 w5 row5 hown5 hgr5 hrow5 hat5 hlt5)
                  go_roundw
                  case rel =>
                    have hB5 := (HB.out.1.next (below_one wr (.cells #[.string s, .int .i64 v.cost] 46))).res1 (r := (s, v.cost)) hgr5 hrow5 (by rw [HLL.out]; exact hown5)
                    have hX5 : Blk w5 X 76 v.cells.toArray := (HB.out.2.alloc _).rowOk hgr5 hrow5 (by decide)
                    exact ⟨i + 1, some ⟨g5, 0, none⟩, cap5, by omega, by go_num, rfl, by rw [HTK.out, ← List.append_assoc]; exact hB5, hX5⟩
                  case measure => simp [intOf]; omega
                · obtain rfl : i = ready.length := by omega
                  have hsrt : sr.take ready.length = sr := List.take_of_length_le (by omega)
                  rw [hsrt] at HB HLL
                  clear hB hX
                  go_wp2_with fail
                  go_roundg (weight (rs.length + 1) (m * (out.size + 1)) (vs.map PartV.part))
                  case rel =>
                    obtain ⟨M, hM⟩ := HR.out.2.2.2
                    refine ⟨A1, c1, vs, nk2, S2, A4, c4, l ++ sr.map (fun s => (s, v.cost)), by rw [HLL.out], HB.out.1.fresh, HR.out.2.2.1, by rw [HLL.out]; exact hnk2, rfl, fun N r h => ?_⟩
                    obtain ⟨M2, hM2⟩ : ∃ M2, outerF (accB ac) rs out sortedS M2 k ((init ++ [v]).map PartV.part) S l = some r := by
                      refine ⟨max M N + 1, ?_⟩
                      unfold outerF
                      simp only [List.map_append, List.map_cons, List.map_nil, List.getLast?_append, List.getLast?_singleton, Option.some_or, if_pos hlk]
                      have h1 := innerF_mono (accB ac) rs out hM (Nat.le_max_left M N)
                      simp only [List.map_append, List.map_cons, List.map_nil] at h1
                      have h2 : v.part.cost = v.cost ∧ v.part.inp = v.inp := ⟨rfl, rfl⟩
                      rw [h2.1, h2.2, h1]
                      simp only
                      rw [HSR.out]
                      exact outerF_mono (accB ac) rs out sortedS h (Nat.le_max_right M N)
                    exact HBACK.out M2 r hM2
                  all_goals (have := HGK.out; omega)
        · go_wp2_with fail
          go_meet
          case rel => exact ⟨A3, c3, l, rfl, HB.out.bel, HB.out.ls, by omega, HBACK.out 1 l (by simp [outerF, hlk])⟩
  case rest =>
    as_aux_lemma =>
      obtain ⟨A3, c3, l, rfl, hbel, hls, hlW, hfin⟩ := hcut
      have HF2 := Lib.hid (And.intro hbel (And.intro hls hfin))
      have hl3 : l.length ≤ c3 := Acc.le_ (.inl hls)
      clear hbel hls hfin
      by_cases hl : l.length = 0
      · have d3 : ((l.length : Int) == 0) = true := by rw [hl]; rfl
        obtain rfl : l = [] := List.eq_nil_of_length_eq_zero hl
        clear hl
        go_wp2_with fail
        refine bodyPost_ret (v := .tuple #[.slice none 0 0, .int .i64 50]) (by simp [results, Try.results12, go_sem]) rfl ?_
        obtain ⟨h1, h2, M, h3⟩ := HF2.out
        exact ⟨h1, M, [], h3, .inl ⟨rfl, rfl⟩⟩
      · have d3 : ((l.length : Int) == 0) = false := by rw [beq_eq_false_iff_ne]; omega
        have hfin : ∀ (j : Nat) (w' : World), j = min k l.length → w' = wc → Below w.heap.size w w' ∧ ∃ N l, outerF (accB ac) rs out sortedS N k [startP] [] [] = some l ∧ ((l = [] ∧ Ending.returned (.tuple #[.slice A3 j c3, .int .i64 0]) = .returned (.tuple #[.slice none 0 0, .int .i64 50])) ∨ (l ≠ [] ∧ ∃ A c, Ending.returned (.tuple #[.slice A3 j c3, .int .i64 0]) = .returned (.tuple #[.slice A (min k l.length) c, .int .i64 0]) ∧ min k l.length ≤ c ∧ Reads (w.heap.size ≤ ·) w' A ((l.take k).flatMap resCells))) := by
          rintro j w' rfl rfl
          obtain ⟨h1, h2, M, h3⟩ := HF2.out
          refine ⟨h1, M, l, h3, .inr ⟨fun h => hl (by rw [h]; rfl), A3, c3, rfl, by omega, ?_⟩⟩
          have hr := (Reads.of_own h2).take_ (k * 2)
          have he : (l.flatMap resCells).take (k * 2) = (l.take k).flatMap resCells := by
            have : ∀ (l : List (ByteArray × Nat)) (k : Nat), (l.flatMap resCells).take (k * 2) = (l.take k).flatMap resCells := by
              intro l
              induction l with
              | nil => intro k; simp
              | cons x l ih =>
                intro k
                cases k with
                | zero => simp
                | succ k =>
                  simp only [List.flatMap_cons, List.take_succ_cons]
                  rw [List.take_append, List.take_of_length_le (by simp [resCells]; omega), show (k + 1) * 2 - (resCells x).length = k * 2 from by simp [resCells]; omega, ih]
            exact this l k
          rw [he] at hr
          exact hr.mono fun b hb => by omega
        have HFIN := Lib.hid hfin
        clear hfin
        have q0 : (0 : Int) ≤ min (k : Int) (l.length : Int) := by omega
        have q1 : min (k : Int) (l.length : Int) ≤ (c3 : Int) := by omega
        have q2 : (min (k : Int) (l.length : Int)).toNat ≤ c3 := by omega
        clear hl
        go_wp2_with fail
        refine bodyPost_ret (v := .tuple #[.slice A3 (min (k : Int) (l.length : Int)).toNat c3, .int .i64 0]) (by simp [results, Try.results12, go_sem]) rfl ?_
        exact HFIN.out _ _ (by omega) rfl
end Go.Proofs.Ythcnnadggffjhaa
