/- The walks of slices.Compare at lists of any lengths, cmp.Or of three, way.before. -/
import Derived.Test.YthcnnadggffjhaaI2
set_option linter.unusedVariables false
set_option linter.unusedSimpArgs false
namespace Go.Proofs.Ythcnnadggffjhaa
open Go.RowKit

def cmpG : List Nat → List Nat → Int
  | [], [] => 0
  | [], _ :: _ => -1
  | _ :: _, [] => 1
  | a :: l, b :: m => if cmpI a b = 0 then cmpG l m else cmpI a b
theorem cmpG_drop {l m : List Nat} {k : Nat} (h : cmpG l m = cmpG (l.drop k) (m.drop k)) (h1 : k < l.length) (h2 : k < m.length) : cmpG l m = if cmpI l[k] m[k] = 0 then cmpG (l.drop (k + 1)) (m.drop (k + 1)) else cmpI l[k] m[k] := by
  rw [h, List.drop_eq_getElem_cons h1, List.drop_eq_getElem_cons h2]; rfl
theorem cmpG_lex : ∀ {l m : List Nat}, l.length = m.length → (cmpG l m < 0 ↔ lexB l m = true)
  | [], [], _ => by simp [cmpG, lexB]
  | a :: l, b :: m, h => by
    have h' : l.length = m.length := by simpa using h
    simp only [cmpG, lexB]
    by_cases h1 : a < b
    · have e : cmpI a b = -1 := by simp [cmpI, h1]
      simp [e, h1]
    · by_cases h2 : b < a
      · have e : cmpI a b = 1 := by simp [cmpI, h1, h2]
        have h3 : ¬ a = b := by omega
        simp [e, h1, h3]
      · have e : cmpI a b = 0 := by simp [cmpI, h1, h2]
        have h3 : a = b := by omega
        rw [if_pos e, cmpG_lex h']
        simp [h3]
set_option maxHeartbeats 1000000 in
set_option maxRecDepth 100000 in
theorem compareG_any (F G : Nat → Prop) (A B : Option Addr) (c d : Nat) (l m : List Nat) (w : World) (hA : SlAt vN F w A l) (hB : SlAt vN G w B m) (hl : l.length < 1000000) (hm : m.length < 1000000) :
    Calls Try.prog 86 #[.slice A l.length c, .slice B m.length d] w fun e w' => e = .returned (.int .i64 (cmpG l m)) ∧ w' = w := by
  go_enter Try.func86, Try.ntmps86
  go_wp2_with fail
  go_loopw [11] (fun x wr => ∃ k : Nat, k ≤ l.length ∧ k ≤ m.length ∧ x = .int .i64 k ∧ cmpG l m = cmpG (l.drop k) (m.drop k) ∧ wr = w) (fun x _ => l.length - (intOf x).toNat)
  case atStart => exact ⟨0, Nat.zero_le _, Nat.zero_le _, rfl, rfl, rfl⟩
  case round =>
    obtain ⟨k, hk, hkm0, rfl, heq, rfl⟩ := hrel
    by_cases hkl : k < l.length
    · by_cases hkm : k < m.length
      · obtain ⟨b1, o1, rfl, hF1, hl1, e1⟩ := hA.at_ hkl
        obtain ⟨b2, o2, rfl, hF2, hl2, e2⟩ := hB.at_ hkm
        have hstep := cmpG_drop heq hkl hkm
        obtain ⟨x, hx⟩ : ∃ x, x = l[k] := ⟨_, rfl⟩
        obtain ⟨y, hy⟩ : ∃ y, y = m[k] := ⟨_, rfl⟩
        rw [← hx, ← hy] at hstep
        rw [← hx] at e1
        rw [← hy] at e2
        have f1 : wr.cell? ⟨b1, o1 + k, none⟩ = some (.int .i64 x) := e1
        have f2 : wr.cell? ⟨b2, o2 + k, none⟩ = some (.int .i64 y) := e2
        have hkm' : (k : Int) < (m.length : Int) := by omega
        have HS := Lib.hid hstep
        clear e1 e2 hx hy hstep heq
        by_cases hc : cmpI x y = 0
        · have hd : (cmpI x y != 0) = false := by simp [hc]
          have HN : Hid (cmpG l m = cmpG (l.drop (k + 1)) (m.drop (k + 1))) := by have h := HS.out; rw [if_pos hc] at h; exact h
          clear hc
          go_wp2_with (go_at_call 50; refine (cmp_any x y _).mono ?_; rintro e w2 ⟨rfl, rfl⟩)
          go_roundw
          case rel => exact ⟨k + 1, by omega, by omega, by go_num, HN.out, trivial⟩
          case measure => simp [intOf]; omega
        · have hd : (cmpI x y != 0) = true := by simp [hc]
          have HN : Hid (cmpG l m = cmpI x y) := by have h := HS.out; rw [if_neg hc] at h; exact h
          clear hc
          go_wp2_with (go_at_call 50; refine (cmp_any x y _).mono ?_; rintro e w2 ⟨rfl, rfl⟩)
          go_ret
          exact ⟨by rw [HN.out]; rfl, rfl⟩
      · have HN : Hid (cmpG l m = 1) := by
          have h : cmpG l m = 1 := by
            rw [heq, List.drop_eq_getElem_cons hkl, show m.drop k = [] from List.drop_eq_nil_of_le (by omega)]; rfl
          exact Lib.hid h
        obtain ⟨b1, o1, rfl, hF1, hl1, e1⟩ := hA.at_ hkl
        obtain ⟨x, hx⟩ : ∃ x, x = l[k] := ⟨_, rfl⟩
        rw [← hx] at e1
        have f1 : wr.cell? ⟨b1, o1 + k, none⟩ = some (.int .i64 x) := e1
        clear e1 hx
        have hge : (m.length : Int) ≤ (k : Int) := by omega
        have hge2 : m.length ≤ k := by omega
        have hge3 : decide (m.length ≤ k) = true := decide_eq_true hge2
        have hkl2 : (k : Int) < (l.length : Int) := by omega
        clear heq
        go_wp2
        go_ret
        exact ⟨by rw [HN.out]; rfl, rfl⟩
    · obtain rfl : k = l.length := by omega
      by_cases hlm : l.length < m.length
      · have HN : Hid (cmpG l m = -1) := by
          have h : cmpG l m = -1 := by
            rw [heq, List.drop_length, List.drop_eq_getElem_cons hlm]; rfl
          exact Lib.hid h
        have hlm2 : (l.length : Int) < (m.length : Int) := by omega
        clear heq
        go_wp2
        go_ret
        exact ⟨by rw [HN.out]; rfl, rfl⟩
      · have HN : Hid (cmpG l m = 0) := by
          have h : cmpG l m = 0 := by
            rw [heq, List.drop_length, show m.drop l.length = [] from List.drop_eq_nil_of_le (by omega)]; rfl
          exact Lib.hid h
        have hlm2 : ¬ (l.length : Int) < (m.length : Int) := by omega
        clear heq
        go_wp2
        go_ret
        exact ⟨by rw [HN.out]; rfl, rfl⟩
set_option maxHeartbeats 1000000 in
set_option maxRecDepth 100000 in
theorem or3_any (b : Nat) (x y z : Int) (w : World) (hb : Blk w b 3 #[.int .i64 x, .int .i64 y, .int .i64 z]) :
    Calls Try.prog 49 #[.slice (some ⟨b, 0, none⟩) 3 3] w fun e w' => e = .returned (.int .i64 (orI x (orI y z))) ∧ w' = w := by
  have x0 : w.cell? ⟨b, 0, none⟩ = some (.int .i64 x) := hb.cell 0
  have x1 : w.cell? ⟨b, 1, none⟩ = some (.int .i64 y) := hb.cell 1
  have x2 : w.cell? ⟨b, 2, none⟩ = some (.int .i64 z) := hb.cell 2
  obtain ⟨o, ho⟩ : ∃ o, orI x (orI y z) = o := ⟨_, rfl⟩
  rw [ho]
  have HO := Lib.hid ho
  clear hb ho
  go_enter Try.func49, Try.ntmps49
  go_wp2
  go_loop [8] (fun q => q = .int .i64 0 ∨ (q = .int .i64 1 ∧ x = 0) ∨ (q = .int .i64 2 ∧ x = 0 ∧ y = 0) ∨ (q = .int .i64 3 ∧ x = 0 ∧ y = 0 ∧ z = 0)) (fun q => 3 - (intOf q).toNat)
  case atStart => exact .inl rfl
  case round =>
    rcases hrel with rfl | ⟨rfl, hx⟩ | ⟨rfl, hx, hy⟩ | ⟨rfl, hx, hy, hz⟩
    · by_cases hx : x = 0
      · have d1 : (x != 0) = false := by simp [hx]
        have HX := Lib.hid hx
        clear hx
        go_wp2
        go_round
        case rel => exact .inr (.inl ⟨rfl, HX.out⟩)
        case measure => simp [intOf]
      · have d1 : (x != 0) = true := by simp [hx]
        have HX : Hid (x = o) := Lib.hid (by rw [← HO.out]; simp [orI, hx])
        clear hx
        go_wp2
        go_ret
        exact ⟨by rw [← HX.out]; rfl, rfl⟩
    · have HX := Lib.hid hx
      clear hx
      by_cases hy : y = 0
      · have d1 : (y != 0) = false := by simp [hy]
        have HY := Lib.hid hy
        clear hy
        go_wp2
        go_round
        case rel => exact .inr (.inr (.inl ⟨rfl, HX.out, HY.out⟩))
        case measure => simp [intOf]
      · have d1 : (y != 0) = true := by simp [hy]
        have HY : Hid (y = o) := Lib.hid (by rw [← HO.out, HX.out]; simp [orI, hy])
        clear hy
        go_wp2
        go_ret
        exact ⟨by rw [← HY.out]; rfl, rfl⟩
    · have HX := Lib.hid (And.intro hx hy)
      clear hx hy
      by_cases hz : z = 0
      · have d1 : (z != 0) = false := by simp [hz]
        have HZ := Lib.hid hz
        clear hz
        go_wp2
        go_round
        case rel => exact .inr (.inr (.inr ⟨rfl, HX.out.1, HX.out.2, HZ.out⟩))
        case measure => simp [intOf]
      · have d1 : (z != 0) = true := by simp [hz]
        have HZ : Hid (z = o) := Lib.hid (by rw [← HO.out, HX.out.1, HX.out.2]; simp [orI])
        clear hz
        go_wp2
        go_ret
        exact ⟨by rw [← HZ.out]; rfl, rfl⟩
    · have HX : Hid (0 = o) := Lib.hid (by rw [← HO.out, hx, hy, hz]; rfl)
      clear hx hy hz
      go_wp2
      go_ret
      exact ⟨by rw [← HX.out]; rfl, rfl⟩
theorem or_before (e f : EndR) : decide (orI (cmpI e.cost f.cost) (orI (cmpI e.l.length f.l.length) (cmpG e.l f.l)) < 0) = e.before f := by
  unfold EndR.before
  by_cases h1 : e.cost = f.cost
  · have c1 : cmpI e.cost f.cost = 0 := by simp [cmpI, h1]
    rw [if_neg (by simpa using h1), c1]
    by_cases h2 : e.l.length = f.l.length
    · have c2 : cmpI e.l.length f.l.length = 0 := by simp [cmpI, h2]
      rw [if_neg (by simpa using h2), c2]
      rw [Bool.eq_iff_iff, decide_eq_true_eq, ← cmpG_lex h2]
      simp [orI]
    · rw [if_pos h2]
      rw [decide_eq_decide]
      unfold orI cmpI
      simp only [if_true]
      repeat' split
      all_goals omega
  · rw [if_pos h1]
    rw [decide_eq_decide]
    generalize orI (cmpI e.l.length f.l.length) (cmpG e.l f.l) = z
    unfold orI cmpI
    repeat' split
    all_goals omega
set_option maxHeartbeats 2000000 in
set_option maxRecDepth 100000 in
theorem wayBefore_any (F G : Nat → Prop) (A B : Option Addr) (c d : Nat) (x y : Bool) (e f : EndR) (w : World) (hA : SlAt vN F w A e.l) (hB : SlAt vN G w B f.l) (hl : e.l.length < 1000000) (hm : f.l.length < 1000000) :
    Calls Try.prog 63 #[.agg #[.slice A e.l.length c, .int .i64 e.cost, .bool x], .agg #[.slice B f.l.length d, .int .i64 f.cost, .bool y]] w fun z w' => z = .returned (.bool (if x = y then e.before f else x)) ∧ Below w.heap.size w w' := by
  have hor := or_before e f
  obtain ⟨l, cost⟩ := e
  obtain ⟨l', cost'⟩ := f
  simp only at hA hB hl hm ⊢
  have HOR := Lib.hid hor
  clear hor
  go_enter Try.func63, Try.ntmps63
  go_upto_region 1 with (fail)
  refine world_gen (fun W => Below w.heap.size w W ∧ Blk W w.heap.size 95 #[.slice A l.length c, .int .i64 cost, .bool x] ∧ Blk W (w.heap.size + 1) 95 #[.slice B l'.length d, .int .i64 cost', .bool y])
    ⟨((Below.refl _ _).alloc (Nat.le_refl _) _).alloc (by simp) _, (Blk.new _ _ _).alloc _, Blk.new2 _ _ _ _⟩ ?_
  rintro W ⟨hbel, b0, b1⟩
  have x0 : W.cell? ⟨w.heap.size, 0, none⟩ = some (.slice A l.length c) := b0.cell 0
  have x1 : W.cell? ⟨w.heap.size, 1, none⟩ = some (.int .i64 cost) := b0.cell 1
  have x2 : W.cell? ⟨w.heap.size, 2, none⟩ = some (.bool x) := b0.cell 2
  have y0 : W.cell? ⟨w.heap.size + 1, 0, none⟩ = some (.slice B l'.length d) := b1.cell 0
  have y1 : W.cell? ⟨w.heap.size + 1, 1, none⟩ = some (.int .i64 cost') := b1.cell 1
  have y2 : W.cell? ⟨w.heap.size + 1, 2, none⟩ = some (.bool y) := b1.cell 2
  have hl0 := b0.lt
  have hl1 := b1.lt
  have hA2 := Lib.hid (Reads.below hA hbel)
  have hB2 := Lib.hid (Reads.below hB hbel)
  have HB := Lib.hid hbel
  clear hbel b0 b1
  by_cases hxy : x = y
  · subst hxy
    cases x
    all_goals
      go_upto_region 3 with (fail)
      go_region_held3 (fun w' => w'.cell? ⟨w.heap.size, 0, none⟩ = some (.slice A l.length c) ∧ w'.cell? ⟨w.heap.size, 1, none⟩ = some (.int .i64 cost) ∧ w'.cell? ⟨w.heap.size + 1, 0, none⟩ = some (.slice B l'.length d) ∧ w'.cell? ⟨w.heap.size + 1, 1, none⟩ = some (.int .i64 cost'))
        (first | exact ⟨x0, x1, y0, y1⟩ | go_keep)
        (first
          | (go_at_call 50; (with_reducible refine (cmp_any cost cost' _).mono ?_); rintro e w2 ⟨rfl, rfl⟩)
          | (go_at_call 50; (with_reducible refine (cmp_any l.length l'.length _).mono ?_); rintro e w2 ⟨rfl, rfl⟩)
          | (go_at_call 86; refine (compareG_any _ _ A B c d l l' _ (by exact hA2.out) (by exact hB2.out) hl hm).mono ?_; rintro e w2 ⟨rfl, rfl⟩)
          | (go_at_call 49; refine (or3_any W.heap.size _ _ _ _ (by first | exact Blk.new _ _ _ | exact (Blk.new _ _ _).alloc _)).mono ?_; rintro e w3 ⟨rfl, rfl⟩))
      all_goals go_wp2
      all_goals go_ret
      all_goals exact ⟨ret_b HOR.out, by first | exact (below_drewN HB.out _).alloc HB.out.size _ | exact HB.out.drew.alloc HB.out.size _ | exact (HB.out.alloc HB.out.size _).drew⟩
  · cases x <;> cases y
    all_goals first | exact absurd rfl hxy | skip
    all_goals clear hxy
    all_goals
      go_wp2
      go_ret
      exact ⟨by rfl, HB.out⟩
end Go.Proofs.Ythcnnadggffjhaa
