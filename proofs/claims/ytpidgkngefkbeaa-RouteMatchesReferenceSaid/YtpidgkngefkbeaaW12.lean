/- The walk of the reference's Before. -/
import Derived.Test.YtpidgkngefkbeaaE2
import Derived.Test.YtpidgkngefkbeaaLA
set_option linter.unusedVariables false
set_option linter.unusedSimpArgs false
namespace Go.Proofs.Ytpidgkngefkbeaa
open Go.RowKit

theorem lexB_drop {l m : List Nat} {k a b : Nat} (h : lexB l m = lexB (l.drop k) (m.drop k)) (ha : l[k]? = some a) (hb : m[k]? = some b) : lexB l m = if a = b then lexB (l.drop (k + 1)) (m.drop (k + 1)) else decide (a < b) := by
  obtain ⟨h1, rfl⟩ := List.getElem?_eq_some_iff.1 ha
  obtain ⟨h2, rfl⟩ := List.getElem?_eq_some_iff.1 hb
  rw [h, List.drop_eq_getElem_cons h1, List.drop_eq_getElem_cons h2]
  show (decide (l[k] < m[k]) || (decide (l[k] = m[k]) && lexB _ _)) = _
  by_cases hh : l[k] = m[k] <;> simp [hh]
set_option maxHeartbeats 1000000 in
theorem before3_any (F G : Nat → Prop) (A B : Option Addr) (c d : Nat) (x y : Bool) (e f : EndR) (w : World) (hA : SlAt vN F w A e.l) (hB : SlAt vN G w B f.l) (hl : e.l.length < 1000000) :
    Calls Try.prog 27 #[.agg #[.slice A e.l.length c, .int .i64 e.cost, .bool x], .agg #[.slice B f.l.length d, .int .i64 f.cost, .bool y]] w fun z w' => z = .returned (.bool (e.before f)) ∧ Below w.heap.size w w' := by
  obtain ⟨l, cost⟩ := e
  obtain ⟨l', cost'⟩ := f
  simp only at hA hB hl ⊢
  have hb2 : ∀ (C1 C2 : Array Value) (T1 T2 : TypeId), Below w.heap.size w ((w.alloc (.cells C1 T1)).alloc (.cells C2 T2)) := fun C1 C2 T1 T2 => ((Below.refl _ _).alloc (Nat.le_refl _) _).alloc (by simp) _
  by_cases h1 : cost = cost'
  · have d1 : ((cost : Int) != (cost' : Int)) = false := by simp [h1]
    have d1' : ((cost : Int) == (cost' : Int)) = true := by simp [h1]
    by_cases h2 : l.length = l'.length
    · have d2 : ((l.length : Int) != (l'.length : Int)) = false := by simp [h2]
      have d2' : ((l.length : Int) == (l'.length : Int)) = true := by simp [h2]
      have e1 : EndR.before ⟨l, cost⟩ ⟨l', cost'⟩ = lexB l l' := by simp [EndR.before, h1, h2]
      rw [e1]
      have h3 : l.length ≤ l'.length := by omega
      clear h1 h2 e1
      go_enter Try.func27, Try.ntmps27
      go_upto_region 5 with (fail)
      refine world_gen (fun W => Below w.heap.size w W ∧ Blk W w.heap.size 57 #[.slice A l.length c, .int .i64 cost, .bool x] ∧ Blk W (w.heap.size + 1) 57 #[.slice B l'.length d, .int .i64 cost', .bool y])
        ⟨hb2 _ _ _ _, (Blk.new _ _ _).alloc _, Blk.new2 _ _ _ _⟩ ?_
      rintro W ⟨hbel, b0, b1⟩
      go_wp2_with fail
      go_loopw [5] (fun z wr => ∃ k : Nat, k ≤ l.length ∧ z = .int .i64 k ∧ lexB l l' = lexB (l.drop k) (l'.drop k) ∧ Below w.heap.size w wr ∧ Blk wr w.heap.size 57 #[.slice A l.length c, .int .i64 cost, .bool x] ∧ Blk wr (w.heap.size + 1) 57 #[.slice B l'.length d, .int .i64 cost', .bool y]) (fun z _ => l.length - (intOf z).toNat)
      case atStart => exact ⟨0, Nat.zero_le _, rfl, rfl, hbel, b0, b1⟩
      case round =>
        clear hbel b0 b1 W
        obtain ⟨k, hk, rfl, hd, hbel, b0, b1⟩ := hrel
        have x0 : wr.cell? ⟨w.heap.size, 0, none⟩ = some (.slice A l.length c) := b0.cell 0
        have x1 : wr.cell? ⟨w.heap.size + 1, 0, none⟩ = some (.slice B l'.length d) := b1.cell 0
        have hlt1 := b1.lt
        have HD := Lib.hid hd
        have B0 := Lib.hid b0
        have B1 := Lib.hid b1
        clear hd b0 b1
        by_cases hkl : k < l.length
        · obtain ⟨a, ha⟩ : ∃ a, l[k]? = some a := ⟨_, List.getElem?_eq_getElem hkl⟩
          obtain ⟨b, hb⟩ : ∃ b, l'[k]? = some b := ⟨_, List.getElem?_eq_getElem (by omega)⟩
          obtain ⟨ba, oa, rfl⟩ := Reads.some_ hA (by simp; omega)
          obtain ⟨bb, ob, rfl⟩ := Reads.some_ hB (by simp; omega)
          obtain ⟨_, hba, hac⟩ := SlAt.got (f := vN) (Reads.below hA hbel) ha
          obtain ⟨_, hbb, hbc⟩ := SlAt.got (f := vN) (Reads.below hB hbel) hb
          have hac' : wr.cell? ⟨ba, oa + k, none⟩ = some (.int .i64 (a : Int)) := hac
          have hbc' : wr.cell? ⟨bb, ob + k, none⟩ = some (.int .i64 (b : Int)) := hbc
          have HS := Lib.hid (lexB_drop HD.out ha hb)
          have hk0 : (0 : Int) ≤ (k : Int) := by omega
          have hk1 : (k : Int) < (l.length : Int) := by omega
          have hk2 : (k : Int) < (l'.length : Int) := by omega
          clear ha hb hac hbc
          by_cases hab : a = b
          · have q1 : ((a : Int) != (b : Int)) = false := by simp [hab]
            have q2 : ((a : Int) == (b : Int)) = true := by simp [hab]
            have HS2 := Lib.hid (HS.out.trans (if_pos hab))
            clear hab
            go_wp2_with fail
            go_quiet (fail)
            go_wp2_with fail
            go_roundw
            case rel => exact ⟨k + 1, by omega, by go_num, HS2.out, below_drewN hbel _, B0.out.drewN _, B1.out.drewN _⟩
            case measure => simp [intOf]; omega
          · have q1 : ((a : Int) != (b : Int)) = true := by simp; omega
            have q2 : ((a : Int) == (b : Int)) = false := by simp; omega
            have HS2 := Lib.hid (HS.out.trans (if_neg hab))
            clear hab
            go_wp2_with fail
            go_quiet (fail)
            go_wp2_with fail
            go_quiet (fail)
            go_wp2_with fail
            go_ret
            exact ⟨ret_b (by rw [HS2.out]), below_drewN (below_drewN hbel _) _⟩
        · have HS2 : Hid (lexB l l' = false) := by
            have : lexB l l' = false := by rw [HD.out, List.drop_eq_nil_of_le (by omega)]; rfl
            exact Lib.hid this
          go_wp2_with fail
          go_ret
          exact ⟨ret_b (by rw [HS2.out]), hbel⟩
    · have d2 : ((l.length : Int) != (l'.length : Int)) = true := by simp; omega
      have d2' : ((l.length : Int) == (l'.length : Int)) = false := by simp; omega
      have e1 : EndR.before ⟨l, cost⟩ ⟨l', cost'⟩ = decide (l.length < l'.length) := by simp [EndR.before, h1, h2]
      rw [e1]
      clear h1 h2 e1
      go_enter Try.func27, Try.ntmps27
      go_wp2
      go_ret
      exact ⟨ret_b (by simp), hb2 _ _ _ _⟩
  · have d1 : ((cost : Int) != (cost' : Int)) = true := by simp; omega
    have d1' : ((cost : Int) == (cost' : Int)) = false := by simp; omega
    have e1 : EndR.before ⟨l, cost⟩ ⟨l', cost'⟩ = decide (cost < cost') := by simp [EndR.before, h1]
    rw [e1]
    clear h1 e1
    go_enter Try.func27, Try.ntmps27
    go_wp2
    go_ret
    exact ⟨ret_b (by simp), hb2 _ _ _ _⟩
end Go.Proofs.Ytpidgkngefkbeaa
