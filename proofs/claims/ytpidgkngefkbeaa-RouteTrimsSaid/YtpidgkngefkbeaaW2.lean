/- The walks of the reference of layer 2 over schemes: Right, Check, Valid. -/
import Derived.Test.YtpidgkngefkbeaaW1
import Derived.Test.YtpidgkngefkbeaaL0
set_option linter.unusedVariables false
set_option linter.unusedSimpArgs false
namespace Go.Proofs.Ytpidgkngefkbeaa
open Go.RowKit

theorem bytes_beq (a b : ByteArray) : (a.toList == b.toList) = decide (a = b) := by
  rw [Bool.eq_iff_iff]
  simp only [beq_iff_eq, decide_eq_true_eq]
  constructor
  · intro he
    rw [ByteArray.toList_eq, ByteArray.toList_eq] at he
    exact ByteArray.ext (Array.toList_inj.1 he)
  · intro h; rw [h]

theorem bytes_iff (a b : ByteArray) : a.toList = b.toList ↔ a = b := by
  have h := bytes_beq a b
  rw [Bool.eq_iff_iff] at h
  simpa using h

theorem rule_eq_parts (r s : Rule) : decide (r = s) = (decide (r.frm = s.frm) && (decide (r.dst = s.dst) && (decide (r.inp = s.inp) && (decide (r.out = s.out) && decide (r.cost = s.cost))))) := by
  obtain ⟨a, b, c, d, e⟩ := r
  obtain ⟨a', b', c', d', e'⟩ := s
  simp only [Rule.mk.injEq, Bool.decide_and]

theorem natcast_beq (a b : Nat) : ((a : Int) == (b : Int)) = decide (a = b) := by
  rw [Bool.eq_iff_iff]; simp; omega

theorem rule_equalIn (r s : Rule) (w : World) :
    (Op.equalIn 10000 53 (.agg #[.int .i64 r.frm, .int .i64 r.dst, .string r.inp, .string r.out, .int .i64 r.cost]) (.agg #[.int .i64 s.frm, .int .i64 s.dst, .string s.inp, .string s.out, .int .i64 s.cost])).run Try.prog w = .ok (decide (r = s)) w := by
  have u3 := Try.underlying3
  have a3 := Try.isAgg3
  have z3 := Try.sizeOf3
  have u9 := Try.underlying9
  have a9 := Try.isAgg9
  have z9 := Try.sizeOf9
  rw [show (10000 : Nat) = 9999 + 1 from rfl, run_equalIn_agg w 9999 53 _ _ (by kernel_rfl) (by kernel_rfl)]
  simp only [Program.fieldsOf, Try.underlying53]
  go_simp
  simp only [bytes_beq, natcast_beq, rule_eq_parts]
  have h3' := bytes_iff r.inp s.inp
  have h4' := bytes_iff r.out s.out
  by_cases h1 : r.frm = s.frm <;> by_cases h2 : r.dst = s.dst <;> by_cases h3 : r.inp = s.inp <;> by_cases h4 : r.out = s.out <;> by_cases h5 : r.cost = s.cost <;> simp [h1, h2, h3, h4, h5, h3', h4', Int.natCast_inj]

@[go_sem high] theorem rule_eql (r s : Rule) (w : World) :
    (binOp .eql 53 (.agg #[.int .i64 r.frm, .int .i64 r.dst, .string r.inp, .string r.out, .int .i64 r.cost]) (.agg #[.int .i64 s.frm, .int .i64 s.dst, .string s.inp, .string s.out, .int .i64 s.cost])).run Try.prog w = .ok (.bool (decide (r = s))) w := by
  rw [run_eql_struct, rule_equalIn, Result.andThen_ok]
@[go_sem high] theorem rule_neq (r s : Rule) (w : World) :
    (binOp .neq 53 (.agg #[.int .i64 r.frm, .int .i64 r.dst, .string r.inp, .string r.out, .int .i64 r.cost]) (.agg #[.int .i64 s.frm, .int .i64 s.dst, .string s.inp, .string s.out, .int .i64 s.cost])).run Try.prog w = .ok (.bool (!decide (r = s))) w := by
  rw [run_neq_struct, rule_equalIn, Result.andThen_ok]
@[go_sem] theorem rule_eqGuard : Try.prog.eqGuardType Try.prog.depth 53 = false := by kernel_rfl

theorem rules_take_succ (p : Rule → Bool) (rs : List Rule) (k : Nat) (h : k < rs.length) : (rs.take (k + 1)).all p = ((rs.take k).all p && p rs[k]) := by
  rw [List.take_succ_eq_append_getElem h, List.all_append]
  simp
theorem rules_all_false (p : Rule → Bool) (rs : List Rule) (i k : Nat) (hk : k < i) (h : k < rs.length) (hp : p rs[k] = false) : (rs.take i).all p = false := by
  rw [List.all_eq_false]
  exact ⟨rs[k], by rw [List.mem_take_iff_getElem]; exact ⟨k, by omega, rfl⟩, by simp [hp]⟩

theorem fit_eq (m : Nat) (r : Rule) : r.fit m = (inB r.frm 0 ((m : Int) - 1) && (inB r.dst 0 ((m : Int) - 1) && (decide ((r.inp.size : Int) ≤ 4) && (small r.inp && (decide ((r.out.size : Int) ≤ 4) && (plain r.out && inB r.cost 0 1000)))))) := by
  unfold Rule.fit
  rw [inB_nat, inB_nat, inB_top]
  have e (n : Nat) : decide ((n : Int) ≤ 4) = decide (n ≤ 4) := by rw [Bool.eq_iff_iff]; simp; omega
  rw [e, e]

set_option maxHeartbeats 2000000 in
theorem right_any (F : Nat → Prop) (m ac : Nat) (A : Option Addr) (c : Nat) (rs : List Rule) (i : Nat) (w : World) (hA : RulesAt F w A rs) (hi : i < rs.length) (hn : rs.length ≤ 1000) (hm : m ≤ 100)
    (hs : ∀ r ∈ rs, r.inp.size ≤ maxLen ∧ r.out.size ≤ maxLen) :
    Calls Try.prog 32 #[.agg #[.int .i64 m, .int .u8 ac, .slice A rs.length c], .int .i64 i] w fun e w' => e = .returned (.bool (rightAt m rs i)) ∧ Below w.heap.size w w' := by
  obtain ⟨b, o, rfl, hF, hb, c0, c1, c2, c3, c4⟩ := hA.at_ hi
  obtain ⟨hsi, hso⟩ := hs rs[i] (List.getElem_mem hi)
  have hr : rs.getD i ⟨0, 0, .empty, .empty, 0⟩ = rs[i] := by simp [hi]
  have Hr := Lib.hid hr
  clear hr hs
  go_enter Try.func32, Try.ntmps32
  go_wp2_with fail
  go_loopw [6] (fun x wr => ∃ k : Nat, k ≤ i ∧ x = .int .i64 k ∧ (rs.take k).all (fun r => decide (r ≠ rs[i])) = true ∧ ∃ n, wr = ((w.alloc
      (Obj.cells #[Value.int IntKind.i64 m, Value.int IntKind.u8 ac, Value.slice (some { block := b, off := o }) rs.length c] 30)).alloc
      (Obj.cells #[Value.int IntKind.i64 rs[i].frm, Value.int IntKind.i64 rs[i].dst, Value.string rs[i].inp, Value.string rs[i].out, Value.int IntKind.i64 rs[i].cost] 53)).drewN n) (fun x _ => i - (intOf x).toNat)
  case atStart => exact ⟨0, Nat.zero_le _, rfl, by simp, 0, rfl⟩
  case round =>
    obtain ⟨k, hk, rfl, hall, n, rfl⟩ := hrel
    have Hall := Lib.hid hall
    clear hall
    by_cases hlt : k < i
    · obtain ⟨b', o', he, _, _, d0, d1, d2, d3, d4⟩ := hA.at_ (k := k) (by omega)
      obtain ⟨rfl, rfl⟩ : b = b' ∧ o = o' := by injection he with he; injection he with h1 h2; exact ⟨h1, h2⟩
      clear he
      have hkl : (k : Int) < (rs.length : Int) := by omega
      have Hs1 := Lib.hid (rules_take_succ (fun r => decide (r ≠ rs[i])) rs k (by omega))
      have Hs2 := Lib.hid (rules_all_false (fun r => decide (r ≠ rs[i])) rs i k hlt (by omega))
      rcases hq : decide (rs[k] = rs[i]) with _ | _
      · go_wp2_with fail
        go_quiet (fail)
        go_wp2_with fail
        go_roundw
        case rel => exact ⟨k + 1, by omega, by go_num, by rw [Hs1.out, Hall.out]; simpa using hq, _, rfl⟩
        case measure => simp [intOf]; omega
      · go_wp2_with fail
        go_quiet (fail)
        go_wp2_with fail
        go_ret
        refine ⟨ret_b ?_, ?_⟩
        · unfold rightAt
          rw [Hr.out, Hs2.out (by simpa using hq)]
          rfl
        · exact below_drewN (below_drewN (((Below.refl _ _).alloc (Nat.le_refl _) _).alloc (by simp) _) _) _
    · obtain rfl : k = i := by omega
      have Hf := Lib.hid (fit_eq m rs[k])
      have Hx : Hid ((rs.take k).all (fun r => decide (r ≠ rs.getD k ⟨0, 0, .empty, .empty, 0⟩)) = true) := by rw [Hr.out]; exact Hall.out
      rcases g1 : inB rs[k].frm 0 ((m : Int) - 1) with _ | _
      · go_wp2_with (first
          | (go_at_call 41; refine (in_any _ _ _ _).mono ?_; rintro e w' ⟨rfl, rfl⟩)
          | (go_at_call 42; refine (small_any _ _ hsi).mono ?_; rintro e w' ⟨rfl, rfl⟩)
          | (go_at_call 43; refine (plain_any _ _ hso).mono ?_; rintro e w' ⟨rfl, rfl⟩))
        go_ret
        exact ⟨ret_b (by unfold rightAt; rw [Hx.out, Hr.out, Hf.out, g1]; rfl), below_drewN (((Below.refl _ _).alloc (Nat.le_refl _) _).alloc (by simp) _) _⟩
      rcases g2 : inB rs[k].dst 0 ((m : Int) - 1) with _ | _
      · go_wp2_with (first
          | (go_at_call 41; refine (in_any _ _ _ _).mono ?_; rintro e w' ⟨rfl, rfl⟩)
          | (go_at_call 42; refine (small_any _ _ hsi).mono ?_; rintro e w' ⟨rfl, rfl⟩)
          | (go_at_call 43; refine (plain_any _ _ hso).mono ?_; rintro e w' ⟨rfl, rfl⟩))
        go_ret
        exact ⟨ret_b (by unfold rightAt; rw [Hx.out, Hr.out, Hf.out, g1, g2]; rfl), below_drewN (((Below.refl _ _).alloc (Nat.le_refl _) _).alloc (by simp) _) _⟩
      rcases g3 : decide ((rs[k].inp.size : Int) ≤ 4) with _ | _
      · go_wp2_with (first
          | (go_at_call 41; refine (in_any _ _ _ _).mono ?_; rintro e w' ⟨rfl, rfl⟩)
          | (go_at_call 42; refine (small_any _ _ hsi).mono ?_; rintro e w' ⟨rfl, rfl⟩)
          | (go_at_call 43; refine (plain_any _ _ hso).mono ?_; rintro e w' ⟨rfl, rfl⟩))
        go_ret
        exact ⟨ret_b (by unfold rightAt; rw [Hx.out, Hr.out, Hf.out, g1, g2, g3]; rfl), below_drewN (((Below.refl _ _).alloc (Nat.le_refl _) _).alloc (by simp) _) _⟩
      rcases g4 : small rs[k].inp with _ | _
      · go_wp2_with (first
          | (go_at_call 41; refine (in_any _ _ _ _).mono ?_; rintro e w' ⟨rfl, rfl⟩)
          | (go_at_call 42; refine (small_any _ _ hsi).mono ?_; rintro e w' ⟨rfl, rfl⟩)
          | (go_at_call 43; refine (plain_any _ _ hso).mono ?_; rintro e w' ⟨rfl, rfl⟩))
        go_ret
        exact ⟨ret_b (by unfold rightAt; rw [Hx.out, Hr.out, Hf.out, g1, g2, g3, g4]; rfl), below_drewN (((Below.refl _ _).alloc (Nat.le_refl _) _).alloc (by simp) _) _⟩
      rcases g5 : decide ((rs[k].out.size : Int) ≤ 4) with _ | _
      · go_wp2_with (first
          | (go_at_call 41; refine (in_any _ _ _ _).mono ?_; rintro e w' ⟨rfl, rfl⟩)
          | (go_at_call 42; refine (small_any _ _ hsi).mono ?_; rintro e w' ⟨rfl, rfl⟩)
          | (go_at_call 43; refine (plain_any _ _ hso).mono ?_; rintro e w' ⟨rfl, rfl⟩))
        go_ret
        exact ⟨ret_b (by unfold rightAt; rw [Hx.out, Hr.out, Hf.out, g1, g2, g3, g4, g5]; rfl), below_drewN (((Below.refl _ _).alloc (Nat.le_refl _) _).alloc (by simp) _) _⟩
      rcases g6 : plain rs[k].out with _ | _
      · go_wp2_with (first
          | (go_at_call 41; refine (in_any _ _ _ _).mono ?_; rintro e w' ⟨rfl, rfl⟩)
          | (go_at_call 42; refine (small_any _ _ hsi).mono ?_; rintro e w' ⟨rfl, rfl⟩)
          | (go_at_call 43; refine (plain_any _ _ hso).mono ?_; rintro e w' ⟨rfl, rfl⟩))
        go_ret
        exact ⟨ret_b (by unfold rightAt; rw [Hx.out, Hr.out, Hf.out, g1, g2, g3, g4, g5, g6]; rfl), below_drewN (((Below.refl _ _).alloc (Nat.le_refl _) _).alloc (by simp) _) _⟩
      · go_wp2_with (first
          | (go_at_call 41; refine (in_any _ _ _ _).mono ?_; rintro e w' ⟨rfl, rfl⟩)
          | (go_at_call 42; refine (small_any _ _ hsi).mono ?_; rintro e w' ⟨rfl, rfl⟩)
          | (go_at_call 43; refine (plain_any _ _ hso).mono ?_; rintro e w' ⟨rfl, rfl⟩))
        go_ret
        exact ⟨ret_b (by unfold rightAt; rw [Hx.out, Hr.out, Hf.out, g1, g2, g3, g4, g5, g6]; rfl), below_drewN (((Below.refl _ _).alloc (Nat.le_refl _) _).alloc (by simp) _) _⟩
end Go.Proofs.Ytpidgkngefkbeaa
