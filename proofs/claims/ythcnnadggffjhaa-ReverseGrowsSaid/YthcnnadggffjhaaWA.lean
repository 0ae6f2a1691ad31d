/- The walks of the small functions of the reference of layer 2: In, Small, Plain. The walks of the reference of layer 2 over schemes: Right, Check, Valid. The walks of the reference of layer 2: Check, Valid, for schemes whose modes and accepting modes are in their ranges. The walks of the reference of layer 2: simple, Base, Made1, Made. -/
import Derived.Test.YthcnnadggffjhaaProg
import Derived.Test.YthcnnadggffjhaaPA
import Derived.WalkKit
import Derived.WalkSpells
import Derived.WalkLawsBesides
import Derived.Deep.QuietTactic
import Derived.BigQuiet
import Derived.Test.YthcnnadggffjhaaLA
import Derived.Deep.RegionHeld3
set_option linter.unusedVariables false
set_option linter.unusedSimpArgs false
namespace Go.Proofs.Ythcnnadggffjhaa
open Go.RowKit

/-- 'In' as a function. -/
def inB (a b c : Int) : Bool := decide (b ≤ a) && decide (a ≤ c)
theorem inB_nat (a m : Nat) : inB a 0 ((m : Int) - 1) = decide (a < m) := by
  unfold inB; rw [Bool.eq_iff_iff]; simp; omega
theorem inB_top (a : Nat) : inB a 0 1000 = decide (a ≤ 1000) := by
  unfold inB; rw [Bool.eq_iff_iff]; simp; omega

set_option maxHeartbeats 400000 in
set_option maxRecDepth 100000 in
theorem in_any (a b c : Int) (w : World) :
    Calls Try.prog 66 #[.int .i64 a, .int .i64 b, .int .i64 c] w fun e w' => e = .returned (.bool (inB a b c)) ∧ w = w' := by
  by_cases h1 : b ≤ a
  · go_enter Try.func66, Try.ntmps66
    go_wp2
    go_ret
    exact ⟨ret_b (by simp [inB, h1]), rfl⟩
  · have hd : decide (b ≤ a) = false := by simpa using h1
    go_enter Try.func66, Try.ntmps66
    go_wp2
    go_ret
    exact ⟨ret_b (by unfold inB; rw [hd]; rfl), rfl⟩

set_option maxHeartbeats 400000 in
set_option maxRecDepth 100000 in
theorem small_any (s : ByteArray) (w : World) (hs : s.size ≤ maxLen) :
    Calls Try.prog 45 #[.string s] w fun e w' => e = .returned (.bool (small s)) ∧ w = w' := by
  unfold maxLen at hs
  go_enter Try.func45, Try.ntmps45
  go_wp2
  go_loop [3] (fun i => ∃ k : Nat, k ≤ s.size ∧ i = .int .i64 k ∧ (s.data.toList.take k).all (fun c => lowN c.toNat) = true) (fun i => s.size - (intOf i).toNat)
  case atStart => exact ⟨0, Nat.zero_le _, rfl, by simp⟩
  case round =>
    obtain ⟨k, hk, rfl, hall⟩ := hrel
    have Hall := Lib.hid hall
    clear hall
    by_cases hlt : k < s.size
    · have hs1 := all_take_succ (fun c => lowN c.toNat) s k hlt
      have hs2 := all_false_of (fun c => lowN c.toNat) s k hlt
      have Hs1 := Lib.hid hs1
      have Hs2 := Lib.hid hs2
      clear hs1 hs2
      by_cases h1 : (s[k].toNat : Int) < 97
      · have hd : decide ((s[k].toNat : Int) < 97) = true := by simpa using h1
        go_wp2
        go_ret
        exact ⟨ret_b (Hs2.out (by simp [lowN]; omega)).symm, rfl⟩
      · have hd : decide ((s[k].toNat : Int) < 97) = false := by simpa using h1
        by_cases h2 : (122 : Int) < (s[k].toNat : Int)
        · go_wp2
          go_ret
          exact ⟨ret_b (Hs2.out (by simp [lowN]; omega)).symm, rfl⟩
        · go_wp2
          go_round
          case rel => exact ⟨k + 1, by omega, by go_num, by rw [Hs1.out, Hall.out]; simp [lowN]; omega⟩
          case measure => simp [intOf]; omega
    · go_wp2
      go_ret
      have := Hall.out
      rw [List.take_of_length_le (by simp; omega)] at this
      exact ⟨ret_b this.symm, rfl⟩

set_option maxHeartbeats 1000000 in
set_option maxRecDepth 100000 in
theorem plain_any (s : ByteArray) (w : World) (hs : s.size ≤ maxLen) :
    Calls Try.prog 44 #[.string s] w fun e w' => e = .returned (.bool (plain s)) ∧ w = w' := by
  unfold maxLen at hs
  go_enter Try.func44, Try.ntmps44
  go_wp2
  go_loop [3] (fun i => ∃ k : Nat, k ≤ s.size ∧ i = .int .i64 k ∧ (s.data.toList.take k).all (fun c => plainN c.toNat) = true) (fun i => s.size - (intOf i).toNat)
  case atStart => exact ⟨0, Nat.zero_le _, rfl, by simp⟩
  case round =>
    obtain ⟨k, hk, rfl, hall⟩ := hrel
    have Hall := Lib.hid hall
    clear hall
    by_cases hlt : k < s.size
    · have hs1 := all_take_succ (fun c => plainN c.toNat) s k hlt
      have hs2 := all_false_of (fun c => plainN c.toNat) s k hlt
      have Hs1 := Lib.hid hs1
      have Hs2 := Lib.hid hs2
      clear hs1 hs2
      obtain ⟨c, hc⟩ : ∃ c : Nat, c = s[k].toNat := ⟨_, rfl⟩
      have hcv : ∀ d1 d2 d3 d4 d5 d6 : Bool, decide ((s[k].toNat : Int) < 97) = d1 → decide ((122 : Int) < (s[k].toNat : Int)) = d2 → decide ((s[k].toNat : Int) < 65) = d3 →
          decide ((90 : Int) < (s[k].toNat : Int)) = d4 → decide ((s[k].toNat : Int) < 48) = d5 → decide ((57 : Int) < (s[k].toNat : Int)) = d6 →
          plainN s[k].toNat = !((d1 || d2) && (d3 || d4) && (d5 || d6)) := by
        intro d1 d2 d3 d4 d5 d6 h1 h2 h3 h4 h5 h6
        subst h1 h2 h3 h4 h5 h6
        unfold plainN lowN
        rw [Bool.eq_iff_iff]
        simp
        omega
      have Hcv := Lib.hid hcv
      clear hcv hc
      rcases hd1 : decide ((s[k].toNat : Int) < 97) with _ | _ <;> rcases hd2 : decide ((122 : Int) < (s[k].toNat : Int)) with _ | _ <;>
        rcases hd3 : decide ((s[k].toNat : Int) < 65) with _ | _ <;> rcases hd4 : decide ((90 : Int) < (s[k].toNat : Int)) with _ | _ <;>
        rcases hd5 : decide ((s[k].toNat : Int) < 48) with _ | _ <;> rcases hd6 : decide ((57 : Int) < (s[k].toNat : Int)) with _ | _ <;>
        first
        | (exfalso; simp at hd1 hd2 hd3 hd4 hd5 hd6; omega)
        | (have hp := Lib.hid (Hcv.out _ _ _ _ _ _ hd1 hd2 hd3 hd4 hd5 hd6)
           go_wp2
           first
           | (go_round
              case rel => exact ⟨k + 1, by omega, by go_num, by rw [Hs1.out, Hall.out, hp.out]; rfl⟩
              case measure => simp [intOf]; omega)
           | (go_ret
              exact ⟨ret_b (Hs2.out (by rw [hp.out]; rfl)).symm, rfl⟩))
    · go_wp2
      go_ret
      have := Hall.out
      rw [List.take_of_length_le (by simp; omega)] at this
      exact ⟨ret_b this.symm, rfl⟩
end Go.Proofs.Ythcnnadggffjhaa
namespace Go.Proofs.Ythcnnadggffjhaa
open Go.RowKit

theorem bytes_beq (a b : ByteArray) : (a.toList == b.toList) = decide (a = b) := by
  rw [Bool.eq_iff_iff]
  simp only [beq_iff_eq, decide_eq_true_eq]
  constructor
  · intro he
    rw [ByteArray.toList_eq, ByteArray.toList_eq] at he
    exact ByteArray.ext (Array.toList_inj.1 he)
  · intro h; rw [h]

theorem bytes_iff (a b : ByteArray) : a.toList = b.toList ↔ a = b := by
  have h := bytes_beq a b
  rw [Bool.eq_iff_iff] at h
  simpa using h

theorem rule_eq_parts (r s : Rule) : decide (r = s) = (decide (r.frm = s.frm) && (decide (r.dst = s.dst) && (decide (r.inp = s.inp) && (decide (r.out = s.out) && decide (r.cost = s.cost))))) := by
  obtain ⟨a, b, c, d, e⟩ := r
  obtain ⟨a', b', c', d', e'⟩ := s
  simp only [Rule.mk.injEq, Bool.decide_and]

theorem natcast_beq (a b : Nat) : ((a : Int) == (b : Int)) = decide (a = b) := by
  rw [Bool.eq_iff_iff]; simp; omega

theorem rule_equalIn (r s : Rule) (w : World) :
    (Op.equalIn 10000 65 (.agg #[.int .i64 r.frm, .int .i64 r.dst, .string r.inp, .string r.out, .int .i64 r.cost]) (.agg #[.int .i64 s.frm, .int .i64 s.dst, .string s.inp, .string s.out, .int .i64 s.cost])).run Try.prog w = .ok (decide (r = s)) w := by
  have u3 := Try.underlying3
  have a3 := Try.isAgg3
  have z3 := Try.sizeOf3
  have u9 := Try.underlying9
  have a9 := Try.isAgg9
  have z9 := Try.sizeOf9
  rw [show (10000 : Nat) = 9999 + 1 from rfl, run_equalIn_agg w 9999 65 _ _ (by kernel_rfl) (by kernel_rfl)]
  simp only [Program.fieldsOf, Try.underlying65]
  go_simp
  simp only [bytes_beq, natcast_beq, rule_eq_parts]
  have h3' := bytes_iff r.inp s.inp
  have h4' := bytes_iff r.out s.out
  by_cases h1 : r.frm = s.frm <;> by_cases h2 : r.dst = s.dst <;> by_cases h3 : r.inp = s.inp <;> by_cases h4 : r.out = s.out <;> by_cases h5 : r.cost = s.cost <;> simp [h1, h2, h3, h4, h5, h3', h4', Int.natCast_inj]

@[go_sem high] theorem rule_eql (r s : Rule) (w : World) :
    (binOp .eql 65 (.agg #[.int .i64 r.frm, .int .i64 r.dst, .string r.inp, .string r.out, .int .i64 r.cost]) (.agg #[.int .i64 s.frm, .int .i64 s.dst, .string s.inp, .string s.out, .int .i64 s.cost])).run Try.prog w = .ok (.bool (decide (r = s))) w := by
  rw [run_eql_struct, rule_equalIn, Result.andThen_ok]
@[go_sem high] theorem rule_neq (r s : Rule) (w : World) :
    (binOp .neq 65 (.agg #[.int .i64 r.frm, .int .i64 r.dst, .string r.inp, .string r.out, .int .i64 r.cost]) (.agg #[.int .i64 s.frm, .int .i64 s.dst, .string s.inp, .string s.out, .int .i64 s.cost])).run Try.prog w = .ok (.bool (!decide (r = s))) w := by
  rw [run_neq_struct, rule_equalIn, Result.andThen_ok]
@[go_sem] theorem rule_eqGuard : Try.prog.eqGuardType Try.prog.depth 65 = false := by kernel_rfl

theorem rules_take_succ (p : Rule → Bool) (rs : List Rule) (k : Nat) (h : k < rs.length) : (rs.take (k + 1)).all p = ((rs.take k).all p && p rs[k]) := by
  rw [List.take_succ_eq_append_getElem h, List.all_append]
  simp
theorem rules_all_false (p : Rule → Bool) (rs : List Rule) (i k : Nat) (hk : k < i) (h : k < rs.length) (hp : p rs[k] = false) : (rs.take i).all p = false := by
  rw [List.all_eq_false]
  exact ⟨rs[k], by rw [List.mem_take_iff_getElem]; exact ⟨k, by omega, rfl⟩, by simp [hp]⟩

theorem fit_eq (m : Nat) (r : Rule) : r.fit m = (inB r.frm 0 ((m : Int) - 1) && (inB r.dst 0 ((m : Int) - 1) && (decide ((r.inp.size : Int) ≤ 4) && (small r.inp && (decide ((r.out.size : Int) ≤ 4) && (plain r.out && inB r.cost 0 1000)))))) := by
  unfold Rule.fit
  rw [inB_nat, inB_nat, inB_top]
  have e (n : Nat) : decide ((n : Int) ≤ 4) = decide (n ≤ 4) := by rw [Bool.eq_iff_iff]; simp; omega
  rw [e, e]

set_option maxHeartbeats 2000000 in
set_option maxRecDepth 100000 in
theorem right_any (F : Nat → Prop) (m ac : Nat) (A : Option Addr) (c : Nat) (rs : List Rule) (i : Nat) (w : World) (hA : RulesAt F w A rs) (hi : i < rs.length) (hn : rs.length ≤ 1000) (hm : m ≤ 100)
    (hs : ∀ r ∈ rs, r.inp.size ≤ maxLen ∧ r.out.size ≤ maxLen) :
    Calls Try.prog 47 #[.agg #[.int .i64 m, .int .u8 ac, .slice A rs.length c], .int .i64 i] w fun e w' => e = .returned (.bool (rightAt m rs i)) ∧ Below w.heap.size w w' := by
  obtain ⟨b, o, rfl, hF, hb, c0, c1, c2, c3, c4⟩ := hA.at_ hi
  obtain ⟨hsi, hso⟩ := hs rs[i] (List.getElem_mem hi)
  have hr : rs.getD i ⟨0, 0, .empty, .empty, 0⟩ = rs[i] := by simp [hi]
  have Hr := Lib.hid hr
  clear hr hs
  go_enter Try.func47, Try.ntmps47
  go_wp2_with fail
  go_loopw [6] (fun x wr => ∃ k : Nat, k ≤ i ∧ x = .int .i64 k ∧ (rs.take k).all (fun r => decide (r ≠ rs[i])) = true ∧ ∃ n, wr = ((w.alloc
      (Obj.cells #[Value.int IntKind.i64 m, Value.int IntKind.u8 ac, Value.slice (some { block := b, off := o }) rs.length c] 31)).alloc
      (Obj.cells #[Value.int IntKind.i64 rs[i].frm, Value.int IntKind.i64 rs[i].dst, Value.string rs[i].inp, Value.string rs[i].out, Value.int IntKind.i64 rs[i].cost] 65)).drewN n) (fun x _ => i - (intOf x).toNat)
  case atStart => exact ⟨0, Nat.zero_le _, rfl, by simp, 0, rfl⟩
  case round =>
    obtain ⟨k, hk, rfl, hall, n, rfl⟩ := hrel
    have Hall := Lib.hid hall
    clear hall
    by_cases hlt : k < i
    · obtain ⟨b', o', he, _, _, d0, d1, d2, d3, d4⟩ := hA.at_ (k := k) (by omega)
      obtain ⟨rfl, rfl⟩ : b = b' ∧ o = o' := by injection he with he; injection he with h1 h2; exact ⟨h1, h2⟩
      clear he
      have hkl : (k : Int) < (rs.length : Int) := by omega
      have Hs1 := Lib.hid (rules_take_succ (fun r => decide (r ≠ rs[i])) rs k (by omega))
      have Hs2 := Lib.hid (rules_all_false (fun r => decide (r ≠ rs[i])) rs i k hlt (by omega))
      rcases hq : decide (rs[k] = rs[i]) with _ | _
      · go_wp2_with fail
        go_quiet (fail)
        go_wp2_with fail
        go_roundw
        case rel => exact ⟨k + 1, by omega, by go_num, by rw [Hs1.out, Hall.out]; simpa using hq, _, rfl⟩
        case measure => simp [intOf]; omega
      · go_wp2_with fail
        go_quiet (fail)
        go_wp2_with fail
        go_ret
        refine ⟨ret_b ?_, ?_⟩
        · unfold rightAt
          rw [Hr.out, Hs2.out (by simpa using hq)]
          rfl
        · exact below_drewN (below_drewN (((Below.refl _ _).alloc (Nat.le_refl _) _).alloc (by simp) _) _) _
    · obtain rfl : k = i := by omega
      have Hf := Lib.hid (fit_eq m rs[k])
      have Hx : Hid ((rs.take k).all (fun r => decide (r ≠ rs.getD k ⟨0, 0, .empty, .empty, 0⟩)) = true) := by rw [Hr.out]; exact Hall.out
      rcases g1 : inB rs[k].frm 0 ((m : Int) - 1) with _ | _
      · go_wp2_with (first
          | (go_at_call 66; refine (in_any _ _ _ _).mono ?_; rintro e w' ⟨rfl, rfl⟩)
          | (go_at_call 45; refine (small_any _ _ hsi).mono ?_; rintro e w' ⟨rfl, rfl⟩)
          | (go_at_call 44; refine (plain_any _ _ hso).mono ?_; rintro e w' ⟨rfl, rfl⟩))
        go_ret
        exact ⟨ret_b (by unfold rightAt; rw [Hx.out, Hr.out, Hf.out, g1]; rfl), below_drewN (((Below.refl _ _).alloc (Nat.le_refl _) _).alloc (by simp) _) _⟩
      rcases g2 : inB rs[k].dst 0 ((m : Int) - 1) with _ | _
      · go_wp2_with (first
          | (go_at_call 66; refine (in_any _ _ _ _).mono ?_; rintro e w' ⟨rfl, rfl⟩)
          | (go_at_call 45; refine (small_any _ _ hsi).mono ?_; rintro e w' ⟨rfl, rfl⟩)
          | (go_at_call 44; refine (plain_any _ _ hso).mono ?_; rintro e w' ⟨rfl, rfl⟩))
        go_ret
        exact ⟨ret_b (by unfold rightAt; rw [Hx.out, Hr.out, Hf.out, g1, g2]; rfl), below_drewN (((Below.refl _ _).alloc (Nat.le_refl _) _).alloc (by simp) _) _⟩
      rcases g3 : decide ((rs[k].inp.size : Int) ≤ 4) with _ | _
      · go_wp2_with (first
          | (go_at_call 66; refine (in_any _ _ _ _).mono ?_; rintro e w' ⟨rfl, rfl⟩)
          | (go_at_call 45; refine (small_any _ _ hsi).mono ?_; rintro e w' ⟨rfl, rfl⟩)
          | (go_at_call 44; refine (plain_any _ _ hso).mono ?_; rintro e w' ⟨rfl, rfl⟩))
        go_ret
        exact ⟨ret_b (by unfold rightAt; rw [Hx.out, Hr.out, Hf.out, g1, g2, g3]; rfl), below_drewN (((Below.refl _ _).alloc (Nat.le_refl _) _).alloc (by simp) _) _⟩
      rcases g4 : small rs[k].inp with _ | _
      · go_wp2_with (first
          | (go_at_call 66; refine (in_any _ _ _ _).mono ?_; rintro e w' ⟨rfl, rfl⟩)
          | (go_at_call 45; refine (small_any _ _ hsi).mono ?_; rintro e w' ⟨rfl, rfl⟩)
          | (go_at_call 44; refine (plain_any _ _ hso).mono ?_; rintro e w' ⟨rfl, rfl⟩))
        go_ret
        exact ⟨ret_b (by unfold rightAt; rw [Hx.out, Hr.out, Hf.out, g1, g2, g3, g4]; rfl), below_drewN (((Below.refl _ _).alloc (Nat.le_refl _) _).alloc (by simp) _) _⟩
      rcases g5 : decide ((rs[k].out.size : Int) ≤ 4) with _ | _
      · go_wp2_with (first
          | (go_at_call 66; refine (in_any _ _ _ _).mono ?_; rintro e w' ⟨rfl, rfl⟩)
          | (go_at_call 45; refine (small_any _ _ hsi).mono ?_; rintro e w' ⟨rfl, rfl⟩)
          | (go_at_call 44; refine (plain_any _ _ hso).mono ?_; rintro e w' ⟨rfl, rfl⟩))
        go_ret
        exact ⟨ret_b (by unfold rightAt; rw [Hx.out, Hr.out, Hf.out, g1, g2, g3, g4, g5]; rfl), below_drewN (((Below.refl _ _).alloc (Nat.le_refl _) _).alloc (by simp) _) _⟩
      rcases g6 : plain rs[k].out with _ | _
      · go_wp2_with (first
          | (go_at_call 66; refine (in_any _ _ _ _).mono ?_; rintro e w' ⟨rfl, rfl⟩)
          | (go_at_call 45; refine (small_any _ _ hsi).mono ?_; rintro e w' ⟨rfl, rfl⟩)
          | (go_at_call 44; refine (plain_any _ _ hso).mono ?_; rintro e w' ⟨rfl, rfl⟩))
        go_ret
        exact ⟨ret_b (by unfold rightAt; rw [Hx.out, Hr.out, Hf.out, g1, g2, g3, g4, g5, g6]; rfl), below_drewN (((Below.refl _ _).alloc (Nat.le_refl _) _).alloc (by simp) _) _⟩
      · go_wp2_with (first
          | (go_at_call 66; refine (in_any _ _ _ _).mono ?_; rintro e w' ⟨rfl, rfl⟩)
          | (go_at_call 45; refine (small_any _ _ hsi).mono ?_; rintro e w' ⟨rfl, rfl⟩)
          | (go_at_call 44; refine (plain_any _ _ hso).mono ?_; rintro e w' ⟨rfl, rfl⟩))
        go_ret
        exact ⟨ret_b (by unfold rightAt; rw [Hx.out, Hr.out, Hf.out, g1, g2, g3, g4, g5, g6]; rfl), below_drewN (((Below.refl _ _).alloc (Nat.le_refl _) _).alloc (by simp) _) _⟩
end Go.Proofs.Ythcnnadggffjhaa
namespace Go.Proofs.Ythcnnadggffjhaa
open Go.RowKit

/-- every rule is right at its place -/
def allRight (m : Nat) (rs : List Rule) : Bool := (List.range rs.length).all fun i => rightAt m rs i

/-- what 'Check' hands back, without its first result -/
def Checked (w : World) (ok : Bool) (e : Ending) (w' : World) : Prop := ∃ n : Int, e = .returned (.tuple #[.int .i64 n, .int .i64 (if ok then 0 else 20)]) ∧ Below w.heap.size w w'

set_option maxHeartbeats 2000000 in
set_option maxRecDepth 100000 in
theorem check_any (F : Nat → Prop) (m ac : Nat) (A : Option Addr) (c : Nat) (rs : List Rule) (w : World) (hA : RulesAt F w A rs) (hn : rs.length ≤ 64) (hm : 1 ≤ m) (hm8 : m ≤ 8) (hac : 1 ≤ ac) (hac2 : ac < 2 ^ m)
    (hs : ∀ r ∈ rs, r.inp.size ≤ maxLen ∧ r.out.size ≤ maxLen) :
    Calls Try.prog 43 #[.agg #[.int .i64 m, .int .u8 ac, .slice A rs.length c]] w (Checked w (allRight m rs)) := by
  have Hs := Lib.hid hs
  clear hs
  have g1 : inB m 1 8 = true := by unfold inB; simp; omega
  have hp0 : (2 : Int) ^ m = ((2 ^ m : Nat) : Int) := by simp
  have hp3 : 2 ^ m ≤ 2 ^ 8 := Nat.pow_le_pow_right (by omega) hm8
  have hp1 : (1 : Int) ≤ 2 ^ m := by rw [hp0]; omega
  have hp2 : (2 : Int) ^ m ≤ 256 := by rw [hp0]; omega
  have g2 : inB ac 1 ((2 : Int) ^ m - 1) = true := by rw [hp0]; unfold inB; simp only [Bool.and_eq_true, decide_eq_true_eq]; omega
  have hac3 : ac < 256 := by omega
  clear hp0 hp3 hac2
  have hd64 : decide ((64 : Int) < (rs.length : Int)) = false := by simp; omega
  go_enter Try.func43, Try.ntmps43
  go_wp2_with fail
  go_quiet ((go_at_call 66; exact Calls.quiet_of_same ((in_any _ _ _ _).mono fun _ _ h => ⟨h.1, h.2.symm⟩)))
  go_wp2_with fail
  clear g1 g2
  go_loopw [4] (fun x wr => ∃ k : Nat, k ≤ rs.length ∧ x = .int .i64 k ∧ (List.range k).all (fun i => rightAt m rs i) = true ∧ Below w.heap.size w wr ∧ w.heap.size < wr.heap.size ∧
      wr.cell? ⟨w.heap.size, 0, none⟩ = some (.int .i64 m) ∧ wr.cell? ⟨w.heap.size, 1, none⟩ = some (.int .u8 ac) ∧ wr.cell? ⟨w.heap.size, 2, none⟩ = some (.slice A rs.length c)) (fun x _ => rs.length - (intOf x).toNat)
  case atStart => exact ⟨0, Nat.zero_le _, rfl, rfl, below_drewN ((Below.refl _ _).alloc (Nat.le_refl _) _) _, by simp, by simp, by simp, by simp⟩
  case round =>
    obtain ⟨k, hk, rfl, hall, hbel, hlt, d0, d1, d2⟩ := hrel
    have Hall := Lib.hid hall
    clear hall
    by_cases hkl : k < rs.length
    · have Hr := Lib.hid (right_any F m ac A c rs k wr (Reads.below hA hbel) hkl (by omega) (by omega) Hs.out)
      rcases g : rightAt m rs k with _ | _
      · have G := Lib.hid g
        clear g
        go_wp2_with (go_at_call 47; refine Hr.out.mono ?_; rintro e w1 ⟨rfl, hb1⟩; rw [G.out])
        go_ret2
        refine ⟨k, ?_, hbel.trans (hb1.mono hbel.size)⟩
        have : allRight m rs = false := by
          unfold allRight
          rw [List.all_eq_false]
          exact ⟨k, List.mem_range.2 hkl, by rw [G.out]; simp⟩
        rw [this]
        rfl
      · have G := Lib.hid g
        clear g
        go_wp2_with (go_at_call 47; refine Hr.out.mono ?_; rintro e w1 ⟨rfl, hb1⟩; rw [G.out])
        go_roundw
        case rel => exact ⟨k + 1, by omega, by go_num, by rw [List.range_succ, List.all_append, Hall.out]; simp [G.out], hbel.trans (hb1.mono hbel.size), Nat.lt_of_lt_of_le hlt hb1.size,
          (hb1.cell (p := ⟨w.heap.size, 0, none⟩) hlt).trans d0, (hb1.cell (p := ⟨w.heap.size, 1, none⟩) hlt).trans d1, (hb1.cell (p := ⟨w.heap.size, 2, none⟩) hlt).trans d2⟩
        case measure => simp [intOf]; omega
    · obtain rfl : k = rs.length := by omega
      go_wp2_with fail
      go_ret2
      exact ⟨rs.length, by rw [show allRight m rs = true from Hall.out]; rfl, hbel⟩

set_option maxHeartbeats 1000000 in
set_option maxRecDepth 100000 in
theorem valid_any (F : Nat → Prop) (m ac : Nat) (A : Option Addr) (c : Nat) (rs : List Rule) (w : World) (hA : RulesAt F w A rs) (hn : rs.length ≤ 64) (hm : 1 ≤ m) (hm8 : m ≤ 8) (hac : 1 ≤ ac) (hac2 : ac < 2 ^ m)
    (hs : ∀ r ∈ rs, r.inp.size ≤ maxLen ∧ r.out.size ≤ maxLen) :
    Calls Try.prog 25 #[.agg #[.int .i64 m, .int .u8 ac, .slice A rs.length c]] w fun e w' => e = .returned (.bool (allRight m rs)) ∧ Below w.heap.size w w' := by
  have H := Lib.hid (fun x => check_any F m ac A c rs (w.alloc x) (Reads.below hA ((Below.refl _ _).alloc (Nat.le_refl _) _)) hn hm hm8 hac hac2 hs)
  clear hs
  rcases g : allRight m rs with _ | _
  · have G := Lib.hid g
    clear g
    go_enter Try.func25, Try.ntmps25
    go_wp2_with (go_at_call 43; refine (H.out _).mono ?_; rintro e w1 ⟨n, rfl, hb1⟩; rw [G.out])
    go_ret
    exact ⟨rfl, ((Below.refl _ _).alloc (Nat.le_refl _) _).trans (hb1.mono (by simp))⟩
  · have G := Lib.hid g
    clear g
    go_enter Try.func25, Try.ntmps25
    go_wp2_with (go_at_call 43; refine (H.out _).mono ?_; rintro e w1 ⟨n, rfl, hb1⟩; rw [G.out])
    go_ret
    exact ⟨rfl, ((Below.refl _ _).alloc (Nat.le_refl _) _).trans (hb1.mono (by simp))⟩
end Go.Proofs.Ythcnnadggffjhaa
namespace Go.Proofs.Ythcnnadggffjhaa
open Go.RowKit

set_option maxHeartbeats 1000000 in
set_option maxRecDepth 100000 in
theorem simple_any (a b : Nat) (s t : ByteArray) (w : World) (hs : s.size ≤ maxLen) :
    Calls Try.prog 67 #[.agg #[.int .i64 a, .int .i64 b], .string s, .string t] w fun e w' => e = .returned (.agg #[.int .i64 a, .int .i64 b, .string s, .string t, .int .i64 s.size]) ∧ Below w.heap.size w w' := by
  unfold maxLen at hs
  go_enter Try.func67, Try.ntmps67
  go_wp2_with fail
  refine bodyPost_ret (v := .agg #[.int .i64 a, .int .i64 b, .string s, .string t, .int .i64 s.size]) (by simp [results, Try.results67, go_sem]) rfl ⟨rfl, ?_⟩
  exact ((Below.refl _ _).alloc (Nat.le_refl _) _).alloc (by simp) _


end Go.Proofs.Ythcnnadggffjhaa
