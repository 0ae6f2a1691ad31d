/- Steps of a region that draws its order: a store of one cell, a store of a struct. -/
import Derived.Test.YtpidgkngefkbeaaL0
import Derived.Deep.RegionHeld3
import Derived.Deep.RegionLaw
import Derived.Deep.Cut
import Derived.Deep.CutRange
import Derived.Deep.CutBlock
import Derived.Deep.DeepCutAuto
import Derived.Deep.AppendLies
import Derived.Deep.DeepFit
import Derived.Deep.DeepMust
import Derived.Deep.Light
import Derived.Deep.LoopGhost
set_option linter.unusedVariables false
set_option linter.unusedSimpArgs false
namespace Go.Proofs.Ytpidgkngefkbeaa
open Go.RowKit

@[go_sem] theorem tmod_nat (a : Nat) (m : Int) : (a : Int).tmod m = (a : Int) % m := Int.tmod_eq_emod_of_nonneg (Int.natCast_nonneg a)
@[go_sem] theorem tdiv_nat (a : Nat) (m : Int) : (a : Int).tdiv m = (a : Int) / m := Int.tdiv_eq_ediv_of_nonneg (Int.natCast_nonneg a)

@[go_sem] theorem u8_wrap1 : IntKind.u8.wrap 1 = 1 := by decide
@[go_sem] theorem u8_wrap2 : IntKind.u8.wrap 2 = 2 := by decide
@[go_sem] theorem u8_wrap3 : IntKind.u8.wrap 3 = 3 := by decide
@[go_sem] theorem u8_wrap4 : IntKind.u8.wrap 4 = 4 := by decide
@[go_sem] theorem u8_wrap5 : IntKind.u8.wrap 5 = 5 := by decide
@[go_sem] theorem u8_wrap6 : IntKind.u8.wrap 6 = 6 := by decide
@[go_sem] theorem cut_abc0 : (⟨#[97, 98, 99]⟩ : ByteArray).extract 0 1 = ⟨#[97]⟩ := by decide
@[go_sem] theorem cut_abc1 : (⟨#[97, 98, 99]⟩ : ByteArray).extract 1 2 = ⟨#[98]⟩ := by decide
@[go_sem] theorem cut_abc2 : (⟨#[97, 98, 99]⟩ : ByteArray).extract 2 3 = ⟨#[99]⟩ := by decide
@[go_sem] theorem cut_six0 : (⟨#[97, 98, 99, 65, 66, 49]⟩ : ByteArray).extract 0 1 = ⟨#[97]⟩ := by decide
@[go_sem] theorem cut_six1 : (⟨#[97, 98, 99, 65, 66, 49]⟩ : ByteArray).extract 1 2 = ⟨#[98]⟩ := by decide
@[go_sem] theorem cut_six2 : (⟨#[97, 98, 99, 65, 66, 49]⟩ : ByteArray).extract 2 3 = ⟨#[99]⟩ := by decide
@[go_sem] theorem cut_six3 : (⟨#[97, 98, 99, 65, 66, 49]⟩ : ByteArray).extract 3 4 = ⟨#[65]⟩ := by decide
@[go_sem] theorem cut_six4 : (⟨#[97, 98, 99, 65, 66, 49]⟩ : ByteArray).extract 4 5 = ⟨#[66]⟩ := by decide
@[go_sem] theorem cut_six5 : (⟨#[97, 98, 99, 65, 66, 49]⟩ : ByteArray).extract 5 6 = ⟨#[49]⟩ := by decide

section
variable {P : Program} {ops : Array Oper} {o : Oper} {a : Act} {w : World} {K : Act → World → Prop} {Q : Exit → Act → World → Prop} {E : Prop}

theorem run_store_one (t : TypeId) (p : Addr) (u : Value) (hsz : ∀ w, (sizeOf t).run P w = .ok 1 w) (hu : u.cells = #[u]) (h1 : u.oneCell' = true) (hc : (w.cell? p).isSome = true) (hf : w.frozen? p = false) :
    (Instr.storeAt t (.pointer (some p)) u).run P w = .ok () (w.setCell p u) := by
  obtain ⟨x, hx⟩ := Option.isSome_iff_exists.1 hc
  have hst : ∀ m, (store p u m).run P w = .ok () (w.setCell p u) := by
    intro m
    rw [run_store P w p u m h1]
    simp [stored, hx, hf]
  simp [Instr.storeAt, Instr.sureAddr, storeVar, hsz, hu, storeCells, Addr.add, hst]

theorem step_store_one (hg : o.guard = none) (t : TypeId) (ad v : Operand) (ho : o.op = .store t ad v) (hsz : ∀ w, (sizeOf t).run P w = .ok 1 w) (p : Addr) (hp : a.eval ad = .pointer (some p))
    (u : Value) (hv : a.eval v = u) (hu : u.cells = #[u]) (h1 : u.oneCell' = true) (hc : (w.cell? p).isSome = true) (hf : w.frozen? p = false) (hK : K (a.put o.dst undef) (w.setCell p u)) :
    if Region.wanted o (yielded ops a.tmps) = true then Oper.wp P o a w K Q else E := by
  have hw : Region.wanted o (yielded ops a.tmps) = true := by simp [Region.wanted, hg]
  rw [if_pos hw]
  unfold Oper.wp
  simp [execOp, ho, hp, hv, run_store_one t p u hsz hu h1 hc hf, Result.andThen]
  exact hK
end
end Go.Proofs.Ytpidgkngefkbeaa
