/- The fixed examples of layer 3, call by call. -/
import Derived.Test.YtpidgkngefkbeaaS1
set_option linter.unusedVariables false
set_option linter.unusedSimpArgs false
namespace Go.Proofs.Ytpidgkngefkbeaa
open Go.RowKit

section
variable (F G : Nat → Prop) (A B : Option Addr) (c d : Nat) (w : World)
theorem twoR_in : ∀ r ∈ twoR, r.frm < 2 ∧ r.dst < 2 := by decide
theorem twoR_cost : ∀ r ∈ twoR, r.cost ≤ 1000 := by decide
theorem fewR_in : ∀ r ∈ fewR, r.frm < 2 ∧ r.dst < 2 := by decide
theorem fewR_cost : ∀ r ∈ fewR, r.cost ≤ 1000 := by decide
theorem twoR_bnd : ∀ r ∈ twoR, r.bnd := by
  intro r h
  simp [twoR] at h
  rcases h with rfl | rfl | rfl <;> exact ⟨by decide, by decide, by decide⟩
def Ret0 (v : Value) (w : World) (e : Ending) (w' : World) : Prop := e = .returned v ∧ Below w.heap.size w w'
def Ret1 (x y : Value) (l : List Int) (w : World) (e : Ending) (w' : World) : Prop := ∃ B d, e = .returned (.tuple #[.slice B l.length d, x, y]) ∧ Below w.heap.size w w' ∧ SlAt vI (w.heap.size ≤ ·) w' B l
theorem s_least0 (h : RulesAt F w A twoR) : Calls Try.prog 24 #[.agg #[.int .i64 2, .int .u8 1, .slice A 3 c], .int .i64 0] w (Ret1 (.int .i64 0) (.int .i64 0) [] w) :=
  (least_is _ 2 1 A c twoR 0 w (Reads.all h) (fun _ h => h) (by decide) (by decide) (by decide) twoR_in twoR_cost (by decide) (least_acc acc1_0)).mono fun e w' ⟨hb, B, d, he, hr⟩ => ⟨B, d, he, hb, hr.ints⟩
theorem s_least1 (h : RulesAt F w A twoR) : Calls Try.prog 24 #[.agg #[.int .i64 2, .int .u8 1, .slice A 3 c], .int .i64 1] w (Ret1 (.int .i64 1) (.int .i64 0) [1] w) :=
  (least_is _ 2 1 A c twoR 1 w (Reads.all h) (fun _ h => h) (by decide) (by decide) (by decide) twoR_in twoR_cost (by decide) least_two1).mono fun e w' ⟨hb, B, d, he, hr⟩ => ⟨B, d, he, hb, hr.ints⟩
theorem s_least2 : Calls Try.prog 24 #[.agg #[.int .i64 2, .int .u8 1, .slice A 3 c], .int .i64 2] w (Ret0 (.tuple #[.slice none 0 0, .int .i64 0, .int .i64 30]) w) :=
  (least_out 2 1 A 3 c 2 w (.inr (by decide))).mono fun e w' h => h
theorem s_leastf (h : RulesAt F w A fewR) : Calls Try.prog 24 #[.agg #[.int .i64 2, .int .u8 1, .slice A 2 c], .int .i64 1] w (Ret0 (.tuple #[.slice none 0 0, .int .i64 0, .int .i64 50]) w) :=
  (least_no _ 2 1 A c fewR 1 w (Reads.all h) (fun _ h => h) (by decide) (by decide) (by decide) fewR_in fewR_cost (by decide) no_few1).mono fun e w' h => h
def TrimS (w : World) (e : Ending) (w' : World) : Prop := ∃ A1 c1 A2 c2, e = .returned (.tuple #[.agg #[.int .i64 2, .int .u8 1, .slice A1 1 c1], .slice A2 1 c2]) ∧ Below w.heap.size w w' ∧ SlAt vI (w.heap.size ≤ ·) w' A2 [1]
theorem s_trim (h : RulesAt F w A fewR) : Calls Try.prog 13 #[.agg #[.int .i64 2, .int .u8 1, .slice A 2 c]] w (TrimS w) :=
  (trim_any _ 2 1 A c fewR w (Reads.all h) (fun _ h => h) (by decide) (by decide) (by decide) (by decide) fewR_in).mono fun e w' ⟨keep, A1, c1, A2, c2, he, hb, hk, _, hr⟩ => by
    have hi := idx_few hk
    rw [hi] at he hr
    exact ⟨A1, c1, A2, c2, he, hb, hr.ints⟩
theorem s_reached (h : RulesAt F w A twoR) : Calls Try.prog 20 #[.agg #[.int .i64 2, .int .u8 1, .slice A 3 c]] w fun e w' => ∃ g, e = .returned (.slice (some ⟨g, 0, none⟩) 2 2) ∧ Below w.heap.size w w' ∧ SlAt vB (w.heap.size ≤ ·) w' (some ⟨g, 0, none⟩) [true, true] :=
  (reached_any _ 2 1 A c twoR w (Reads.all h) (fun _ h => h) (by decide) (by decide) (by decide) twoR_in).mono fun e w' ⟨g, V, he, hb, hg, hB, hl, hV⟩ => by
    obtain rfl := bools_two hl hV true true (by simp [reached_two0]) (by simp [reached_two1])
    exact ⟨g, he, hb, Reads.block hB hg⟩
theorem s_live (h : RulesAt F w A fewR) : Calls Try.prog 22 #[.agg #[.int .i64 2, .int .u8 1, .slice A 2 c]] w fun e w' => ∃ g, e = .returned (.slice (some ⟨g, 0, none⟩) 2 2) ∧ Below w.heap.size w w' ∧ SlAt vB (w.heap.size ≤ ·) w' (some ⟨g, 0, none⟩) [true, false] :=
  (live_any _ 2 1 A c fewR w (Reads.all h) (fun _ h => h) (by decide) (by decide) (by decide) fewR_in).mono fun e w' ⟨g, V, he, hb, hg, hB, hl, hV⟩ => by
    obtain rfl := bools_two hl hV true false (by simp [live_few0]) (by simp [live_few1])
    exact ⟨g, he, hb, Reads.block hB hg⟩
theorem s_run (l : List Int) (n : Nat) (o : RunR) (hn : n = l.length) (hl : l.length ≤ 1000) (ho : runFrom twoR .start l = o) (h : RulesAt F w A twoR) (h2 : SlAt vI G w B l) :
    Calls Try.prog 15 #[.agg #[.int .i64 2, .int .u8 1, .slice A 3 c], .slice B n d] w (Ret0 (.agg #[.string o.inp, .string o.out, .int .i64 o.cost, .int .i64 o.mode, .bool o.ok]) w) := by
  subst hn ho
  exact run_any F G 2 1 A B c d twoR l w h h2 (by decide) hl twoR_bnd
theorem s_run1 (h : RulesAt F w A twoR) (h2 : SlAt vI G w B [2, 0, 1]) : Calls Try.prog 15 #[.agg #[.int .i64 2, .int .u8 1, .slice A 3 c], .slice B 3 d] w (Ret0 (.agg #[.string ⟨#[98, 99, 97]⟩, .string ⟨#[98, 65]⟩, .int .i64 4, .int .i64 0, .bool true]) w) :=
  s_run F G A B c d w [2, 0, 1] 3 ⟨⟨#[98, 99, 97]⟩, ⟨#[98, 65]⟩, 4, 0, true⟩ rfl (by decide) (by kernel_rfl) h h2
theorem s_run2 (h : RulesAt F w A twoR) (h2 : SlAt vI G w B [0, 2]) : Calls Try.prog 15 #[.agg #[.int .i64 2, .int .u8 1, .slice A 3 c], .slice B 2 d] w (Ret0 (.agg #[.string ⟨#[]⟩, .string ⟨#[]⟩, .int .i64 0, .int .i64 0, .bool false]) w) :=
  s_run F G A B c d w [0, 2] 2 ⟨⟨#[]⟩, ⟨#[]⟩, 0, 0, false⟩ rfl (by decide) (by kernel_rfl) h h2
theorem s_run3 (h : RulesAt F w A twoR) (h2 : SlAt vI G w B [1]) : Calls Try.prog 15 #[.agg #[.int .i64 2, .int .u8 1, .slice A 3 c], .slice B 1 d] w (Ret0 (.agg #[.string ⟨#[]⟩, .string ⟨#[]⟩, .int .i64 0, .int .i64 0, .bool false]) w) :=
  s_run F G A B c d w [1] 1 ⟨⟨#[]⟩, ⟨#[]⟩, 0, 0, false⟩ rfl (by decide) (by kernel_rfl) h h2
theorem s_run4 (h : RulesAt F w A twoR) (h2 : SlAt vI G w B [3]) : Calls Try.prog 15 #[.agg #[.int .i64 2, .int .u8 1, .slice A 3 c], .slice B 1 d] w (Ret0 (.agg #[.string ⟨#[]⟩, .string ⟨#[]⟩, .int .i64 0, .int .i64 0, .bool false]) w) :=
  s_run F G A B c d w [3] 1 ⟨⟨#[]⟩, ⟨#[]⟩, 0, 0, false⟩ rfl (by decide) (by kernel_rfl) h h2
theorem s_run5 (h : RulesAt F w A twoR) : Calls Try.prog 15 #[.agg #[.int .i64 2, .int .u8 1, .slice A 3 c], .slice none 0 0] w (Ret0 (.agg #[.string ⟨#[]⟩, .string ⟨#[]⟩, .int .i64 0, .int .i64 0, .bool true]) w) :=
  s_run F (fun _ => True) A none c 0 w [] 0 ⟨⟨#[]⟩, ⟨#[]⟩, 0, 0, true⟩ rfl (by decide) (by kernel_rfl) h (Reads.nil _)
end
end Go.Proofs.Ytpidgkngefkbeaa
