/- What the fixed examples of layer 3 come to: plain facts. No program is in sight here. The fixed examples of layer 3: two, and what the functions of route give at its schemes. The fixed examples of layer 3, call by call. The walk of sanity of layer 3: the fixed examples hold. -/
import Derived.Test.YtpidgkngefkbeaaPA
import Derived.Test.YtpidgkngefkbeaaMB
import Derived.Test.YtpidgkngefkbeaaT1
import Derived.Test.YtpidgkngefkbeaaE6
import Derived.Test.YtpidgkngefkbeaaLA
import Derived.Test.YtpidgkngefkbeaaW9
import Derived.Test.YtpidgkngefkbeaaW10
set_option linter.unusedVariables false
set_option linter.unusedSimpArgs false
namespace Go.Proofs.Ytpidgkngefkbeaa
open Go.RowKit

def twoR : List Rule := [⟨0, 1, ⟨#[99]⟩, ⟨#[]⟩, 1⟩, ⟨1, 0, ⟨#[97]⟩, ⟨#[65]⟩, 1⟩, ⟨0, 0, ⟨#[98]⟩, ⟨#[98]⟩, 2⟩]
def fewR : List Rule := [⟨0, 1, ⟨#[99]⟩, ⟨#[]⟩, 1⟩, ⟨0, 0, ⟨#[98]⟩, ⟨#[98]⟩, 2⟩]

theorem acc1_0 : accB 1 0 = true := by decide
theorem acc1_1 : accB 1 1 = false := by decide
theorem nil_le (e : EndR) : EndR.le ⟨[], 0⟩ e := by
  rw [EndR.le_iff]
  rcases e with ⟨l, c⟩
  simp only
  rcases Nat.eq_zero_or_pos c with h | h
  · right
    refine ⟨h.symm, ?_⟩
    cases l with
    | nil => exact .inr ⟨rfl, rfl⟩
    | cons x l => exact .inl (by simp)
  · exact .inl h
theorem least_acc {acc : Nat → Bool} {rs : List Rule} {m : Nat} (h : acc m = true) : Least acc rs m ⟨[], 0⟩ := ⟨IsEnd.nil h, fun f _ => nil_le f⟩
theorem isEnd_nil {acc : Nat → Bool} {rs : List Rule} {m c : Nat} (h : IsEnd acc rs m ⟨[], c⟩) : acc m = true := by
  unfold IsEnd endOf at h
  split at h
  · assumption
  · cases h
theorem least_two1 : Least (accB 1) twoR 1 ⟨[1], 1⟩ := by
  refine ⟨IsEnd.ext (i := 1) (e := ⟨[], 0⟩) (r := ⟨1, 0, ⟨#[97]⟩, ⟨#[65]⟩, 1⟩) rfl rfl (IsEnd.nil acc1_0), ?_⟩
  rintro ⟨l, c⟩ h
  cases l with
  | nil => exact absurd (isEnd_nil h) (by rw [acc1_1]; decide)
  | cons i l =>
    obtain ⟨r, c', h1, h2, h3, rfl⟩ := h.cons
    match i, h1 with
    | 0, h1 => injection h1 with h1; subst h1; cases h2
    | 1, h1 => injection h1 with h1; subst h1; exact EndR.le_ext 1 1 (nil_le ⟨l, c'⟩)
    | 2, h1 => injection h1 with h1; subst h1; cases h2
    | n + 3, h1 => simp [twoR] at h1
theorem no_few1 (p : EndR) : ¬ IsEnd (accB 1) fewR 1 p := by
  rcases p with ⟨l, c⟩
  intro h
  cases l with
  | nil => exact absurd (isEnd_nil h) (by rw [acc1_1]; decide)
  | cons i l =>
    obtain ⟨r, c', h1, h2, h3, rfl⟩ := h.cons
    match i, h1 with
    | 0, h1 => injection h1 with h1; subst h1; cases h2
    | 1, h1 => injection h1 with h1; subst h1; cases h2
    | n + 2, h1 => simp [fewR] at h1

theorem reached_two0 : ReachedP twoR 0 := .refl 0
theorem reached_two1 : ReachedP twoR 1 := .step (x := 1) (by decide) (.refl 1)
theorem reached_few0 : ReachedP fewR 0 := .refl 0
theorem live_few0 : LiveP 1 2 fewR 0 := ⟨0, by decide, acc1_0, .refl 0⟩
theorem live_few1 : ¬ LiveP 1 2 fewR 1 := by
  rintro ⟨s, h1, h2, h3⟩
  have h0 : s = 0 := by
    rcases s with _ | _ | s
    · rfl
    · rw [acc1_1] at h2; cases h2
    · omega
  subst h0
  have key : ∀ a b, Reach (edgesOf selL fewR) a b → a = 0 → b = 0 := by
    intro a b h
    induction h with
    | refl m => exact id
    | step hx _ ih =>
      rintro rfl
      apply ih
      have : edgesOf selL fewR 0 = [0] := by decide
      rw [this] at hx
      simpa using hx
  have := key _ _ h3 rfl
  cases this
theorem bools_two {P : Nat → Prop} {V : List Bool} (hl : V.length = 2) (hV : ∀ x : Nat, V[x]? = some true ↔ P x) (b0 b1 : Bool) (h0 : b0 = true ↔ P 0) (h1 : b1 = true ↔ P 1) : V = [b0, b1] := by
  match V, hl with
  | [x, y], _ =>
    have e0 := hV 0
    have e1 := hV 1
    simp at e0 e1
    have : x = b0 := by rw [Bool.eq_iff_iff, e0, h0]
    have : y = b1 := by rw [Bool.eq_iff_iff, e1, h1]
    subst_vars; rfl
theorem idx_few {keep : Nat → Bool} (h : ∀ i (h : i < fewR.length), keep i = true ↔ ReachedP fewR fewR[i].frm ∧ LiveP 1 2 fewR fewR[i].dst) : idx keep fewR.length = [1] := by
  have h0 : keep 0 = false := by
    have := h 0 (by decide)
    rw [Bool.eq_false_iff]
    intro hk
    exact live_few1 (this.1 hk).2
  have h1 : keep 1 = true := (h 1 (by decide)).2 ⟨reached_few0, live_few0⟩
  show (List.range 2).filter keep = [1]
  simp [List.range_succ, List.filter_cons, h0, h1]
theorem SlAt.ints {F : Nat → Prop} {w : World} {A : Option Addr} {l : List Nat} (h : SlAt vN F w A l) : SlAt vI F w A (l.map fun n : Nat => (n : Int)) := by
  unfold SlAt at h ⊢
  rw [List.map_map]
  exact h
end Go.Proofs.Ytpidgkngefkbeaa
namespace Go.Proofs.Ytpidgkngefkbeaa
open Go.RowKit

def TwoRes (w : World) (e : Ending) (w' : World) : Prop := ∃ A c, e = .returned (.agg #[.int .i64 2, .int .u8 1, .slice A 3 c]) ∧ Below w.heap.size w w' ∧ RulesAt (w.heap.size ≤ ·) w' A twoR
set_option maxHeartbeats 1000000 in
theorem two_any (w : World) : Calls Try.prog 30 #[] w (TwoRes w) := by
  go_enter Try.func30, Try.ntmps30
  go_wp2_with fail
  refine bodyPost_ret (v := .agg #[.int .i64 2, .int .u8 1, .slice (some ⟨w.heap.size + 1, 0, none⟩) 3 3]) (by simp [results, Try.results30, go_sem]) rfl ⟨_, _, rfl, ?_, ?_⟩
  · exact ((Below.refl _ _).alloc (Nat.le_refl _) _).alloc (by simp) _
  · exact reads_new2 w _ _ _

/-- a mode that is none -/
theorem least_out (m ac : Nat) (A : Option Addr) (n c : Nat) (mode : Int) (w : World) (h : mode < 0 ∨ (m : Int) ≤ mode) :
    Calls Try.prog 24 #[.agg #[.int .i64 m, .int .u8 ac, .slice A n c], .int .i64 mode] w fun e w' => e = .returned (.tuple #[.slice none 0 0, .int .i64 0, .int .i64 30]) ∧ Below w.heap.size w w' := by
  by_cases h0 : mode < 0
  · have d1 : decide (mode < 0) = true := by simpa using h0
    clear h h0
    go_enter Try.func24, Try.ntmps24
    go_wp2_with fail
    refine bodyPost_ret (v := .tuple #[.slice none 0 0, .int .i64 0, .int .i64 30]) (by simp [results, Try.results24, go_sem]) rfl ⟨rfl, ?_⟩
    exact (Below.refl _ _).alloc (Nat.le_refl _) _
  · have d1 : decide (mode < 0) = false := by simpa using h0
    have d2 : decide ((m : Int) ≤ mode) = true := by simp; omega
    clear h h0
    go_enter Try.func24, Try.ntmps24
    go_wp2_with fail
    refine bodyPost_ret (v := .tuple #[.slice none 0 0, .int .i64 0, .int .i64 30]) (by simp [results, Try.results24, go_sem]) rfl ⟨rfl, ?_⟩
    exact (Below.refl _ _).alloc (Nat.le_refl _) _

/-- Least where there is a least end -/
def EndIs (p : EndR) (w : World) (e : Ending) (w' : World) : Prop := Below w.heap.size w w' ∧ ∃ A c, e = .returned (.tuple #[.slice A p.l.length c, .int .i64 p.cost, .int .i64 0]) ∧ SlAt vN (w.heap.size ≤ ·) w' A p.l
theorem least_is (F : Nat → Prop) (m ac : Nat) (A : Option Addr) (c : Nat) (rs : List Rule) (mode : Nat) (w : World) (hA : RulesAt F w A rs) (hF : ∀ b, F b → b < w.heap.size) (hn : rs.length < 1000) (hm : m ≤ 8) (hac : ac < 256) (hs : ∀ r ∈ rs, r.frm < m ∧ r.dst < m) (hbnd : ∀ r ∈ rs, r.cost ≤ 1000) (hmode : mode < m)
    {p : EndR} (hp : Least (accB ac) rs mode p) : Calls Try.prog 24 #[.agg #[.int .i64 m, .int .u8 ac, .slice A rs.length c], .int .i64 mode] w (EndIs p w) :=
  (least_any F m ac A c rs mode w hA hF hn hm hac hs hbnd hmode).mono fun e w' h => by
    obtain ⟨hb, ⟨q, B, d, hq, he, _, _, hr⟩ | ⟨hno, _⟩⟩ := h
    · obtain rfl := hq.unique hp
      exact ⟨hb, B, d, he, hr⟩
    · exact absurd hp.1 (hno p)
theorem least_no (F : Nat → Prop) (m ac : Nat) (A : Option Addr) (c : Nat) (rs : List Rule) (mode : Nat) (w : World) (hA : RulesAt F w A rs) (hF : ∀ b, F b → b < w.heap.size) (hn : rs.length < 1000) (hm : m ≤ 8) (hac : ac < 256) (hs : ∀ r ∈ rs, r.frm < m ∧ r.dst < m) (hbnd : ∀ r ∈ rs, r.cost ≤ 1000) (hmode : mode < m)
    (hp : ∀ p, ¬ IsEnd (accB ac) rs mode p) : Calls Try.prog 24 #[.agg #[.int .i64 m, .int .u8 ac, .slice A rs.length c], .int .i64 mode] w fun e w' => e = .returned (.tuple #[.slice none 0 0, .int .i64 0, .int .i64 50]) ∧ Below w.heap.size w w' :=
  (least_any F m ac A c rs mode w hA hF hn hm hac hs hbnd hmode).mono fun e w' h => by
    obtain ⟨hb, ⟨q, B, d, hq, he, _, _, hr⟩ | ⟨hno, he⟩⟩ := h
    · exact absurd hq.1 (hp q)
    · exact ⟨he, hb⟩
end Go.Proofs.Ytpidgkngefkbeaa
namespace Go.Proofs.Ytpidgkngefkbeaa
open Go.RowKit

section
variable (F G : Nat → Prop) (A B : Option Addr) (c d : Nat) (w : World)
theorem twoR_in : ∀ r ∈ twoR, r.frm < 2 ∧ r.dst < 2 := by decide
theorem twoR_cost : ∀ r ∈ twoR, r.cost ≤ 1000 := by decide
theorem fewR_in : ∀ r ∈ fewR, r.frm < 2 ∧ r.dst < 2 := by decide
theorem fewR_cost : ∀ r ∈ fewR, r.cost ≤ 1000 := by decide
theorem twoR_bnd : ∀ r ∈ twoR, r.bnd := by
  intro r h
  simp [twoR] at h
  rcases h with rfl | rfl | rfl <;> exact ⟨by decide, by decide, by decide⟩
def Ret0 (v : Value) (w : World) (e : Ending) (w' : World) : Prop := e = .returned v ∧ Below w.heap.size w w'
def Ret1 (x y : Value) (l : List Int) (w : World) (e : Ending) (w' : World) : Prop := ∃ B d, e = .returned (.tuple #[.slice B l.length d, x, y]) ∧ Below w.heap.size w w' ∧ SlAt vI (w.heap.size ≤ ·) w' B l
theorem s_least0 (h : RulesAt F w A twoR) : Calls Try.prog 24 #[.agg #[.int .i64 2, .int .u8 1, .slice A 3 c], .int .i64 0] w (Ret1 (.int .i64 0) (.int .i64 0) [] w) :=
  (least_is _ 2 1 A c twoR 0 w (Reads.all h) (fun _ h => h) (by decide) (by decide) (by decide) twoR_in twoR_cost (by decide) (least_acc acc1_0)).mono fun e w' ⟨hb, B, d, he, hr⟩ => ⟨B, d, he, hb, hr.ints⟩
theorem s_least1 (h : RulesAt F w A twoR) : Calls Try.prog 24 #[.agg #[.int .i64 2, .int .u8 1, .slice A 3 c], .int .i64 1] w (Ret1 (.int .i64 1) (.int .i64 0) [1] w) :=
  (least_is _ 2 1 A c twoR 1 w (Reads.all h) (fun _ h => h) (by decide) (by decide) (by decide) twoR_in twoR_cost (by decide) least_two1).mono fun e w' ⟨hb, B, d, he, hr⟩ => ⟨B, d, he, hb, hr.ints⟩
theorem s_least2 : Calls Try.prog 24 #[.agg #[.int .i64 2, .int .u8 1, .slice A 3 c], .int .i64 2] w (Ret0 (.tuple #[.slice none 0 0, .int .i64 0, .int .i64 30]) w) :=
  (least_out 2 1 A 3 c 2 w (.inr (by decide))).mono fun e w' h => h
theorem s_leastf (h : RulesAt F w A fewR) : Calls Try.prog 24 #[.agg #[.int .i64 2, .int .u8 1, .slice A 2 c], .int .i64 1] w (Ret0 (.tuple #[.slice none 0 0, .int .i64 0, .int .i64 50]) w) :=
  (least_no _ 2 1 A c fewR 1 w (Reads.all h) (fun _ h => h) (by decide) (by decide) (by decide) fewR_in fewR_cost (by decide) no_few1).mono fun e w' h => h
def TrimS (w : World) (e : Ending) (w' : World) : Prop := ∃ A1 c1 A2 c2, e = .returned (.tuple #[.agg #[.int .i64 2, .int .u8 1, .slice A1 1 c1], .slice A2 1 c2]) ∧ Below w.heap.size w w' ∧ SlAt vI (w.heap.size ≤ ·) w' A2 [1]
theorem s_trim (h : RulesAt F w A fewR) : Calls Try.prog 13 #[.agg #[.int .i64 2, .int .u8 1, .slice A 2 c]] w (TrimS w) :=
  (trim_any _ 2 1 A c fewR w (Reads.all h) (fun _ h => h) (by decide) (by decide) (by decide) (by decide) fewR_in).mono fun e w' ⟨keep, A1, c1, A2, c2, he, hb, hk, _, hr⟩ => by
    have hi := idx_few hk
    rw [hi] at he hr
    exact ⟨A1, c1, A2, c2, he, hb, hr.ints⟩
theorem s_reached (h : RulesAt F w A twoR) : Calls Try.prog 20 #[.agg #[.int .i64 2, .int .u8 1, .slice A 3 c]] w fun e w' => ∃ g, e = .returned (.slice (some ⟨g, 0, none⟩) 2 2) ∧ Below w.heap.size w w' ∧ SlAt vB (w.heap.size ≤ ·) w' (some ⟨g, 0, none⟩) [true, true] :=
  (reached_any _ 2 1 A c twoR w (Reads.all h) (fun _ h => h) (by decide) (by decide) (by decide) twoR_in).mono fun e w' ⟨g, V, he, hb, hg, hB, hl, hV⟩ => by
    obtain rfl := bools_two hl hV true true (by simp [reached_two0]) (by simp [reached_two1])
    exact ⟨g, he, hb, Reads.block hB hg⟩
theorem s_live (h : RulesAt F w A fewR) : Calls Try.prog 22 #[.agg #[.int .i64 2, .int .u8 1, .slice A 2 c]] w fun e w' => ∃ g, e = .returned (.slice (some ⟨g, 0, none⟩) 2 2) ∧ Below w.heap.size w w' ∧ SlAt vB (w.heap.size ≤ ·) w' (some ⟨g, 0, none⟩) [true, false] :=
  (live_any _ 2 1 A c fewR w (Reads.all h) (fun _ h => h) (by decide) (by decide) (by decide) fewR_in).mono fun e w' ⟨g, V, he, hb, hg, hB, hl, hV⟩ => by
    obtain rfl := bools_two hl hV true false (by simp [live_few0]) (by simp [live_few1])
    exact ⟨g, he, hb, Reads.block hB hg⟩
theorem s_run (l : List Int) (n : Nat) (o : RunR) (hn : n = l.length) (hl : l.length ≤ 1000) (ho : runFrom twoR .start l = o) (h : RulesAt F w A twoR) (h2 : SlAt vI G w B l) :
    Calls Try.prog 15 #[.agg #[.int .i64 2, .int .u8 1, .slice A 3 c], .slice B n d] w (Ret0 (.agg #[.string o.inp, .string o.out, .int .i64 o.cost, .int .i64 o.mode, .bool o.ok]) w) := by
  subst hn ho
  exact run_any F G 2 1 A B c d twoR l w h h2 (by decide) hl twoR_bnd
theorem s_run1 (h : RulesAt F w A twoR) (h2 : SlAt vI G w B [2, 0, 1]) : Calls Try.prog 15 #[.agg #[.int .i64 2, .int .u8 1, .slice A 3 c], .slice B 3 d] w (Ret0 (.agg #[.string ⟨#[98, 99, 97]⟩, .string ⟨#[98, 65]⟩, .int .i64 4, .int .i64 0, .bool true]) w) :=
  s_run F G A B c d w [2, 0, 1] 3 ⟨⟨#[98, 99, 97]⟩, ⟨#[98, 65]⟩, 4, 0, true⟩ rfl (by decide) (by kernel_rfl) h h2
theorem s_run2 (h : RulesAt F w A twoR) (h2 : SlAt vI G w B [0, 2]) : Calls Try.prog 15 #[.agg #[.int .i64 2, .int .u8 1, .slice A 3 c], .slice B 2 d] w (Ret0 (.agg #[.string ⟨#[]⟩, .string ⟨#[]⟩, .int .i64 0, .int .i64 0, .bool false]) w) :=
  s_run F G A B c d w [0, 2] 2 ⟨⟨#[]⟩, ⟨#[]⟩, 0, 0, false⟩ rfl (by decide) (by kernel_rfl) h h2
theorem s_run3 (h : RulesAt F w A twoR) (h2 : SlAt vI G w B [1]) : Calls Try.prog 15 #[.agg #[.int .i64 2, .int .u8 1, .slice A 3 c], .slice B 1 d] w (Ret0 (.agg #[.string ⟨#[]⟩, .string ⟨#[]⟩, .int .i64 0, .int .i64 0, .bool false]) w) :=
  s_run F G A B c d w [1] 1 ⟨⟨#[]⟩, ⟨#[]⟩, 0, 0, false⟩ rfl (by decide) (by kernel_rfl) h h2
theorem s_run4 (h : RulesAt F w A twoR) (h2 : SlAt vI G w B [3]) : Calls Try.prog 15 #[.agg #[.int .i64 2, .int .u8 1, .slice A 3 c], .slice B 1 d] w (Ret0 (.agg #[.string ⟨#[]⟩, .string ⟨#[]⟩, .int .i64 0, .int .i64 0, .bool false]) w) :=
  s_run F G A B c d w [3] 1 ⟨⟨#[]⟩, ⟨#[]⟩, 0, 0, false⟩ rfl (by decide) (by kernel_rfl) h h2
theorem s_run5 (h : RulesAt F w A twoR) : Calls Try.prog 15 #[.agg #[.int .i64 2, .int .u8 1, .slice A 3 c], .slice none 0 0] w (Ret0 (.agg #[.string ⟨#[]⟩, .string ⟨#[]⟩, .int .i64 0, .int .i64 0, .bool true]) w) :=
  s_run F (fun _ => True) A none c 0 w [] 0 ⟨⟨#[]⟩, ⟨#[]⟩, 0, 0, true⟩ rfl (by decide) (by kernel_rfl) h (Reads.nil _)
end
end Go.Proofs.Ytpidgkngefkbeaa
namespace Go.Proofs.Ytpidgkngefkbeaa
open Go.RowKit

theorem s_ints (F G : Nat → Prop) (A B : Option Addr) (c d : Nat) (w : World) (h : SlAt vI F w A [1]) (h2 : SlAt vI G w B [1]) : Calls Try.prog 18 #[.slice A 1 c, .slice B 1 d] w (Ret0 (.bool true) w) :=
  ints_any F G A B c d [1] [1] w h h2 (by decide) (by decide)
theorem s_bools (F G : Nat → Prop) (A B : Option Addr) (c d : Nat) (l : List Bool) (w : World) (h : SlAt vB F w A l) (h2 : SlAt vB G w B l) (hl : l.length = 2 := by rfl) : Calls Try.prog 19 #[.slice A 2 c, .slice B 2 d] w (Ret0 (.bool true) w) := by
  have h3 := bools_any F G A B c d l l w h h2 (by omega) (by omega)
  rw [hl] at h3
  exact h3.mono fun e w' ⟨he, hb⟩ => ⟨by rw [he]; simp, hb⟩
/-- while the examples run: the scheme's box lies at b, its rules at A -/
def ES (w : World) (b : Nat) (A : Option Addr) (c : Nat) (W : World) : Prop :=
  Below w.heap.size w W ∧ Blk W b 30 #[.int .i64 2, .int .u8 1, .slice A 3 c] ∧ RulesAt (w.heap.size ≤ ·) W A twoR
theorem ES.next {w W W' : World} {b : Nat} {A : Option Addr} {c : Nat} (h : ES w b A c W) (hb : Below W.heap.size W W') : ES w b A c W' := ⟨h.1.trans (hb.mono h.1.size), h.2.1.next hb, Reads.below h.2.2 hb⟩
theorem ES.cells {w W : World} {b : Nat} {A : Option Addr} {c : Nat} (h : ES w b A c W) : W.cell? ⟨b, 0, none⟩ = some (.int .i64 2) ∧ W.cell? ⟨b, 1, none⟩ = some (.int .u8 1) ∧ W.cell? ⟨b, 2, none⟩ = some (.slice A 3 c) ∧ b < W.heap.size := ⟨h.2.1.cell 0, h.2.1.cell 1, h.2.1.cell 2, h.2.1.lt⟩

/-- behind Trim: all that is read later -/
structure FS (w : World) (b : Nat) (A : Option Addr) (c : Nat) (B1 : Option Addr) (Y : Nat) (A2 : Option Addr) (c2 Z : Nat) (A5 : Option Addr) (c5 : Nat) (A6 : Option Addr) (W : World) : Prop where
  es : ES w b A c W
  s1 : SlAt vI (fun _ => True) W B1 [1]
  y : Blk W Y 30 #[.int .i64 2, .int .u8 1, .slice A2 2 c2]
  r2 : RulesAt (fun _ => True) W A2 fewR
  z : Blk W Z 30 #[.int .i64 2, .int .u8 1, .slice A5 1 c5]
  s6 : SlAt vI (fun _ => True) W A6 [1]
theorem FS.next {w : World} {b : Nat} {A : Option Addr} {c : Nat} {B1 : Option Addr} {Y : Nat} {A2 : Option Addr} {c2 Z : Nat} {A5 : Option Addr} {c5 : Nat} {A6 : Option Addr} {W W' : World} (h : FS w b A c B1 Y A2 c2 Z A5 c5 A6 W) (hb : Below W.heap.size W W') : FS w b A c B1 Y A2 c2 Z A5 c5 A6 W' :=
  ⟨h.es.next hb, Reads.below h.s1 hb, h.y.next hb, Reads.below h.r2 hb, h.z.next hb, Reads.below h.s6 hb⟩
theorem FS.few {w : World} {b : Nat} {A : Option Addr} {c : Nat} {B1 : Option Addr} {Y : Nat} {A2 : Option Addr} {c2 Z : Nat} {A5 : Option Addr} {c5 : Nat} {A6 : Option Addr} {W : World} (h : FS w b A c B1 Y A2 c2 Z A5 c5 A6 W) :
    W.cell? ⟨Y, 0, none⟩ = some (.int .i64 2) ∧ W.cell? ⟨Y, 1, none⟩ = some (.int .u8 1) ∧ W.cell? ⟨Y, 2, none⟩ = some (.slice A2 2 c2) ∧ Y < W.heap.size := ⟨h.y.cell 0, h.y.cell 1, h.y.cell 2, h.y.lt⟩

set_option maxHeartbeats 2000000 in
set_option maxRecDepth 100000 in
theorem sanity_any (w : World) : Calls Try.prog 10 #[] w (Ret0 (.bool true) w) := by
  go_enter Try.func10, Try.ntmps10
  go_wp2_with fail
  refine (two_any _).mono ?_
  rintro e w1 ⟨A, c, rfl, hb1, hr1⟩
  go_upto_region 2 with (fail)
  have hba := (Below.refl w1.heap.size w1).alloc (Nat.le_refl _) (.cells #[.int .i64 2, .int .u8 1, .slice A 3 c] 30)
  refine world_gen (ES w w1.heap.size A c) ⟨hb1.trans (hba.mono hb1.size), Blk.new _ _ _, Reads.below hr1 hba⟩ ?_
  clear hba hr1
  have hwb : w.heap.size ≤ w1.heap.size := hb1.size
  clear hb1
  generalize w1.heap.size = b at *
  intro W hW
  obtain ⟨x0, x1, x2, hlt⟩ := hW.cells
  have H0 := Lib.hid hW
  clear hW
  go_wp2_with fail
  refine (s_least0 _ A c _ H0.out.2.2).mono ?_
  rintro e w2 ⟨B0, d0, rfl, hb2, hsl0⟩
  obtain ⟨y0, y1, y2, hlt2⟩ := (H0.out.next hb2).cells
  have H1 := Lib.hid (H0.out.next hb2)
  clear hsl0 H0 hb2 x0 x1 x2 hlt
  go_wp2_with fail
  refine (s_least1 _ A c _ H1.out.2.2).mono ?_
  rintro e w3 ⟨B1, d1, rfl, hb3, hsl1⟩
  obtain ⟨x0, x1, x2, hlt⟩ := (H1.out.next hb3).cells
  have H2 := Lib.hid (H1.out.next hb3)
  have HB1 := Lib.hid hsl1
  clear hsl1 H1 hb3 y0 y1 y2 hlt2
  go_wp2_with fail
  refine (s_least2 A c _).mono ?_
  rintro e w4 ⟨rfl, hb4⟩
  have H3 := Lib.hid (H2.out.next hb4)
  have HB2 := Lib.hid (Reads.below HB1.out hb4)
  clear HB1 H2 hb4 x0 x1 x2 hlt
  go_upto_region 5 with (fail)
  go_cut [11] (fun v wx => ∃ Y A2 c2, v = .pointer (some ⟨Y, 0, none⟩) ∧ ES w b A c wx ∧ SlAt vI (w2.heap.size ≤ ·) wx B1 [1] ∧ Blk wx Y 30 #[.int .i64 2, .int .u8 1, .slice A2 2 c2] ∧ RulesAt (w4.heap.size ≤ ·) wx A2 fewR)
  case first =>
    obtain ⟨x0, x1, x2, hlt⟩ := H3.out.cells
    obtain ⟨br, o, rfl, hbr, hbr2, p0, p1, p2, p3, p4⟩ := RulesAt.at_ H3.out.2.2 (k := 0) (by decide)
    obtain ⟨br', o', e0, _, _, q0, q1, q2, q3, q4⟩ := RulesAt.at_ H3.out.2.2 (k := 2) (by decide)
    injection e0 with e0
    injection e0 with e0 e1
    subst e0 e1
    simp [twoR] at p0 p1 p2 p3 p4 q0 q1 q2 q3 q4
    go_region_held3 (fun w' => w'.cell? ⟨b, 2, none⟩ = some (.slice (some ⟨br, o, none⟩) 3 c) ∧ w'.cell? ⟨br, o, none⟩ = some (.int .i64 0) ∧ w'.cell? ⟨br, o + 1, none⟩ = some (.int .i64 1) ∧ w'.cell? ⟨br, o + 2, none⟩ = some (.string ⟨#[99]⟩) ∧ w'.cell? ⟨br, o + 3, none⟩ = some (.string ⟨#[]⟩) ∧ w'.cell? ⟨br, o + 4, none⟩ = some (.int .i64 1) ∧
      w'.cell? ⟨br, o + 10, none⟩ = some (.int .i64 0) ∧ w'.cell? ⟨br, o + 10 + 1, none⟩ = some (.int .i64 0) ∧ w'.cell? ⟨br, o + 10 + 2, none⟩ = some (.string ⟨#[98]⟩) ∧ w'.cell? ⟨br, o + 10 + 3, none⟩ = some (.string ⟨#[98]⟩) ∧ w'.cell? ⟨br, o + 10 + 4, none⟩ = some (.int .i64 2)) (go_keep) (fail)
    all_goals (go_wp2; go_meet)
    all_goals
      first
        | exact ⟨w4.heap.size + 1, _, _, rfl, H3.out.next (below_two _ _ _), Reads.below HB2.out (below_two _ _ _), Blk.drew (Blk.new2 _ _ _ _), Reads.block (Blk.drew ((Blk.new _ _ _).alloc _)) (Nat.le_refl _)⟩
        | exact ⟨w4.heap.size, _, _, rfl, H3.out.next (below_two _ _ _), Reads.below HB2.out (below_two _ _ _), Blk.drew ((Blk.new _ _ _).alloc _), Reads.below (reads_new2 _ _ _ _) ((Below.refl _ _).drew)⟩
  case rest =>
    obtain ⟨Y, A2, c2, rfl, hE, hsl, bY, hr2⟩ := hcut
    have y0 : wc.cell? ⟨Y, 0, none⟩ = some (.int .i64 2) := bY.cell 0
    have y1 : wc.cell? ⟨Y, 1, none⟩ = some (.int .u8 1) := bY.cell 1
    have y2 : wc.cell? ⟨Y, 2, none⟩ = some (.slice A2 2 c2) := bY.cell 2
    have hylt := bY.lt
    have HE := Lib.hid hE
    have HS := Lib.hid hsl
    have HY := Lib.hid bY
    have HR := Lib.hid hr2
    clear hE hsl bY hr2
    go_wp2_with fail
    refine (s_trim _ A2 c2 _ HR.out).mono ?_
    rintro e w5 ⟨A5, c5, A6, c6, rfl, hb5, hsl6⟩
    have HB5 := Lib.hid hb5
    have HS6 := Lib.hid hsl6
    clear y0 y1 y2 hylt hb5 hsl6
    go_upto_region 7 with (fail)
    have hba := (Below.refl w5.heap.size w5).alloc (Nat.le_refl _) (.cells #[.int .i64 2, .int .u8 1, .slice A5 1 c5] 30)
    have hb6 := HB5.out.trans (hba.mono HB5.out.size)
    refine world_gen (FS w b A c B1 Y A2 c2 w5.heap.size A5 c5 A6) ⟨HE.out.next hb6, (Reads.below HS.out hb6).mono (fun _ _ => trivial), HY.out.next hb6, (Reads.below HR.out hb6).mono (fun _ _ => trivial), Blk.new _ _ _, (Reads.below HS6.out hba).mono (fun _ _ => trivial)⟩ ?_
    clear hba hb6 HB5 HS6 HE HS HY HR
    generalize w5.heap.size = Z at *
    intro W7 h7
    obtain ⟨y0, y1, y2, hylt⟩ := h7.few
    have H7 := Lib.hid h7
    clear h7
    go_wp2_with fail
    refine (s_leastf _ A2 c2 _ H7.out.r2).mono ?_
    rintro e w8 ⟨rfl, hb8⟩
    obtain ⟨x0, x1, x2, hlt⟩ := (H7.out.next hb8).es.cells
    have H8 := Lib.hid (H7.out.next hb8)
    clear y0 y1 y2 hylt hb8 H7
    go_wp2_with fail
    refine (s_run1 _ (fun _ => True) A _ c _ _ (H8.out.next (below_one _ _)).es.2.2 (Reads.block (Blk.new _ _ _) trivial)).mono ?_
    rintro e w9 ⟨rfl, hb9⟩
    obtain ⟨y0, y1, y2, hylt⟩ := ((H8.out.next (below_one _ _)).next hb9).es.cells
    have H9 := Lib.hid ((H8.out.next (below_one _ _)).next hb9)
    clear x0 x1 x2 hlt hb9 H8
    go_wp2_with fail
    refine (s_run2 _ (fun _ => True) A _ c _ _ (H9.out.next (below_one _ _)).es.2.2 (Reads.block (Blk.new _ _ _) trivial)).mono ?_
    rintro e w10 ⟨rfl, hb10⟩
    obtain ⟨x0, x1, x2, hlt⟩ := ((H9.out.next (below_one _ _)).next hb10).es.cells
    have H10 := Lib.hid ((H9.out.next (below_one _ _)).next hb10)
    clear y0 y1 y2 hylt hb10 H9
    go_wp2_with fail
    refine (s_run3 _ (fun _ => True) A _ c _ _ (H10.out.next (below_one _ _)).es.2.2 (Reads.block (Blk.new _ _ _) trivial)).mono ?_
    rintro e w11 ⟨rfl, hb11⟩
    obtain ⟨y0, y1, y2, hylt⟩ := ((H10.out.next (below_one _ _)).next hb11).es.cells
    have H11 := Lib.hid ((H10.out.next (below_one _ _)).next hb11)
    clear x0 x1 x2 hlt hb11 H10
    go_wp2_with fail
    refine (s_run4 _ (fun _ => True) A _ c _ _ (H11.out.next (below_one _ _)).es.2.2 (Reads.block (Blk.new _ _ _) trivial)).mono ?_
    rintro e w12 ⟨rfl, hb12⟩
    obtain ⟨x0, x1, x2, hlt⟩ := ((H11.out.next (below_one _ _)).next hb12).es.cells
    have H12 := Lib.hid ((H11.out.next (below_one _ _)).next hb12)
    clear y0 y1 y2 hylt hb12 H11
    go_wp2_with fail
    refine (s_run5 _ A c _ H12.out.es.2.2).mono ?_
    rintro e w13 ⟨rfl, hb13⟩
    have H13 := Lib.hid (H12.out.next hb13)
    clear x0 x1 x2 hlt hb13 H12
    go_wp2_with fail
    refine (s_ints _ (fun _ => True) B1 _ _ _ _ (H13.out.next (below_one _ _)).s1 (Reads.block (Blk.new _ _ _) trivial)).mono ?_
    rintro e w14 ⟨rfl, hb14⟩
    have h14 := (H13.out.next (below_one _ _)).next hb14
    have z2 : w14.cell? ⟨Z, 2, none⟩ = some (.slice A5 1 c5) := h14.z.cell 2
    have hz := h14.z.lt
    have H14 := Lib.hid h14
    clear h14 hb14 H13
    go_wp2_with fail
    refine (s_ints _ (fun _ => True) A6 _ _ _ _ (H14.out.next (below_one _ _)).s6 (Reads.block (Blk.new _ _ _) trivial)).mono ?_
    rintro e w15 ⟨rfl, hb15⟩
    have h15 := (H14.out.next (below_one _ _)).next hb15
    obtain ⟨x0, x1, x2, hlt⟩ := h15.es.cells
    have H15 := Lib.hid h15
    clear h15 hb15 H14 z2 hz
    go_wp2_with fail
    refine (s_reached _ A c _ H15.out.es.2.2).mono ?_
    rintro e w16 ⟨g16, rfl, hb16, hr16⟩
    have H16 := Lib.hid (H15.out.next hb16)
    have HR16 := Lib.hid hr16
    clear hb16 hr16 H15 x0 x1 x2 hlt
    go_wp2_with fail
    refine (s_bools _ (fun _ => True) _ _ _ _ [true, true] _ (Reads.below HR16.out (below_one _ _)) (Reads.block (Blk.new _ _ _) trivial)).mono ?_
    rintro e w17 ⟨rfl, hb17⟩
    have h17 := (H16.out.next (below_one _ _)).next hb17
    obtain ⟨y0, y1, y2, hylt⟩ := h17.few
    have H17 := Lib.hid h17
    clear h17 hb17 H16 HR16
    go_wp2_with fail
    refine (s_live _ A2 c2 _ H17.out.r2).mono ?_
    rintro e w18 ⟨g18, rfl, hb18, hr18⟩
    have H18 := Lib.hid (H17.out.next hb18)
    have HR18 := Lib.hid hr18
    clear hb18 hr18 H17 y0 y1 y2 hylt
    go_wp2_with fail
    refine (s_bools _ (fun _ => True) _ _ _ _ [true, false] _ (Reads.below HR18.out (below_one _ _)) (Reads.block (Blk.new _ _ _) trivial)).mono ?_
    rintro e w19 ⟨rfl, hb19⟩
    have HB := Lib.hid ((H18.out.next (below_one _ _)).next hb19).es.1
    clear hb19 H18 HR18
    go_wp2_with fail
    go_ret
    exact ⟨rfl, HB.out⟩
end Go.Proofs.Ytpidgkngefkbeaa
