/- The fixed examples of layer 3: two, and what the functions of route give at its schemes. -/
import Derived.Test.YtpidgkngefkbeaaE6
import Derived.Test.YtpidgkngefkbeaaS0
import Derived.Test.YtpidgkngefkbeaaL4
import Derived.Test.YtpidgkngefkbeaaW9
import Derived.Test.YtpidgkngefkbeaaW10
set_option linter.unusedVariables false
set_option linter.unusedSimpArgs false
namespace Go.Proofs.Ytpidgkngefkbeaa
open Go.RowKit

def TwoRes (w : World) (e : Ending) (w' : World) : Prop := ∃ A c, e = .returned (.agg #[.int .i64 2, .int .u8 1, .slice A 3 c]) ∧ Below w.heap.size w w' ∧ RulesAt (w.heap.size ≤ ·) w' A twoR
set_option maxHeartbeats 1000000 in
theorem two_any (w : World) : Calls Try.prog 30 #[] w (TwoRes w) := by
  go_enter Try.func30, Try.ntmps30
  go_wp2_with fail
  refine bodyPost_ret (v := .agg #[.int .i64 2, .int .u8 1, .slice (some ⟨w.heap.size + 1, 0, none⟩) 3 3]) (by simp [results, Try.results30, go_sem]) rfl ⟨_, _, rfl, ?_, ?_⟩
  · exact ((Below.refl _ _).alloc (Nat.le_refl _) _).alloc (by simp) _
  · exact reads_new2 w _ _ _

/-- a mode that is none -/
theorem least_out (m ac : Nat) (A : Option Addr) (n c : Nat) (mode : Int) (w : World) (h : mode < 0 ∨ (m : Int) ≤ mode) :
    Calls Try.prog 24 #[.agg #[.int .i64 m, .int .u8 ac, .slice A n c], .int .i64 mode] w fun e w' => e = .returned (.tuple #[.slice none 0 0, .int .i64 0, .int .i64 30]) ∧ Below w.heap.size w w' := by
  by_cases h0 : mode < 0
  · have d1 : decide (mode < 0) = true := by simpa using h0
    clear h h0
    go_enter Try.func24, Try.ntmps24
    go_wp2_with fail
    refine bodyPost_ret (v := .tuple #[.slice none 0 0, .int .i64 0, .int .i64 30]) (by simp [results, Try.results24, go_sem]) rfl ⟨rfl, ?_⟩
    exact (Below.refl _ _).alloc (Nat.le_refl _) _
  · have d1 : decide (mode < 0) = false := by simpa using h0
    have d2 : decide ((m : Int) ≤ mode) = true := by simp; omega
    clear h h0
    go_enter Try.func24, Try.ntmps24
    go_wp2_with fail
    refine bodyPost_ret (v := .tuple #[.slice none 0 0, .int .i64 0, .int .i64 30]) (by simp [results, Try.results24, go_sem]) rfl ⟨rfl, ?_⟩
    exact (Below.refl _ _).alloc (Nat.le_refl _) _

/-- Least where there is a least end -/
def EndIs (p : EndR) (w : World) (e : Ending) (w' : World) : Prop := Below w.heap.size w w' ∧ ∃ A c, e = .returned (.tuple #[.slice A p.l.length c, .int .i64 p.cost, .int .i64 0]) ∧ SlAt vN (w.heap.size ≤ ·) w' A p.l
theorem least_is (F : Nat → Prop) (m ac : Nat) (A : Option Addr) (c : Nat) (rs : List Rule) (mode : Nat) (w : World) (hA : RulesAt F w A rs) (hF : ∀ b, F b → b < w.heap.size) (hn : rs.length < 1000) (hm : m ≤ 8) (hac : ac < 256) (hs : ∀ r ∈ rs, r.frm < m ∧ r.dst < m) (hbnd : ∀ r ∈ rs, r.cost ≤ 1000) (hmode : mode < m)
    {p : EndR} (hp : Least (accB ac) rs mode p) : Calls Try.prog 24 #[.agg #[.int .i64 m, .int .u8 ac, .slice A rs.length c], .int .i64 mode] w (EndIs p w) :=
  (least_any F m ac A c rs mode w hA hF hn hm hac hs hbnd hmode).mono fun e w' h => by
    obtain ⟨hb, ⟨q, B, d, hq, he, _, _, hr⟩ | ⟨hno, _⟩⟩ := h
    · obtain rfl := hq.unique hp
      exact ⟨hb, B, d, he, hr⟩
    · exact absurd hp.1 (hno p)
theorem least_no (F : Nat → Prop) (m ac : Nat) (A : Option Addr) (c : Nat) (rs : List Rule) (mode : Nat) (w : World) (hA : RulesAt F w A rs) (hF : ∀ b, F b → b < w.heap.size) (hn : rs.length < 1000) (hm : m ≤ 8) (hac : ac < 256) (hs : ∀ r ∈ rs, r.frm < m ∧ r.dst < m) (hbnd : ∀ r ∈ rs, r.cost ≤ 1000) (hmode : mode < m)
    (hp : ∀ p, ¬ IsEnd (accB ac) rs mode p) : Calls Try.prog 24 #[.agg #[.int .i64 m, .int .u8 ac, .slice A rs.length c], .int .i64 mode] w fun e w' => e = .returned (.tuple #[.slice none 0 0, .int .i64 0, .int .i64 50]) ∧ Below w.heap.size w w' :=
  (least_any F m ac A c rs mode w hA hF hn hm hac hs hbnd hmode).mono fun e w' h => by
    obtain ⟨hb, ⟨q, B, d, hq, he, _, _, hr⟩ | ⟨hno, he⟩⟩ := h
    · exact absurd hq.1 (hp q)
    · exact ⟨he, hb⟩
end Go.Proofs.Ytpidgkngefkbeaa
