/- The walk of the reference's Least. -/
import Derived.Test.YtpidgkngefkbeaaW18
import Derived.Test.YtpidgkngefkbeaaSA
set_option linter.unusedVariables false
set_option linter.unusedSimpArgs false
namespace Go.Proofs.Ytpidgkngefkbeaa
open Go.RowKit Go.Maps Go.WideElems

theorem least3_out (m ac : Nat) (A : Option Addr) (n c : Nat) (mode : Int) (w : World) (h : mode < 0 ∨ (m : Int) ≤ mode) :
    Calls Try.prog 25 #[.agg #[.int .i64 m, .int .u8 ac, .slice A n c], .int .i64 mode] w fun e w' => e = .returned (.tuple #[.slice none 0 0, .int .i64 0, .int .i64 30]) ∧ Below w.heap.size w w' := by
  by_cases h0 : mode < 0
  · have d1 : decide (mode < 0) = true := by simpa using h0
    clear h h0
    go_enter Try.func25, Try.ntmps25
    go_wp2_with fail
    refine bodyPost_ret (v := .tuple #[.slice none 0 0, .int .i64 0, .int .i64 30]) (by simp [results, Try.results25, go_sem]) rfl ⟨rfl, ?_⟩
    exact (Below.refl _ _).alloc (Nat.le_refl _) _
  · have d1 : decide (mode < 0) = false := by simpa using h0
    have d2 : decide ((m : Int) ≤ mode) = true := by simp; omega
    clear h h0
    go_enter Try.func25, Try.ntmps25
    go_wp2_with fail
    refine bodyPost_ret (v := .tuple #[.slice none 0 0, .int .i64 0, .int .i64 30]) (by simp [results, Try.results25, go_sem]) rfl ⟨rfl, ?_⟩
    exact (Below.refl _ _).alloc (Nat.le_refl _) _
/-- what the reference's Least hands back for a mode of the scheme -/
def Least3Res (acc : Nat → Bool) (rs : List Rule) (m mode : Nat) (w : World) (e : Ending) (w' : World) : Prop :=
  Below w.heap.size w w' ∧ ((∃ p A c, LeastK acc rs m mode (some p) ∧ e = .returned (.tuple #[.slice A p.l.length c, .int .i64 p.cost, .int .i64 0]) ∧ p.l.length ≤ c ∧ p.l.length ≤ 8 ∧ SlAt vN (w.heap.size ≤ ·) w' A p.l) ∨
    (LeastK acc rs m mode none ∧ e = .returned (.tuple #[.slice none 0 0, .int .i64 0, .int .i64 50])))
set_option maxHeartbeats 2000000 in
theorem least3_any (F : Nat → Prop) (m ac : Nat) (A : Option Addr) (c : Nat) (rs : List Rule) (mode : Nat) (w : World) (hA : RulesAt F w A rs) (hF : ∀ b, F b → b < w.heap.size) (hn : rs.length < 1000) (hm : m ≤ 8) (hac : ac < 256) (hs : ∀ r ∈ rs, r.frm < m ∧ r.dst < m) (hcost : ∀ r ∈ rs, r.cost ≤ 1000) (hmode : mode < m) :
    Calls Try.prog 25 #[.agg #[.int .i64 m, .int .u8 ac, .slice A rs.length c], .int .i64 mode] w (Least3Res (accB ac) rs m mode w) := by
  have d1 : decide ((mode : Int) < 0) = false := by simp
  have d2 : decide ((m : Int) ≤ (mode : Int)) = false := by simp; omega
  have d3 : decide (m ≤ mode) = false := by simp; omega
  go_enter Try.func25, Try.ntmps25
  go_upto_region 3 with (fail)
  clear d1 d2 d3
  have HB0 := Lib.hid (Blk.new w 30 #[.int .i64 m, .int .u8 ac, .slice A rs.length c])
  refine world_gen (fun W => Below w.heap.size w W ∧ Blk W w.heap.size 30 #[.int .i64 m, .int .u8 ac, .slice A rs.length c]) ⟨below_one _ _, HB0.out⟩ ?_
  clear HB0
  rintro W ⟨hbel, b0⟩
  have x0 : W.cell? ⟨w.heap.size, 0, none⟩ = some (.int .i64 m) := b0.cell 0
  have x1 : W.cell? ⟨w.heap.size, 1, none⟩ = some (.int .u8 ac) := b0.cell 1
  have x2 : W.cell? ⟨w.heap.size, 2, none⟩ = some (.slice A rs.length c) := b0.cell 2
  have hlt := b0.lt
  clear b0
  have hA2 : RulesAt F W A rs := Reads.lower hA hF hbel
  have hF2 : ∀ b, F b → b < W.heap.size := fun b hb => Nat.lt_of_lt_of_le (hF b hb) hbel.size
  go_wp2_with fail
  refine (ends3_any F m ac A c rs _ hA2 hF2 hn hm hac hs hcost).mono ?_
  rintro e w2 ⟨g, cap, E, rfl, hb2, hg, hrow, hL, hB⟩
  have hi : (mode : Int) < (m : Int) := by omega
  have hat := hrow.at_ mode hmode
  have hlk := hL mode hmode
  have hgl := hrow.lt
  have hbel2 := hbel.trans (hb2.mono hbel.size)
  have hWs := hbel.size
  have HBEL := Lib.hid hbel2
  clear x0 x1 x2 hlt hrow hL hA2 hbel hb2 hbel2
  cases hE : E mode with
  | none =>
    rw [hE] at hat hlk
    obtain ⟨z0, z1, z2⟩ := hat
    have HL := Lib.hid hlk
    clear hlk hE
    go_wp2_with fail
    refine bodyPost_ret (v := .tuple #[.slice none 0 0, .int .i64 0, .int .i64 50]) (by simp [results, Try.results25, go_sem]) rfl ⟨HBEL.out.alloc HBEL.out.size _, .inr ⟨HL.out, rfl⟩⟩
  | some p =>
    obtain ⟨hpl, hpc⟩ := hB _ _ hE
    rw [hE] at hat hlk
    obtain ⟨B, d, z0, z1, z2, hd, hsl⟩ := hat
    have HL := Lib.hid hlk
    have HSL := Lib.hid hsl
    clear hlk hE hsl
    go_wp2_with fail
    go_quiet (fail)
    go_wp2_with fail
    refine bodyPost_ret (v := .tuple #[.slice B p.l.length d, .int .i64 p.cost, .int .i64 0]) (by simp [results, Try.results25, go_sem]) rfl ⟨below_drewN (HBEL.out.alloc HBEL.out.size _) _, .inl ⟨p, B, d, HL.out, rfl, hd, by omega, ?_⟩⟩
    exact (Reads.below HSL.out (below_drewN (below_one _ _) _)).mono fun b hb => by omega
end Go.Proofs.Ytpidgkngefkbeaa
