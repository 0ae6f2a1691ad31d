/- Cheapest: the first of Best's list at k = 1. -/
import Derived.Test.YthcnnadggffjhaaI11
set_option linter.unusedVariables false
set_option linter.unusedSimpArgs false
namespace Go.Proofs.Ythcnnadggffjhaa
open Go.RowKit

/-- what Cheapest hands back where Best's way is gone -/
def CheapRes (acc : Nat → Bool) (rs : List Rule) (out : ByteArray) (w : World) (e : Ending) (w' : World) : Prop :=
  Below w.heap.size w w' ∧ ∃ N l, outerF acc rs out sortedS N 1 [startP] [] [] = some l ∧ ((l = [] ∧ e = .returned (.tuple #[.string ByteArray.empty, .int .i64 0, .int .i64 50])) ∨ (∃ p l', l = p :: l' ∧ e = .returned (.tuple #[.string p.1, .int .i64 p.2, .int .i64 0])))
set_option maxHeartbeats 1000000 in
set_option maxRecDepth 100000 in
theorem cheapest_arg (m ac : Nat) (A : Option Addr) (n c : Nat) (out : ByteArray) (w : World) (ho : out.size ≤ maxLen) (h : isText out = false) :
    Calls Try.prog 14 #[.agg #[.int .i64 m, .int .u8 ac, .slice A n c], .string out] w fun x w' => x = .returned (.tuple #[.string ByteArray.empty, .int .i64 0, .int .i64 1]) ∧ Below w.heap.size w w' := by
  go_enter Try.func14, Try.ntmps14
  go_wp2_with (go_at_call 12; refine (best_arg m ac A n c out 1 _ ho (.inl h)).mono ?_; rintro e w2 ⟨rfl, hb⟩)
  refine bodyPost_ret (v := .tuple #[.string ByteArray.empty, .int .i64 0, .int .i64 1]) (by simp [results, Try.results14, go_sem]; rfl) rfl ⟨rfl, (below_one _ _).trans (hb.mono (by simp))⟩
theorem best_open {acc : Nat → Bool} {rs : List Rule} {out : ByteArray} {w w' : World} {e : Ending} (h : BestRes acc rs out 1 w e w') :
    ∃ A n c er, e = .returned (.tuple #[.slice A n c, .int .i64 er]) ∧ Below w.heap.size w w' ∧ ∃ N l, outerF acc rs out sortedS N 1 [startP] [] [] = some l ∧ ((l = [] ∧ er = 50 ∧ n = 0 ∧ A = none) ∨ (∃ p l', l = p :: l' ∧ er = 0 ∧ n = 1 ∧ 1 ≤ c ∧ Reads (w.heap.size ≤ ·) w' A (resCells p))) := by
  obtain ⟨hb, N, l, ho, (⟨rfl, rfl⟩ | ⟨hne, A, c, rfl, hc, hR⟩)⟩ := h
  · exact ⟨none, 0, 0, 50, rfl, hb, N, [], ho, .inl ⟨rfl, rfl, rfl, rfl⟩⟩
  · cases l with
    | nil => exact absurd rfl hne
    | cons p l' =>
      have hm : min 1 (p :: l').length = 1 := by simp
      rw [hm] at hc
      refine ⟨A, 1, c, 0, by rw [hm], hb, N, p :: l', ho, .inr ⟨p, l', rfl, rfl, rfl, hc, ?_⟩⟩
      simpa using hR
set_option maxHeartbeats 4000000 in
set_option maxRecDepth 100000 in
theorem cheapest_any (F : Nat → Prop) (m ac : Nat) (A : Option Addr) (c : Nat) (rs : List Rule) (out : ByteArray) (w : World) (hA : RulesAt F w A rs) (hF : ∀ b, F b → b < w.heap.size) (hn : rs.length < 1000) (hm0 : 0 < m) (hm : m ≤ 8) (hac : ac < 256)
    (hs : ∀ r ∈ rs, r.frm < m ∧ r.dst < m) (hb : ∀ r ∈ rs, r.inp.size ≤ 4 ∧ r.out.size ≤ 4 ∧ r.cost ≤ 1000) (hot : isText out = true) (hW : (rs.length + 1) ^ (m * (out.size + 1) - 1) < 1000000000000) :
    Calls Try.prog 14 #[.agg #[.int .i64 m, .int .u8 ac, .slice A rs.length c], .string out] w (CheapRes (accB ac) rs out w) := by
  have HA := Lib.hid (Reads.below hA (below_one w (.cells #[.int .i64 m, .int .u8 ac, .slice A rs.length c] 31)))
  have HC := Lib.hid (And.intro hF (And.intro hs (And.intro hb (And.intro hot hW))))
  clear hA hF hs hb hot hW
  go_enter Try.func14, Try.ntmps14
  go_upto_region 2 with (go_at_call 12; refine (best_any F m ac A c rs out 1 _ (by exact HA.out) (fun b h => by have := HC.out.1 b h; simp; omega) hn hm0 hm hac HC.out.2.1 HC.out.2.2.1 HC.out.2.2.2.1 (by omega) (by omega) HC.out.2.2.2.2).mono ?_; rintro e w2 hR; obtain ⟨A2, n2, c2, er, rfl, hB, hk⟩ := best_open hR)
  have hB2 : Below w.heap.size w w2 := (below_one _ _).trans (hB.mono (by simp))
  have HB := Lib.hid hB2
  clear hB hB2
  obtain ⟨N, l, ho, hk⟩ := hk
  rcases hk with ⟨rfl, rfl, rfl, rfl⟩ | ⟨p, l', rfl, rfl, rfl, hc, hR⟩
  · have HO := Lib.hid ho
    clear ho
    go_wp2_with fail
    refine bodyPost_ret (v := .tuple #[.string ByteArray.empty, .int .i64 0, .int .i64 50]) (by simp [results, Try.results14, go_sem]; rfl) rfl ⟨HB.out, N, [], HO.out, .inl ⟨rfl, rfl⟩⟩
  · have HO := Lib.hid ho
    clear ho
    obtain ⟨b, o, rfl, hbF, hbl, hcell⟩ := hR (by simp [resCells])
    have y0 : w2.cell? ⟨b, o, none⟩ = some (.string p.1) := hcell 0 _ rfl
    have y1 : w2.cell? ⟨b, o + 1, none⟩ = some (.int .i64 p.2) := hcell 1 _ rfl
    clear hcell
    go_upto_region 4 with (fail)
    go_quiet (fail)
    go_wp2_with fail
    refine bodyPost_ret (v := .tuple #[.string p.1, .int .i64 p.2, .int .i64 0]) (by simp [results, Try.results14, go_sem]) rfl ⟨by first | exact below_drewN HB.out _ | exact HB.out.drew | exact HB.out, N, p :: l', HO.out, .inr ⟨p, l', rfl, rfl⟩⟩
end Go.Proofs.Ythcnnadggffjhaa
