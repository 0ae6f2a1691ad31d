/- The walks of route.Reached and route.Live. -/
import Derived.Test.YtpidgkngefkbeaaM6
set_option linter.unusedVariables false
set_option linter.unusedSimpArgs false
namespace Go.Proofs.Ytpidgkngefkbeaa
open Go.RowKit

def selR (r : Rule) : Nat × Nat := (r.frm, r.dst)
def selL (r : Rule) : Nat × Nat := (r.dst, r.frm)
/-- mode x is reached, is live -/
def ReachedP (rs : List Rule) (x : Nat) : Prop := Reach (edgesOf selR rs) 0 x
def LiveP (ac m : Nat) (rs : List Rule) (x : Nat) : Prop := ∃ s, s < m ∧ accB ac s = true ∧ Reach (edgesOf selL rs) s x
theorem BoolsRes.to {n : Nat} {P Q : Nat → Prop} {w w0 : World} {e : Ending} {w' : World} (h : BoolsRes n P w e w') (hb : Below w0.heap.size w0 w) (hPQ : ∀ x, P x ↔ Q x) : BoolsRes n Q w0 e w' := by
  obtain ⟨g, V, h1, h2, h3, h4, h5, h6⟩ := h
  exact ⟨g, V, h1, hb.trans (h2.mono hb.size), Nat.le_trans hb.size h3, h4, h5, fun x => (h6 x).trans (hPQ x)⟩

set_option maxHeartbeats 1000000 in
theorem reached_any (F : Nat → Prop) (m ac : Nat) (A : Option Addr) (c : Nat) (rs : List Rule) (w : World) (hA : RulesAt F w A rs) (hF : ∀ b, F b → b < w.heap.size) (hn : rs.length < 1000) (hm0 : 0 < m) (hm : m < 1000) (hs : ∀ r ∈ rs, r.frm < m ∧ r.dst < m) :
    Calls Try.prog 20 #[.agg #[.int .i64 m, .int .u8 ac, .slice A rs.length c]] w (BoolsRes m (ReachedP rs) w) := by
  go_enter Try.func20, Try.ntmps20
  go_wp2_with fail
  have hb1 : Below w.heap.size w ((w.alloc (.cells #[.int .i64 m, .int .u8 ac, .slice A rs.length c] 30)).alloc (.cells #[.int .i64 0] 3)) := ((Below.refl _ _).alloc (Nat.le_refl _) _).alloc (by simp) _
  have hL : SlAt vN (· = w.heap.size + 1) ((w.alloc (.cells #[.int .i64 m, .int .u8 ac, .slice A rs.length c] 30)).alloc (.cells #[.int .i64 0] 3)) (some ⟨w.heap.size + 1, 0, none⟩) [0] := by
    have hb := Blk.new (w.alloc (.cells #[.int .i64 m, .int .u8 ac, .slice A rs.length c] 30)) 3 #[.int .i64 0]
    rw [show (w.alloc (.cells #[.int .i64 m, .int .u8 ac, .slice A rs.length c] 30)).heap.size = w.heap.size + 1 from (by simp)] at hb
    exact Reads.block hb rfl
  have H := spread_reached F (· = w.heap.size + 1) m ac A _ c 1 rs [0] selR _ (Reads.lower hA hF hb1) hL hn (by simp) hm (fun b hb => by have := hF b hb; simp; omega) (fun b hb => by subst hb; simp) (fun r w => selr_any r w) hs (by simpa using hm0)
  refine H.mono ?_
  intro e w2 h2
  have h3 := h2.to hb1 (Q := ReachedP rs) (fun x => by simp [ReachedP])
  clear H h2 hL
  obtain ⟨g, V, rfl, h4⟩ := h3
  go_wp2
  go_ret
  exact ⟨g, V, rfl, h4⟩

/-- the accepting modes below k -/
def ends (ac k : Nat) : List Nat := (List.range k).filter fun s => accB ac s
theorem ends_succ (ac k : Nat) : ends ac (k + 1) = if accB ac k then ends ac k ++ [k] else ends ac k := by
  unfold ends
  rw [List.range_succ, List.filter_append]
  split
  · rename_i h; simp [h]
  · rename_i h; simp [h]
theorem mem_ends {ac k x : Nat} : x ∈ ends ac k ↔ x < k ∧ accB ac x = true := by simp [ends]
theorem ends_len (ac k : Nat) : (ends ac k).length ≤ k := by
  have := List.length_filter_le (fun s => accB ac s) (List.range k)
  simpa [ends] using this

set_option maxHeartbeats 1000000 in
theorem live_any (F : Nat → Prop) (m ac : Nat) (A : Option Addr) (c : Nat) (rs : List Rule) (w : World) (hA : RulesAt F w A rs) (hF : ∀ b, F b → b < w.heap.size) (hn : rs.length < 1000) (hm : m ≤ 8) (hac : ac < 256) (hs : ∀ r ∈ rs, r.frm < m ∧ r.dst < m) :
    Calls Try.prog 22 #[.agg #[.int .i64 m, .int .u8 ac, .slice A rs.length c]] w (BoolsRes m (LiveP ac m rs) w) := by
  obtain ⟨i0, hi0, hz0, hz1, hzz⟩ := info_parts int_info
  go_enter Try.func22, Try.ntmps22
  go_wp2_with fail
  refine world_gen (fun W => Below w.heap.size w W ∧ Blk W w.heap.size 30 #[.int .i64 m, .int .u8 ac, .slice A rs.length c]) ⟨(Below.refl _ _).alloc (Nat.le_refl _) _, Blk.new _ _ _⟩ ?_
  rintro W ⟨hbel, b0⟩
  go_loopw [3, 7] (fun e x wr => ∃ k : Nat, k ≤ m ∧ x = .int .i64 k ∧ Below w.heap.size w wr ∧ Blk wr w.heap.size 30 #[.int .i64 m, .int .u8 ac, .slice A rs.length c] ∧
    ∃ A' c', e = .slice A' (ends ac k).length c' ∧ Acc (w.heap.size + 1) wr 3 1 A' (ends ac k).length c' ((ends ac k).map vN)) (fun e x _ => m - (intOf x).toNat)
  case atStart => exact ⟨0, Nat.zero_le _, rfl, hbel, b0, none, 0, rfl, Acc.nil _ _ _ _⟩
  case round =>
    clear hbel b0 W
    obtain ⟨k, hk, rfl, hbel, b0, A', c', rfl, hacc⟩ := hrel
    have x0 : wr.cell? ⟨w.heap.size, 0, none⟩ = some (.int .i64 m) := b0.cell 0
    have x1 : wr.cell? ⟨w.heap.size, 1, none⟩ = some (.int .u8 ac) := b0.cell 1
    have x2 : wr.cell? ⟨w.heap.size, 2, none⟩ = some (.slice A rs.length c) := b0.cell 2
    have hlt := b0.lt
    have hel := ends_len ac k
    have B0 := Lib.hid b0
    clear b0
    by_cases hkm : k < m
    · rcases hb : accB ac k with _ | _
      · have hes : ends ac (k + 1) = ends ac k := by rw [ends_succ, hb]; rfl
        go_wp2_with (go_at_call 35; refine (accepts_any m ac A rs.length c k _ hac (by omega)).mono ?_; rw [hb]; rintro e w2 ⟨rfl, hb2⟩)
        go_roundw
        case rel => exact ⟨k + 1, by omega, by go_num, hbel.trans (hb2.mono hbel.size), B0.out.next hb2, A', c', by rw [hes], by rw [hes]; exact hacc.below hb2⟩
        case measure => simp [intOf]; omega
      · have hes : ends ac (k + 1) = ends ac k ++ [k] := by rw [ends_succ, hb]; rfl
        go_wp2_with (first
          | (go_at_call 35; refine (accepts_any m ac A rs.length c k _ hac (by omega)).mono ?_; rw [hb]; rintro e w2 ⟨rfl, hb2⟩; have hac2 := hacc.below hb2; have hsz2 := hb2.size)
          | (at_builtin; refine wpList_append_acc _ (by rfl) _ _ _ (by rfl) (w.heap.size + 1) 3 i0 (.int .i64 0) 1 8 Try.underlying32 hi0 hz0 hz1 hzz (by rfl) (by decide) A' (ends ac k).length c' ((ends ac k).map vN) (by rfl) (by exact hac2.below ((Below.refl _ _).alloc (Nat.le_refl _) _)) w2.heap.size 3 (0, 0) 1 1 #[.int .i64 k] (by rfl) (by rfl) (by exact heap_alloc_new _ _) (by simp [Value.oneCell']) (by omega) (by unfold maxLen; omega) (by omega) (by simp; omega) ?_; intro g2 cap w4 row hown hgr hrow hat hlt4))
        go_roundw
        case rel =>
          have hbel2 : Below w.heap.size w (w2.alloc (.cells #[.int .i64 k] 3)) := (hbel.trans (hb2.mono hbel.size)).alloc (Nat.le_trans hbel.size hb2.size) _
          exact ⟨k + 1, by omega, by go_num, below_rowOk hbel2 hgr hrow (by omega) hbel2.size, ((B0.out.next hb2).alloc _).rowOk hgr hrow (by decide), some ⟨g2, 0, none⟩, cap, by rw [hes]; simp, by rw [hes]; refine .inl ?_; simpa using hown⟩
        case measure => simp [intOf]; omega
    · obtain rfl : k = m := by omega
      have H := spread_live F (· < wr.heap.size) k ac A A' c c' rs (ends ac k) selL wr (Reads.lower hA hF hbel) (Reads.all hacc.reads) hn (by omega) (by omega) (fun b hb => by have := hF b hb; have := hbel.size; omega) (fun b hb => hb) (fun r w => sell_any r w) (fun r hr => ⟨(hs r hr).2, (hs r hr).1⟩) (fun x hx => (mem_ends.1 hx).1)
      have hbel' := hbel
      go_wp2_with fail
      refine H.mono ?_
      intro e w2 h2
      have h3 := h2.to hbel' (Q := LiveP ac k rs) (fun x => by simp [LiveP, mem_ends, and_assoc])
      clear H h2
      obtain ⟨g, V, rfl, h4⟩ := h3
      go_wp2
      go_ret
      exact ⟨g, V, rfl, h4⟩
end Go.Proofs.Ytpidgkngefkbeaa
