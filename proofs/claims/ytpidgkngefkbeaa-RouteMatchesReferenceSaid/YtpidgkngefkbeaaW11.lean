/- The walk of R3.Walk. -/
import Derived.Test.YtpidgkngefkbeaaWA
import Derived.Test.YtpidgkngefkbeaaLA
import Derived.Test.YtpidgkngefkbeaaPA
import Derived.Test.YtpidgkngefkbeaaT1
import Derived.Deep.RegionHeld3
set_option linter.unusedVariables false
set_option linter.unusedSimpArgs false
namespace Go.Proofs.Ytpidgkngefkbeaa
open Go.RowKit

/-- what Walk hands back: rules that fit together, N at most -/
def WalkRes (rs : List Rule) (m0 N : Nat) (w : World) (e : Ending) (w' : World) : Prop :=
  ∃ B d out mode, e = .returned (.tuple #[.slice B out.length d, .int .i64 (mode : Nat)]) ∧ Below w.heap.size w w' ∧ SlAt vN (w.heap.size ≤ ·) w' B out ∧ pathTo rs m0 out = some mode ∧ out.length ≤ N ∧ out.length ≤ d
def WalkW (m ac : Nat) (A : Option Addr) (n c m0 N : Nat) (rs : List Rule) (w : World) (x y : Value) (i : Nat) (W : World) : Prop :=
  ∃ B d out mode, x = .slice B i d ∧ y = .int .i64 (mode : Nat) ∧ out.length = i ∧ pathTo rs m0 out = some mode ∧ Below w.heap.size w W ∧ Blk W w.heap.size 30 #[.int .i64 m, .int .u8 ac, .slice A n c] ∧ Blk W (w.heap.size + 1) 36 #[.int .i64 m0, .int .i64 N] ∧
    Acc (w.heap.size + 1 + 1) W 3 1 B i d (out.map vN)
theorem walkRes_next {rs : List Rule} {m0 N : Nat} {w w1 w2 : World} {e : Ending} (h : WalkRes rs m0 N w e w1) (hb : Below w1.heap.size w1 w2) : WalkRes rs m0 N w e w2 := by
  obtain ⟨B, d, out, mode, h1, h2, h3, h4⟩ := h
  exact ⟨B, d, out, mode, h1, h2.trans (hb.mono h2.size), Reads.below h3 hb, h4⟩
/-- the rules that begin in a mode -/
def fromK (rs : List Rule) (mode k : Nat) : Bool := decide ((rs.getD k ⟨0, 0, .empty, .empty, 0⟩).frm = mode)

set_option maxHeartbeats 2000000 in
theorem walk_any (F G : Nat → Prop) (m ac : Nat) (A A' : Option Addr) (c c' m0 N : Nat) (rs : List Rule) (l : List Nat) (w : World) (hA : RulesAt F w A rs) (hF : ∀ b, F b → b < w.heap.size) (hL : SlAt v8 G w A' l) (hl8 : ∀ x ∈ l, x < 256) (hl : l.length ≤ maxLen) (hn : rs.length < 1000) (hm0 : m0 < 1000) (hN : N < 1000) :
    Calls Try.prog 12 #[.agg #[.int .i64 m, .int .u8 ac, .slice A rs.length c], .agg #[.int .i64 m0, .int .i64 N], .slice A' l.length c'] w (WalkRes rs m0 N w) := by
  unfold maxLen at hl
  obtain ⟨i0, hi0, hz0, hz1, hzz⟩ := info_parts int_info
  go_enter Try.func12, Try.ntmps12
  go_upto_region 1 with (fail)
  refine world_gen (fun W => Below w.heap.size w W ∧ Blk W w.heap.size 30 #[.int .i64 m, .int .u8 ac, .slice A rs.length c] ∧ Blk W (w.heap.size + 1) 36 #[.int .i64 m0, .int .i64 N])
    ⟨((Below.refl _ _).alloc (Nat.le_refl _) _).alloc (by simp) _, (Blk.new _ _ _).alloc _, Blk.new2 _ _ _ _⟩ ?_
  rintro W ⟨hbel, b0, b1⟩
  have x1 : W.cell? ⟨w.heap.size + 1, 0, none⟩ = some (.int .i64 m0) := b1.cell 0
  have hlt := b1.lt
  go_region_held3 (fun w' => w'.cell? ⟨w.heap.size + 1, 0, none⟩ = some (.int .i64 m0)) (go_keep) (fail)
  rename_i hHeld
  clear hHeld
  have hbD : Below w.heap.size w (W.alloc (.cells #[] 3)).drew := (hbel.alloc hbel.size _).drew
  have hW : WalkW m ac A rs.length c m0 N rs w (.slice (some ⟨W.heap.size, 0, none⟩) 0 0) (.int .i64 m0) 0 (W.alloc (.cells #[] 3)).drew :=
    ⟨_, _, [], m0, rfl, rfl, rfl, rfl, hbD, (b0.alloc _).drew, (b1.alloc _).drew, .inr ⟨rfl, rfl, fun _ => rfl, Reads.nil _⟩⟩
  clear hbD x1 hlt hbel b0 b1
  generalize (W.alloc (.cells #[] 3)).drew = W1 at *
  generalize W.heap.size = Z at *
  go_wp2_with fail
  go_loopw [8, 9, 10] (fun x y z wr => ∃ i : Nat, i ≤ l.length ∧ i ≤ N ∧ z = .int .i64 i ∧ WalkW m ac A rs.length c m0 N rs w x y i wr) (fun _ _ z _ => l.length - (intOf z).toNat)
  case atStart => exact ⟨0, Nat.zero_le _, Nat.zero_le _, rfl, hW⟩
  case round =>
    clear hW W1
    obtain ⟨i, hil, hiN, rfl, B, d, out, mode, rfl, rfl, hol, hp, hbel, b0, b1, hacc⟩ := hrel
    have x1 : wr.cell? ⟨w.heap.size + 1, 1, none⟩ = some (.int .i64 N) := b1.cell 1
    have hlt1 := b1.lt
    have HO := Lib.hid hol
    have HP := Lib.hid hp
    have HI := Lib.hid (And.intro hi0 (And.intro hz0 (And.intro hz1 hzz)))
    clear hol hp hi0 hz0 hz1 hzz
    have HB0 := Lib.hid b0
    have HB1 := Lib.hid b1
    have HACC := Lib.hid hacc
    clear b0 b1 hacc
    have hend : WalkRes rs m0 N w (.returned (.tuple #[.slice B i d, .int .i64 mode])) wr := ⟨B, d, out, mode, by rw [HO.out], hbel, (Acc.reads HACC.out).mono fun b hb => by omega, HP.out, by have := HO.out; omega, by have := HO.out; have := Acc.le_ HACC.out; omega⟩
    have HEND := Lib.hid hend
    clear hend
    by_cases hi : i < l.length
    · by_cases hi2 : i < N
      · go_upto_region 6 with (fail)
        have hst : Below wr.heap.size wr (wr.alloc (.cells #[] 3)) := below_one _ _
        have hac0 : Acc wr.heap.size (wr.alloc (.cells #[] 3)) 3 1 (some ⟨wr.heap.size, 0, none⟩) 0 0 [] := .inr ⟨rfl, rfl, fun _ => rfl, Reads.nil _⟩
        generalize wr.alloc (.cells #[] 3) = W2 at *
        clear x1 hlt1
        generalize wr = W0 at *
        go_wp2_with fail
        go_loopw [11, 12] (fun v z W => ∃ k : Nat, k ≤ rs.length ∧ z = .int .i64 k ∧ ∃ A2 c2, v = .slice A2 (idx (fromK rs mode) k).length c2 ∧ Below W0.heap.size W0 W ∧ Acc W0.heap.size W 3 1 A2 (idx (fromK rs mode) k).length c2 ((idx (fromK rs mode) k).map vN)) (fun _ z _ => rs.length - (intOf z).toNat)
        case atStart => exact ⟨0, Nat.zero_le _, rfl, _, _, rfl, hst, hac0⟩
        case round =>
          clear hst hac0 W2
          obtain ⟨k, hk, rfl, A2, c2, rfl, hb2, hac2⟩ := hrel
          have hbel2 := hbel.trans (hb2.mono hbel.size)
          have b02 := HB0.out.next hb2
          have x2 : wr.cell? ⟨w.heap.size, 2, none⟩ = some (.slice A rs.length c) := b02.cell 2
          have hlt2 := b02.lt
          have hil2 := idx_len (fromK rs mode) k
          obtain ⟨q, hq⟩ : ∃ q, q = (idx (fromK rs mode) k).length := ⟨_, rfl⟩
          rw [← hq] at hac2 hil2 ⊢
          have HQ := Lib.hid hq
          have HAC2 := Lib.hid hac2
          clear hq hac2 b02
          by_cases hkl : k < rs.length
          · obtain ⟨br, or, rfl, hFb, hbr, y0, y1, y2, y3, y4⟩ := RulesAt.at_ (Reads.lower hA hF hbel2) hkl
            obtain ⟨r, hr⟩ : ∃ r, r = rs[k] := ⟨_, rfl⟩
            rw [← hr] at y0 y1 y2 y3 y4
            have hkf : fromK rs mode k = decide (r.frm = mode) := by unfold fromK; rw [hr, List.getD_eq_getElem?_getD, List.getElem?_eq_getElem hkl]; rfl
            have HKF := Lib.hid hkf
            clear hkf hr y1 y2 y3 y4
            by_cases hf : r.frm = mode
            · have df : ((r.frm : Int) == (mode : Int)) = true := by simp [hf]
              have hix : idx (fromK rs mode) (k + 1) = idx (fromK rs mode) k ++ [k] := by rw [idx_succ, HKF.out, hf]; simp
              have HIX := Lib.hid hix
              clear hf hix
              go_wp2_with (at_builtin; refine wpList_append_acc _ (by rfl) _ _ _ (by rfl) W0.heap.size 3 i0 (.int .i64 0) 1 8 Try.underlying32 HI.out.1 HI.out.2.1 HI.out.2.2.1 HI.out.2.2.2 (by rfl) (by decide) A2 q c2 _ (by rfl) (by exact HAC2.out.below (below_one _ _)) wr.heap.size 3 (0, 0) 1 1 #[.int .i64 k] (by rfl) (by rfl) (by exact heap_alloc_new _ _) (by simp [Value.oneCell']) (by omega) (by unfold maxLen; omega) (by omega) (by have := hb2.size; simp; omega) ?_; intro g2 cap w4 row hown hgr hrow hat hlt4)
              go_roundw
              case rel => exact ⟨k + 1, by omega, by go_num, some ⟨g2, 0, none⟩, cap, by rw [HIX.out, HQ.out]; simp, below_rowOk (hb2.alloc hb2.size _) hgr hrow (Nat.le_refl _) (by have := hb2.size; simp; omega), by rw [HIX.out]; refine .inl ?_; have h := hown; rw [HQ.out] at h; simpa using h⟩
              case measure => simp [intOf]; omega
            · have df : ((r.frm : Int) == (mode : Int)) = false := by simp; omega
              have hix : idx (fromK rs mode) (k + 1) = idx (fromK rs mode) k := by rw [idx_succ, HKF.out]; simp [hf]
              have HIX := Lib.hid hix
              clear hix hf
              go_wp2_with fail
              go_roundw
              case rel => exact ⟨k + 1, by omega, by go_num, A2, c2, by rw [HIX.out, HQ.out], hb2, by rw [HIX.out]; have h := HAC2.out; rw [HQ.out] at h; exact h⟩
              case measure => simp [intOf]; omega
          · obtain rfl : k = rs.length := by omega
            rcases Nat.eq_zero_or_pos q with hq0 | hq0
            · subst hq0
              have HEND2 := Lib.hid (walkRes_next HEND.out hb2)
              go_wp2_with fail
              go_ret2
              exact HEND2.out
            · have hqn : ¬ q = 0 := by omega
              have hqz : ((q : Int) == 0) = false := by simp; omega
              obtain ⟨bl, ol, rfl⟩ := Reads.some_ hL (by simp; omega)
              obtain ⟨x, hx⟩ : ∃ x, l[i]? = some x := ⟨_, List.getElem?_eq_getElem hi⟩
              have hx8 : x < 256 := hl8 x (List.mem_of_getElem? hx)
              obtain ⟨_, hbl, hxc⟩ := SlAt.got (Reads.below hL hbel2) hx
              obtain ⟨j, hj⟩ : ∃ j, j = x % q := ⟨_, rfl⟩
              have hjq : j < q := by rw [hj]; exact Nat.mod_lt _ hq0
              have hjj : (x : Int) % (q : Int) = (j : Int) := by rw [hj]; simp
              obtain ⟨b2, o2, rfl⟩ := Reads.some_ (Acc.reads HAC2.out) (by rw [List.length_map, ← HQ.out]; exact hq0)
              obtain ⟨kk, hkk⟩ : ∃ kk, (idx (fromK rs mode) rs.length)[j]? = some kk := ⟨_, List.getElem?_eq_getElem (by rw [← HQ.out]; exact hjq)⟩
              obtain ⟨_, hb2l, hkc⟩ := SlAt.got (f := vN) (Acc.reads HAC2.out) hkk
              have hmem := List.mem_filter.1 (List.mem_of_getElem? hkk)
              have hkr : kk < rs.length := List.mem_range.1 hmem.1
              obtain ⟨r, hr⟩ : ∃ r, rs[kk]? = some r := ⟨_, List.getElem?_eq_getElem hkr⟩
              have hrf : r.frm = mode := by
                have h := hmem.2
                unfold fromK at h
                rw [List.getD_eq_getElem?_getD, hr] at h
                simpa using h
              have HR := Lib.hid (And.intro hr hrf)
              have HJ := Lib.hid (And.intro hj (And.intro hx hkk))
              have hA2 := Reads.lower hA hF hbel2
              obtain ⟨br, or, rfl⟩ := Reads.some_ hA2 (by rw [cells_length]; omega)
              have HA := Lib.hid hA
              clear hrf hr hj hmem hx hkk hA2
              have hxc' : wr.cell? ⟨bl, ol + i, none⟩ = some (.int .u8 (x : Int)) := hxc
              have hkc' : wr.cell? ⟨b2, o2 + j, none⟩ = some (.int .i64 (kk : Int)) := hkc
              clear hxc hkc hA
              go_wp2_with (at_builtin; refine wpList_append_acc _ (by rfl) _ _ _ (by rfl) (w.heap.size + 1 + 1) 3 i0 (.int .i64 0) 1 8 Try.underlying32 HI.out.1 HI.out.2.1 HI.out.2.2.1 HI.out.2.2.2 (by rfl) (by decide) B i d _ (by rfl) (by exact (HACC.out.below hb2).below (below_one _ _)) wr.heap.size 3 (0, 0) 1 1 #[.int .i64 kk] (by rfl) (by rfl) (by exact heap_alloc_new _ _) (by simp [Value.oneCell']) (by omega) (by unfold maxLen; omega) (by omega) (by have := hbel2.size; have := HB1.out.lt; have := hb2.size; simp; omega) ?_; intro g2 cap w4 row hown hgr hrow hat hlt4; have hbel4 := below_rowOk (hbel2.alloc hbel2.size _) hgr hrow (by omega) (by have := hbel2.size; simp; omega); obtain ⟨_, hbr4, _, yd, _⟩ := RulesAt.got (Reads.lower HA.out hF hbel4) HR.out.1; have b04 := ((HB0.out.next hb2).alloc _).rowOk hgr hrow (by decide); have q2 : w4.cell? ⟨w.heap.size, 2, none⟩ = some (.slice (some ⟨br, or, none⟩) rs.length c) := b04.cell 2; have hlt04 := b04.lt; have B04 := Lib.hid b04; clear b04)
              go_roundw
              case rel => exact ⟨i + 1, by omega, by omega, by go_num, some ⟨g2, 0, none⟩, cap, out ++ [kk], r.dst, rfl, rfl, by rw [List.length_append, HO.out]; rfl, pathTo_snoc HR.out.1 HR.out.2 HP.out, hbel4, B04.out, ((HB1.out.next hb2).alloc _).rowOk hgr hrow (by decide), .inl (by rw [List.map_append]; exact hown)⟩
              case measure => simp [intOf]; omega
      · go_wp2_with fail
        go_ret2
        exact HEND.out
    · go_wp2_with fail
      go_ret2
      exact HEND.out
end Go.Proofs.Ytpidgkngefkbeaa
