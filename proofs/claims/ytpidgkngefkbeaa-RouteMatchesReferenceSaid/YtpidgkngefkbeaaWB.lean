/- The walk of the reference's Reached. The walk of the reference's Live. -/
import Derived.Test.YtpidgkngefkbeaaP9
import Derived.Test.YtpidgkngefkbeaaMB
import Derived.Test.YtpidgkngefkbeaaLA
set_option linter.unusedVariables false
set_option linter.unusedSimpArgs false
namespace Go.Proofs.Ytpidgkngefkbeaa
open Go.RowKit Go.Maps Go.WideElems

theorem flags_set {w : World} {g x : Nat} {t : TypeId} {V : List Bool} (h : Blk w g t (V.map vB).toArray) (b : Bool) : Blk (w.setCell ⟨g, x, none⟩ (.bool b)) g t ((V.set x b).map vB).toArray := by
  have h1 := h.set x (.bool b)
  have e : (V.map vB).toArray.setIfInBounds x (.bool b) = ((V.set x b).map vB).toArray := by
    rw [List.map_set, List.setIfInBounds_toArray]
  rw [e] at h1
  exact h1
theorem flag_cell {w : World} {g x : Nat} {t : TypeId} {V : List Bool} (h : Blk w g t (V.map vB).toArray) {b : Bool} (hx : V[x]? = some b) : w.cell? ⟨g, x, none⟩ = some (.bool b) := by
  rw [h.cell]; simp [hx, vB]
/-- the scheme's box, the list of flags -/
def FlW (m ac : Nat) (A : Option Addr) (n c : Nat) (Z : Nat) (V : List Bool) (w W : World) : Prop :=
  Below w.heap.size w W ∧ w.heap.size < Z ∧ Blk W w.heap.size 30 #[.int .i64 m, .int .u8 ac, .slice A n c] ∧ Blk W Z 4 (V.map vB).toArray
theorem FlW.put {m ac : Nat} {A : Option Addr} {n c Z x : Nat} {V : List Bool} {w W : World} (h : FlW m ac A n c Z V w W) (b : Bool) : FlW m ac A n c Z (V.set x b) w (W.setCell ⟨Z, x, none⟩ (.bool b)) := by
  obtain ⟨h1, h2, h3, h4⟩ := h
  exact ⟨h1.setCell (p := ⟨Z, x, none⟩) (by simp; omega) _, h2, h3.far (by simp; omega) _, flags_set h4 b⟩
theorem made_flags (m : Nat) : madeCells #[.bool false] m = ((List.replicate m false).map vB).toArray := by
  apply Array.toList_inj.1
  rw [toList_madeCells_one]
  simp [vB]

set_option maxHeartbeats 2000000 in
theorem reached3_any (F : Nat → Prop) (m ac : Nat) (A : Option Addr) (c : Nat) (rs : List Rule) (w : World) (hA : RulesAt F w A rs) (hF : ∀ b, F b → b < w.heap.size) (hn : rs.length < 1000) (hm0 : 0 < m) (hm : m < 1000) (hs : ∀ r ∈ rs, r.frm < m ∧ r.dst < m) :
    Calls Try.prog 21 #[.agg #[.int .i64 m, .int .u8 ac, .slice A rs.length c]] w (BoolsRes m (ReachedP rs) w) := by
  have hmk := run_make_row' (P := Try.prog) 46 4 (.bool false) 1 Try.underlying46 bool_info rfl .i64 .i64 m (by omega) (by omega)
  go_enter Try.func21, Try.ntmps21
  go_upto_region 2 with (fail)
  refine world_gen (FlW m ac A rs.length c (w.heap.size + 1) (List.replicate m false) w) ?_ ?_
  · refine ⟨((Below.refl _ _).alloc (Nat.le_refl _) _).alloc (by simp) _, by omega, (Blk.new _ _ _).alloc _, ?_⟩
    have h := Blk.new2 w (.cells #[.int .i64 m, .int .u8 ac, .slice A rs.length c] 30) 4 (madeCells #[.bool false] m)
    rw [made_flags] at h
    simpa [made_flags] using h
  clear hmk
  intro W hW
  have z0 : W.cell? ⟨w.heap.size + 1, 0, none⟩ = some (.bool false) := flag_cell (V := List.replicate m false) (x := 0) (b := false) hW.2.2.2 (by rw [List.getElem?_replicate, if_pos hm0])
  have f0 := hW.2.2.2.free 0
  have hl0 := hW.2.2.2.lt
  have hm1 : (0 : Int) < (m : Int) := by omega
  have hR : Rnd selR rs m ((List.replicate m false).set 0 true) 0 ((List.replicate m false).set 0 true) := Rnd.begin (by simp)
  have HW := Lib.hid (hW.put (x := 0) true)
  clear hW
  go_wp2_with fail
  clear z0 f0 hl0
  go_loopw [4] (fun z wr => ∃ (k : Nat) (V : List Bool), k ≤ m ∧ z = .int .i64 k ∧ FlW m ac A rs.length c (w.heap.size + 1) V w wr ∧ Rnd selR rs m ((List.replicate m false).set 0 true) k V) (fun z _ => m - (intOf z).toNat)
  case atStart => exact ⟨0, _, Nat.zero_le _, rfl, HW.out, hR⟩
  case round =>
    clear HW hR W
    obtain ⟨k, V, hk, rfl, hW, hR⟩ := hrel
    have x0 : wr.cell? ⟨w.heap.size, 0, none⟩ = some (.int .i64 m) := hW.2.2.1.cell 0
    have hlt := hW.2.2.1.lt
    have HW := Lib.hid hW
    have HR := Lib.hid hR
    have hVl := hR.len
    clear hW hR
    by_cases hkm : k < m
    · go_wp2_with fail
      clear x0 hlt
      generalize wr = W0 at *
      go_loopw [5] (fun z wr => ∃ (i : Nat) (V' : List Bool), i ≤ rs.length ∧ z = .int .i64 i ∧ FlW m ac A rs.length c (w.heap.size + 1) V' w wr ∧ Mid selR rs V i V') (fun z _ => rs.length - (intOf z).toNat)
      case atStart => exact ⟨0, V, Nat.zero_le _, rfl, HW.out, Mid.begin _ _ _⟩
      case round =>
        clear HW W0
        obtain ⟨i, V', hi, rfl, hW, hM⟩ := hrel
        have x2 : wr.cell? ⟨w.heap.size, 2, none⟩ = some (.slice A rs.length c) := hW.2.2.1.cell 2
        have hlt := hW.2.2.1.lt
        have hbel := hW.1
        have hZ := hW.2.2.2.lt
        have HW := Lib.hid hW
        have HM := Lib.hid hM
        have hVl' : V'.length = m := by have := hM.len; omega
        clear hW hM
        by_cases hil : i < rs.length
        · obtain ⟨r, hr⟩ : ∃ r, rs[i]? = some r := ⟨_, List.getElem?_eq_getElem hil⟩
          obtain ⟨hrf, hrd⟩ := hs r (List.mem_of_getElem? hr)
          have hA2 := Reads.lower hA hF hbel
          obtain ⟨br, or, rfl⟩ := Reads.some_ hA2 (by rw [cells_length]; omega)
          obtain ⟨_, hbr, r0, r1, _⟩ := RulesAt.got hA2 hr
          obtain ⟨b, hb⟩ : ∃ b, V'[r.frm]? = some b := ⟨_, List.getElem?_eq_getElem (by omega)⟩
          obtain ⟨b', hb'⟩ : ∃ b', V'[r.dst]? = some b' := ⟨_, List.getElem?_eq_getElem (by omega)⟩
          have zf := flag_cell HW.out.2.2.2 hb
          have zd := flag_cell HW.out.2.2.2 hb'
          have fd := HW.out.2.2.2.free r.dst
          have hi1 : (r.frm : Int) < (m : Int) := by omega
          have hi2 : (r.dst : Int) < (m : Int) := by omega
          have HB := Lib.hid (And.intro hr hb)
          clear hA2 hr hb hb'
          cases b with
          | false =>
            have HN := Lib.hid (HM.out.no HB.out.1 HB.out.2)
            go_wp2_with fail
            go_roundw
            case rel => exact ⟨i + 1, V', by omega, by go_num, HW.out, HN.out⟩
            case measure => simp [intOf]; omega
          | true =>
            have HN := Lib.hid (HM.out.yes HB.out.1 HB.out.2 (by rw [hVl']; exact hrd))
            go_wp2_with fail
            go_roundw
            case rel => exact ⟨i + 1, _, by omega, by go_num, HW.out.put true, HN.out⟩
            case measure => simp [intOf]; omega
        · have HN := Lib.hid (HM.out.done (by omega) HR.out)
          go_wp2_with fail
          go_roundw
          case rel => exact ⟨k + 1, V', by omega, by go_num, HW.out, HN.out⟩
          case measure => simp [intOf]; omega
    · obtain rfl : k = m := by omega
      have hiff := HR.out.iff (fun r hr => (hs r hr).2)
      have HI := Lib.hid hiff
      clear hiff
      go_wp2_with fail
      go_ret
      refine ⟨w.heap.size + 1, V, rfl, HW.out.1, by omega, HW.out.2.2.2, hVl, fun x => ?_⟩
      rw [HI.out x]
      constructor
      · rintro ⟨s, h1, h2⟩
        have : s = 0 := by
          rw [List.getElem?_set] at h1
          split at h1
          · omega
          · rw [List.getElem?_replicate] at h1; split at h1 <;> cases h1
        subst this
        exact h2
      · intro h
        exact ⟨0, by rw [List.getElem?_set]; simp; omega, h⟩
end Go.Proofs.Ytpidgkngefkbeaa
namespace Go.Proofs.Ytpidgkngefkbeaa
open Go.RowKit Go.Maps Go.WideElems

/-- the accepting ones of the first k modes -/
def accUp (ac m k : Nat) : List Bool := (List.range m).map fun x => decide (x < k) && accB ac x
theorem accUp_get {ac m k x : Nat} (hx : x < m) : (accUp ac m k)[x]? = some (decide (x < k) && accB ac x) := by simp [accUp, hx]
theorem accUp_len (ac m k : Nat) : (accUp ac m k).length = m := by simp [accUp]
theorem accUp_zero (ac m : Nat) : accUp ac m 0 = List.replicate m false := by
  refine List.eq_replicate_iff.2 ⟨accUp_len _ _ _, fun b hb => ?_⟩
  simp [accUp] at hb
  exact hb.2
theorem accUp_succ {ac m k : Nat} : (accUp ac m k).set k (accB ac k) = accUp ac m (k + 1) := by
  apply List.ext_getElem?
  intro x
  rw [List.getElem?_set]
  rcases Nat.lt_or_ge x m with hx | hx
  · rw [accUp_get hx, accUp_get hx, accUp_len]
    by_cases he : k = x
    · subst he; simp [hx]
    · rw [if_neg he]
      have : (decide (x < k + 1)) = decide (x < k) := by rw [decide_eq_decide]; omega
      rw [this]
  · rw [List.getElem?_eq_none (l := accUp ac m k) (by rw [accUp_len]; exact hx), List.getElem?_eq_none (l := accUp ac m (k + 1)) (by rw [accUp_len]; exact hx), accUp_len]
    split
    · rw [if_neg (by omega)]
    · rfl

set_option maxHeartbeats 2000000 in
theorem live3_any (F : Nat → Prop) (m ac : Nat) (A : Option Addr) (c : Nat) (rs : List Rule) (w : World) (hA : RulesAt F w A rs) (hF : ∀ b, F b → b < w.heap.size) (hn : rs.length < 1000) (hm : m ≤ 8) (hac : ac < 256) (hs : ∀ r ∈ rs, r.frm < m ∧ r.dst < m) :
    Calls Try.prog 23 #[.agg #[.int .i64 m, .int .u8 ac, .slice A rs.length c]] w (BoolsRes m (LiveP ac m rs) w) := by
  have hmk := run_make_row' (P := Try.prog) 46 4 (.bool false) 1 Try.underlying46 bool_info rfl .i64 .i64 m (by omega) (by omega)
  go_enter Try.func23, Try.ntmps23
  go_upto_region 2 with (fail)
  refine world_gen (FlW m ac A rs.length c (w.heap.size + 1) (accUp ac m 0) w) ?_ ?_
  · refine ⟨((Below.refl _ _).alloc (Nat.le_refl _) _).alloc (by simp) _, by omega, (Blk.new _ _ _).alloc _, ?_⟩
    have h := Blk.new2 w (.cells #[.int .i64 m, .int .u8 ac, .slice A rs.length c] 30) 4 (madeCells #[.bool false] m)
    rw [made_flags] at h
    rw [accUp_zero]
    simpa [made_flags] using h
  clear hmk
  intro W hW
  have HW := Lib.hid hW
  clear hW
  go_wp2_with fail
  go_loopw [4] (fun z wr => ∃ k : Nat, k ≤ m ∧ z = .int .i64 k ∧ FlW m ac A rs.length c (w.heap.size + 1) (accUp ac m k) w wr) (fun z _ => m - (intOf z).toNat)
  case atStart => exact ⟨0, Nat.zero_le _, rfl, HW.out⟩
  case round =>
    clear HW W
    obtain ⟨k, hk, rfl, hW⟩ := hrel
    have x0 : wr.cell? ⟨w.heap.size, 0, none⟩ = some (.int .i64 m) := hW.2.2.1.cell 0
    have x1 : wr.cell? ⟨w.heap.size, 1, none⟩ = some (.int .u8 ac) := hW.2.2.1.cell 1
    have x2 : wr.cell? ⟨w.heap.size, 2, none⟩ = some (.slice A rs.length c) := hW.2.2.1.cell 2
    have hlt := hW.2.2.1.lt
    have HW := Lib.hid hW
    clear hW
    by_cases hkm : k < m
    · go_wp2_with (go_at_call 26; refine (accepts3_any m ac A rs.length c k _ hac (by omega)).mono ?_; rintro e w2 ⟨rfl, hb2⟩; have h2 : FlW m ac A rs.length c (w.heap.size + 1) (accUp ac m k) w w2 := ⟨HW.out.1.trans (hb2.mono HW.out.1.size), HW.out.2.1, HW.out.2.2.1.next hb2, HW.out.2.2.2.next hb2⟩; have zk : w2.cell? ⟨w.heap.size + 1, k, none⟩ = some (.bool (decide (k < k) && accB ac k)) := flag_cell h2.2.2.2 (accUp_get hkm); have fk := h2.2.2.2.free k; have hzl := h2.2.2.2.lt; have hi1 : (k : Int) < (m : Int) := (by omega); have H2 := Lib.hid h2; clear h2 hb2)
      go_roundw
      case rel => exact ⟨k + 1, by omega, by go_num, by rw [← accUp_succ]; exact H2.out.put _⟩
      case measure => simp [intOf]; omega
    · obtain rfl : k = m := by omega
      have hR : Rnd selL rs k (accUp ac k k) 0 (accUp ac k k) := Rnd.begin (accUp_len _ _ _)
      go_wp2_with fail
      clear x0 x1 x2 hlt
      generalize wr = W1 at *
      go_loopw [5] (fun z wr => ∃ (j : Nat) (V : List Bool), j ≤ k ∧ z = .int .i64 j ∧ FlW k ac A rs.length c (w.heap.size + 1) V w wr ∧ Rnd selL rs k (accUp ac k k) j V) (fun z _ => k - (intOf z).toNat)
      case atStart => exact ⟨0, _, Nat.zero_le _, rfl, HW.out, hR⟩
      case round =>
        clear HW hR W1
        obtain ⟨j, V, hj, rfl, hW, hR⟩ := hrel
        have x0 : wr.cell? ⟨w.heap.size, 0, none⟩ = some (.int .i64 k) := hW.2.2.1.cell 0
        have hlt := hW.2.2.1.lt
        have HW := Lib.hid hW
        have HR := Lib.hid hR
        have hVl := hR.len
        clear hW hR
        by_cases hjm : j < k
        · go_wp2_with fail
          clear x0 hlt
          generalize wr = W0 at *
          go_loopw [6] (fun z wr => ∃ (i : Nat) (V' : List Bool), i ≤ rs.length ∧ z = .int .i64 i ∧ FlW k ac A rs.length c (w.heap.size + 1) V' w wr ∧ Mid selL rs V i V') (fun z _ => rs.length - (intOf z).toNat)
          case atStart => exact ⟨0, V, Nat.zero_le _, rfl, HW.out, Mid.begin _ _ _⟩
          case round =>
            clear HW W0
            obtain ⟨i, V', hi, rfl, hW, hM⟩ := hrel
            have x2 : wr.cell? ⟨w.heap.size, 2, none⟩ = some (.slice A rs.length c) := hW.2.2.1.cell 2
            have hlt := hW.2.2.1.lt
            have hbel := hW.1
            have hZ := hW.2.2.2.lt
            have HW := Lib.hid hW
            have HM := Lib.hid hM
            have hVl' : V'.length = k := by have := hM.len; omega
            clear hW hM
            by_cases hil : i < rs.length
            · obtain ⟨r, hr⟩ : ∃ r, rs[i]? = some r := ⟨_, List.getElem?_eq_getElem hil⟩
              obtain ⟨hrf, hrd⟩ := hs r (List.mem_of_getElem? hr)
              have hA2 := Reads.lower hA hF hbel
              obtain ⟨br, or, rfl⟩ := Reads.some_ hA2 (by rw [cells_length]; omega)
              obtain ⟨_, hbr, r0, r1, _⟩ := RulesAt.got hA2 hr
              obtain ⟨b, hb⟩ : ∃ b, V'[r.dst]? = some b := ⟨_, List.getElem?_eq_getElem (by omega)⟩
              obtain ⟨b', hb'⟩ : ∃ b', V'[r.frm]? = some b' := ⟨_, List.getElem?_eq_getElem (by omega)⟩
              have zf := flag_cell HW.out.2.2.2 hb
              have zd := flag_cell HW.out.2.2.2 hb'
              have fd := HW.out.2.2.2.free r.frm
              have hi1 : (r.frm : Int) < (k : Int) := by omega
              have hi2 : (r.dst : Int) < (k : Int) := by omega
              have HB := Lib.hid (And.intro hr hb)
              clear hA2 hr hb hb'
              cases b with
              | false =>
                have HN := Lib.hid (HM.out.no HB.out.1 HB.out.2)
                go_wp2_with fail
                go_roundw
                case rel => exact ⟨i + 1, V', by omega, by go_num, HW.out, HN.out⟩
                case measure => simp [intOf]; omega
              | true =>
                have HN := Lib.hid (HM.out.yes HB.out.1 HB.out.2 (by rw [hVl']; exact hrf))
                go_wp2_with fail
                go_roundw
                case rel => exact ⟨i + 1, _, by omega, by go_num, HW.out.put true, HN.out⟩
                case measure => simp [intOf]; omega
            · have HN := Lib.hid (HM.out.done (by omega) HR.out)
              go_wp2_with fail
              go_roundw
              case rel => exact ⟨j + 1, V', by omega, by go_num, HW.out, HN.out⟩
              case measure => simp [intOf]; omega
        · obtain rfl : j = k := by omega
          have hiff := HR.out.iff (fun r hr => (hs r hr).1)
          have HI := Lib.hid hiff
          clear hiff
          go_wp2_with fail
          go_ret
          refine ⟨w.heap.size + 1, V, rfl, HW.out.1, by omega, HW.out.2.2.2, hVl, fun x => ?_⟩
          rw [HI.out x]
          constructor
          · rintro ⟨s, h1, h2⟩
            have hsl : s < j := by
              have := (List.getElem?_eq_some_iff.1 h1).1
              rwa [accUp_len] at this
            rw [accUp_get hsl] at h1
            simp [hsl] at h1
            exact ⟨s, hsl, h1, h2⟩
          · rintro ⟨s, h1, h2, h3⟩
            exact ⟨s, by rw [accUp_get h1]; simp [h1, h2], h3⟩
end Go.Proofs.Ytpidgkngefkbeaa
