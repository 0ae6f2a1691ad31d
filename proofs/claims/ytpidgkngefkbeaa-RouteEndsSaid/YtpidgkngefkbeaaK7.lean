/- The walk of RouteEnds. -/
import Derived.Test.YtpidgkngefkbeaaK1
import Derived.Test.YtpidgkngefkbeaaP7
import Derived.Test.YtpidgkngefkbeaaW12
set_option linter.unusedVariables false
set_option linter.unusedSimpArgs false
namespace Go.Proofs.Ytpidgkngefkbeaa
open Go.RowKit

theorem path_step {rs : List Rule} {q : Nat} : ∀ {l : List Nat} {m i j a : Nat}, pathTo rs m l = some q → l[i]? = some j → pathTo rs m (l.take i) = some a → ∃ r, rs[j]? = some r ∧ r.frm = a ∧ pathTo rs m (l.take (i + 1)) = some r.dst
  | [], m, i, j, a, h, hj, ha => by simp at hj
  | x :: l, m, 0, j, a, h, hj, ha => by
    obtain ⟨r, h1, h2, h3⟩ := pathTo_inv h
    simp at hj
    subst hj
    injection ha with ha
    exact ⟨r, h1, h2.trans ha, by rw [List.take_succ_cons, pathTo_cons h1 h2]; rfl⟩
  | x :: l, m, i + 1, j, a, h, hj, ha => by
    obtain ⟨r, h1, h2, h3⟩ := pathTo_inv h
    rw [List.take_succ_cons, pathTo_cons h1 h2] at ha
    obtain ⟨r', h4, h5, h6⟩ := path_step (i := i) (j := j) h3 (by simpa using hj) ha
    exact ⟨r', h4, h5, by rw [List.take_succ_cons, pathTo_cons h1 h2]; exact h6⟩
theorem walk_m (F G : Nat → Prop) (m ac : Nat) (A A' : Option Addr) (c c' m0 : Nat) (rs : List Rule) (l : List Nat) (w : World) (hA : RulesAt F w A rs) (hL : SlAt v8 G w A' l) (hl8 : ∀ x ∈ l, x < 256) (hl : l.length ≤ maxLen) (hn : rs.length < 1000) (hm0 : m0 < 1000) :
    Calls Try.prog 12 #[.agg #[.int .i64 m, .int .u8 ac, .slice A rs.length c], .agg #[.int .i64 m0, .int .i64 10], .slice A' l.length c'] w (WalkRes rs m0 10 w) :=
  walk_any _ G m ac A A' c c' m0 10 rs l w (Reads.all hA) (fun _ h => h) hL hl8 hl hn hm0 (by decide)
/-- what Least has given, either way -/
def LeastC (acc : Nat → Bool) (rs : List Rule) (mode : Nat) (A : Option Addr) (n c x er : Nat) (W : World) : Prop :=
  (∃ p, Least acc rs mode p ∧ n = p.l.length ∧ x = p.cost ∧ er = 0 ∧ p.l.length ≤ c ∧ p.l.length ≤ 8 ∧ SlAt vN (fun _ => True) W A p.l) ∨ ((∀ p, ¬ IsEnd acc rs mode p) ∧ er = 50)
theorem leastC {acc : Nat → Bool} {rs : List Rule} {mode : Nat} {w W : World} {e : Ending} (h : LeastRes acc rs mode w e W) : Below w.heap.size w W ∧ ∃ (A : Option Addr) (n c x er : Nat), e = .returned (.tuple #[.slice A n c, .int .i64 x, .int .i64 er]) ∧ LeastC acc rs mode A n c x er W := by
  obtain ⟨hb, ⟨p, A, c, h1, h2, h3, h38, h4⟩ | ⟨h1, h2⟩⟩ := h
  · exact ⟨hb, A, p.l.length, c, p.cost, 0, h2, .inl ⟨p, h1, rfl, rfl, rfl, h3, h38, h4.mono fun _ _ => trivial⟩⟩
  · exact ⟨hb, none, 0, 0, 0, 50, h2, .inr ⟨h1, rfl⟩⟩
theorem LeastC.next {acc : Nat → Bool} {rs : List Rule} {mode : Nat} {A : Option Addr} {n c x er : Nat} {W W' : World} (h : LeastC acc rs mode A n c x er W) (hb : Below W.heap.size W W') : LeastC acc rs mode A n c x er W' := by
  rcases h with ⟨p, h1, h2, h3, h4, h5, h58, h6⟩ | h
  · exact .inl ⟨p, h1, h2, h3, h4, h5, h58, Reads.below h6 hb⟩
  · exact .inr h
/-- the scheme, the walked list, what Least has given: as they lay in W0; the list's box with the cost so far, made behind W0 -/
structure EW (s : Scheme) (S : Nat) (A : Option Addr) (c : Nat) (B : Option Addr) (l : List Nat) (d Y x m0 : Nat) (A5 : Option Addr) (n5 c5 x5 er : Nat) (w W0 W : World) : Prop where
  sw0 : SW s S A c w W0
  list0 : SlAt vN (fun _ => True) W0 B l
  lst0 : LeastC (accB s.accept) s.rules m0 A5 n5 c5 x5 er W0
  bel0 : Below W0.heap.size W0 W
  hY : W0.heap.size ≤ Y
  box : Blk W Y 57 #[.slice B l.length d, .int .i64 x, .bool false]
section
variable {s : Scheme} {S : Nat} {A : Option Addr} {c : Nat} {B : Option Addr} {l : List Nat} {d Y x m0 : Nat} {A5 : Option Addr} {n5 c5 x5 er : Nat} {w W0 W W' : World}
theorem EW.next (h : EW s S A c B l d Y x m0 A5 n5 c5 x5 er w W0 W) (hb : Below W.heap.size W W') : EW s S A c B l d Y x m0 A5 n5 c5 x5 er w W0 W' :=
  ⟨h.sw0, h.list0, h.lst0, h.bel0.trans (hb.mono h.bel0.size), h.hY, h.box.next hb⟩
theorem EW.sw (h : EW s S A c B l d Y x m0 A5 n5 c5 x5 er w W0 W) : SW s S A c w W := h.sw0.next h.bel0
theorem EW.list (h : EW s S A c B l d Y x m0 A5 n5 c5 x5 er w W0 W) : SlAt vN (fun _ => True) W B l := Reads.below h.list0 h.bel0
theorem EW.lst (h : EW s S A c B l d Y x m0 A5 n5 c5 x5 er w W0 W) : LeastC (accB s.accept) s.rules m0 A5 n5 c5 x5 er W := h.lst0.next h.bel0
theorem EW.put (h : EW s S A c B l d Y x m0 A5 n5 c5 x5 er w W0 W) (y : Nat) : EW s S A c B l d Y y m0 A5 n5 c5 x5 er w W0 (W.drew.setCell ⟨Y, 1, none⟩ (.int .i64 (y : Int))) :=
  ⟨h.sw0, h.list0, h.lst0, h.bel0.drew.setCell (p := ⟨Y, 1, none⟩) h.hY _, h.hY, h.box.drew.set 1 _⟩
end

set_option maxHeartbeats 4000000 in
set_option maxRecDepth 100000 in
theorem ends_any (b dr w0 wb : Nat) (more : List RawRule) (A : Option Addr) (c : Nat) (A' : Option Addr) (c' : Nat) (l : List Nat) (w : World) (hb8 : b < 256) (hd8 : dr < 256) (h08 : w0 < 256) (h18 : wb < 256) (hR : RawAt (· < w.heap.size) w A more) (hwf : ∀ r ∈ more, r.wf) (hml : more.length ≤ maxLen)
    (hL : SlAt v8 (· < w.heap.size) w A' l) (hl8 : ∀ x ∈ l, x < 256) (hl : l.length ≤ maxLen) :
    Calls Try.prog 7 #[.agg #[.int .u8 b, .int .u8 dr, .slice A more.length c], .agg #[.int .u8 w0, .int .u8 wb], .slice A' l.length c'] w (RetTrue w) := by
  go_enter Try.func7, Try.ntmps7
  go_upto_region 1 with (fail)
  refine world_gen (fun W => Below w.heap.size w W ∧ Blk W w.heap.size 24 #[.int .u8 b, .int .u8 dr, .slice A more.length c] ∧ Blk W (w.heap.size + 1) 25 #[.int .u8 w0, .int .u8 wb])
    ⟨((Below.refl _ _).alloc (Nat.le_refl _) _).alloc (by simp) _, (Blk.new _ _ _).alloc _, Blk.new2 _ _ _ _⟩ ?_
  rintro W ⟨hbel, b0, b1⟩
  go_wp2_with fail
  refine (sanity_any _).mono ?_
  rintro e w1 ⟨rfl, hb1⟩
  have hbel1 := hbel.trans (hb1.mono hbel.size)
  have b01 := b0.next hb1
  have b11 := b1.next hb1
  have x0 : w1.cell? ⟨w.heap.size, 0, none⟩ = some (.int .u8 b) := b01.cell 0
  have x1 : w1.cell? ⟨w.heap.size, 1, none⟩ = some (.int .u8 dr) := b01.cell 1
  have x2 : w1.cell? ⟨w.heap.size, 2, none⟩ = some (.slice A more.length c) := b01.cell 2
  have y0 : w1.cell? ⟨w.heap.size + 1, 0, none⟩ = some (.int .u8 w0) := b11.cell 0
  have y1 : w1.cell? ⟨w.heap.size + 1, 1, none⟩ = some (.int .u8 wb) := b11.cell 1
  have hlt0 := b01.lt
  have hlt1 := b11.lt
  clear b0 b1 b01 hbel
  go_wp2_with fail
  refine (made3_any (· < w.heap.size) b dr w0 wb more A c _ (fun k hk => by have := hbel1.size; omega) (RawAt.lower hR (fun _ h => h) hbel1) hwf hb8 hd8 h08 h18 hml).mono ?_
  rintro e w2 ⟨A2s, c2s, rfl, hb2, hacc⟩
  have hok := made3_ok b dr more w0 wb
  have hbel2 := hbel1.trans (hb2.mono hbel1.size)
  have hb1' := b11.next hb2
  clear x0 x1 x2 y0 y1 hlt0 hlt1 hbel1 hb1 hb2 hR hwf hml b11
  generalize made3 b dr more w0 wb = s at *
  go_upto_region 3 with (fail)
  refine world_gen (fun W => SW s w2.heap.size A2s c2s w W ∧ Blk W (w.heap.size + 1) 25 #[.int .u8 w0, .int .u8 wb]) ⟨⟨hbel2.alloc hbel2.size _, Blk.new _ _ _, (Reads.below (Acc.reads hacc) (below_one _ _)).mono (fun _ _ => trivial)⟩, hb1'.alloc _⟩ ?_
  clear hacc hbel2 hb1'
  generalize w2.heap.size = S at *
  rintro W3 ⟨h3, hbx1⟩
  have H3 := Lib.hid h3
  have HX1 := Lib.hid hbx1
  have HOK := Lib.hid hok
  have hn9 := hok.n9
  have hm2 := hok.m2
  have hm5 := hok.m5
  clear hbx1 hok
  go_upto_if 29 with (fail)
  go_cut [9] (fun x wx => ∃ m0 : Nat, m0 < s.modes ∧ x = .int .i64 m0 ∧ SW s S A2s c2s w wx)
  case first =>
    have hLW := Reads.below hL H3.out.bel
    obtain ⟨x0, x1, x2, hlt⟩ := h3.cells
    clear h3
    by_cases hl0 : 0 < l.length
    · obtain ⟨ba, oa, rfl⟩ := Reads.some_ hL (by simp; omega)
      obtain ⟨x, hx⟩ : ∃ x, l[0]? = some x := ⟨_, List.getElem?_eq_getElem hl0⟩
      have hx8 := hl8 x (List.mem_of_getElem? hx)
      obtain ⟨_, hba, hc⟩ := SlAt.got (f := v8) hLW hx
      rw [Nat.add_zero] at hc
      have hc' : W3.cell? ⟨ba, oa, none⟩ = some (.int .u8 (x : Int)) := hc
      obtain ⟨m0, hm⟩ : ∃ m0, m0 = x % s.modes := ⟨_, rfl⟩
      have hm0 : m0 < s.modes := by rw [hm]; exact Nat.mod_lt _ (by omega)
      have hmm : (x : Int) % (s.modes : Int) = (m0 : Int) := by rw [hm]; simp
      have hs0 : ¬ s.modes = 0 := by omega
      have hs1 : ((s.modes : Int) == 0) = false := by simp; omega
      have hl1 : (0 : Int) < (l.length : Int) := by omega
      unfold maxLen at hl
      clear hm hx hc hLW hL
      go_wp2_with fail
      go_quiet (fail)
      go_wp2
      go_meet
      case rel => exact ⟨m0, hm0, rfl, H3.out.next (below_drewN (Below.refl _ _) _)⟩
    · obtain rfl : l = [] := List.eq_nil_of_length_eq_zero (by omega)
      clear hLW
      go_wp2
      go_meet
      case rel => exact ⟨0, by omega, rfl, H3.out⟩
  case rest =>
    clear h3 H3 HX1
    obtain ⟨m0, hm0, rfl, h3⟩ := hcut
    obtain ⟨x0, x1, x2, hlt⟩ := h3.cells
    have H3 := Lib.hid h3
    have HLW := Lib.hid (Reads.below hL h3.bel)
    clear h3 hL
    go_wp2_with fail
    refine (least_s _ s A2s c2s _ HOK.out H3.out.rules m0 hm0).mono ?_
    intro e w4 hle
    obtain ⟨hb4, A5, n5, c5, x5, er, rfl, hlc⟩ := leastC hle
    obtain ⟨y0, y1, y2, hlt4⟩ := (H3.out.next hb4).cells
    have H4 := Lib.hid (H3.out.next hb4)
    have HLC := Lib.hid hlc
    have HL4 := Lib.hid (Reads.below HLW.out hb4)
    clear hle hlc hb4 x0 x1 x2 hlt H3 HLW
    go_wp2_with fail
    refine (walk_m _ _ s.modes s.accept A2s A' c2s c' m0 s.rules l _ H4.out.rules HL4.out hl8 hl (by omega) (by omega)).mono ?_
    rintro e w5 ⟨B, d, l', k, rfl, hb5, hr5, hp, hl10, hld⟩
    have HB5 := Lib.hid hb5
    have HP := Lib.hid hp
    have hkm : k < s.modes := pathTo_lt HOK.out.inn hm0 hp
    have HR5 := Lib.hid hr5
    clear hb5 hp hr5 y0 y1 y2 hlt4 HL4
    go_upto_region 9 with (fail)
    refine world_gen (EW s S A2s c2s B l' d w5.heap.size 0 m0 A5 n5 c5 x5 er w w5) ⟨H4.out.next HB5.out, HR5.out.mono (fun _ _ => trivial), HLC.out.next HB5.out, below_one _ _, Nat.le_refl _, Blk.new _ _ _⟩ ?_
    clear H4 HLC HB5 HR5
    generalize w5.heap.size = Y
    intro W6 h6
    have H6 := Lib.hid h6
    clear h6
    go_wp2_with fail
    go_loopw [16] (fun z wr => ∃ i : Nat, i ≤ l'.length ∧ z = .int .i64 i ∧ EW s S A2s c2s B l' d Y (costOf s.rules (l'.take i)) m0 A5 n5 c5 x5 er w w5 wr) (fun z _ => l'.length - (intOf z).toNat)
    case atStart => exact ⟨0, Nat.zero_le _, rfl, H6.out⟩
    case round =>
      clear H6 W6
      obtain ⟨i, hi, rfl, hW⟩ := hrel
      obtain ⟨x0, x1, x2, hlt⟩ := hW.sw.cells
      have y1 : wr.cell? ⟨Y, 1, none⟩ = some (.int .i64 (costOf s.rules (l'.take i) : Nat)) := hW.box.cell 1
      have f1 := hW.box.free 1
      have hYlt := hW.box.lt
      have hcl := costOf_le HOK.out.cost (l'.take i) (fun j hj => pathTo_in HP.out j (List.mem_of_mem_take hj))
      rw [List.length_take] at hcl
      have HW := Lib.hid hW
      clear hW
      by_cases hil : i < l'.length
      · obtain ⟨bb, ob, rfl⟩ := Reads.some_ HW.out.list (by simp; omega)
        obtain ⟨q, hq⟩ : ∃ q, l'[i]? = some q := ⟨_, List.getElem?_eq_getElem hil⟩
        have hqn : q < s.rules.length := pathTo_in HP.out q (List.mem_of_getElem? hq)
        obtain ⟨r, hr⟩ : ∃ r, s.rules[q]? = some r := ⟨_, List.getElem?_eq_getElem hqn⟩
        have HSN := Lib.hid (costOf_snoc hq hr)
        have hrb := HOK.out.cost r (List.mem_of_getElem? hr)
        obtain ⟨_, hbb, hqc⟩ := SlAt.got (f := vN) HW.out.list hq
        have hqc' : wr.cell? ⟨bb, ob + i, none⟩ = some (.int .i64 (q : Int)) := hqc
        obtain ⟨br, or, rfl⟩ := Reads.some_ HW.out.sw.rules (by rw [cells_length]; omega)
        obtain ⟨_, hbr, _, _, _, _, r4⟩ := RulesAt.got HW.out.sw.rules hr
        clear hqc hq hr
        have hq0 : (0 : Int) ≤ (q : Int) := by omega
        have hq1 : (q : Int) < (s.rules.length : Int) := by omega
        have hj0 : (0 : Int) ≤ (i : Int) := by omega
        have hj1 : (i : Int) < (l'.length : Int) := by omega
        have hsum : IntKind.i64.wrap ((costOf s.rules (l'.take i) : Nat) + (r.cost : Int)) = ((costOf s.rules (l'.take i) + r.cost : Nat) : Int) := by
          rw [IntWalk.i64_in _ (by omega)]; omega
        go_wp2_with fail
        go_still_tail 13, (by kernel_rfl)
        change wpList _ _ _ _ _ wr.drew
        go_wp2
        go_roundw
        case rel => exact ⟨i + 1, by omega, by go_num, by rw [HSN.out]; exact HW.out.put _⟩
        case measure => simp [intOf]; omega
      · obtain rfl : i = l'.length := by omega
        have htk : l'.take l'.length = l' := List.take_length
        rw [htk] at HW y1 hcl
        clear htk
        rcases HW.out.lst0 with ⟨⟨pl, px⟩, hlp, rfl, rfl, rfl, hcap, hp8, hsl⟩ | ⟨hno, rfl⟩
        · simp only at hlp hcap hp8 hsl ⊢
          obtain ⟨q, hq1, hq2, hq3⟩ := end_path hlp.1
          subst hq3
          have HLP := Lib.hid hlp
          have HQ := Lib.hid hq1
          have hqm : q < s.modes := pathTo_lt HOK.out.inn hm0 hq1
          have HSL := Lib.hid hsl
          have hcp := costOf_le HOK.out.cost pl (pathTo_in hq1)
          clear hlp hq1 hsl x0 x1 x2 hlt y1 f1 hYlt
          go_wp2_with fail
          generalize wr = W9 at *
          go_loopw [17, 18, 19] (fun a u z wr => ∃ i at_ : Nat, i ≤ pl.length ∧ z = .int .i64 i ∧ a = .int .i64 at_ ∧ u = .int .i64 (costOf s.rules (pl.take i) : Nat) ∧ pathTo s.rules m0 (pl.take i) = some at_ ∧ EW s S A2s c2s B l' d Y (costOf s.rules l') m0 A5 pl.length c5 (costOf s.rules pl) 0 w w5 wr) (fun _ _ z _ => pl.length - (intOf z).toNat)
          case atStart => exact ⟨0, m0, Nat.zero_le _, rfl, rfl, rfl, rfl, HW.out⟩
          case round =>
            clear HW W9
            obtain ⟨i, at_, hi, rfl, rfl, rfl, hat, hW⟩ := hrel
            have HAT := Lib.hid hat
            obtain ⟨x0, x1, x2, hlt⟩ := hW.sw.cells
            have HW := Lib.hid hW
            clear hW hat
            by_cases hil : i < pl.length
            · obtain ⟨j, hj⟩ : ∃ j, pl[i]? = some j := ⟨_, List.getElem?_eq_getElem hil⟩
              obtain ⟨r, hr, hrf, hst⟩ := path_step HQ.out hj HAT.out
              have hjn : j < s.rules.length := (List.getElem?_eq_some_iff.1 hr).1
              obtain ⟨ba, oa, rfl⟩ := Reads.some_ HSL.out (by simp; omega)
              obtain ⟨_, hba, hjc⟩ := SlAt.got (f := vN) (Reads.below HSL.out HW.out.bel0) hj
              have hjc' : wr.cell? ⟨ba, oa + i, none⟩ = some (.int .i64 (j : Int)) := hjc
              obtain ⟨br, or, rfl⟩ := Reads.some_ HW.out.sw.rules (by rw [cells_length]; omega)
              obtain ⟨_, hbr, r0, r1, _, _, r4⟩ := RulesAt.got HW.out.sw.rules hr
              have hrb := HOK.out.cost r (List.mem_of_getElem? hr)
              have HSN := Lib.hid (costOf_snoc hj hr)
              have HST := Lib.hid hst
              have hcl := costOf_le HOK.out.cost (pl.take i) (fun j hj => pathTo_in HQ.out j (List.mem_of_mem_take hj))
              rw [List.length_take] at hcl
              have hd1 : decide ((j : Int) < 0) = false := by simp
              have hd2 : decide ((s.rules.length : Int) ≤ (j : Int)) = false := by simp; omega
              have hd3 : ((r.frm : Int) == (at_ : Int)) = true := by simp [hrf]
              have hd4 : ((r.frm : Int) != (at_ : Int)) = false := by simp [hrf]
              have hj0 : (0 : Int) ≤ (j : Int) := by omega
              have hj1 : (j : Int) < (s.rules.length : Int) := by omega
              have hi0 : (0 : Int) ≤ (i : Int) := by omega
              have hi1 : (i : Int) < (pl.length : Int) := by omega
              have hsum : IntKind.i64.wrap ((costOf s.rules (pl.take i) : Nat) + (r.cost : Int)) = ((costOf s.rules (pl.take i) + r.cost : Nat) : Int) := by
                rw [IntWalk.i64_in _ (by omega)]; omega
              clear hr hrf hst hjc hj
              go_wp2_with fail
              go_quiet (fail)
              go_wp2_with fail
              go_quiet (fail)
              go_wp2_with fail
              go_quiet (fail)
              go_wp2_with fail
              go_roundw
              case rel => exact ⟨i + 1, r.dst, by omega, by go_num, rfl, by rw [HSN.out]; go_num, HST.out, HW.out.next (below_drewN (Below.refl _ _) _)⟩
              case measure => simp [intOf]; omega
            · obtain rfl : i = pl.length := by omega
              have htk : pl.take pl.length = pl := List.take_length
              have hat := HAT.out
              rw [htk, HQ.out] at hat
              injection hat with hat
              subst hat
              rw [htk]
              clear HAT htk
              have hnb : accB s.accept k = true → EndR.before ⟨l', costOf s.rules l'⟩ ⟨pl, costOf s.rules pl⟩ = false := fun h => HLP.out.2 _ (path_end h HP.out)
              go_upto_region 23 with (fail)
              go_cut [161] (fun v wx => v = .bool false ∧ EW s S A2s c2s B l' d Y (costOf s.rules l') m0 A5 pl.length c5 (costOf s.rules pl) 0 w w5 wx)
              case first =>
                go_wp2_with fail
                refine (accepts3_any s.modes s.accept A2s s.rules.length c2s q _ HOK.out.ac (by omega)).mono ?_
                rw [hq2]
                rintro e w7 ⟨rfl, hb7⟩
                obtain ⟨y0, y1, y2, hlt7⟩ := (HW.out.next hb7).sw.cells
                have H7 := Lib.hid (HW.out.next hb7)
                clear x0 x1 x2 hlt hb7 HW
                go_wp2_with fail
                refine (accepts3_any s.modes s.accept A2s s.rules.length c2s k _ HOK.out.ac (by omega)).mono ?_
                rintro e w8 ⟨rfl, hb8⟩
                have h8 := H7.out.next hb8
                have H8 := Lib.hid h8
                have u0 : w8.cell? ⟨Y, 0, none⟩ = some (.slice B l'.length d) := h8.box.cell 0
                have u1 : w8.cell? ⟨Y, 1, none⟩ = some (.int .i64 (costOf s.rules l' : Nat)) := h8.box.cell 1
                have u2 : w8.cell? ⟨Y, 2, none⟩ = some (.bool false) := h8.box.cell 2
                have hYlt := h8.box.lt
                clear h8 hb8 y0 y1 y2 hlt7 H7
                rcases hac : accB s.accept k with _ | _
                · clear hnb
                  go_wp2_with fail
                  go_meet
                  case rel => exact ⟨rfl, H8.out⟩
                · have HNB := Lib.hid (hnb hac)
                  clear hnb
                  go_wp2_with fail
                  refine (before3_any (fun _ => True) (fun _ => True) B A5 d c5 false false ⟨l', costOf s.rules l'⟩ ⟨pl, costOf s.rules pl⟩ _ H8.out.list (Reads.below HSL.out H8.out.bel0) (by show l'.length < 1000000; omega)).mono ?_
                  rw [HNB.out]
                  rintro e w9 ⟨rfl, hb9⟩
                  have H9 := Lib.hid (H8.out.next hb9)
                  clear hb9 u0 u1 u2 hYlt H8
                  go_wp2_with fail
                  go_meet
                  case rel => exact ⟨rfl, H9.out⟩
              case rest =>
                obtain ⟨rfl, hW⟩ := hcut
                clear HW x0 x1 x2 hlt hnb
                have hbel := hW.sw.bel
                have HW := Lib.hid hW
                clear hW
                by_cases hp0 : pl.length = 0
                · have hz : ((pl.length : Int) == 0) = true := by simp [hp0]
                  clear hp0
                  go_wp2_with fail
                  go_ret
                  exact ⟨rfl, hbel⟩
                · have hz : ((pl.length : Int) == 0) = false := by simp; intro h; exact hp0 (by rw [h]; rfl)
                  go_upto_region 27 with (fail)
                  obtain ⟨x0, x1, x2, hlt⟩ := HW.out.sw.cells
                  obtain ⟨i1, tl, rfl⟩ : ∃ i1 tl, pl = i1 :: tl := by
                    cases pl with
                    | nil => exact absurd rfl hp0
                    | cons a b => exact ⟨a, b, rfl⟩
                  obtain ⟨r, hr1, hr2, hr3⟩ := pathTo_inv HQ.out
                  obtain ⟨hrf, hrc, hrl⟩ := least_tail HLP.out hr1
                  obtain ⟨ba, oa, rfl⟩ := Reads.some_ HSL.out (by simp)
                  have hAl : SlAt vN (fun _ => True) wc (some ⟨ba, oa, none⟩) (i1 :: tl) := (Reads.below HSL.out HW.out.bel0).mono fun _ _ => trivial
                  obtain ⟨_, hba, hc0⟩ := SlAt.got (f := vN) (k := 0) hAl rfl
                  rw [Nat.add_zero] at hc0
                  have hc0' : wc.cell? ⟨ba, oa, none⟩ = some (.int .i64 (i1 : Int)) := hc0
                  obtain ⟨br, or, rfl⟩ := Reads.some_ HW.out.sw.rules (by rw [cells_length]; have := (List.getElem?_eq_some_iff.1 hr1).1; omega)
                  obtain ⟨_, hbr, q0, q1, q2, q3, q4⟩ := RulesAt.got HW.out.sw.rules hr1
                  have hi1n : i1 < s.rules.length := (List.getElem?_eq_some_iff.1 hr1).1
                  have hj0 : (0 : Int) ≤ (i1 : Int) := by omega
                  have hj1 : (i1 : Int) < (s.rules.length : Int) := by omega
                  have hrd := (HOK.out.inn r (List.mem_of_getElem? hr1)).2
                  have HRL := Lib.hid hrl
                  have HAL := Lib.hid hAl
                  have HR1 := Lib.hid hr1
                  clear hrl hAl hc0 hr1 hr2 hr3 hrf q0 q2 q3
                  go_region_held3 (fun w' => w'.cell? ⟨S, 0, none⟩ = some (.int .i64 s.modes) ∧ w'.cell? ⟨S, 1, none⟩ = some (.int .u8 s.accept) ∧ w'.cell? ⟨S, 2, none⟩ = some (.slice (some ⟨br, or, none⟩) s.rules.length c2s) ∧ w'.cell? ⟨ba, oa, none⟩ = some (.int .i64 i1) ∧ w'.cell? ⟨br, or + i1 * 5 + 1, none⟩ = some (.int .i64 r.dst))
                    (first | exact ⟨z0, z1, z2, z3, z4⟩ | go_keep)
                    (first | (go_at_call 24; refine (least_s _ s _ c2s _ HOK.out (HW.out.next ((Below.refl _ _).drew)).sw.rules r.dst hrd).mono ?_; intro e w10 hle; obtain ⟨hb10, A6, n6, c6, x6, er6, rfl, hlc⟩ := leastC hle; obtain ⟨z0, z1, z2, hzl⟩ := (HW.out.next ((Below.refl _ _).drew.trans hb10)).sw.cells; have hw10 : Below wc.heap.size wc w10 := (Below.refl wc.heap.size wc).drew.trans hb10; have z3 : w10.cell? ⟨ba, oa, none⟩ = some (.int .i64 i1) := (hw10.cell (p := ⟨ba, oa, none⟩) hba).trans hc0'; have z4 : w10.cell? ⟨br, or + i1 * 5 + 1, none⟩ = some (.int .i64 r.dst) := (hw10.cell (p := ⟨br, or + i1 * 5 + 1, none⟩) hbr).trans q1))
                  rename_i hHeld
                  clear hHeld z3 z4
                  rcases hlc with ⟨p', hlp', rfl, rfl, rfl, hcap', hp8', hsl'⟩ | ⟨hno, rfl⟩
                  rotate_left
                  · exact absurd HRL.out.1 (hno _)
                  obtain rfl := hlp'.unique HRL.out
                  simp only at hcap' hp8' hsl' ⊢
                  have hw10 : Below wc.heap.size wc w10 := (Below.refl wc.heap.size wc).drew.trans hb10
                  have z3 : w10.cell? ⟨ba, oa, none⟩ = some (.int .i64 i1) := (hw10.cell (p := ⟨ba, oa, none⟩) hba).trans hc0'
                  have z4 : w10.cell? ⟨br, or + i1 * 5 + 4, none⟩ = some (.int .i64 r.cost) := (hw10.cell (p := ⟨br, or + i1 * 5 + 4, none⟩) hbr).trans q4
                  have hba2 : ba < w10.heap.size := Nat.lt_of_lt_of_le hba hw10.size
                  have hbr2 : br < w10.heap.size := Nat.lt_of_lt_of_le hbr hw10.size
                  have HAL2 := Lib.hid (Reads.below HAL.out hw10)
                  have HSL2 := Lib.hid hsl'
                  have HBEL := Lib.hid (HW.out.next hw10).sw.bel
                  have hyb : (((costOf s.rules (i1 :: tl) - r.cost : Nat) : Int) == (costOf s.rules (i1 :: tl) : Int) - (r.cost : Int)) = true := by simp; omega
                  have hmx := costOf_le HOK.out.cost (i1 :: tl) (pathTo_in HQ.out)
                  have htl : tl.length ≤ 7 := by simp only [List.length_cons] at hp8; omega
                  have hc5 : tl.length + 1 ≤ c5 := hcap
                  clear hlp' hsl' hle hb10 hw10 x0 x1 x2 hlt hc0' q1 q4 HRL HLP hba hbr
                  have hsub : IntKind.i64.wrap ((costOf s.rules (i1 :: tl) : Int) - (r.cost : Int)) = (costOf s.rules (i1 :: tl) : Int) - (r.cost : Int) := by
                    simp only [List.length_cons] at hmx
                    rw [IntWalk.i64_in _ (by omega)]
                  generalize costOf s.rules (i1 :: tl) - r.cost = yy at *
                  generalize costOf s.rules (i1 :: tl) = xx at *
                  have hints : ∀ (W : World) (A7 : Option Addr) (c7 : Nat), Below w10.heap.size w10 W → SlAt vN (fun _ => True) W A7 tl → Calls Try.prog 18 #[.slice A6 tl.length c6, .slice A7 tl.length c7] W (Ret0 (.bool true) W) := fun W A7 c7 hbW h7 => by
                    have h := ints_any (fun _ => True) (fun _ => True) A6 A7 c6 c7 (castL tl) (castL tl) W (SlAt.cast (Reads.below HSL2.out hbW)) (SlAt.cast h7) (by rw [castL_len]; omega) (by rw [castL_len]; omega)
                    rw [castL_len] at h
                    exact h.mono fun e w' ⟨he, hb⟩ => ⟨by rw [he]; simp, hb⟩
                  have HINTS := Lib.hid hints
                  have hdrop : SlAt vN (fun _ => True) w10 (if c5 = 1 then some ⟨ba, oa, none⟩ else some ⟨ba, oa + 1, none⟩) tl := by
                    have h := Reads.drop_ (k := 1) (n := tl.length + 1) (cap := c5) (size := 1) HAL2.out (by simp) (by omega) (by omega)
                    simp only [List.map_cons, Nat.one_mul, List.drop_succ_cons, List.drop_zero, Option.map_some, Addr.add] at h
                    exact h
                  have HDROP := Lib.hid hdrop
                  clear hints hdrop
                  by_cases hc1 : c5 = 1
                  · subst hc1
                    obtain rfl : tl = [] := List.eq_nil_of_length_eq_zero (by omega)
                    have HDR : Hid (SlAt vN (fun _ => True) w10 (some ⟨ba, oa, none⟩) ([] : List Nat)) := Lib.hid (Reads.nil _)
                    go_wp2_with fail
                    go_region_held3 (fun w' => w'.cell? ⟨S, 2, none⟩ = some (.slice (some ⟨br, or, none⟩) s.rules.length c2s) ∧ w'.cell? ⟨ba, oa, none⟩ = some (.int .i64 i1) ∧ w'.cell? ⟨br, or + i1 * 5 + 4, none⟩ = some (.int .i64 r.cost))
                      (first | exact ⟨s2, s3, s4⟩ | go_keep)
                      (first | (go_at_call 18; refine (HINTS.out _ _ _ ((Below.refl _ _).drew) (Reads.below HDR.out ((Below.refl _ _).drew))).mono ?_; rintro e w11 ⟨rfl, hb11⟩; have hw11 : Below w10.heap.size w10 w11 := (Below.refl w10.heap.size w10).drew.trans hb11; have s2 : w11.cell? ⟨S, 2, none⟩ = some (.slice (some ⟨br, or, none⟩) s.rules.length c2s) := (hw11.cell (p := ⟨S, 2, none⟩) hzl).trans z2; have s3 : w11.cell? ⟨ba, oa, none⟩ = some (.int .i64 i1) := (hw11.cell (p := ⟨ba, oa, none⟩) hba2).trans z3; have s4 : w11.cell? ⟨br, or + i1 * 5 + 4, none⟩ = some (.int .i64 r.cost) := (hw11.cell (p := ⟨br, or + i1 * 5 + 4, none⟩) hbr2).trans z4))
                    go_wp2
                    go_ret
                    exact ⟨rfl, HBEL.out.trans (hw11.mono HBEL.out.size)⟩
                  · have hk1 : (1 : Int) ≤ (tl.length : Int) + 1 := by omega
                    have hk2 : (tl.length : Int) + 1 ≤ (c5 : Int) := by omega
                    have hk3 : (0 : Int) ≤ (tl.length : Int) := by omega
                    have hk4 : ¬ ((c5 : Int) = 1) := by omega
                    have hdr := HDROP.out
                    rw [if_neg hc1] at hdr
                    have HDR := Lib.hid hdr
                    clear hdr
                    go_wp2_with fail
                    go_region_held3 (fun w' => w'.cell? ⟨S, 2, none⟩ = some (.slice (some ⟨br, or, none⟩) s.rules.length c2s) ∧ w'.cell? ⟨ba, oa, none⟩ = some (.int .i64 i1) ∧ w'.cell? ⟨br, or + i1 * 5 + 4, none⟩ = some (.int .i64 r.cost))
                      (first | exact ⟨s2, s3, s4⟩ | go_keep)
                      (first | (go_at_call 18; refine (HINTS.out _ _ _ ((Below.refl _ _).drew) (Reads.below HDR.out ((Below.refl _ _).drew))).mono ?_; rintro e w11 ⟨rfl, hb11⟩; have hw11 : Below w10.heap.size w10 w11 := (Below.refl w10.heap.size w10).drew.trans hb11; have s2 : w11.cell? ⟨S, 2, none⟩ = some (.slice (some ⟨br, or, none⟩) s.rules.length c2s) := (hw11.cell (p := ⟨S, 2, none⟩) hzl).trans z2; have s3 : w11.cell? ⟨ba, oa, none⟩ = some (.int .i64 i1) := (hw11.cell (p := ⟨ba, oa, none⟩) hba2).trans z3; have s4 : w11.cell? ⟨br, or + i1 * 5 + 4, none⟩ = some (.int .i64 r.cost) := (hw11.cell (p := ⟨br, or + i1 * 5 + 4, none⟩) hbr2).trans z4))
                    go_wp2
                    go_ret
                    exact ⟨rfl, HBEL.out.trans (hw11.mono HBEL.out.size)⟩
        · have hac : accB s.accept k = false := by
            rcases h : accB s.accept k with _ | _
            · rfl
            · exact absurd (path_end h HP.out) (hno _)
          clear hno
          go_wp2_with fail
          refine (accepts3_any s.modes s.accept A2s s.rules.length c2s k _ HOK.out.ac (by omega)).mono ?_
          rw [hac]
          rintro e w7 ⟨rfl, hb7⟩
          have HB7 := Lib.hid (HW.out.next hb7).sw.bel
          clear hb7
          go_wp2_with fail
          go_ret
          exact ⟨rfl, HB7.out⟩
end Go.Proofs.Ytpidgkngefkbeaa
