/- The walk of RouteRefuses. -/
import Derived.Test.YtpidgkngefkbeaaK0
import Derived.Test.YtpidgkngefkbeaaG2
import Derived.Test.YtpidgkngefkbeaaP5
import Derived.Test.YtpidgkngefkbeaaL5
set_option linter.unusedVariables false
set_option linter.unusedSimpArgs false
namespace Go.Proofs.Ytpidgkngefkbeaa
open Go.RowKit

/-- behind the change: the scheme, the changed list -/
structure RfW (s : Scheme) (S : Nat) (A : Option Addr) (c g : Nat) (L : List Int) (w W : World) : Prop where
  sw : SW s S A c w W
  list : SlAt vI (fun _ => True) W (some ⟨g, 0, none⟩) L
theorem RfW.next {s : Scheme} {S : Nat} {A : Option Addr} {c g : Nat} {L : List Int} {w W W' : World} (h : RfW s S A c g L w W) (hb : Below W.heap.size W W') : RfW s S A c g L w W' := ⟨h.sw.next hb, Reads.below h.list hb⟩
theorem run_is (F G : Nat → Prop) (s : Scheme) (A A' : Option Addr) (c c' : Nat) (L : List Int) (n : Nat) (o : RunR) (w : World) (hs : SchemeOk s) (hA : RulesAt F w A s.rules) (hL : SlAt vI G w A' L) (hl : L.length ≤ 1000) (hn : L.length = n) (ho : runFrom s.rules .start L = o) :
    Calls Try.prog 15 #[.agg #[.int .i64 s.modes, .int .u8 s.accept, .slice A s.rules.length c], .slice A' n c'] w (Ret0 (.agg #[.string o.inp, .string o.out, .int .i64 o.cost, .int .i64 o.mode, .bool o.ok]) w) := by
  subst hn ho
  exact run_any F G s.modes s.accept A A' c c' s.rules L w hA hL (by have := hs.n9; omega) hl hs.bnd
theorem run_zero (F G : Nat → Prop) (s : Scheme) (A A' : Option Addr) (c c' : Nat) (L : List Int) (n : Nat) (w : World) (hs : SchemeOk s) (hA : RulesAt F w A s.rules) (hL : SlAt vI G w A' L) (hl : L.length ≤ 1000) (hn : L.length = n) (ho : runFrom s.rules .start L = .zero) :
    Calls Try.prog 15 #[.agg #[.int .i64 s.modes, .int .u8 s.accept, .slice A s.rules.length c], .slice A' n c'] w (Ret0 (.agg #[.string ⟨#[]⟩, .string ⟨#[]⟩, .int .i64 0, .int .i64 0, .bool false]) w) :=
  run_is F G s A A' c c' L n .zero w hs hA hL hl hn ho
theorem run_ok (F G : Nat → Prop) (s : Scheme) (A A' : Option Addr) (c c' : Nat) (L : List Int) (n : Nat) (w : World) (hs : SchemeOk s) (hA : RulesAt F w A s.rules) (hL : SlAt vI G w A' L) (hl : L.length ≤ 1000) (hn : L.length = n) (ho : (runFrom s.rules .start L).ok = true) :
    Calls Try.prog 15 #[.agg #[.int .i64 s.modes, .int .u8 s.accept, .slice A s.rules.length c], .slice A' n c'] w (Ret0 (.agg #[.string (runFrom s.rules .start L).inp, .string (runFrom s.rules .start L).out, .int .i64 (runFrom s.rules .start L).cost, .int .i64 (runFrom s.rules .start L).mode, .bool true]) w) := by
  have h := run_is F G s A A' c c' L n _ w hs hA hL hl hn rfl
  rw [ho] at h
  exact h
/-- what the check says: it fits, or it does not, and then Run hands back nothing -/
def FitsW (s : Scheme) (S : Nat) (A : Option Addr) (c g : Nat) (L : List Int) (w : World) (x : Value) (W : World) : Prop :=
  RfW s S A c g L w W ∧ ((x = .bool true ∧ (runFrom s.rules .start L).ok = true) ∨ (x = .bool false ∧ runFrom s.rules .start L = .zero))

set_option maxHeartbeats 4000000 in
set_option maxRecDepth 100000 in
theorem refuses_any (b dr w0 wb w2' w3' : Nat) (more : List RawRule) (A A' : Option Addr) (c c' : Nat) (l : List Nat) (w : World) (hb8 : b < 256) (hd8 : dr < 256) (h08 : w0 < 256) (h18 : wb < 256) (h28 : w2' < 256) (h38 : w3' < 256) (hR : RawAt (· < w.heap.size) w A more) (hwf : ∀ r ∈ more, r.wf) (hml : more.length ≤ maxLen)
    (hL : SlAt v8 (· < w.heap.size) w A' l) (hl8 : ∀ x ∈ l, x < 256) (hl : l.length ≤ maxLen) :
    Calls Try.prog 9 #[.agg #[.int .u8 b, .int .u8 dr, .slice A more.length c], .slice A' l.length c', .agg #[.int .u8 w0, .int .u8 wb, .int .u8 w2', .int .u8 w3']] w (RetTrue w) := by
  obtain ⟨i0, hi0, hz0, hz1, hzz⟩ := info_parts int_info
  have HI := Lib.hid (And.intro hi0 (And.intro hz0 (And.intro hz1 hzz)))
  clear hi0 hz0 hz1 hzz
  go_enter Try.func9, Try.ntmps9
  go_upto_region 1 with (fail)
  refine world_gen (fun W => Below w.heap.size w W ∧ Blk W w.heap.size 24 #[.int .u8 b, .int .u8 dr, .slice A more.length c] ∧ Blk W (w.heap.size + 1) 64 #[.int .u8 w0, .int .u8 wb, .int .u8 w2', .int .u8 w3'])
    ⟨((Below.refl _ _).alloc (Nat.le_refl _) _).alloc (by simp) _, (Blk.new _ _ _).alloc _, Blk.new2 _ _ _ _⟩ ?_
  rintro W ⟨hbel, b0, b1⟩
  go_wp2_with fail
  refine (sanity_any _).mono ?_
  rintro e w1 ⟨rfl, hb1⟩
  have hbel1 := hbel.trans (hb1.mono hbel.size)
  have b01 := b0.next hb1
  have b11 := b1.next hb1
  have x0 : w1.cell? ⟨w.heap.size, 0, none⟩ = some (.int .u8 b) := b01.cell 0
  have x1 : w1.cell? ⟨w.heap.size, 1, none⟩ = some (.int .u8 dr) := b01.cell 1
  have x2 : w1.cell? ⟨w.heap.size, 2, none⟩ = some (.slice A more.length c) := b01.cell 2
  have y0 : w1.cell? ⟨w.heap.size + 1, 0, none⟩ = some (.int .u8 w0) := b11.cell 0
  have y1 : w1.cell? ⟨w.heap.size + 1, 1, none⟩ = some (.int .u8 wb) := b11.cell 1
  have hlt0 := b01.lt
  have hlt1 := b11.lt
  have B11 := Lib.hid b11
  clear b0 b1 b01 b11 hbel hb1
  go_wp2_with fail
  refine (made3_any (· < w.heap.size) b dr w0 wb more A c _ (fun k hk => by have := hbel1.size; omega) (RawAt.lower hR (fun _ h => h) hbel1) hwf hb8 hd8 h08 h18 hml).mono ?_
  rintro e w2 ⟨A2, c2, rfl, hb2, hacc⟩
  have hok := made3_ok b dr more w0 wb
  have hbel2 := hbel1.trans (hb2.mono hbel1.size)
  have B12 := Lib.hid (B11.out.next hb2)
  clear x0 x1 x2 y0 y1 hlt0 hlt1 hbel1 hb2 hR hwf hml B11
  generalize made3 b dr more w0 wb = s at *
  go_upto_region 3 with (fail)
  refine world_gen (fun W => SW s w2.heap.size A2 c2 w W ∧ Blk W (w.heap.size + 1) 64 #[.int .u8 w0, .int .u8 wb, .int .u8 w2', .int .u8 w3']) ⟨⟨hbel2.alloc hbel2.size _, Blk.new _ _ _, (Reads.below (Acc.reads hacc) (below_one _ _)).mono (fun _ _ => trivial)⟩, B12.out.alloc _⟩ ?_
  clear hacc hbel2 B12
  generalize w2.heap.size = S at *
  rintro W3 ⟨h3, b3⟩
  obtain ⟨x0, x1, x2, hlt⟩ := h3.cells
  have HL := Reads.below hL h3.bel
  have H3 := Lib.hid h3
  have B3 := Lib.hid b3
  have HOK := Lib.hid hok
  have hn9 := hok.n9
  clear h3 b3 hok hL
  go_wp2_with fail
  refine (walk_10 _ _ s.modes s.accept A2 A' c2 c' s.rules l _ H3.out.rules HL hl8 hl (by omega)).mono ?_
  rintro e w4 ⟨B, d, l', k, rfl, hb4, hr4, hp, hl10, hld⟩
  have h4 := H3.out.next hb4
  obtain ⟨x0, x1, x2, hlt⟩ := h4.cells
  have b4 := B3.out.next hb4
  have q2 : w4.cell? ⟨w.heap.size + 1, 2, none⟩ = some (.int .u8 w2') := b4.cell 2
  have q3 : w4.cell? ⟨w.heap.size + 1, 3, none⟩ = some (.int .u8 w3') := b4.cell 3
  have hq := b4.lt
  have H4 := Lib.hid h4
  have HR4 := Lib.hid hr4
  have HP := Lib.hid hp
  have B4 := Lib.hid b4
  clear h4 hr4 hp H3 HL hb4 b4 B3
  by_cases hl0 : l'.length = 0
  · have hz : ((l'.length : Int) == 0) = true := by simp [hl0]
    have hnone : runFrom s.rules .start [(s.rules.length : Int)] = .zero := by rw [runFrom_none (ruleAt_big (Int.le_refl _))]
    have HN := Lib.hid hnone
    clear hl0 hnone
    go_wp2_with fail
    refine (run_zero _ (fun _ => True) s A2 _ c2 _ [(s.rules.length : Int)] 1 _ HOK.out (H4.out.next (below_one _ _)).rules (Reads.block (Blk.new _ _ _) trivial) (by simp) rfl HN.out).mono ?_
    rintro e w5 ⟨rfl, hb5⟩
    have HB := Lib.hid ((H4.out.next (below_one _ _)).next hb5).bel
    clear x0 x1 x2 hlt q2 q3 hq hb5
    go_wp2_with fail
    go_ret
    exact ⟨rfl, HB.out⟩
  · have hz : ((l'.length : Int) == 0) = false := by simpa using hl0
    have hlp : ¬ l'.length = 0 := hl0
    obtain ⟨i, hi⟩ : ∃ i, i = w2' % l'.length := ⟨_, rfl⟩
    have hil : i < l'.length := by rw [hi]; exact Nat.mod_lt _ (by omega)
    have hii : (w2' : Int) % (l'.length : Int) = (i : Int) := by rw [hi]; simp
    obtain ⟨j, hj⟩ : ∃ j, j = w3' % (s.rules.length + 2) := ⟨_, rfl⟩
    have hjl : j < s.rules.length + 2 := by rw [hj]; exact Nat.mod_lt _ (by omega)
    have hjj : (w3' : Int) % ((s.rules.length : Int) + 2) = (j : Int) := by rw [hj]; simp
    clear hi hj
    go_upto_region 7 with (fail)
    obtain ⟨bb, ob, rfl⟩ := Reads.some_ HR4.out (by simp; omega)
    have hnews : ∀ (jj : Nat) u, (l'.map vN)[jj]? = some u → (w4.alloc (.cells #[] 3)).cell? ((⟨bb, ob, none⟩ : Addr).add jj) = some u := fun jj u hu => add_cell (Reads.below HR4.out (below_one _ _)) hu
    have HNEW := Lib.hid hnews
    have hown0 := own_empty w4 3 1 w4.heap.size (Nat.le_refl _)
    have HOWN0 := Lib.hid hown0
    clear hnews hown0
    go_upto_block 0 with (at_builtin; refine wpList_append_own_at _ (by rfl) _ _ _ (by rfl) w4.heap.size 3 i0 (.int .i64 0) 1 8 Try.underlying32 HI.out.1 HI.out.2.1 HI.out.2.2.1 HI.out.2.2.2 (by rfl) (by decide) _ 0 [] (by rfl) (by exact HOWN0.out) ⟨bb, ob, none⟩ l'.length d (l'.map vN) (by rfl) (by simp) (by exact HNEW.out) (by simp [vN, Value.oneCell']) (by unfold maxLen; omega) (by omega) (by simp) ?_; intro v5 w5 hown5 hgr5 _ hat5; simp only [Nat.zero_add, List.nil_append] at hown5; obtain ⟨g, cap, rfl, hgb, hgl⟩ := hown5.form (by omega); have hb5 : Below w4.heap.size w4 w5 := (below_one w4 _).grown hgr5 (by simp) (fun k hk => Nat.le_of_eq (Option.some.inj hk)); have h5 := H4.out.next hb5; have b5 := B4.out.next hb5; obtain ⟨z0, z1, z2, hlt5⟩ := h5.cells; have p3 : w5.cell? ⟨w.heap.size + 1, 3, none⟩ = some (.int .u8 w3') := b5.cell 3; have hp3 := b5.lt; obtain ⟨⟨u0, hu0⟩, hfz, _, _, hrd⟩ := own_store hown5 hil (.int .i64 ((j : Int) - 1)); have H5 := Lib.hid h5; have HRD := Lib.hid hrd; have HB5 := Lib.hid (hb5.setCell (p := ⟨g, i, none⟩) hgb (.int .i64 ((j : Int) - 1))); clear h5 b5 hb5 hrd x0 x1 x2 hlt q2 q3 hq)
    obtain ⟨L, hLdef⟩ : ∃ L : List Int, L = (castL l').set i ((j : Int) - 1) := ⟨_, rfl⟩
    have hLen : L.length = l'.length := by rw [hLdef, List.length_set, castL_len]
    have hLr : SlAt vI (fun _ => True) (w5.setCell ⟨g, i, none⟩ (.int .i64 ((j : Int) - 1))) (some ⟨g, 0, none⟩) L := by
      rw [hLdef]
      exact (sl_set HRD.out).mono (fun _ _ => trivial)
    refine world_gen (RfW s S A2 c2 g L w) ⟨H4.out.next HB5.out, hLr⟩ ?_
    clear H5 HRD HB5 hLr hLdef hown5 hgr5 z0 z1 z2 hlt5 p3 hp3 hu0 hfz H4 HR4 HNEW HOWN0 B4
    intro W6 h6
    go_cut [13] (fun v wx => FitsW s S A2 c2 g L w v wx)
    case first =>
      have HLEN := Lib.hid hLen
      have hLle : L.length ≤ l'.length := by omega
      have hLge : l'.length ≤ L.length := by omega
      have H6 := Lib.hid h6
      clear hLen h6
      go_wp2_with fail
      go_loopw [13, 14, 15] (fun f y z wr => ∃ (q mode : Nat), q ≤ l'.length ∧ z = .int .i64 q ∧ y = .int .i64 mode ∧ f = .bool true ∧ RfW s S A2 c2 g L w wr ∧ Fits s.rules L q mode) (fun _ _ z _ => l'.length - (intOf z).toNat)
      case atStart => exact ⟨0, 0, Nat.zero_le _, rfl, rfl, rfl, H6.out, Fits.start _ _⟩
      case round =>
        clear H6 W6
        obtain ⟨q, mode, hq, rfl, rfl, rfl, hW, hF⟩ := hrel
        have HF := Lib.hid hF
        clear hF
        obtain ⟨x0, x1, x2, hlt⟩ := hW.sw.cells
        have HW := Lib.hid hW
        clear hW
        by_cases hql : q < l'.length
        · obtain ⟨x, hx⟩ : ∃ x, L[q]? = some x := ⟨_, List.getElem?_eq_getElem (by omega)⟩
          obtain ⟨_, hgl, hxc⟩ := SlAt.got (f := vI) HW.out.list hx
          rw [Nat.zero_add] at hxc
          have hxc' : wr.cell? ⟨g, q, none⟩ = some (.int .i64 x) := hxc
          have HX := Lib.hid hx
          clear hx hxc
          have hq0 : (0 : Int) ≤ (q : Int) := by omega
          have hq1 : (q : Int) < (l'.length : Int) := by omega
          rcases Int.lt_or_le x 0 with hx0 | hx0
          · have hd : decide (x < 0) = true := by simpa using hx0
            have HZ := Lib.hid (HF.out.none_ HX.out (ruleAt_neg hx0))
            go_wp2_with fail
            go_quiet (fail)
            go_wp2
            go_meet
            case rel => exact ⟨HW.out.next (below_drewN (Below.refl _ _) _), .inr ⟨rfl, HZ.out⟩⟩
          have hd : decide (x < 0) = false := by simp; omega
          rcases Int.lt_or_le x (s.rules.length : Int) with hx1 | hx1
          rotate_left
          · have hd2 : decide ((s.rules.length : Int) ≤ x) = true := by simpa using hx1
            have HZ := Lib.hid (HF.out.none_ HX.out (ruleAt_big hx1))
            go_wp2_with fail
            go_quiet (fail)
            go_wp2
            go_meet
            case rel => exact ⟨HW.out.next (below_drewN (Below.refl _ _) _), .inr ⟨rfl, HZ.out⟩⟩
          have hd2 : decide ((s.rules.length : Int) ≤ x) = false := by simp; omega
          obtain ⟨p, rfl⟩ := Int.eq_ofNat_of_zero_le hx0
          have hp : p < s.rules.length := by omega
          obtain ⟨r, hr⟩ : ∃ r, s.rules[p]? = some r := ⟨_, List.getElem?_eq_getElem hp⟩
          obtain ⟨br, or, rfl⟩ := Reads.some_ HW.out.sw.rules (by rw [cells_length]; omega)
          obtain ⟨_, hbr, r0, r1, _⟩ := RulesAt.got HW.out.sw.rules hr
          have HR := Lib.hid hr
          clear hr
          by_cases hmode : r.frm = mode
          rotate_left
          · have hd3 : ((r.frm : Int) == (mode : Int)) = false := by simp; omega
            have hd4 : ((r.frm : Int) != (mode : Int)) = true := by simp; omega
            have HZ := Lib.hid (HF.out.no HX.out HR.out hmode)
            clear hmode
            go_wp2_with fail
            go_quiet (fail)
            go_wp2
            go_meet
            case rel => exact ⟨HW.out.next (below_drewN (Below.refl _ _) _), .inr ⟨rfl, HZ.out⟩⟩
          have hd3 : ((r.frm : Int) == (mode : Int)) = true := by simp; omega
          have hd4 : ((r.frm : Int) != (mode : Int)) = false := by simp; omega
          have HZ := Lib.hid (HF.out.step HX.out HR.out hmode)
          clear hmode
          go_wp2_with fail
          go_quiet (fail)
          go_wp2_with fail
          go_quiet (fail)
          go_wp2_with fail
          go_roundw
          case rel => exact ⟨q + 1, r.dst, by omega, by go_num, rfl, rfl, HW.out.next (below_drewN (Below.refl _ _) _), HZ.out⟩
          case measure => simp [intOf]; omega
        · have HZ := Lib.hid (HF.out.done (by omega))
          go_wp2_with fail
          go_meet
          case rel => exact ⟨HW.out, .inl ⟨rfl, HZ.out⟩⟩
    case rest =>
      obtain ⟨hW, hfit⟩ := hcut
      obtain ⟨x0, x1, x2, hlt⟩ := hW.sw.cells
      have HW := Lib.hid hW
      have HLEN := Lib.hid hLen
      clear hW h6 hLen
      rcases hfit with ⟨rfl, hf⟩ | ⟨rfl, hf⟩
      · have HFT := Lib.hid hf
        clear hf
        go_wp2_with fail
        refine (run_ok _ (fun _ => True) s A2 _ c2 _ L l'.length _ HOK.out HW.out.sw.rules HW.out.list (by have := HLEN.out; omega) HLEN.out HFT.out).mono ?_
        rintro e w7 ⟨rfl, hb7⟩
        have HB := Lib.hid (HW.out.next hb7).sw.bel
        have hs7 := hb7.size
        clear x0 x1 x2 hlt hb7
        go_wp2_with fail
        go_ret
        exact ⟨rfl, HB.out.alloc HB.out.size _⟩
      · have HFT := Lib.hid hf
        clear hf
        go_wp2_with fail
        refine (run_zero _ (fun _ => True) s A2 _ c2 _ L l'.length _ HOK.out HW.out.sw.rules HW.out.list (by have := HLEN.out; omega) HLEN.out HFT.out).mono ?_
        rintro e w7 ⟨rfl, hb7⟩
        have HB := Lib.hid (HW.out.next hb7).sw.bel
        have hs7 := hb7.size
        clear x0 x1 x2 hlt hb7
        go_wp2_with fail
        go_ret
        exact ⟨rfl, HB.out.alloc HB.out.size _⟩
end Go.Proofs.Ytpidgkngefkbeaa
