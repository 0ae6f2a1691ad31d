/- The walk of RouteTrims. -/
import Derived.Test.YtpidgkngefkbeaaK1
import Derived.Test.YtpidgkngefkbeaaP11
import Derived.Test.YtpidgkngefkbeaaW14
set_option linter.unusedVariables false
set_option linter.unusedSimpArgs false
namespace Go.Proofs.Ytpidgkngefkbeaa
open Go.RowKit

section
variable (F : Nat → Prop) (s : Scheme) (A : Option Addr) (c : Nat) (w : World) (hs : SchemeOk s) (hA : RulesAt F w A s.rules)
include hs hA
theorem reached3_s : Calls Try.prog 21 #[.agg #[.int .i64 s.modes, .int .u8 s.accept, .slice A s.rules.length c]] w (BoolsRes s.modes (ReachedP s.rules) w) :=
  reached3_any _ s.modes s.accept A c s.rules w (Reads.all hA) (fun _ h => h) (by have := hs.n9; omega) (by have := hs.m2; omega) (by have := hs.m5; omega) hs.inn
theorem live3_s : Calls Try.prog 23 #[.agg #[.int .i64 s.modes, .int .u8 s.accept, .slice A s.rules.length c]] w (BoolsRes s.modes (LiveP s.accept s.modes s.rules) w) :=
  live3_any _ s.modes s.accept A c s.rules w (Reads.all hA) (fun _ h => h) (by have := hs.n9; omega) (by have := hs.m5; omega) hs.ac hs.inn
/-- what Trim hands back -/
def TrimQ (s : Scheme) (w : World) (e : Ending) (w' : World) : Prop :=
  ∃ keep A1 c1 A2 c2, e = .returned (.tuple #[.agg #[.int .i64 s.modes, .int .u8 s.accept, .slice A1 (kept keep s.rules s.rules.length).length c1], .slice A2 (idx keep s.rules.length).length c2]) ∧ Below w.heap.size w w' ∧ Keeps s.accept s.modes s.rules keep ∧ RulesAt (fun _ => True) w' A1 (kept keep s.rules s.rules.length) ∧ SlAt vN (fun _ => True) w' A2 (idx keep s.rules.length)
theorem trim_s : Calls Try.prog 13 #[.agg #[.int .i64 s.modes, .int .u8 s.accept, .slice A s.rules.length c]] w (TrimQ s w) :=
  (trim_any _ s.modes s.accept A c s.rules w (Reads.all hA) (fun _ h => h) (by have := hs.n9; omega) (by have := hs.m2; omega) (by have := hs.m5; omega) hs.ac hs.inn).mono fun e w' ⟨keep, A1, c1, A2, c2, he, hb, hk, h1, h2⟩ =>
    ⟨keep, A1, c1, A2, c2, by rw [he, kept_len], hb, hk, h1.mono fun _ _ => trivial, h2.mono fun _ _ => trivial⟩
end
/-- both schemes, the kept indices -/
structure KW (s : Scheme) (S : Nat) (A : Option Addr) (c : Nat) (ks : List Rule) (T : Nat) (At : Option Addr) (ct : Nat) (il : List Nat) (Al : Option Addr) (w W : World) : Prop where
  sw : SW s S A c w W
  box : Blk W T 30 #[.int .i64 s.modes, .int .u8 s.accept, .slice At ks.length ct]
  rules : RulesAt (fun _ => True) W At ks
  list : SlAt vN (fun _ => True) W Al il
theorem KW.next {s : Scheme} {S : Nat} {A : Option Addr} {c : Nat} {ks : List Rule} {T : Nat} {At : Option Addr} {ct : Nat} {il : List Nat} {Al : Option Addr} {w W W' : World} (h : KW s S A c ks T At ct il Al w W) (hb : Below W.heap.size W W') : KW s S A c ks T At ct il Al w W' :=
  ⟨h.sw.next hb, h.box.next hb, Reads.below h.rules hb, Reads.below h.list hb⟩
/-- and both lists of modes -/
structure KV (s : Scheme) (S : Nat) (A : Option Addr) (c : Nat) (ks : List Rule) (T : Nat) (At : Option Addr) (ct : Nat) (il : List Nat) (Al : Option Addr) (g1 g2 : Nat) (V1 V2 : List Bool) (w W : World) : Prop where
  kw : KW s S A c ks T At ct il Al w W
  r1 : Blk W g1 4 (V1.map vB).toArray
  r2 : Blk W g2 4 (V2.map vB).toArray
theorem KV.next {s : Scheme} {S : Nat} {A : Option Addr} {c : Nat} {ks : List Rule} {T : Nat} {At : Option Addr} {ct : Nat} {il : List Nat} {Al : Option Addr} {g1 g2 : Nat} {V1 V2 : List Bool} {w W W' : World} (h : KV s S A c ks T At ct il Al g1 g2 V1 V2 w W) (hb : Below W.heap.size W W') : KV s S A c ks T At ct il Al g1 g2 V1 V2 w W' :=
  ⟨h.kw.next hb, h.r1.next hb, h.r2.next hb⟩
/-- and the walked list -/
structure KL (s : Scheme) (S : Nat) (A : Option Addr) (c : Nat) (ks : List Rule) (T : Nat) (At : Option Addr) (ct : Nat) (il : List Nat) (Al : Option Addr) (B : Option Addr) (l : List Nat) (w W : World) : Prop where
  kw : KW s S A c ks T At ct il Al w W
  walk : SlAt vN (fun _ => True) W B l
theorem KL.next {s : Scheme} {S : Nat} {A : Option Addr} {c : Nat} {ks : List Rule} {T : Nat} {At : Option Addr} {ct : Nat} {il : List Nat} {Al : Option Addr} {B : Option Addr} {l : List Nat} {w W W' : World} (h : KL s S A c ks T At ct il Al B l w W) (hb : Below W.heap.size W W') : KL s S A c ks T At ct il Al B l w W' :=
  ⟨h.kw.next hb, Reads.below h.walk hb⟩
def KQ (s : Scheme) (S : Nat) (A : Option Addr) (c : Nat) (ks : List Rule) (T : Nat) (At : Option Addr) (ct : Nat) (il : List Nat) (Al : Option Addr) (w : World) (x y : Value) (W : World) : Prop :=
  ∃ g1 g2 V1 V2, x = .slice (some ⟨g1, 0, none⟩) s.modes s.modes ∧ y = .slice (some ⟨g2, 0, none⟩) s.modes s.modes ∧ KV s S A c ks T At ct il Al g1 g2 V1 V2 w W ∧ Both s V1 V2

set_option maxHeartbeats 20000000 in
set_option maxRecDepth 100000 in
theorem trims_any (b dr w0 wb : Nat) (more : List RawRule) (A : Option Addr) (c : Nat) (A' : Option Addr) (c' : Nat) (l : List Nat) (w : World) (hb8 : b < 256) (hd8 : dr < 256) (h08 : w0 < 256) (h18 : wb < 256) (hR : RawAt (· < w.heap.size) w A more) (hwf : ∀ r ∈ more, r.wf) (hml : more.length ≤ maxLen)
    (hL : SlAt v8 (· < w.heap.size) w A' l) (hl8 : ∀ x ∈ l, x < 256) (hl : l.length ≤ maxLen) :
    Calls Try.prog 6 #[.agg #[.int .u8 b, .int .u8 dr, .slice A more.length c], .agg #[.int .u8 w0, .int .u8 wb], .slice A' l.length c'] w (RetTrue w) := by
  go_enter Try.func6, Try.ntmps6
  go_upto_region 1 with (fail)
  refine world_gen (fun W => Below w.heap.size w W ∧ Blk W w.heap.size 24 #[.int .u8 b, .int .u8 dr, .slice A more.length c] ∧ Blk W (w.heap.size + 1) 25 #[.int .u8 w0, .int .u8 wb])
    ⟨((Below.refl _ _).alloc (Nat.le_refl _) _).alloc (by simp) _, (Blk.new _ _ _).alloc _, Blk.new2 _ _ _ _⟩ ?_
  rintro W ⟨hbel, b0, b1⟩
  go_wp2_with fail
  refine (sanity_any _).mono ?_
  rintro e w1 ⟨rfl, hb1⟩
  have hbel1 := hbel.trans (hb1.mono hbel.size)
  have b01 := b0.next hb1
  have b11 := b1.next hb1
  have x0 : w1.cell? ⟨w.heap.size, 0, none⟩ = some (.int .u8 b) := b01.cell 0
  have x1 : w1.cell? ⟨w.heap.size, 1, none⟩ = some (.int .u8 dr) := b01.cell 1
  have x2 : w1.cell? ⟨w.heap.size, 2, none⟩ = some (.slice A more.length c) := b01.cell 2
  have y0 : w1.cell? ⟨w.heap.size + 1, 0, none⟩ = some (.int .u8 w0) := b11.cell 0
  have y1 : w1.cell? ⟨w.heap.size + 1, 1, none⟩ = some (.int .u8 wb) := b11.cell 1
  have hlt0 := b01.lt
  have hlt1 := b11.lt
  clear b0 b1 b01 hbel
  go_wp2_with fail
  refine (made3_any (· < w.heap.size) b dr w0 wb more A c _ (fun k hk => by have := hbel1.size; omega) (RawAt.lower hR (fun _ h => h) hbel1) hwf hb8 hd8 h08 h18 hml).mono ?_
  rintro e w2 ⟨A2s, c2s, rfl, hb2, hacc⟩
  have hok := made3_ok b dr more w0 wb
  have hn99 := made3_n9 b dr more w0 wb
  have hbel2 := hbel1.trans (hb2.mono hbel1.size)
  have hb1' := b11.next hb2
  clear x0 x1 x2 y0 y1 hlt0 hlt1 hbel1 hb1 hb2 hR hwf hml b11
  generalize made3 b dr more w0 wb = s at *
  go_upto_region 3 with (fail)
  refine world_gen (fun W => SW s w2.heap.size A2s c2s w W ∧ Blk W (w.heap.size + 1) 25 #[.int .u8 w0, .int .u8 wb]) ⟨⟨hbel2.alloc hbel2.size _, Blk.new _ _ _, (Reads.below (Acc.reads hacc) (below_one _ _)).mono (fun _ _ => trivial)⟩, hb1'.alloc _⟩ ?_
  clear hacc hbel2 hb1'
  generalize w2.heap.size = S at *
  rintro W3 ⟨h3, hbx1⟩
  have H3 := Lib.hid h3
  have HX1 := Lib.hid hbx1
  have HOK := Lib.hid hok
  have hn9 := hok.n9
  have hm2 := hok.m2
  have hm5 := hok.m5
  clear hbx1 hok
  obtain ⟨x0, x1, x2, hlt⟩ := h3.cells
  clear h3
  go_wp2_with fail
  refine (trim_s _ s A2s c2s _ HOK.out H3.out.rules).mono ?_
  rintro e w4 ⟨keep, At, ct, Al, cl, rfl, hb4, hk, hrt, hrl⟩
  have hlen : (kept keep s.rules s.rules.length).length = (idx keep s.rules.length).length := kept_len _ _ _
  obtain ⟨ks, hks⟩ : ∃ ks, kept keep s.rules s.rules.length = ks := ⟨_, rfl⟩
  obtain ⟨il, hil⟩ : ∃ il, idx keep s.rules.length = il := ⟨_, rfl⟩
  have hill := idx_len keep s.rules.length
  rw [hks, hil] at hlen
  rw [hks] at hrt ⊢
  rw [hil] at hrl hill ⊢
  have HKS := Lib.hid hks
  have HIL := Lib.hid hil
  have HK := Lib.hid hk
  have HRT := Lib.hid hrt
  have HRL := Lib.hid hrl
  have HB4 := Lib.hid hb4
  have d1 : ((ks.length : Int) != (il.length : Int)) = false := by simp [hlen]
  have hkl : ks.length ≤ il.length := by omega
  have hkl2 : il.length ≤ ks.length := by omega
  have hilr : il.length ≤ s.rules.length := hill
  clear hks hil hk hrt hrl hb4 hlen hill x0 x1 x2 hlt HX1
  go_upto_region 4 with (fail)
  refine world_gen (KW s S A2s c2s ks w4.heap.size At ct il Al w) ⟨(H3.out.next HB4.out).next (below_one _ _), Blk.new _ _ _, Reads.below HRT.out (below_one _ _), Reads.below HRL.out (below_one _ _)⟩ ?_
  clear H3 HB4 HRT HRL
  generalize w4.heap.size = T
  intro W5 h5
  have H5 := Lib.hid h5
  clear h5
  go_cut [11, 12] (fun x y wx => KQ s S A2s c2s ks T At ct il Al w x y wx)
  case first =>
    have HD : Hid (KW s S A2s c2s ks T At ct il Al w W5.drew) := Lib.hid (H5.out.next (Below.refl _ _).drew)
    obtain ⟨x0, x1, x2, hlt⟩ := H5.out.sw.cells
    go_region_held3 (fun w' => w'.cell? ⟨S, 0, none⟩ = some (.int .i64 s.modes) ∧ w'.cell? ⟨S, 1, none⟩ = some (.int .u8 s.accept) ∧ w'.cell? ⟨S, 2, none⟩ = some (.slice A2s s.rules.length c2s))
      (first | exact ⟨x0, x1, x2⟩ | go_keep)
      (first
        | (go_at_call 21; refine (reached3_s (fun _ => True) s A2s c2s _ HOK.out (by exact HD.out.sw.rules)).mono ?_; rintro e wA ⟨gA, VA, rfl, hbA, _, hrA, hlA, hiA⟩; replace HD := Lib.hid (HD.out.next hbA); obtain ⟨x0, x1, x2, hlt⟩ := HD.out.sw.cells; try (replace hrB := Blk.next hrB hbA))
        | (go_at_call 23; refine (live3_s (fun _ => True) s A2s c2s _ HOK.out (by exact HD.out.sw.rules)).mono ?_; rintro e wB ⟨gB, VB, rfl, hbB, _, hrB, hlB, hiB⟩; replace HD := Lib.hid (HD.out.next hbB); obtain ⟨x0, x1, x2, hlt⟩ := HD.out.sw.cells; try (replace hrA := Blk.next hrA hbB)))
    all_goals (go_wp2; go_meet)
    all_goals exact ⟨gA, gB, VA, VB, rfl, rfl, ⟨HD.out, hrA, hrB⟩, ⟨hlA, hlB, hiA, hiB⟩⟩
  case rest =>
    clear H5
    obtain ⟨g1, g2, V1, V2, rfl, rfl, hV, hB⟩ := hcut
    have HB := Lib.hid hB
    obtain ⟨x0, x1, x2, hlt⟩ := hV.kw.sw.cells
    have t0 : wc.cell? ⟨T, 0, none⟩ = some (.int .i64 s.modes) := hV.kw.box.cell 0
    have t1 : wc.cell? ⟨T, 1, none⟩ = some (.int .u8 s.accept) := hV.kw.box.cell 1
    have t2 : wc.cell? ⟨T, 2, none⟩ = some (.slice At ks.length ct) := hV.kw.box.cell 2
    have htl := hV.kw.box.lt
    have HV := Lib.hid hV
    clear hV hB
    go_wp2_with fail
    clear x0 x1 x2 hlt t0 t1 t2 htl
    go_loopw [13, 14] (fun a z wr => ∃ i : Nat, i ≤ s.rules.length ∧ z = .int .i64 i ∧ a = .int .i64 ((idx keep i).length : Nat) ∧ KV s S A2s c2s ks T At ct il Al g1 g2 V1 V2 w wr) (fun _ z _ => s.rules.length - (intOf z).toNat)
    case atStart => exact ⟨0, Nat.zero_le _, rfl, rfl, HV.out⟩
    case round =>
      clear HV wc
      obtain ⟨i, hi, rfl, rfl, hV⟩ := hrel
      obtain ⟨x0, x1, x2, hlt⟩ := hV.kw.sw.cells
      have t2 : wr.cell? ⟨T, 2, none⟩ = some (.slice At ks.length ct) := hV.kw.box.cell 2
      have htl := hV.kw.box.lt
      have hle : (idx keep i).length ≤ il.length := by rw [← HIL.out]; exact idx_le hi
      have hle2 := idx_len keep i
      have HV := Lib.hid hV
      clear hV
      by_cases hin : i < s.rules.length
      · obtain ⟨r, hr⟩ : ∃ r, s.rules[i]? = some r := ⟨_, List.getElem?_eq_getElem hin⟩
        have hri : s.rules[i] = r := (List.getElem?_eq_some_iff.1 hr).2
        obtain ⟨hrf, hrd⟩ := HOK.out.inn r (List.mem_of_getElem? hr)
        obtain ⟨b1, hb1, hb1'⟩ := flag_at HB.out.l1 HB.out.v1 HV.out.r1 hrf
        obtain ⟨b2, hb2, hb2'⟩ := flag_at HB.out.l2 HB.out.v2 HV.out.r2 hrd
        have hkk : keep i = (b1 && b2) := by
          rw [Bool.eq_iff_iff, HK.out i hin, hri, Bool.and_eq_true, hb1', hb2']
        obtain ⟨br, or, rfl⟩ := Reads.some_ HV.out.kw.sw.rules (by rw [cells_length]; omega)
        obtain ⟨_, hbr, r0, r1, r2, r3, r4⟩ := RulesAt.got HV.out.kw.sw.rules hr
        have hg1 := HV.out.r1.lt
        have hg2 := HV.out.r2.lt
        have hi1 : (r.frm : Int) < (s.modes : Int) := by omega
        have hi2 : (r.dst : Int) < (s.modes : Int) := by omega
        have hi3 : (i : Int) < (s.rules.length : Int) := by omega
        have hi4 : (0 : Int) ≤ (i : Int) := by omega
        have hi5 : (0 : Int) ≤ ((idx keep i).length : Int) := by omega
        have HRr := Lib.hid hr
        have hsu := idx_succ keep i
        clear hr hri hb1' hb2'
        obtain ⟨at_, hat⟩ : ∃ at_, (idx keep i).length = at_ := ⟨_, rfl⟩
        have HAT := Lib.hid hat
        cases hki : keep i with
        | true =>
          have hia : il[at_]? = some i := by rw [← HIL.out, ← hat]; exact idx_at hin hki
          have hka : ks[at_]? = some r := by rw [← HKS.out]; exact kept_at (by rw [HIL.out]; exact hia) HRr.out
          have hal : at_ < il.length := (List.getElem?_eq_some_iff.1 hia).1
          rw [hki] at hkk hsu
          have hsl : (idx keep (i + 1)).length = at_ + 1 := by rw [hsu]; simp [hat]
          have HSL := Lib.hid hsl
          obtain ⟨rfl, rfl⟩ : b1 = true ∧ b2 = true := by simpa using hkk.symm
          obtain ⟨bl, ol, rfl⟩ := Reads.some_ HV.out.kw.list (by simp; omega)
          obtain ⟨_, hbl, hlc⟩ := SlAt.got (f := vN) HV.out.kw.list hia
          have hlc' : wr.cell? ⟨bl, ol + at_, none⟩ = some (.int .i64 (i : Int)) := hlc
          obtain ⟨bk, ok, rfl⟩ := Reads.some_ HV.out.kw.rules (by rw [cells_length]; omega)
          obtain ⟨_, hbk, q0, q1, q2, q3, q4⟩ := RulesAt.got HV.out.kw.rules hka
          have hj1 : (at_ : Int) < (il.length : Int) := by omega
          have hj2 : (at_ : Int) < (ks.length : Int) := by omega
          have hj0 : (0 : Int) ≤ (at_ : Int) := by omega
          rw [hat] at hle hle2 hi5 ⊢
          clear hat hia hka hlc hki hkk hsu hsl
          go_wp2_with fail
          go_quiet (fail)
          go_wp2_with fail
          go_roundw
          case rel => exact ⟨i + 1, by omega, by go_num, by rw [HSL.out]; go_num, HV.out.next (below_drewN (Below.refl _ _) _)⟩
          case measure => simp [intOf]; omega
        | false =>
          rw [hki] at hkk hsu
          have hsl : (idx keep (i + 1)).length = at_ := by rw [hsu]; simpa using hat
          have HSL := Lib.hid hsl
          have hnot : ∀ j, il[at_]? = some j → ¬ j = i := fun j hj => by
            rw [← HIL.out, ← HAT.out] at hj
            exact idx_not hin hki hj
          have HNOT := Lib.hid hnot
          rw [hat] at hle hle2 hi5 ⊢
          clear hat hki hsu hsl hnot
          by_cases hal : at_ < il.length
          · obtain ⟨j, hj⟩ : ∃ j, il[at_]? = some j := ⟨_, List.getElem?_eq_getElem hal⟩
            have hne := HNOT.out j hj
            obtain ⟨bl, ol, rfl⟩ := Reads.some_ HV.out.kw.list (by simp; omega)
            obtain ⟨_, hbl, hlc⟩ := SlAt.got (f := vN) HV.out.kw.list hj
            have hlc' : wr.cell? ⟨bl, ol + at_, none⟩ = some (.int .i64 (j : Int)) := hlc
            have dj : ((j : Int) == (i : Int)) = false := by simp; omega
            have hj1 : (at_ : Int) < (il.length : Int) := by omega
            clear hj hne hlc
            rcases b1 with _ | _ <;> rcases b2 with _ | _
            all_goals first | (exact absurd hkk (by decide)) | clear hkk
            all_goals
              go_wp2_with fail
              go_quiet (fail)
              go_wp2_with fail
              go_roundw
              case rel => exact ⟨i + 1, by omega, by go_num, by rw [HSL.out], HV.out.next (below_drewN (Below.refl _ _) _)⟩
              case measure => simp [intOf]; omega
          · rcases b1 with _ | _ <;> rcases b2 with _ | _
            all_goals first | (exact absurd hkk (by decide)) | clear hkk
            all_goals
              go_wp2_with fail
              go_quiet (fail)
              go_wp2_with fail
              go_roundw
              case rel => exact ⟨i + 1, by omega, by go_num, by rw [HSL.out], HV.out.next (below_drewN (Below.refl _ _) _)⟩
              case measure => simp [intOf]; omega
      · obtain rfl : i = s.rules.length := by omega
        rw [HIL.out] at hle hle2 ⊢
        go_wp2_with fail
        refine (walk_10 _ _ s.modes s.accept A2s A' c2s c' s.rules l _ HV.out.kw.sw.rules (Reads.below hL HV.out.kw.sw.bel) hl8 hl (by omega)).mono ?_
        rintro e w6 ⟨B, d, l', k, rfl, hb6, hr6, hp, hl10, hld⟩
        have HP := Lib.hid hp
        have hkm : k < s.modes := pathTo_lt HOK.out.inn (by omega) hp
        have HW : Hid (KL s S A2s c2s ks T At ct il Al B l' w w6) := Lib.hid ⟨(HV.out.next hb6).kw, hr6.mono fun _ _ => trivial⟩
        clear hr6 hp HV hb6 x0 x1 x2 hlt t2 htl
        generalize wr = W9 at *
        go_upto_block 2 with (fail)
        go_cut [] (fun wx => KL s S A2s c2s ks T At ct il Al B l' w wx)
        case first =>
          go_wp2_with fail
          go_loopw [18] (fun z wr => ∃ i : Nat, i ≤ l'.length ∧ z = .int .i64 i ∧ KL s S A2s c2s ks T At ct il Al B l' w wr) (fun z _ => l'.length - (intOf z).toNat)
          case atStart => exact ⟨0, Nat.zero_le _, rfl, HW.out⟩
          case round =>
            clear HW w6
            obtain ⟨i, hi, rfl, hW⟩ := hrel
            obtain ⟨x0, x1, x2, hlt⟩ := hW.kw.sw.cells
            have HW := Lib.hid hW
            clear hW
            by_cases hil : i < l'.length
            · rcases hac : accB s.accept k with _ | _
              · go_wp2_with fail
                refine (accepts3_any s.modes s.accept A2s s.rules.length c2s k _ HOK.out.ac (by omega)).mono ?_
                rw [hac]
                rintro e w7 ⟨rfl, hb7⟩
                have H7 := Lib.hid (HW.out.next hb7)
                clear hb7 HW x0 x1 x2 hlt
                go_wp2_with fail
                go_meet
                case rel => exact H7.out
              · obtain ⟨x, hx⟩ : ∃ x, l'[i]? = some x := ⟨_, List.getElem?_eq_getElem hil⟩
                have hxi : x ∈ il := by
                  rw [← HIL.out]
                  have hpk := (path_keeps HK.out HOK.out.inn hac (by have := hkm; omega) (.refl 0) HP.out).1 x (List.mem_of_getElem? hx)
                  exact idx_mem.2 ⟨pathTo_in HP.out x (List.mem_of_getElem? hx), hpk⟩
                have HXI := Lib.hid hxi
                have HX := Lib.hid hx
                clear hx hxi
                go_wp2_with fail
                refine (accepts3_any s.modes s.accept A2s s.rules.length c2s k _ HOK.out.ac (by omega)).mono ?_
                rw [hac]
                rintro e w7 ⟨rfl, hb7⟩
                have H7 := Lib.hid (HW.out.next hb7)
                clear hb7 HW x0 x1 x2 hlt
                go_wp2_with fail
                generalize wr = W8 at *
                go_loopw [19, 20] (fun b z wr => ∃ q : Nat, q ≤ il.length ∧ z = .int .i64 q ∧ b = .bool (decide (x ∈ il.take q)) ∧ KL s S A2s c2s ks T At ct il Al B l' w wr) (fun _ z _ => il.length - (intOf z).toNat)
                case atStart => exact ⟨0, Nat.zero_le _, rfl, by simp, H7.out⟩
                case round =>
                  clear H7 w7
                  obtain ⟨q, hq, rfl, rfl, hW⟩ := hrel
                  have HW := Lib.hid hW
                  clear hW
                  by_cases hql : q < il.length
                  · obtain ⟨y, hy⟩ : ∃ y, il[q]? = some y := ⟨_, List.getElem?_eq_getElem hql⟩
                    have htk : il.take (q + 1) = il.take q ++ [y] := by
                      obtain ⟨h1, h2⟩ := List.getElem?_eq_some_iff.1 hy
                      rw [List.take_succ_eq_append_getElem h1, h2]
                    obtain ⟨bl, ol, rfl⟩ := Reads.some_ HW.out.kw.list (by simp; omega)
                    obtain ⟨_, hbl, hlc⟩ := SlAt.got (f := vN) HW.out.kw.list hy
                    have hlc' : wr.cell? ⟨bl, ol + q, none⟩ = some (.int .i64 (y : Int)) := hlc
                    obtain ⟨bw, ow, rfl⟩ := Reads.some_ HW.out.walk (by simp; omega)
                    obtain ⟨_, hbw, hwc⟩ := SlAt.got (f := vN) HW.out.walk HX.out
                    have hwc' : wr.cell? ⟨bw, ow + i, none⟩ = some (.int .i64 (x : Int)) := hwc
                    have hq0 : (0 : Int) ≤ (q : Int) := by omega
                    have hq1 : (q : Int) < (il.length : Int) := by omega
                    have hi0 : (0 : Int) ≤ (i : Int) := by omega
                    have hi1 : (i : Int) < (l'.length : Int) := by omega
                    have hmem : decide (x ∈ il.take (q + 1)) = (decide (x ∈ il.take q) || decide (y = x)) := by
                      rw [htk, Bool.eq_iff_iff]
                      simp only [decide_eq_true_eq, Bool.or_eq_true, List.mem_append, List.mem_singleton]
                      exact or_congr_right eq_comm
                    have HMEM := Lib.hid hmem
                    clear hy htk hlc hwc hmem
                    cases hb : decide (x ∈ il.take q) with
                    | true =>
                      have HN : Hid (decide (x ∈ il.take (q + 1)) = true) := Lib.hid (by rw [HMEM.out, hb]; rfl)
                      clear hb
                      go_wp2_with fail
                      go_quiet (fail)
                      go_wp2_with fail
                      go_roundw
                      case rel => exact ⟨q + 1, by omega, by go_num, by rw [HN.out], HW.out.next (below_drewN (Below.refl _ _) _)⟩
                      case measure => simp [intOf]; omega
                    | false =>
                      have HN : Hid (decide (x ∈ il.take (q + 1)) = decide (y = x)) := Lib.hid (by rw [HMEM.out, hb]; rfl)
                      clear hb
                      by_cases hyx : y = x
                      · have dy : ((y : Int) == (x : Int)) = true := by simp [hyx]
                        have HN2 : Hid (decide (x ∈ il.take (q + 1)) = true) := Lib.hid (by rw [HN.out]; simp [hyx])
                        clear hyx
                        go_wp2_with fail
                        go_quiet (fail)
                        go_wp2_with fail
                        go_roundw
                        case rel => exact ⟨q + 1, by omega, by go_num, by rw [HN2.out], HW.out.next (below_drewN (Below.refl _ _) _)⟩
                        case measure => simp [intOf]; omega
                      · have dy : ((y : Int) == (x : Int)) = false := by simp; omega
                        have HN2 : Hid (decide (x ∈ il.take (q + 1)) = false) := Lib.hid (by rw [HN.out]; simp [hyx])
                        clear hyx
                        go_wp2_with fail
                        go_quiet (fail)
                        go_wp2_with fail
                        go_roundw
                        case rel => exact ⟨q + 1, by omega, by go_num, by rw [HN2.out], HW.out.next (below_drewN (Below.refl _ _) _)⟩
                        case measure => simp [intOf]; omega
                  · have hb : decide (x ∈ il.take q) = true := by
                      rw [List.take_of_length_le (by omega)]
                      simpa using HXI.out
                    rw [hb]
                    clear hb
                    go_wp2_with fail
                    go_roundw
                    case rel => exact ⟨i + 1, by omega, by go_num, HW.out⟩
                    case measure => simp [intOf]; omega
            · go_wp2_with fail
              go_meet
              case rel => exact HW.out
        case rest =>
          have h6 := hcut
          have hokt : SchemeOk ⟨s.modes, s.accept, ks⟩ := by
            have hsub : ∀ r ∈ ks, r ∈ s.rules := fun r hr => by
              rw [← HKS.out] at hr
              obtain ⟨j, hj, _, he⟩ := kept_mem.1 hr
              exact he ▸ List.getElem_mem hj
            exact ⟨HOK.out.m2, HOK.out.m5, HOK.out.a1, HOK.out.a2, by show ks.length ≤ 10; omega, fun r hr => HOK.out.inn r (hsub r hr), fun r hr => HOK.out.bnd r (hsub r hr), fun r hr => HOK.out.fits r (hsub r hr)⟩
          have HOKT := Lib.hid hokt
          have HW := Lib.hid h6
          clear hokt h6 hcut
          have t0 : wc.cell? ⟨T, 0, none⟩ = some (.int .i64 s.modes) := HW.out.kw.box.cell 0
          have t1 : wc.cell? ⟨T, 1, none⟩ = some (.int .u8 s.accept) := HW.out.kw.box.cell 1
          have t2 : wc.cell? ⟨T, 2, none⟩ = some (.slice At ks.length ct) := HW.out.kw.box.cell 2
          have htl := HW.out.kw.box.lt
          go_wp2_with fail
          refine (trim_s _ ⟨s.modes, s.accept, ks⟩ At ct _ HOKT.out HW.out.kw.rules).mono ?_
          rintro e w7 ⟨keep2, A7, c7, A8, c8, rfl, hb7, hk2, hr7, hr8⟩
          simp only at hk2 hr7 hr8 ⊢
          have hall : ∀ i, i < ks.length → keep2 i = true := by
            have h1 := HK.out
            have h2 := hk2
            have e1 := HKS.out
            subst e1
            exact again_all h1 h2
          rw [kept_all hall] at hr7 ⊢
          have hi2 : (idx keep2 ks.length).length = ks.length := by rw [idx_all hall]; simp
          rw [hi2]
          have HR7 := Lib.hid hr7
          have H7 := Lib.hid (HW.out.next hb7)
          have dl : ((ks.length : Int) == (il.length : Int)) = true := by simp; omega
          clear hk2 hr7 hr8 hall hi2 hb7 HW t0 t1 t2 htl
          have t0 : w7.cell? ⟨T, 0, none⟩ = some (.int .i64 s.modes) := H7.out.kw.box.cell 0
          have t1 : w7.cell? ⟨T, 1, none⟩ = some (.int .u8 s.accept) := H7.out.kw.box.cell 1
          have t2 : w7.cell? ⟨T, 2, none⟩ = some (.slice At ks.length ct) := H7.out.kw.box.cell 2
          have htl := H7.out.kw.box.lt
          have hsame : ∀ W : World, Below w7.heap.size w7 W → Calls Try.prog 17 #[.agg #[.int .i64 s.modes, .int .u8 s.accept, .slice A7 ks.length c7], .agg #[.int .i64 s.modes, .int .u8 s.accept, .slice At ks.length ct]] W (Ret0 (.bool true) W) := fun W hW =>
            (same_any (fun _ => True) (fun _ => True) s.modes s.accept s.modes s.accept A7 At c7 ct ks ks W (Reads.below HR7.out hW) (Reads.below H7.out.kw.rules hW) (by omega) (by omega)).mono fun e w' ⟨he, hb⟩ => ⟨by rw [he]; simp, hb⟩
          have HSAME := Lib.hid hsame
          clear hsame
          go_wp2_with fail
          refine (HSAME.out _ (below_one _ _)).mono ?_
          rintro e w8 ⟨rfl, hb8⟩
          have HB8 := Lib.hid ((H7.out.next (below_one _ _)).next hb8).kw.sw.bel
          clear hb8 t0 t1 t2 htl
          go_wp2_with fail
          go_ret
          exact ⟨rfl, HB8.out⟩
end Go.Proofs.Ytpidgkngefkbeaa
