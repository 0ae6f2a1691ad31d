/- The walk of route.spread, called with Live's selector: printed by gen_spread.py out of M3. The walks of route.Reached, route.Live, accepts and their selectors. The walks of accepts and Accepts. The walks of route.Reached and route.Live. -/
import Derived.Test.YthcnnadggffjhaaM3
import Derived.Test.YthcnnadggffjhaaW9
set_option linter.unusedVariables false
set_option linter.unusedSimpArgs false
namespace Go.Proofs.Ythcnnadggffjhaa
open Go.RowKit Go.Maps Go.WideElems Go.ChangeShapes

set_option maxHeartbeats 1000000 in
set_option maxRecDepth 100000 in
theorem spread_live (F G : Nat → Prop) (m ac : Nat) (A A' : Option Addr) (c c' : Nat) (rs : List Rule) (from_ : List Nat) (sel : Rule → Nat × Nat) (w : World)
    (hA : RulesAt F w A rs) (hL : SlAt vN G w A' from_) (hn : rs.length < 1000) (hl : from_.length < 1000) (hm : m < 1000) (hF : ∀ b, F b → b < w.heap.size) (hG : ∀ b, G b → b < w.heap.size)
    (hf : ∀ (r : Rule) (w : World), Calls Try.prog 62 #[.agg #[.int .i64 r.frm, .int .i64 r.dst, .string r.inp, .string r.out, .int .i64 r.cost]] w fun e w' => e = .returned (.tuple #[.int .i64 (sel r).1, .int .i64 (sel r).2]) ∧ Below w.heap.size w w')
    (hs : ∀ r ∈ rs, (sel r).1 < m ∧ (sel r).2 < m) (hfr : ∀ x ∈ from_, x < m) :
    Calls Try.prog 61 #[.agg #[.int .i64 m, .int .u8 ac, .slice A rs.length c], .slice A' from_.length c', .func (.func 62) #[] #[]] w
      (BoolsRes m (fun x => ∃ s ∈ from_, Reach (edgesOf sel rs) s x) w) := by
  have hmm := @run_makeMap Try.prog
  have hmf : ∀ (fn : Fn) (first cap : Array Value) (w : World), (Instr.makeFunc fn first cap).run Try.prog w = .ok (.func fn first cap) w := fun _ _ _ _ => rfl
  have hmk := run_make_row' (P := Try.prog) 88 4 (.bool false) 1 Try.underlying88 bool_info rfl .i64 .i64 m (by omega) (by omega)
  go_enter Try.func61, Try.ntmps61
  go_wp2_with fail
  refine world_gen (SpreadW m ac A rs.length c sel rs 0 w) ?_ ?_
  · refine ⟨(((Below.refl _ _).alloc (Nat.le_refl _) _).alloc (by simp) _).alloc (by simp; omega) _, ((Blk.new _ _ _).alloc _).alloc _, ?_, ?_⟩
    · rw [show w.heap.size + 1 + 1 = ((w.alloc (.cells #[.int .i64 m, .int .u8 ac, .slice A rs.length c] 31)).alloc (.map #[] 0)).heap.size from (by simp)]
      exact Blk.new _ _ _
    · have h := (Gather.start (w.alloc (.cells #[.int .i64 m, .int .u8 ac, .slice A rs.length c] 31))).below ((Below.refl _ _).alloc (Nat.le_refl _) (.cells #[.map (some (w.heap.size + 1))] 150))
      have e : edgesOf sel (rs.take 0) = fun _ => [] := by funext x; simp [edgesOf]
      rw [e]
      simpa using h
  intro W hW
  go_loopw [20] (fun x wr => ∃ k : Nat, k ≤ rs.length ∧ x = .int .i64 k ∧ SpreadW m ac A rs.length c sel rs k w wr) (fun x _ => rs.length - (intOf x).toNat)
  case atStart => exact ⟨0, Nat.zero_le _, rfl, hW⟩
  case round =>
    clear hW W
    obtain ⟨k, hk, rfl, hbel, b0, b2, hG0⟩ := hrel
    by_cases hkl : k < rs.length
    · obtain ⟨br, or, rfl, hFb, hbr, r0, r1, r2, r3, r4⟩ := RulesAt.at_ (Reads.lower hA hF hbel) hkl
      obtain ⟨r, hr⟩ : ∃ r, r = rs[k] := ⟨_, rfl⟩
      rw [← hr] at r0 r1 r2 r3 r4
      have hsr := hs rs[k] (List.getElem_mem hkl)
      rw [← hr] at hsr
      have HR := Lib.hid hr
      clear hr
      have hb2 : wr.cell? ⟨w.heap.size + 1 + 1, 0, none⟩ = some (.map (some (w.heap.size + 1))) := b2.cell 0
      have B0 := Lib.hid b0
      have B2 := Lib.hid b2
      clear b0 b2
      go_upto_region 6 with (go_at_call 62; refine (hf r _).mono ?_; rintro e w2 ⟨rfl, hbf⟩)
      have hbW : Below wr.heap.size wr w2 := ((Below.refl _ _).alloc (Nat.le_refl _) _).trans (hbf.mono (by simp))
      refine world_gen (fun W => Below w.heap.size w W ∧ Blk W w.heap.size 31 #[.int .i64 m, .int .u8 ac, .slice (some ⟨br, or, none⟩) rs.length c] ∧ Blk W (w.heap.size + 1 + 1) 150 #[.map (some (w.heap.size + 1))] ∧ Gather W (w.heap.size + 1) k (edgesOf sel (rs.take k)))
        ⟨hbel.trans (hbW.mono hbel.size), B0.out.next hbW, B2.out.next hbW, hG0.below hbW⟩ ?_
      clear hbW hbf hbel B0 B2 hG0 r0 r1 r2 r3 r4 hb2 hbr hFb hL hA hf hmk hmm hF hG
      rintro W ⟨hbel, b0, b2, D, hown, hM, hD⟩
      have c2 : W.cell? ⟨w.heap.size + 1 + 1, 0, none⟩ = some (.map (some (w.heap.size + 1))) := b2.cell 0
      have hz2 : w.heap.size + 1 + 1 < W.heap.size := b2.lt
      have hgat : ∀ W', Below W.heap.size W W' → W'.ownsGroups Try.prog 3 (w.heap.size + 1 + 1) 3 .i64 (w.heap.size + 1) k D := fun W' hb => hown.kept (grownBy_below hb) (by simp) fun es c _ x _ => by cases x.val.ownBlock <;> simp
      have B0 := Lib.hid b0
      have B2 := Lib.hid b2
      have HD := Lib.hid hD
      have HM := Lib.hid hM
      have Hbel := Lib.hid hbel
      obtain ⟨i0, hi0, hz0, hz1, hzz⟩ := info_parts int_info
      have hk1 : k < 1000 := by omega
      have wf1 : (Lit.int .i64 ((sel r).1 : Int)).wf = true := WalkArith.wf_i64 (by omega)
      have wf2 : (Lit.int .i64 ((sel r).2 : Int)).wf = true := WalkArith.wf_i64 (by omega)
      clear b0 b2 hown hM hD hbel
      have hbd := below_drewN (Below.refl W.heap.size W) 1
      have hba : Below W.heap.size W (W.alloc (.cells #[.int .i64 ((sel r).2 : Int)] 3)).drew := below_drewN ((Below.refl _ _).alloc (Nat.le_refl _) _) 1
      obtain ⟨v1, zs1, hrun1, hat1, hoi1, hzl1, hback1⟩ := (hgat _ hbd).at law3 Try.underlying150 (zero32 _) (by unfold maxLen; omega) (keyOf_int_mk Try.underlying3 wf1)
      obtain ⟨v2, zs2, hrun2, hat2, hoi2, hzl2, hback2⟩ := (hgat _ hba).at law3 Try.underlying150 (zero32 _) (by unfold maxLen; omega) (keyOf_int_mk Try.underlying3 wf1)
      change (Instr.lookup _ _ _ _).run _ W.drew = .ok v1 W.drew at hrun1
      change (Instr.lookup _ _ _ _).run _ (W.alloc _).drew = .ok v2 (W.alloc _).drew at hrun2
      go_region_law (first
        | (refine step_append_lies _ (by rfl) _ _ 40 (by rfl) (w.heap.size + 1 + 1) 3 i0 (.int .i64 0) 1 8 Try.underlying40 hi0 hz0 hz1 hzz (by rfl) (by decide) v1 zs1.length (zs1.map (Value.int .i64)) (by rfl) (by exact hoi1.1.alloc _) ⟨W.heap.size, 0, none⟩ 1 1 [.int .i64 ((sel r).2 : Int)] (by rfl) (by rfl) (World.news_of_block (by exact heap_alloc_new _ _)) (by simp [Value.oneCell']) (by omega) (by unfold maxLen; omega) (by omega) (by simp; omega) _ (by rfl) ?_; intro g cap w4 hown4 hgrow4 hat4 hlt4; obtain ⟨w5, hrun5, hown5, hgrow5, hoi4, hall⟩ := group_store hback1 (World.grownBy_alloc _ _ _) hoi1 hown4 hgrow4 hat4 hzl1 wf2; have y4 : w4.cell? ⟨w.heap.size + 1 + 1, 0, none⟩ = some (.map (some (w.heap.size + 1))) := (Blk.groups4 (B2.out.next hbd) hoi1 (by decide) hall).cell 0)
        | (refine step_append_lies _ (by rfl) _ _ 40 (by rfl) (w.heap.size + 1 + 1) 3 i0 (.int .i64 0) 1 8 Try.underlying40 hi0 hz0 hz1 hzz (by rfl) (by decide) v2 zs2.length (zs2.map (Value.int .i64)) (by rfl) (by exact hoi2.1) ⟨W.heap.size, 0, none⟩ 1 1 [.int .i64 ((sel r).2 : Int)] (by rfl) (by rfl) (World.news_of_block (by exact heap_alloc_new _ _)) (by simp [Value.oneCell']) (by omega) (by unfold maxLen; omega) (by omega) (by simp; omega) _ (by rfl) ?_; intro g cap w4 hown4 hgrow4 hat4 hlt4; obtain ⟨w5, hrun5, hown5, hgrow5, hoi4, hall⟩ := group_store hback2 (grownBy_below (Below.refl _ _)) hoi2 hown4 hgrow4 hat4 hzl2 wf2; have y4 : w4.cell? ⟨w.heap.size + 1 + 1, 0, none⟩ = some (.map (some (w.heap.size + 1))) := (Blk.groups4 (B2.out.next hba) hoi2 (by decide) hall).cell 0))
      all_goals (go_wp2; go_roundw)
      all_goals first
        | exact ⟨k + 1, by omega, by go_num, SpreadW.step Hbel.out B0.out B2.out HM.out HD.out hkl HR.out hbd hat1 hoi1 hoi4 hall hgrow5 hown5⟩
        | exact ⟨k + 1, by omega, by go_num, SpreadW.step Hbel.out B0.out B2.out HM.out HD.out hkl HR.out hba hat2 hoi2 hoi4 hall hgrow5 hown5⟩
        | (simp [intOf]; omega)
    · obtain rfl : k = rs.length := by omega
      rw [List.take_length] at hG0
      have hE := hG0.done (n := m) hn
      have bz : wr.cell? ⟨w.heap.size, 0, none⟩ = some (.int .i64 m) := b0.cell 0
      have B2 := Lib.hid b2
      have hlt2 : w.heap.size + 1 + 1 < wr.heap.size := b2.lt
      clear b0 b2 hG0
      go_upto_region 11 with (fail)
      have hM0 := marks_start hE B2.out hlt2
      refine world_gen (fun W => Below w.heap.size w W ∧ Marks W (wr.heap.size + 1) (w.heap.size + 1 + 1) (wr.heap.size + 1 + 1) wr.heap.size (w.heap.size + 1) wr.heap.size m (edgesOf sel rs) (List.replicate m false)) ⟨?_, hM0⟩ ?_
      · exact ((hbel.alloc hbel.size _).alloc (by have := hbel.size; simp; omega) _).alloc (by have := hbel.size; simp; omega) _
      have hz := hbel.size
      clear hE bz B2 hbel hmm hmk hmf hM0
      generalize wr.heap.size = Z at *
      rintro W ⟨hbel, hM⟩
      go_wp2_with fail
      go_loopw [45] (fun x wr => ∃ j : Nat, j ≤ from_.length ∧ x = .int .i64 j ∧ ∃ V, SpreadMid (edgesOf sel rs) from_ m V j ∧ Marks wr (Z + 1) (w.heap.size + 1 + 1) (Z + 1 + 1) Z (w.heap.size + 1) Z m (edgesOf sel rs) V ∧ Below w.heap.size w wr) (fun x _ => from_.length - (intOf x).toNat)
      case atStart => exact ⟨0, Nat.zero_le _, rfl, _, SpreadMid.start _ _ _, hM, hbel⟩
      case round =>
        clear hM hbel
        obtain ⟨j, hj, rfl, V, hmid, hM, hbel⟩ := hrel
        have hee : ∀ x, x < m → ∀ y ∈ edgesOf sel rs x, y < m := by
          intro x _ y hy
          obtain ⟨r, hr, rfl⟩ := List.mem_map.1 hy
          exact (hs r (List.mem_filter.1 hr).1).2
        have hel : ∀ x, (edgesOf sel rs x).length < 1000 := by
          intro x
          unfold edgesOf
          rw [List.length_map]
          have := List.length_filter_le (fun r => decide ((sel r).1 = x)) rs
          omega
        by_cases hjl : j < from_.length
        · obtain ⟨bl, ol, rfl, hGb, hbl, hcell0⟩ := SlAt.at_ (Reads.lower hL hG hbel) hjl
          obtain ⟨y, hy⟩ : ∃ y, y = from_[j] := ⟨_, rfl⟩
          have hcell : wr.cell? ⟨bl, ol + j, none⟩ = some (.int .i64 y) := by rw [hy]; exact hcell0
          have hye : from_[j]? = some y := by rw [hy]; exact List.getElem?_eq_getElem hjl
          have hym : y < m := hfr y (by rw [hy]; exact List.getElem_mem hjl)
          have hcm : wr.cell? ⟨Z + 1 + 1, 0, none⟩ = some (.func (.func 85) #[] #[.pointer (some ⟨Z + 1, 0, none⟩), .pointer (some ⟨w.heap.size + 1 + 1, 0, none⟩), .pointer (some ⟨Z + 1 + 1, 0, none⟩)]) := hM.cm.cell 0
          have hmk1 := mark_any (Z + 1) (w.heap.size + 1 + 1) (Z + 1 + 1) Z (w.heap.size + 1) Z m (edgesOf sel rs) (Reach (edgesOf sel rs)) (fun m => .refl m) (fun m x y hx h => .step hx h) hee hel hm (V.count false + 1) V y wr (Nat.lt_succ_self _) hym hM
          have HY := Lib.hid hy
          have HM := Lib.hid hM
          have hbz := hM.row.lt
          clear hy hM hcell0 hee hel hs
          go_wp2_with (go_at_call 85; refine hmk1.mono ?_; rintro e w2 ⟨rfl, V2, hp2, hM2, hg2⟩)
          go_roundw
          case rel => exact ⟨j + 1, by omega, by go_num, V2, hmid.step hye hp2, hM2, hbel.grown hg2 (by omega) (fun k hk => by injection hk with hk; omega)⟩
          case measure => simp [intOf]; omega
        · obtain rfl : j = from_.length := by omega
          obtain ⟨d1, d2⟩ := hmid.done (Nat.le_refl _)
          have hrow := hM.row
          have hco : wr.cell? ⟨Z + 1, 0, none⟩ = some (.slice (some ⟨Z, 0, none⟩) m m) := hM.co.cell 0
          clear hM
          go_wp2
          go_ret
          exact ⟨Z, V, rfl, hbel, by omega, hrow, d1, d2⟩
end Go.Proofs.Ythcnnadggffjhaa
namespace Go.Proofs.Ythcnnadggffjhaa
open Go.RowKit Go.Maps Go.WideElems Go.ChangeShapes

theorem sell_any (r : Rule) (w : World) : Calls Try.prog 62 #[.agg #[.int .i64 r.frm, .int .i64 r.dst, .string r.inp, .string r.out, .int .i64 r.cost]] w fun e w' => e = .returned (.tuple #[.int .i64 r.dst, .int .i64 r.frm]) ∧ Below w.heap.size w w' := by
  go_enter Try.func62, Try.ntmps62
  go_wp2
  go_quiet (fail)
  go_wp2
  go_ret2
  exact ⟨rfl, below_drewN ((Below.refl _ _).alloc (Nat.le_refl _) _) _⟩
end Go.Proofs.Ythcnnadggffjhaa
namespace Go.Proofs.Ythcnnadggffjhaa
open Go.RowKit

def accB (ac m : Nat) : Bool := decide (ac / 2 ^ m % 2 = 1)
theorem and8 : ∀ x : Nat, x < 256 → (bits BinOp.and IntKind.u8 (x : Int) 1 == 1) = decide (x % 2 = 1) := by decide +kernel
theorem and64 : ∀ x : Nat, x < 256 → (bits BinOp.and IntKind.i64 (x : Int) 1 == 1) = decide (x % 2 = 1) := by decide +kernel
theorem shr_cast (ac m : Nat) : (ac : Int) / 2 ^ m = ((ac / 2 ^ m : Nat) : Int) := by simp
theorem shr_lt (ac m : Nat) (h : ac < 256) : ac / 2 ^ m < 256 := Nat.lt_of_le_of_lt (Nat.div_le_self _ _) h
theorem accepts_any (M ac : Nat) (A : Option Addr) (n c : Nat) (m : Nat) (w : World) (hac : ac < 256) (hm : m < 8) :
    Calls Try.prog 60 #[.agg #[.int .i64 M, .int .u8 ac, .slice A n c], .int .i64 m] w fun e w' => e = .returned (.bool (accB ac m)) ∧ Below w.heap.size w w' := by
  go_enter Try.func60, Try.ntmps60
  go_wp2
  go_ret
  rw [shr_cast, and8 _ (shr_lt _ _ hac)]
  exact ⟨rfl, (Below.refl _ _).alloc (Nat.le_refl _) _⟩
theorem accepts3_any (M ac : Nat) (A : Option Addr) (n c : Nat) (m : Nat) (w : World) (hac : ac < 256) (hm : m < 8) :
    Calls Try.prog 22 #[.agg #[.int .i64 M, .int .u8 ac, .slice A n c], .int .i64 m] w fun e w' => e = .returned (.bool (accB ac m)) ∧ Below w.heap.size w w' := by
  go_enter Try.func22, Try.ntmps22
  go_wp2
  go_ret
  rw [shr_cast, and64 _ (shr_lt _ _ hac)]
  exact ⟨rfl, (Below.refl _ _).alloc (Nat.le_refl _) _⟩
end Go.Proofs.Ythcnnadggffjhaa
namespace Go.Proofs.Ythcnnadggffjhaa
open Go.RowKit

def selR (r : Rule) : Nat × Nat := (r.frm, r.dst)
def selL (r : Rule) : Nat × Nat := (r.dst, r.frm)
/-- mode x is reached, is live -/
def ReachedP (rs : List Rule) (x : Nat) : Prop := Reach (edgesOf selR rs) 0 x
def LiveP (ac m : Nat) (rs : List Rule) (x : Nat) : Prop := ∃ s, s < m ∧ accB ac s = true ∧ Reach (edgesOf selL rs) s x
theorem BoolsRes.to {n : Nat} {P Q : Nat → Prop} {w w0 : World} {e : Ending} {w' : World} (h : BoolsRes n P w e w') (hb : Below w0.heap.size w0 w) (hPQ : ∀ x, P x ↔ Q x) : BoolsRes n Q w0 e w' := by
  obtain ⟨g, V, h1, h2, h3, h4, h5, h6⟩ := h
  exact ⟨g, V, h1, hb.trans (h2.mono hb.size), Nat.le_trans hb.size h3, h4, h5, fun x => (h6 x).trans (hPQ x)⟩

/-- the accepting modes below k -/
def ends (ac k : Nat) : List Nat := (List.range k).filter fun s => accB ac s
theorem ends_succ (ac k : Nat) : ends ac (k + 1) = if accB ac k then ends ac k ++ [k] else ends ac k := by
  unfold ends
  rw [List.range_succ, List.filter_append]
  split
  · rename_i h; simp [h]
  · rename_i h; simp [h]
theorem mem_ends {ac k x : Nat} : x ∈ ends ac k ↔ x < k ∧ accB ac x = true := by simp [ends]
theorem ends_len (ac k : Nat) : (ends ac k).length ≤ k := by
  have := List.length_filter_le (fun s => accB ac s) (List.range k)
  simpa [ends] using this

set_option maxHeartbeats 1000000 in
set_option maxRecDepth 100000 in
theorem live_any (F : Nat → Prop) (m ac : Nat) (A : Option Addr) (c : Nat) (rs : List Rule) (w : World) (hA : RulesAt F w A rs) (hF : ∀ b, F b → b < w.heap.size) (hn : rs.length < 1000) (hm : m ≤ 8) (hac : ac < 256) (hs : ∀ r ∈ rs, r.frm < m ∧ r.dst < m) :
    Calls Try.prog 40 #[.agg #[.int .i64 m, .int .u8 ac, .slice A rs.length c]] w (BoolsRes m (LiveP ac m rs) w) := by
  obtain ⟨i0, hi0, hz0, hz1, hzz⟩ := info_parts int_info
  go_enter Try.func40, Try.ntmps40
  go_wp2_with fail
  refine world_gen (fun W => Below w.heap.size w W ∧ Blk W w.heap.size 31 #[.int .i64 m, .int .u8 ac, .slice A rs.length c]) ⟨(Below.refl _ _).alloc (Nat.le_refl _) _, Blk.new _ _ _⟩ ?_
  rintro W ⟨hbel, b0⟩
  go_loopw [3, 7] (fun e x wr => ∃ k : Nat, k ≤ m ∧ x = .int .i64 k ∧ Below w.heap.size w wr ∧ Blk wr w.heap.size 31 #[.int .i64 m, .int .u8 ac, .slice A rs.length c] ∧
    ∃ A' c', e = .slice A' (ends ac k).length c' ∧ Acc (w.heap.size + 1) wr 3 1 A' (ends ac k).length c' ((ends ac k).map vN)) (fun e x _ => m - (intOf x).toNat)
  case atStart => exact ⟨0, Nat.zero_le _, rfl, hbel, b0, none, 0, rfl, Acc.nil _ _ _ _⟩
  case round =>
    clear hbel b0 W
    obtain ⟨k, hk, rfl, hbel, b0, A', c', rfl, hacc⟩ := hrel
    have x0 : wr.cell? ⟨w.heap.size, 0, none⟩ = some (.int .i64 m) := b0.cell 0
    have x1 : wr.cell? ⟨w.heap.size, 1, none⟩ = some (.int .u8 ac) := b0.cell 1
    have x2 : wr.cell? ⟨w.heap.size, 2, none⟩ = some (.slice A rs.length c) := b0.cell 2
    have hlt := b0.lt
    have hel := ends_len ac k
    have B0 := Lib.hid b0
    clear b0
    by_cases hkm : k < m
    · rcases hb : accB ac k with _ | _
      · have hes : ends ac (k + 1) = ends ac k := by rw [ends_succ, hb]; rfl
        go_wp2_with (go_at_call 60; refine (accepts_any m ac A rs.length c k _ hac (by omega)).mono ?_; rw [hb]; rintro e w2 ⟨rfl, hb2⟩)
        go_roundw
        case rel => exact ⟨k + 1, by omega, by go_num, hbel.trans (hb2.mono hbel.size), B0.out.next hb2, A', c', by rw [hes], by rw [hes]; exact hacc.below hb2⟩
        case measure => simp [intOf]; omega
      · have hes : ends ac (k + 1) = ends ac k ++ [k] := by rw [ends_succ, hb]; rfl
        go_wp2_with (first
          | (go_at_call 60; refine (accepts_any m ac A rs.length c k _ hac (by omega)).mono ?_; rw [hb]; rintro e w2 ⟨rfl, hb2⟩; have hac2 := hacc.below hb2; have hsz2 := hb2.size)
          | (at_builtin; refine wpList_append_acc _ (by rfl) _ _ _ (by rfl) (w.heap.size + 1) 3 i0 (.int .i64 0) 1 8 Try.underlying40 hi0 hz0 hz1 hzz (by rfl) (by decide) A' (ends ac k).length c' ((ends ac k).map vN) (by rfl) (by exact hac2.below ((Below.refl _ _).alloc (Nat.le_refl _) _)) w2.heap.size 3 (0, 0) 1 1 #[.int .i64 k] (by rfl) (by rfl) (by exact heap_alloc_new _ _) (by simp [Value.oneCell']) (by omega) (by unfold maxLen; omega) (by omega) (by simp; omega) ?_; intro g2 cap w4 row hown hgr hrow hat hlt4))
        go_roundw
        case rel =>
          have hbel2 : Below w.heap.size w (w2.alloc (.cells #[.int .i64 k] 3)) := (hbel.trans (hb2.mono hbel.size)).alloc (Nat.le_trans hbel.size hb2.size) _
          exact ⟨k + 1, by omega, by go_num, below_rowOk hbel2 hgr hrow (by omega) hbel2.size, ((B0.out.next hb2).alloc _).rowOk hgr hrow (by decide), some ⟨g2, 0, none⟩, cap, by rw [hes]; simp, by rw [hes]; refine .inl ?_; simpa using hown⟩
        case measure => simp [intOf]; omega
    · obtain rfl : k = m := by omega
      have H := spread_live F (· < wr.heap.size) k ac A A' c c' rs (ends ac k) selL wr (Reads.lower hA hF hbel) (Reads.all hacc.reads) hn (by omega) (by omega) (fun b hb => by have := hF b hb; have := hbel.size; omega) (fun b hb => hb) (fun r w => sell_any r w) (fun r hr => ⟨(hs r hr).2, (hs r hr).1⟩) (fun x hx => (mem_ends.1 hx).1)
      have hbel' := hbel
      go_wp2_with fail
      refine H.mono ?_
      intro e w2 h2
      have h3 := h2.to hbel' (Q := LiveP ac k rs) (fun x => by simp [LiveP, mem_ends, and_assoc])
      clear H h2
      obtain ⟨g, V, rfl, h4⟩ := h3
      go_wp2
      go_ret
      exact ⟨g, V, rfl, h4⟩
end Go.Proofs.Ythcnnadggffjhaa
