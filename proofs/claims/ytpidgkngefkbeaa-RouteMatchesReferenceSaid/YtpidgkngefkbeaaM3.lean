/- The walk of route.spread. -/
import Derived.Test.YtpidgkngefkbeaaMA
import Derived.Test.YtpidgkngefkbeaaW7
import Derived.Deep.AppendLies
import Derived.Deep.RegionLaw
set_option linter.unusedVariables false
set_option linter.unusedSimpArgs false
namespace Go.Proofs.Ytpidgkngefkbeaa
open Go.RowKit Go.Maps Go.WideElems Go.ChangeShapes

@[go_sem] theorem run_store_func1 {P : Program} {w : World} {a : Addr} {m : Mode} (fn : Fn) (first cap : Array Value) : (store a (.func fn first cap) m).run P w = stored P w a (.func fn first cap) m := run_store P w a _ m rfl

theorem marks_start {w W : World} {m : Nat} {ed : Nat → List Nat} (hE : EdgeMap W (w.heap.size + 1) W.heap.size m ed) (b2 : Blk W (w.heap.size + 1 + 1) 82 #[.map (some (w.heap.size + 1))]) (hlt : w.heap.size + 1 + 1 < W.heap.size) :
    Marks (((W.alloc (.cells (madeCells #[.bool false] m) 4)).alloc (.cells #[.slice (some ⟨W.heap.size, 0, none⟩) m m] 46)).alloc (.cells #[.func (.func 44) #[] #[.pointer (some ⟨W.heap.size + 1, 0, none⟩), .pointer (some ⟨w.heap.size + 1 + 1, 0, none⟩), .pointer (some ⟨W.heap.size + 1 + 1, 0, none⟩)]] 84))
      (W.heap.size + 1) (w.heap.size + 1 + 1) (W.heap.size + 1 + 1) W.heap.size (w.heap.size + 1) W.heap.size m ed (List.replicate m false) := by
  have hb3 : Below W.heap.size W (((W.alloc (.cells (madeCells #[.bool false] m) 4)).alloc (.cells #[.slice (some ⟨W.heap.size, 0, none⟩) m m] 46)).alloc (.cells #[.func (.func 44) #[] #[.pointer (some ⟨W.heap.size + 1, 0, none⟩), .pointer (some ⟨w.heap.size + 1 + 1, 0, none⟩), .pointer (some ⟨W.heap.size + 1 + 1, 0, none⟩)]] 84)) :=
    (((Below.refl _ _).alloc (Nat.le_refl _) _).alloc (by simp) _).alloc (by simp; omega) _
  refine ⟨?_, b2.next hb3, ?_, ?_, by simp, hE.below hb3, by omega, Nat.le_refl _⟩
  · have h := Blk.new (W.alloc (.cells (madeCells #[.bool false] m) 4)) 46 #[.slice (some ⟨W.heap.size, 0, none⟩) m m]
    rw [show (W.alloc (.cells (madeCells #[.bool false] m) 4)).heap.size = W.heap.size + 1 from (by simp)] at h
    exact h.alloc _
  · have h := Blk.new ((W.alloc (.cells (madeCells #[.bool false] m) 4)).alloc (.cells #[.slice (some ⟨W.heap.size, 0, none⟩) m m] 46)) 84 #[.func (.func 44) #[] #[.pointer (some ⟨W.heap.size + 1, 0, none⟩), .pointer (some ⟨w.heap.size + 1 + 1, 0, none⟩), .pointer (some ⟨W.heap.size + 1 + 1, 0, none⟩)]]
    rw [show ((W.alloc (.cells (madeCells #[.bool false] m) 4)).alloc (.cells #[.slice (some ⟨W.heap.size, 0, none⟩) m m] 46)).heap.size = W.heap.size + 1 + 1 from (by simp)] at h
    exact h
  · have h := ((Blk.new W 4 (madeCells #[.bool false] m)).alloc (.cells #[.slice (some ⟨W.heap.size, 0, none⟩) m m] 46)).alloc (.cells #[.func (.func 44) #[] #[.pointer (some ⟨W.heap.size + 1, 0, none⟩), .pointer (some ⟨w.heap.size + 1 + 1, 0, none⟩), .pointer (some ⟨W.heap.size + 1 + 1, 0, none⟩)]] 84)
    have e : madeCells #[.bool false] m = ((List.replicate m false).map vB).toArray := by
      apply Array.toList_inj.1
      rw [toList_madeCells_one]
      simp [vB]
    rw [← e]
    exact h

theorem int_info : (Try.prog.info? 3).map (fun i => (i.zero, i.size, i.bytes)) = some (some (.int .i64 0), 1, 8) := by kernel_rfl
theorem bool_info : (Try.prog.info? 4).map (fun i => (i.zero, i.size, i.bytes)) = some (some (.bool false), 1, 1) := by kernel_rfl

/-- while the edges are gathered: the scheme's box, the map's box, k rules done -/
def SpreadW (m ac : Nat) (A : Option Addr) (n c : Nat) (sel : Rule → Nat × Nat) (rs : List Rule) (k : Nat) (w W : World) : Prop :=
  Below w.heap.size w W ∧ Blk W w.heap.size 30 #[.int .i64 m, .int .u8 ac, .slice A n c] ∧ Blk W (w.heap.size + 1 + 1) 82 #[.map (some (w.heap.size + 1))] ∧ Gather W (w.heap.size + 1) k (edgesOf sel (rs.take k))

theorem Blk.groups4 {w0 w4 : World} {x base : Nat} {T e : TypeId} {cs : Array Value} {q : IntKind} {v : Value} {zs : List Int} (h : Blk w0 x T cs) (ho : w0.ownsInts base e q v zs) (hne : T ≠ e) (hall : w0.grownBy w4 v.ownBlock) : Blk w4 x T cs := by
  refine h.grown hall fun hb => ?_
  rcases ho.1.2 with ⟨hv, _⟩ | ⟨g, cap, cur, hv, _, hh, _⟩
  · rw [hv] at hb; cases hb
  · rw [hv] at hb
    injection hb with hb
    unfold Blk at h
    rw [hb, hh] at h
    injection h with h
    injection h with _ h
    exact hne h.symm
theorem Blk.groups {w0 w4 w5 : World} {x b base : Nat} {T e : TypeId} {cs : Array Value} {q : IntKind} {v : Value} {zs : List Int} (h : Blk w0 x T cs) (ho : w0.ownsInts base e q v zs) (hne : T ≠ e) (hall : w0.grownBy w4 v.ownBlock) (hg : w4.grownBy w5 (some b)) (hx : x ≠ b) : Blk w5 x T cs :=
  (h.groups4 ho hne hall).kept hg hx

theorem grownBy_any {w w' : World} (h : w.grownBy w' none) (row : Option Nat) : w.grownBy w' row := ⟨h.os, h.tape, h.output, h.size, fun i hi _ => h.block i hi (by simp)⟩
theorem group_store {w0 w1 w4 : World} {base b k : Nat} {D : DataW Unit} {v : Value} {zs : List Int} {x a : Int} {g cap : Nat} (hback : w0.groupBack Try.prog 82 3 base 3 .i64 b k D (.int .i64 a) (.int .i64 a) v) (h01 : w0.grownBy w1 none)
    (hoi : w0.ownsInts base 3 .i64 v zs) (hown4 : w4.ownsRow base 3 1 (.slice (some ⟨g, 0, none⟩) (zs.length + 1) cap) (zs.length + 1) (zs.map (Value.int .i64) ++ [.int .i64 x])) (hg4 : w1.grownBy w4 v.ownBlock) (hat : v.ownBlock = some g ∨ g = w1.heap.size)
    (hz : zs.length ≤ k) (hx : (Lit.int .i64 x).wf = true) :
    ∃ w5, (Instr.mapUpdate 82 (.map (some b)) (.int .i64 a) (.slice (some ⟨g, 0, none⟩) (zs.length + 1) cap)).run Try.prog w4 = .ok () w5 ∧
      w5.ownsGroups Try.prog 3 base 3 .i64 b (k + 1) (D.put (.int .i64 a) (rowDatum .i64 (.slice (some ⟨g, 0, none⟩) (zs.length + 1) cap) (zs ++ [x]))) ∧ w4.grownBy w5 (some b) ∧
      w4.ownsInts base 3 .i64 (.slice (some ⟨g, 0, none⟩) (zs.length + 1) cap) (zs ++ [x]) ∧ w0.grownBy w4 v.ownBlock := by
  have hall := (grownBy_any h01 v.ownBlock).trans hg4
  have hoi4 := hoi.appended hown4 hx
  obtain ⟨w5, h1, h2, h3⟩ := hback w4 (.slice (some ⟨g, 0, none⟩) (zs.length + 1) cap) (zs ++ [x]) hall hoi4 (by simp; omega) (by
    rcases hat with h | h
    · exact .inl h.symm
    · exact .inr ⟨g, rfl, by rw [h]; exact h01.size⟩)
  exact ⟨w5, h1, h2, h3, hoi4, hall⟩

theorem SpreadW.step {m ac : Nat} {A : Option Addr} {n c : Nat} {sel : Rule → Nat × Nat} {rs : List Rule} {k : Nat} {w W w0 w4 w5 : World} {D : DataW Unit} {v : Value} {zs : List Int} {g cap : Nat} {r : Rule}
    (hbel : Below w.heap.size w W) (b0 : Blk W w.heap.size 30 #[.int .i64 m, .int .u8 ac, .slice A n c]) (b2 : Blk W (w.heap.size + 1 + 1) 82 #[.map (some (w.heap.size + 1))]) (hM : IsMap D)
    (hD : ∀ m : Nat, D.atKey (.int .i64 m) .nil = edat (edgesOf sel (rs.take k) m)) (hk : k < rs.length) (hr : r = rs[k]) (hb0 : Below W.heap.size W w0) (hat : D.atKey (.int .i64 (sel r).1) .nil = rowDatum .i64 v zs) (hoi : w0.ownsInts (w.heap.size + 1 + 1) 3 .i64 v zs)
    (hoi4 : w4.ownsInts (w.heap.size + 1 + 1) 3 .i64 (.slice (some ⟨g, 0, none⟩) (zs.length + 1) cap) (zs ++ [((sel r).2 : Int)])) (hall : w0.grownBy w4 v.ownBlock) (hg5 : w4.grownBy w5 (some (w.heap.size + 1)))
    (hown : w5.ownsGroups Try.prog 3 (w.heap.size + 1 + 1) 3 .i64 (w.heap.size + 1) (k + 1) (D.put (.int .i64 (sel r).1) (rowDatum .i64 (.slice (some ⟨g, 0, none⟩) (zs.length + 1) cap) (zs ++ [((sel r).2 : Int)])))) :
    SpreadW m ac A n c sel rs (k + 1) w w5 := by
  have hnx : Below w.heap.size w w0 := hbel.trans (hb0.mono hbel.size)
  refine ⟨hnx.groups hoi hall hg5 hnx.size (by omega) (by omega), (b0.next hb0).groups hoi (by decide) hall hg5 (by omega), (b2.next hb0).groups hoi (by decide) hall hg5 (by omega), ⟨_, hown, ?_, ?_⟩⟩
  · obtain ⟨es, rfl⟩ := hM
    exact ⟨_, rfl⟩
  · intro x
    have e1 : rs.take (k + 1) = rs.take k ++ [r] := by rw [hr]; exact List.take_succ_eq_append_getElem hk
    rw [e1, edgesOf_snoc]
    have hzs : zs = (edgesOf sel (rs.take k) (sel r).1).map Int.ofNat := by
      rw [hD] at hat
      unfold edat at hat
      rcases hoi.datum (H := Unit) with ⟨h1, h2⟩ | h1
      · rw [h1] at hat
        split at hat
        · rename_i h0; rw [h2, h0]; rfl
        · cases hat
      · rw [h1] at hat
        split at hat
        · cases hat
        · injection hat with hat
          exact ((List.map_inj_right (fun a b hab => by cases hab; rfl)).1 hat).symm
    split
    · rename_i hx
      rw [hx, atKey_put_same hM (list_key _), hoi4.datum_pos (by simp)]
      unfold edat
      rw [if_neg (by simp), List.map_append, ← hzs]
      rfl
    · rename_i hx
      rw [atKey_put_other (by intro e; injection e; omega)]
      exact hD x

set_option maxHeartbeats 1000000 in
theorem spread_reached (F G : Nat → Prop) (m ac : Nat) (A A' : Option Addr) (c c' : Nat) (rs : List Rule) (from_ : List Nat) (sel : Rule → Nat × Nat) (w : World)
    (hA : RulesAt F w A rs) (hL : SlAt vN G w A' from_) (hn : rs.length < 1000) (hl : from_.length < 1000) (hm : m < 1000) (hF : ∀ b, F b → b < w.heap.size) (hG : ∀ b, G b → b < w.heap.size)
    (hf : ∀ (r : Rule) (w : World), Calls Try.prog 34 #[.agg #[.int .i64 r.frm, .int .i64 r.dst, .string r.inp, .string r.out, .int .i64 r.cost]] w fun e w' => e = .returned (.tuple #[.int .i64 (sel r).1, .int .i64 (sel r).2]) ∧ Below w.heap.size w w')
    (hs : ∀ r ∈ rs, (sel r).1 < m ∧ (sel r).2 < m) (hfr : ∀ x ∈ from_, x < m) :
    Calls Try.prog 33 #[.agg #[.int .i64 m, .int .u8 ac, .slice A rs.length c], .slice A' from_.length c', .func (.func 34) #[] #[]] w
      (BoolsRes m (fun x => ∃ s ∈ from_, Reach (edgesOf sel rs) s x) w) := by
  have hmm := @run_makeMap Try.prog
  have hmf : ∀ (fn : Fn) (first cap : Array Value) (w : World), (Instr.makeFunc fn first cap).run Try.prog w = .ok (.func fn first cap) w := fun _ _ _ _ => rfl
  have hmk := run_make_row' (P := Try.prog) 46 4 (.bool false) 1 Try.underlying46 bool_info rfl .i64 .i64 m (by omega) (by omega)
  go_enter Try.func33, Try.ntmps33
  go_wp2_with fail
  refine world_gen (SpreadW m ac A rs.length c sel rs 0 w) ?_ ?_
  · refine ⟨(((Below.refl _ _).alloc (Nat.le_refl _) _).alloc (by simp) _).alloc (by simp; omega) _, ((Blk.new _ _ _).alloc _).alloc _, ?_, ?_⟩
    · rw [show w.heap.size + 1 + 1 = ((w.alloc (.cells #[.int .i64 m, .int .u8 ac, .slice A rs.length c] 30)).alloc (.map #[] 0)).heap.size from (by simp)]
      exact Blk.new _ _ _
    · have h := (Gather.start (w.alloc (.cells #[.int .i64 m, .int .u8 ac, .slice A rs.length c] 30))).below ((Below.refl _ _).alloc (Nat.le_refl _) (.cells #[.map (some (w.heap.size + 1))] 82))
      have e : edgesOf sel (rs.take 0) = fun _ => [] := by funext x; simp [edgesOf]
      rw [e]
      simpa using h
  intro W hW
  go_loopw [20] (fun x wr => ∃ k : Nat, k ≤ rs.length ∧ x = .int .i64 k ∧ SpreadW m ac A rs.length c sel rs k w wr) (fun x _ => rs.length - (intOf x).toNat)
  case atStart => exact ⟨0, Nat.zero_le _, rfl, hW⟩
  case round =>
    clear hW W
    obtain ⟨k, hk, rfl, hbel, b0, b2, hG0⟩ := hrel
    by_cases hkl : k < rs.length
    · obtain ⟨br, or, rfl, hFb, hbr, r0, r1, r2, r3, r4⟩ := RulesAt.at_ (Reads.lower hA hF hbel) hkl
      obtain ⟨r, hr⟩ : ∃ r, r = rs[k] := ⟨_, rfl⟩
      rw [← hr] at r0 r1 r2 r3 r4
      have hsr := hs rs[k] (List.getElem_mem hkl)
      rw [← hr] at hsr
      have HR := Lib.hid hr
      clear hr
      have hb2 : wr.cell? ⟨w.heap.size + 1 + 1, 0, none⟩ = some (.map (some (w.heap.size + 1))) := b2.cell 0
      have B0 := Lib.hid b0
      have B2 := Lib.hid b2
      clear b0 b2
      go_upto_region 6 with (go_at_call 34; refine (hf r _).mono ?_; rintro e w2 ⟨rfl, hbf⟩)
      have hbW : Below wr.heap.size wr w2 := ((Below.refl _ _).alloc (Nat.le_refl _) _).trans (hbf.mono (by simp))
      refine world_gen (fun W => Below w.heap.size w W ∧ Blk W w.heap.size 30 #[.int .i64 m, .int .u8 ac, .slice (some ⟨br, or, none⟩) rs.length c] ∧ Blk W (w.heap.size + 1 + 1) 82 #[.map (some (w.heap.size + 1))] ∧ Gather W (w.heap.size + 1) k (edgesOf sel (rs.take k)))
        ⟨hbel.trans (hbW.mono hbel.size), B0.out.next hbW, B2.out.next hbW, hG0.below hbW⟩ ?_
      clear hbW hbf hbel B0 B2 hG0 r0 r1 r2 r3 r4 hb2 hbr hFb hL hA hf hmk hmm hF hG
      rintro W ⟨hbel, b0, b2, D, hown, hM, hD⟩
      have c2 : W.cell? ⟨w.heap.size + 1 + 1, 0, none⟩ = some (.map (some (w.heap.size + 1))) := b2.cell 0
      have hz2 : w.heap.size + 1 + 1 < W.heap.size := b2.lt
      have hgat : ∀ W', Below W.heap.size W W' → W'.ownsGroups Try.prog 3 (w.heap.size + 1 + 1) 3 .i64 (w.heap.size + 1) k D := fun W' hb => hown.kept (grownBy_below hb) (by simp) fun es c _ x _ => by cases x.val.ownBlock <;> simp
      have B0 := Lib.hid b0
      have B2 := Lib.hid b2
      have HD := Lib.hid hD
      have HM := Lib.hid hM
      have Hbel := Lib.hid hbel
      obtain ⟨i0, hi0, hz0, hz1, hzz⟩ := info_parts int_info
      have hk1 : k < 1000 := by omega
      have wf1 : (Lit.int .i64 ((sel r).1 : Int)).wf = true := WalkArith.wf_i64 (by omega)
      have wf2 : (Lit.int .i64 ((sel r).2 : Int)).wf = true := WalkArith.wf_i64 (by omega)
      clear b0 b2 hown hM hD hbel
      have hbd := below_drewN (Below.refl W.heap.size W) 1
      have hba : Below W.heap.size W (W.alloc (.cells #[.int .i64 ((sel r).2 : Int)] 3)).drew := below_drewN ((Below.refl _ _).alloc (Nat.le_refl _) _) 1
      obtain ⟨v1, zs1, hrun1, hat1, hoi1, hzl1, hback1⟩ := (hgat _ hbd).at law3 Try.underlying82 (zero32 _) (by unfold maxLen; omega) (keyOf_int_mk Try.underlying3 wf1)
      obtain ⟨v2, zs2, hrun2, hat2, hoi2, hzl2, hback2⟩ := (hgat _ hba).at law3 Try.underlying82 (zero32 _) (by unfold maxLen; omega) (keyOf_int_mk Try.underlying3 wf1)
      change (Instr.lookup _ _ _ _).run _ W.drew = .ok v1 W.drew at hrun1
      change (Instr.lookup _ _ _ _).run _ (W.alloc _).drew = .ok v2 (W.alloc _).drew at hrun2
      go_region_law (first
        | (refine step_append_lies _ (by rfl) _ _ 32 (by rfl) (w.heap.size + 1 + 1) 3 i0 (.int .i64 0) 1 8 Try.underlying32 hi0 hz0 hz1 hzz (by rfl) (by decide) v1 zs1.length (zs1.map (Value.int .i64)) (by rfl) (by exact hoi1.1.alloc _) ⟨W.heap.size, 0, none⟩ 1 1 [.int .i64 ((sel r).2 : Int)] (by rfl) (by rfl) (World.news_of_block (by exact heap_alloc_new _ _)) (by simp [Value.oneCell']) (by omega) (by unfold maxLen; omega) (by omega) (by simp; omega) _ (by rfl) ?_; intro g cap w4 hown4 hgrow4 hat4 hlt4; obtain ⟨w5, hrun5, hown5, hgrow5, hoi4, hall⟩ := group_store hback1 (World.grownBy_alloc _ _ _) hoi1 hown4 hgrow4 hat4 hzl1 wf2; have y4 : w4.cell? ⟨w.heap.size + 1 + 1, 0, none⟩ = some (.map (some (w.heap.size + 1))) := (Blk.groups4 (B2.out.next hbd) hoi1 (by decide) hall).cell 0)
        | (refine step_append_lies _ (by rfl) _ _ 32 (by rfl) (w.heap.size + 1 + 1) 3 i0 (.int .i64 0) 1 8 Try.underlying32 hi0 hz0 hz1 hzz (by rfl) (by decide) v2 zs2.length (zs2.map (Value.int .i64)) (by rfl) (by exact hoi2.1) ⟨W.heap.size, 0, none⟩ 1 1 [.int .i64 ((sel r).2 : Int)] (by rfl) (by rfl) (World.news_of_block (by exact heap_alloc_new _ _)) (by simp [Value.oneCell']) (by omega) (by unfold maxLen; omega) (by omega) (by simp; omega) _ (by rfl) ?_; intro g cap w4 hown4 hgrow4 hat4 hlt4; obtain ⟨w5, hrun5, hown5, hgrow5, hoi4, hall⟩ := group_store hback2 (grownBy_below (Below.refl _ _)) hoi2 hown4 hgrow4 hat4 hzl2 wf2; have y4 : w4.cell? ⟨w.heap.size + 1 + 1, 0, none⟩ = some (.map (some (w.heap.size + 1))) := (Blk.groups4 (B2.out.next hba) hoi2 (by decide) hall).cell 0))
      all_goals (go_wp2; go_roundw)
      all_goals first
        | exact ⟨k + 1, by omega, by go_num, SpreadW.step Hbel.out B0.out B2.out HM.out HD.out hkl HR.out hbd hat1 hoi1 hoi4 hall hgrow5 hown5⟩
        | exact ⟨k + 1, by omega, by go_num, SpreadW.step Hbel.out B0.out B2.out HM.out HD.out hkl HR.out hba hat2 hoi2 hoi4 hall hgrow5 hown5⟩
        | (simp [intOf]; omega)
    · obtain rfl : k = rs.length := by omega
      rw [List.take_length] at hG0
      have hE := hG0.done (n := m) hn
      have bz : wr.cell? ⟨w.heap.size, 0, none⟩ = some (.int .i64 m) := b0.cell 0
      have B2 := Lib.hid b2
      have hlt2 : w.heap.size + 1 + 1 < wr.heap.size := b2.lt
      clear b0 b2 hG0
      go_upto_region 11 with (fail)
      have hM0 := marks_start hE B2.out hlt2
      refine world_gen (fun W => Below w.heap.size w W ∧ Marks W (wr.heap.size + 1) (w.heap.size + 1 + 1) (wr.heap.size + 1 + 1) wr.heap.size (w.heap.size + 1) wr.heap.size m (edgesOf sel rs) (List.replicate m false)) ⟨?_, hM0⟩ ?_
      · exact ((hbel.alloc hbel.size _).alloc (by have := hbel.size; simp; omega) _).alloc (by have := hbel.size; simp; omega) _
      have hz := hbel.size
      clear hE bz B2 hbel hmm hmk hmf hM0
      generalize wr.heap.size = Z at *
      rintro W ⟨hbel, hM⟩
      go_wp2_with fail
      go_loopw [45] (fun x wr => ∃ j : Nat, j ≤ from_.length ∧ x = .int .i64 j ∧ ∃ V, SpreadMid (edgesOf sel rs) from_ m V j ∧ Marks wr (Z + 1) (w.heap.size + 1 + 1) (Z + 1 + 1) Z (w.heap.size + 1) Z m (edgesOf sel rs) V ∧ Below w.heap.size w wr) (fun x _ => from_.length - (intOf x).toNat)
      case atStart => exact ⟨0, Nat.zero_le _, rfl, _, SpreadMid.start _ _ _, hM, hbel⟩
      case round =>
        clear hM hbel
        obtain ⟨j, hj, rfl, V, hmid, hM, hbel⟩ := hrel
        have hee : ∀ x, x < m → ∀ y ∈ edgesOf sel rs x, y < m := by
          intro x _ y hy
          obtain ⟨r, hr, rfl⟩ := List.mem_map.1 hy
          exact (hs r (List.mem_filter.1 hr).1).2
        have hel : ∀ x, (edgesOf sel rs x).length < 1000 := by
          intro x
          unfold edgesOf
          rw [List.length_map]
          have := List.length_filter_le (fun r => decide ((sel r).1 = x)) rs
          omega
        by_cases hjl : j < from_.length
        · obtain ⟨bl, ol, rfl, hGb, hbl, hcell0⟩ := SlAt.at_ (Reads.lower hL hG hbel) hjl
          obtain ⟨y, hy⟩ : ∃ y, y = from_[j] := ⟨_, rfl⟩
          have hcell : wr.cell? ⟨bl, ol + j, none⟩ = some (.int .i64 y) := by rw [hy]; exact hcell0
          have hye : from_[j]? = some y := by rw [hy]; exact List.getElem?_eq_getElem hjl
          have hym : y < m := hfr y (by rw [hy]; exact List.getElem_mem hjl)
          have hcm : wr.cell? ⟨Z + 1 + 1, 0, none⟩ = some (.func (.func 44) #[] #[.pointer (some ⟨Z + 1, 0, none⟩), .pointer (some ⟨w.heap.size + 1 + 1, 0, none⟩), .pointer (some ⟨Z + 1 + 1, 0, none⟩)]) := hM.cm.cell 0
          have hmk1 := mark_any (Z + 1) (w.heap.size + 1 + 1) (Z + 1 + 1) Z (w.heap.size + 1) Z m (edgesOf sel rs) (Reach (edgesOf sel rs)) (fun m => .refl m) (fun m x y hx h => .step hx h) hee hel hm (V.count false + 1) V y wr (Nat.lt_succ_self _) hym hM
          have HY := Lib.hid hy
          have HM := Lib.hid hM
          have hbz := hM.row.lt
          clear hy hM hcell0 hee hel hs
          go_wp2_with (go_at_call 44; refine hmk1.mono ?_; rintro e w2 ⟨rfl, V2, hp2, hM2, hg2⟩)
          go_roundw
          case rel => exact ⟨j + 1, by omega, by go_num, V2, hmid.step hye hp2, hM2, hbel.grown hg2 (by omega) (fun k hk => by injection hk with hk; omega)⟩
          case measure => simp [intOf]; omega
        · obtain rfl : j = from_.length := by omega
          obtain ⟨d1, d2⟩ := hmid.done (Nat.le_refl _)
          have hrow := hM.row
          have hco : wr.cell? ⟨Z + 1, 0, none⟩ = some (.slice (some ⟨Z, 0, none⟩) m m) := hM.co.cell 0
          clear hM
          go_wp2
          go_ret
          exact ⟨Z, V, rfl, hbel, by omega, hrow, d1, d2⟩
end Go.Proofs.Ytpidgkngefkbeaa
