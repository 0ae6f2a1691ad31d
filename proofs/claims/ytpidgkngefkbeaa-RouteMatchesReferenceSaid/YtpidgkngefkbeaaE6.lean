/- The walk of route.Least. -/
import Derived.Test.YtpidgkngefkbeaaEB
import Derived.Test.YtpidgkngefkbeaaE2
import Derived.Test.YtpidgkngefkbeaaMB
import Derived.Deep.LoopGhost
import Derived.Test.YtpidgkngefkbeaaLA
set_option linter.unusedVariables false
set_option linter.unusedSimpArgs false
namespace Go.Proofs.Ytpidgkngefkbeaa
open Go.RowKit Go.Maps Go.WideElems

/-- how many modes are done -/
def cntD (D : Nat → Option EndR) (m : Nat) : Nat := ((List.range m).filter fun k => (D k).isSome).length
theorem cntD_succ (D : Nat → Option EndR) (m : Nat) : cntD D (m + 1) = cntD D m + if (D m).isSome then 1 else 0 := by
  unfold cntD
  rw [List.range_succ, List.filter_append, List.length_append]
  cases h : (D m).isSome <;> simp [h]
theorem cntD_upd {D : Nat → Option EndR} {a : Nat} (e : EndR) (hD : D a = none) : ∀ m, cntD (upd D a (some e)) m = cntD D m + if a < m then 1 else 0
  | 0 => rfl
  | m + 1 => by
    rw [cntD_succ, cntD_succ, cntD_upd e hD m]
    by_cases h : m = a
    · subst h; simp [upd, hD]
    · rw [upd_ne _ _ h]
      by_cases h1 : a < m
      · simp [h1, show a < m + 1 by omega]; omega
      · simp [h1, show ¬ a < m + 1 by omega]
theorem cntD_le (D : Nat → Option EndR) : ∀ m, cntD D m ≤ m
  | 0 => Nat.le_refl _
  | m + 1 => by rw [cntD_succ]; have := cntD_le D m; split <;> omega
theorem cntD_lt {D : Nat → Option EndR} {a : Nat} (hD : D a = none) : ∀ {m}, a < m → cntD D m < m
  | m + 1, h => by
    rw [cntD_succ]
    by_cases h1 : m = a
    · subst h1
      have := cntD_le D m
      simp [hD]; omega
    · have := cntD_lt hD (m := m) (by omega)
      split <;> omega
theorem cntD_none (m : Nat) : cntD (fun _ => none) m = 0 := by
  unfold cntD
  rw [List.filter_eq_nil_iff.2 (by simp)]
  rfl
/-- lengths and costs -/
def Bnd (F : Nat → Option EndR) (j : Nat) : Prop := ∀ k e, F k = some e → e.l.length ≤ j ∧ e.cost ≤ 1000 * j
def startO (ac k : Nat) (j : Nat) : Option EndR := if j < k ∧ accB ac j = true then some ⟨[], 0⟩ else none
theorem startO_yes {ac k : Nat} (h : accB ac k = true) : startO ac (k + 1) = upd (startO ac k) k (some ⟨[], 0⟩) := by
  funext j
  unfold startO upd
  by_cases h1 : j = k
  · subst h1; simp [h]
  · simp only [h1, if_false]
    by_cases h2 : j < k
    · simp [h2, show j < k + 1 by omega]
    · simp [h2, show ¬ j < k + 1 by omega]
theorem startO_no {ac k : Nat} (h : accB ac k = false) : startO ac (k + 1) = startO ac k := by
  funext j
  unfold startO
  by_cases h1 : j = k
  · subst h1; simp [h]
  · by_cases h2 : j < k
    · simp [h2, show j < k + 1 by omega]
    · simp [h2, show ¬ j < k + 1 by omega]

/-- at the head of the great loop: g rounds at most are to come -/
def LeastW (m ac : Nat) (A : Option Addr) (c : Nat) (rs : List Rule) (w W : World) (g : Nat) : Prop :=
  ∃ D O at_ j N, g + j = m ∧ cntD D m = j ∧ Dij (accB ac) rs m D O at_ rs.length ∧ LW m ac A rs.length c w W N D O ∧ Bnd D j ∧ Bnd O j ∧ N ≤ m + j * 2000
theorem LeastW.start {m ac : Nat} {A : Option Addr} {c : Nat} {rs : List Rule} {w W : World} (h : LW m ac A rs.length c w W m (fun _ => none) (startO ac m)) : LeastW m ac A c rs w W m := by
  refine ⟨_, _, 0, 0, m, rfl, cntD_none m, Dij.begin (accB ac) rs m 0, h, fun k e h => by (cases h), fun k e h => ?_, by omega⟩
  have h : startO ac m k = some e := h
  unfold startO at h
  split at h
  · injection h with h
    rw [← h]; simp
  · cases h
/-- while the least open end is looked for: x is what 'at' holds -/
def SeekW (m ac : Nat) (A : Option Addr) (n c : Nat) (w : World) (r N : Nat) (fO : Nat → Option Ent) (D O : Nat → Option EndR) (x : Value) (W : World) (left : Nat → Bool) (cnt : Nat) : Prop :=
  LW m ac A n c w W N D O ∧ EndRange W (w.heap.size + 1 + 1) r N m fO left cnt ∧ Shows (w.heap.size + 1) W fO O ∧ w.heap.size + 1 + 1 < r ∧ (∀ k, left k = true → (O k).isSome = true) ∧
    ((x = .int .i64 (-1) ∧ ∀ k, (O k).isSome = true → left k = true) ∨ ∃ (a : Nat) (e : EndR), x = .int .i64 a ∧ a < m ∧ O a = some e ∧ left a = false ∧ ∀ k f, O k = some f → left k = false → e.le f)

theorem SeekW.next {m ac : Nat} {A : Option Addr} {n c : Nat} {w : World} {r N : Nat} {fO : Nat → Option Ent} {D O : Nat → Option EndR} {left : Nat → Bool} {cnt' : Nat} {W : World} {q : Nat} {y : Value} (hLW : LW m ac A n c w W N D O)
    (hER : EndRange W (w.heap.size + 1 + 1) r N m fO (fun j => left j && !decide (j = q)) cnt') (hSh : Shows (w.heap.size + 1) W fO O) (hr : w.heap.size + 1 + 1 < r) (hl : ∀ k, left k = true → (O k).isSome = true) {a : Nat} {e : EndR} (hy : y = .int .i64 a) (ha : a < m) (hOa : O a = some e)
    (hla : a = q ∨ left a = false) (hmin : ∀ k f, O k = some f → left k = false ∨ k = q → e.le f) : SeekW m ac A n c w r N fO D O y W (fun j => left j && !decide (j = q)) cnt' := by
  refine ⟨hLW, hER, hSh, hr, fun k hk => hl k ?_, .inr ⟨a, e, hy, ha, hOa, ?_, fun k f hk hkl => hmin k f hk ?_⟩⟩
  · simp at hk; exact hk.1
  · rcases hla with h | h
    · simp [h]
    · simp [h]
  · rcases hx : left k with _ | _
    · exact .inl rfl
    · have hkl : (left k && !decide (k = q)) = false := hkl
      rw [hx] at hkl; simp at hkl; exact .inr hkl

/-- while the rules are gone over behind the taking of 'a' with the end e: i of them are done -/
def RelaxW (m ac : Nat) (A : Option Addr) (c : Nat) (rs : List Rule) (w : World) (D : Nat → Option EndR) (a : Nat) (e : EndR) (B1 : Option Addr) (d1 Zb j N i : Nat) (W : World) : Prop :=
  ∃ O N', Dij (accB ac) rs m (upd D a (some e)) O a i ∧ LW m ac A rs.length c w W N' (upd D a (some e)) O ∧ Bnd O (j + 1) ∧ N' ≤ N + 1 + i ∧ Blk W Zb 72 #[.slice B1 e.l.length d1, .int .i64 e.cost] ∧ SlAt vN (w.heap.size + 1 ≤ ·) W B1 e.l ∧ w.heap.size + 1 + 1 < Zb

/-- what Least hands back for a mode of the scheme -/
def LeastRes (acc : Nat → Bool) (rs : List Rule) (mode : Nat) (w : World) (e : Ending) (w' : World) : Prop :=
  Below w.heap.size w w' ∧ ((∃ p A c, Least acc rs mode p ∧ e = .returned (.tuple #[.slice A p.l.length c, .int .i64 p.cost, .int .i64 0]) ∧ p.l.length ≤ c ∧ p.l.length ≤ 8 ∧ SlAt vN (w.heap.size ≤ ·) w' A p.l) ∨
    ((∀ p, ¬ IsEnd acc rs mode p) ∧ e = .returned (.tuple #[.slice none 0 0, .int .i64 0, .int .i64 50])))

/-- what holds behind the building of a new end out of the rule with the index i and the end e: its box is at v -/
def RelaxCut (m ac : Nat) (A : Option Addr) (n c : Nat) (w : World) (N : Nat) (D O : Nat → Option EndR) (X : Nat) (r : Rule) (Zb : Nat) (B1 : Option Addr) (d1 : Nat) (e : EndR) (i : Nat) (v : Value) (wx : World) : Prop :=
  ∃ Y g cap, v = .pointer (some ⟨Y, 0, none⟩) ∧ LW m ac A n c w wx N D O ∧ Blk wx X 53 #[.int .i64 r.frm, .int .i64 r.dst, .string r.inp, .string r.out, .int .i64 r.cost] ∧ Blk wx Zb 72 #[.slice B1 e.l.length d1, .int .i64 e.cost] ∧ SlAt vN (w.heap.size + 1 ≤ ·) wx B1 e.l ∧
    Blk wx Y 72 #[.slice (some ⟨g, 0, none⟩) (e.l.length + 1) cap, .int .i64 ((r.cost + e.cost : Nat) : Int)] ∧ SlAt vN (w.heap.size + 1 ≤ ·) wx (some ⟨g, 0, none⟩) (i :: e.l) ∧ e.l.length + 1 ≤ cap
section
variable {m ac : Nat} {A : Option Addr} {n c : Nat} {w W w5 : World} {N : Nat} {D O : Nat → Option EndR} {X : Nat} {r : Rule} {Zb : Nat} {B1 : Option Addr} {d1 : Nat} {e : EndR} {i g cap Y b : Nat}
theorem RelaxCut.fresh (hLW : LW m ac A n c w W N D O) (bX : Blk W X 53 #[.int .i64 r.frm, .int .i64 r.dst, .string r.inp, .string r.out, .int .i64 r.cost]) (bZ : Blk W Zb 72 #[.slice B1 e.l.length d1, .int .i64 e.cost])
    (hsl : SlAt vN (w.heap.size + 1 ≤ ·) W B1 e.l) (hpre : Below W.heap.size W w5) (hrd : Reads (b ≤ ·) w5 (some ⟨g, 0, none⟩) (.int .i64 i :: e.l.map vN)) (hb : w.heap.size + 1 ≤ b) (hcap : 1 + e.l.length ≤ cap) :
    RelaxCut m ac A n c w N D O X r Zb B1 d1 e i (.pointer (some ⟨w5.heap.size, 0, none⟩)) (w5.alloc (.cells #[.slice (some ⟨g, 0, none⟩) (1 + e.l.length) cap, .int .i64 (r.cost + e.cost)] 72)) := by
  have hB := hpre.alloc hpre.size (.cells #[.slice (some ⟨g, 0, none⟩) (1 + e.l.length) cap, .int .i64 (r.cost + e.cost)] 72)
  refine ⟨_, g, cap, rfl, hLW.below hB, bX.next hB, bZ.next hB, Reads.below hsl hB, ?_, (Reads.below hrd ((Below.refl _ _).alloc (Nat.le_refl _) _)).mono fun b hb' => by omega, by omega⟩
  rw [Nat.add_comm e.l.length 1, Int.natCast_add]
  exact Blk.new _ _ _
theorem RelaxCut.stored (hLW : LW m ac A n c w W N D O) (bX : Blk W X 53 #[.int .i64 r.frm, .int .i64 r.dst, .string r.inp, .string r.out, .int .i64 r.cost]) (bZ : Blk W Zb 72 #[.slice B1 e.l.length d1, .int .i64 e.cost])
    (hsl : SlAt vN (w.heap.size + 1 ≤ ·) W B1 e.l) (hpre : Below W.heap.size W w5) (hrd : Reads (b ≤ ·) w5 (some ⟨g, 0, none⟩) (.int .i64 i :: e.l.map vN)) (hb : w.heap.size + 1 ≤ b) (bY : Blk w5 Y 72 #[.slice none 0 0, .int .i64 0]) (hY : W.heap.size ≤ Y) (hcap : 1 + e.l.length ≤ cap) :
    RelaxCut m ac A n c w N D O X r Zb B1 d1 e i (.pointer (some ⟨Y, 0, none⟩)) ((w5.setCell ⟨Y, 0, none⟩ (.slice (some ⟨g, 0, none⟩) (1 + e.l.length) cap)).setCell ⟨Y, 1, none⟩ (.int .i64 (r.cost + e.cost))) := by
  have hB := (hpre.setCell (p := ⟨Y, 0, none⟩) hY (.slice (some ⟨g, 0, none⟩) (1 + e.l.length) cap)).setCell (p := ⟨Y, 1, none⟩) hY (.int .i64 (r.cost + e.cost))
  refine ⟨_, g, cap, rfl, hLW.below hB, bX.next hB, bZ.next hB, Reads.below hsl hB, ?_, ?_, by omega⟩
  · rw [Nat.add_comm e.l.length 1, Int.natCast_add]
    exact (bY.set 0 _).set 1 _
  · intro _
    obtain ⟨b', o, h1, h2, h3, h4⟩ := hrd (by simp)
    injection h1 with h1
    injection h1 with h1 h5
    subst h1 h5
    have hne : g ≠ Y := by
      rintro rfl
      have h := h4 0 _ rfl
      rw [Nat.add_zero, bY.cell 0] at h
      cases h
    refine ⟨g, 0, rfl, by omega, by simpa [World.setCell] using h3, fun j u hu => ?_⟩
    rw [World.cell?_of_block (Below.heap_setCell _ _ _ _ (by simpa using hne)), World.cell?_of_block (Below.heap_setCell _ _ _ _ (by simpa using hne))]
    exact h4 j u hu
end

theorem LW.noO {m ac : Nat} {A : Option Addr} {n c : Nat} {w W : World} {N : Nat} {D O : Nat → Option EndR} (h : LW m ac A n c w W N D O) : ∀ i, W.cell? ⟨w.heap.size + 1 + 1, i, none⟩ = none := by
  obtain ⟨_, _, _, ⟨g', h5, _⟩⟩ := h
  obtain ⟨es, cl, hmm⟩ := h5.isMap
  exact no_cell_map hmm
theorem cell_far2 {w : World} {p q : Addr} {u v : Value} {b i : Nat} {x : Option Value} (h : w.cell? ⟨b, i, none⟩ = x) (hp : b ≠ p.block) (hq : b ≠ q.block) : ((w.setCell p u).setCell q v).cell? ⟨b, i, none⟩ = x := by
  rw [World.cell?_of_block (Below.heap_setCell _ _ _ _ hq), World.cell?_of_block (Below.heap_setCell _ _ _ _ hp)]; exact h

set_option maxHeartbeats 2000000 in
set_option maxRecDepth 100000 in
theorem least_any (F : Nat → Prop) (m ac : Nat) (A : Option Addr) (c : Nat) (rs : List Rule) (mode : Nat) (w : World) (hA : RulesAt F w A rs) (hF : ∀ b, F b → b < w.heap.size) (hn : rs.length < 1000) (hm : m ≤ 8) (hac : ac < 256) (hs : ∀ r ∈ rs, r.frm < m ∧ r.dst < m) (hbnd : ∀ r ∈ rs, r.cost ≤ 1000) (hmode : mode < m) :
    Calls Try.prog 24 #[.agg #[.int .i64 m, .int .u8 ac, .slice A rs.length c], .int .i64 mode] w (LeastRes (accB ac) rs mode w) := by
  have hmm := @run_makeMap Try.prog
  have d1 : decide ((mode : Int) < 0) = false := by simp
  have d2 : decide ((m : Int) ≤ (mode : Int)) = false := by simp; omega
  have d3 : decide (m ≤ mode) = false := by simp; omega
  go_enter Try.func24, Try.ntmps24
  go_wp2_with fail
  refine world_gen (fun W => LW m ac A rs.length c w W 0 (fun _ => none) (startO ac 0)) ?_ ?_
  · have hb : Below w.heap.size w (((w.alloc (.cells #[.int .i64 m, .int .u8 ac, .slice A rs.length c] 30)).alloc (.map #[] 0)).alloc (.map #[] 0)) := (((Below.refl _ _).alloc (Nat.le_refl _) _).alloc (by simp) _).alloc (by simp; omega) _
    refine ⟨hb, ((Blk.new _ _ _).alloc _).alloc _, ⟨fun _ => none, ?_, fun k => by simp⟩, ⟨fun _ => none, ?_, fun k => by simp [startO]⟩⟩
    · have h := (EndMap.made (w.alloc (.cells #[.int .i64 m, .int .u8 ac, .slice A rs.length c] 30)) m).below ((Below.refl _ _).alloc (Nat.le_refl _) (.map #[] 0))
      simpa using h
    · have h := EndMap.made ((w.alloc (.cells #[.int .i64 m, .int .u8 ac, .slice A rs.length c] 30)).alloc (.map #[] 0)) m
      simpa using h
  intro W hW
  clear hmm d1 d2 d3
  go_loopw [35] (fun x wr => ∃ k : Nat, k ≤ m ∧ x = .int .i64 k ∧ LW m ac A rs.length c w wr k (fun _ => none) (startO ac k)) (fun x _ => m - (intOf x).toNat)
  case atStart => exact ⟨0, Nat.zero_le _, rfl, hW⟩
  case round =>
    clear hW W
    obtain ⟨k, hk, rfl, hW⟩ := hrel
    have b0 := hW.box
    have x0 : wr.cell? ⟨w.heap.size, 0, none⟩ = some (.int .i64 m) := b0.cell 0
    have x1 : wr.cell? ⟨w.heap.size, 1, none⟩ = some (.int .u8 ac) := b0.cell 1
    have x2 : wr.cell? ⟨w.heap.size, 2, none⟩ = some (.slice A rs.length c) := b0.cell 2
    have hlt := b0.lt
    have HW := Lib.hid hW
    clear b0 hW
    by_cases hkm : k < m
    · rcases hb : accB ac k with _ | _
      · have hso := startO_no hb
        go_wp2_with (go_at_call 35; refine (accepts_any m ac A rs.length c k _ hac (by omega)).mono ?_; rw [hb]; rintro e w2 ⟨rfl, hb2⟩)
        go_roundw
        case rel => exact ⟨k + 1, by omega, by go_num, by rw [hso]; exact (HW.out.below hb2).mono (Nat.le_succ _)⟩
        case measure => simp [intOf]; omega
      · have hso := startO_yes hb
        go_wp2_with (first
          | (go_at_call 35; refine (accepts_any m ac A rs.length c k _ hac (by omega)).mono ?_; rw [hb]; rintro e w2 ⟨rfl, hb2⟩; obtain ⟨w3, hrun3, hW3, _⟩ := (HW.out.below hb2).storeO hkm (by omega) (by omega) (e := ⟨[], 0⟩) (B := none) (d := 0) (Reads.nil _) (Nat.le_refl _))
          | (at_mapUpdate; refine wpList_store_end _ w3 (by rfl) _ _ _ _ (by rfl) (by exact hrun3) ?_))
        go_roundw
        case rel => exact ⟨k + 1, by omega, by go_num, by rw [hso]; exact hW3⟩
        case measure => simp [intOf]; omega
    · obtain rfl : k = m := by omega
      have hW := LeastW.start HW.out
      clear x0 x1 x2 hlt HW
      go_wp2_with fail
      go_loopg [10] k (fun g s10 wr => LeastW k ac A c rs w wr g)
      case atStart => exact hW
      case round =>
        clear hW
        obtain ⟨D, O, at_, j, N, hgj, hcnt, hdij, hLW, hBD, hBO, hN⟩ := hrel
        obtain ⟨s, hlen0, hs0, hs1⟩ := hLW.lenO 3
        have hlen := Lib.hid hlen0
        clear hlen0
        have HL := Lib.hid hLW
        have HJ := Lib.hid (And.intro hgj (And.intro hcnt (And.intro hdij (And.intro hBD (And.intro hBO hN)))))
        have HS := Lib.hid hs
        have HBB := Lib.hid hbnd
        have HA := Lib.hid hA
        have HF := Lib.hid hF
        clear hLW hgj hcnt hdij hBD hBO hN hs hbnd hA hF
        rcases Nat.eq_zero_or_pos s with h0 | h0
        · have hO := Lib.hid (hs0 h0)
          subst h0
          clear hs0 hs1
          have hbel := HL.out.bel
          cases hDm : D mode with
          | none =>
            have hl := HL.out.lookDno (k := mode) (by omega) hDm
            have hno : ∀ p, ¬ IsEnd (accB ac) rs mode p := fun p => HJ.out.2.2.1.end_done HS.out hO.out hmode hDm p
            have HNO := Lib.hid hno
            clear hno hDm
            go_wp2_with (at_len; refine wpList_len_end _ (by rfl) _ _ (by rfl) (.int .i64 0) (by exact hlen.out) ?_)
            refine bodyPost_ret (v := .tuple #[.slice none 0 0, .int .i64 0, .int .i64 50]) (by simp [results, Try.results24, go_sem]) rfl ?_
            exact ⟨hbel.alloc hbel.size _, .inr ⟨HNO.out, rfl⟩⟩
          | some e =>
            obtain ⟨B, d, hl, hcl, hsl⟩ := HL.out.lookDok (k := mode) (by omega) hDm
            have hle := Lib.hid (HJ.out.2.2.1.done mode e hDm)
            have hl8 : e.l.length ≤ 8 := by have := (HJ.out.2.2.2.1 mode e hDm).1; have := HJ.out.1; omega
            clear hDm
            go_wp2_with (at_len; refine wpList_len_end _ (by rfl) _ _ (by rfl) (.int .i64 0) (by exact hlen.out) ?_)
            go_quiet (fail)
            go_wp2
            refine bodyPost_ret (v := .tuple #[.slice B e.l.length d, .int .i64 e.cost, .int .i64 0]) (by simp [results, Try.results24, go_sem]) rfl ?_
            refine ⟨below_drewN (hbel.alloc hbel.size _) _, .inl ⟨e, B, d, hle.out, rfl, hcl, hl8, ?_⟩⟩
            exact (Reads.below hsl (below_drewN ((Below.refl _ _).alloc (Nat.le_refl _) _) _)).mono fun b hb => by omega
        · obtain ⟨k0, e0, hk0, he0⟩ := hs1 h0
          have hs2 : decide ((0 : Int) < (s : Int)) = true := by simpa using h0
          have hbel := HL.out.bel
          have hlt2 : w.heap.size + 1 + 1 < wr.heap.size := by obtain ⟨_, _, _, ⟨g, h5, _⟩⟩ := HL.out; exact h5.lt_
          obtain ⟨fO, hEM, hSh⟩ := HL.out.op
          have HSH := Lib.hid hSh
          clear hs0 hs1 hSh
          go_wp2_with (first
            | (at_len; refine wpList_len_end _ (by rfl) _ _ (by rfl) (.int .i64 s) (by exact hlen.out) ?_)
            | (at_range; refine wpList_range_end _ (by rfl) _ (by rfl) (by rfl) hEM ?_; intro W0 cnt hER hb0 hsz0))
          go_frame
          have hSeek : SeekW k ac A rs.length c w wr.heap.size N fO D O (.int .i64 (-1)) W0 (fun j => (fO j).isSome) cnt :=
            ⟨HL.out.below hb0, hER, HSH.out.below hb0, hlt2, fun q hq => by rw [← HSH.out.isSome_]; exact hq, .inl ⟨rfl, fun q hq => by show (fO q).isSome = true; rw [HSH.out.isSome_]; exact hq⟩⟩
          clear hER hEM hb0 hsz0 hlen hs2 hbel HL HSH h0
          generalize wr.heap.size = R at *
          go_loopw [10] (fun x wq => ∃ left cnt, SeekW k ac A rs.length c w R N fO D O x wq left cnt) (fun _ wq => wq.rangeLeft (w.heap.size + 1 + 1) R)
          case atStart => exact ⟨_, _, hSeek⟩
          case round =>
            clear hSeek W0
            obtain ⟨left, cnt, hLW, hER, hSh, hlt3, hl0, hx⟩ := hrel
            have HL := Lib.hid hLW
            have HX := Lib.hid hx
            clear hLW hx
            go_wp2_with (at_next; refine wpList_next_show _ (by rfl) _ (by rfl) (by rfl) hER hSh hl0 ?_ ?_)
            · intro hdone
              rcases HX.out with ⟨_, hall⟩ | ⟨a, e, rfl, ha, hOa, _, hmin⟩
              · exfalso
                have := hall k0 (by rw [he0]; rfl)
                rw [hdone] at this
                cases this
              have hmin' := Lib.hid (fun q f hq => hmin q f hq (hdone q))
              clear hmin HX hER hSh hl0 hdone hlt3
              obtain ⟨B1, d1, hrun1, hc1, hs1⟩ := HL.out.lookO (k := a) (by omega) hOa
              have hba := (Below.refl wr.heap.size wr).alloc (Nat.le_refl _) (.cells #[.slice B1 e.l.length d1, .int .i64 e.cost] 72)
              have hN1 : N < 1000000 := (by have := HJ.out.2.2.2.2.2; have := HJ.out.1; omega)
              obtain ⟨w3, hrun3, hW3, hg3⟩ := (HL.out.below hba).storeD ha (by omega) hN1 (e := e) (d := d1) (Reads.below hs1 hba) hc1
              obtain ⟨w4, hrun4, hW4, hg4⟩ := hW3.dropO (k := a) (by omega) 3
              have hlt2' := hlt2
              have hz2 : w.heap.size + 1 + 1 < wr.heap.size := by obtain ⟨_, _, _, ⟨g', h5, _⟩⟩ := HL.out; exact h5.lt_
              have bz3 : Blk w3 wr.heap.size 72 #[.slice B1 e.l.length d1, .int .i64 e.cost] := (Blk.new wr 72 #[.slice B1 e.l.length d1, .int .i64 e.cost]).kept hg3 (by omega)
              have bz4 := bz3.kept hg4 (by omega)
              have hno3 : ∀ i, (wr.alloc (.cells #[.slice B1 e.l.length d1, .int .i64 e.cost] 72)).cell? ⟨w.heap.size + 1, i, none⟩ = none := by
                obtain ⟨_, _, ⟨g', h5, _⟩, _⟩ := HL.out.below hba
                obtain ⟨es, cl, hmm⟩ := h5.isMap
                exact no_cell_map hmm
              have hno4 : ∀ i, w3.cell? ⟨w.heap.size + 1 + 1, i, none⟩ = none := by
                obtain ⟨_, _, _, ⟨g', h5, _⟩⟩ := hW3
                obtain ⟨es, cl, hmm⟩ := h5.isMap
                exact no_cell_map hmm
              have hs4 : SlAt vN (w.heap.size + 1 ≤ ·) w4 B1 e.l := Reads.other (Reads.other (Reads.below hs1 hba) hg3 hno3) hg4 hno4
              have b0 := hW4.box
              have q2 : w4.cell? ⟨w.heap.size, 2, none⟩ = some (.slice A rs.length c) := b0.cell 2
              have hb0lt := b0.lt
              have HW4 := Lib.hid hW4
              have HS4 := Lib.hid hs4
              have BZ4 := Lib.hid bz4
              clear hs4 bz4 bz3 hno3 hno4 hW3 hW4 hg3 hg4 b0 hs1 HL
              have HR3 := Lib.hid hrun3
              have HR4 := Lib.hid hrun4
              clear hrun3 hrun4
              go_wp2_with (first
                | (at_mapUpdate; refine wpList_store_end _ w3 (by rfl) _ _ _ _ (by rfl) (by exact HR3.out) ?_)
                | (at_delete; refine wpList_delete_end _ w4 (by rfl) _ _ _ _ (by rfl) (by exact HR4.out) ?_))
              have hRel : RelaxW k ac A c rs w D a e B1 d1 wr.heap.size j N 0 w4 :=
                ⟨_, _, HJ.out.2.2.1.take HS.out hOa ha hmin'.out, HW4.out, fun q f hq => by
                  unfold upd at hq
                  split at hq
                  · cases hq
                  · have := HJ.out.2.2.2.2.1 q f hq; omega, by omega, BZ4.out, HS4.out, hz2⟩
              clear HW4 BZ4 HS4 HR3 HR4 hba hrun1 hb0lt q2
              generalize wr.heap.size = Zb at *
              go_loopw [89] (fun x wq => ∃ i : Nat, i ≤ rs.length ∧ x = .int .i64 i ∧ RelaxW k ac A c rs w D a e B1 d1 Zb j N i wq) (fun x _ => rs.length - (intOf x).toNat)
              case atStart => exact ⟨0, Nat.zero_le _, rfl, hRel⟩
              case round =>
                clear hRel
                obtain ⟨i, hi, rfl, O', N', hdij, hLW, hBO', hN', hbz, hsl, hzb⟩ := hrel
                by_cases hil : i < rs.length
                · have hbelR := hLW.bel
                  obtain ⟨br, or, rfl, hFb, hbr, y0, y1, y2, y3, y4⟩ := RulesAt.at_ (Reads.lower HA.out HF.out hbelR) hil
                  obtain ⟨r, hr⟩ : ∃ r, r = rs[i] := ⟨_, rfl⟩
                  rw [← hr] at y0 y1 y2 y3 y4
                  have hri : rs[i]? = some r := by rw [hr]; exact List.getElem?_eq_getElem hil
                  have hrm : r.frm < k ∧ r.dst < k := by rw [hr]; exact HS.out _ (List.getElem_mem hil)
                  have hb15 := (Below.refl wr.heap.size wr).alloc (Nat.le_refl _) (.cells #[.int .i64 r.frm, .int .i64 r.dst, .string r.inp, .string r.out, .int .i64 r.cost] 53)
                  have HRR := Lib.hid hr
                  have HD' := Lib.hid hdij
                  have HL' := Lib.hid hLW
                  have HBZ := Lib.hid hbz
                  have HSL := Lib.hid hsl
                  have HBO' := Lib.hid hBO'
                  clear hr hdij hLW hbz hsl hBO'
                  cases hDr : upd D a (some e) r.frm with
                  | some e' =>
                    obtain ⟨B5, d5, hl5, hc5, hs5⟩ := (HL'.out.below hb15).lookDok (k := r.frm) (by omega) hDr
                    have hne : upd D a (some e) r.frm ≠ none := by rw [hDr]; simp
                    have hskip := Lib.hid (HD'.out.skip hri (.inr hne))
                    clear hDr hne hs5
                    go_wp2_with fail
                    go_roundw
                    case rel =>
                      have hb16 := hb15.alloc (by simp) (.cells #[.slice B5 e'.l.length d5, .int .i64 e'.cost] 72)
                      exact ⟨i + 1, by omega, by go_num, O', N', hskip.out, HL'.out.below hb16, HBO'.out, by omega, HBZ.out.next hb16, Reads.below HSL.out hb16, hzb⟩
                    case measure => simp [intOf]; omega
                  | none =>
                    have hl5 := (HL'.out.below hb15).lookDno (k := r.frm) (by omega) hDr
                    by_cases hda : r.dst = a
                    · have dq : ((r.dst : Int) != (a : Int)) = false := by simp [hda]
                      have dq' : ((r.dst : Int) == (a : Int)) = true := by simp [hda]
                      have HDA := Lib.hid hda
                      have HDR := Lib.hid hDr
                      clear hda hDr
                      go_upto_region 25 with (fail)
                      have hb16 := hb15.alloc (by simp) (.cells #[.slice none 0 0, .int .i64 0] 72)
                      refine world_gen (fun W => LW k ac (some ⟨br, or, none⟩) rs.length c w W N' (upd D a (some e)) O' ∧ Blk W wr.heap.size 53 #[.int .i64 r.frm, .int .i64 r.dst, .string r.inp, .string r.out, .int .i64 r.cost] ∧ Blk W Zb 72 #[.slice B1 e.l.length d1, .int .i64 e.cost] ∧ SlAt vN (w.heap.size + 1 ≤ ·) W B1 e.l ∧ wr.heap.size < W.heap.size)
                        ⟨HL'.out.below hb16, (Blk.new _ _ _).alloc _, HBZ.out.next hb16, Reads.below HSL.out hb16, by simp; omega⟩ ?_
                      have hX2 : w.heap.size + 1 + 1 < wr.heap.size := by have := HBZ.out.lt; omega
                      clear hb16 hb15 hl5 y0 y1 y2 y3 y4 HL' HBZ HSL hbr hFb hbelR
                      generalize wr.heap.size = X at *
                      rintro W ⟨hLW, bX, bZ, hsl, hXW⟩
                      go_cut [18] (fun v wx => RelaxCut k ac (some ⟨br, or, none⟩) rs.length c w N' (upd D a (some e)) O' X r Zb B1 d1 e i v wx)
                      case first =>
                        obtain ⟨j0, hj0, hy0, hy1, hy2⟩ := info_parts int_info
                        have hD := below_drewN (Below.refl W.heap.size W) 1
                        have x4 : W.cell? ⟨X, 4, none⟩ = some (.int .i64 r.cost) := bX.cell 4
                        have p0 : W.cell? ⟨Zb, 0, none⟩ = some (.slice B1 e.l.length d1) := bZ.cell 0
                        have p1 : W.cell? ⟨Zb, 1, none⟩ = some (.int .i64 e.cost) := bZ.cell 1
                        have hZW := bZ.lt
                        have hBE := (HJ.out.2.2.2.2.1 a e hOa)
                        have hJ0 := HJ.out.1
                        have hsum : IntKind.i64.wrap ((r.cost : Int) + (e.cost : Int)) = ((r.cost + e.cost : Nat) : Int) := by
                          have := HBB.out r (by rw [HRR.out]; exact List.getElem_mem hil)
                          rw [IntWalk.i64_in _ (by omega)]; omega
                        have HLW := Lib.hid hLW
                        have HBX := Lib.hid bX
                        have HBZ2 := Lib.hid bZ
                        clear hLW bX bZ
                        go_region_held3 (fun w' => w'.cell? ⟨X, 4, none⟩ = some (.int .i64 r.cost) ∧ w'.cell? ⟨Zb, 0, none⟩ = some (.slice B1 e.l.length d1) ∧ w'.cell? ⟨Zb, 1, none⟩ = some (.int .i64 e.cost)) (first | exact ⟨x45, p05, p15⟩ | exact ⟨cell_far2 x45 (by simp; omega) (by simp; omega), cell_far2 p05 (by simp; omega) (by simp; omega), cell_far2 p15 (by simp; omega) (by simp; omega)⟩ | go_keep | exact ⟨cell_far2 (by go_simp) (by simp; omega) (by simp; omega), cell_far2 (by go_simp) (by simp; omega) (by simp; omega), cell_far2 (by go_simp) (by simp; omega) (by simp; omega)⟩) ((first | (refine step_append_one _ (by rfl) _ _ 32 (by rfl) 3 j0 (.int .i64 0) 8 Try.underlying32 hj0 hy0 hy1 hy2 (by rfl) _ (.int .i64 i) (by rfl) (by first | exact Blk.new _ _ _ | exact (Blk.new _ _ _).alloc _ | (have h := Blk.new (W.alloc (.cells #[.slice none 0 0, .int .i64 0] 72)) 3 #[.int .i64 i]; simp at h; exact h)) (w.heap.size + 1 ≤ ·) B1 d1 (e.l.map vN) (by simp; rfl) (by first | exact Reads.below hsl (below_drewN ((Below.refl _ _).alloc (Nat.le_refl _) _) 1) | exact Reads.below hsl (below_drewN (((Below.refl _ _).alloc (Nat.le_refl _) _).alloc (by simp) _) 1)) (by simp [vN, Value.oneCell']) (by simp; unfold maxLen; omega) (by simp; omega) ?_; intro g cap w5 hcap5 hrd hgr5; have hpre5 : Below W.heap.size W w5 := (by first | exact (below_drewN ((Below.refl _ _).alloc (Nat.le_refl _) _) 1).grown hgr5 (by simp) (fun k hk => by have := Option.some.inj hk; omega) | exact (below_drewN (((Below.refl _ _).alloc (Nat.le_refl _) _).alloc (by simp) _) 1).grown hgr5 (by simp; omega) (fun k hk => by have := Option.some.inj hk; omega)); have x45 : w5.cell? ⟨X, 4, none⟩ = some (.int .i64 r.cost) := (HBX.out.next hpre5).cell 4; have p05 : w5.cell? ⟨Zb, 0, none⟩ = some (.slice B1 e.l.length d1) := (HBZ2.out.next hpre5).cell 0; have p15 : w5.cell? ⟨Zb, 1, none⟩ = some (.int .i64 e.cost) := (HBZ2.out.next hpre5).cell 1; have hz5 : Zb < w5.heap.size := Nat.lt_of_lt_of_le hZW hpre5.size; have hx5 : X < w5.heap.size := Nat.lt_of_lt_of_le hXW hpre5.size; have hw5 := hpre5.size; (first | (have b18 : Blk w5 W.heap.size 72 #[.slice none 0 0, .int .i64 0] := (by refine Blk.grown ?_ hgr5 (by simp); exact (Blk.new W _ _).alloc _); have u180 : w5.cell? ⟨W.heap.size, 0, none⟩ = some (.slice none 0 0) := b18.cell 0; have u181 : w5.cell? ⟨W.heap.size, 1, none⟩ = some (.int .i64 0) := b18.cell 1; have v180 : w5.frozen? ⟨W.heap.size, 0, none⟩ = false := b18.free 0; have v181 : w5.frozen? ⟨W.heap.size, 1, none⟩ = false := b18.free 1; have B18 := Lib.hid b18; clear b18) | (have b19 : Blk w5 (W.heap.size + 1) 72 #[.slice none 0 0, .int .i64 0] := (by refine Blk.grown ?_ hgr5 (by simp); have h := Blk.new (W.alloc (.cells #[.int .i64 i] 3)) 72 #[.slice none 0 0, .int .i64 0]; simp at h; exact h); have u190 : w5.cell? ⟨W.heap.size + 1, 0, none⟩ = some (.slice none 0 0) := b19.cell 0; have u191 : w5.cell? ⟨W.heap.size + 1, 1, none⟩ = some (.int .i64 0) := b19.cell 1; have v190 : w5.frozen? ⟨W.heap.size + 1, 0, none⟩ = false := b19.free 0; have v191 : w5.frozen? ⟨W.heap.size + 1, 1, none⟩ = false := b19.free 1; have B18 := Lib.hid b19; clear b19) | skip))))
                        all_goals (go_wp2; go_meet)
                        all_goals first
                          | exact RelaxCut.fresh HLW.out HBX.out HBZ2.out hsl hpre5 hrd (by omega) (by simpa using hcap5)
                          | exact RelaxCut.stored HLW.out HBX.out HBZ2.out hsl hpre5 hrd (by omega) B18.out (by omega) (by simpa using hcap5)
                      case rest =>
                        obtain ⟨Y, g, cap, rfl, hLW, bX, bZ, hsl, bY, hgl, hcap⟩ := hcut
                        have x0 : wc.cell? ⟨X, 0, none⟩ = some (.int .i64 r.frm) := bX.cell 0
                        have y0 : wc.cell? ⟨Y, 0, none⟩ = some (.slice (some ⟨g, 0, none⟩) (e.l.length + 1) cap) := bY.cell 0
                        have y1 : wc.cell? ⟨Y, 1, none⟩ = some (.int .i64 ((r.cost + e.cost : Nat) : Int)) := bY.cell 1
                        have hXlt := bX.lt
                        have hYlt := bY.lt
                        have hN2 : N' < 1000000 := (by have := HJ.out.2.2.2.2.2; have := HJ.out.1; omega)
                        have hce : r.cost ≤ 1000 := HBB.out r (by rw [HRR.out]; exact List.getElem_mem hil)
                        have hext : (e.ext i r.cost).l.length ≤ j + 1 ∧ (e.ext i r.cost).cost ≤ 1000 * (j + 1) := by
                          have := HJ.out.2.2.2.2.1 a e hOa
                          simp only [EndR.ext, List.length_cons]; omega
                        have HEX := Lib.hid hext
                        have hBnew : Bnd (upd O' r.frm (some (e.ext i r.cost))) (j + 1) := fun q f hq => by
                          unfold upd at hq
                          split at hq
                          · injection hq with hq; subst hq; exact HEX.out
                          · exact HBO'.out q f hq
                        have HBN := Lib.hid hBnew
                        have HL := Lib.hid hLW
                        have HX := Lib.hid bX
                        have HZ := Lib.hid bZ
                        have HS2 := Lib.hid hsl
                        have HY := Lib.hid bY
                        have HG := Lib.hid hgl
                        clear hext hBnew hLW bX bZ hsl bY hgl
                        cases hOr : O' r.frm with
                        | none =>
                          have hl6 := HL.out.lookOno (k := r.frm) (by omega) hOr
                          have hba := (Below.refl wc.heap.size wc).alloc (Nat.le_refl _) (.cells #[.slice none 0 0, .int .i64 0] 72)
                          obtain ⟨w3, hrun3, hW3, hg3⟩ := (HL.out.below hba).storeO hrm.1 (by omega) hN2 (e := e.ext i r.cost) (B := some ⟨g, 0, none⟩) (d := cap) (Reads.below HG.out hba) hcap
                          have hno3 := (HL.out.below hba).noO
                          have hz3 := (HZ.out.next hba).kept hg3 (by omega)
                          have hs3 : SlAt vN (w.heap.size + 1 ≤ ·) w3 B1 e.l := Reads.other (Reads.below HS2.out hba) hg3 hno3
                          have hd3 := HD'.out.relax hri HDA.out (upd_same _ _ _) HDR.out (.inl rfl) (EndR.le_refl _) (fun f hf => by rw [hOr] at hf; cases hf)
                          have H3 := Lib.hid (And.intro hd3 (And.intro hW3 (And.intro hz3 hs3)))
                          clear hno3 hz3 hs3 hW3 hg3 hd3 hOr
                          have HR3 := Lib.hid hrun3
                          clear hrun3
                          go_wp2_with (at_mapUpdate; refine wpList_store_end _ w3 (by rfl) _ _ _ _ (by rfl) (by exact HR3.out) ?_)
                          go_roundw
                          case rel => exact ⟨i + 1, by omega, by go_num, _, N' + 1, H3.out.1, H3.out.2.1, HBN.out, by omega, H3.out.2.2.1, H3.out.2.2.2, hzb⟩
                          case measure => simp [intOf]; omega
                        | some f =>
                          obtain ⟨B6, d6, hl6, hc6, hs6⟩ := HL.out.lookOok (k := r.frm) (by omega) hOr
                          have hba := (Below.refl wc.heap.size wc).alloc (Nat.le_refl _) (.cells #[.slice B6 f.l.length d6, .int .i64 f.cost] 72)
                          have hel : (e.ext i r.cost).l.length < 1000000 := (by have := HEX.out.1; have := HJ.out.1; omega)
                          have hgl' := Reads.below HG.out hba
                          have hs6' := Reads.below hs6 hba
                          have HOR := Lib.hid hOr
                          clear hOr hs6
                          rcases hbf : (e.ext i r.cost).before f with _ | _
                          · have hd3 := HD'.out.relax hri HDA.out (upd_same _ _ _) HDR.out (g := f) (.inr HOR.out) hbf (fun f' hf => by rw [HOR.out] at hf; injection hf with hf; rw [hf]; exact EndR.le_refl _)
                            have hup : upd O' r.frm (some f) = O' := by
                              funext q
                              unfold upd
                              split
                              · rename_i hq; rw [hq]; exact HOR.out.symm
                              · rfl
                            rw [hup] at hd3
                            have HD3 := Lib.hid hd3
                            clear hd3 hup
                            go_wp2_with (go_at_call 37; refine (before_any (w.heap.size + 1 ≤ ·) (w.heap.size + 1 ≤ ·) (some ⟨g, 0, none⟩) B6 cap d6 (e.ext i r.cost) f _ hgl' hs6' hel).mono ?_; rw [hbf]; rintro x w2 ⟨rfl, hbw2⟩)
                            go_roundw
                            case rel => exact ⟨i + 1, by omega, by go_num, O', N', HD3.out, (HL.out.below hba).below hbw2, HBO'.out, by omega, (HZ.out.next hba).next hbw2, Reads.below (Reads.below HS2.out hba) hbw2, hzb⟩
                            case measure => simp [intOf]; omega
                          · have hd3 := HD'.out.relax hri HDA.out (upd_same _ _ _) HDR.out (.inl rfl) (EndR.le_refl _) (fun f' hf => by rw [HOR.out] at hf; injection hf with hf; rw [← hf]; exact EndR.before_le hbf)
                            have HD3 := Lib.hid hd3
                            clear hd3
                            go_wp2_with (first
                              | (go_at_call 37; refine (before_any (w.heap.size + 1 ≤ ·) (w.heap.size + 1 ≤ ·) (some ⟨g, 0, none⟩) B6 cap d6 (e.ext i r.cost) f _ hgl' hs6' hel).mono ?_; rw [hbf]; rintro x w2 ⟨rfl, hbw2⟩; obtain ⟨w3, hrun3, hW3, hg3⟩ := ((HL.out.below hba).below hbw2).storeO hrm.1 (by omega) hN2 (e := e.ext i r.cost) (B := some ⟨g, 0, none⟩) (d := cap) (Reads.below hgl' hbw2) hcap; have hno3 := ((HL.out.below hba).below hbw2).noO; have HZ3 := Lib.hid (((HZ.out.next hba).next hbw2).kept hg3 (by omega)); have HS3 := Lib.hid (Reads.other (Reads.below (Reads.below HS2.out hba) hbw2) hg3 hno3); have HW3 := Lib.hid hW3; have HR3 := Lib.hid hrun3; clear hrun3 hno3 hW3 hg3; have x02 : w2.cell? ⟨X, 0, none⟩ = some (.int .i64 r.frm) := ((HX.out.next hba).next hbw2).cell 0; have y02 : w2.cell? ⟨Y, 0, none⟩ = some (.slice (some ⟨g, 0, none⟩) (e.l.length + 1) cap) := ((HY.out.next hba).next hbw2).cell 0; have y12 : w2.cell? ⟨Y, 1, none⟩ = some (.int .i64 ((r.cost + e.cost : Nat) : Int)) := ((HY.out.next hba).next hbw2).cell 1)
                              | (at_mapUpdate; refine wpList_store_end _ w3 (by rfl) _ _ _ _ (by rfl) (by exact HR3.out) ?_))
                            go_roundw
                            case rel => exact ⟨i + 1, by omega, by go_num, _, N' + 1, HD3.out, HW3.out, HBN.out, by omega, HZ3.out, HS3.out, hzb⟩
                            case measure => simp [intOf]; omega
                    · have dq : ((r.dst : Int) != (a : Int)) = true := by simp; omega
                      have dq' : ((r.dst : Int) == (a : Int)) = false := by simp; omega
                      have hskip := Lib.hid (HD'.out.skip hri (.inl hda))
                      clear hDr hda
                      go_wp2_with fail
                      go_roundw
                      case rel =>
                        have hb16 := hb15.alloc (by simp) (.cells #[.slice none 0 0, .int .i64 0] 72)
                        exact ⟨i + 1, by omega, by go_num, O', N', hskip.out, HL'.out.below hb16, HBO'.out, by omega, HBZ.out.next hb16, Reads.below HSL.out hb16, hzb⟩
                      case measure => simp [intOf]; omega
                · obtain rfl : i = rs.length := by omega
                  obtain ⟨j1, j2, j3, j4, j5, j6⟩ := HJ.out
                  have hDa : D a = none := (j3.opn a e hOa).2
                  have hjk := cntD_lt hDa ha
                  have hcu := cntD_upd e hDa k
                  rw [if_pos ha, j2] at hcu
                  rw [j2] at hjk
                  have hea := j5 a e hOa
                  have hnew : LeastW k ac A c rs w wr (gk - 1) := ⟨upd D a (some e), O', a, j + 1, N', by omega, hcu, hdij, hLW, fun q f hq => by
                    unfold upd at hq
                    split at hq
                    · injection hq with hq; subst hq; omega
                    · have := j4 q f hq; omega, hBO', by omega⟩
                  have hgk : 1 ≤ gk := by omega
                  clear hdij hLW hBO' hN' hbz hsl j1 j2 j3 j4 j5 j6 hjk hcu hea
                  go_wp2
                  go_roundg (gk - 1)
                  case rel => exact hnew
                  all_goals omega
            · intro q f B d w1 cnt1 hq hOf hlq hcf hsl hER1 hSh1 hlt4 hg1 hs1 hen
              obtain ⟨ia, ib, ic, ie, hiter⟩ := hER.iter
              have hLW1 := HL.out.iter hg1 hlt3 (no_cell_iter hiter)
              have hcnt := hER.left_eq
              clear hiter hER hSh HL hg1 hs1
              go_upto_region 15 with (fail)
              have hba := (Below.refl w1.heap.size w1).alloc (Nat.le_refl _) (.cells #[.slice B f.l.length d, .int .i64 f.cost] 72)
              refine world_gen (fun W => LW k ac A rs.length c w W N D O ∧ EndRange W (w.heap.size + 1 + 1) R N k fO (fun j => left j && !decide (j = q)) cnt1 ∧ Shows (w.heap.size + 1) W fO O ∧ Blk W w1.heap.size 72 #[.slice B f.l.length d, .int .i64 f.cost] ∧ SlAt vN (w.heap.size + 1 ≤ ·) W B f.l)
                ⟨hLW1.below hba, hER1.below hba, hSh1.below hba, Blk.new _ _ _, Reads.below hsl hba⟩ ?_
              clear hLW1 hER1 hSh1 hsl hba hen
              generalize w1.heap.size = Z at *
              rintro W ⟨hLW, hER, hSh, bz, hsl⟩
              have z0 : W.cell? ⟨Z, 0, none⟩ = some (.slice B f.l.length d) := bz.cell 0
              have z1 : W.cell? ⟨Z, 1, none⟩ = some (.int .i64 f.cost) := bz.cell 1
              have hzlt := bz.lt
              have BZ := Lib.hid bz
              have HL := Lib.hid hLW
              have HE := Lib.hid hER
              have HSh := Lib.hid hSh
              have HC := Lib.hid hcnt
              clear bz hLW hER hSh hcnt
              rcases HX.out with ⟨rfl, hall⟩ | ⟨a, e, rfl, ha, hOa, hla, hmin⟩
              · clear HX
                go_wp2_with fail
                go_roundw
                case rel => exact ⟨_, cnt1, SeekW.next HL.out HE.out HSh.out hlt3 hl0 rfl hq hOf (.inl rfl) (fun k' g hk' hkq => by
                  rcases hkq with h | h
                  · have := hall k' (by rw [hk']; rfl); rw [h] at this; cases this
                  · rw [h, hOf] at hk'; injection hk' with hk'; rw [hk']; exact EndR.le_refl _)⟩
                case measure => rw [HE.out.left_eq, HC.out]; omega
              · have HM := Lib.hid hmin
                clear hmin HX
                have da : decide ((a : Int) < 0) = false := by simp
                obtain ⟨B1, d1, hrun1, hc1, hs1⟩ := HL.out.lookO (k := a) (by omega) hOa
                have hfl : f.l.length < 1000000 := (by have := (HJ.out.2.2.2.2.1 q f hOf).1; have := HJ.out.1; omega)
                have hel : e.l.length < 1000000 := (by have := (HJ.out.2.2.2.2.1 a e hOa).1; have := HJ.out.1; omega)
                rcases hb1 : f.before e with _ | _
                · rcases hb2 : e.before f with _ | _
                  · rcases Nat.lt_or_ge q a with hqa | hqa
                    · have dq : decide ((q : Int) < (a : Int)) = true := by simpa using hqa
                      have dq' : decide (q < a) = true := by simpa using hqa
                      clear hqa
                      go_wp2_with (first
                      | (go_at_call 37; refine (before_any (w.heap.size + 1 ≤ ·) (w.heap.size + 1 ≤ ·) B2 B d2 d e f _ hs2 hsl2 hel).mono ?_; rw [hb2]; rintro x w3 ⟨rfl, hbw3⟩)
                      | (go_at_call 37; refine (before_any (w.heap.size + 1 ≤ ·) (w.heap.size + 1 ≤ ·) B B1 d d1 f e _ hsl hs1 hfl).mono ?_; rw [hb1]; rintro x w2 ⟨rfl, hbw2⟩; obtain ⟨B2, d2, hrun2, hc2, hs2⟩ := (HL.out.below hbw2).lookO (k := a) (by omega) hOa; have y0 : w2.cell? ⟨Z, 0, none⟩ = some (.slice B f.l.length d) := (BZ.out.next hbw2).cell 0; have y1 : w2.cell? ⟨Z, 1, none⟩ = some (.int .i64 f.cost) := (BZ.out.next hbw2).cell 1; have hsl2 := Reads.below hsl hbw2))
                      go_roundw
                      case rel => exact ⟨_, cnt1, SeekW.next ((HL.out.below hbw2).below hbw3) ((HE.out.below hbw2).below hbw3) ((HSh.out.below hbw2).below hbw3) hlt3 hl0 rfl hq hOf (.inl rfl) (fun k' g hk' hkq => by
                        rcases hkq with h | h
                        · exact EndR.le_trans hb2 (HM.out k' g hk' h)
                        · rw [h, hOf] at hk'; injection hk' with hk'; rw [hk']; exact EndR.le_refl _)⟩
                      case measure => rw [((HE.out.below hbw2).below hbw3).left_eq, HC.out]; omega
                    · have dq : decide ((q : Int) < (a : Int)) = false := by simpa using hqa
                      have dq' : decide (q < a) = false := by simpa using hqa
                      clear hqa
                      go_wp2_with (first
                      | (go_at_call 37; refine (before_any (w.heap.size + 1 ≤ ·) (w.heap.size + 1 ≤ ·) B2 B d2 d e f _ hs2 hsl2 hel).mono ?_; rw [hb2]; rintro x w3 ⟨rfl, hbw3⟩)
                      | (go_at_call 37; refine (before_any (w.heap.size + 1 ≤ ·) (w.heap.size + 1 ≤ ·) B B1 d d1 f e _ hsl hs1 hfl).mono ?_; rw [hb1]; rintro x w2 ⟨rfl, hbw2⟩; obtain ⟨B2, d2, hrun2, hc2, hs2⟩ := (HL.out.below hbw2).lookO (k := a) (by omega) hOa; have y0 : w2.cell? ⟨Z, 0, none⟩ = some (.slice B f.l.length d) := (BZ.out.next hbw2).cell 0; have y1 : w2.cell? ⟨Z, 1, none⟩ = some (.int .i64 f.cost) := (BZ.out.next hbw2).cell 1; have hsl2 := Reads.below hsl hbw2))
                      go_roundw
                      case rel => exact ⟨_, cnt1, SeekW.next ((HL.out.below hbw2).below hbw3) ((HE.out.below hbw2).below hbw3) ((HSh.out.below hbw2).below hbw3) hlt3 hl0 rfl ha hOa (.inr hla) (fun k' g hk' hkq => by
                        rcases hkq with h | h
                        · exact HM.out k' g hk' h
                        · rw [h, hOf] at hk'; injection hk' with hk'; rw [← hk']; exact hb1)⟩
                      case measure => rw [((HE.out.below hbw2).below hbw3).left_eq, HC.out]; omega
                  · go_wp2_with (first
                      | (go_at_call 37; refine (before_any (w.heap.size + 1 ≤ ·) (w.heap.size + 1 ≤ ·) B2 B d2 d e f _ hs2 hsl2 hel).mono ?_; rw [hb2]; rintro x w3 ⟨rfl, hbw3⟩)
                      | (go_at_call 37; refine (before_any (w.heap.size + 1 ≤ ·) (w.heap.size + 1 ≤ ·) B B1 d d1 f e _ hsl hs1 hfl).mono ?_; rw [hb1]; rintro x w2 ⟨rfl, hbw2⟩; obtain ⟨B2, d2, hrun2, hc2, hs2⟩ := (HL.out.below hbw2).lookO (k := a) (by omega) hOa; have y0 : w2.cell? ⟨Z, 0, none⟩ = some (.slice B f.l.length d) := (BZ.out.next hbw2).cell 0; have y1 : w2.cell? ⟨Z, 1, none⟩ = some (.int .i64 f.cost) := (BZ.out.next hbw2).cell 1; have hsl2 := Reads.below hsl hbw2))
                    go_roundw
                    case rel => exact ⟨_, cnt1, SeekW.next ((HL.out.below hbw2).below hbw3) ((HE.out.below hbw2).below hbw3) ((HSh.out.below hbw2).below hbw3) hlt3 hl0 rfl ha hOa (.inr hla) (fun k' g hk' hkq => by
                      rcases hkq with h | h
                      · exact HM.out k' g hk' h
                      · rw [h, hOf] at hk'; injection hk' with hk'; rw [← hk']; exact hb1)⟩
                    case measure => rw [((HE.out.below hbw2).below hbw3).left_eq, HC.out]; omega
                · go_wp2_with (go_at_call 37; refine (before_any (w.heap.size + 1 ≤ ·) (w.heap.size + 1 ≤ ·) B B1 d d1 f e _ hsl hs1 hfl).mono ?_; rw [hb1]; rintro x w2 ⟨rfl, hbw2⟩)
                  go_roundw
                  case rel => exact ⟨_, cnt1, SeekW.next (HL.out.below hbw2) (HE.out.below hbw2) (HSh.out.below hbw2) hlt3 hl0 rfl hq hOf (.inl rfl) (fun k' g hk' hkq => by
                    rcases hkq with h | h
                    · exact EndR.le_trans (EndR.before_le hb1) (HM.out k' g hk' h)
                    · rw [h, hOf] at hk'; injection hk' with hk'; rw [hk']; exact EndR.le_refl _)⟩
                  case measure => rw [(HE.out.below hbw2).left_eq, HC.out]; omega
end Go.Proofs.Ytpidgkngefkbeaa
