/- What the functions of the translation answer, each as a plain Lean function, and that the code comes to it; for a law: its row. Conditions: none but those that each theorem names. Written by a program of this session (wip/xp). -/
import Derived.Test.YthhmpjapnkilcaaDoorXLdgP1
import Derived.Test.YthhmpjapnkilcaaDoorXLdgP5
import Derived.Test.YthhmpjapnkilcaaDoorGPlace
namespace Go.Proofs.YthhmpjapnkilcaaDoor.XLdg
open Go.RowKit Go.Proofs.YthhmpjapnkilcaaDoorW.PrintWords Go.Proofs.YthhmpjapnkilcaaDoorW.PrintLast Go.Proofs.YthhmpjapnkilcaaDoorW.PrintMore
attribute [local go_sem] max2_int min2_int max_two min_two max_three min_three max_four min_four   -- for this text's walks alone
theorem zx42_0 {p : Prop} (h : p := by (with_reducible repeat (first | refine blk_drewN ?_ _ | refine blk_drew ?_ | refine blk_alloc ?_ _)); exact be.out) : p := h
theorem zx42_2 {p : Prop} (h : p := by repeat (first | (with_reducible first | exact HB.out | apply below_alloc | apply pw_below_drewN | apply below_drew1) | exact HB.out)) : p := h
theorem zx42_1 {p : Prop} (h : p := by repeat (first | (with_reducible first | exact HB.out | apply below_alloc | apply pw_below_drewN | apply below_drew1 | refine below_set ?_ bo.out) | exact HB.out)) : p := h
set_option linter.unusedVariables false
set_option linter.unusedSimpArgs false

/-! ### ledger_Right: function 24 -/
def ledger_Right.l0 : Nat → List (S37) → Int → Int → Int → Int → List (S37) → Option (Bool)
 | 0, _, _, _, _, _, _ => none
 | k + 1, x22, x23, x24, bD, bC, bn => if x24 < x23 then (if 0 ≤ x24 then (if x24 < (x22.length : Int) then ((ledger_Dest_right.f k ((rd_T37 x22 x24).f0) ((rd_T37 x22 x24).f1) ((rd_T37 x22 x24).f2) ((rd_T37 x22 x24).f3) ((rd_T37 x22 x24).f4) ((rd_T37 x22 x24).f5) ((rd_T37 x22 x24).f6) bD bC bn).bind fun bN => (if bN = true then (if x24 ≤ (bn.length : Int) then ((ledger_place.f (bn.take (x24 : Int).toNat) ((rd_T37 x22 x24).f0)).bind fun bm => (if bm ≥ 0 then (none) else (ledger_Right.l0 k x22 x23 (wrap64 (x24 + 1)) bD bC bn))) else (none)) else (none))) else (none)) else (none)) else (some true)
def ledger_Right.f (k : Nat) (bf : Int) (bh : Int) (bb : List (S37)) : Option (Bool) := if bf < 1 then (none) else (if bf > bh then (none) else (if (bb.length : Int) > 4 then (none) else (ledger_Right.l0 k bb (bb.length : Int) 0 bf bh bb)))
def ledger_Right.T6 : Bool × List (List Nat × List Nat) := (true, [([], []), ([], []), ([0, 1], [0, 1]), ([2], [2]), ([3, 2], [3]), ([4], [4]), ([5, 4], [4, 5]), ([4], [4]), ([6, 7, 4], [4, 6, 7]), ([4], [4]), ([9, 4], [4, 9]), ([8, 10, 4, 4], [4, 8, 10]), ([11, 4], [4, 11]), ([4, 12], [4, 12])])
def ledger_Right.B6 : List Nat := [0, 0, 3, 7, 15, 31, 63, 31, 255, 31, 543, 2047, 4095, 8191]
theorem ledger_Right.tab6 : rtab .any (opsOf Tryd.f24 6) = ledger_Right.T6 := by kernel_rfl
theorem ledger_Right.bits6 : waitsOk ledger_Right.T6.2 ledger_Right.B6 = true := by kernel_rfl
set_option maxHeartbeats 8000000 in
set_option maxRecDepth 100000 in
theorem ledger_Right.calls (k : Nat) (bf : Int) (bh : Int) (bM : Option Addr) (bk : Nat) (bb : List (S37)) (r : Bool) (w : World) (bQ : Kd.C k37 w bM bb.length bb) (bS : bb.length ≤ bk) (h : ledger_Right.f k bf bh bb = some r) :
  Calls Tryd.prog 24 #[.agg #[.int .u64 bf, .int .u64 bh, .slice bM bb.length bk]] w fun e w' => e = .returned (.bool r) ∧ Below w.heap.size w w' := by
 have dJ := Tryd.underlying27
 have dI := Tryd.underlying37
 have bL := Aside0.mk bQ
 have bV := Aside0.mk bS
 clear bQ bS
 have HB := Aside0.mk (Below.refl w.heap.size w)
 have H : (if bf < 1 then (none) else (if bf > bh then (none) else (if (bb.length : Int) > 4 then (none) else (ledger_Right.l0 k bb (bb.length : Int) 0 bf bh bb)))) = some r := h
 clear h
 by_cases c2 : bf < 1
 ·rw [if_pos c2] at H
  exact absurd H (by simp)
 rw [if_neg c2] at H
 have dy : decide (bf < 1) = false := decide_eq_false c2
 clear c2
 by_cases c3 : bf > bh
 ·rw [if_pos c3] at H
  exact absurd H (by simp)
 rw [if_neg c3] at H
 have dx : decide (bh < bf) = false := decide_eq_false c3
 clear c3
 by_cases c4 : (bb.length : Int) > 4
 ·rw [if_pos c4] at H
  exact absurd H (by simp)
 rw [if_neg c4] at H
 have dw : decide (4 < (bb.length : Int)) = false := decide_eq_false c4
 have dv : decide (4 < bb.length) = false := decide_eq_false (by omega)
 clear c4
 have H' := Aside0.mk H
 clear H
 go_enter Tryd.func24, Tryd.ntmps24
 go_wp2_with (first | ((with_reducible refine gate_dst (N := 1) rfl ?_); (try (refine gate_guard (by rfl) ?_; dsimp only)); refine box_event ?hg (N := 1) ?hd (cs := #[.int .u64 bf, .int .u64 bh, .slice bM bb.length bk]) (t := 27) ?hr ?_; (case hd => rfl); (case hg => rfl); (case hr => first | (go_simp; done) | (go_simp; rfl)); intro bg hg w5 hbox hb; have be := Aside0.mk (hbox); have dG := Aside0.mk ((by rw [hg]; exact (below_size zx42_2) : w.heap.size ≤ bg)); have bo := Aside0.mk ((by rw [hg]; exact (below_size zx42_2) : w.heap.size ≤ bg)); replace HB := Aside0.mk (below_step zx42_2 hb); clear hb hbox hg; have b5 : w5.cell? ⟨bg, 0, none⟩ = some (.int .u64 bf) := (blk_cell be.out 0).trans rfl; have b4 : w5.cell? ⟨bg, 1, none⟩ = some (.int .u64 bh) := (blk_cell be.out 1).trans rfl; have b3 : w5.cell? ⟨bg, 2, none⟩ = some (.slice bM bb.length bk) := (blk_cell be.out 2).trans rfl; have b2 := blk_frozen be.out 0; have b1 := blk_frozen be.out 1; have b0 := blk_frozen be.out 2))
 go_loopg [24] k (fun kq v24 w' => ∃ (ba : Int), v24 = .int .i64 ba ∧ Aside0 (ledger_Right.l0 kq bb (bb.length : Int) ba bf bh bb = some r) ∧ Aside0 (kq ≤ k) ∧ Aside0 (w'.heap[bg]? = some (.cells #[.int .u64 bf, .int .u64 bh, (.slice bM bb.length bk)] 27 (0, 0))) ∧ Aside0 (Below w.heap.size w w'))
 case atStart => exact ⟨(0), (by first | rfl | (simp; done) | (simp [*]; done)), H', ⟨Nat.le_refl _⟩, ⟨by (with_reducible repeat (first | refine blk_drewN ?_ _ | refine blk_drew ?_ | refine blk_alloc ?_ _)); exact be.out⟩, ⟨by repeat (first | (with_reducible first | exact HB.out | apply below_alloc | apply pw_below_drewN | apply below_drew1 | refine below_set ?_ bo.out) | exact HB.out)⟩⟩
 case round =>
  clear H'
  (try clear c2); (try clear dy); (try clear p2); (try clear c3); (try clear dx); (try clear c4); (try clear dw); (try clear dv); (try clear b5); (try clear b4); (try clear b3); (try clear b2); (try clear b1); (try clear b0)
  obtain ⟨ba, rfl, HA, HK1, be, HB⟩ := hrel
  cases gk with
  | zero => exact absurd HA.out (by simp [ledger_Right.l0])
  | succ k1 => ?_
  have H := HA.out
  clear HA
  simp only [ledger_Right.l0] at H
  by_cases c7 : ba < (bb.length : Int)
  case neg =>
   rw [if_neg c7] at H
   have du : decide (ba < (bb.length : Int)) = false := decide_eq_false c7
   clear c7
   obtain rfl := Option.some.inj H
   go_wp2
   go_ret
   exact ⟨by first | rfl | (simp [errW_none, errW_some] <;> rfl) | (simp [*, errW_none, errW_some] <;> rfl), by repeat (first | (with_reducible first | exact HB.out | apply below_alloc | apply pw_below_drewN | apply below_drew1 | refine below_set ?_ bo.out) | exact HB.out)⟩

  rw [if_pos c7] at H
  have du : decide (ba < (bb.length : Int)) = true := decide_eq_true c7
  clear c7
  by_cases c8 : 0 ≤ ba
  case neg =>
   rw [if_neg c8] at H
   exact absurd H (by simp)
  rw [if_pos c8] at H
  have dL : decide (0 ≤ ba) = true := decide_eq_true c8
  clear c8
  by_cases c9 : ba < (bb.length : Int)
  case neg =>
   rw [if_neg c9] at H
   exact absurd H (by simp)
  rw [if_pos c9] at H
  have dK : decide (ba < (bb.length : Int)) = true := decide_eq_true c9
  clear c9
  replace H := Option.bind_eq_some_iff.mp H
  obtain ⟨bN, dc, H⟩ := H
  replace H : (if bN = true then (if ba ≤ (bb.length : Int) then ((ledger_place.f (bb.take (ba : Int).toNat) ((rd_T37 bb ba).f0)).bind fun bm => (if bm ≥ 0 then (none) else (ledger_Right.l0 k1 bb (bb.length : Int) (wrap64 (ba + 1)) bf bh bb))) else (none)) else (none)) = some r := H
  have A10 := Aside0.mk dc
  clear dc
  by_cases c11 : bN = true
  case neg =>
   replace c11 := Bool.eq_false_iff.mpr c11
   subst c11
   have H1 : (none) = some r := by rw [if_neg (show ¬ (false = true) by decide)] at H; exact H
   clear H
   have H := H1
   clear H1
   exact absurd H (by simp)
  subst c11
  have H1 : (if ba ≤ (bb.length : Int) then ((ledger_place.f (bb.take (ba : Int).toNat) ((rd_T37 bb ba).f0)).bind fun bm => (if bm ≥ 0 then (none) else (ledger_Right.l0 k1 bb (bb.length : Int) (wrap64 (ba + 1)) bf bh bb))) else (none)) = some r := by rw [if_pos rfl] at H; exact H
  clear H
  have H := H1
  clear H1
  have dE := eq_true (of_decide_eq_true (by first | (with_reducible assumption) | assumption) : 0 ≤ ba)
  by_cases c13 : ba ≤ (bb.length : Int)
  case neg =>
   rw [if_neg c13] at H
   exact absurd H (by simp)
  rw [if_pos c13] at H
  have dD := eq_true c13
  have dC : decide (ba ≤ (bb.length : Int)) = true := decide_eq_true c13
  clear c13
  obtain ⟨bK, bB⟩ : ∃ y_ : List (S37), y_ = (bb.take (ba : Int).toNat) := ⟨_, rfl⟩
  replace H : ((ledger_place.f bK ((rd_T37 bb ba).f0)).bind fun bm => (if bm ≥ 0 then (none) else (ledger_Right.l0 k1 bb (bb.length : Int) (wrap64 (ba + 1)) bf bh bb))) = some r := by first | (rw [bB]; with_reducible exact H) | (have H2_ := (Option.bind_some _ _).symm.trans H; rw [bB]; with_reducible exact H2_) | (have H2_ := (Option.bind_some _ _).symm.trans H; with_reducible exact H2_) | with_reducible exact H | (rw [bB]; exact H) | exact H
  have bU := Aside0.mk bB
  clear bB
  replace H := Option.bind_eq_some_iff.mp H
  obtain ⟨bm, db, H⟩ := H
  replace H : (if bm ≥ 0 then (none) else (ledger_Right.l0 k1 bb (bb.length : Int) (wrap64 (ba + 1)) bf bh bb)) = some r := H
  have A14 := Aside0.mk db
  clear db
  by_cases c15 : bm ≥ 0
  ·rw [if_pos c15] at H
   exact absurd H (by simp)
  rw [if_neg c15] at H
  have dB : decide (0 ≤ bm) = false := decide_eq_false c15
  clear c15
  have H' := Aside0.mk H
  clear H
  have bX : 0 ≤ (ba : Int) := of_decide_eq_true (by first | (with_reducible assumption) | assumption)
  have bW : ba < (bb.length : Int) := of_decide_eq_true (by first | (with_reducible assumption) | assumption)
  obtain ⟨bl, bj, bi, dt, bA, bz, bx, bw, bu, br, bq, bG, bH⟩ := at_T37 bL.out ba bX bW
  cases dt
  replace bA := (HB.out.cell (World.block_lt_of_cell? w _ bA)).trans bA
  replace bz := (HB.out.cell (World.block_lt_of_cell? w _ bz)).trans bz
  replace bx := (HB.out.cell (World.block_lt_of_cell? w _ bx)).trans bx
  replace bw := (HB.out.cell (World.block_lt_of_cell? w _ bw)).trans bw
  replace bu := (HB.out.cell (World.block_lt_of_cell? w _ bu)).trans bu
  replace br := (HB.out.cell (World.block_lt_of_cell? w _ br)).trans br
  replace bq := (HB.out.cell (World.block_lt_of_cell? w _ bq)).trans bq
  have bO := Aside0.mk bH
  have bP := Aside0.mk bG
  clear bH bG
  replace bX := eq_true bX
  replace bW := eq_true bW
  try go_wp2_with (first | ((with_reducible refine gate_dst (N := 4) rfl ?_); (try (refine gate_guard (by rfl) ?_; dsimp only)); refine box_event ?hg (N := 4) ?hd (cs := #[.string (⟨#[]⟩ : ByteArray), .int .u64 0, .int .u64 0, .slice none 0 0, .int .u64 0, .int .u64 0, .int .u64 0]) (t := 37) ?hr ?_; (case hd => rfl); (case hg => rfl); (case hr => first | (go_simp; done) | (go_simp; rfl)); intro bc hg w16 hbox hb; have bd := Aside0.mk (hbox); have dF := Aside0.mk ((by rw [hg]; exact (below_size zx42_1) : w.heap.size ≤ bc)); have bI := Aside0.mk ((by rw [hg]; exact (below_size zx42_1) : w.heap.size ≤ bc)); replace HB := Aside0.mk (below_step zx42_1 hb); have bp := Aside0.mk ((by rw [hg]; exact Nat.ne_of_lt (blk_lt (g := bg) (o := .cells #[.int .u64 bf, .int .u64 bh, .slice (some bl) bb.length bk] 27 (0, 0)) zx42_0) : bg ≠ bc)); have bJ := Aside0.mk ((by rw [hg]; exact Nat.ne_of_gt (blk_lt (g := bg) (o := .cells #[.int .u64 bf, .int .u64 bh, .slice (some bl) bb.length bk] 27 (0, 0)) zx42_0) : bc ≠ bg)); replace be := Aside0.mk (blk_below (g := bg) (o := .cells #[.int .u64 bf, .int .u64 bh, .slice (some bl) bb.length bk] 27 (0, 0)) zx42_0 hb); clear hb hbox hg; have dA := bJ.out; have dz := bp.out; have dr : w16.cell? ⟨bc, 0, none⟩ = some (.string (⟨#[]⟩ : ByteArray)) := (blk_cell bd.out 0).trans rfl; have dq : w16.cell? ⟨bc, 1, none⟩ = some (.int .u64 0) := (blk_cell bd.out 1).trans rfl; have dp : w16.cell? ⟨bc, 2, none⟩ = some (.int .u64 0) := (blk_cell bd.out 2).trans rfl; have dn : w16.cell? ⟨bc, 3, none⟩ = some (.slice none 0 0) := (blk_cell bd.out 3).trans rfl; have dm : w16.cell? ⟨bc, 4, none⟩ = some (.int .u64 0) := (blk_cell bd.out 4).trans rfl; have dl : w16.cell? ⟨bc, 5, none⟩ = some (.int .u64 0) := (blk_cell bd.out 5).trans rfl; have dk : w16.cell? ⟨bc, 6, none⟩ = some (.int .u64 0) := (blk_cell bd.out 6).trans rfl; have dj := blk_frozen bd.out 0; have di := blk_frozen bd.out 1; have dh := blk_frozen bd.out 2; have dg := blk_frozen bd.out 3; have df := blk_frozen bd.out 4; have de := blk_frozen bd.out 5; have dd := blk_frozen bd.out 6))
  have n0_ : Aside0 ((((((((w16.setCell ⟨bc, 0, none⟩ (.string ((rd_T37 bb ba).f0))).setCell ⟨bc, 1, none⟩ (.int .u64 ((rd_T37 bb ba).f1))).setCell ⟨bc, 2, none⟩ (.int .u64 ((rd_T37 bb ba).f2))).setCell ⟨bc, 3, none⟩ (.slice bj ((rd_T37 bb ba).f3).length bi)).setCell ⟨bc, 4, none⟩ (.int .u64 ((rd_T37 bb ba).f4))).setCell ⟨bc, 5, none⟩ (.int .u64 ((rd_T37 bb ba).f5))).setCell ⟨bc, 6, none⟩ (.int .u64 ((rd_T37 bb ba).f6))).heap[bg]? = some (.cells #[.int .u64 bf, .int .u64 bh, .slice (some bl) bb.length bk] 27 (0, 0))) := ⟨by (iterate 7 ((with_reducible repeat (first | refine blk_drewN ?_ _ | refine blk_drew ?_ | refine blk_alloc ?_ _)); refine blk_far ?_ bp.out _)); (with_reducible repeat (first | refine blk_drewN ?_ _ | refine blk_drew ?_ | refine blk_alloc ?_ _)); exact be.out⟩
  have n1_ : Aside0 ((((((((w16.setCell ⟨bc, 0, none⟩ (.string ((rd_T37 bb ba).f0))).setCell ⟨bc, 1, none⟩ (.int .u64 ((rd_T37 bb ba).f1))).setCell ⟨bc, 2, none⟩ (.int .u64 ((rd_T37 bb ba).f2))).setCell ⟨bc, 3, none⟩ (.slice bj ((rd_T37 bb ba).f3).length bi)).setCell ⟨bc, 4, none⟩ (.int .u64 ((rd_T37 bb ba).f4))).setCell ⟨bc, 5, none⟩ (.int .u64 ((rd_T37 bb ba).f5))).setCell ⟨bc, 6, none⟩ (.int .u64 ((rd_T37 bb ba).f6))).heap[bc]? = some (.cells #[.string ((rd_T37 bb ba).f0), .int .u64 ((rd_T37 bb ba).f1), .int .u64 ((rd_T37 bb ba).f2), .slice bj ((rd_T37 bb ba).f3).length bi, .int .u64 ((rd_T37 bb ba).f4), .int .u64 ((rd_T37 bb ba).f5), .int .u64 ((rd_T37 bb ba).f6)] 37 (0, 0))) := ⟨by (with_reducible repeat (first | refine blk_drewN ?_ _ | refine blk_drew ?_ | refine blk_alloc ?_ _)); refine blk_put (cs := #[.string ((rd_T37 bb ba).f0), .int .u64 ((rd_T37 bb ba).f1), .int .u64 ((rd_T37 bb ba).f2), .slice bj ((rd_T37 bb ba).f3).length bi, .int .u64 ((rd_T37 bb ba).f4), .int .u64 ((rd_T37 bb ba).f5), .int .u64 0]) ?_ 6 _ rfl; (with_reducible repeat (first | refine blk_drewN ?_ _ | refine blk_drew ?_ | refine blk_alloc ?_ _)); refine blk_put (cs := #[.string ((rd_T37 bb ba).f0), .int .u64 ((rd_T37 bb ba).f1), .int .u64 ((rd_T37 bb ba).f2), .slice bj ((rd_T37 bb ba).f3).length bi, .int .u64 ((rd_T37 bb ba).f4), .int .u64 0, .int .u64 0]) ?_ 5 _ rfl; (with_reducible repeat (first | refine blk_drewN ?_ _ | refine blk_drew ?_ | refine blk_alloc ?_ _)); refine blk_put (cs := #[.string ((rd_T37 bb ba).f0), .int .u64 ((rd_T37 bb ba).f1), .int .u64 ((rd_T37 bb ba).f2), .slice bj ((rd_T37 bb ba).f3).length bi, .int .u64 0, .int .u64 0, .int .u64 0]) ?_ 4 _ rfl; (with_reducible repeat (first | refine blk_drewN ?_ _ | refine blk_drew ?_ | refine blk_alloc ?_ _)); refine blk_put (cs := #[.string ((rd_T37 bb ba).f0), .int .u64 ((rd_T37 bb ba).f1), .int .u64 ((rd_T37 bb ba).f2), .slice none 0 0, .int .u64 0, .int .u64 0, .int .u64 0]) ?_ 3 _ rfl; (with_reducible repeat (first | refine blk_drewN ?_ _ | refine blk_drew ?_ | refine blk_alloc ?_ _)); refine blk_put (cs := #[.string ((rd_T37 bb ba).f0), .int .u64 ((rd_T37 bb ba).f1), .int .u64 0, .slice none 0 0, .int .u64 0, .int .u64 0, .int .u64 0]) ?_ 2 _ rfl; (with_reducible repeat (first | refine blk_drewN ?_ _ | refine blk_drew ?_ | refine blk_alloc ?_ _)); refine blk_put (cs := #[.string ((rd_T37 bb ba).f0), .int .u64 0, .int .u64 0, .slice none 0 0, .int .u64 0, .int .u64 0, .int .u64 0]) ?_ 1 _ rfl; (with_reducible repeat (first | refine blk_drewN ?_ _ | refine blk_drew ?_ | refine blk_alloc ?_ _)); refine blk_put (cs := #[.string (⟨#[]⟩ : ByteArray), .int .u64 0, .int .u64 0, .slice none 0 0, .int .u64 0, .int .u64 0, .int .u64 0]) ?_ 0 _ rfl; (with_reducible repeat (first | refine blk_drewN ?_ _ | refine blk_drew ?_ | refine blk_alloc ?_ _)); exact bd.out⟩
  have n2_ : Aside0 (Below w.heap.size w (((((((w16.setCell ⟨bc, 0, none⟩ (.string ((rd_T37 bb ba).f0))).setCell ⟨bc, 1, none⟩ (.int .u64 ((rd_T37 bb ba).f1))).setCell ⟨bc, 2, none⟩ (.int .u64 ((rd_T37 bb ba).f2))).setCell ⟨bc, 3, none⟩ (.slice bj ((rd_T37 bb ba).f3).length bi)).setCell ⟨bc, 4, none⟩ (.int .u64 ((rd_T37 bb ba).f4))).setCell ⟨bc, 5, none⟩ (.int .u64 ((rd_T37 bb ba).f5))).setCell ⟨bc, 6, none⟩ (.int .u64 ((rd_T37 bb ba).f6)))) := ⟨by repeat (first | (with_reducible first | exact HB.out | apply below_alloc | apply pw_below_drewN | apply below_drew1 | refine below_set ?_ bo.out | refine below_set ?_ bI.out) | exact HB.out)⟩
  (try clear be)
  (try clear bd)
  (try clear HB)
  generalize (((((((w16.setCell ⟨bc, 0, none⟩ (.string ((rd_T37 bb ba).f0))).setCell ⟨bc, 1, none⟩ (.int .u64 ((rd_T37 bb ba).f1))).setCell ⟨bc, 2, none⟩ (.int .u64 ((rd_T37 bb ba).f2))).setCell ⟨bc, 3, none⟩ (.slice bj ((rd_T37 bb ba).f3).length bi)).setCell ⟨bc, 4, none⟩ (.int .u64 ((rd_T37 bb ba).f4))).setCell ⟨bc, 5, none⟩ (.int .u64 ((rd_T37 bb ba).f5))).setCell ⟨bc, 6, none⟩ (.int .u64 ((rd_T37 bb ba).f6))) = w19 at n0_ n1_ n2_ ⊢
  have be := n0_
  have bd := n1_
  have HB := n2_
  clear n0_ n1_ n2_
  replace be := Aside0.mk (blk_drew be.out)
  replace bd := Aside0.mk (blk_drew bd.out)
  replace HB := Aside0.mk (below_drew1 HB.out)
  refine start_ (n := 14) (S := fun w' => w'.cell? ⟨bc, 0, none⟩ = some (.string ((rd_T37 bb ba).f0)) ∧ w'.cell? ⟨bc, 1, none⟩ = some (.int .u64 ((rd_T37 bb ba).f1)) ∧ w'.cell? ⟨bc, 2, none⟩ = some (.int .u64 ((rd_T37 bb ba).f2)) ∧ w'.cell? ⟨bc, 3, none⟩ = some (.slice bj ((rd_T37 bb ba).f3).length bi) ∧ w'.cell? ⟨bc, 4, none⟩ = some (.int .u64 ((rd_T37 bb ba).f4)) ∧ w'.cell? ⟨bc, 5, none⟩ = some (.int .u64 ((rd_T37 bb ba).f5)) ∧ w'.cell? ⟨bc, 6, none⟩ = some (.int .u64 ((rd_T37 bb ba).f6)) ∧ w'.cell? ⟨bg, 0, none⟩ = some (.int .u64 bf) ∧ w'.cell? ⟨bg, 1, none⟩ = some (.int .u64 bh) ∧ w'.cell? ⟨bg, 2, none⟩ = some (.slice (some bl) bb.length bk)) (ds := []) #[Ff,Ff,Ff,Ff,Ff,Ff,Ff,Ff,Ff,Ff,Ff,Ff,Ff,Ff] (by kernel_rfl) rfl rfl ⟨(blk_cell bd.out 0).trans rfl, (blk_cell bd.out 1).trans rfl, (blk_cell bd.out 2).trans rfl, (blk_cell bd.out 3).trans rfl, (blk_cell bd.out 4).trans rfl, (blk_cell bd.out 5).trans rfl, (blk_cell bd.out 6).trans rfl, (blk_cell be.out 0).trans rfl, (blk_cell be.out 1).trans rfl, (blk_cell be.out 2).trans rfl⟩ (fun hHeld => ?_); refine with_tabW ledger_Right.tab6 ledger_Right.bits6 (fun HT_ HW_ => ?_)
  generalize w19.drew = w20 at be bd HB hHeld ⊢
  refine take_ (i := 0) (N := some 29) (v := ?_) (a' := ?_) #[Tt,Ff,Ff,Ff,Ff,Ff,Ff,Ff,Ff,Ff,Ff,Ff,Ff,Ff] rfl rfl (take_ofW HT_.out HW_.out (by kernel_rfl)) (fun _ _ _ h => h) (Or.inl ⟨by rfl, ?_⟩) hHeld ?_ ?_
  rotate_left
  ·rintro w' ⟨s0, s1, s2, s3, s4, s5, s6, s7, s8, s9⟩
   go_simp
   with_reducible rfl
  rotate_left
  ·simp only [Act.put, List.setIfInBounds_toArray, List.set_cons_zero, List.set_cons_succ, i64_w, i32_w]
   rfl
  refine take_ (i := 1) (N := some 30) (v := ?_) (a' := ?_) #[Tt,Tt,Ff,Ff,Ff,Ff,Ff,Ff,Ff,Ff,Ff,Ff,Ff,Ff] rfl rfl (take_ofW HT_.out HW_.out (by kernel_rfl)) (fun _ _ _ h => h) (Or.inl ⟨by rfl, ?_⟩) hHeld ?_ ?_
  rotate_left
  ·rintro w' ⟨s0, s1, s2, s3, s4, s5, s6, s7, s8, s9⟩
   go_simp
   with_reducible rfl
  rotate_left
  ·simp only [Act.put, List.setIfInBounds_toArray, List.set_cons_zero, List.set_cons_succ, i64_w, i32_w]
   rfl
  refine one_ (i := 2) (N := some 31) #[Tt,Tt,Tt,Ff,Ff,Ff,Ff,Ff,Ff,Ff,Ff,Ff,Ff,Ff] rfl rfl (one_of HT_.out (by kernel_rfl)) (by decide) (fun K hK => ?_)
  refine goes_ Tryd.func38 (by kernel_rfl) rfl #[.agg #[.string ((rd_T37 bb ba).f0), .int .u64 ((rd_T37 bb ba).f1), .int .u64 ((rd_T37 bb ba).f2), .slice bj ((rd_T37 bb ba).f3).length bi, .int .u64 ((rd_T37 bb ba).f4), .int .u64 ((rd_T37 bb ba).f5), .int .u64 ((rd_T37 bb ba).f6)], .agg #[.int .u64 bf, .int .u64 bh, .slice (some bl) bb.length bk]] (by rfl) rfl rfl (by (try simp only [List.map_toArray, List.map_cons, List.map_nil]); first | done | rfl | (simp only [List.length_drop, List.length_take]; rfl)) ?_
  with_reducible refine (ledger_Dest_right.calls k1 ((rd_T37 bb ba).f0) ((rd_T37 bb ba).f1) ((rd_T37 bb ba).f2) _ _ ((rd_T37 bb ba).f3) ((rd_T37 bb ba).f4) ((rd_T37 bb ba).f5) ((rd_T37 bb ba).f6) bf bh _ _ bb true _ ?side1 ?side2 ?side3 ?side4 A10.out).mono ?_
  (case side1 => repeat (first | exact (Kd.C_below bO.out HB.out) | (with_reducible refine Kd.C_alloc ?_ _) | (with_reducible refine Kd.C_drewN ?_ _) | (with_reducible refine Kd.C_drew ?_)))
  (case side2 => exact bP.out)
  (case side3 => repeat (first | exact (Kd.C_below bL.out HB.out) | (with_reducible refine Kd.C_alloc ?_ _) | (with_reducible refine Kd.C_drewN ?_ _) | (with_reducible refine Kd.C_drew ?_)))
  (case side4 => exact bV.out)
  rintro e w21 ⟨rfl, hb⟩
  refine ⟨_, rfl, ?_⟩
  replace be := Aside0.mk (blk_below (g := bg) (o := .cells #[.int .u64 bf, .int .u64 bh, .slice (some bl) bb.length bk] 27 (0, 0)) zx42_0 hb)
  replace bd := Aside0.mk (blk_below (g := bc) (o := .cells #[.string ((rd_T37 bb ba).f0), .int .u64 ((rd_T37 bb ba).f1), .int .u64 ((rd_T37 bb ba).f2), .slice bj ((rd_T37 bb ba).f3).length bi, .int .u64 ((rd_T37 bb ba).f4), .int .u64 ((rd_T37 bb ba).f5), .int .u64 ((rd_T37 bb ba).f6)] 37 (0, 0)) (by (with_reducible repeat (first | refine blk_drewN ?_ _ | refine blk_drew ?_ | refine blk_alloc ?_ _)); exact bd.out) hb)
  replace HB := Aside0.mk (below_step (by repeat (first | (with_reducible first | exact HB.out | apply below_alloc | apply pw_below_drewN | apply below_drew1 | refine below_set ?_ bo.out | refine below_set ?_ bI.out) | exact HB.out)) hb)
  (try clear hb)
  (try clear hb2)
  (try clear hk)
  (try clear hi)
  have q22 : (ba : Int) ≤ ((bb.length : Int) : Int) := of_decide_eq_true (by first | (with_reducible assumption) | assumption)
  obtain ⟨dH, bR, _, b7, _⟩ := info_parts info37
  have bE : bb.length ≤ bk := bV.out
  have b8 : Kd.C k37 _ (some bl) bb.length bb := bL.out
  have b6 := cut_to (P := Tryd.prog) 25 37 .i64 Tryd.underlying25 bR (some bl) bb.length bk ba (of_decide_eq_true (by first | (with_reducible assumption) | assumption)) q22 bE
  have bZ := Kd.C_take (m := (ba : Int).toNat) b8 (by omega)
  have bY : bK.length = (ba : Int).toNat := (by rw [bU.out, List.length_take]; omega)
  rw [← bU.out] at bZ
  rw [← bY] at b6
  have b9 := Aside0.mk bZ
  have da := Aside0.mk (show bK.length ≤ bk from by omega)
  clear bZ b8 bE bR b7
  have dM := Aside0.mk bY
  clear bY
  replace q22 := eq_true q22
  refine hK.out _ _ ⟨(blk_cell bd.out 0).trans rfl, (blk_cell bd.out 1).trans rfl, (blk_cell bd.out 2).trans rfl, (blk_cell bd.out 3).trans rfl, (blk_cell bd.out 4).trans rfl, (blk_cell bd.out 5).trans rfl, (blk_cell bd.out 6).trans rfl, (blk_cell be.out 0).trans rfl, (blk_cell be.out 1).trans rfl, (blk_cell be.out 2).trans rfl⟩ (fun hHeld => ?_)
  clear hK K
  refine norm_ (a' := ?_) ?_ ?_
  rotate_left
  ·show Act.put _ (some 31) _ = _
   simp only [Act.put, List.setIfInBounds_toArray, List.set_cons_zero, List.set_cons_succ, i64_w, i32_w]
   rfl
  refine pp_ 3 (some 32) HT_.out ?_
  refine pp_ 4 (some 33) HT_.out ?_
  refine pp_ 5 (some 34) HT_.out ?_
  refine pp_ 7 (some 36) HT_.out ?_
  refine pp_ 9 (some 38) HT_.out ?_
  refine take_ (i := 6) (N := some 35) (v := ?_) (a' := ?_) #[Tt,Tt,Tt,Tt,Tt,Tt,Tt,Tt,Ff,Tt,Ff,Ff,Ff,Ff] rfl rfl (take_ofW HT_.out HW_.out (by kernel_rfl)) (fun _ _ _ h => h) (Or.inl ⟨by rfl, ?_⟩) hHeld ?_ ?_
  rotate_left
  ·rintro w' ⟨s0, s1, s2, s3, s4, s5, s6, s7, s8, s9⟩
   go_simp
   with_reducible rfl
  rotate_left
  ·simp only [Act.put, List.setIfInBounds_toArray, List.set_cons_zero, List.set_cons_succ, i64_w, i32_w]
   rfl
  refine pp_ 8 (some 37) HT_.out ?_
  refine take_ (i := 10) (N := some 39) (v := ?_) (a' := ?_) #[Tt,Tt,Tt,Tt,Tt,Tt,Tt,Tt,Tt,Tt,Tt,Ff,Ff,Ff] rfl rfl (take_ofW HT_.out HW_.out (by kernel_rfl)) (fun _ _ _ h => h) (Or.inl ⟨by rfl, ?_⟩) hHeld ?_ ?_
  rotate_left
  ·rintro w' ⟨s0, s1, s2, s3, s4, s5, s6, s7, s8, s9⟩
   go_simp
   with_reducible rfl
  rotate_left
  ·simp only [Act.put, List.setIfInBounds_toArray, List.set_cons_zero, List.set_cons_succ, i64_w, i32_w]
   rfl
  refine one_ (i := 11) (N := some 40) #[Tt,Tt,Tt,Tt,Tt,Tt,Tt,Tt,Tt,Tt,Tt,Tt,Ff,Ff] rfl rfl (one_of HT_.out (by kernel_rfl)) (by decide) (fun K hK => ?_)
  refine goes_ Tryd.func31 (by kernel_rfl) rfl #[.slice (some bl) bK.length bk, .string ((rd_T37 bb ba).f0)] (by rfl) rfl rfl (by (try simp only [List.map_toArray, List.map_cons, List.map_nil]); first | done | rfl | (simp only [List.length_drop, List.length_take]; rfl)) ?_
  with_reducible refine (ledger_place.calls _ _ bK ((rd_T37 bb ba).f0) bm _ ?side1 ?side2 A14.out).mono ?_
  (case side1 => repeat (first | exact (Kd.C_below b9.out HB.out) | (with_reducible refine Kd.C_alloc ?_ _) | (with_reducible refine Kd.C_drewN ?_ _) | (with_reducible refine Kd.C_drew ?_)))
  (case side2 => exact da.out)
  rintro e w23 ⟨rfl, hb⟩
  refine ⟨_, rfl, ?_⟩
  replace be := Aside0.mk (blk_below (g := bg) (o := .cells #[.int .u64 bf, .int .u64 bh, .slice (some bl) bb.length bk] 27 (0, 0)) zx42_0 hb)
  replace bd := Aside0.mk (blk_below (g := bc) (o := .cells #[.string ((rd_T37 bb ba).f0), .int .u64 ((rd_T37 bb ba).f1), .int .u64 ((rd_T37 bb ba).f2), .slice bj ((rd_T37 bb ba).f3).length bi, .int .u64 ((rd_T37 bb ba).f4), .int .u64 ((rd_T37 bb ba).f5), .int .u64 ((rd_T37 bb ba).f6)] 37 (0, 0)) (by (with_reducible repeat (first | refine blk_drewN ?_ _ | refine blk_drew ?_ | refine blk_alloc ?_ _)); exact bd.out) hb)
  replace HB := Aside0.mk (below_step (by repeat (first | (with_reducible first | exact HB.out | apply below_alloc | apply pw_below_drewN | apply below_drew1 | refine below_set ?_ bo.out | refine below_set ?_ bI.out) | exact HB.out)) hb)
  (try clear hb)
  (try clear hb2)
  (try clear hk)
  (try clear hi)
  refine hK.out _ _ ⟨(blk_cell bd.out 0).trans rfl, (blk_cell bd.out 1).trans rfl, (blk_cell bd.out 2).trans rfl, (blk_cell bd.out 3).trans rfl, (blk_cell bd.out 4).trans rfl, (blk_cell bd.out 5).trans rfl, (blk_cell bd.out 6).trans rfl, (blk_cell be.out 0).trans rfl, (blk_cell be.out 1).trans rfl, (blk_cell be.out 2).trans rfl⟩ (fun hHeld => ?_)
  clear hK K
  refine norm_ (a' := ?_) ?_ ?_
  rotate_left
  ·show Act.put _ (some 40) _ = _
   simp only [Act.put, List.setIfInBounds_toArray, List.set_cons_zero, List.set_cons_succ, i64_w, i32_w]
   rfl
  refine pp_ 12 (some 41) HT_.out ?_
  refine pp_ 13 (some 42) HT_.out ?_
  refine done_ (done_of HT_.out (by kernel_rfl)) ?_
  try go_wp2
  go_roundg k1
  case measure => have := HK1.out; omega
  case rel => exact ⟨(wrap64 (ba + 1)), (by first | rfl | (simp; done) | (simp [*]; done)), H', ⟨by have := HK1.out; omega⟩, ⟨by (with_reducible repeat (first | refine blk_drewN ?_ _ | refine blk_drew ?_ | refine blk_alloc ?_ _)); exact be.out⟩, ⟨by repeat (first | (with_reducible first | exact HB.out | apply below_alloc | apply pw_below_drewN | apply below_drew1 | refine below_set ?_ bo.out | refine below_set ?_ bI.out) | exact HB.out)⟩⟩
end Go.Proofs.YthhmpjapnkilcaaDoor.XLdg
