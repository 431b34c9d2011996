/- Texts of this seat, in one. Conditions: those that each theorem names. -/
import Derived.Test.YtmbigoeldobaiaaDoorXMrkP1
import Derived.Test.YtmbigoeldobaiaaDoorXMrkP2
import Derived.Test.YtmbigoeldobaiaaDoorGPlace
import Derived.Test.YtmbigoeldobaiaaDoorGClone
import Derived.Test.YtmbigoeldobaiaaDoorGLabelName
section
/- What the functions of the translation answer, each as a plain Lean function, and that the code comes to it; for a law: its row. Conditions: none but those that each theorem names. Written by a program of this session (wip/xp). -/
namespace Go.Proofs.YtmbigoeldobaiaaDoor.XMrk
open Go.RowKit Go.Proofs.YtmbigoeldobaiaaDoorW.PrintWords Go.Proofs.YtmbigoeldobaiaaDoorW.PrintLast Go.Proofs.YtmbigoeldobaiaaDoorW.PrintMore
attribute [local go_sem] max2_int min2_int max_two min_two max_three min_three max_four min_four   -- for this text's walks alone
theorem cx4_bc3 {w : World} {g : Nat} {t : TypeId} {x0 x1 x2 : Value} (h : w.heap[g]? = some (.cells #[x0, x1, x2] t (0, 0))) : w.cell? ⟨g, 0, none⟩ = some x0 ∧ w.cell? ⟨g, 1, none⟩ = some x1 ∧ w.cell? ⟨g, 2, none⟩ = some x2 ∧ w.frozen? ⟨g, 0, none⟩ = false ∧ w.frozen? ⟨g, 1, none⟩ = false ∧ w.frozen? ⟨g, 2, none⟩ = false :=
 ⟨(blk_cell h 0).trans rfl, (blk_cell h 1).trans rfl, (blk_cell h 2).trans rfl, blk_frozen h 0, blk_frozen h 1, blk_frozen h 2⟩
theorem zx4_4 {p : Prop} (h : p := by first | (with_reducible assumption) | assumption) : p := h
theorem zx4_0 {p : Prop} (h : p := by (with_reducible repeat (first | refine blk_drewN ?_ _ | refine blk_drew ?_ | refine blk_alloc ?_ _)); exact be.out) : p := h
theorem zx4_5 {p : Prop} (h : p := by (with_reducible repeat (first | refine blk_drewN ?_ _ | refine blk_drew ?_ | refine blk_alloc ?_ _)); exact bd.out) : p := h
theorem zx4_6 {p : Prop} (h : p := by repeat (first | (with_reducible first | exact HB.out | apply below_alloc | apply pw_below_drewN | apply below_drew1) | exact HB.out)) : p := h
theorem zx4_3 {p : Prop} (h : p := by (try simp only [List.map_toArray, List.map_cons, List.map_nil]); first | done | rfl | (simp only [List.length_drop, List.length_take]; rfl)) : p := h
theorem zx4_1 {p : Prop} (h : p := by repeat (first | (with_reducible first | exact HB.out | apply below_alloc | apply pw_below_drewN | apply below_drew1 | refine below_set ?_ bB.out) | exact HB.out)) : p := h
theorem zx4_2 {p : Prop} (h : p := by repeat (first | (with_reducible first | exact HB.out | apply below_alloc | apply pw_below_drewN | apply below_drew1 | refine below_set ?_ bB.out | refine below_set ?_ bH.out) | exact HB.out)) : p := h
set_option linter.unusedVariables false
set_option linter.unusedSimpArgs false

/-! ### ledger_Right: function 15 -/
mutual
def ledger_Right.j0 : Nat → Bool → Int → Int → List (S55) → Option (Bool)
 | 0, _, _, _, _ => none
 | k + 1, x20, bK, bJ, bx => if x20 = true then (some false) else (ledger_Right.l0 k bx (bx.length : Int) 0 bK bJ bx)
def ledger_Right.l0 : Nat → List (S55) → Int → Int → Int → Int → List (S55) → Option (Bool)
 | 0, _, _, _, _, _, _ => none
 | k + 1, x22, x23, x24, bK, bJ, bx => if x24 < x23 then (if 0 ≤ x24 then (if x24 < (x22.length : Int) then ((ledger_Dest_right.f k ((rd_T55 x22 x24).f0) ((rd_T55 x22 x24).f1) ((rd_T55 x22 x24).f2) ((rd_T55 x22 x24).f3) ((rd_T55 x22 x24).f4) ((rd_T55 x22 x24).f5) ((rd_T55 x22 x24).f6) bK bJ bx).bind fun di => (if di = true then (if x24 ≤ (bx.length : Int) then ((ledger_place.f (bx.take (x24 : Int).toNat) ((rd_T55 x22 x24).f0)).bind fun bD => (if bD ≥ 0 then (some false) else (ledger_Right.l0 k x22 x23 (wrap64 (x24 + 1)) bK bJ bx))) else (none)) else (some false))) else (none)) else (none)) else (some true)
end
def ledger_Right.f (k : Nat) (bh : Int) (bj : Int) (bb : List (S55)) : Option (Bool) := if bh < 1 then (ledger_Right.j0 k true bh bj bb) else (if bh > bj then (ledger_Right.j0 k true bh bj bb) else (ledger_Right.j0 k (decide ((bb.length : Int) > 4)) bh bj bb))
def ledger_Right.T6 : Bool × List (List Nat × List Nat) := (true, [([], []), ([], []), ([0, 1], [0, 1]), ([2], [2]), ([3, 2], [3]), ([4], [4]), ([5, 4], [4, 5]), ([4], [4]), ([6, 7, 4], [4, 6, 7]), ([4], [4]), ([9, 4], [4, 9]), ([8, 10, 4, 4], [4, 8, 10]), ([11, 4], [4, 11]), ([4, 12], [4, 12])])
def ledger_Right.B6 : List Nat := [0, 0, 3, 7, 15, 31, 63, 31, 255, 31, 543, 2047, 4095, 8191]
theorem ledger_Right.tab6 : rtab .any (opsOf Tryd.f15 6) = ledger_Right.T6 := by kernel_rfl
theorem ledger_Right.bits6 : waitsOk ledger_Right.T6.2 ledger_Right.B6 = true := by kernel_rfl
set_option maxHeartbeats 8000000 in
set_option maxRecDepth 100000 in
theorem ledger_Right.calls (k : Nat) (bh : Int) (bj : Int) (dh : Option Addr) (bl : Nat) (bb : List (S55)) (r : Bool) (w : World) (dq : Kd.C k55 w dh bb.length bb) (du : bb.length ≤ bl) (h : ledger_Right.f k bh bj bb = some r) :
  Calls Tryd.prog 15 #[.agg #[.int .u64 bh, .int .u64 bj, .slice dh bb.length bl]] w fun e w' => e = .returned (.bool r) ∧ Below w.heap.size w w' := by
 have gJ := Tryd.underlying25
 have gI := Tryd.underlying55
 have bI := Aside0.mk dq
 have bP := Aside0.mk du
 clear dq du
 have HB := Aside0.mk (Below.refl w.heap.size w)
 have H : (if bh < 1 then (ledger_Right.j0 k true bh bj bb) else (if bh > bj then (ledger_Right.j0 k true bh bj bb) else (ledger_Right.j0 k (decide ((bb.length : Int) > 4)) bh bj bb))) = some r := h
 clear h
 have HC2 := Aside0.mk H
 clear H
 go_enter Tryd.func15, Tryd.ntmps15
 go_upto_region 1 with (first | ((with_reducible refine gate_dst (N := 1) rfl ?_); (try (refine gate_guard (by rfl) ?_; dsimp only)); refine box_event ?hg (N := 1) ?hd (cs := #[.int .u64 bh, .int .u64 bj, .slice dh bb.length bl]) (t := 25) ?hr ?_; (case hd => rfl); (case hg => rfl); (case hr => first | (go_simp; done) | (go_simp; rfl)); intro bi hg w3 hbox hb; have be := Aside0.mk (hbox); have gF := Aside0.mk ((by rw [hg]; exact (below_size zx4_6) : w.heap.size ≤ bi)); have bB := Aside0.mk ((by rw [hg]; exact (below_size zx4_6) : w.heap.size ≤ bi)); replace HB := Aside0.mk (below_step zx4_6 hb); clear hb hbox hg))
 (try simp only [Act.put, List.setIfInBounds_toArray, List.set_cons_zero, List.set_cons_succ])
 go_cut [20] (fun v20 wc => ∃ (kq : Nat) (bR : Bool), v20 = .bool bR ∧ Aside0 (ledger_Right.j0 kq bR bh bj bb = some r) ∧ Aside0 (kq ≤ k) ∧ Aside0 (wc.heap[bi]? = some (.cells #[.int .u64 bh, .int .u64 bj, (.slice dh bb.length bl)] 25 (0, 0))) ∧ Aside0 (Below w.heap.size w wc))
 case first =>
  have H := HC2.out
  clear HC2
  by_cases c4 : bh < 1
  ·rw [if_pos c4] at H
   have bQ : decide (bh < 1) = true := decide_eq_true c4
   clear c4
   (first | rw [bQ] | (simp only [i64_w, i32_w]; rw [bQ]) | skip)
   have H' := Aside0.mk H
   clear H
   obtain ⟨dd, dc, db, b4, b3, b2⟩ := cx4_bc3 be.out
   go_wp2
   go_meet
   case rel => exact ⟨_, (true), (by first | rfl | (simp; done) | (simp [*]; done)), H', ⟨by first | omega | exact Nat.le_refl _⟩, ⟨by (with_reducible repeat (first | refine blk_drewN ?_ _ | refine blk_drew ?_ | refine blk_alloc ?_ _)); exact be.out⟩, ⟨by repeat (first | (with_reducible first | exact HB.out | apply below_alloc | apply pw_below_drewN | apply below_drew1 | refine below_set ?_ bB.out) | exact HB.out)⟩⟩
  rw [if_neg c4] at H
  have bQ : decide (bh < 1) = false := decide_eq_false c4
  clear c4
  (first | rw [bQ] | (simp only [i64_w, i32_w]; rw [bQ]) | skip)
  by_cases c6 : bh > bj
  ·rw [if_pos c6] at H
   have dC : decide (bj < bh) = true := decide_eq_true c6
   clear c6
   have H' := Aside0.mk H
   clear H
   obtain ⟨da, b9, b8, b1, b0, bZ⟩ := cx4_bc3 be.out
   go_wp2
   go_meet
   case rel => exact ⟨_, (true), (by first | rfl | (simp; done) | (simp [*]; done)), H', ⟨by first | omega | exact Nat.le_refl _⟩, ⟨by (with_reducible repeat (first | refine blk_drewN ?_ _ | refine blk_drew ?_ | refine blk_alloc ?_ _)); exact be.out⟩, ⟨by repeat (first | (with_reducible first | exact HB.out | apply below_alloc | apply pw_below_drewN | apply below_drew1 | refine below_set ?_ bB.out) | exact HB.out)⟩⟩
  rw [if_neg c6] at H
  have dC : decide (bj < bh) = false := decide_eq_false c6
  clear c6
  have H' := Aside0.mk H
  clear H
  obtain ⟨b7, b6, b5, bY, bX, bW⟩ := cx4_bc3 be.out
  go_wp2
  go_meet
  case rel => exact ⟨_, (decide ((bb.length : Int) > 4)), (by first | rfl | (simp; done) | (simp [*]; done)), H', ⟨by first | omega | exact Nat.le_refl _⟩, ⟨by (with_reducible repeat (first | refine blk_drewN ?_ _ | refine blk_drew ?_ | refine blk_alloc ?_ _)); exact be.out⟩, ⟨by repeat (first | (with_reducible first | exact HB.out | apply below_alloc | apply pw_below_drewN | apply below_drew1 | refine below_set ?_ bB.out) | exact HB.out)⟩⟩
 case rest =>
  clear HC2
  (try clear c1); (try clear p2); (try clear c4); (try clear bQ); (try clear c6); (try clear dC); (try clear dd); (try clear dc); (try clear db); (try clear da); (try clear b9); (try clear b8); (try clear b7); (try clear b6); (try clear b5); (try clear b4); (try clear b3); (try clear b2); (try clear b1); (try clear b0); (try clear bZ); (try clear bY); (try clear bX); (try clear bW)
  obtain ⟨kq, bR, rfl, HA, HJ1, be, HB⟩ := hcut
  cases kq with
  | zero => exact absurd HA.out (by simp [ledger_Right.j0])
  | succ kj1 => ?_
  have H := HA.out
  clear HA
  simp only [ledger_Right.j0] at H
  by_cases c9 : bR = true
  ·subst c9
   have H1 : (some false) = some r := by rw [if_pos rfl] at H; exact H
   clear H
   have H := H1
   clear H1
   obtain rfl := Option.some.inj H
   go_wp2
   go_ret
   exact ⟨by first | rfl | (simp [errW_none, errW_some] <;> rfl) | (simp [*, errW_none, errW_some] <;> rfl), by repeat (first | (with_reducible first | exact HB.out | apply below_alloc | apply pw_below_drewN | apply below_drew1 | refine below_set ?_ bB.out) | exact HB.out)⟩
  replace c9 := Bool.eq_false_iff.mpr c9
  subst c9
  have H1 : (ledger_Right.l0 kj1 bb (bb.length : Int) 0 bh bj bb) = some r := by rw [if_neg (show ¬ (false = true) by decide)] at H; exact H
  clear H
  have H := H1
  clear H1
  have H' := Aside0.mk H
  clear H
  obtain ⟨dp, dn, dm, dl, dk, dj⟩ := cx4_bc3 be.out
  go_wp2
  go_loopg [24] kj1 (fun kq v24 w' => ∃ (ba : Int), v24 = .int .i64 ba ∧ Aside0 (ledger_Right.l0 kq bb (bb.length : Int) ba bh bj bb = some r) ∧ Aside0 (kq ≤ kj1) ∧ Aside0 (w'.heap[bi]? = some (.cells #[.int .u64 bh, .int .u64 bj, (.slice dh bb.length bl)] 25 (0, 0))) ∧ Aside0 (Below w.heap.size w w'))
  case atStart => exact ⟨(0), (by first | rfl | (simp; done) | (simp [*]; done)), H', ⟨Nat.le_refl _⟩, ⟨by (with_reducible repeat (first | refine blk_drewN ?_ _ | refine blk_drew ?_ | refine blk_alloc ?_ _)); exact be.out⟩, ⟨by repeat (first | (with_reducible first | exact HB.out | apply below_alloc | apply pw_below_drewN | apply below_drew1 | refine below_set ?_ bB.out) | exact HB.out)⟩⟩
  case round =>
   clear H'
   (try clear c1); (try clear p2); (try clear c4); (try clear bQ); (try clear c6); (try clear dC); (try clear c9); (try clear dp); (try clear dn); (try clear dm); (try clear dd); (try clear dc); (try clear db); (try clear da); (try clear b9); (try clear b8); (try clear b7); (try clear b6); (try clear b5); (try clear dl); (try clear dk); (try clear dj); (try clear b4); (try clear b3); (try clear b2); (try clear b1); (try clear b0); (try clear bZ); (try clear bY); (try clear bX); (try clear bW); (try clear p2)
   obtain ⟨ba, rfl, HA, HK2, be, HB⟩ := hrel
   cases gk with
   | zero => exact absurd HA.out (by simp [ledger_Right.l0])
   | succ k2 => ?_
   have H := HA.out
   clear HA
   simp only [ledger_Right.l0] at H
   by_cases c11 : ba < (bb.length : Int)
   case neg =>
    rw [if_neg c11] at H
    have dI : decide (ba < (bb.length : Int)) = false := decide_eq_false c11
    clear c11
    obtain rfl := Option.some.inj H
    go_wp2
    go_ret
    exact ⟨by first | rfl | (simp [errW_none, errW_some] <;> rfl) | (simp [*, errW_none, errW_some] <;> rfl), by repeat (first | (with_reducible first | exact HB.out | apply below_alloc | apply pw_below_drewN | apply below_drew1 | refine below_set ?_ bB.out) | exact HB.out)⟩

   rw [if_pos c11] at H
   have dI : decide (ba < (bb.length : Int)) = true := decide_eq_true c11
   clear c11
   by_cases c12 : 0 ≤ ba
   case neg =>
    rw [if_neg c12] at H
    exact absurd H (by simp)
   rw [if_pos c12] at H
   have gE : decide (0 ≤ ba) = true := decide_eq_true c12
   clear c12
   by_cases c13 : ba < (bb.length : Int)
   case neg =>
    rw [if_neg c13] at H
    exact absurd H (by simp)
   rw [if_pos c13] at H
   have gD : decide (ba < (bb.length : Int)) = true := decide_eq_true c13
   clear c13
   replace H := Option.bind_eq_some_iff.mp H
   obtain ⟨di, dK, H⟩ := H
   replace H : (if di = true then (if ba ≤ (bb.length : Int) then ((ledger_place.f (bb.take (ba : Int).toNat) ((rd_T55 bb ba).f0)).bind fun bD => (if bD ≥ 0 then (some false) else (ledger_Right.l0 k2 bb (bb.length : Int) (wrap64 (ba + 1)) bh bj bb))) else (none)) else (some false)) = some r := H
   have A14 := Aside0.mk dK
   clear dK
   by_cases c15 : di = true
   case neg =>
    replace c15 := Bool.eq_false_iff.mpr c15
    subst c15
    have H1 : (some false) = some r := by rw [if_neg (show ¬ (false = true) by decide)] at H; exact H
    clear H
    have H := H1
    clear H1
    obtain rfl := Option.some.inj H
    have bM : 0 ≤ (ba : Int) := of_decide_eq_true zx4_4
    have bL : ba < (bb.length : Int) := of_decide_eq_true zx4_4
    obtain ⟨bk, bg, bf, de, bw, bu, br, bq, bp, bo, bn, bz, bA⟩ := at_T55 bI.out ba bM bL
    cases de
    replace bw := (HB.out.cell (World.block_lt_of_cell? w _ bw)).trans bw
    replace bu := (HB.out.cell (World.block_lt_of_cell? w _ bu)).trans bu
    replace br := (HB.out.cell (World.block_lt_of_cell? w _ br)).trans br
    replace bq := (HB.out.cell (World.block_lt_of_cell? w _ bq)).trans bq
    replace bp := (HB.out.cell (World.block_lt_of_cell? w _ bp)).trans bp
    replace bo := (HB.out.cell (World.block_lt_of_cell? w _ bo)).trans bo
    replace bn := (HB.out.cell (World.block_lt_of_cell? w _ bn)).trans bn
    have bE := Aside0.mk bA
    have bG := Aside0.mk bz
    clear bA bz
    replace bM := eq_true bM
    replace bL := eq_true bL
    try go_wp2_with (first | ((with_reducible refine gate_dst (N := 4) rfl ?_); (try (refine gate_guard (by rfl) ?_; dsimp only)); refine box_event ?hg (N := 4) ?hd (cs := #[.string (⟨#[]⟩ : ByteArray), .int .u64 0, .int .u64 0, .slice none 0 0, .int .u64 0, .int .u64 0, .int .u64 0]) (t := 55) ?hr ?_; (case hd => rfl); (case hg => rfl); (case hr => first | (go_simp; done) | (go_simp; rfl)); intro bc hg w36 hbox hb; have bd := Aside0.mk (hbox); have dv := Aside0.mk ((by rw [hg]; exact (below_size zx4_1) : w.heap.size ≤ bc)); have bH := Aside0.mk ((by rw [hg]; exact (below_size zx4_1) : w.heap.size ≤ bc)); replace HB := Aside0.mk (below_step zx4_1 hb); have bm := Aside0.mk ((by rw [hg]; exact Nat.ne_of_lt (blk_lt (g := bi) (o := .cells #[.int .u64 bh, .int .u64 bj, .slice (some bk) bb.length bl] 25 (0, 0)) zx4_0) : bi ≠ bc)); have bC := Aside0.mk ((by rw [hg]; exact Nat.ne_of_gt (blk_lt (g := bi) (o := .cells #[.int .u64 bh, .int .u64 bj, .slice (some bk) bb.length bl] 25 (0, 0)) zx4_0) : bc ≠ bi)); replace be := Aside0.mk (blk_below (g := bi) (o := .cells #[.int .u64 bh, .int .u64 bj, .slice (some bk) bb.length bl] 25 (0, 0)) zx4_0 hb); clear hb hbox hg; have gx := bC.out; have gu := bm.out; have gc : w36.cell? ⟨bc, 0, none⟩ = some (.string (⟨#[]⟩ : ByteArray)) := (blk_cell bd.out 0).trans rfl; have gb : w36.cell? ⟨bc, 1, none⟩ = some (.int .u64 0) := (blk_cell bd.out 1).trans rfl; have ga : w36.cell? ⟨bc, 2, none⟩ = some (.int .u64 0) := (blk_cell bd.out 2).trans rfl; have d9 : w36.cell? ⟨bc, 3, none⟩ = some (.slice none 0 0) := (blk_cell bd.out 3).trans rfl; have d8 : w36.cell? ⟨bc, 4, none⟩ = some (.int .u64 0) := (blk_cell bd.out 4).trans rfl; have d7 : w36.cell? ⟨bc, 5, none⟩ = some (.int .u64 0) := (blk_cell bd.out 5).trans rfl; have d6 : w36.cell? ⟨bc, 6, none⟩ = some (.int .u64 0) := (blk_cell bd.out 6).trans rfl; have dR := blk_frozen bd.out 0; have dQ := blk_frozen bd.out 1; have dP := blk_frozen bd.out 2; have dO := blk_frozen bd.out 3; have dN := blk_frozen bd.out 4; have dM := blk_frozen bd.out 5; have dL := blk_frozen bd.out 6))
    have n0_ : Aside0 ((((((((w36.setCell ⟨bc, 0, none⟩ (.string ((rd_T55 bb ba).f0))).setCell ⟨bc, 1, none⟩ (.int .u64 ((rd_T55 bb ba).f1))).setCell ⟨bc, 2, none⟩ (.int .u64 ((rd_T55 bb ba).f2))).setCell ⟨bc, 3, none⟩ (.slice bg ((rd_T55 bb ba).f3).length bf)).setCell ⟨bc, 4, none⟩ (.int .u64 ((rd_T55 bb ba).f4))).setCell ⟨bc, 5, none⟩ (.int .u64 ((rd_T55 bb ba).f5))).setCell ⟨bc, 6, none⟩ (.int .u64 ((rd_T55 bb ba).f6))).heap[bi]? = some (.cells #[.int .u64 bh, .int .u64 bj, .slice (some bk) bb.length bl] 25 (0, 0))) := ⟨by (iterate 7 ((with_reducible repeat (first | refine blk_drewN ?_ _ | refine blk_drew ?_ | refine blk_alloc ?_ _)); refine blk_far ?_ bm.out _)); (with_reducible repeat (first | refine blk_drewN ?_ _ | refine blk_drew ?_ | refine blk_alloc ?_ _)); exact be.out⟩
    have n1_ : Aside0 ((((((((w36.setCell ⟨bc, 0, none⟩ (.string ((rd_T55 bb ba).f0))).setCell ⟨bc, 1, none⟩ (.int .u64 ((rd_T55 bb ba).f1))).setCell ⟨bc, 2, none⟩ (.int .u64 ((rd_T55 bb ba).f2))).setCell ⟨bc, 3, none⟩ (.slice bg ((rd_T55 bb ba).f3).length bf)).setCell ⟨bc, 4, none⟩ (.int .u64 ((rd_T55 bb ba).f4))).setCell ⟨bc, 5, none⟩ (.int .u64 ((rd_T55 bb ba).f5))).setCell ⟨bc, 6, none⟩ (.int .u64 ((rd_T55 bb ba).f6))).heap[bc]? = some (.cells #[.string ((rd_T55 bb ba).f0), .int .u64 ((rd_T55 bb ba).f1), .int .u64 ((rd_T55 bb ba).f2), .slice bg ((rd_T55 bb ba).f3).length bf, .int .u64 ((rd_T55 bb ba).f4), .int .u64 ((rd_T55 bb ba).f5), .int .u64 ((rd_T55 bb ba).f6)] 55 (0, 0))) := ⟨by (with_reducible repeat (first | refine blk_drewN ?_ _ | refine blk_drew ?_ | refine blk_alloc ?_ _)); refine blk_put (cs := #[.string ((rd_T55 bb ba).f0), .int .u64 ((rd_T55 bb ba).f1), .int .u64 ((rd_T55 bb ba).f2), .slice bg ((rd_T55 bb ba).f3).length bf, .int .u64 ((rd_T55 bb ba).f4), .int .u64 ((rd_T55 bb ba).f5), .int .u64 0]) ?_ 6 _ rfl; (with_reducible repeat (first | refine blk_drewN ?_ _ | refine blk_drew ?_ | refine blk_alloc ?_ _)); refine blk_put (cs := #[.string ((rd_T55 bb ba).f0), .int .u64 ((rd_T55 bb ba).f1), .int .u64 ((rd_T55 bb ba).f2), .slice bg ((rd_T55 bb ba).f3).length bf, .int .u64 ((rd_T55 bb ba).f4), .int .u64 0, .int .u64 0]) ?_ 5 _ rfl; (with_reducible repeat (first | refine blk_drewN ?_ _ | refine blk_drew ?_ | refine blk_alloc ?_ _)); refine blk_put (cs := #[.string ((rd_T55 bb ba).f0), .int .u64 ((rd_T55 bb ba).f1), .int .u64 ((rd_T55 bb ba).f2), .slice bg ((rd_T55 bb ba).f3).length bf, .int .u64 0, .int .u64 0, .int .u64 0]) ?_ 4 _ rfl; (with_reducible repeat (first | refine blk_drewN ?_ _ | refine blk_drew ?_ | refine blk_alloc ?_ _)); refine blk_put (cs := #[.string ((rd_T55 bb ba).f0), .int .u64 ((rd_T55 bb ba).f1), .int .u64 ((rd_T55 bb ba).f2), .slice none 0 0, .int .u64 0, .int .u64 0, .int .u64 0]) ?_ 3 _ rfl; (with_reducible repeat (first | refine blk_drewN ?_ _ | refine blk_drew ?_ | refine blk_alloc ?_ _)); refine blk_put (cs := #[.string ((rd_T55 bb ba).f0), .int .u64 ((rd_T55 bb ba).f1), .int .u64 0, .slice none 0 0, .int .u64 0, .int .u64 0, .int .u64 0]) ?_ 2 _ rfl; (with_reducible repeat (first | refine blk_drewN ?_ _ | refine blk_drew ?_ | refine blk_alloc ?_ _)); refine blk_put (cs := #[.string ((rd_T55 bb ba).f0), .int .u64 0, .int .u64 0, .slice none 0 0, .int .u64 0, .int .u64 0, .int .u64 0]) ?_ 1 _ rfl; (with_reducible repeat (first | refine blk_drewN ?_ _ | refine blk_drew ?_ | refine blk_alloc ?_ _)); refine blk_put (cs := #[.string (⟨#[]⟩ : ByteArray), .int .u64 0, .int .u64 0, .slice none 0 0, .int .u64 0, .int .u64 0, .int .u64 0]) ?_ 0 _ rfl; (with_reducible repeat (first | refine blk_drewN ?_ _ | refine blk_drew ?_ | refine blk_alloc ?_ _)); exact bd.out⟩
    have n2_ : Aside0 (Below w.heap.size w (((((((w36.setCell ⟨bc, 0, none⟩ (.string ((rd_T55 bb ba).f0))).setCell ⟨bc, 1, none⟩ (.int .u64 ((rd_T55 bb ba).f1))).setCell ⟨bc, 2, none⟩ (.int .u64 ((rd_T55 bb ba).f2))).setCell ⟨bc, 3, none⟩ (.slice bg ((rd_T55 bb ba).f3).length bf)).setCell ⟨bc, 4, none⟩ (.int .u64 ((rd_T55 bb ba).f4))).setCell ⟨bc, 5, none⟩ (.int .u64 ((rd_T55 bb ba).f5))).setCell ⟨bc, 6, none⟩ (.int .u64 ((rd_T55 bb ba).f6)))) := ⟨by repeat (first | (with_reducible first | exact HB.out | apply below_alloc | apply pw_below_drewN | apply below_drew1 | refine below_set ?_ bB.out | refine below_set ?_ bH.out) | exact HB.out)⟩
    (try clear be)
    (try clear bd)
    (try clear HB)
    generalize (((((((w36.setCell ⟨bc, 0, none⟩ (.string ((rd_T55 bb ba).f0))).setCell ⟨bc, 1, none⟩ (.int .u64 ((rd_T55 bb ba).f1))).setCell ⟨bc, 2, none⟩ (.int .u64 ((rd_T55 bb ba).f2))).setCell ⟨bc, 3, none⟩ (.slice bg ((rd_T55 bb ba).f3).length bf)).setCell ⟨bc, 4, none⟩ (.int .u64 ((rd_T55 bb ba).f4))).setCell ⟨bc, 5, none⟩ (.int .u64 ((rd_T55 bb ba).f5))).setCell ⟨bc, 6, none⟩ (.int .u64 ((rd_T55 bb ba).f6))) = w39 at n0_ n1_ n2_ ⊢
    have be := n0_
    have bd := n1_
    have HB := n2_
    clear n0_ n1_ n2_
    replace be := Aside0.mk (blk_drew be.out)
    replace bd := Aside0.mk (blk_drew bd.out)
    replace HB := Aside0.mk (below_drew1 HB.out)
    refine start_ (n := 14) (S := fun w' => w'.cell? ⟨bc, 0, none⟩ = some (.string ((rd_T55 bb ba).f0)) ∧ w'.cell? ⟨bc, 1, none⟩ = some (.int .u64 ((rd_T55 bb ba).f1)) ∧ w'.cell? ⟨bc, 2, none⟩ = some (.int .u64 ((rd_T55 bb ba).f2)) ∧ w'.cell? ⟨bc, 3, none⟩ = some (.slice bg ((rd_T55 bb ba).f3).length bf) ∧ w'.cell? ⟨bc, 4, none⟩ = some (.int .u64 ((rd_T55 bb ba).f4)) ∧ w'.cell? ⟨bc, 5, none⟩ = some (.int .u64 ((rd_T55 bb ba).f5)) ∧ w'.cell? ⟨bc, 6, none⟩ = some (.int .u64 ((rd_T55 bb ba).f6)) ∧ w'.cell? ⟨bi, 0, none⟩ = some (.int .u64 bh) ∧ w'.cell? ⟨bi, 1, none⟩ = some (.int .u64 bj) ∧ w'.cell? ⟨bi, 2, none⟩ = some (.slice (some bk) bb.length bl)) (ds := []) #[Ff,Ff,Ff,Ff,Ff,Ff,Ff,Ff,Ff,Ff,Ff,Ff,Ff,Ff] (by kernel_rfl) rfl rfl ⟨(blk_cell bd.out 0).trans rfl, (blk_cell bd.out 1).trans rfl, (blk_cell bd.out 2).trans rfl, (blk_cell bd.out 3).trans rfl, (blk_cell bd.out 4).trans rfl, (blk_cell bd.out 5).trans rfl, (blk_cell bd.out 6).trans rfl, (blk_cell be.out 0).trans rfl, (blk_cell be.out 1).trans rfl, (blk_cell be.out 2).trans rfl⟩ (fun hHeld => ?_); refine with_tabW ledger_Right.tab6 ledger_Right.bits6 (fun HT_ HW_ => ?_)
    generalize w39.drew = w40 at be bd HB hHeld ⊢
    refine take_ (i := 0) (N := some 29) (v := ?_) (a' := ?_) #[Tt,Ff,Ff,Ff,Ff,Ff,Ff,Ff,Ff,Ff,Ff,Ff,Ff,Ff] rfl rfl (take_ofW HT_.out HW_.out (by kernel_rfl)) (fun _ _ _ h => h) (Or.inl ⟨by rfl, ?_⟩) hHeld ?_ ?_
    rotate_left
    ·rintro w' ⟨s0, s1, s2, s3, s4, s5, s6, s7, s8, s9⟩
     go_simp
     with_reducible rfl
    rotate_left
    ·simp only [Act.put, List.setIfInBounds_toArray, List.set_cons_zero, List.set_cons_succ, i64_w, i32_w]
     rfl
    refine take_ (i := 1) (N := some 30) (v := ?_) (a' := ?_) #[Tt,Tt,Ff,Ff,Ff,Ff,Ff,Ff,Ff,Ff,Ff,Ff,Ff,Ff] rfl rfl (take_ofW HT_.out HW_.out (by kernel_rfl)) (fun _ _ _ h => h) (Or.inl ⟨by rfl, ?_⟩) hHeld ?_ ?_
    rotate_left
    ·rintro w' ⟨s0, s1, s2, s3, s4, s5, s6, s7, s8, s9⟩
     go_simp
     with_reducible rfl
    rotate_left
    ·simp only [Act.put, List.setIfInBounds_toArray, List.set_cons_zero, List.set_cons_succ, i64_w, i32_w]
     rfl
    refine one_ (i := 2) (N := some 31) #[Tt,Tt,Tt,Ff,Ff,Ff,Ff,Ff,Ff,Ff,Ff,Ff,Ff,Ff] rfl rfl (one_of HT_.out (by kernel_rfl)) (by decide) (fun K hK => ?_)
    refine goes_ Tryd.func31 (by kernel_rfl) rfl #[.agg #[.string ((rd_T55 bb ba).f0), .int .u64 ((rd_T55 bb ba).f1), .int .u64 ((rd_T55 bb ba).f2), .slice bg ((rd_T55 bb ba).f3).length bf, .int .u64 ((rd_T55 bb ba).f4), .int .u64 ((rd_T55 bb ba).f5), .int .u64 ((rd_T55 bb ba).f6)], .agg #[.int .u64 bh, .int .u64 bj, .slice (some bk) bb.length bl]] (by rfl) rfl rfl zx4_3 ?_
    with_reducible refine (ledger_Dest_right.calls k2 ((rd_T55 bb ba).f0) ((rd_T55 bb ba).f1) ((rd_T55 bb ba).f2) _ _ ((rd_T55 bb ba).f3) ((rd_T55 bb ba).f4) ((rd_T55 bb ba).f5) ((rd_T55 bb ba).f6) bh bj _ _ bb false _ ?side1 ?side2 ?side3 ?side4 A14.out).mono ?_
    (case side1 => repeat (first | exact (Kd.C_below bE.out HB.out) | (with_reducible refine Kd.C_alloc ?_ _) | (with_reducible refine Kd.C_drewN ?_ _) | (with_reducible refine Kd.C_drew ?_)))
    (case side2 => exact bG.out)
    (case side3 => repeat (first | exact (Kd.C_below bI.out HB.out) | (with_reducible refine Kd.C_alloc ?_ _) | (with_reducible refine Kd.C_drewN ?_ _) | (with_reducible refine Kd.C_drew ?_)))
    (case side4 => exact bP.out)
    rintro e w41 ⟨rfl, hb⟩
    refine ⟨_, rfl, ?_⟩
    replace be := Aside0.mk (blk_below (g := bi) (o := .cells #[.int .u64 bh, .int .u64 bj, .slice (some bk) bb.length bl] 25 (0, 0)) zx4_0 hb)
    replace bd := Aside0.mk (blk_below (g := bc) (o := .cells #[.string ((rd_T55 bb ba).f0), .int .u64 ((rd_T55 bb ba).f1), .int .u64 ((rd_T55 bb ba).f2), .slice bg ((rd_T55 bb ba).f3).length bf, .int .u64 ((rd_T55 bb ba).f4), .int .u64 ((rd_T55 bb ba).f5), .int .u64 ((rd_T55 bb ba).f6)] 55 (0, 0)) zx4_5 hb)
    replace HB := Aside0.mk (below_step zx4_2 hb)
    (try clear hb)
    (try clear hb2)
    (try clear hk)
    (try clear hi)
    refine hK.out _ _ ⟨(blk_cell bd.out 0).trans rfl, (blk_cell bd.out 1).trans rfl, (blk_cell bd.out 2).trans rfl, (blk_cell bd.out 3).trans rfl, (blk_cell bd.out 4).trans rfl, (blk_cell bd.out 5).trans rfl, (blk_cell bd.out 6).trans rfl, (blk_cell be.out 0).trans rfl, (blk_cell be.out 1).trans rfl, (blk_cell be.out 2).trans rfl⟩ (fun hHeld => ?_)
    clear hK K
    refine na_ 31 ?_
    refine pp_ 3 (some 32) HT_.out ?_
    refine pp_ 4 (some 33) HT_.out ?_
    refine pu_ 5 (some 34) HT_.out ?_
    refine pu_ 6 (some 35) HT_.out ?_
    refine pu_ 7 (some 36) HT_.out ?_
    refine pu_ 8 (some 37) HT_.out ?_
    refine pu_ 9 (some 38) HT_.out ?_
    refine pu_ 10 (some 39) HT_.out ?_
    refine pu_ 11 (some 40) HT_.out ?_
    refine pu_ 12 (some 41) HT_.out ?_
    refine pp_ 13 (some 42) HT_.out ?_
    refine done_ (done_of HT_.out (by kernel_rfl)) ?_
    try go_wp2
    go_ret
    exact ⟨by first | rfl | (simp [errW_none, errW_some] <;> rfl) | (simp [*, errW_none, errW_some] <;> rfl), by repeat (first | (with_reducible first | exact HB.out | apply below_alloc | apply pw_below_drewN | apply below_drew1 | refine below_set ?_ bB.out | refine below_set ?_ bH.out) | exact HB.out)⟩
   subst c15
   have H1 : (if ba ≤ (bb.length : Int) then ((ledger_place.f (bb.take (ba : Int).toNat) ((rd_T55 bb ba).f0)).bind fun bD => (if bD ≥ 0 then (some false) else (ledger_Right.l0 k2 bb (bb.length : Int) (wrap64 (ba + 1)) bh bj bb))) else (none)) = some r := by rw [if_pos rfl] at H; exact H
   clear H
   have H := H1
   clear H1
   have gC := eq_true (of_decide_eq_true zx4_4 : 0 ≤ ba)
   by_cases c17 : ba ≤ (bb.length : Int)
   case neg =>
    rw [if_neg c17] at H
    exact absurd H (by simp)
   rw [if_pos c17] at H
   have gB := eq_true c17
   have gA : decide (ba ≤ (bb.length : Int)) = true := decide_eq_true c17
   clear c17
   obtain ⟨bN, bO⟩ : ∃ y_ : List (S55), y_ = (bb.take (ba : Int).toNat) := ⟨_, rfl⟩
   replace H : ((ledger_place.f bN ((rd_T55 bb ba).f0)).bind fun bD => (if bD ≥ 0 then (some false) else (ledger_Right.l0 k2 bb (bb.length : Int) (wrap64 (ba + 1)) bh bj bb))) = some r := by first | (rw [bO]; with_reducible exact H) | (have H2_ := (Option.bind_some _ _).symm.trans H; rw [bO]; with_reducible exact H2_) | (have H2_ := (Option.bind_some _ _).symm.trans H; with_reducible exact H2_) | with_reducible exact H | (rw [bO]; exact H) | exact H
   have bV := Aside0.mk bO
   clear bO
   replace H := Option.bind_eq_some_iff.mp H
   obtain ⟨bD, dJ, H⟩ := H
   replace H : (if bD ≥ 0 then (some false) else (ledger_Right.l0 k2 bb (bb.length : Int) (wrap64 (ba + 1)) bh bj bb)) = some r := H
   have A18 := Aside0.mk dJ
   clear dJ
   by_cases c19 : bD ≥ 0
   ·rw [if_pos c19] at H
    have dH : decide (0 ≤ bD) = true := decide_eq_true c19
    clear c19
    obtain rfl := Option.some.inj H
    have bM : 0 ≤ (ba : Int) := of_decide_eq_true zx4_4
    have bL : ba < (bb.length : Int) := of_decide_eq_true zx4_4
    obtain ⟨bk, bg, bf, de, bw, bu, br, bq, bp, bo, bn, bz, bA⟩ := at_T55 bI.out ba bM bL
    cases de
    replace bw := (HB.out.cell (World.block_lt_of_cell? w _ bw)).trans bw
    replace bu := (HB.out.cell (World.block_lt_of_cell? w _ bu)).trans bu
    replace br := (HB.out.cell (World.block_lt_of_cell? w _ br)).trans br
    replace bq := (HB.out.cell (World.block_lt_of_cell? w _ bq)).trans bq
    replace bp := (HB.out.cell (World.block_lt_of_cell? w _ bp)).trans bp
    replace bo := (HB.out.cell (World.block_lt_of_cell? w _ bo)).trans bo
    replace bn := (HB.out.cell (World.block_lt_of_cell? w _ bn)).trans bn
    have bE := Aside0.mk bA
    have bG := Aside0.mk bz
    clear bA bz
    replace bM := eq_true bM
    replace bL := eq_true bL
    try go_wp2_with (first | ((with_reducible refine gate_dst (N := 4) rfl ?_); (try (refine gate_guard (by rfl) ?_; dsimp only)); refine box_event ?hg (N := 4) ?hd (cs := #[.string (⟨#[]⟩ : ByteArray), .int .u64 0, .int .u64 0, .slice none 0 0, .int .u64 0, .int .u64 0, .int .u64 0]) (t := 55) ?hr ?_; (case hd => rfl); (case hg => rfl); (case hr => first | (go_simp; done) | (go_simp; rfl)); intro bc hg w20 hbox hb; have bd := Aside0.mk (hbox); have dv := Aside0.mk ((by rw [hg]; exact (below_size zx4_1) : w.heap.size ≤ bc)); have bH := Aside0.mk ((by rw [hg]; exact (below_size zx4_1) : w.heap.size ≤ bc)); replace HB := Aside0.mk (below_step zx4_1 hb); have bm := Aside0.mk ((by rw [hg]; exact Nat.ne_of_lt (blk_lt (g := bi) (o := .cells #[.int .u64 bh, .int .u64 bj, .slice (some bk) bb.length bl] 25 (0, 0)) zx4_0) : bi ≠ bc)); have bC := Aside0.mk ((by rw [hg]; exact Nat.ne_of_gt (blk_lt (g := bi) (o := .cells #[.int .u64 bh, .int .u64 bj, .slice (some bk) bb.length bl] 25 (0, 0)) zx4_0) : bc ≠ bi)); replace be := Aside0.mk (blk_below (g := bi) (o := .cells #[.int .u64 bh, .int .u64 bj, .slice (some bk) bb.length bl] 25 (0, 0)) zx4_0 hb); clear hb hbox hg; have gz := bC.out; have gw := bm.out; have gt : w20.cell? ⟨bc, 0, none⟩ = some (.string (⟨#[]⟩ : ByteArray)) := (blk_cell bd.out 0).trans rfl; have gs : w20.cell? ⟨bc, 1, none⟩ = some (.int .u64 0) := (blk_cell bd.out 1).trans rfl; have gr : w20.cell? ⟨bc, 2, none⟩ = some (.int .u64 0) := (blk_cell bd.out 2).trans rfl; have gq : w20.cell? ⟨bc, 3, none⟩ = some (.slice none 0 0) := (blk_cell bd.out 3).trans rfl; have gp : w20.cell? ⟨bc, 4, none⟩ = some (.int .u64 0) := (blk_cell bd.out 4).trans rfl; have go : w20.cell? ⟨bc, 5, none⟩ = some (.int .u64 0) := (blk_cell bd.out 5).trans rfl; have gn : w20.cell? ⟨bc, 6, none⟩ = some (.int .u64 0) := (blk_cell bd.out 6).trans rfl; have d5 := blk_frozen bd.out 0; have d4 := blk_frozen bd.out 1; have d3 := blk_frozen bd.out 2; have d2 := blk_frozen bd.out 3; have d1 := blk_frozen bd.out 4; have d0 := blk_frozen bd.out 5; have dZ := blk_frozen bd.out 6))
    have n0_ : Aside0 ((((((((w20.setCell ⟨bc, 0, none⟩ (.string ((rd_T55 bb ba).f0))).setCell ⟨bc, 1, none⟩ (.int .u64 ((rd_T55 bb ba).f1))).setCell ⟨bc, 2, none⟩ (.int .u64 ((rd_T55 bb ba).f2))).setCell ⟨bc, 3, none⟩ (.slice bg ((rd_T55 bb ba).f3).length bf)).setCell ⟨bc, 4, none⟩ (.int .u64 ((rd_T55 bb ba).f4))).setCell ⟨bc, 5, none⟩ (.int .u64 ((rd_T55 bb ba).f5))).setCell ⟨bc, 6, none⟩ (.int .u64 ((rd_T55 bb ba).f6))).heap[bi]? = some (.cells #[.int .u64 bh, .int .u64 bj, .slice (some bk) bb.length bl] 25 (0, 0))) := ⟨by (iterate 7 ((with_reducible repeat (first | refine blk_drewN ?_ _ | refine blk_drew ?_ | refine blk_alloc ?_ _)); refine blk_far ?_ bm.out _)); (with_reducible repeat (first | refine blk_drewN ?_ _ | refine blk_drew ?_ | refine blk_alloc ?_ _)); exact be.out⟩
    have n1_ : Aside0 ((((((((w20.setCell ⟨bc, 0, none⟩ (.string ((rd_T55 bb ba).f0))).setCell ⟨bc, 1, none⟩ (.int .u64 ((rd_T55 bb ba).f1))).setCell ⟨bc, 2, none⟩ (.int .u64 ((rd_T55 bb ba).f2))).setCell ⟨bc, 3, none⟩ (.slice bg ((rd_T55 bb ba).f3).length bf)).setCell ⟨bc, 4, none⟩ (.int .u64 ((rd_T55 bb ba).f4))).setCell ⟨bc, 5, none⟩ (.int .u64 ((rd_T55 bb ba).f5))).setCell ⟨bc, 6, none⟩ (.int .u64 ((rd_T55 bb ba).f6))).heap[bc]? = some (.cells #[.string ((rd_T55 bb ba).f0), .int .u64 ((rd_T55 bb ba).f1), .int .u64 ((rd_T55 bb ba).f2), .slice bg ((rd_T55 bb ba).f3).length bf, .int .u64 ((rd_T55 bb ba).f4), .int .u64 ((rd_T55 bb ba).f5), .int .u64 ((rd_T55 bb ba).f6)] 55 (0, 0))) := ⟨by (with_reducible repeat (first | refine blk_drewN ?_ _ | refine blk_drew ?_ | refine blk_alloc ?_ _)); refine blk_put (cs := #[.string ((rd_T55 bb ba).f0), .int .u64 ((rd_T55 bb ba).f1), .int .u64 ((rd_T55 bb ba).f2), .slice bg ((rd_T55 bb ba).f3).length bf, .int .u64 ((rd_T55 bb ba).f4), .int .u64 ((rd_T55 bb ba).f5), .int .u64 0]) ?_ 6 _ rfl; (with_reducible repeat (first | refine blk_drewN ?_ _ | refine blk_drew ?_ | refine blk_alloc ?_ _)); refine blk_put (cs := #[.string ((rd_T55 bb ba).f0), .int .u64 ((rd_T55 bb ba).f1), .int .u64 ((rd_T55 bb ba).f2), .slice bg ((rd_T55 bb ba).f3).length bf, .int .u64 ((rd_T55 bb ba).f4), .int .u64 0, .int .u64 0]) ?_ 5 _ rfl; (with_reducible repeat (first | refine blk_drewN ?_ _ | refine blk_drew ?_ | refine blk_alloc ?_ _)); refine blk_put (cs := #[.string ((rd_T55 bb ba).f0), .int .u64 ((rd_T55 bb ba).f1), .int .u64 ((rd_T55 bb ba).f2), .slice bg ((rd_T55 bb ba).f3).length bf, .int .u64 0, .int .u64 0, .int .u64 0]) ?_ 4 _ rfl; (with_reducible repeat (first | refine blk_drewN ?_ _ | refine blk_drew ?_ | refine blk_alloc ?_ _)); refine blk_put (cs := #[.string ((rd_T55 bb ba).f0), .int .u64 ((rd_T55 bb ba).f1), .int .u64 ((rd_T55 bb ba).f2), .slice none 0 0, .int .u64 0, .int .u64 0, .int .u64 0]) ?_ 3 _ rfl; (with_reducible repeat (first | refine blk_drewN ?_ _ | refine blk_drew ?_ | refine blk_alloc ?_ _)); refine blk_put (cs := #[.string ((rd_T55 bb ba).f0), .int .u64 ((rd_T55 bb ba).f1), .int .u64 0, .slice none 0 0, .int .u64 0, .int .u64 0, .int .u64 0]) ?_ 2 _ rfl; (with_reducible repeat (first | refine blk_drewN ?_ _ | refine blk_drew ?_ | refine blk_alloc ?_ _)); refine blk_put (cs := #[.string ((rd_T55 bb ba).f0), .int .u64 0, .int .u64 0, .slice none 0 0, .int .u64 0, .int .u64 0, .int .u64 0]) ?_ 1 _ rfl; (with_reducible repeat (first | refine blk_drewN ?_ _ | refine blk_drew ?_ | refine blk_alloc ?_ _)); refine blk_put (cs := #[.string (⟨#[]⟩ : ByteArray), .int .u64 0, .int .u64 0, .slice none 0 0, .int .u64 0, .int .u64 0, .int .u64 0]) ?_ 0 _ rfl; (with_reducible repeat (first | refine blk_drewN ?_ _ | refine blk_drew ?_ | refine blk_alloc ?_ _)); exact bd.out⟩
    have n2_ : Aside0 (Below w.heap.size w (((((((w20.setCell ⟨bc, 0, none⟩ (.string ((rd_T55 bb ba).f0))).setCell ⟨bc, 1, none⟩ (.int .u64 ((rd_T55 bb ba).f1))).setCell ⟨bc, 2, none⟩ (.int .u64 ((rd_T55 bb ba).f2))).setCell ⟨bc, 3, none⟩ (.slice bg ((rd_T55 bb ba).f3).length bf)).setCell ⟨bc, 4, none⟩ (.int .u64 ((rd_T55 bb ba).f4))).setCell ⟨bc, 5, none⟩ (.int .u64 ((rd_T55 bb ba).f5))).setCell ⟨bc, 6, none⟩ (.int .u64 ((rd_T55 bb ba).f6)))) := ⟨by repeat (first | (with_reducible first | exact HB.out | apply below_alloc | apply pw_below_drewN | apply below_drew1 | refine below_set ?_ bB.out | refine below_set ?_ bH.out) | exact HB.out)⟩
    (try clear be)
    (try clear bd)
    (try clear HB)
    generalize (((((((w20.setCell ⟨bc, 0, none⟩ (.string ((rd_T55 bb ba).f0))).setCell ⟨bc, 1, none⟩ (.int .u64 ((rd_T55 bb ba).f1))).setCell ⟨bc, 2, none⟩ (.int .u64 ((rd_T55 bb ba).f2))).setCell ⟨bc, 3, none⟩ (.slice bg ((rd_T55 bb ba).f3).length bf)).setCell ⟨bc, 4, none⟩ (.int .u64 ((rd_T55 bb ba).f4))).setCell ⟨bc, 5, none⟩ (.int .u64 ((rd_T55 bb ba).f5))).setCell ⟨bc, 6, none⟩ (.int .u64 ((rd_T55 bb ba).f6))) = w23 at n0_ n1_ n2_ ⊢
    have be := n0_
    have bd := n1_
    have HB := n2_
    clear n0_ n1_ n2_
    replace be := Aside0.mk (blk_drew be.out)
    replace bd := Aside0.mk (blk_drew bd.out)
    replace HB := Aside0.mk (below_drew1 HB.out)
    refine start_ (n := 14) (S := fun w' => w'.cell? ⟨bc, 0, none⟩ = some (.string ((rd_T55 bb ba).f0)) ∧ w'.cell? ⟨bc, 1, none⟩ = some (.int .u64 ((rd_T55 bb ba).f1)) ∧ w'.cell? ⟨bc, 2, none⟩ = some (.int .u64 ((rd_T55 bb ba).f2)) ∧ w'.cell? ⟨bc, 3, none⟩ = some (.slice bg ((rd_T55 bb ba).f3).length bf) ∧ w'.cell? ⟨bc, 4, none⟩ = some (.int .u64 ((rd_T55 bb ba).f4)) ∧ w'.cell? ⟨bc, 5, none⟩ = some (.int .u64 ((rd_T55 bb ba).f5)) ∧ w'.cell? ⟨bc, 6, none⟩ = some (.int .u64 ((rd_T55 bb ba).f6)) ∧ w'.cell? ⟨bi, 0, none⟩ = some (.int .u64 bh) ∧ w'.cell? ⟨bi, 1, none⟩ = some (.int .u64 bj) ∧ w'.cell? ⟨bi, 2, none⟩ = some (.slice (some bk) bb.length bl)) (ds := []) #[Ff,Ff,Ff,Ff,Ff,Ff,Ff,Ff,Ff,Ff,Ff,Ff,Ff,Ff] (by kernel_rfl) rfl rfl ⟨(blk_cell bd.out 0).trans rfl, (blk_cell bd.out 1).trans rfl, (blk_cell bd.out 2).trans rfl, (blk_cell bd.out 3).trans rfl, (blk_cell bd.out 4).trans rfl, (blk_cell bd.out 5).trans rfl, (blk_cell bd.out 6).trans rfl, (blk_cell be.out 0).trans rfl, (blk_cell be.out 1).trans rfl, (blk_cell be.out 2).trans rfl⟩ (fun hHeld => ?_); refine with_tabW ledger_Right.tab6 ledger_Right.bits6 (fun HT_ HW_ => ?_)
    generalize w23.drew = w24 at be bd HB hHeld ⊢
    refine take_ (i := 0) (N := some 29) (v := ?_) (a' := ?_) #[Tt,Ff,Ff,Ff,Ff,Ff,Ff,Ff,Ff,Ff,Ff,Ff,Ff,Ff] rfl rfl (take_ofW HT_.out HW_.out (by kernel_rfl)) (fun _ _ _ h => h) (Or.inl ⟨by rfl, ?_⟩) hHeld ?_ ?_
    rotate_left
    ·rintro w' ⟨s0, s1, s2, s3, s4, s5, s6, s7, s8, s9⟩
     go_simp
     with_reducible rfl
    rotate_left
    ·simp only [Act.put, List.setIfInBounds_toArray, List.set_cons_zero, List.set_cons_succ, i64_w, i32_w]
     rfl
    refine take_ (i := 1) (N := some 30) (v := ?_) (a' := ?_) #[Tt,Tt,Ff,Ff,Ff,Ff,Ff,Ff,Ff,Ff,Ff,Ff,Ff,Ff] rfl rfl (take_ofW HT_.out HW_.out (by kernel_rfl)) (fun _ _ _ h => h) (Or.inl ⟨by rfl, ?_⟩) hHeld ?_ ?_
    rotate_left
    ·rintro w' ⟨s0, s1, s2, s3, s4, s5, s6, s7, s8, s9⟩
     go_simp
     with_reducible rfl
    rotate_left
    ·simp only [Act.put, List.setIfInBounds_toArray, List.set_cons_zero, List.set_cons_succ, i64_w, i32_w]
     rfl
    refine one_ (i := 2) (N := some 31) #[Tt,Tt,Tt,Ff,Ff,Ff,Ff,Ff,Ff,Ff,Ff,Ff,Ff,Ff] rfl rfl (one_of HT_.out (by kernel_rfl)) (by decide) (fun K hK => ?_)
    refine goes_ Tryd.func31 (by kernel_rfl) rfl #[.agg #[.string ((rd_T55 bb ba).f0), .int .u64 ((rd_T55 bb ba).f1), .int .u64 ((rd_T55 bb ba).f2), .slice bg ((rd_T55 bb ba).f3).length bf, .int .u64 ((rd_T55 bb ba).f4), .int .u64 ((rd_T55 bb ba).f5), .int .u64 ((rd_T55 bb ba).f6)], .agg #[.int .u64 bh, .int .u64 bj, .slice (some bk) bb.length bl]] (by rfl) rfl rfl zx4_3 ?_
    with_reducible refine (ledger_Dest_right.calls k2 ((rd_T55 bb ba).f0) ((rd_T55 bb ba).f1) ((rd_T55 bb ba).f2) _ _ ((rd_T55 bb ba).f3) ((rd_T55 bb ba).f4) ((rd_T55 bb ba).f5) ((rd_T55 bb ba).f6) bh bj _ _ bb true _ ?side1 ?side2 ?side3 ?side4 A14.out).mono ?_
    (case side1 => repeat (first | exact (Kd.C_below bE.out HB.out) | (with_reducible refine Kd.C_alloc ?_ _) | (with_reducible refine Kd.C_drewN ?_ _) | (with_reducible refine Kd.C_drew ?_)))
    (case side2 => exact bG.out)
    (case side3 => repeat (first | exact (Kd.C_below bI.out HB.out) | (with_reducible refine Kd.C_alloc ?_ _) | (with_reducible refine Kd.C_drewN ?_ _) | (with_reducible refine Kd.C_drew ?_)))
    (case side4 => exact bP.out)
    rintro e w25 ⟨rfl, hb⟩
    refine ⟨_, rfl, ?_⟩
    replace be := Aside0.mk (blk_below (g := bi) (o := .cells #[.int .u64 bh, .int .u64 bj, .slice (some bk) bb.length bl] 25 (0, 0)) zx4_0 hb)
    replace bd := Aside0.mk (blk_below (g := bc) (o := .cells #[.string ((rd_T55 bb ba).f0), .int .u64 ((rd_T55 bb ba).f1), .int .u64 ((rd_T55 bb ba).f2), .slice bg ((rd_T55 bb ba).f3).length bf, .int .u64 ((rd_T55 bb ba).f4), .int .u64 ((rd_T55 bb ba).f5), .int .u64 ((rd_T55 bb ba).f6)] 55 (0, 0)) zx4_5 hb)
    replace HB := Aside0.mk (below_step zx4_2 hb)
    (try clear hb)
    (try clear hb2)
    (try clear hk)
    (try clear hi)
    have q26 : (ba : Int) ≤ ((bb.length : Int) : Int) := of_decide_eq_true zx4_4
    obtain ⟨gH, dt, _, dE, _⟩ := info_parts info55
    have bU : bb.length ≤ bl := bP.out
    have dG : Kd.C k55 _ (some bk) bb.length bb := bI.out
    have dB := cut_to (P := Tryd.prog) 23 55 .i64 Tryd.underlying23 dt (some bk) bb.length bl ba (of_decide_eq_true zx4_4) q26 bU
    have dz := Kd.C_take (m := (ba : Int).toNat) dG (by omega)
    have dx : bN.length = (ba : Int).toNat := (by rw [bV.out, List.length_take]; omega)
    rw [← bV.out] at dz
    rw [← dx] at dB
    have df := Aside0.mk dz
    have dg := Aside0.mk (show bN.length ≤ bl from by omega)
    clear dz dG bU dt dE
    have gL := Aside0.mk dx
    clear dx
    replace q26 := eq_true q26
    refine hK.out _ _ ⟨(blk_cell bd.out 0).trans rfl, (blk_cell bd.out 1).trans rfl, (blk_cell bd.out 2).trans rfl, (blk_cell bd.out 3).trans rfl, (blk_cell bd.out 4).trans rfl, (blk_cell bd.out 5).trans rfl, (blk_cell bd.out 6).trans rfl, (blk_cell be.out 0).trans rfl, (blk_cell be.out 1).trans rfl, (blk_cell be.out 2).trans rfl⟩ (fun hHeld => ?_)
    clear hK K
    refine na_ 31 ?_
    refine pp_ 3 (some 32) HT_.out ?_
    refine pp_ 4 (some 33) HT_.out ?_
    refine pp_ 5 (some 34) HT_.out ?_
    refine pp_ 7 (some 36) HT_.out ?_
    refine pp_ 9 (some 38) HT_.out ?_
    refine take_ (i := 6) (N := some 35) (v := ?_) (a' := ?_) #[Tt,Tt,Tt,Tt,Tt,Tt,Tt,Tt,Ff,Tt,Ff,Ff,Ff,Ff] rfl rfl (take_ofW HT_.out HW_.out (by kernel_rfl)) (fun _ _ _ h => h) (Or.inl ⟨by rfl, ?_⟩) hHeld ?_ ?_
    rotate_left
    ·rintro w' ⟨s0, s1, s2, s3, s4, s5, s6, s7, s8, s9⟩
     go_simp
     with_reducible rfl
    rotate_left
    ·simp only [Act.put, List.setIfInBounds_toArray, List.set_cons_zero, List.set_cons_succ, i64_w, i32_w]
     rfl
    refine pp_ 8 (some 37) HT_.out ?_
    refine take_ (i := 10) (N := some 39) (v := ?_) (a' := ?_) #[Tt,Tt,Tt,Tt,Tt,Tt,Tt,Tt,Tt,Tt,Tt,Ff,Ff,Ff] rfl rfl (take_ofW HT_.out HW_.out (by kernel_rfl)) (fun _ _ _ h => h) (Or.inl ⟨by rfl, ?_⟩) hHeld ?_ ?_
    rotate_left
    ·rintro w' ⟨s0, s1, s2, s3, s4, s5, s6, s7, s8, s9⟩
     go_simp
     with_reducible rfl
    rotate_left
    ·simp only [Act.put, List.setIfInBounds_toArray, List.set_cons_zero, List.set_cons_succ, i64_w, i32_w]
     rfl
    refine one_ (i := 11) (N := some 40) #[Tt,Tt,Tt,Tt,Tt,Tt,Tt,Tt,Tt,Tt,Tt,Tt,Ff,Ff] rfl rfl (one_of HT_.out (by kernel_rfl)) (by decide) (fun K hK => ?_)
    refine goes_ Tryd.func32 (by kernel_rfl) rfl #[.slice (some bk) bN.length bl, .string ((rd_T55 bb ba).f0)] (by rfl) rfl rfl zx4_3 ?_
    with_reducible refine (ledger_place.calls _ _ bN ((rd_T55 bb ba).f0) bD _ ?side1 ?side2 A18.out).mono ?_
    (case side1 => repeat (first | exact (Kd.C_below df.out HB.out) | (with_reducible refine Kd.C_alloc ?_ _) | (with_reducible refine Kd.C_drewN ?_ _) | (with_reducible refine Kd.C_drew ?_)))
    (case side2 => exact dg.out)
    rintro e w27 ⟨rfl, hb⟩
    refine ⟨_, rfl, ?_⟩
    replace be := Aside0.mk (blk_below (g := bi) (o := .cells #[.int .u64 bh, .int .u64 bj, .slice (some bk) bb.length bl] 25 (0, 0)) zx4_0 hb)
    replace bd := Aside0.mk (blk_below (g := bc) (o := .cells #[.string ((rd_T55 bb ba).f0), .int .u64 ((rd_T55 bb ba).f1), .int .u64 ((rd_T55 bb ba).f2), .slice bg ((rd_T55 bb ba).f3).length bf, .int .u64 ((rd_T55 bb ba).f4), .int .u64 ((rd_T55 bb ba).f5), .int .u64 ((rd_T55 bb ba).f6)] 55 (0, 0)) zx4_5 hb)
    replace HB := Aside0.mk (below_step zx4_2 hb)
    (try clear hb)
    (try clear hb2)
    (try clear hk)
    (try clear hi)
    refine hK.out _ _ ⟨(blk_cell bd.out 0).trans rfl, (blk_cell bd.out 1).trans rfl, (blk_cell bd.out 2).trans rfl, (blk_cell bd.out 3).trans rfl, (blk_cell bd.out 4).trans rfl, (blk_cell bd.out 5).trans rfl, (blk_cell bd.out 6).trans rfl, (blk_cell be.out 0).trans rfl, (blk_cell be.out 1).trans rfl, (blk_cell be.out 2).trans rfl⟩ (fun hHeld => ?_)
    clear hK K
    refine na_ 40 ?_
    refine pp_ 12 (some 41) HT_.out ?_
    refine pp_ 13 (some 42) HT_.out ?_
    refine done_ (done_of HT_.out (by kernel_rfl)) ?_
    try go_wp2
    go_ret
    exact ⟨by first | rfl | (simp [errW_none, errW_some] <;> rfl) | (simp [*, errW_none, errW_some] <;> rfl), by repeat (first | (with_reducible first | exact HB.out | apply below_alloc | apply pw_below_drewN | apply below_drew1 | refine below_set ?_ bB.out | refine below_set ?_ bH.out) | exact HB.out)⟩
   rw [if_neg c19] at H
   have dH : decide (0 ≤ bD) = false := decide_eq_false c19
   clear c19
   have H' := Aside0.mk H
   clear H
   have bM : 0 ≤ (ba : Int) := of_decide_eq_true zx4_4
   have bL : ba < (bb.length : Int) := of_decide_eq_true zx4_4
   obtain ⟨bk, bg, bf, de, bw, bu, br, bq, bp, bo, bn, bz, bA⟩ := at_T55 bI.out ba bM bL
   cases de
   replace bw := (HB.out.cell (World.block_lt_of_cell? w _ bw)).trans bw
   replace bu := (HB.out.cell (World.block_lt_of_cell? w _ bu)).trans bu
   replace br := (HB.out.cell (World.block_lt_of_cell? w _ br)).trans br
   replace bq := (HB.out.cell (World.block_lt_of_cell? w _ bq)).trans bq
   replace bp := (HB.out.cell (World.block_lt_of_cell? w _ bp)).trans bp
   replace bo := (HB.out.cell (World.block_lt_of_cell? w _ bo)).trans bo
   replace bn := (HB.out.cell (World.block_lt_of_cell? w _ bn)).trans bn
   have bE := Aside0.mk bA
   have bG := Aside0.mk bz
   clear bA bz
   replace bM := eq_true bM
   replace bL := eq_true bL
   try go_wp2_with (first | ((with_reducible refine gate_dst (N := 4) rfl ?_); (try (refine gate_guard (by rfl) ?_; dsimp only)); refine box_event ?hg (N := 4) ?hd (cs := #[.string (⟨#[]⟩ : ByteArray), .int .u64 0, .int .u64 0, .slice none 0 0, .int .u64 0, .int .u64 0, .int .u64 0]) (t := 55) ?hr ?_; (case hd => rfl); (case hg => rfl); (case hr => first | (go_simp; done) | (go_simp; rfl)); intro bc hg w28 hbox hb; have bd := Aside0.mk (hbox); have dv := Aside0.mk ((by rw [hg]; exact (below_size zx4_1) : w.heap.size ≤ bc)); have bH := Aside0.mk ((by rw [hg]; exact (below_size zx4_1) : w.heap.size ≤ bc)); replace HB := Aside0.mk (below_step zx4_1 hb); have bm := Aside0.mk ((by rw [hg]; exact Nat.ne_of_lt (blk_lt (g := bi) (o := .cells #[.int .u64 bh, .int .u64 bj, .slice (some bk) bb.length bl] 25 (0, 0)) zx4_0) : bi ≠ bc)); have bC := Aside0.mk ((by rw [hg]; exact Nat.ne_of_gt (blk_lt (g := bi) (o := .cells #[.int .u64 bh, .int .u64 bj, .slice (some bk) bb.length bl] 25 (0, 0)) zx4_0) : bc ≠ bi)); replace be := Aside0.mk (blk_below (g := bi) (o := .cells #[.int .u64 bh, .int .u64 bj, .slice (some bk) bb.length bl] 25 (0, 0)) zx4_0 hb); clear hb hbox hg; have gy := bC.out; have gv := bm.out; have gm : w28.cell? ⟨bc, 0, none⟩ = some (.string (⟨#[]⟩ : ByteArray)) := (blk_cell bd.out 0).trans rfl; have gl : w28.cell? ⟨bc, 1, none⟩ = some (.int .u64 0) := (blk_cell bd.out 1).trans rfl; have gj : w28.cell? ⟨bc, 2, none⟩ = some (.int .u64 0) := (blk_cell bd.out 2).trans rfl; have gi : w28.cell? ⟨bc, 3, none⟩ = some (.slice none 0 0) := (blk_cell bd.out 3).trans rfl; have gh : w28.cell? ⟨bc, 4, none⟩ = some (.int .u64 0) := (blk_cell bd.out 4).trans rfl; have gg : w28.cell? ⟨bc, 5, none⟩ = some (.int .u64 0) := (blk_cell bd.out 5).trans rfl; have gf : w28.cell? ⟨bc, 6, none⟩ = some (.int .u64 0) := (blk_cell bd.out 6).trans rfl; have dY := blk_frozen bd.out 0; have dX := blk_frozen bd.out 1; have dW := blk_frozen bd.out 2; have dV := blk_frozen bd.out 3; have dU := blk_frozen bd.out 4; have dT := blk_frozen bd.out 5; have dS := blk_frozen bd.out 6))
   have n0_ : Aside0 ((((((((w28.setCell ⟨bc, 0, none⟩ (.string ((rd_T55 bb ba).f0))).setCell ⟨bc, 1, none⟩ (.int .u64 ((rd_T55 bb ba).f1))).setCell ⟨bc, 2, none⟩ (.int .u64 ((rd_T55 bb ba).f2))).setCell ⟨bc, 3, none⟩ (.slice bg ((rd_T55 bb ba).f3).length bf)).setCell ⟨bc, 4, none⟩ (.int .u64 ((rd_T55 bb ba).f4))).setCell ⟨bc, 5, none⟩ (.int .u64 ((rd_T55 bb ba).f5))).setCell ⟨bc, 6, none⟩ (.int .u64 ((rd_T55 bb ba).f6))).heap[bi]? = some (.cells #[.int .u64 bh, .int .u64 bj, .slice (some bk) bb.length bl] 25 (0, 0))) := ⟨by (iterate 7 ((with_reducible repeat (first | refine blk_drewN ?_ _ | refine blk_drew ?_ | refine blk_alloc ?_ _)); refine blk_far ?_ bm.out _)); (with_reducible repeat (first | refine blk_drewN ?_ _ | refine blk_drew ?_ | refine blk_alloc ?_ _)); exact be.out⟩
   have n1_ : Aside0 ((((((((w28.setCell ⟨bc, 0, none⟩ (.string ((rd_T55 bb ba).f0))).setCell ⟨bc, 1, none⟩ (.int .u64 ((rd_T55 bb ba).f1))).setCell ⟨bc, 2, none⟩ (.int .u64 ((rd_T55 bb ba).f2))).setCell ⟨bc, 3, none⟩ (.slice bg ((rd_T55 bb ba).f3).length bf)).setCell ⟨bc, 4, none⟩ (.int .u64 ((rd_T55 bb ba).f4))).setCell ⟨bc, 5, none⟩ (.int .u64 ((rd_T55 bb ba).f5))).setCell ⟨bc, 6, none⟩ (.int .u64 ((rd_T55 bb ba).f6))).heap[bc]? = some (.cells #[.string ((rd_T55 bb ba).f0), .int .u64 ((rd_T55 bb ba).f1), .int .u64 ((rd_T55 bb ba).f2), .slice bg ((rd_T55 bb ba).f3).length bf, .int .u64 ((rd_T55 bb ba).f4), .int .u64 ((rd_T55 bb ba).f5), .int .u64 ((rd_T55 bb ba).f6)] 55 (0, 0))) := ⟨by (with_reducible repeat (first | refine blk_drewN ?_ _ | refine blk_drew ?_ | refine blk_alloc ?_ _)); refine blk_put (cs := #[.string ((rd_T55 bb ba).f0), .int .u64 ((rd_T55 bb ba).f1), .int .u64 ((rd_T55 bb ba).f2), .slice bg ((rd_T55 bb ba).f3).length bf, .int .u64 ((rd_T55 bb ba).f4), .int .u64 ((rd_T55 bb ba).f5), .int .u64 0]) ?_ 6 _ rfl; (with_reducible repeat (first | refine blk_drewN ?_ _ | refine blk_drew ?_ | refine blk_alloc ?_ _)); refine blk_put (cs := #[.string ((rd_T55 bb ba).f0), .int .u64 ((rd_T55 bb ba).f1), .int .u64 ((rd_T55 bb ba).f2), .slice bg ((rd_T55 bb ba).f3).length bf, .int .u64 ((rd_T55 bb ba).f4), .int .u64 0, .int .u64 0]) ?_ 5 _ rfl; (with_reducible repeat (first | refine blk_drewN ?_ _ | refine blk_drew ?_ | refine blk_alloc ?_ _)); refine blk_put (cs := #[.string ((rd_T55 bb ba).f0), .int .u64 ((rd_T55 bb ba).f1), .int .u64 ((rd_T55 bb ba).f2), .slice bg ((rd_T55 bb ba).f3).length bf, .int .u64 0, .int .u64 0, .int .u64 0]) ?_ 4 _ rfl; (with_reducible repeat (first | refine blk_drewN ?_ _ | refine blk_drew ?_ | refine blk_alloc ?_ _)); refine blk_put (cs := #[.string ((rd_T55 bb ba).f0), .int .u64 ((rd_T55 bb ba).f1), .int .u64 ((rd_T55 bb ba).f2), .slice none 0 0, .int .u64 0, .int .u64 0, .int .u64 0]) ?_ 3 _ rfl; (with_reducible repeat (first | refine blk_drewN ?_ _ | refine blk_drew ?_ | refine blk_alloc ?_ _)); refine blk_put (cs := #[.string ((rd_T55 bb ba).f0), .int .u64 ((rd_T55 bb ba).f1), .int .u64 0, .slice none 0 0, .int .u64 0, .int .u64 0, .int .u64 0]) ?_ 2 _ rfl; (with_reducible repeat (first | refine blk_drewN ?_ _ | refine blk_drew ?_ | refine blk_alloc ?_ _)); refine blk_put (cs := #[.string ((rd_T55 bb ba).f0), .int .u64 0, .int .u64 0, .slice none 0 0, .int .u64 0, .int .u64 0, .int .u64 0]) ?_ 1 _ rfl; (with_reducible repeat (first | refine blk_drewN ?_ _ | refine blk_drew ?_ | refine blk_alloc ?_ _)); refine blk_put (cs := #[.string (⟨#[]⟩ : ByteArray), .int .u64 0, .int .u64 0, .slice none 0 0, .int .u64 0, .int .u64 0, .int .u64 0]) ?_ 0 _ rfl; (with_reducible repeat (first | refine blk_drewN ?_ _ | refine blk_drew ?_ | refine blk_alloc ?_ _)); exact bd.out⟩
   have n2_ : Aside0 (Below w.heap.size w (((((((w28.setCell ⟨bc, 0, none⟩ (.string ((rd_T55 bb ba).f0))).setCell ⟨bc, 1, none⟩ (.int .u64 ((rd_T55 bb ba).f1))).setCell ⟨bc, 2, none⟩ (.int .u64 ((rd_T55 bb ba).f2))).setCell ⟨bc, 3, none⟩ (.slice bg ((rd_T55 bb ba).f3).length bf)).setCell ⟨bc, 4, none⟩ (.int .u64 ((rd_T55 bb ba).f4))).setCell ⟨bc, 5, none⟩ (.int .u64 ((rd_T55 bb ba).f5))).setCell ⟨bc, 6, none⟩ (.int .u64 ((rd_T55 bb ba).f6)))) := ⟨by repeat (first | (with_reducible first | exact HB.out | apply below_alloc | apply pw_below_drewN | apply below_drew1 | refine below_set ?_ bB.out | refine below_set ?_ bH.out) | exact HB.out)⟩
   (try clear be)
   (try clear bd)
   (try clear HB)
   generalize (((((((w28.setCell ⟨bc, 0, none⟩ (.string ((rd_T55 bb ba).f0))).setCell ⟨bc, 1, none⟩ (.int .u64 ((rd_T55 bb ba).f1))).setCell ⟨bc, 2, none⟩ (.int .u64 ((rd_T55 bb ba).f2))).setCell ⟨bc, 3, none⟩ (.slice bg ((rd_T55 bb ba).f3).length bf)).setCell ⟨bc, 4, none⟩ (.int .u64 ((rd_T55 bb ba).f4))).setCell ⟨bc, 5, none⟩ (.int .u64 ((rd_T55 bb ba).f5))).setCell ⟨bc, 6, none⟩ (.int .u64 ((rd_T55 bb ba).f6))) = w31 at n0_ n1_ n2_ ⊢
   have be := n0_
   have bd := n1_
   have HB := n2_
   clear n0_ n1_ n2_
   replace be := Aside0.mk (blk_drew be.out)
   replace bd := Aside0.mk (blk_drew bd.out)
   replace HB := Aside0.mk (below_drew1 HB.out)
   refine start_ (n := 14) (S := fun w' => w'.cell? ⟨bc, 0, none⟩ = some (.string ((rd_T55 bb ba).f0)) ∧ w'.cell? ⟨bc, 1, none⟩ = some (.int .u64 ((rd_T55 bb ba).f1)) ∧ w'.cell? ⟨bc, 2, none⟩ = some (.int .u64 ((rd_T55 bb ba).f2)) ∧ w'.cell? ⟨bc, 3, none⟩ = some (.slice bg ((rd_T55 bb ba).f3).length bf) ∧ w'.cell? ⟨bc, 4, none⟩ = some (.int .u64 ((rd_T55 bb ba).f4)) ∧ w'.cell? ⟨bc, 5, none⟩ = some (.int .u64 ((rd_T55 bb ba).f5)) ∧ w'.cell? ⟨bc, 6, none⟩ = some (.int .u64 ((rd_T55 bb ba).f6)) ∧ w'.cell? ⟨bi, 0, none⟩ = some (.int .u64 bh) ∧ w'.cell? ⟨bi, 1, none⟩ = some (.int .u64 bj) ∧ w'.cell? ⟨bi, 2, none⟩ = some (.slice (some bk) bb.length bl)) (ds := []) #[Ff,Ff,Ff,Ff,Ff,Ff,Ff,Ff,Ff,Ff,Ff,Ff,Ff,Ff] (by kernel_rfl) rfl rfl ⟨(blk_cell bd.out 0).trans rfl, (blk_cell bd.out 1).trans rfl, (blk_cell bd.out 2).trans rfl, (blk_cell bd.out 3).trans rfl, (blk_cell bd.out 4).trans rfl, (blk_cell bd.out 5).trans rfl, (blk_cell bd.out 6).trans rfl, (blk_cell be.out 0).trans rfl, (blk_cell be.out 1).trans rfl, (blk_cell be.out 2).trans rfl⟩ (fun hHeld => ?_); refine with_tabW ledger_Right.tab6 ledger_Right.bits6 (fun HT_ HW_ => ?_)
   generalize w31.drew = w32 at be bd HB hHeld ⊢
   refine take_ (i := 0) (N := some 29) (v := ?_) (a' := ?_) #[Tt,Ff,Ff,Ff,Ff,Ff,Ff,Ff,Ff,Ff,Ff,Ff,Ff,Ff] rfl rfl (take_ofW HT_.out HW_.out (by kernel_rfl)) (fun _ _ _ h => h) (Or.inl ⟨by rfl, ?_⟩) hHeld ?_ ?_
   rotate_left
   ·rintro w' ⟨s0, s1, s2, s3, s4, s5, s6, s7, s8, s9⟩
    go_simp
    with_reducible rfl
   rotate_left
   ·simp only [Act.put, List.setIfInBounds_toArray, List.set_cons_zero, List.set_cons_succ, i64_w, i32_w]
    rfl
   refine take_ (i := 1) (N := some 30) (v := ?_) (a' := ?_) #[Tt,Tt,Ff,Ff,Ff,Ff,Ff,Ff,Ff,Ff,Ff,Ff,Ff,Ff] rfl rfl (take_ofW HT_.out HW_.out (by kernel_rfl)) (fun _ _ _ h => h) (Or.inl ⟨by rfl, ?_⟩) hHeld ?_ ?_
   rotate_left
   ·rintro w' ⟨s0, s1, s2, s3, s4, s5, s6, s7, s8, s9⟩
    go_simp
    with_reducible rfl
   rotate_left
   ·simp only [Act.put, List.setIfInBounds_toArray, List.set_cons_zero, List.set_cons_succ, i64_w, i32_w]
    rfl
   refine one_ (i := 2) (N := some 31) #[Tt,Tt,Tt,Ff,Ff,Ff,Ff,Ff,Ff,Ff,Ff,Ff,Ff,Ff] rfl rfl (one_of HT_.out (by kernel_rfl)) (by decide) (fun K hK => ?_)
   refine goes_ Tryd.func31 (by kernel_rfl) rfl #[.agg #[.string ((rd_T55 bb ba).f0), .int .u64 ((rd_T55 bb ba).f1), .int .u64 ((rd_T55 bb ba).f2), .slice bg ((rd_T55 bb ba).f3).length bf, .int .u64 ((rd_T55 bb ba).f4), .int .u64 ((rd_T55 bb ba).f5), .int .u64 ((rd_T55 bb ba).f6)], .agg #[.int .u64 bh, .int .u64 bj, .slice (some bk) bb.length bl]] (by rfl) rfl rfl zx4_3 ?_
   with_reducible refine (ledger_Dest_right.calls k2 ((rd_T55 bb ba).f0) ((rd_T55 bb ba).f1) ((rd_T55 bb ba).f2) _ _ ((rd_T55 bb ba).f3) ((rd_T55 bb ba).f4) ((rd_T55 bb ba).f5) ((rd_T55 bb ba).f6) bh bj _ _ bb true _ ?side1 ?side2 ?side3 ?side4 A14.out).mono ?_
   (case side1 => repeat (first | exact (Kd.C_below bE.out HB.out) | (with_reducible refine Kd.C_alloc ?_ _) | (with_reducible refine Kd.C_drewN ?_ _) | (with_reducible refine Kd.C_drew ?_)))
   (case side2 => exact bG.out)
   (case side3 => repeat (first | exact (Kd.C_below bI.out HB.out) | (with_reducible refine Kd.C_alloc ?_ _) | (with_reducible refine Kd.C_drewN ?_ _) | (with_reducible refine Kd.C_drew ?_)))
   (case side4 => exact bP.out)
   rintro e w33 ⟨rfl, hb⟩
   refine ⟨_, rfl, ?_⟩
   replace be := Aside0.mk (blk_below (g := bi) (o := .cells #[.int .u64 bh, .int .u64 bj, .slice (some bk) bb.length bl] 25 (0, 0)) zx4_0 hb)
   replace bd := Aside0.mk (blk_below (g := bc) (o := .cells #[.string ((rd_T55 bb ba).f0), .int .u64 ((rd_T55 bb ba).f1), .int .u64 ((rd_T55 bb ba).f2), .slice bg ((rd_T55 bb ba).f3).length bf, .int .u64 ((rd_T55 bb ba).f4), .int .u64 ((rd_T55 bb ba).f5), .int .u64 ((rd_T55 bb ba).f6)] 55 (0, 0)) zx4_5 hb)
   replace HB := Aside0.mk (below_step zx4_2 hb)
   (try clear hb)
   (try clear hb2)
   (try clear hk)
   (try clear hi)
   have q34 : (ba : Int) ≤ ((bb.length : Int) : Int) := of_decide_eq_true zx4_4
   obtain ⟨gG, dr, _, dD, _⟩ := info_parts info55
   have bS : bb.length ≤ bl := bP.out
   have dF : Kd.C k55 _ (some bk) bb.length bb := bI.out
   have dA := cut_to (P := Tryd.prog) 23 55 .i64 Tryd.underlying23 dr (some bk) bb.length bl ba (of_decide_eq_true zx4_4) q34 bS
   have dy := Kd.C_take (m := (ba : Int).toNat) dF (by omega)
   have dw : bN.length = (ba : Int).toNat := (by rw [bV.out, List.length_take]; omega)
   rw [← bV.out] at dy
   rw [← dw] at dA
   have df := Aside0.mk dy
   have dg := Aside0.mk (show bN.length ≤ bl from by omega)
   clear dy dF bS dr dD
   have gK := Aside0.mk dw
   clear dw
   replace q34 := eq_true q34
   refine hK.out _ _ ⟨(blk_cell bd.out 0).trans rfl, (blk_cell bd.out 1).trans rfl, (blk_cell bd.out 2).trans rfl, (blk_cell bd.out 3).trans rfl, (blk_cell bd.out 4).trans rfl, (blk_cell bd.out 5).trans rfl, (blk_cell bd.out 6).trans rfl, (blk_cell be.out 0).trans rfl, (blk_cell be.out 1).trans rfl, (blk_cell be.out 2).trans rfl⟩ (fun hHeld => ?_)
   clear hK K
   refine na_ 31 ?_
   refine pp_ 3 (some 32) HT_.out ?_
   refine pp_ 4 (some 33) HT_.out ?_
   refine pp_ 5 (some 34) HT_.out ?_
   refine pp_ 7 (some 36) HT_.out ?_
   refine pp_ 9 (some 38) HT_.out ?_
   refine take_ (i := 6) (N := some 35) (v := ?_) (a' := ?_) #[Tt,Tt,Tt,Tt,Tt,Tt,Tt,Tt,Ff,Tt,Ff,Ff,Ff,Ff] rfl rfl (take_ofW HT_.out HW_.out (by kernel_rfl)) (fun _ _ _ h => h) (Or.inl ⟨by rfl, ?_⟩) hHeld ?_ ?_
   rotate_left
   ·rintro w' ⟨s0, s1, s2, s3, s4, s5, s6, s7, s8, s9⟩
    go_simp
    with_reducible rfl
   rotate_left
   ·simp only [Act.put, List.setIfInBounds_toArray, List.set_cons_zero, List.set_cons_succ, i64_w, i32_w]
    rfl
   refine pp_ 8 (some 37) HT_.out ?_
   refine take_ (i := 10) (N := some 39) (v := ?_) (a' := ?_) #[Tt,Tt,Tt,Tt,Tt,Tt,Tt,Tt,Tt,Tt,Tt,Ff,Ff,Ff] rfl rfl (take_ofW HT_.out HW_.out (by kernel_rfl)) (fun _ _ _ h => h) (Or.inl ⟨by rfl, ?_⟩) hHeld ?_ ?_
   rotate_left
   ·rintro w' ⟨s0, s1, s2, s3, s4, s5, s6, s7, s8, s9⟩
    go_simp
    with_reducible rfl
   rotate_left
   ·simp only [Act.put, List.setIfInBounds_toArray, List.set_cons_zero, List.set_cons_succ, i64_w, i32_w]
    rfl
   refine one_ (i := 11) (N := some 40) #[Tt,Tt,Tt,Tt,Tt,Tt,Tt,Tt,Tt,Tt,Tt,Tt,Ff,Ff] rfl rfl (one_of HT_.out (by kernel_rfl)) (by decide) (fun K hK => ?_)
   refine goes_ Tryd.func32 (by kernel_rfl) rfl #[.slice (some bk) bN.length bl, .string ((rd_T55 bb ba).f0)] (by rfl) rfl rfl zx4_3 ?_
   with_reducible refine (ledger_place.calls _ _ bN ((rd_T55 bb ba).f0) bD _ ?side1 ?side2 A18.out).mono ?_
   (case side1 => repeat (first | exact (Kd.C_below df.out HB.out) | (with_reducible refine Kd.C_alloc ?_ _) | (with_reducible refine Kd.C_drewN ?_ _) | (with_reducible refine Kd.C_drew ?_)))
   (case side2 => exact dg.out)
   rintro e w35 ⟨rfl, hb⟩
   refine ⟨_, rfl, ?_⟩
   replace be := Aside0.mk (blk_below (g := bi) (o := .cells #[.int .u64 bh, .int .u64 bj, .slice (some bk) bb.length bl] 25 (0, 0)) zx4_0 hb)
   replace bd := Aside0.mk (blk_below (g := bc) (o := .cells #[.string ((rd_T55 bb ba).f0), .int .u64 ((rd_T55 bb ba).f1), .int .u64 ((rd_T55 bb ba).f2), .slice bg ((rd_T55 bb ba).f3).length bf, .int .u64 ((rd_T55 bb ba).f4), .int .u64 ((rd_T55 bb ba).f5), .int .u64 ((rd_T55 bb ba).f6)] 55 (0, 0)) zx4_5 hb)
   replace HB := Aside0.mk (below_step zx4_2 hb)
   (try clear hb)
   (try clear hb2)
   (try clear hk)
   (try clear hi)
   refine hK.out _ _ ⟨(blk_cell bd.out 0).trans rfl, (blk_cell bd.out 1).trans rfl, (blk_cell bd.out 2).trans rfl, (blk_cell bd.out 3).trans rfl, (blk_cell bd.out 4).trans rfl, (blk_cell bd.out 5).trans rfl, (blk_cell bd.out 6).trans rfl, (blk_cell be.out 0).trans rfl, (blk_cell be.out 1).trans rfl, (blk_cell be.out 2).trans rfl⟩ (fun hHeld => ?_)
   clear hK K
   refine na_ 40 ?_
   refine pp_ 12 (some 41) HT_.out ?_
   refine pp_ 13 (some 42) HT_.out ?_
   refine done_ (done_of HT_.out (by kernel_rfl)) ?_
   try go_wp2
   go_roundg k2
   case measure => have := HJ1.out; have := HK2.out; omega
   case rel => exact ⟨(wrap64 (ba + 1)), (by first | rfl | (simp; done) | (simp [*]; done)), H', ⟨by have := HJ1.out; have := HK2.out; omega⟩, ⟨by (with_reducible repeat (first | refine blk_drewN ?_ _ | refine blk_drew ?_ | refine blk_alloc ?_ _)); exact be.out⟩, ⟨by repeat (first | (with_reducible first | exact HB.out | apply below_alloc | apply pw_below_drewN | apply below_drew1 | refine below_set ?_ bB.out | refine below_set ?_ bH.out) | exact HB.out)⟩⟩
end Go.Proofs.YtmbigoeldobaiaaDoor.XMrk
end
section
/- What the functions of the translation answer, each as a plain Lean function, and that the code comes to it; for a law: its row. Conditions: none but those that each theorem names. Written by a program of this session (wip/xp). -/
namespace Go.Proofs.YtmbigoeldobaiaaDoor.XMrk
open Go.RowKit Go.Proofs.YtmbigoeldobaiaaDoorW.PrintWords Go.Proofs.YtmbigoeldobaiaaDoorW.PrintLast Go.Proofs.YtmbigoeldobaiaaDoorW.PrintMore
attribute [local go_sem] max2_int min2_int max_two min_two max_three min_three max_four min_four   -- for this text's walks alone
theorem cx20_bc3 {w : World} {g : Nat} {t : TypeId} {x0 x1 x2 : Value} (h : w.heap[g]? = some (.cells #[x0, x1, x2] t (0, 0))) : w.cell? ⟨g, 0, none⟩ = some x0 ∧ w.cell? ⟨g, 1, none⟩ = some x1 ∧ w.cell? ⟨g, 2, none⟩ = some x2 ∧ w.frozen? ⟨g, 0, none⟩ = false ∧ w.frozen? ⟨g, 1, none⟩ = false ∧ w.frozen? ⟨g, 2, none⟩ = false :=
 ⟨(blk_cell h 0).trans rfl, (blk_cell h 1).trans rfl, (blk_cell h 2).trans rfl, blk_frozen h 0, blk_frozen h 1, blk_frozen h 2⟩
theorem zx20_3 {p : Prop} (h : p := by (with_reducible repeat (first | apply Kd.V_alloc | apply Kd.V_drewN | apply Kd.V_drew)); exact bh.out) : p := h
theorem zx20_1 {p : Prop} (h : p := by (with_reducible repeat (first | refine blk_drewN ?_ _ | refine blk_drew ?_ | refine blk_alloc ?_ _)); exact bc.out) : p := h
theorem zx20_2 {p : Prop} (h : p := by (with_reducible repeat (first | refine blk_drewN ?_ _ | refine blk_drew ?_ | refine blk_alloc ?_ _)); exact bf.out) : p := h
theorem zx20_5 {p : Prop} (h : p := by repeat (first | (with_reducible first | exact HB.out | apply below_alloc | apply pw_below_drewN | apply below_drew1) | exact HB.out)) : p := h
theorem zx20_7 {p : Prop} (h : p := by (try simp only [List.map_toArray, List.map_cons, List.map_nil]); first | done | rfl | (simp only [List.length_drop, List.length_take]; rfl)) : p := h
theorem zx20_4 {p : Prop} (h : p := by repeat (first | (with_reducible first | exact HB.out | apply below_alloc | apply pw_below_drewN | apply below_drew1 | refine below_set ?_ bu.out) | exact HB.out)) : p := h
theorem zx20_0 {p : Prop} (h : p := by repeat (first | (with_reducible first | exact HB.out | apply below_alloc | apply pw_below_drewN | apply below_drew1 | refine below_set ?_ bu.out | refine below_set ?_ bx.out) | exact HB.out)) : p := h
theorem zx20_6 {p : Prop} (h : p := by (with_reducible repeat (first | refine blk_drewN ?_ _ | refine blk_drew ?_ | refine blk_alloc ?_ _)); refine blk_put (cs := #[.int .u64 0, .int .u64 0, .slice none 0 0]) ?_ 2 _ rfl; (with_reducible repeat (first | refine blk_drewN ?_ _ | refine blk_drew ?_ | refine blk_alloc ?_ _)); refine blk_put (cs := #[.int .u64 0, .int .u64 0, .slice none 0 0]) ?_ 1 _ rfl; (with_reducible repeat (first | refine blk_drewN ?_ _ | refine blk_drew ?_ | refine blk_alloc ?_ _)); refine blk_put (cs := #[.int .u64 0, .int .u64 0, .slice none 0 0]) ?_ 0 _ rfl; (with_reducible repeat (first | refine blk_drewN ?_ _ | refine blk_drew ?_ | refine blk_alloc ?_ _)); exact bf.out) : p := h
set_option linter.unusedVariables false
set_option linter.unusedSimpArgs false

/-! ### ledger_Join: function 36 -/
def ledger_Join.f (bg : Int) (bd : Int) (be : List (S55)) (a1 : ByteArray) : Option (Int × Int × (List (S55)) × Int) := (label_Name.f a1).bind fun bE => (if bE = true then ((ledger_place.f be a1).bind fun br => (if br ≥ 0 then (some (0, 0, ([] : List (S55)), 4)) else (if (be.length : Int) ≥ 4 then (some (0, 0, ([] : List (S55)), 6)) else ((ledger_Dest_39.f be).bind fun bo => ((some (([(⟨a1, bd, bd, ([] : List Int), 0, 0, 0⟩ : S55)] : List (S55)) : List (S55))).bind fun bn => (if bo.length + bn.length < 1759218604441 then (some (bg, bd, (bo ++ bn), 0)) else (none))))))) else (some (0, 0, ([] : List (S55)), 3)))
def ledger_Join.T7 : Bool × List (List Nat × List Nat) := (true, [([], []), ([0], [0]), ([1], [1]), ([], []), ([], []), ([4], [4]), ([], []), ([6], [6]), ([3, 5, 7], [3, 5, 7]), ([8], [8]), ([2, 9, 2], [2, 9]), ([0, 1, 2, 3, 4, 5, 6, 7, 8, 9, 10], []), ([11, 10, 10, 0, 1, 2, 3, 4, 5, 6, 7, 8, 9, 10], [10, 11])])
def ledger_Join.B7 : List Nat := [0, 1, 3, 0, 0, 16, 0, 64, 248, 504, 1023, 2047, 4095]
theorem ledger_Join.tab7 : rtab .any (opsOf Tryd.f36 7) = ledger_Join.T7 := by kernel_rfl
theorem ledger_Join.bits7 : waitsOk ledger_Join.T7.2 ledger_Join.B7 = true := by kernel_rfl
set_option maxHeartbeats 8000000 in
set_option maxRecDepth 100000 in
theorem ledger_Join.calls (bg : Int) (bd : Int) (bk : Nat → Prop) (bj : Option Addr) (bi : Nat) (be : List (S55)) (a1 : ByteArray) (r1 : Int) (r2 : Int) (r3 : List (S55)) (r4 : Int) (w : World) (bN : Kd.V k55 55 w w.heap.size (fun k_ => bk k_) (.slice bj be.length bi) be) (h : ledger_Join.f bg bd be a1 = some (r1, r2, r3, r4)) :
  Calls Tryd.prog 36 #[.agg #[.int .u64 bg, .int .u64 bd, .slice bj be.length bi], .string a1] w fun e w' => ∃ v2_ : Value, e = .returned (.tuple #[.agg #[.int .u64 r1, .int .u64 r2, v2_], .int .i64 r4]) ∧ Kd.N k55 55 w' w.heap.size (fun k_ => (bk k_ ∨ w.heap.size ≤ k_)) v2_ r3 ∧ Below w.heap.size w w' := by
 have gc := Tryd.underlying25
 have gb := Tryd.underlying55
 have bh := Aside0.mk (show Kd.V k55 55 w w.heap.size (fun k_ => (bk k_ ∨ w.heap.size ≤ k_)) (.slice bj be.length bi) be from Kd.V_mono bN (fun k_ hk => .inl hk))
 have HB := Aside0.mk (Below.refl w.heap.size w)
 have H : ((label_Name.f a1).bind fun bE => (if bE = true then ((ledger_place.f be a1).bind fun br => (if br ≥ 0 then (some (0, 0, ([] : List (S55)), 4)) else (if (be.length : Int) ≥ 4 then (some (0, 0, ([] : List (S55)), 6)) else ((ledger_Dest_39.f be).bind fun bo => ((some (([(⟨a1, bd, bd, ([] : List Int), 0, 0, 0⟩ : S55)] : List (S55)) : List (S55))).bind fun bn => (if bo.length + bn.length < 1759218604441 then (some (bg, bd, (bo ++ bn), 0)) else (none))))))) else (some (0, 0, ([] : List (S55)), 3)))) = some (r1, r2, r3, r4) := h
 clear h
 replace H := Option.bind_eq_some_iff.mp H
 obtain ⟨bE, A30, H⟩ := H
 replace H : (if bE = true then ((ledger_place.f be a1).bind fun br => (if br ≥ 0 then (some (0, 0, ([] : List (S55)), 4)) else (if (be.length : Int) ≥ 4 then (some (0, 0, ([] : List (S55)), 6)) else ((ledger_Dest_39.f be).bind fun bo => ((some (([(⟨a1, bd, bd, ([] : List Int), 0, 0, 0⟩ : S55)] : List (S55)) : List (S55))).bind fun bn => (if bo.length + bn.length < 1759218604441 then (some (bg, bd, (bo ++ bn), 0)) else (none))))))) else (some (0, 0, ([] : List (S55)), 3))) = some (r1, r2, r3, r4) := H
 have A3 := Aside0.mk A30
 clear A30
 by_cases c4 : bE = true
 case neg =>
  replace c4 := Bool.eq_false_iff.mpr c4
  subst c4
  have H1 : (some (0, 0, ([] : List (S55)), 3)) = some (r1, r2, r3, r4) := by rw [if_neg (show ¬ (false = true) by decide)] at H; exact H
  clear H
  have H := H1
  clear H1
  simp only [Option.some.injEq, Prod.mk.injEq] at H
  obtain ⟨rfl, rfl, rfl, rfl⟩ := H
  go_enter Tryd.func36, Tryd.ntmps36
  go_wp2_with (first | ((with_reducible refine gate_dst (N := 2) rfl ?_); refine box_event ?hg (N := 2) ?hd (cs := #[.int .u64 bg, .int .u64 bd, .slice bj be.length bi]) (t := 25) ?hr ?_; (case hd => rfl); (case hg => rfl); (case hr => first | (go_simp; done) | (go_simp; rfl)); intro ba hg w43 hbox hb; replace bh := Aside0.mk (Kd.V_below (Kd.V_elderB zx20_3 ba (Nat.le_of_eq hg.symm)) hb); have bc := Aside0.mk (hbox); have bI := Aside0.mk ((by rw [hg]; exact (below_size zx20_5) : w.heap.size ≤ ba)); have bu := Aside0.mk ((by rw [hg]; exact (below_size zx20_5) : w.heap.size ≤ ba)); replace HB := Aside0.mk (below_step zx20_5 hb); clear hb hbox hg) | ((with_reducible refine gate_dst (N := 4) rfl ?_); refine box_event ?hg (N := 4) ?hd (cs := #[.int .u64 0, .int .u64 0, .slice none 0 0]) (t := 25) ?hr ?_; (case hd => rfl); (case hg => rfl); (case hr => first | (go_simp; done) | (go_simp; rfl)); intro bb hg w44 hbox hb; replace bh := Aside0.mk (Kd.V_below (Kd.V_elderB zx20_3 bb (Nat.le_of_eq hg.symm)) hb); have bf := Aside0.mk (hbox); have bH := Aside0.mk ((by rw [hg]; exact (below_size zx20_4) : w.heap.size ≤ bb)); have bx := Aside0.mk ((by rw [hg]; exact (below_size zx20_4) : w.heap.size ≤ bb)); replace HB := Aside0.mk (below_step zx20_4 hb); have bm := Aside0.mk ((by rw [hg]; exact Nat.ne_of_lt (blk_lt (g := ba) (o := .cells #[.int .u64 bg, .int .u64 bd, .slice bj be.length bi] 25 (0, 0)) zx20_1) : ba ≠ bb)); have bl := Aside0.mk ((by rw [hg]; exact Nat.ne_of_gt (blk_lt (g := ba) (o := .cells #[.int .u64 bg, .int .u64 bd, .slice bj be.length bi] 25 (0, 0)) zx20_1) : bb ≠ ba)); replace bc := Aside0.mk (blk_below (g := ba) (o := .cells #[.int .u64 bg, .int .u64 bd, .slice bj be.length bi] 25 (0, 0)) zx20_1 hb); clear hb hbox hg) | ((with_reducible refine gate_callee (f := 48) rfl ?_); refine goesL_ (some 8) rfl rfl Tryd.func48 (by kernel_rfl) rfl #[.string a1] rfl zx20_7 ?_; (with_reducible refine (label_Name.calls a1 false _ A3.out).mono ?_); rintro e w45 ⟨rfl, hb⟩; refine ⟨_, rfl, ?_⟩; replace bh := Aside0.mk (Kd.V_below zx20_3 hb); replace bc := Aside0.mk (blk_below (g := ba) (o := .cells #[.int .u64 bg, .int .u64 bd, .slice bj be.length bi] 25 (0, 0)) zx20_1 hb); replace bf := Aside0.mk (blk_below (g := bb) (o := .cells #[.int .u64 0, .int .u64 0, .slice none 0 0] 25 (0, 0)) zx20_2 hb); replace HB := Aside0.mk (below_step zx20_0 hb); (try clear hb); (try clear hb2); (try clear hk); (try clear hi); have d5 := bl.out; have d1 := bm.out; have dw : w45.cell? ⟨bb, 0, none⟩ = some (.int .u64 0) := (blk_cell bf.out 0).trans rfl; have dv : w45.cell? ⟨bb, 1, none⟩ = some (.int .u64 0) := (blk_cell bf.out 1).trans rfl; have du : w45.cell? ⟨bb, 2, none⟩ = some (.slice none 0 0) := (blk_cell bf.out 2).trans rfl; have b0 := blk_frozen bf.out 0; have bZ := blk_frozen bf.out 1; have bY := blk_frozen bf.out 2))
  refine bodyPost_ret (results_ct rfl _ _ bb 25 #[.int .u64 0, .int .u64 0, .slice none 0 0] (0, 0) _ rfl zx20_6 Tryd.underlying25 rfl (by kernel_rfl)) rfl ?_
  exact ⟨_, by first | rfl | (simp [errW_none, errW_some] <;> rfl) | (simp [*, errW_none, errW_some] <;> rfl), by first | exact Kd.S_nil _ _ _ _ _ | exact Kd.N_nil _ _ _ _ _ | exact Kd.V_nil _ _ _ _ _ | exact Kd.Q_nil _ _ _ _ _ | exact Kd.R_nil _ _ _ _ _, by repeat (first | (with_reducible first | exact HB.out | apply below_alloc | apply pw_below_drewN | apply below_drew1 | refine below_set ?_ bu.out | refine below_set ?_ bx.out) | exact HB.out)⟩

 subst c4
 have H1 : ((ledger_place.f be a1).bind fun br => (if br ≥ 0 then (some (0, 0, ([] : List (S55)), 4)) else (if (be.length : Int) ≥ 4 then (some (0, 0, ([] : List (S55)), 6)) else ((ledger_Dest_39.f be).bind fun bo => ((some (([(⟨a1, bd, bd, ([] : List Int), 0, 0, 0⟩ : S55)] : List (S55)) : List (S55))).bind fun bn => (if bo.length + bn.length < 1759218604441 then (some (bg, bd, (bo ++ bn), 0)) else (none))))))) = some (r1, r2, r3, r4) := by rw [if_pos rfl] at H; exact H
 clear H
 have H := H1
 clear H1
 replace H := Option.bind_eq_some_iff.mp H
 obtain ⟨br, A50, H⟩ := H
 replace H : (if br ≥ 0 then (some (0, 0, ([] : List (S55)), 4)) else (if (be.length : Int) ≥ 4 then (some (0, 0, ([] : List (S55)), 6)) else ((ledger_Dest_39.f be).bind fun bo => ((some (([(⟨a1, bd, bd, ([] : List Int), 0, 0, 0⟩ : S55)] : List (S55)) : List (S55))).bind fun bn => (if bo.length + bn.length < 1759218604441 then (some (bg, bd, (bo ++ bn), 0)) else (none)))))) = some (r1, r2, r3, r4) := H
 have A5 := Aside0.mk A50
 clear A50
 by_cases c6 : br ≥ 0
 ·rw [if_pos c6] at H
  have dZ : decide (0 ≤ br) = true := decide_eq_true c6
  clear c6
  simp only [Option.some.injEq, Prod.mk.injEq] at H
  obtain ⟨rfl, rfl, rfl, rfl⟩ := H
  go_enter Tryd.func36, Tryd.ntmps36
  go_wp2_with (first | ((with_reducible refine gate_dst (N := 2) rfl ?_); refine box_event ?hg (N := 2) ?hd (cs := #[.int .u64 bg, .int .u64 bd, .slice bj be.length bi]) (t := 25) ?hr ?_; (case hd => rfl); (case hg => rfl); (case hr => first | (go_simp; done) | (go_simp; rfl)); intro ba hg w7 hbox hb; replace bh := Aside0.mk (Kd.V_below (Kd.V_elderB zx20_3 ba (Nat.le_of_eq hg.symm)) hb); have bc := Aside0.mk (hbox); have bI := Aside0.mk ((by rw [hg]; exact (below_size zx20_5) : w.heap.size ≤ ba)); have bu := Aside0.mk ((by rw [hg]; exact (below_size zx20_5) : w.heap.size ≤ ba)); replace HB := Aside0.mk (below_step zx20_5 hb); clear hb hbox hg) | ((with_reducible refine gate_dst (N := 4) rfl ?_); refine box_event ?hg (N := 4) ?hd (cs := #[.int .u64 0, .int .u64 0, .slice none 0 0]) (t := 25) ?hr ?_; (case hd => rfl); (case hg => rfl); (case hr => first | (go_simp; done) | (go_simp; rfl)); intro bb hg w8 hbox hb; replace bh := Aside0.mk (Kd.V_below (Kd.V_elderB zx20_3 bb (Nat.le_of_eq hg.symm)) hb); have bf := Aside0.mk (hbox); have bH := Aside0.mk ((by rw [hg]; exact (below_size zx20_4) : w.heap.size ≤ bb)); have bx := Aside0.mk ((by rw [hg]; exact (below_size zx20_4) : w.heap.size ≤ bb)); replace HB := Aside0.mk (below_step zx20_4 hb); have bm := Aside0.mk ((by rw [hg]; exact Nat.ne_of_lt (blk_lt (g := ba) (o := .cells #[.int .u64 bg, .int .u64 bd, .slice bj be.length bi] 25 (0, 0)) zx20_1) : ba ≠ bb)); have bl := Aside0.mk ((by rw [hg]; exact Nat.ne_of_gt (blk_lt (g := ba) (o := .cells #[.int .u64 bg, .int .u64 bd, .slice bj be.length bi] 25 (0, 0)) zx20_1) : bb ≠ ba)); replace bc := Aside0.mk (blk_below (g := ba) (o := .cells #[.int .u64 bg, .int .u64 bd, .slice bj be.length bi] 25 (0, 0)) zx20_1 hb); clear hb hbox hg) | ((with_reducible refine gate_callee (f := 48) rfl ?_); refine goesL_ (some 8) rfl rfl Tryd.func48 (by kernel_rfl) rfl #[.string a1] rfl zx20_7 ?_; (with_reducible refine (label_Name.calls a1 true _ A3.out).mono ?_); rintro e w9 ⟨rfl, hb⟩; refine ⟨_, rfl, ?_⟩; replace bh := Aside0.mk (Kd.V_below zx20_3 hb); replace bc := Aside0.mk (blk_below (g := ba) (o := .cells #[.int .u64 bg, .int .u64 bd, .slice bj be.length bi] 25 (0, 0)) zx20_1 hb); replace bf := Aside0.mk (blk_below (g := bb) (o := .cells #[.int .u64 0, .int .u64 0, .slice none 0 0] 25 (0, 0)) zx20_2 hb); replace HB := Aside0.mk (below_step zx20_0 hb); (try clear hb); (try clear hb2); (try clear hk); (try clear hi); have d8 := bm.out; have d4 := bl.out; have dX : w9.cell? ⟨ba, 0, none⟩ = some (.int .u64 bg) := (blk_cell bc.out 0).trans rfl; have dW : w9.cell? ⟨ba, 1, none⟩ = some (.int .u64 bd) := (blk_cell bc.out 1).trans rfl; have dV : w9.cell? ⟨ba, 2, none⟩ = some (.slice bj be.length bi) := (blk_cell bc.out 2).trans rfl; have dt := blk_frozen bc.out 0; have dr := blk_frozen bc.out 1; have dq := blk_frozen bc.out 2) | ((with_reducible refine gate_callee (f := 32) rfl ?_); refine goesL_ (some 15) rfl rfl Tryd.func32 (by kernel_rfl) rfl #[.slice bj be.length bi, .string a1] rfl zx20_7 ?_; (with_reducible refine (ledger_place.calls _ _ be a1 br _ ?side1 ?side2 A5.out).mono ?_); (case side1 => repeat (first | exact (Kd.V_reads' bh.out).2.2 | (with_reducible refine Kd.C_alloc ?_ _) | (with_reducible refine Kd.C_drewN ?_ _) | (with_reducible refine Kd.C_drew ?_))); (case side2 => exact (Kd.V_reads' bh.out).2.1); rintro e w12 ⟨rfl, hb⟩; refine ⟨_, rfl, ?_⟩; replace bh := Aside0.mk (Kd.V_below zx20_3 hb); replace bc := Aside0.mk (blk_below (g := ba) (o := .cells #[.int .u64 bg, .int .u64 bd, .slice bj be.length bi] 25 (0, 0)) zx20_1 hb); replace bf := Aside0.mk (blk_below (g := bb) (o := .cells #[.int .u64 0, .int .u64 0, .slice none 0 0] 25 (0, 0)) zx20_2 hb); replace HB := Aside0.mk (below_step zx20_0 hb); (try clear hb); (try clear hb2); (try clear hk); (try clear hi); have dU : w12.cell? ⟨bb, 0, none⟩ = some (.int .u64 0) := (blk_cell bf.out 0).trans rfl; have dT : w12.cell? ⟨bb, 1, none⟩ = some (.int .u64 0) := (blk_cell bf.out 1).trans rfl; have dS : w12.cell? ⟨bb, 2, none⟩ = some (.slice none 0 0) := (blk_cell bf.out 2).trans rfl; have dp := blk_frozen bf.out 0; have dn := blk_frozen bf.out 1; have dm := blk_frozen bf.out 2))
  refine bodyPost_ret (results_ct rfl _ _ bb 25 #[.int .u64 0, .int .u64 0, .slice none 0 0] (0, 0) _ rfl zx20_6 Tryd.underlying25 rfl (by kernel_rfl)) rfl ?_
  exact ⟨_, by first | rfl | (simp [errW_none, errW_some] <;> rfl) | (simp [*, errW_none, errW_some] <;> rfl), by first | exact Kd.S_nil _ _ _ _ _ | exact Kd.N_nil _ _ _ _ _ | exact Kd.V_nil _ _ _ _ _ | exact Kd.Q_nil _ _ _ _ _ | exact Kd.R_nil _ _ _ _ _, by repeat (first | (with_reducible first | exact HB.out | apply below_alloc | apply pw_below_drewN | apply below_drew1 | refine below_set ?_ bu.out | refine below_set ?_ bx.out) | exact HB.out)⟩
 rw [if_neg c6] at H
 have dZ : decide (0 ≤ br) = false := decide_eq_false c6
 clear c6
 by_cases c14 : (be.length : Int) ≥ 4
 ·rw [if_pos c14] at H
  have bR : decide (4 ≤ (be.length : Int)) = true := decide_eq_true c14
  have bQ : decide (4 ≤ be.length) = true := decide_eq_true (by omega)
  clear c14
  simp only [Option.some.injEq, Prod.mk.injEq] at H
  obtain ⟨rfl, rfl, rfl, rfl⟩ := H
  go_enter Tryd.func36, Tryd.ntmps36
  go_wp2_with (first | ((with_reducible refine gate_dst (N := 2) rfl ?_); refine box_event ?hg (N := 2) ?hd (cs := #[.int .u64 bg, .int .u64 bd, .slice bj be.length bi]) (t := 25) ?hr ?_; (case hd => rfl); (case hg => rfl); (case hr => first | (go_simp; done) | (go_simp; rfl)); intro ba hg w15 hbox hb; replace bh := Aside0.mk (Kd.V_below (Kd.V_elderB zx20_3 ba (Nat.le_of_eq hg.symm)) hb); have bc := Aside0.mk (hbox); have bI := Aside0.mk ((by rw [hg]; exact (below_size zx20_5) : w.heap.size ≤ ba)); have bu := Aside0.mk ((by rw [hg]; exact (below_size zx20_5) : w.heap.size ≤ ba)); replace HB := Aside0.mk (below_step zx20_5 hb); clear hb hbox hg) | ((with_reducible refine gate_dst (N := 4) rfl ?_); refine box_event ?hg (N := 4) ?hd (cs := #[.int .u64 0, .int .u64 0, .slice none 0 0]) (t := 25) ?hr ?_; (case hd => rfl); (case hg => rfl); (case hr => first | (go_simp; done) | (go_simp; rfl)); intro bb hg w16 hbox hb; replace bh := Aside0.mk (Kd.V_below (Kd.V_elderB zx20_3 bb (Nat.le_of_eq hg.symm)) hb); have bf := Aside0.mk (hbox); have bH := Aside0.mk ((by rw [hg]; exact (below_size zx20_4) : w.heap.size ≤ bb)); have bx := Aside0.mk ((by rw [hg]; exact (below_size zx20_4) : w.heap.size ≤ bb)); replace HB := Aside0.mk (below_step zx20_4 hb); have bm := Aside0.mk ((by rw [hg]; exact Nat.ne_of_lt (blk_lt (g := ba) (o := .cells #[.int .u64 bg, .int .u64 bd, .slice bj be.length bi] 25 (0, 0)) zx20_1) : ba ≠ bb)); have bl := Aside0.mk ((by rw [hg]; exact Nat.ne_of_gt (blk_lt (g := ba) (o := .cells #[.int .u64 bg, .int .u64 bd, .slice bj be.length bi] 25 (0, 0)) zx20_1) : bb ≠ ba)); replace bc := Aside0.mk (blk_below (g := ba) (o := .cells #[.int .u64 bg, .int .u64 bd, .slice bj be.length bi] 25 (0, 0)) zx20_1 hb); clear hb hbox hg) | ((with_reducible refine gate_callee (f := 48) rfl ?_); refine goesL_ (some 8) rfl rfl Tryd.func48 (by kernel_rfl) rfl #[.string a1] rfl zx20_7 ?_; (with_reducible refine (label_Name.calls a1 true _ A3.out).mono ?_); rintro e w17 ⟨rfl, hb⟩; refine ⟨_, rfl, ?_⟩; replace bh := Aside0.mk (Kd.V_below zx20_3 hb); replace bc := Aside0.mk (blk_below (g := ba) (o := .cells #[.int .u64 bg, .int .u64 bd, .slice bj be.length bi] 25 (0, 0)) zx20_1 hb); replace bf := Aside0.mk (blk_below (g := bb) (o := .cells #[.int .u64 0, .int .u64 0, .slice none 0 0] 25 (0, 0)) zx20_2 hb); replace HB := Aside0.mk (below_step zx20_0 hb); (try clear hb); (try clear hb2); (try clear hk); (try clear hi); have d7 := bm.out; have d3 := bl.out; have dR : w17.cell? ⟨ba, 0, none⟩ = some (.int .u64 bg) := (blk_cell bc.out 0).trans rfl; have dQ : w17.cell? ⟨ba, 1, none⟩ = some (.int .u64 bd) := (blk_cell bc.out 1).trans rfl; have dP : w17.cell? ⟨ba, 2, none⟩ = some (.slice bj be.length bi) := (blk_cell bc.out 2).trans rfl; have dl := blk_frozen bc.out 0; have dk := blk_frozen bc.out 1; have dj := blk_frozen bc.out 2) | ((with_reducible refine gate_callee (f := 32) rfl ?_); refine goesL_ (some 15) rfl rfl Tryd.func32 (by kernel_rfl) rfl #[.slice bj be.length bi, .string a1] rfl zx20_7 ?_; (with_reducible refine (ledger_place.calls _ _ be a1 br _ ?side1 ?side2 A5.out).mono ?_); (case side1 => repeat (first | exact (Kd.V_reads' bh.out).2.2 | (with_reducible refine Kd.C_alloc ?_ _) | (with_reducible refine Kd.C_drewN ?_ _) | (with_reducible refine Kd.C_drew ?_))); (case side2 => exact (Kd.V_reads' bh.out).2.1); rintro e w20 ⟨rfl, hb⟩; refine ⟨_, rfl, ?_⟩; replace bh := Aside0.mk (Kd.V_below zx20_3 hb); replace bc := Aside0.mk (blk_below (g := ba) (o := .cells #[.int .u64 bg, .int .u64 bd, .slice bj be.length bi] 25 (0, 0)) zx20_1 hb); replace bf := Aside0.mk (blk_below (g := bb) (o := .cells #[.int .u64 0, .int .u64 0, .slice none 0 0] 25 (0, 0)) zx20_2 hb); replace HB := Aside0.mk (below_step zx20_0 hb); (try clear hb); (try clear hb2); (try clear hk); (try clear hi); have dO : w20.cell? ⟨ba, 0, none⟩ = some (.int .u64 bg) := (blk_cell bc.out 0).trans rfl; have dN : w20.cell? ⟨ba, 1, none⟩ = some (.int .u64 bd) := (blk_cell bc.out 1).trans rfl; have dM : w20.cell? ⟨ba, 2, none⟩ = some (.slice bj be.length bi) := (blk_cell bc.out 2).trans rfl; have di := blk_frozen bc.out 0; have dh := blk_frozen bc.out 1; have dg := blk_frozen bc.out 2; have dL : w20.cell? ⟨bb, 0, none⟩ = some (.int .u64 0) := (blk_cell bf.out 0).trans rfl; have dK : w20.cell? ⟨bb, 1, none⟩ = some (.int .u64 0) := (blk_cell bf.out 1).trans rfl; have dJ : w20.cell? ⟨bb, 2, none⟩ = some (.slice none 0 0) := (blk_cell bf.out 2).trans rfl; have df := blk_frozen bf.out 0; have de := blk_frozen bf.out 1; have dd := blk_frozen bf.out 2))
  refine bodyPost_ret (results_ct rfl _ _ bb 25 #[.int .u64 0, .int .u64 0, .slice none 0 0] (0, 0) _ rfl zx20_6 Tryd.underlying25 rfl (by kernel_rfl)) rfl ?_
  exact ⟨_, by first | rfl | (simp [errW_none, errW_some] <;> rfl) | (simp [*, errW_none, errW_some] <;> rfl), by first | exact Kd.S_nil _ _ _ _ _ | exact Kd.N_nil _ _ _ _ _ | exact Kd.V_nil _ _ _ _ _ | exact Kd.Q_nil _ _ _ _ _ | exact Kd.R_nil _ _ _ _ _, by repeat (first | (with_reducible first | exact HB.out | apply below_alloc | apply pw_below_drewN | apply below_drew1 | refine below_set ?_ bu.out | refine below_set ?_ bx.out) | exact HB.out)⟩
 rw [if_neg c14] at H
 have bR : decide (4 ≤ (be.length : Int)) = false := decide_eq_false c14
 have bQ : decide (4 ≤ be.length) = false := decide_eq_false (by omega)
 clear c14
 replace H := Option.bind_eq_some_iff.mp H
 obtain ⟨bo, bV, H⟩ := H
 replace H : ((some (([(⟨a1, bd, bd, ([] : List Int), 0, 0, 0⟩ : S55)] : List (S55)) : List (S55))).bind fun bn => (if bo.length + bn.length < 1759218604441 then (some (bg, bd, (bo ++ bn), 0)) else (none))) = some (r1, r2, r3, r4) := H
 have A23 := Aside0.mk bV
 clear bV
 obtain ⟨bn, bB⟩ : ∃ y_ : List (S55), y_ = (([(⟨a1, bd, bd, ([] : List Int), 0, 0, 0⟩ : S55)] : List (S55))) := ⟨_, rfl⟩
 replace H : (if bo.length + bn.length < 1759218604441 then (some (bg, bd, (bo ++ bn), 0)) else (none)) = some (r1, r2, r3, r4) := by first | (rw [bB]; with_reducible exact H) | (have H2_ := (Option.bind_some _ _).symm.trans H; rw [bB]; with_reducible exact H2_) | (have H2_ := (Option.bind_some _ _).symm.trans H; with_reducible exact H2_) | with_reducible exact H | (rw [bB]; exact H) | exact H
 have bD := Aside0.mk bB
 clear bB
 by_cases c24 : bo.length + bn.length < 1759218604441
 case neg =>
  rw [if_neg c24] at H
  exact absurd H (by simp)
 rw [if_pos c24] at H
 have bU := Aside0.mk c24
 clear c24
 obtain ⟨bJ, bA⟩ : ∃ y_ : List (S55), y_ = (bo ++ bn) := ⟨_, rfl⟩
 replace H : (some (bg, bd, bJ, 0)) = some (r1, r2, r3, r4) := by first | (rw [bA]; with_reducible exact H) | (have H2_ := (Option.bind_some _ _).symm.trans H; rw [bA]; with_reducible exact H2_) | (have H2_ := (Option.bind_some _ _).symm.trans H; with_reducible exact H2_) | with_reducible exact H | (rw [bA]; exact H) | exact H
 have bS := Aside0.mk bA
 clear bA
 simp only [Option.some.injEq, Prod.mk.injEq] at H
 obtain ⟨rfl, rfl, rfl, rfl⟩ := H
 go_enter Tryd.func36, Tryd.ntmps36
 try go_wp2_with (first | ((with_reducible refine gate_dst (N := 2) rfl ?_); refine box_event ?hg (N := 2) ?hd (cs := #[.int .u64 bg, .int .u64 bd, .slice bj be.length bi]) (t := 25) ?hr ?_; (case hd => rfl); (case hg => rfl); (case hr => first | (go_simp; done) | (go_simp; rfl)); intro ba hg w25 hbox hb; replace bh := Aside0.mk (Kd.V_below (Kd.V_elderB zx20_3 ba (Nat.le_of_eq hg.symm)) hb); have bc := Aside0.mk (hbox); have bI := Aside0.mk ((by rw [hg]; exact (below_size zx20_5) : w.heap.size ≤ ba)); have bu := Aside0.mk ((by rw [hg]; exact (below_size zx20_5) : w.heap.size ≤ ba)); replace HB := Aside0.mk (below_step zx20_5 hb); clear hb hbox hg) | ((with_reducible refine gate_dst (N := 4) rfl ?_); refine box_event ?hg (N := 4) ?hd (cs := #[.int .u64 0, .int .u64 0, .slice none 0 0]) (t := 25) ?hr ?_; (case hd => rfl); (case hg => rfl); (case hr => first | (go_simp; done) | (go_simp; rfl)); intro bb hg w26 hbox hb; replace bh := Aside0.mk (Kd.V_below (Kd.V_elderB zx20_3 bb (Nat.le_of_eq hg.symm)) hb); have bf := Aside0.mk (hbox); have bH := Aside0.mk ((by rw [hg]; exact (below_size zx20_4) : w.heap.size ≤ bb)); have bx := Aside0.mk ((by rw [hg]; exact (below_size zx20_4) : w.heap.size ≤ bb)); replace HB := Aside0.mk (below_step zx20_4 hb); have bm := Aside0.mk ((by rw [hg]; exact Nat.ne_of_lt (blk_lt (g := ba) (o := .cells #[.int .u64 bg, .int .u64 bd, .slice bj be.length bi] 25 (0, 0)) zx20_1) : ba ≠ bb)); have bl := Aside0.mk ((by rw [hg]; exact Nat.ne_of_gt (blk_lt (g := ba) (o := .cells #[.int .u64 bg, .int .u64 bd, .slice bj be.length bi] 25 (0, 0)) zx20_1) : bb ≠ ba)); replace bc := Aside0.mk (blk_below (g := ba) (o := .cells #[.int .u64 bg, .int .u64 bd, .slice bj be.length bi] 25 (0, 0)) zx20_1 hb); clear hb hbox hg) | ((with_reducible refine gate_callee (f := 48) rfl ?_); refine goesL_ (some 8) rfl rfl Tryd.func48 (by kernel_rfl) rfl #[.string a1] rfl zx20_7 ?_; (with_reducible refine (label_Name.calls a1 true _ A3.out).mono ?_); rintro e w27 ⟨rfl, hb⟩; refine ⟨_, rfl, ?_⟩; replace bh := Aside0.mk (Kd.V_below zx20_3 hb); replace bc := Aside0.mk (blk_below (g := ba) (o := .cells #[.int .u64 bg, .int .u64 bd, .slice bj be.length bi] 25 (0, 0)) zx20_1 hb); replace bf := Aside0.mk (blk_below (g := bb) (o := .cells #[.int .u64 0, .int .u64 0, .slice none 0 0] 25 (0, 0)) zx20_2 hb); replace HB := Aside0.mk (below_step zx20_0 hb); (try clear hb); (try clear hb2); (try clear hk); (try clear hi); have d6 := bm.out; have d2 := bl.out; have dI : w27.cell? ⟨ba, 0, none⟩ = some (.int .u64 bg) := (blk_cell bc.out 0).trans rfl; have dH : w27.cell? ⟨ba, 1, none⟩ = some (.int .u64 bd) := (blk_cell bc.out 1).trans rfl; have dG : w27.cell? ⟨ba, 2, none⟩ = some (.slice bj be.length bi) := (blk_cell bc.out 2).trans rfl; have dc := blk_frozen bc.out 0; have db := blk_frozen bc.out 1; have da := blk_frozen bc.out 2) | ((with_reducible refine gate_callee (f := 32) rfl ?_); refine goesL_ (some 15) rfl rfl Tryd.func32 (by kernel_rfl) rfl #[.slice bj be.length bi, .string a1] rfl zx20_7 ?_; (with_reducible refine (ledger_place.calls _ _ be a1 br _ ?side1 ?side2 A5.out).mono ?_); (case side1 => repeat (first | exact (Kd.V_reads' bh.out).2.2 | (with_reducible refine Kd.C_alloc ?_ _) | (with_reducible refine Kd.C_drewN ?_ _) | (with_reducible refine Kd.C_drew ?_))); (case side2 => exact (Kd.V_reads' bh.out).2.1); rintro e w30 ⟨rfl, hb⟩; refine ⟨_, rfl, ?_⟩; replace bh := Aside0.mk (Kd.V_below zx20_3 hb); replace bc := Aside0.mk (blk_below (g := ba) (o := .cells #[.int .u64 bg, .int .u64 bd, .slice bj be.length bi] 25 (0, 0)) zx20_1 hb); replace bf := Aside0.mk (blk_below (g := bb) (o := .cells #[.int .u64 0, .int .u64 0, .slice none 0 0] 25 (0, 0)) zx20_2 hb); replace HB := Aside0.mk (below_step zx20_0 hb); (try clear hb); (try clear hb2); (try clear hk); (try clear hi); have dF : w30.cell? ⟨ba, 0, none⟩ = some (.int .u64 bg) := (blk_cell bc.out 0).trans rfl; have dE : w30.cell? ⟨ba, 1, none⟩ = some (.int .u64 bd) := (blk_cell bc.out 1).trans rfl; have dD : w30.cell? ⟨ba, 2, none⟩ = some (.slice bj be.length bi) := (blk_cell bc.out 2).trans rfl; have b9 := blk_frozen bc.out 0; have b8 := blk_frozen bc.out 1; have b7 := blk_frozen bc.out 2))
 replace bh := Aside0.mk (Kd.V_drew bh.out)
 replace bc := Aside0.mk (blk_drew bc.out)
 replace bf := Aside0.mk (blk_drew bf.out)
 replace HB := Aside0.mk (below_drew1 HB.out)
 refine start_ (n := 13) (S := fun w' => w'.cell? ⟨ba, 0, none⟩ = some (.int .u64 bg) ∧ w'.cell? ⟨ba, 1, none⟩ = some (.int .u64 bd) ∧ w'.cell? ⟨ba, 2, none⟩ = some (.slice bj be.length bi)) (ds := [12]) #[Ff,Ff,Ff,Ff,Ff,Ff,Ff,Ff,Ff,Ff,Ff,Ff,Ff] (by kernel_rfl) rfl rfl ⟨(blk_cell bc.out 0).trans rfl, (blk_cell bc.out 1).trans rfl, (blk_cell bc.out 2).trans rfl⟩ (fun hHeld => ?_); refine with_tabW ledger_Join.tab7 ledger_Join.bits7 (fun HT_ HW_ => ?_)
 generalize w30.drew = w32 at bh bc bf HB hHeld ⊢
 refine pp_ 0 (some 24) HT_.out ?_
 refine pp_ 3 (some 27) HT_.out ?_
 refine pp_ 4 (some 28) HT_.out ?_
 refine pp_ 6 (some 30) HT_.out ?_
 refine take_ (i := 1) (N := some 25) (v := ?_) (a' := ?_) #[Tt,Tt,Ff,Tt,Tt,Ff,Tt,Ff,Ff,Ff,Ff,Ff,Ff] rfl rfl (take_ofW HT_.out HW_.out (by kernel_rfl)) (fun _ _ _ h => h) (Or.inl ⟨by rfl, ?_⟩) hHeld ?_ ?_
 rotate_left
 ·rintro w' ⟨s0, s1, s2⟩
  go_simp
  with_reducible rfl
 rotate_left
 ·simp only [Act.put, List.setIfInBounds_toArray, List.set_cons_zero, List.set_cons_succ, i64_w, i32_w]
  rfl
 refine take_ (i := 5) (N := some 29) (v := ?_) (a' := ?_) #[Tt,Tt,Ff,Tt,Tt,Tt,Tt,Ff,Ff,Ff,Ff,Ff,Ff] rfl rfl (take_ofW HT_.out HW_.out (by kernel_rfl)) (fun _ _ _ h => h) (Or.inl ⟨by rfl, ?_⟩) hHeld ?_ ?_
 rotate_left
 ·rintro w' ⟨s0, s1, s2⟩
  go_simp
  with_reducible rfl
 rotate_left
 ·simp only [Act.put, List.setIfInBounds_toArray, List.set_cons_zero, List.set_cons_succ, i64_w, i32_w]
  rfl
 refine take_ (i := 7) (N := some 31) (v := ?_) (a' := ?_) #[Tt,Tt,Ff,Tt,Tt,Tt,Tt,Tt,Ff,Ff,Ff,Ff,Ff] rfl rfl (take_ofW HT_.out HW_.out (by kernel_rfl)) (fun _ _ _ h => h) (Or.inl ⟨by rfl, ?_⟩) hHeld ?_ ?_
 rotate_left
 ·rintro w' ⟨s0, s1, s2⟩
  go_simp
  with_reducible rfl
 rotate_left
 ·simp only [Act.put, List.setIfInBounds_toArray, List.set_cons_zero, List.set_cons_succ, i64_w, i32_w]
  rfl
 refine pp_ 8 (some 32) HT_.out ?_
 refine join_ (σ := Value × Value) 3 #[Tt,Tt,Tt,Tt,Tt,Tt,Tt,Tt,Tt,Tt,Ff,Ff,Ff] (fun s_ => [(26, s_.1), (33, s_.2)]) (fun s_ w' => (w'.cell? ⟨ba, 0, none⟩ = some (.int .u64 bg) ∧ w'.cell? ⟨ba, 1, none⟩ = some (.int .u64 bd) ∧ w'.cell? ⟨ba, 2, none⟩ = some (.slice bj be.length bi)) ∧ (Kd.V k55 55 w' w.heap.size (fun k_ => (bk k_ ∨ w.heap.size ≤ k_) ∧ some k_ ≠ (s_.1 : Value).ownBlock ∧ some k_ ≠ (s_.2 : Value).ownBlock ∧ k_ ≠ ba ∧ k_ ≠ bb) (.slice bj be.length bi) be) ∧ (Kd.N k55 55 w' w.heap.size (fun k_ => (bk k_ ∨ w.heap.size ≤ k_) ∧ some k_ ≠ (s_.2 : Value).ownBlock ∧ k_ ≠ ba ∧ k_ ≠ bb) s_.1 bo) ∧ (Kd.N k55 55 w' w.heap.size (fun k_ => (bk k_ ∨ w.heap.size ≤ k_) ∧ some k_ ≠ (s_.1 : Value).ownBlock ∧ k_ ≠ ba ∧ k_ ≠ bb) s_.2 bn) ∧ (w'.heap[ba]? = some (.cells #[.int .u64 bg, .int .u64 bd, .slice bj be.length bi] 25 (0, 0))) ∧ (w'.heap[bb]? = some (.cells #[.int .u64 0, .int .u64 0, .slice none 0 0] 25 (0, 0))) ∧ (Below w.heap.size w w')) ?_ ?_
 rotate_left
 ·intro hCont
  refine two_ (i := 2) (j := 9) (Ni := some 26) (Nj := some 33) #[Tt,Tt,Tt,Tt,Tt,Tt,Tt,Tt,Tt,Ff,Ff,Ff,Ff] #[Tt,Tt,Ff,Tt,Tt,Tt,Tt,Tt,Tt,Tt,Ff,Ff,Ff] rfl rfl rfl rfl (two_of HT_.out (by kernel_rfl)) (by decide) (by decide) (fun K hK => ?_) (fun K hK => ?_)
  ·skip
   refine goes_ Tryd.func39 (by kernel_rfl) rfl #[.slice bj be.length bi] (by rfl) rfl rfl zx20_7 ?_
   with_reducible refine (ledger_Dest_39.calls (fun k_ => (((bk k_ ∨ w.heap.size ≤ k_) ∧ k_ ≠ ba) ∧ k_ ≠ bb)) _ _ be bo _ ?side1 A23.out).mono ?_
   (case side1 => exact bh.out)
   rintro e w33 ⟨bw, rfl, ho0, hb⟩
   refine ⟨_, rfl, ?_⟩
   replace bh := Aside0.mk (Kd.V_elder' zx20_3 (Kd.N_base ho0) hb)
   have bp := Aside0.mk (Kd.N_lower (Kd.N_mono (ok' := fun k_ => (bk k_ ∨ w.heap.size ≤ k_) ∧ k_ ≠ ba ∧ k_ ≠ bb) ho0 (fun k_ hk_ => ⟨Or.elim hk_ (fun hs_ => hs_.1.1) (fun hn_ => (.inr (Nat.le_trans (below_size zx20_0) hn_))), Or.elim hk_ (fun hs_ => hs_.1.2) (fun hn_ => (Kd.freshB (g := ba) (o := .cells #[.int .u64 bg, .int .u64 bd, .slice bj be.length bi] 25 (0, 0)) zx20_1 k_ hn_)), Or.elim hk_ (fun hs_ => hs_.2) (fun hn_ => (Kd.freshB (g := bb) (o := .cells #[.int .u64 0, .int .u64 0, .slice none 0 0] 25 (0, 0)) zx20_2 k_ hn_))⟩)) (below_size zx20_0))
   replace bc := Aside0.mk (blk_below (g := ba) (o := .cells #[.int .u64 bg, .int .u64 bd, .slice bj be.length bi] 25 (0, 0)) zx20_1 hb)
   replace bf := Aside0.mk (blk_below (g := bb) (o := .cells #[.int .u64 0, .int .u64 0, .slice none 0 0] 25 (0, 0)) zx20_2 hb)
   replace HB := Aside0.mk (below_step zx20_0 hb)
   (try clear hb)
   (try clear hb2)
   (try clear hk)
   (try clear hi)
   (try clear ho0)
   refine hK.out _ _ ⟨(blk_cell bc.out 0).trans rfl, (blk_cell bc.out 1).trans rfl, (blk_cell bc.out 2).trans rfl⟩ (fun hHeld => ?_)
   clear hK K
   refine na_ 26 ?_
   refine one_ (i := 9) (N := some 33) #[Tt,Tt,Tt,Tt,Tt,Tt,Tt,Tt,Tt,Tt,Ff,Ff,Ff] rfl rfl (one_of HT_.out (by kernel_rfl)) (by decide) (fun K hK => ?_)
   refine Kd.N_lit_step k55 _ 55 ?hg (N' := 33) ?hd (xs := ([(⟨a1, bd, bd, ([] : List Int), 0, 0, 0⟩ : S55)] : List (S55))) (inner := [.string a1, .int .u64 bd, .int .u64 bd, .slice none 0 0, .int .u64 0, .int .u64 0, .int .u64 0]) (ok := (fun k_ => (bk k_ ∨ w.heap.size ≤ k_) ∧ some k_ ≠ (bw : Value).ownBlock ∧ k_ ≠ ba ∧ k_ ≠ bb)) (okp := (fun k_ => (bk k_ ∨ w.heap.size ≤ k_) ∧ some k_ ≠ (bw : Value).ownBlock ∧ k_ ≠ ba ∧ k_ ≠ bb)) ?hr ?hp (fun _ hk => hk) ((show ∀ k_, w33.heap.size ≤ k_ → (fun k_ => (bk k_ ∨ w.heap.size ≤ k_) ∧ some k_ ≠ (bw : Value).ownBlock ∧ k_ ≠ ba ∧ k_ ≠ bb) k_ from fun k_ hk => ⟨(.inr (Nat.le_trans (below_size zx20_0) hk)), Kd.fresh' (Kd.N_lt (by (with_reducible repeat (first | apply Kd.N_alloc | apply Kd.N_drewN | apply Kd.N_drew)); exact bp.out)) k_ hk, Kd.freshB (g := ba) (o := .cells #[.int .u64 bg, .int .u64 bd, .slice bj be.length bi] 25 (0, 0)) zx20_1 k_ hk, Kd.freshB (g := bb) (o := .cells #[.int .u64 0, .int .u64 0, .slice none 0 0] 25 (0, 0)) zx20_2 k_ hk⟩) _ (Nat.le_refl _)) (Below.refl _ _) (Nat.le_refl _) (by simp) ?_; (case hd => rfl); (case hg => rfl); (case hr => first | (go_simp; done) | (go_simp; rfl)); (case hp => exact (Reps.c7 (show Kd.FK k55 _ _ (⟨a1, bd, bd, ([] : List Int), 0, 0, 0⟩ : S55) [.string a1, .int .u64 bd, .int .u64 bd, .slice none 0 0, .int .u64 0, .int .u64 0, .int .u64 0] from (k55_mkF _ _ (⟨a1, bd, bd, ([] : List Int), 0, 0, 0⟩ : S55) (Nat.le_refl _) (Kd.F_nil _ _ _))) (Reps.none _ _)))
   intro bz w34 bC hb hg_ hnew_
   clear hg_ hnew_
   (first | rw [← bD.out] at bC | (simp only [Int.reduceToNat] at bC; rw [← bD.out] at bC))
   replace bh := Aside0.mk (Kd.V_elder' zx20_3 (Kd.N_base bC) hb)
   replace bp := Aside0.mk (Kd.N_elder' (by (with_reducible repeat (first | apply Kd.N_alloc | apply Kd.N_drewN | apply Kd.N_drew)); exact bp.out) (Kd.N_base bC) hb)
   have bq := Aside0.mk (Kd.N_lower bC (below_size zx20_0))
   replace bc := Aside0.mk (blk_below (g := ba) (o := .cells #[.int .u64 bg, .int .u64 bd, .slice bj be.length bi] 25 (0, 0)) zx20_1 hb)
   replace bf := Aside0.mk (blk_below (g := bb) (o := .cells #[.int .u64 0, .int .u64 0, .slice none 0 0] 25 (0, 0)) zx20_2 hb)
   replace HB := Aside0.mk (below_step zx20_0 hb)
   clear hb bC
   refine hK.out _ _ ⟨(blk_cell bc.out 0).trans rfl, (blk_cell bc.out 1).trans rfl, (blk_cell bc.out 2).trans rfl⟩ (fun hHeld => ?_)
   clear hK K
   refine na_ 33 ?_
   exact norm_ (by simp only [putAll, Act.put, List.setIfInBounds_toArray, List.set_cons_zero, List.set_cons_succ]) (hCont (bw, bz) _ ⟨hHeld, (by (with_reducible repeat (first | apply Kd.V_alloc | apply Kd.V_drewN | apply Kd.V_drew)); exact Kd.V_mono bh.out (fun _ hk => ⟨hk.1.1.1.1, ⟨hk.1.2, ⟨hk.2, ⟨hk.1.1.1.2, hk.1.1.2⟩⟩⟩⟩)), (by (with_reducible repeat (first | apply Kd.N_alloc | apply Kd.N_drewN | apply Kd.N_drew)); exact Kd.N_mono bp.out (fun _ hk => ⟨hk.1.1, ⟨hk.2, ⟨hk.1.2.1, hk.1.2.2⟩⟩⟩)), (by (with_reducible repeat (first | apply Kd.N_alloc | apply Kd.N_drewN | apply Kd.N_drew)); exact bq.out), zx20_1, zx20_2, zx20_0⟩)
  skip
  refine Kd.N_lit_step k55 _ 55 ?hg (N' := 33) ?hd (xs := ([(⟨a1, bd, bd, ([] : List Int), 0, 0, 0⟩ : S55)] : List (S55))) (inner := [.string a1, .int .u64 bd, .int .u64 bd, .slice none 0 0, .int .u64 0, .int .u64 0, .int .u64 0]) (ok := (fun k_ => (bk k_ ∨ w.heap.size ≤ k_) ∧ k_ ≠ ba ∧ k_ ≠ bb)) (okp := (fun k_ => (bk k_ ∨ w.heap.size ≤ k_) ∧ k_ ≠ ba ∧ k_ ≠ bb)) ?hr ?hp (fun _ hk => hk) ((show ∀ k_, w32.heap.size ≤ k_ → (fun k_ => (bk k_ ∨ w.heap.size ≤ k_) ∧ k_ ≠ ba ∧ k_ ≠ bb) k_ from fun k_ hk => ⟨(.inr (Nat.le_trans (below_size zx20_0) hk)), Kd.freshB (g := ba) (o := .cells #[.int .u64 bg, .int .u64 bd, .slice bj be.length bi] 25 (0, 0)) zx20_1 k_ hk, Kd.freshB (g := bb) (o := .cells #[.int .u64 0, .int .u64 0, .slice none 0 0] 25 (0, 0)) zx20_2 k_ hk⟩) _ (Nat.le_refl _)) (Below.refl _ _) (Nat.le_refl _) (by simp) ?_; (case hd => rfl); (case hg => rfl); (case hr => first | (go_simp; done) | (go_simp; rfl)); (case hp => exact (Reps.c7 (show Kd.FK k55 _ _ (⟨a1, bd, bd, ([] : List Int), 0, 0, 0⟩ : S55) [.string a1, .int .u64 bd, .int .u64 bd, .slice none 0 0, .int .u64 0, .int .u64 0, .int .u64 0] from (k55_mkF _ _ (⟨a1, bd, bd, ([] : List Int), 0, 0, 0⟩ : S55) (Nat.le_refl _) (Kd.F_nil _ _ _))) (Reps.none _ _)))
  intro bz w33 bG hb hg_ hnew_
  clear hg_ hnew_
  (first | rw [← bD.out] at bG | (simp only [Int.reduceToNat] at bG; rw [← bD.out] at bG))
  replace bh := Aside0.mk (Kd.V_elder' zx20_3 (Kd.N_base bG) hb)
  have bq := Aside0.mk (Kd.N_lower bG (below_size zx20_0))
  replace bc := Aside0.mk (blk_below (g := ba) (o := .cells #[.int .u64 bg, .int .u64 bd, .slice bj be.length bi] 25 (0, 0)) zx20_1 hb)
  replace bf := Aside0.mk (blk_below (g := bb) (o := .cells #[.int .u64 0, .int .u64 0, .slice none 0 0] 25 (0, 0)) zx20_2 hb)
  replace HB := Aside0.mk (below_step zx20_0 hb)
  clear hb bG
  refine hK.out _ _ ⟨(blk_cell bc.out 0).trans rfl, (blk_cell bc.out 1).trans rfl, (blk_cell bc.out 2).trans rfl⟩ (fun hHeld => ?_)
  clear hK K
  refine na_ 33 ?_
  refine one_ (i := 2) (N := some 26) #[Tt,Tt,Tt,Tt,Tt,Tt,Tt,Tt,Tt,Tt,Ff,Ff,Ff] rfl rfl (one_of HT_.out (by kernel_rfl)) (by decide) (fun K hK => ?_)
  refine goes_ Tryd.func39 (by kernel_rfl) rfl #[.slice bj be.length bi] (by rfl) rfl rfl zx20_7 ?_
  with_reducible refine (ledger_Dest_39.calls (fun k_ => ((((bk k_ ∨ w.heap.size ≤ k_) ∧ k_ ≠ ba) ∧ k_ ≠ bb) ∧ some k_ ≠ (bz : Value).ownBlock)) _ _ be bo _ ?side1 A23.out).mono ?_
  (case side1 => exact bh.out)
  rintro e w35 ⟨bw, rfl, ho0, hb⟩
  refine ⟨_, rfl, ?_⟩
  replace bh := Aside0.mk (Kd.V_elder' zx20_3 (Kd.N_base ho0) hb)
  have bp := Aside0.mk (Kd.N_lower (Kd.N_mono (ok' := fun k_ => (bk k_ ∨ w.heap.size ≤ k_) ∧ some k_ ≠ (bz : Value).ownBlock ∧ k_ ≠ ba ∧ k_ ≠ bb) ho0 (fun k_ hk_ => ⟨Or.elim hk_ (fun hs_ => hs_.1.1.1) (fun hn_ => (.inr (Nat.le_trans (below_size zx20_0) hn_))), Or.elim hk_ (fun hs_ => hs_.2) (fun hn_ => (Kd.fresh' (Kd.N_lt (by (with_reducible repeat (first | apply Kd.N_alloc | apply Kd.N_drewN | apply Kd.N_drew)); exact bq.out)) k_ hn_)), Or.elim hk_ (fun hs_ => hs_.1.1.2) (fun hn_ => (Kd.freshB (g := ba) (o := .cells #[.int .u64 bg, .int .u64 bd, .slice bj be.length bi] 25 (0, 0)) zx20_1 k_ hn_)), Or.elim hk_ (fun hs_ => hs_.1.2) (fun hn_ => (Kd.freshB (g := bb) (o := .cells #[.int .u64 0, .int .u64 0, .slice none 0 0] 25 (0, 0)) zx20_2 k_ hn_))⟩)) (below_size zx20_0))
  replace bq := Aside0.mk (Kd.N_elder' (by (with_reducible repeat (first | apply Kd.N_alloc | apply Kd.N_drewN | apply Kd.N_drew)); exact bq.out) (Kd.N_base ho0) hb)
  replace bc := Aside0.mk (blk_below (g := ba) (o := .cells #[.int .u64 bg, .int .u64 bd, .slice bj be.length bi] 25 (0, 0)) zx20_1 hb)
  replace bf := Aside0.mk (blk_below (g := bb) (o := .cells #[.int .u64 0, .int .u64 0, .slice none 0 0] 25 (0, 0)) zx20_2 hb)
  replace HB := Aside0.mk (below_step zx20_0 hb)
  (try clear hb)
  (try clear hb2)
  (try clear hk)
  (try clear hi)
  (try clear ho0)
  refine hK.out _ _ ⟨(blk_cell bc.out 0).trans rfl, (blk_cell bc.out 1).trans rfl, (blk_cell bc.out 2).trans rfl⟩ (fun hHeld => ?_)
  clear hK K
  refine na_ 26 ?_
  exact norm_ (by simp only [putAll, Act.put, List.setIfInBounds_toArray, List.set_cons_zero, List.set_cons_succ]) (hCont (bw, bz) _ ⟨hHeld, (by (with_reducible repeat (first | apply Kd.V_alloc | apply Kd.V_drewN | apply Kd.V_drew)); exact Kd.V_mono bh.out (fun _ hk => ⟨hk.1.1.1.1, ⟨hk.2, ⟨hk.1.2, ⟨hk.1.1.1.2, hk.1.1.2⟩⟩⟩⟩)), (by (with_reducible repeat (first | apply Kd.N_alloc | apply Kd.N_drewN | apply Kd.N_drew)); exact bp.out), (by (with_reducible repeat (first | apply Kd.N_alloc | apply Kd.N_drewN | apply Kd.N_drew)); exact Kd.N_mono bq.out (fun _ hk => ⟨hk.1.1, ⟨hk.2, ⟨hk.1.2.1, hk.1.2.2⟩⟩⟩)), zx20_1, zx20_2, zx20_0⟩)
 rintro ⟨bw, bz⟩ w36 ⟨hS_, h0_, h1_, h2_, h3_, h4_, h5_⟩
 have n0_ : Aside0 (Kd.V k55 55 w36 w.heap.size (fun k_ => (bk k_ ∨ w.heap.size ≤ k_) ∧ some k_ ≠ (bw : Value).ownBlock ∧ some k_ ≠ (bz : Value).ownBlock ∧ k_ ≠ ba ∧ k_ ≠ bb) (.slice bj be.length bi) be) := ⟨h0_⟩
 have n1_ : Aside0 (Kd.N k55 55 w36 w.heap.size (fun k_ => (bk k_ ∨ w.heap.size ≤ k_) ∧ some k_ ≠ (bz : Value).ownBlock ∧ k_ ≠ ba ∧ k_ ≠ bb) bw bo) := ⟨h1_⟩
 have n2_ : Aside0 (Kd.N k55 55 w36 w.heap.size (fun k_ => (bk k_ ∨ w.heap.size ≤ k_) ∧ some k_ ≠ (bw : Value).ownBlock ∧ k_ ≠ ba ∧ k_ ≠ bb) bz bn) := ⟨h2_⟩
 have n3_ : Aside0 (w36.heap[ba]? = some (.cells #[.int .u64 bg, .int .u64 bd, .slice bj be.length bi] 25 (0, 0))) := ⟨h3_⟩
 have n4_ : Aside0 (w36.heap[bb]? = some (.cells #[.int .u64 0, .int .u64 0, .slice none 0 0] 25 (0, 0))) := ⟨h4_⟩
 have n5_ : Aside0 (Below w.heap.size w w36) := ⟨h5_⟩
 clear bh
 clear bc
 clear bf
 clear HB
 clear h0_ h1_ h2_ h3_ h4_ h5_
 have bh := n0_
 have bp := n1_
 have bq := n2_
 have bc := n3_
 have bf := n4_
 have HB := n5_
 clear n0_ n1_ n2_ n3_ n4_ n5_
 have hHeld : w36.cell? ⟨ba, 0, none⟩ = some (.int .u64 bg) ∧ w36.cell? ⟨ba, 1, none⟩ = some (.int .u64 bd) ∧ w36.cell? ⟨ba, 2, none⟩ = some (.slice bj be.length bi) := hS_
 obtain ⟨d0, dY, bP⟩ := Kd.N_slice bq.out
 (first | subst bP | (injection bP with f1_ f2_ f3_; have f4_ := f1_.symm; have f5_ := f3_.symm; clear f1_ f2_ f3_; subst f4_; subst f5_))
 refine nb_ ?_
 refine one_ (i := 10) (N := some 34) #[Tt,Tt,Tt,Tt,Tt,Tt,Tt,Tt,Tt,Tt,Tt,Ff,Ff] rfl rfl (one_of HT_.out (by kernel_rfl)) (by decide) (fun K hK => ?_)
 refine Kd.N_append_rows_step k55 (w0 := w) w.heap.size (by rfl) (.tmp 26) (.tmp 33) 23 55 (.agg #[(.string ⟨#[]⟩), (.int .u64 0), (.int .u64 0), (.slice none 0 0), (.int .u64 0), (.int .u64 0), (.int .u64 0)]) 80 rfl Tryd.underlying23 info55 rfl (by decide) (by omega) bw bo bn _ _ _ (fun k_ => (bk k_ ∨ w.heap.size ≤ k_) ∧ k_ ≠ ba ∧ k_ ≠ bb) (fun k_ => ((fun k_ => (bk k_ ∨ w.heap.size ≤ k_) ∧ k_ ≠ ba ∧ k_ ≠ bb)) k_ ∧ some k_ ≠ (bw : Value).ownBlock) rfl rfl ?aO ?aR (fun _ hk => hk) ?aF ?aB ?aS ?aL ?_
 (case aR => exact (by skip; exact Kd.N_F (Kd.N_mono (ok' := (fun k_ => ((fun k_ => (bk k_ ∨ w.heap.size ≤ k_) ∧ k_ ≠ ba ∧ k_ ≠ bb)) k_ ∧ some k_ ≠ (bw : Value).ownBlock)) (bq.out) (fun k_ hk => ⟨⟨hk.1, ⟨hk.2.2.1, hk.2.2.2⟩⟩, hk.2.1⟩))))
 (case aB => exact zx20_0)
 (case aF => exact (fun k_ hk => ⟨(.inr (Nat.le_trans (below_size zx20_0) hk)), Kd.freshB (g := ba) (o := .cells #[.int .u64 bg, .int .u64 bd, .slice bj be.length bi] 25 (0, 0)) zx20_1 k_ hk, Kd.freshB (g := bb) (o := .cells #[.int .u64 0, .int .u64 0, .slice none 0 0] 25 (0, 0)) zx20_2 k_ hk⟩))
 (case aO => exact (by (with_reducible repeat (first | apply Kd.N_alloc | apply Kd.N_drewN | apply Kd.N_drew)); exact Kd.N_mono bp.out (fun _ hk => ⟨hk.1, ⟨hk.2.2.1, hk.2.2.2⟩⟩)))
 (case aS => exact (below_size zx20_0))
 (case aL => have := bU.out; omega)
 intro ga w37 ho hb hg hat
 rw [← bS.out] at ho
 have n0_ := Aside0.mk (Kd.V_afterv (ok := (fun k_ => (bk k_ ∨ w.heap.size ≤ k_) ∧ some k_ ≠ (.slice d0 bn.length dY : Value).ownBlock ∧ k_ ≠ ba ∧ k_ ≠ bb)) (by (with_reducible repeat (first | apply Kd.V_alloc | apply Kd.V_drewN | apply Kd.V_drew)); exact Kd.V_mono bh.out (fun _ hk => ⟨⟨hk.1, ⟨hk.2.2.1, ⟨hk.2.2.2.1, hk.2.2.2.2⟩⟩⟩, hk.2.1⟩)) hg hat)
 have n1_ := Aside0.mk (blk_grown (g := ba) (o := .cells #[.int .u64 bg, .int .u64 bd, .slice bj be.length bi] 25 (0, 0)) zx20_1 hg (Kd.N_ne bp.out bc.out (by decide)))
 have n2_ := Aside0.mk (blk_grown (g := bb) (o := .cells #[.int .u64 0, .int .u64 0, .slice none 0 0] 25 (0, 0)) zx20_2 hg (Kd.N_ne bp.out bf.out (by decide)))
 have n4_ := Aside0.mk (hb)
 have n5_ := Aside0.mk (ho)
 clear bh
 clear bc
 clear bf
 (try clear bq)
 clear HB
 (try clear bp)
 have bh := n0_
 have bc := n1_
 have bf := n2_
 have HB := n4_
 have bK := n5_
 clear n0_ n1_ n2_ n4_ n5_
 clear ho hb hg hat
 obtain ⟨bM, bL, bO⟩ := Kd.N_slice bK.out
 (first | subst bO | (injection bO with f1_ f2_ f3_; have f4_ := f1_.symm; have f5_ := f3_.symm; clear f1_ f2_ f3_; subst f4_; subst f5_))
 refine hK.out _ _ ⟨(blk_cell bc.out 0).trans rfl, (blk_cell bc.out 1).trans rfl, (blk_cell bc.out 2).trans rfl⟩ (fun hHeld => ?_)
 clear hK K
 refine na_ 34 ?_
 refine pp_ 11 (some 35) HT_.out ?_
 refine last_ (i := 12) (N := none) #[Tt,Tt,Tt,Tt,Tt,Tt,Tt,Tt,Tt,Tt,Tt,Tt,Tt] rfl rfl (one_of HT_.out (by kernel_rfl)) (by decide) (fun K hK => ?_)
 have gf : w37.cell? ⟨ba, 2, none⟩ = some (.slice bj be.length bi) := (blk_cell bc.out 2).trans rfl
 have d9 := blk_frozen bc.out 2
 have bW := bl.out
 have bX := bm.out
 refine skip_ (w1 := ?_) (by rfl) rfl ?_ ?_
 rotate_left
 ·go_simp
  rfl
 refine hK.out _ _ ?_
 clear hK K
 refine done_ (done_of HT_.out (by kernel_rfl)) ?_
 obtain ⟨dC, dB, dA, b6, b5, b4⟩ := cx20_bc3 bc.out
 obtain ⟨dz, dy, dx, b3, b2, b1⟩ := cx20_bc3 bf.out
 try go_wp2
 refine bodyPost_ret (results_ct rfl _ _ bb 25 #[.int .u64 bg, .int .u64 bd, .slice bM bJ.length bL] (0, 0) _ rfl (by (with_reducible repeat (first | refine blk_drewN ?_ _ | refine blk_drew ?_ | refine blk_alloc ?_ _)); refine blk_put (cs := #[.int .u64 bg, .int .u64 bd, .slice none 0 0]) ?_ 2 _ rfl; (with_reducible repeat (first | refine blk_drewN ?_ _ | refine blk_drew ?_ | refine blk_alloc ?_ _)); refine blk_put (cs := #[.int .u64 bg, .int .u64 0, .slice none 0 0]) ?_ 1 _ rfl; (with_reducible repeat (first | refine blk_drewN ?_ _ | refine blk_drew ?_ | refine blk_alloc ?_ _)); refine blk_put (cs := #[.int .u64 0, .int .u64 0, .slice none 0 0]) ?_ 0 _ rfl; (with_reducible repeat (first | refine blk_drewN ?_ _ | refine blk_drew ?_ | refine blk_alloc ?_ _)); refine blk_far ?_ bl.out _; (with_reducible repeat (first | refine blk_drewN ?_ _ | refine blk_drew ?_ | refine blk_alloc ?_ _)); exact bf.out) Tryd.underlying25 rfl (by kernel_rfl)) rfl ?_
 exact ⟨_, by first | rfl | (simp [errW_none, errW_some] <;> rfl) | (simp [*, errW_none, errW_some] <;> rfl), by (with_reducible repeat (first | apply Kd.N_alloc | apply Kd.N_drewN | apply Kd.N_drew)); exact Kd.N_mono (Kd.N_far (p := ⟨bb, 2, none⟩) (Kd.N_far (p := ⟨bb, 1, none⟩) (Kd.N_far (p := ⟨bb, 0, none⟩) (Kd.N_far (p := ⟨ba, 2, none⟩) (Kd.N_mono (Kd.N_mono bK.out (fun k_ hk => (⟨hk, hk.2.1⟩ : _ ∧ k_ ≠ ba))) (fun k_ hk => (⟨hk, hk.1.2.2⟩ : _ ∧ k_ ≠ bb))) (fun _ hk => hk.1.2) (.slice bM bJ.length bL)) (fun _ hk => hk.2) (.int .u64 bg)) (fun _ hk => hk.2) (.int .u64 bd)) (fun _ hk => hk.2) (.slice bM bJ.length bL)) (fun _ hk => hk.1.1.1), by repeat (first | (with_reducible first | exact HB.out | apply below_alloc | apply pw_below_drewN | apply below_drew1 | refine below_set ?_ bu.out | refine below_set ?_ bx.out) | exact HB.out)⟩
end Go.Proofs.YtmbigoeldobaiaaDoor.XMrk
end
