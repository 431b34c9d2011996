/- What the functions of the translation answer, each as a plain Lean function, and that the code comes to it; for a law: its row. Conditions: none but those that each theorem names. Written by a program of this session (wip/xp). -/
import Derived.Test.YthhmpjapnkilcaaDoorXLdgP1
import Derived.Test.YthhmpjapnkilcaaDoorXLdgP5
import Derived.Test.YthhmpjapnkilcaaDoorGPlace
namespace Go.Proofs.YthhmpjapnkilcaaDoor.XLdg
open Go.RowKit Go.Proofs.YthhmpjapnkilcaaDoorW.PrintWords Go.Proofs.YthhmpjapnkilcaaDoorW.PrintLast Go.Proofs.YthhmpjapnkilcaaDoorW.PrintMore
attribute [local go_sem] max2_int min2_int max_two min_two max_three min_three max_four min_four   -- for this text's walks alone
theorem cx32_bc3 {w : World} {g : Nat} {t : TypeId} {x0 x1 x2 : Value} (h : w.heap[g]? = some (.cells #[x0, x1, x2] t (0, 0))) : w.cell? ⟨g, 0, none⟩ = some x0 ∧ w.cell? ⟨g, 1, none⟩ = some x1 ∧ w.cell? ⟨g, 2, none⟩ = some x2 ∧ w.frozen? ⟨g, 0, none⟩ = false ∧ w.frozen? ⟨g, 1, none⟩ = false ∧ w.frozen? ⟨g, 2, none⟩ = false :=
 ⟨(blk_cell h 0).trans rfl, (blk_cell h 1).trans rfl, (blk_cell h 2).trans rfl, blk_frozen h 0, blk_frozen h 1, blk_frozen h 2⟩
theorem zx32_5 {p : Prop} (h : p := by first | (with_reducible assumption) | assumption) : p := h
theorem zx32_0 {p : Prop} (h : p := by (with_reducible repeat (first | refine blk_drewN ?_ _ | refine blk_drew ?_ | refine blk_alloc ?_ _)); exact be.out) : p := h
theorem zx32_4 {p : Prop} (h : p := by (with_reducible repeat (first | refine blk_drewN ?_ _ | refine blk_drew ?_ | refine blk_alloc ?_ _)); exact bd.out) : p := h
theorem zx32_6 {p : Prop} (h : p := by repeat (first | (with_reducible first | exact HB.out | apply below_alloc | apply pw_below_drewN | apply below_drew1) | exact HB.out)) : p := h
theorem zx32_3 {p : Prop} (h : p := by (try simp only [List.map_toArray, List.map_cons, List.map_nil]); first | done | rfl | (simp only [List.length_drop, List.length_take]; rfl)) : p := h
theorem zx32_1 {p : Prop} (h : p := by repeat (first | (with_reducible first | exact HB.out | apply below_alloc | apply pw_below_drewN | apply below_drew1 | refine below_set ?_ bB.out) | exact HB.out)) : p := h
theorem zx32_2 {p : Prop} (h : p := by repeat (first | (with_reducible first | exact HB.out | apply below_alloc | apply pw_below_drewN | apply below_drew1 | refine below_set ?_ bB.out | refine below_set ?_ bH.out) | exact HB.out)) : p := h
set_option linter.unusedVariables false
set_option linter.unusedSimpArgs false

/-! ### ledger_Right: function 24 -/
mutual
def ledger_Right.j0 : Nat → Bool → Int → Int → List (S37) → Option (Bool)
 | 0, _, _, _, _ => none
 | k + 1, x20, bK, bJ, bx => if x20 = true then (some false) else (ledger_Right.l0 k bx (bx.length : Int) 0 bK bJ bx)
def ledger_Right.l0 : Nat → List (S37) → Int → Int → Int → Int → List (S37) → Option (Bool)
 | 0, _, _, _, _, _, _ => none
 | k + 1, x22, x23, x24, bK, bJ, bx => if x24 < x23 then (if 0 ≤ x24 then (if x24 < (x22.length : Int) then ((ledger_Dest_right.f k ((rd_T37 x22 x24).f0) ((rd_T37 x22 x24).f1) ((rd_T37 x22 x24).f2) ((rd_T37 x22 x24).f3) ((rd_T37 x22 x24).f4) ((rd_T37 x22 x24).f5) ((rd_T37 x22 x24).f6) bK bJ bx).bind fun di => (if di = true then (if x24 ≤ (bx.length : Int) then ((ledger_place.f (bx.take (x24 : Int).toNat) ((rd_T37 x22 x24).f0)).bind fun bD => (if bD ≥ 0 then (some false) else (ledger_Right.l0 k x22 x23 (wrap64 (x24 + 1)) bK bJ bx))) else (none)) else (some false))) else (none)) else (none)) else (some true)
end
def ledger_Right.f (k : Nat) (bh : Int) (bj : Int) (bb : List (S37)) : Option (Bool) := if bh < 1 then (ledger_Right.j0 k true bh bj bb) else (if bh > bj then (ledger_Right.j0 k true bh bj bb) else (ledger_Right.j0 k (decide ((bb.length : Int) > 4)) bh bj bb))
def ledger_Right.T6 : Bool × List (List Nat × List Nat) := (true, [([], []), ([], []), ([0, 1], [0, 1]), ([2], [2]), ([3, 2], [3]), ([4], [4]), ([5, 4], [4, 5]), ([4], [4]), ([6, 7, 4], [4, 6, 7]), ([4], [4]), ([9, 4], [4, 9]), ([8, 10, 4, 4], [4, 8, 10]), ([11, 4], [4, 11]), ([4, 12], [4, 12])])
def ledger_Right.B6 : List Nat := [0, 0, 3, 7, 15, 31, 63, 31, 255, 31, 543, 2047, 4095, 8191]
theorem ledger_Right.tab6 : rtab .any (opsOf Tryd.f24 6) = ledger_Right.T6 := by kernel_rfl
theorem ledger_Right.bits6 : waitsOk ledger_Right.T6.2 ledger_Right.B6 = true := by kernel_rfl
set_option maxHeartbeats 8000000 in
set_option maxRecDepth 100000 in
theorem ledger_Right.calls (k : Nat) (bh : Int) (bj : Int) (dh : Option Addr) (bl : Nat) (bb : List (S37)) (r : Bool) (w : World) (dq : Kd.C k37 w dh bb.length bb) (du : bb.length ≤ bl) (h : ledger_Right.f k bh bj bb = some r) :
  Calls Tryd.prog 24 #[.agg #[.int .u64 bh, .int .u64 bj, .slice dh bb.length bl]] w fun e w' => e = .returned (.bool r) ∧ Below w.heap.size w w' := by
 have gI := Tryd.underlying27
 have gH := Tryd.underlying37
 have bI := Aside0.mk dq
 have bP := Aside0.mk du
 clear dq du
 have HB := Aside0.mk (Below.refl w.heap.size w)
 have H : (if bh < 1 then (ledger_Right.j0 k true bh bj bb) else (if bh > bj then (ledger_Right.j0 k true bh bj bb) else (ledger_Right.j0 k (decide ((bb.length : Int) > 4)) bh bj bb))) = some r := h
 clear h
 have HC2 := Aside0.mk H
 clear H
 go_enter Tryd.func24, Tryd.ntmps24
 go_upto_region 1 with (first | ((with_reducible refine gate_dst (N := 1) rfl ?_); (try (refine gate_guard (by rfl) ?_; dsimp only)); refine box_event ?hg (N := 1) ?hd (cs := #[.int .u64 bh, .int .u64 bj, .slice dh bb.length bl]) (t := 27) ?hr ?_; (case hd => rfl); (case hg => rfl); (case hr => first | (go_simp; done) | (go_simp; rfl)); intro bi hg w3 hbox hb; have be := Aside0.mk (hbox); have gE := Aside0.mk ((by rw [hg]; exact (below_size zx32_6) : w.heap.size ≤ bi)); have bB := Aside0.mk ((by rw [hg]; exact (below_size zx32_6) : w.heap.size ≤ bi)); replace HB := Aside0.mk (below_step zx32_6 hb); clear hb hbox hg))
 (try simp only [Act.put, List.setIfInBounds_toArray, List.set_cons_zero, List.set_cons_succ])
 go_cut [20] (fun v20 wc => ∃ (kq : Nat) (bR : Bool), v20 = .bool bR ∧ Aside0 (ledger_Right.j0 kq bR bh bj bb = some r) ∧ Aside0 (kq ≤ k) ∧ Aside0 (wc.heap[bi]? = some (.cells #[.int .u64 bh, .int .u64 bj, (.slice dh bb.length bl)] 27 (0, 0))) ∧ Aside0 (Below w.heap.size w wc))
 case first =>
  have H := HC2.out
  clear HC2
  by_cases c4 : bh < 1
  ·rw [if_pos c4] at H
   have bQ : decide (bh < 1) = true := decide_eq_true c4
   clear c4
   (first | rw [bQ] | (simp only [i64_w, i32_w]; rw [bQ]) | skip)
   have H' := Aside0.mk H
   clear H
   obtain ⟨dd, dc, db, b4, b3, b2⟩ := cx32_bc3 be.out
   go_wp2
   go_meet
   case rel => exact ⟨_, (true), (by first | rfl | (simp; done) | (simp [*]; done)), H', ⟨by first | omega | exact Nat.le_refl _⟩, ⟨by (with_reducible repeat (first | refine blk_drewN ?_ _ | refine blk_drew ?_ | refine blk_alloc ?_ _)); exact be.out⟩, ⟨by repeat (first | (with_reducible first | exact HB.out | apply below_alloc | apply pw_below_drewN | apply below_drew1 | refine below_set ?_ bB.out) | exact HB.out)⟩⟩
  rw [if_neg c4] at H
  have bQ : decide (bh < 1) = false := decide_eq_false c4
  clear c4
  (first | rw [bQ] | (simp only [i64_w, i32_w]; rw [bQ]) | skip)
  by_cases c6 : bh > bj
  ·rw [if_pos c6] at H
   have dC : decide (bj < bh) = true := decide_eq_true c6
   clear c6
   have H' := Aside0.mk H
   clear H
   obtain ⟨da, b9, b8, b1, b0, bZ⟩ := cx32_bc3 be.out
   go_wp2
   go_meet
   case rel => exact ⟨_, (true), (by first | rfl | (simp; done) | (simp [*]; done)), H', ⟨by first | omega | exact Nat.le_refl _⟩, ⟨by (with_reducible repeat (first | refine blk_drewN ?_ _ | refine blk_drew ?_ | refine blk_alloc ?_ _)); exact be.out⟩, ⟨by repeat (first | (with_reducible first | exact HB.out | apply below_alloc | apply pw_below_drewN | apply below_drew1 | refine below_set ?_ bB.out) | exact HB.out)⟩⟩
  rw [if_neg c6] at H
  have dC : decide (bj < bh) = false := decide_eq_false c6
  clear c6
  have H' := Aside0.mk H
  clear H
  obtain ⟨b7, b6, b5, bY, bX, bW⟩ := cx32_bc3 be.out
  go_wp2
  go_meet
  case rel => exact ⟨_, (decide ((bb.length : Int) > 4)), (by first | rfl | (simp; done) | (simp [*]; done)), H', ⟨by first | omega | exact Nat.le_refl _⟩, ⟨by (with_reducible repeat (first | refine blk_drewN ?_ _ | refine blk_drew ?_ | refine blk_alloc ?_ _)); exact be.out⟩, ⟨by repeat (first | (with_reducible first | exact HB.out | apply below_alloc | apply pw_below_drewN | apply below_drew1 | refine below_set ?_ bB.out) | exact HB.out)⟩⟩
 case rest =>
  clear HC2
  (try clear c2); (try clear p2); (try clear c4); (try clear bQ); (try clear c6); (try clear dC); (try clear dd); (try clear dc); (try clear db); (try clear da); (try clear b9); (try clear b8); (try clear b7); (try clear b6); (try clear b5); (try clear b4); (try clear b3); (try clear b2); (try clear b1); (try clear b0); (try clear bZ); (try clear bY); (try clear bX); (try clear bW)
  obtain ⟨kq, bR, rfl, HA, HJ1, be, HB⟩ := hcut
  cases kq with
  | zero => exact absurd HA.out (by simp [ledger_Right.j0])
  | succ kj1 => ?_
  have H := HA.out
  clear HA
  simp only [ledger_Right.j0] at H
  by_cases c9 : bR = true
  ·subst c9
   have H1 : (some false) = some r := by rw [if_pos rfl] at H; exact H
   clear H
   have H := H1
   clear H1
   obtain rfl := Option.some.inj H
   go_wp2
   go_ret
   exact ⟨by first | rfl | (simp [errW_none, errW_some] <;> rfl) | (simp [*, errW_none, errW_some] <;> rfl), by repeat (first | (with_reducible first | exact HB.out | apply below_alloc | apply pw_below_drewN | apply below_drew1 | refine below_set ?_ bB.out) | exact HB.out)⟩
  replace c9 := Bool.eq_false_iff.mpr c9
  subst c9
  have H1 : (ledger_Right.l0 kj1 bb (bb.length : Int) 0 bh bj bb) = some r := by rw [if_neg (show ¬ (false = true) by decide)] at H; exact H
  clear H
  have H := H1
  clear H1
  have H' := Aside0.mk H
  clear H
  obtain ⟨dp, dn, dm, dl, dk, dj⟩ := cx32_bc3 be.out
  go_wp2
  go_loopg [24] kj1 (fun kq v24 w' => ∃ (ba : Int), v24 = .int .i64 ba ∧ Aside0 (ledger_Right.l0 kq bb (bb.length : Int) ba bh bj bb = some r) ∧ Aside0 (kq ≤ kj1) ∧ Aside0 (w'.heap[bi]? = some (.cells #[.int .u64 bh, .int .u64 bj, (.slice dh bb.length bl)] 27 (0, 0))) ∧ Aside0 (Below w.heap.size w w'))
  case atStart => exact ⟨(0), (by first | rfl | (simp; done) | (simp [*]; done)), H', ⟨Nat.le_refl _⟩, ⟨by (with_reducible repeat (first | refine blk_drewN ?_ _ | refine blk_drew ?_ | refine blk_alloc ?_ _)); exact be.out⟩, ⟨by repeat (first | (with_reducible first | exact HB.out | apply below_alloc | apply pw_below_drewN | apply below_drew1 | refine below_set ?_ bB.out) | exact HB.out)⟩⟩
  case round =>
   clear H'
   (try clear c2); (try clear p2); (try clear c4); (try clear bQ); (try clear c6); (try clear dC); (try clear c9); (try clear dp); (try clear dn); (try clear dm); (try clear dd); (try clear dc); (try clear db); (try clear da); (try clear b9); (try clear b8); (try clear b7); (try clear b6); (try clear b5); (try clear dl); (try clear dk); (try clear dj); (try clear b4); (try clear b3); (try clear b2); (try clear b1); (try clear b0); (try clear bZ); (try clear bY); (try clear bX); (try clear bW); (try clear p2)
   obtain ⟨ba, rfl, HA, HK2, be, HB⟩ := hrel
   cases gk with
   | zero => exact absurd HA.out (by simp [ledger_Right.l0])
   | succ k2 => ?_
   have H := HA.out
   clear HA
   simp only [ledger_Right.l0] at H
   by_cases c11 : ba < (bb.length : Int)
   case neg =>
    rw [if_neg c11] at H
    have dI : decide (ba < (bb.length : Int)) = false := decide_eq_false c11
    clear c11
    obtain rfl := Option.some.inj H
    go_wp2
    go_ret
    exact ⟨by first | rfl | (simp [errW_none, errW_some] <;> rfl) | (simp [*, errW_none, errW_some] <;> rfl), by repeat (first | (with_reducible first | exact HB.out | apply below_alloc | apply pw_below_drewN | apply below_drew1 | refine below_set ?_ bB.out) | exact HB.out)⟩

   rw [if_pos c11] at H
   have dI : decide (ba < (bb.length : Int)) = true := decide_eq_true c11
   clear c11
   by_cases c12 : 0 ≤ ba
   case neg =>
    rw [if_neg c12] at H
    exact absurd H (by simp)
   rw [if_pos c12] at H
   have gD : decide (0 ≤ ba) = true := decide_eq_true c12
   clear c12
   by_cases c13 : ba < (bb.length : Int)
   case neg =>
    rw [if_neg c13] at H
    exact absurd H (by simp)
   rw [if_pos c13] at H
   have gC : decide (ba < (bb.length : Int)) = true := decide_eq_true c13
   clear c13
   replace H := Option.bind_eq_some_iff.mp H
   obtain ⟨di, dK, H⟩ := H
   replace H : (if di = true then (if ba ≤ (bb.length : Int) then ((ledger_place.f (bb.take (ba : Int).toNat) ((rd_T37 bb ba).f0)).bind fun bD => (if bD ≥ 0 then (some false) else (ledger_Right.l0 k2 bb (bb.length : Int) (wrap64 (ba + 1)) bh bj bb))) else (none)) else (some false)) = some r := H
   have A14 := Aside0.mk dK
   clear dK
   by_cases c15 : di = true
   case neg =>
    replace c15 := Bool.eq_false_iff.mpr c15
    subst c15
    have H1 : (some false) = some r := by rw [if_neg (show ¬ (false = true) by decide)] at H; exact H
    clear H
    have H := H1
    clear H1
    obtain rfl := Option.some.inj H
    have bM : 0 ≤ (ba : Int) := of_decide_eq_true zx32_5
    have bL : ba < (bb.length : Int) := of_decide_eq_true zx32_5
    obtain ⟨bk, bg, bf, de, bw, bu, br, bq, bp, bo, bn, bz, bA⟩ := at_T37 bI.out ba bM bL
    cases de
    replace bw := (HB.out.cell (World.block_lt_of_cell? w _ bw)).trans bw
    replace bu := (HB.out.cell (World.block_lt_of_cell? w _ bu)).trans bu
    replace br := (HB.out.cell (World.block_lt_of_cell? w _ br)).trans br
    replace bq := (HB.out.cell (World.block_lt_of_cell? w _ bq)).trans bq
    replace bp := (HB.out.cell (World.block_lt_of_cell? w _ bp)).trans bp
    replace bo := (HB.out.cell (World.block_lt_of_cell? w _ bo)).trans bo
    replace bn := (HB.out.cell (World.block_lt_of_cell? w _ bn)).trans bn
    have bE := Aside0.mk bA
    have bG := Aside0.mk bz
    clear bA bz
    replace bM := eq_true bM
    replace bL := eq_true bL
    try go_wp2_with (first | ((with_reducible refine gate_dst (N := 4) rfl ?_); (try (refine gate_guard (by rfl) ?_; dsimp only)); refine box_event ?hg (N := 4) ?hd (cs := #[.string (⟨#[]⟩ : ByteArray), .int .u64 0, .int .u64 0, .slice none 0 0, .int .u64 0, .int .u64 0, .int .u64 0]) (t := 37) ?hr ?_; (case hd => rfl); (case hg => rfl); (case hr => first | (go_simp; done) | (go_simp; rfl)); intro bc hg w36 hbox hb; have bd := Aside0.mk (hbox); have dv := Aside0.mk ((by rw [hg]; exact (below_size zx32_1) : w.heap.size ≤ bc)); have bH := Aside0.mk ((by rw [hg]; exact (below_size zx32_1) : w.heap.size ≤ bc)); replace HB := Aside0.mk (below_step zx32_1 hb); have bm := Aside0.mk ((by rw [hg]; exact Nat.ne_of_lt (blk_lt (g := bi) (o := .cells #[.int .u64 bh, .int .u64 bj, .slice (some bk) bb.length bl] 27 (0, 0)) zx32_0) : bi ≠ bc)); have bC := Aside0.mk ((by rw [hg]; exact Nat.ne_of_gt (blk_lt (g := bi) (o := .cells #[.int .u64 bh, .int .u64 bj, .slice (some bk) bb.length bl] 27 (0, 0)) zx32_0) : bc ≠ bi)); replace be := Aside0.mk (blk_below (g := bi) (o := .cells #[.int .u64 bh, .int .u64 bj, .slice (some bk) bb.length bl] 27 (0, 0)) zx32_0 hb); clear hb hbox hg; have gw := bC.out; have gt := bm.out; have gc : w36.cell? ⟨bc, 0, none⟩ = some (.string (⟨#[]⟩ : ByteArray)) := (blk_cell bd.out 0).trans rfl; have gb : w36.cell? ⟨bc, 1, none⟩ = some (.int .u64 0) := (blk_cell bd.out 1).trans rfl; have ga : w36.cell? ⟨bc, 2, none⟩ = some (.int .u64 0) := (blk_cell bd.out 2).trans rfl; have d9 : w36.cell? ⟨bc, 3, none⟩ = some (.slice none 0 0) := (blk_cell bd.out 3).trans rfl; have d8 : w36.cell? ⟨bc, 4, none⟩ = some (.int .u64 0) := (blk_cell bd.out 4).trans rfl; have d7 : w36.cell? ⟨bc, 5, none⟩ = some (.int .u64 0) := (blk_cell bd.out 5).trans rfl; have d6 : w36.cell? ⟨bc, 6, none⟩ = some (.int .u64 0) := (blk_cell bd.out 6).trans rfl; have dR := blk_frozen bd.out 0; have dQ := blk_frozen bd.out 1; have dP := blk_frozen bd.out 2; have dO := blk_frozen bd.out 3; have dN := blk_frozen bd.out 4; have dM := blk_frozen bd.out 5; have dL := blk_frozen bd.out 6))
    have n0_ : Aside0 ((((((((w36.setCell ⟨bc, 0, none⟩ (.string ((rd_T37 bb ba).f0))).setCell ⟨bc, 1, none⟩ (.int .u64 ((rd_T37 bb ba).f1))).setCell ⟨bc, 2, none⟩ (.int .u64 ((rd_T37 bb ba).f2))).setCell ⟨bc, 3, none⟩ (.slice bg ((rd_T37 bb ba).f3).length bf)).setCell ⟨bc, 4, none⟩ (.int .u64 ((rd_T37 bb ba).f4))).setCell ⟨bc, 5, none⟩ (.int .u64 ((rd_T37 bb ba).f5))).setCell ⟨bc, 6, none⟩ (.int .u64 ((rd_T37 bb ba).f6))).heap[bi]? = some (.cells #[.int .u64 bh, .int .u64 bj, .slice (some bk) bb.length bl] 27 (0, 0))) := ⟨by (iterate 7 ((with_reducible repeat (first | refine blk_drewN ?_ _ | refine blk_drew ?_ | refine blk_alloc ?_ _)); refine blk_far ?_ bm.out _)); (with_reducible repeat (first | refine blk_drewN ?_ _ | refine blk_drew ?_ | refine blk_alloc ?_ _)); exact be.out⟩
    have n1_ : Aside0 ((((((((w36.setCell ⟨bc, 0, none⟩ (.string ((rd_T37 bb ba).f0))).setCell ⟨bc, 1, none⟩ (.int .u64 ((rd_T37 bb ba).f1))).setCell ⟨bc, 2, none⟩ (.int .u64 ((rd_T37 bb ba).f2))).setCell ⟨bc, 3, none⟩ (.slice bg ((rd_T37 bb ba).f3).length bf)).setCell ⟨bc, 4, none⟩ (.int .u64 ((rd_T37 bb ba).f4))).setCell ⟨bc, 5, none⟩ (.int .u64 ((rd_T37 bb ba).f5))).setCell ⟨bc, 6, none⟩ (.int .u64 ((rd_T37 bb ba).f6))).heap[bc]? = some (.cells #[.string ((rd_T37 bb ba).f0), .int .u64 ((rd_T37 bb ba).f1), .int .u64 ((rd_T37 bb ba).f2), .slice bg ((rd_T37 bb ba).f3).length bf, .int .u64 ((rd_T37 bb ba).f4), .int .u64 ((rd_T37 bb ba).f5), .int .u64 ((rd_T37 bb ba).f6)] 37 (0, 0))) := ⟨by (with_reducible repeat (first | refine blk_drewN ?_ _ | refine blk_drew ?_ | refine blk_alloc ?_ _)); refine blk_put (cs := #[.string ((rd_T37 bb ba).f0), .int .u64 ((rd_T37 bb ba).f1), .int .u64 ((rd_T37 bb ba).f2), .slice bg ((rd_T37 bb ba).f3).length bf, .int .u64 ((rd_T37 bb ba).f4), .int .u64 ((rd_T37 bb ba).f5), .int .u64 0]) ?_ 6 _ rfl; (with_reducible repeat (first | refine blk_drewN ?_ _ | refine blk_drew ?_ | refine blk_alloc ?_ _)); refine blk_put (cs := #[.string ((rd_T37 bb ba).f0), .int .u64 ((rd_T37 bb ba).f1), .int .u64 ((rd_T37 bb ba).f2), .slice bg ((rd_T37 bb ba).f3).length bf, .int .u64 ((rd_T37 bb ba).f4), .int .u64 0, .int .u64 0]) ?_ 5 _ rfl; (with_reducible repeat (first | refine blk_drewN ?_ _ | refine blk_drew ?_ | refine blk_alloc ?_ _)); refine blk_put (cs := #[.string ((rd_T37 bb ba).f0), .int .u64 ((rd_T37 bb ba).f1), .int .u64 ((rd_T37 bb ba).f2), .slice bg ((rd_T37 bb ba).f3).length bf, .int .u64 0, .int .u64 0, .int .u64 0]) ?_ 4 _ rfl; (with_reducible repeat (first | refine blk_drewN ?_ _ | refine blk_drew ?_ | refine blk_alloc ?_ _)); refine blk_put (cs := #[.string ((rd_T37 bb ba).f0), .int .u64 ((rd_T37 bb ba).f1), .int .u64 ((rd_T37 bb ba).f2), .slice none 0 0, .int .u64 0, .int .u64 0, .int .u64 0]) ?_ 3 _ rfl; (with_reducible repeat (first | refine blk_drewN ?_ _ | refine blk_drew ?_ | refine blk_alloc ?_ _)); refine blk_put (cs := #[.string ((rd_T37 bb ba).f0), .int .u64 ((rd_T37 bb ba).f1), .int .u64 0, .slice none 0 0, .int .u64 0, .int .u64 0, .int .u64 0]) ?_ 2 _ rfl; (with_reducible repeat (first | refine blk_drewN ?_ _ | refine blk_drew ?_ | refine blk_alloc ?_ _)); refine blk_put (cs := #[.string ((rd_T37 bb ba).f0), .int .u64 0, .int .u64 0, .slice none 0 0, .int .u64 0, .int .u64 0, .int .u64 0]) ?_ 1 _ rfl; (with_reducible repeat (first | refine blk_drewN ?_ _ | refine blk_drew ?_ | refine blk_alloc ?_ _)); refine blk_put (cs := #[.string (⟨#[]⟩ : ByteArray), .int .u64 0, .int .u64 0, .slice none 0 0, .int .u64 0, .int .u64 0, .int .u64 0]) ?_ 0 _ rfl; (with_reducible repeat (first | refine blk_drewN ?_ _ | refine blk_drew ?_ | refine blk_alloc ?_ _)); exact bd.out⟩
    have n2_ : Aside0 (Below w.heap.size w (((((((w36.setCell ⟨bc, 0, none⟩ (.string ((rd_T37 bb ba).f0))).setCell ⟨bc, 1, none⟩ (.int .u64 ((rd_T37 bb ba).f1))).setCell ⟨bc, 2, none⟩ (.int .u64 ((rd_T37 bb ba).f2))).setCell ⟨bc, 3, none⟩ (.slice bg ((rd_T37 bb ba).f3).length bf)).setCell ⟨bc, 4, none⟩ (.int .u64 ((rd_T37 bb ba).f4))).setCell ⟨bc, 5, none⟩ (.int .u64 ((rd_T37 bb ba).f5))).setCell ⟨bc, 6, none⟩ (.int .u64 ((rd_T37 bb ba).f6)))) := ⟨by repeat (first | (with_reducible first | exact HB.out | apply below_alloc | apply pw_below_drewN | apply below_drew1 | refine below_set ?_ bB.out | refine below_set ?_ bH.out) | exact HB.out)⟩
    (try clear be)
    (try clear bd)
    (try clear HB)
    generalize (((((((w36.setCell ⟨bc, 0, none⟩ (.string ((rd_T37 bb ba).f0))).setCell ⟨bc, 1, none⟩ (.int .u64 ((rd_T37 bb ba).f1))).setCell ⟨bc, 2, none⟩ (.int .u64 ((rd_T37 bb ba).f2))).setCell ⟨bc, 3, none⟩ (.slice bg ((rd_T37 bb ba).f3).length bf)).setCell ⟨bc, 4, none⟩ (.int .u64 ((rd_T37 bb ba).f4))).setCell ⟨bc, 5, none⟩ (.int .u64 ((rd_T37 bb ba).f5))).setCell ⟨bc, 6, none⟩ (.int .u64 ((rd_T37 bb ba).f6))) = w39 at n0_ n1_ n2_ ⊢
    have be := n0_
    have bd := n1_
    have HB := n2_
    clear n0_ n1_ n2_
    replace be := Aside0.mk (blk_drew be.out)
    replace bd := Aside0.mk (blk_drew bd.out)
    replace HB := Aside0.mk (below_drew1 HB.out)
    refine start_ (n := 14) (S := fun w' => w'.cell? ⟨bc, 0, none⟩ = some (.string ((rd_T37 bb ba).f0)) ∧ w'.cell? ⟨bc, 1, none⟩ = some (.int .u64 ((rd_T37 bb ba).f1)) ∧ w'.cell? ⟨bc, 2, none⟩ = some (.int .u64 ((rd_T37 bb ba).f2)) ∧ w'.cell? ⟨bc, 3, none⟩ = some (.slice bg ((rd_T37 bb ba).f3).length bf) ∧ w'.cell? ⟨bc, 4, none⟩ = some (.int .u64 ((rd_T37 bb ba).f4)) ∧ w'.cell? ⟨bc, 5, none⟩ = some (.int .u64 ((rd_T37 bb ba).f5)) ∧ w'.cell? ⟨bc, 6, none⟩ = some (.int .u64 ((rd_T37 bb ba).f6)) ∧ w'.cell? ⟨bi, 0, none⟩ = some (.int .u64 bh) ∧ w'.cell? ⟨bi, 1, none⟩ = some (.int .u64 bj) ∧ w'.cell? ⟨bi, 2, none⟩ = some (.slice (some bk) bb.length bl)) (ds := []) #[Ff,Ff,Ff,Ff,Ff,Ff,Ff,Ff,Ff,Ff,Ff,Ff,Ff,Ff] (by kernel_rfl) rfl rfl ⟨(blk_cell bd.out 0).trans rfl, (blk_cell bd.out 1).trans rfl, (blk_cell bd.out 2).trans rfl, (blk_cell bd.out 3).trans rfl, (blk_cell bd.out 4).trans rfl, (blk_cell bd.out 5).trans rfl, (blk_cell bd.out 6).trans rfl, (blk_cell be.out 0).trans rfl, (blk_cell be.out 1).trans rfl, (blk_cell be.out 2).trans rfl⟩ (fun hHeld => ?_); refine with_tabW ledger_Right.tab6 ledger_Right.bits6 (fun HT_ HW_ => ?_)
    generalize w39.drew = w40 at be bd HB hHeld ⊢
    refine take_ (i := 0) (N := some 29) (v := ?_) (a' := ?_) #[Tt,Ff,Ff,Ff,Ff,Ff,Ff,Ff,Ff,Ff,Ff,Ff,Ff,Ff] rfl rfl (take_ofW HT_.out HW_.out (by kernel_rfl)) (fun _ _ _ h => h) (Or.inl ⟨by rfl, ?_⟩) hHeld ?_ ?_
    rotate_left
    ·rintro w' ⟨s0, s1, s2, s3, s4, s5, s6, s7, s8, s9⟩
     go_simp
     with_reducible rfl
    rotate_left
    ·simp only [Act.put, List.setIfInBounds_toArray, List.set_cons_zero, List.set_cons_succ, i64_w, i32_w]
     rfl
    refine take_ (i := 1) (N := some 30) (v := ?_) (a' := ?_) #[Tt,Tt,Ff,Ff,Ff,Ff,Ff,Ff,Ff,Ff,Ff,Ff,Ff,Ff] rfl rfl (take_ofW HT_.out HW_.out (by kernel_rfl)) (fun _ _ _ h => h) (Or.inl ⟨by rfl, ?_⟩) hHeld ?_ ?_
    rotate_left
    ·rintro w' ⟨s0, s1, s2, s3, s4, s5, s6, s7, s8, s9⟩
     go_simp
     with_reducible rfl
    rotate_left
    ·simp only [Act.put, List.setIfInBounds_toArray, List.set_cons_zero, List.set_cons_succ, i64_w, i32_w]
     rfl
    refine one_ (i := 2) (N := some 31) #[Tt,Tt,Tt,Ff,Ff,Ff,Ff,Ff,Ff,Ff,Ff,Ff,Ff,Ff] rfl rfl (one_of HT_.out (by kernel_rfl)) (by decide) (fun K hK => ?_)
    refine goes_ Tryd.func38 (by kernel_rfl) rfl #[.agg #[.string ((rd_T37 bb ba).f0), .int .u64 ((rd_T37 bb ba).f1), .int .u64 ((rd_T37 bb ba).f2), .slice bg ((rd_T37 bb ba).f3).length bf, .int .u64 ((rd_T37 bb ba).f4), .int .u64 ((rd_T37 bb ba).f5), .int .u64 ((rd_T37 bb ba).f6)], .agg #[.int .u64 bh, .int .u64 bj, .slice (some bk) bb.length bl]] (by rfl) rfl rfl zx32_3 ?_
    with_reducible refine (ledger_Dest_right.calls k2 ((rd_T37 bb ba).f0) ((rd_T37 bb ba).f1) ((rd_T37 bb ba).f2) _ _ ((rd_T37 bb ba).f3) ((rd_T37 bb ba).f4) ((rd_T37 bb ba).f5) ((rd_T37 bb ba).f6) bh bj _ _ bb false _ ?side1 ?side2 ?side3 ?side4 A14.out).mono ?_
    (case side1 => repeat (first | exact (Kd.C_below bE.out HB.out) | (with_reducible refine Kd.C_alloc ?_ _) | (with_reducible refine Kd.C_drewN ?_ _) | (with_reducible refine Kd.C_drew ?_)))
    (case side2 => exact bG.out)
    (case side3 => repeat (first | exact (Kd.C_below bI.out HB.out) | (with_reducible refine Kd.C_alloc ?_ _) | (with_reducible refine Kd.C_drewN ?_ _) | (with_reducible refine Kd.C_drew ?_)))
    (case side4 => exact bP.out)
    rintro e w41 ⟨rfl, hb⟩
    refine ⟨_, rfl, ?_⟩
    replace be := Aside0.mk (blk_below (g := bi) (o := .cells #[.int .u64 bh, .int .u64 bj, .slice (some bk) bb.length bl] 27 (0, 0)) zx32_0 hb)
    replace bd := Aside0.mk (blk_below (g := bc) (o := .cells #[.string ((rd_T37 bb ba).f0), .int .u64 ((rd_T37 bb ba).f1), .int .u64 ((rd_T37 bb ba).f2), .slice bg ((rd_T37 bb ba).f3).length bf, .int .u64 ((rd_T37 bb ba).f4), .int .u64 ((rd_T37 bb ba).f5), .int .u64 ((rd_T37 bb ba).f6)] 37 (0, 0)) zx32_4 hb)
    replace HB := Aside0.mk (below_step zx32_2 hb)
    (try clear hb)
    (try clear hb2)
    (try clear hk)
    (try clear hi)
    refine hK.out _ _ ⟨(blk_cell bd.out 0).trans rfl, (blk_cell bd.out 1).trans rfl, (blk_cell bd.out 2).trans rfl, (blk_cell bd.out 3).trans rfl, (blk_cell bd.out 4).trans rfl, (blk_cell bd.out 5).trans rfl, (blk_cell bd.out 6).trans rfl, (blk_cell be.out 0).trans rfl, (blk_cell be.out 1).trans rfl, (blk_cell be.out 2).trans rfl⟩ (fun hHeld => ?_)
    clear hK K
    refine na_ 31 ?_
    refine pp_ 3 (some 32) HT_.out ?_
    refine pp_ 4 (some 33) HT_.out ?_
    refine pu_ 5 (some 34) HT_.out ?_
    refine pu_ 6 (some 35) HT_.out ?_
    refine pu_ 7 (some 36) HT_.out ?_
    refine pu_ 8 (some 37) HT_.out ?_
    refine pu_ 9 (some 38) HT_.out ?_
    refine pu_ 10 (some 39) HT_.out ?_
    refine pu_ 11 (some 40) HT_.out ?_
    refine pu_ 12 (some 41) HT_.out ?_
    refine pp_ 13 (some 42) HT_.out ?_
    refine done_ (done_of HT_.out (by kernel_rfl)) ?_
    try go_wp2
    go_ret
    exact ⟨by first | rfl | (simp [errW_none, errW_some] <;> rfl) | (simp [*, errW_none, errW_some] <;> rfl), by repeat (first | (with_reducible first | exact HB.out | apply below_alloc | apply pw_below_drewN | apply below_drew1 | refine below_set ?_ bB.out | refine below_set ?_ bH.out) | exact HB.out)⟩
   subst c15
   have H1 : (if ba ≤ (bb.length : Int) then ((ledger_place.f (bb.take (ba : Int).toNat) ((rd_T37 bb ba).f0)).bind fun bD => (if bD ≥ 0 then (some false) else (ledger_Right.l0 k2 bb (bb.length : Int) (wrap64 (ba + 1)) bh bj bb))) else (none)) = some r := by rw [if_pos rfl] at H; exact H
   clear H
   have H := H1
   clear H1
   have gB := eq_true (of_decide_eq_true zx32_5 : 0 ≤ ba)
   by_cases c17 : ba ≤ (bb.length : Int)
   case neg =>
    rw [if_neg c17] at H
    exact absurd H (by simp)
   rw [if_pos c17] at H
   have gA := eq_true c17
   have gz : decide (ba ≤ (bb.length : Int)) = true := decide_eq_true c17
   clear c17
   obtain ⟨bN, bO⟩ : ∃ y_ : List (S37), y_ = (bb.take (ba : Int).toNat) := ⟨_, rfl⟩
   replace H : ((ledger_place.f bN ((rd_T37 bb ba).f0)).bind fun bD => (if bD ≥ 0 then (some false) else (ledger_Right.l0 k2 bb (bb.length : Int) (wrap64 (ba + 1)) bh bj bb))) = some r := by first | (rw [bO]; with_reducible exact H) | (have H2_ := (Option.bind_some _ _).symm.trans H; rw [bO]; with_reducible exact H2_) | (have H2_ := (Option.bind_some _ _).symm.trans H; with_reducible exact H2_) | with_reducible exact H | (rw [bO]; exact H) | exact H
   have bV := Aside0.mk bO
   clear bO
   replace H := Option.bind_eq_some_iff.mp H
   obtain ⟨bD, dJ, H⟩ := H
   replace H : (if bD ≥ 0 then (some false) else (ledger_Right.l0 k2 bb (bb.length : Int) (wrap64 (ba + 1)) bh bj bb)) = some r := H
   have A18 := Aside0.mk dJ
   clear dJ
   by_cases c19 : bD ≥ 0
   ·rw [if_pos c19] at H
    have dH : decide (0 ≤ bD) = true := decide_eq_true c19
    clear c19
    obtain rfl := Option.some.inj H
    have bM : 0 ≤ (ba : Int) := of_decide_eq_true zx32_5
    have bL : ba < (bb.length : Int) := of_decide_eq_true zx32_5
    obtain ⟨bk, bg, bf, de, bw, bu, br, bq, bp, bo, bn, bz, bA⟩ := at_T37 bI.out ba bM bL
    cases de
    replace bw := (HB.out.cell (World.block_lt_of_cell? w _ bw)).trans bw
    replace bu := (HB.out.cell (World.block_lt_of_cell? w _ bu)).trans bu
    replace br := (HB.out.cell (World.block_lt_of_cell? w _ br)).trans br
    replace bq := (HB.out.cell (World.block_lt_of_cell? w _ bq)).trans bq
    replace bp := (HB.out.cell (World.block_lt_of_cell? w _ bp)).trans bp
    replace bo := (HB.out.cell (World.block_lt_of_cell? w _ bo)).trans bo
    replace bn := (HB.out.cell (World.block_lt_of_cell? w _ bn)).trans bn
    have bE := Aside0.mk bA
    have bG := Aside0.mk bz
    clear bA bz
    replace bM := eq_true bM
    replace bL := eq_true bL
    try go_wp2_with (first | ((with_reducible refine gate_dst (N := 4) rfl ?_); (try (refine gate_guard (by rfl) ?_; dsimp only)); refine box_event ?hg (N := 4) ?hd (cs := #[.string (⟨#[]⟩ : ByteArray), .int .u64 0, .int .u64 0, .slice none 0 0, .int .u64 0, .int .u64 0, .int .u64 0]) (t := 37) ?hr ?_; (case hd => rfl); (case hg => rfl); (case hr => first | (go_simp; done) | (go_simp; rfl)); intro bc hg w20 hbox hb; have bd := Aside0.mk (hbox); have dv := Aside0.mk ((by rw [hg]; exact (below_size zx32_1) : w.heap.size ≤ bc)); have bH := Aside0.mk ((by rw [hg]; exact (below_size zx32_1) : w.heap.size ≤ bc)); replace HB := Aside0.mk (below_step zx32_1 hb); have bm := Aside0.mk ((by rw [hg]; exact Nat.ne_of_lt (blk_lt (g := bi) (o := .cells #[.int .u64 bh, .int .u64 bj, .slice (some bk) bb.length bl] 27 (0, 0)) zx32_0) : bi ≠ bc)); have bC := Aside0.mk ((by rw [hg]; exact Nat.ne_of_gt (blk_lt (g := bi) (o := .cells #[.int .u64 bh, .int .u64 bj, .slice (some bk) bb.length bl] 27 (0, 0)) zx32_0) : bc ≠ bi)); replace be := Aside0.mk (blk_below (g := bi) (o := .cells #[.int .u64 bh, .int .u64 bj, .slice (some bk) bb.length bl] 27 (0, 0)) zx32_0 hb); clear hb hbox hg; have gy := bC.out; have gv := bm.out; have gs : w20.cell? ⟨bc, 0, none⟩ = some (.string (⟨#[]⟩ : ByteArray)) := (blk_cell bd.out 0).trans rfl; have gr : w20.cell? ⟨bc, 1, none⟩ = some (.int .u64 0) := (blk_cell bd.out 1).trans rfl; have gq : w20.cell? ⟨bc, 2, none⟩ = some (.int .u64 0) := (blk_cell bd.out 2).trans rfl; have gp : w20.cell? ⟨bc, 3, none⟩ = some (.slice none 0 0) := (blk_cell bd.out 3).trans rfl; have go : w20.cell? ⟨bc, 4, none⟩ = some (.int .u64 0) := (blk_cell bd.out 4).trans rfl; have gn : w20.cell? ⟨bc, 5, none⟩ = some (.int .u64 0) := (blk_cell bd.out 5).trans rfl; have gm : w20.cell? ⟨bc, 6, none⟩ = some (.int .u64 0) := (blk_cell bd.out 6).trans rfl; have d5 := blk_frozen bd.out 0; have d4 := blk_frozen bd.out 1; have d3 := blk_frozen bd.out 2; have d2 := blk_frozen bd.out 3; have d1 := blk_frozen bd.out 4; have d0 := blk_frozen bd.out 5; have dZ := blk_frozen bd.out 6))
    have n0_ : Aside0 ((((((((w20.setCell ⟨bc, 0, none⟩ (.string ((rd_T37 bb ba).f0))).setCell ⟨bc, 1, none⟩ (.int .u64 ((rd_T37 bb ba).f1))).setCell ⟨bc, 2, none⟩ (.int .u64 ((rd_T37 bb ba).f2))).setCell ⟨bc, 3, none⟩ (.slice bg ((rd_T37 bb ba).f3).length bf)).setCell ⟨bc, 4, none⟩ (.int .u64 ((rd_T37 bb ba).f4))).setCell ⟨bc, 5, none⟩ (.int .u64 ((rd_T37 bb ba).f5))).setCell ⟨bc, 6, none⟩ (.int .u64 ((rd_T37 bb ba).f6))).heap[bi]? = some (.cells #[.int .u64 bh, .int .u64 bj, .slice (some bk) bb.length bl] 27 (0, 0))) := ⟨by (iterate 7 ((with_reducible repeat (first | refine blk_drewN ?_ _ | refine blk_drew ?_ | refine blk_alloc ?_ _)); refine blk_far ?_ bm.out _)); (with_reducible repeat (first | refine blk_drewN ?_ _ | refine blk_drew ?_ | refine blk_alloc ?_ _)); exact be.out⟩
    have n1_ : Aside0 ((((((((w20.setCell ⟨bc, 0, none⟩ (.string ((rd_T37 bb ba).f0))).setCell ⟨bc, 1, none⟩ (.int .u64 ((rd_T37 bb ba).f1))).setCell ⟨bc, 2, none⟩ (.int .u64 ((rd_T37 bb ba).f2))).setCell ⟨bc, 3, none⟩ (.slice bg ((rd_T37 bb ba).f3).length bf)).setCell ⟨bc, 4, none⟩ (.int .u64 ((rd_T37 bb ba).f4))).setCell ⟨bc, 5, none⟩ (.int .u64 ((rd_T37 bb ba).f5))).setCell ⟨bc, 6, none⟩ (.int .u64 ((rd_T37 bb ba).f6))).heap[bc]? = some (.cells #[.string ((rd_T37 bb ba).f0), .int .u64 ((rd_T37 bb ba).f1), .int .u64 ((rd_T37 bb ba).f2), .slice bg ((rd_T37 bb ba).f3).length bf, .int .u64 ((rd_T37 bb ba).f4), .int .u64 ((rd_T37 bb ba).f5), .int .u64 ((rd_T37 bb ba).f6)] 37 (0, 0))) := ⟨by (with_reducible repeat (first | refine blk_drewN ?_ _ | refine blk_drew ?_ | refine blk_alloc ?_ _)); refine blk_put (cs := #[.string ((rd_T37 bb ba).f0), .int .u64 ((rd_T37 bb ba).f1), .int .u64 ((rd_T37 bb ba).f2), .slice bg ((rd_T37 bb ba).f3).length bf, .int .u64 ((rd_T37 bb ba).f4), .int .u64 ((rd_T37 bb ba).f5), .int .u64 0]) ?_ 6 _ rfl; (with_reducible repeat (first | refine blk_drewN ?_ _ | refine blk_drew ?_ | refine blk_alloc ?_ _)); refine blk_put (cs := #[.string ((rd_T37 bb ba).f0), .int .u64 ((rd_T37 bb ba).f1), .int .u64 ((rd_T37 bb ba).f2), .slice bg ((rd_T37 bb ba).f3).length bf, .int .u64 ((rd_T37 bb ba).f4), .int .u64 0, .int .u64 0]) ?_ 5 _ rfl; (with_reducible repeat (first | refine blk_drewN ?_ _ | refine blk_drew ?_ | refine blk_alloc ?_ _)); refine blk_put (cs := #[.string ((rd_T37 bb ba).f0), .int .u64 ((rd_T37 bb ba).f1), .int .u64 ((rd_T37 bb ba).f2), .slice bg ((rd_T37 bb ba).f3).length bf, .int .u64 0, .int .u64 0, .int .u64 0]) ?_ 4 _ rfl; (with_reducible repeat (first | refine blk_drewN ?_ _ | refine blk_drew ?_ | refine blk_alloc ?_ _)); refine blk_put (cs := #[.string ((rd_T37 bb ba).f0), .int .u64 ((rd_T37 bb ba).f1), .int .u64 ((rd_T37 bb ba).f2), .slice none 0 0, .int .u64 0, .int .u64 0, .int .u64 0]) ?_ 3 _ rfl; (with_reducible repeat (first | refine blk_drewN ?_ _ | refine blk_drew ?_ | refine blk_alloc ?_ _)); refine blk_put (cs := #[.string ((rd_T37 bb ba).f0), .int .u64 ((rd_T37 bb ba).f1), .int .u64 0, .slice none 0 0, .int .u64 0, .int .u64 0, .int .u64 0]) ?_ 2 _ rfl; (with_reducible repeat (first | refine blk_drewN ?_ _ | refine blk_drew ?_ | refine blk_alloc ?_ _)); refine blk_put (cs := #[.string ((rd_T37 bb ba).f0), .int .u64 0, .int .u64 0, .slice none 0 0, .int .u64 0, .int .u64 0, .int .u64 0]) ?_ 1 _ rfl; (with_reducible repeat (first | refine blk_drewN ?_ _ | refine blk_drew ?_ | refine blk_alloc ?_ _)); refine blk_put (cs := #[.string (⟨#[]⟩ : ByteArray), .int .u64 0, .int .u64 0, .slice none 0 0, .int .u64 0, .int .u64 0, .int .u64 0]) ?_ 0 _ rfl; (with_reducible repeat (first | refine blk_drewN ?_ _ | refine blk_drew ?_ | refine blk_alloc ?_ _)); exact bd.out⟩
    have n2_ : Aside0 (Below w.heap.size w (((((((w20.setCell ⟨bc, 0, none⟩ (.string ((rd_T37 bb ba).f0))).setCell ⟨bc, 1, none⟩ (.int .u64 ((rd_T37 bb ba).f1))).setCell ⟨bc, 2, none⟩ (.int .u64 ((rd_T37 bb ba).f2))).setCell ⟨bc, 3, none⟩ (.slice bg ((rd_T37 bb ba).f3).length bf)).setCell ⟨bc, 4, none⟩ (.int .u64 ((rd_T37 bb ba).f4))).setCell ⟨bc, 5, none⟩ (.int .u64 ((rd_T37 bb ba).f5))).setCell ⟨bc, 6, none⟩ (.int .u64 ((rd_T37 bb ba).f6)))) := ⟨by repeat (first | (with_reducible first | exact HB.out | apply below_alloc | apply pw_below_drewN | apply below_drew1 | refine below_set ?_ bB.out | refine below_set ?_ bH.out) | exact HB.out)⟩
    (try clear be)
    (try clear bd)
    (try clear HB)
    generalize (((((((w20.setCell ⟨bc, 0, none⟩ (.string ((rd_T37 bb ba).f0))).setCell ⟨bc, 1, none⟩ (.int .u64 ((rd_T37 bb ba).f1))).setCell ⟨bc, 2, none⟩ (.int .u64 ((rd_T37 bb ba).f2))).setCell ⟨bc, 3, none⟩ (.slice bg ((rd_T37 bb ba).f3).length bf)).setCell ⟨bc, 4, none⟩ (.int .u64 ((rd_T37 bb ba).f4))).setCell ⟨bc, 5, none⟩ (.int .u64 ((rd_T37 bb ba).f5))).setCell ⟨bc, 6, none⟩ (.int .u64 ((rd_T37 bb ba).f6))) = w23 at n0_ n1_ n2_ ⊢
    have be := n0_
    have bd := n1_
    have HB := n2_
    clear n0_ n1_ n2_
    replace be := Aside0.mk (blk_drew be.out)
    replace bd := Aside0.mk (blk_drew bd.out)
    replace HB := Aside0.mk (below_drew1 HB.out)
    refine start_ (n := 14) (S := fun w' => w'.cell? ⟨bc, 0, none⟩ = some (.string ((rd_T37 bb ba).f0)) ∧ w'.cell? ⟨bc, 1, none⟩ = some (.int .u64 ((rd_T37 bb ba).f1)) ∧ w'.cell? ⟨bc, 2, none⟩ = some (.int .u64 ((rd_T37 bb ba).f2)) ∧ w'.cell? ⟨bc, 3, none⟩ = some (.slice bg ((rd_T37 bb ba).f3).length bf) ∧ w'.cell? ⟨bc, 4, none⟩ = some (.int .u64 ((rd_T37 bb ba).f4)) ∧ w'.cell? ⟨bc, 5, none⟩ = some (.int .u64 ((rd_T37 bb ba).f5)) ∧ w'.cell? ⟨bc, 6, none⟩ = some (.int .u64 ((rd_T37 bb ba).f6)) ∧ w'.cell? ⟨bi, 0, none⟩ = some (.int .u64 bh) ∧ w'.cell? ⟨bi, 1, none⟩ = some (.int .u64 bj) ∧ w'.cell? ⟨bi, 2, none⟩ = some (.slice (some bk) bb.length bl)) (ds := []) #[Ff,Ff,Ff,Ff,Ff,Ff,Ff,Ff,Ff,Ff,Ff,Ff,Ff,Ff] (by kernel_rfl) rfl rfl ⟨(blk_cell bd.out 0).trans rfl, (blk_cell bd.out 1).trans rfl, (blk_cell bd.out 2).trans rfl, (blk_cell bd.out 3).trans rfl, (blk_cell bd.out 4).trans rfl, (blk_cell bd.out 5).trans rfl, (blk_cell bd.out 6).trans rfl, (blk_cell be.out 0).trans rfl, (blk_cell be.out 1).trans rfl, (blk_cell be.out 2).trans rfl⟩ (fun hHeld => ?_); refine with_tabW ledger_Right.tab6 ledger_Right.bits6 (fun HT_ HW_ => ?_)
    generalize w23.drew = w24 at be bd HB hHeld ⊢
    refine take_ (i := 0) (N := some 29) (v := ?_) (a' := ?_) #[Tt,Ff,Ff,Ff,Ff,Ff,Ff,Ff,Ff,Ff,Ff,Ff,Ff,Ff] rfl rfl (take_ofW HT_.out HW_.out (by kernel_rfl)) (fun _ _ _ h => h) (Or.inl ⟨by rfl, ?_⟩) hHeld ?_ ?_
    rotate_left
    ·rintro w' ⟨s0, s1, s2, s3, s4, s5, s6, s7, s8, s9⟩
     go_simp
     with_reducible rfl
    rotate_left
    ·simp only [Act.put, List.setIfInBounds_toArray, List.set_cons_zero, List.set_cons_succ, i64_w, i32_w]
     rfl
    refine take_ (i := 1) (N := some 30) (v := ?_) (a' := ?_) #[Tt,Tt,Ff,Ff,Ff,Ff,Ff,Ff,Ff,Ff,Ff,Ff,Ff,Ff] rfl rfl (take_ofW HT_.out HW_.out (by kernel_rfl)) (fun _ _ _ h => h) (Or.inl ⟨by rfl, ?_⟩) hHeld ?_ ?_
    rotate_left
    ·rintro w' ⟨s0, s1, s2, s3, s4, s5, s6, s7, s8, s9⟩
     go_simp
     with_reducible rfl
    rotate_left
    ·simp only [Act.put, List.setIfInBounds_toArray, List.set_cons_zero, List.set_cons_succ, i64_w, i32_w]
     rfl
    refine one_ (i := 2) (N := some 31) #[Tt,Tt,Tt,Ff,Ff,Ff,Ff,Ff,Ff,Ff,Ff,Ff,Ff,Ff] rfl rfl (one_of HT_.out (by kernel_rfl)) (by decide) (fun K hK => ?_)
    refine goes_ Tryd.func38 (by kernel_rfl) rfl #[.agg #[.string ((rd_T37 bb ba).f0), .int .u64 ((rd_T37 bb ba).f1), .int .u64 ((rd_T37 bb ba).f2), .slice bg ((rd_T37 bb ba).f3).length bf, .int .u64 ((rd_T37 bb ba).f4), .int .u64 ((rd_T37 bb ba).f5), .int .u64 ((rd_T37 bb ba).f6)], .agg #[.int .u64 bh, .int .u64 bj, .slice (some bk) bb.length bl]] (by rfl) rfl rfl zx32_3 ?_
    with_reducible refine (ledger_Dest_right.calls k2 ((rd_T37 bb ba).f0) ((rd_T37 bb ba).f1) ((rd_T37 bb ba).f2) _ _ ((rd_T37 bb ba).f3) ((rd_T37 bb ba).f4) ((rd_T37 bb ba).f5) ((rd_T37 bb ba).f6) bh bj _ _ bb true _ ?side1 ?side2 ?side3 ?side4 A14.out).mono ?_
    (case side1 => repeat (first | exact (Kd.C_below bE.out HB.out) | (with_reducible refine Kd.C_alloc ?_ _) | (with_reducible refine Kd.C_drewN ?_ _) | (with_reducible refine Kd.C_drew ?_)))
    (case side2 => exact bG.out)
    (case side3 => repeat (first | exact (Kd.C_below bI.out HB.out) | (with_reducible refine Kd.C_alloc ?_ _) | (with_reducible refine Kd.C_drewN ?_ _) | (with_reducible refine Kd.C_drew ?_)))
    (case side4 => exact bP.out)
    rintro e w25 ⟨rfl, hb⟩
    refine ⟨_, rfl, ?_⟩
    replace be := Aside0.mk (blk_below (g := bi) (o := .cells #[.int .u64 bh, .int .u64 bj, .slice (some bk) bb.length bl] 27 (0, 0)) zx32_0 hb)
    replace bd := Aside0.mk (blk_below (g := bc) (o := .cells #[.string ((rd_T37 bb ba).f0), .int .u64 ((rd_T37 bb ba).f1), .int .u64 ((rd_T37 bb ba).f2), .slice bg ((rd_T37 bb ba).f3).length bf, .int .u64 ((rd_T37 bb ba).f4), .int .u64 ((rd_T37 bb ba).f5), .int .u64 ((rd_T37 bb ba).f6)] 37 (0, 0)) zx32_4 hb)
    replace HB := Aside0.mk (below_step zx32_2 hb)
    (try clear hb)
    (try clear hb2)
    (try clear hk)
    (try clear hi)
    have q26 : (ba : Int) ≤ ((bb.length : Int) : Int) := of_decide_eq_true zx32_5
    obtain ⟨gG, dt, _, dE, _⟩ := info_parts info37
    have bU : bb.length ≤ bl := bP.out
    have dG : Kd.C k37 _ (some bk) bb.length bb := bI.out
    have dB := cut_to (P := Tryd.prog) 25 37 .i64 Tryd.underlying25 dt (some bk) bb.length bl ba (of_decide_eq_true zx32_5) q26 bU
    have dz := Kd.C_take (m := (ba : Int).toNat) dG (by omega)
    have dx : bN.length = (ba : Int).toNat := (by rw [bV.out, List.length_take]; omega)
    rw [← bV.out] at dz
    rw [← dx] at dB
    have df := Aside0.mk dz
    have dg := Aside0.mk (show bN.length ≤ bl from by omega)
    clear dz dG bU dt dE
    have gK := Aside0.mk dx
    clear dx
    replace q26 := eq_true q26
    refine hK.out _ _ ⟨(blk_cell bd.out 0).trans rfl, (blk_cell bd.out 1).trans rfl, (blk_cell bd.out 2).trans rfl, (blk_cell bd.out 3).trans rfl, (blk_cell bd.out 4).trans rfl, (blk_cell bd.out 5).trans rfl, (blk_cell bd.out 6).trans rfl, (blk_cell be.out 0).trans rfl, (blk_cell be.out 1).trans rfl, (blk_cell be.out 2).trans rfl⟩ (fun hHeld => ?_)
    clear hK K
    refine na_ 31 ?_
    refine pp_ 3 (some 32) HT_.out ?_
    refine pp_ 4 (some 33) HT_.out ?_
    refine pp_ 5 (some 34) HT_.out ?_
    refine pp_ 7 (some 36) HT_.out ?_
    refine pp_ 9 (some 38) HT_.out ?_
    refine take_ (i := 6) (N := some 35) (v := ?_) (a' := ?_) #[Tt,Tt,Tt,Tt,Tt,Tt,Tt,Tt,Ff,Tt,Ff,Ff,Ff,Ff] rfl rfl (take_ofW HT_.out HW_.out (by kernel_rfl)) (fun _ _ _ h => h) (Or.inl ⟨by rfl, ?_⟩) hHeld ?_ ?_
    rotate_left
    ·rintro w' ⟨s0, s1, s2, s3, s4, s5, s6, s7, s8, s9⟩
     go_simp
     with_reducible rfl
    rotate_left
    ·simp only [Act.put, List.setIfInBounds_toArray, List.set_cons_zero, List.set_cons_succ, i64_w, i32_w]
     rfl
    refine pp_ 8 (some 37) HT_.out ?_
    refine take_ (i := 10) (N := some 39) (v := ?_) (a' := ?_) #[Tt,Tt,Tt,Tt,Tt,Tt,Tt,Tt,Tt,Tt,Tt,Ff,Ff,Ff] rfl rfl (take_ofW HT_.out HW_.out (by kernel_rfl)) (fun _ _ _ h => h) (Or.inl ⟨by rfl, ?_⟩) hHeld ?_ ?_
    rotate_left
    ·rintro w' ⟨s0, s1, s2, s3, s4, s5, s6, s7, s8, s9⟩
     go_simp
     with_reducible rfl
    rotate_left
    ·simp only [Act.put, List.setIfInBounds_toArray, List.set_cons_zero, List.set_cons_succ, i64_w, i32_w]
     rfl
    refine one_ (i := 11) (N := some 40) #[Tt,Tt,Tt,Tt,Tt,Tt,Tt,Tt,Tt,Tt,Tt,Tt,Ff,Ff] rfl rfl (one_of HT_.out (by kernel_rfl)) (by decide) (fun K hK => ?_)
    refine goes_ Tryd.func31 (by kernel_rfl) rfl #[.slice (some bk) bN.length bl, .string ((rd_T37 bb ba).f0)] (by rfl) rfl rfl zx32_3 ?_
    with_reducible refine (ledger_place.calls _ _ bN ((rd_T37 bb ba).f0) bD _ ?side1 ?side2 A18.out).mono ?_
    (case side1 => repeat (first | exact (Kd.C_below df.out HB.out) | (with_reducible refine Kd.C_alloc ?_ _) | (with_reducible refine Kd.C_drewN ?_ _) | (with_reducible refine Kd.C_drew ?_)))
    (case side2 => exact dg.out)
    rintro e w27 ⟨rfl, hb⟩
    refine ⟨_, rfl, ?_⟩
    replace be := Aside0.mk (blk_below (g := bi) (o := .cells #[.int .u64 bh, .int .u64 bj, .slice (some bk) bb.length bl] 27 (0, 0)) zx32_0 hb)
    replace bd := Aside0.mk (blk_below (g := bc) (o := .cells #[.string ((rd_T37 bb ba).f0), .int .u64 ((rd_T37 bb ba).f1), .int .u64 ((rd_T37 bb ba).f2), .slice bg ((rd_T37 bb ba).f3).length bf, .int .u64 ((rd_T37 bb ba).f4), .int .u64 ((rd_T37 bb ba).f5), .int .u64 ((rd_T37 bb ba).f6)] 37 (0, 0)) zx32_4 hb)
    replace HB := Aside0.mk (below_step zx32_2 hb)
    (try clear hb)
    (try clear hb2)
    (try clear hk)
    (try clear hi)
    refine hK.out _ _ ⟨(blk_cell bd.out 0).trans rfl, (blk_cell bd.out 1).trans rfl, (blk_cell bd.out 2).trans rfl, (blk_cell bd.out 3).trans rfl, (blk_cell bd.out 4).trans rfl, (blk_cell bd.out 5).trans rfl, (blk_cell bd.out 6).trans rfl, (blk_cell be.out 0).trans rfl, (blk_cell be.out 1).trans rfl, (blk_cell be.out 2).trans rfl⟩ (fun hHeld => ?_)
    clear hK K
    refine na_ 40 ?_
    refine pp_ 12 (some 41) HT_.out ?_
    refine pp_ 13 (some 42) HT_.out ?_
    refine done_ (done_of HT_.out (by kernel_rfl)) ?_
    try go_wp2
    go_ret
    exact ⟨by first | rfl | (simp [errW_none, errW_some] <;> rfl) | (simp [*, errW_none, errW_some] <;> rfl), by repeat (first | (with_reducible first | exact HB.out | apply below_alloc | apply pw_below_drewN | apply below_drew1 | refine below_set ?_ bB.out | refine below_set ?_ bH.out) | exact HB.out)⟩
   rw [if_neg c19] at H
   have dH : decide (0 ≤ bD) = false := decide_eq_false c19
   clear c19
   have H' := Aside0.mk H
   clear H
   have bM : 0 ≤ (ba : Int) := of_decide_eq_true zx32_5
   have bL : ba < (bb.length : Int) := of_decide_eq_true zx32_5
   obtain ⟨bk, bg, bf, de, bw, bu, br, bq, bp, bo, bn, bz, bA⟩ := at_T37 bI.out ba bM bL
   cases de
   replace bw := (HB.out.cell (World.block_lt_of_cell? w _ bw)).trans bw
   replace bu := (HB.out.cell (World.block_lt_of_cell? w _ bu)).trans bu
   replace br := (HB.out.cell (World.block_lt_of_cell? w _ br)).trans br
   replace bq := (HB.out.cell (World.block_lt_of_cell? w _ bq)).trans bq
   replace bp := (HB.out.cell (World.block_lt_of_cell? w _ bp)).trans bp
   replace bo := (HB.out.cell (World.block_lt_of_cell? w _ bo)).trans bo
   replace bn := (HB.out.cell (World.block_lt_of_cell? w _ bn)).trans bn
   have bE := Aside0.mk bA
   have bG := Aside0.mk bz
   clear bA bz
   replace bM := eq_true bM
   replace bL := eq_true bL
   try go_wp2_with (first | ((with_reducible refine gate_dst (N := 4) rfl ?_); (try (refine gate_guard (by rfl) ?_; dsimp only)); refine box_event ?hg (N := 4) ?hd (cs := #[.string (⟨#[]⟩ : ByteArray), .int .u64 0, .int .u64 0, .slice none 0 0, .int .u64 0, .int .u64 0, .int .u64 0]) (t := 37) ?hr ?_; (case hd => rfl); (case hg => rfl); (case hr => first | (go_simp; done) | (go_simp; rfl)); intro bc hg w28 hbox hb; have bd := Aside0.mk (hbox); have dv := Aside0.mk ((by rw [hg]; exact (below_size zx32_1) : w.heap.size ≤ bc)); have bH := Aside0.mk ((by rw [hg]; exact (below_size zx32_1) : w.heap.size ≤ bc)); replace HB := Aside0.mk (below_step zx32_1 hb); have bm := Aside0.mk ((by rw [hg]; exact Nat.ne_of_lt (blk_lt (g := bi) (o := .cells #[.int .u64 bh, .int .u64 bj, .slice (some bk) bb.length bl] 27 (0, 0)) zx32_0) : bi ≠ bc)); have bC := Aside0.mk ((by rw [hg]; exact Nat.ne_of_gt (blk_lt (g := bi) (o := .cells #[.int .u64 bh, .int .u64 bj, .slice (some bk) bb.length bl] 27 (0, 0)) zx32_0) : bc ≠ bi)); replace be := Aside0.mk (blk_below (g := bi) (o := .cells #[.int .u64 bh, .int .u64 bj, .slice (some bk) bb.length bl] 27 (0, 0)) zx32_0 hb); clear hb hbox hg; have gx := bC.out; have gu := bm.out; have gl : w28.cell? ⟨bc, 0, none⟩ = some (.string (⟨#[]⟩ : ByteArray)) := (blk_cell bd.out 0).trans rfl; have gj : w28.cell? ⟨bc, 1, none⟩ = some (.int .u64 0) := (blk_cell bd.out 1).trans rfl; have gi : w28.cell? ⟨bc, 2, none⟩ = some (.int .u64 0) := (blk_cell bd.out 2).trans rfl; have gh : w28.cell? ⟨bc, 3, none⟩ = some (.slice none 0 0) := (blk_cell bd.out 3).trans rfl; have gg : w28.cell? ⟨bc, 4, none⟩ = some (.int .u64 0) := (blk_cell bd.out 4).trans rfl; have gf : w28.cell? ⟨bc, 5, none⟩ = some (.int .u64 0) := (blk_cell bd.out 5).trans rfl; have ge : w28.cell? ⟨bc, 6, none⟩ = some (.int .u64 0) := (blk_cell bd.out 6).trans rfl; have dY := blk_frozen bd.out 0; have dX := blk_frozen bd.out 1; have dW := blk_frozen bd.out 2; have dV := blk_frozen bd.out 3; have dU := blk_frozen bd.out 4; have dT := blk_frozen bd.out 5; have dS := blk_frozen bd.out 6))
   have n0_ : Aside0 ((((((((w28.setCell ⟨bc, 0, none⟩ (.string ((rd_T37 bb ba).f0))).setCell ⟨bc, 1, none⟩ (.int .u64 ((rd_T37 bb ba).f1))).setCell ⟨bc, 2, none⟩ (.int .u64 ((rd_T37 bb ba).f2))).setCell ⟨bc, 3, none⟩ (.slice bg ((rd_T37 bb ba).f3).length bf)).setCell ⟨bc, 4, none⟩ (.int .u64 ((rd_T37 bb ba).f4))).setCell ⟨bc, 5, none⟩ (.int .u64 ((rd_T37 bb ba).f5))).setCell ⟨bc, 6, none⟩ (.int .u64 ((rd_T37 bb ba).f6))).heap[bi]? = some (.cells #[.int .u64 bh, .int .u64 bj, .slice (some bk) bb.length bl] 27 (0, 0))) := ⟨by (iterate 7 ((with_reducible repeat (first | refine blk_drewN ?_ _ | refine blk_drew ?_ | refine blk_alloc ?_ _)); refine blk_far ?_ bm.out _)); (with_reducible repeat (first | refine blk_drewN ?_ _ | refine blk_drew ?_ | refine blk_alloc ?_ _)); exact be.out⟩
   have n1_ : Aside0 ((((((((w28.setCell ⟨bc, 0, none⟩ (.string ((rd_T37 bb ba).f0))).setCell ⟨bc, 1, none⟩ (.int .u64 ((rd_T37 bb ba).f1))).setCell ⟨bc, 2, none⟩ (.int .u64 ((rd_T37 bb ba).f2))).setCell ⟨bc, 3, none⟩ (.slice bg ((rd_T37 bb ba).f3).length bf)).setCell ⟨bc, 4, none⟩ (.int .u64 ((rd_T37 bb ba).f4))).setCell ⟨bc, 5, none⟩ (.int .u64 ((rd_T37 bb ba).f5))).setCell ⟨bc, 6, none⟩ (.int .u64 ((rd_T37 bb ba).f6))).heap[bc]? = some (.cells #[.string ((rd_T37 bb ba).f0), .int .u64 ((rd_T37 bb ba).f1), .int .u64 ((rd_T37 bb ba).f2), .slice bg ((rd_T37 bb ba).f3).length bf, .int .u64 ((rd_T37 bb ba).f4), .int .u64 ((rd_T37 bb ba).f5), .int .u64 ((rd_T37 bb ba).f6)] 37 (0, 0))) := ⟨by (with_reducible repeat (first | refine blk_drewN ?_ _ | refine blk_drew ?_ | refine blk_alloc ?_ _)); refine blk_put (cs := #[.string ((rd_T37 bb ba).f0), .int .u64 ((rd_T37 bb ba).f1), .int .u64 ((rd_T37 bb ba).f2), .slice bg ((rd_T37 bb ba).f3).length bf, .int .u64 ((rd_T37 bb ba).f4), .int .u64 ((rd_T37 bb ba).f5), .int .u64 0]) ?_ 6 _ rfl; (with_reducible repeat (first | refine blk_drewN ?_ _ | refine blk_drew ?_ | refine blk_alloc ?_ _)); refine blk_put (cs := #[.string ((rd_T37 bb ba).f0), .int .u64 ((rd_T37 bb ba).f1), .int .u64 ((rd_T37 bb ba).f2), .slice bg ((rd_T37 bb ba).f3).length bf, .int .u64 ((rd_T37 bb ba).f4), .int .u64 0, .int .u64 0]) ?_ 5 _ rfl; (with_reducible repeat (first | refine blk_drewN ?_ _ | refine blk_drew ?_ | refine blk_alloc ?_ _)); refine blk_put (cs := #[.string ((rd_T37 bb ba).f0), .int .u64 ((rd_T37 bb ba).f1), .int .u64 ((rd_T37 bb ba).f2), .slice bg ((rd_T37 bb ba).f3).length bf, .int .u64 0, .int .u64 0, .int .u64 0]) ?_ 4 _ rfl; (with_reducible repeat (first | refine blk_drewN ?_ _ | refine blk_drew ?_ | refine blk_alloc ?_ _)); refine blk_put (cs := #[.string ((rd_T37 bb ba).f0), .int .u64 ((rd_T37 bb ba).f1), .int .u64 ((rd_T37 bb ba).f2), .slice none 0 0, .int .u64 0, .int .u64 0, .int .u64 0]) ?_ 3 _ rfl; (with_reducible repeat (first | refine blk_drewN ?_ _ | refine blk_drew ?_ | refine blk_alloc ?_ _)); refine blk_put (cs := #[.string ((rd_T37 bb ba).f0), .int .u64 ((rd_T37 bb ba).f1), .int .u64 0, .slice none 0 0, .int .u64 0, .int .u64 0, .int .u64 0]) ?_ 2 _ rfl; (with_reducible repeat (first | refine blk_drewN ?_ _ | refine blk_drew ?_ | refine blk_alloc ?_ _)); refine blk_put (cs := #[.string ((rd_T37 bb ba).f0), .int .u64 0, .int .u64 0, .slice none 0 0, .int .u64 0, .int .u64 0, .int .u64 0]) ?_ 1 _ rfl; (with_reducible repeat (first | refine blk_drewN ?_ _ | refine blk_drew ?_ | refine blk_alloc ?_ _)); refine blk_put (cs := #[.string (⟨#[]⟩ : ByteArray), .int .u64 0, .int .u64 0, .slice none 0 0, .int .u64 0, .int .u64 0, .int .u64 0]) ?_ 0 _ rfl; (with_reducible repeat (first | refine blk_drewN ?_ _ | refine blk_drew ?_ | refine blk_alloc ?_ _)); exact bd.out⟩
   have n2_ : Aside0 (Below w.heap.size w (((((((w28.setCell ⟨bc, 0, none⟩ (.string ((rd_T37 bb ba).f0))).setCell ⟨bc, 1, none⟩ (.int .u64 ((rd_T37 bb ba).f1))).setCell ⟨bc, 2, none⟩ (.int .u64 ((rd_T37 bb ba).f2))).setCell ⟨bc, 3, none⟩ (.slice bg ((rd_T37 bb ba).f3).length bf)).setCell ⟨bc, 4, none⟩ (.int .u64 ((rd_T37 bb ba).f4))).setCell ⟨bc, 5, none⟩ (.int .u64 ((rd_T37 bb ba).f5))).setCell ⟨bc, 6, none⟩ (.int .u64 ((rd_T37 bb ba).f6)))) := ⟨by repeat (first | (with_reducible first | exact HB.out | apply below_alloc | apply pw_below_drewN | apply below_drew1 | refine below_set ?_ bB.out | refine below_set ?_ bH.out) | exact HB.out)⟩
   (try clear be)
   (try clear bd)
   (try clear HB)
   generalize (((((((w28.setCell ⟨bc, 0, none⟩ (.string ((rd_T37 bb ba).f0))).setCell ⟨bc, 1, none⟩ (.int .u64 ((rd_T37 bb ba).f1))).setCell ⟨bc, 2, none⟩ (.int .u64 ((rd_T37 bb ba).f2))).setCell ⟨bc, 3, none⟩ (.slice bg ((rd_T37 bb ba).f3).length bf)).setCell ⟨bc, 4, none⟩ (.int .u64 ((rd_T37 bb ba).f4))).setCell ⟨bc, 5, none⟩ (.int .u64 ((rd_T37 bb ba).f5))).setCell ⟨bc, 6, none⟩ (.int .u64 ((rd_T37 bb ba).f6))) = w31 at n0_ n1_ n2_ ⊢
   have be := n0_
   have bd := n1_
   have HB := n2_
   clear n0_ n1_ n2_
   replace be := Aside0.mk (blk_drew be.out)
   replace bd := Aside0.mk (blk_drew bd.out)
   replace HB := Aside0.mk (below_drew1 HB.out)
   refine start_ (n := 14) (S := fun w' => w'.cell? ⟨bc, 0, none⟩ = some (.string ((rd_T37 bb ba).f0)) ∧ w'.cell? ⟨bc, 1, none⟩ = some (.int .u64 ((rd_T37 bb ba).f1)) ∧ w'.cell? ⟨bc, 2, none⟩ = some (.int .u64 ((rd_T37 bb ba).f2)) ∧ w'.cell? ⟨bc, 3, none⟩ = some (.slice bg ((rd_T37 bb ba).f3).length bf) ∧ w'.cell? ⟨bc, 4, none⟩ = some (.int .u64 ((rd_T37 bb ba).f4)) ∧ w'.cell? ⟨bc, 5, none⟩ = some (.int .u64 ((rd_T37 bb ba).f5)) ∧ w'.cell? ⟨bc, 6, none⟩ = some (.int .u64 ((rd_T37 bb ba).f6)) ∧ w'.cell? ⟨bi, 0, none⟩ = some (.int .u64 bh) ∧ w'.cell? ⟨bi, 1, none⟩ = some (.int .u64 bj) ∧ w'.cell? ⟨bi, 2, none⟩ = some (.slice (some bk) bb.length bl)) (ds := []) #[Ff,Ff,Ff,Ff,Ff,Ff,Ff,Ff,Ff,Ff,Ff,Ff,Ff,Ff] (by kernel_rfl) rfl rfl ⟨(blk_cell bd.out 0).trans rfl, (blk_cell bd.out 1).trans rfl, (blk_cell bd.out 2).trans rfl, (blk_cell bd.out 3).trans rfl, (blk_cell bd.out 4).trans rfl, (blk_cell bd.out 5).trans rfl, (blk_cell bd.out 6).trans rfl, (blk_cell be.out 0).trans rfl, (blk_cell be.out 1).trans rfl, (blk_cell be.out 2).trans rfl⟩ (fun hHeld => ?_); refine with_tabW ledger_Right.tab6 ledger_Right.bits6 (fun HT_ HW_ => ?_)
   generalize w31.drew = w32 at be bd HB hHeld ⊢
   refine take_ (i := 0) (N := some 29) (v := ?_) (a' := ?_) #[Tt,Ff,Ff,Ff,Ff,Ff,Ff,Ff,Ff,Ff,Ff,Ff,Ff,Ff] rfl rfl (take_ofW HT_.out HW_.out (by kernel_rfl)) (fun _ _ _ h => h) (Or.inl ⟨by rfl, ?_⟩) hHeld ?_ ?_
   rotate_left
   ·rintro w' ⟨s0, s1, s2, s3, s4, s5, s6, s7, s8, s9⟩
    go_simp
    with_reducible rfl
   rotate_left
   ·simp only [Act.put, List.setIfInBounds_toArray, List.set_cons_zero, List.set_cons_succ, i64_w, i32_w]
    rfl
   refine take_ (i := 1) (N := some 30) (v := ?_) (a' := ?_) #[Tt,Tt,Ff,Ff,Ff,Ff,Ff,Ff,Ff,Ff,Ff,Ff,Ff,Ff] rfl rfl (take_ofW HT_.out HW_.out (by kernel_rfl)) (fun _ _ _ h => h) (Or.inl ⟨by rfl, ?_⟩) hHeld ?_ ?_
   rotate_left
   ·rintro w' ⟨s0, s1, s2, s3, s4, s5, s6, s7, s8, s9⟩
    go_simp
    with_reducible rfl
   rotate_left
   ·simp only [Act.put, List.setIfInBounds_toArray, List.set_cons_zero, List.set_cons_succ, i64_w, i32_w]
    rfl
   refine one_ (i := 2) (N := some 31) #[Tt,Tt,Tt,Ff,Ff,Ff,Ff,Ff,Ff,Ff,Ff,Ff,Ff,Ff] rfl rfl (one_of HT_.out (by kernel_rfl)) (by decide) (fun K hK => ?_)
   refine goes_ Tryd.func38 (by kernel_rfl) rfl #[.agg #[.string ((rd_T37 bb ba).f0), .int .u64 ((rd_T37 bb ba).f1), .int .u64 ((rd_T37 bb ba).f2), .slice bg ((rd_T37 bb ba).f3).length bf, .int .u64 ((rd_T37 bb ba).f4), .int .u64 ((rd_T37 bb ba).f5), .int .u64 ((rd_T37 bb ba).f6)], .agg #[.int .u64 bh, .int .u64 bj, .slice (some bk) bb.length bl]] (by rfl) rfl rfl zx32_3 ?_
   with_reducible refine (ledger_Dest_right.calls k2 ((rd_T37 bb ba).f0) ((rd_T37 bb ba).f1) ((rd_T37 bb ba).f2) _ _ ((rd_T37 bb ba).f3) ((rd_T37 bb ba).f4) ((rd_T37 bb ba).f5) ((rd_T37 bb ba).f6) bh bj _ _ bb true _ ?side1 ?side2 ?side3 ?side4 A14.out).mono ?_
   (case side1 => repeat (first | exact (Kd.C_below bE.out HB.out) | (with_reducible refine Kd.C_alloc ?_ _) | (with_reducible refine Kd.C_drewN ?_ _) | (with_reducible refine Kd.C_drew ?_)))
   (case side2 => exact bG.out)
   (case side3 => repeat (first | exact (Kd.C_below bI.out HB.out) | (with_reducible refine Kd.C_alloc ?_ _) | (with_reducible refine Kd.C_drewN ?_ _) | (with_reducible refine Kd.C_drew ?_)))
   (case side4 => exact bP.out)
   rintro e w33 ⟨rfl, hb⟩
   refine ⟨_, rfl, ?_⟩
   replace be := Aside0.mk (blk_below (g := bi) (o := .cells #[.int .u64 bh, .int .u64 bj, .slice (some bk) bb.length bl] 27 (0, 0)) zx32_0 hb)
   replace bd := Aside0.mk (blk_below (g := bc) (o := .cells #[.string ((rd_T37 bb ba).f0), .int .u64 ((rd_T37 bb ba).f1), .int .u64 ((rd_T37 bb ba).f2), .slice bg ((rd_T37 bb ba).f3).length bf, .int .u64 ((rd_T37 bb ba).f4), .int .u64 ((rd_T37 bb ba).f5), .int .u64 ((rd_T37 bb ba).f6)] 37 (0, 0)) zx32_4 hb)
   replace HB := Aside0.mk (below_step zx32_2 hb)
   (try clear hb)
   (try clear hb2)
   (try clear hk)
   (try clear hi)
   have q34 : (ba : Int) ≤ ((bb.length : Int) : Int) := of_decide_eq_true zx32_5
   obtain ⟨gF, dr, _, dD, _⟩ := info_parts info37
   have bS : bb.length ≤ bl := bP.out
   have dF : Kd.C k37 _ (some bk) bb.length bb := bI.out
   have dA := cut_to (P := Tryd.prog) 25 37 .i64 Tryd.underlying25 dr (some bk) bb.length bl ba (of_decide_eq_true zx32_5) q34 bS
   have dy := Kd.C_take (m := (ba : Int).toNat) dF (by omega)
   have dw : bN.length = (ba : Int).toNat := (by rw [bV.out, List.length_take]; omega)
   rw [← bV.out] at dy
   rw [← dw] at dA
   have df := Aside0.mk dy
   have dg := Aside0.mk (show bN.length ≤ bl from by omega)
   clear dy dF bS dr dD
   have gJ := Aside0.mk dw
   clear dw
   replace q34 := eq_true q34
   refine hK.out _ _ ⟨(blk_cell bd.out 0).trans rfl, (blk_cell bd.out 1).trans rfl, (blk_cell bd.out 2).trans rfl, (blk_cell bd.out 3).trans rfl, (blk_cell bd.out 4).trans rfl, (blk_cell bd.out 5).trans rfl, (blk_cell bd.out 6).trans rfl, (blk_cell be.out 0).trans rfl, (blk_cell be.out 1).trans rfl, (blk_cell be.out 2).trans rfl⟩ (fun hHeld => ?_)
   clear hK K
   refine na_ 31 ?_
   refine pp_ 3 (some 32) HT_.out ?_
   refine pp_ 4 (some 33) HT_.out ?_
   refine pp_ 5 (some 34) HT_.out ?_
   refine pp_ 7 (some 36) HT_.out ?_
   refine pp_ 9 (some 38) HT_.out ?_
   refine take_ (i := 6) (N := some 35) (v := ?_) (a' := ?_) #[Tt,Tt,Tt,Tt,Tt,Tt,Tt,Tt,Ff,Tt,Ff,Ff,Ff,Ff] rfl rfl (take_ofW HT_.out HW_.out (by kernel_rfl)) (fun _ _ _ h => h) (Or.inl ⟨by rfl, ?_⟩) hHeld ?_ ?_
   rotate_left
   ·rintro w' ⟨s0, s1, s2, s3, s4, s5, s6, s7, s8, s9⟩
    go_simp
    with_reducible rfl
   rotate_left
   ·simp only [Act.put, List.setIfInBounds_toArray, List.set_cons_zero, List.set_cons_succ, i64_w, i32_w]
    rfl
   refine pp_ 8 (some 37) HT_.out ?_
   refine take_ (i := 10) (N := some 39) (v := ?_) (a' := ?_) #[Tt,Tt,Tt,Tt,Tt,Tt,Tt,Tt,Tt,Tt,Tt,Ff,Ff,Ff] rfl rfl (take_ofW HT_.out HW_.out (by kernel_rfl)) (fun _ _ _ h => h) (Or.inl ⟨by rfl, ?_⟩) hHeld ?_ ?_
   rotate_left
   ·rintro w' ⟨s0, s1, s2, s3, s4, s5, s6, s7, s8, s9⟩
    go_simp
    with_reducible rfl
   rotate_left
   ·simp only [Act.put, List.setIfInBounds_toArray, List.set_cons_zero, List.set_cons_succ, i64_w, i32_w]
    rfl
   refine one_ (i := 11) (N := some 40) #[Tt,Tt,Tt,Tt,Tt,Tt,Tt,Tt,Tt,Tt,Tt,Tt,Ff,Ff] rfl rfl (one_of HT_.out (by kernel_rfl)) (by decide) (fun K hK => ?_)
   refine goes_ Tryd.func31 (by kernel_rfl) rfl #[.slice (some bk) bN.length bl, .string ((rd_T37 bb ba).f0)] (by rfl) rfl rfl zx32_3 ?_
   with_reducible refine (ledger_place.calls _ _ bN ((rd_T37 bb ba).f0) bD _ ?side1 ?side2 A18.out).mono ?_
   (case side1 => repeat (first | exact (Kd.C_below df.out HB.out) | (with_reducible refine Kd.C_alloc ?_ _) | (with_reducible refine Kd.C_drewN ?_ _) | (with_reducible refine Kd.C_drew ?_)))
   (case side2 => exact dg.out)
   rintro e w35 ⟨rfl, hb⟩
   refine ⟨_, rfl, ?_⟩
   replace be := Aside0.mk (blk_below (g := bi) (o := .cells #[.int .u64 bh, .int .u64 bj, .slice (some bk) bb.length bl] 27 (0, 0)) zx32_0 hb)
   replace bd := Aside0.mk (blk_below (g := bc) (o := .cells #[.string ((rd_T37 bb ba).f0), .int .u64 ((rd_T37 bb ba).f1), .int .u64 ((rd_T37 bb ba).f2), .slice bg ((rd_T37 bb ba).f3).length bf, .int .u64 ((rd_T37 bb ba).f4), .int .u64 ((rd_T37 bb ba).f5), .int .u64 ((rd_T37 bb ba).f6)] 37 (0, 0)) zx32_4 hb)
   replace HB := Aside0.mk (below_step zx32_2 hb)
   (try clear hb)
   (try clear hb2)
   (try clear hk)
   (try clear hi)
   refine hK.out _ _ ⟨(blk_cell bd.out 0).trans rfl, (blk_cell bd.out 1).trans rfl, (blk_cell bd.out 2).trans rfl, (blk_cell bd.out 3).trans rfl, (blk_cell bd.out 4).trans rfl, (blk_cell bd.out 5).trans rfl, (blk_cell bd.out 6).trans rfl, (blk_cell be.out 0).trans rfl, (blk_cell be.out 1).trans rfl, (blk_cell be.out 2).trans rfl⟩ (fun hHeld => ?_)
   clear hK K
   refine na_ 40 ?_
   refine pp_ 12 (some 41) HT_.out ?_
   refine pp_ 13 (some 42) HT_.out ?_
   refine done_ (done_of HT_.out (by kernel_rfl)) ?_
   try go_wp2
   go_roundg k2
   case measure => have := HJ1.out; have := HK2.out; omega
   case rel => exact ⟨(wrap64 (ba + 1)), (by first | rfl | (simp; done) | (simp [*]; done)), H', ⟨by have := HJ1.out; have := HK2.out; omega⟩, ⟨by (with_reducible repeat (first | refine blk_drewN ?_ _ | refine blk_drew ?_ | refine blk_alloc ?_ _)); exact be.out⟩, ⟨by repeat (first | (with_reducible first | exact HB.out | apply below_alloc | apply pw_below_drewN | apply below_drew1 | refine below_set ?_ bB.out | refine below_set ?_ bH.out) | exact HB.out)⟩⟩
end Go.Proofs.YthhmpjapnkilcaaDoor.XLdg
