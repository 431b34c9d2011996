/- Texts of this seat, in one. Conditions: those that each theorem names. -/
import Derived.Test.YthhmpjapnkilcaaDoorXLdgP1
import Derived.Test.YthhmpjapnkilcaaDoorXLdgP2
section
/- What the functions of the translation answer, each as a plain Lean function, and that the code comes to it; for a law: its row. Conditions: none but those that each theorem names. Written by a program of this session (wip/xp). -/
namespace Go.Proofs.YthhmpjapnkilcaaDoor.XLdg
open Go.RowKit Go.Proofs.YthhmpjapnkilcaaDoorW.PrintWords Go.Proofs.YthhmpjapnkilcaaDoorW.PrintLast Go.Proofs.YthhmpjapnkilcaaDoorW.PrintMore
attribute [local go_sem] max2_int min2_int max_two min_two max_three min_three max_four min_four   -- for this text's walks alone
theorem cx16_bc3 {w : World} {g : Nat} {t : TypeId} {x0 x1 x2 : Value} (h : w.heap[g]? = some (.cells #[x0, x1, x2] t (0, 0))) : w.cell? ⟨g, 0, none⟩ = some x0 ∧ w.cell? ⟨g, 1, none⟩ = some x1 ∧ w.cell? ⟨g, 2, none⟩ = some x2 ∧ w.frozen? ⟨g, 0, none⟩ = false ∧ w.frozen? ⟨g, 1, none⟩ = false ∧ w.frozen? ⟨g, 2, none⟩ = false :=
 ⟨(blk_cell h 0).trans rfl, (blk_cell h 1).trans rfl, (blk_cell h 2).trans rfl, blk_frozen h 0, blk_frozen h 1, blk_frozen h 2⟩
theorem zx16_0 {p : Prop} (h : p := by (with_reducible repeat (first | refine blk_drewN ?_ _ | refine blk_drew ?_ | refine blk_alloc ?_ _)); exact bd.out) : p := h
theorem zx16_2 {p : Prop} (h : p := by (with_reducible repeat (first | refine blk_drewN ?_ _ | refine blk_drew ?_ | refine blk_alloc ?_ _)); exact bh.out) : p := h
theorem zx16_6 {p : Prop} (h : p := by (with_reducible repeat (first | refine blk_drewN ?_ _ | refine blk_drew ?_ | refine blk_alloc ?_ _)); exact bf.out) : p := h
theorem zx16_5 {p : Prop} (h : p := by repeat (first | (with_reducible first | exact HB.out | apply below_alloc | apply pw_below_drewN | apply below_drew1) | exact HB.out)) : p := h
theorem zx16_7 {p : Prop} (h : p := by (try simp only [List.map_toArray, List.map_cons, List.map_nil]); first | done | rfl | (simp only [List.length_drop, List.length_take]; rfl)) : p := h
theorem zx16_4 {p : Prop} (h : p := by repeat (first | (with_reducible first | exact HB.out | apply below_alloc | apply pw_below_drewN | apply below_drew1 | refine below_set ?_ bK.out) | exact HB.out)) : p := h
theorem zx16_3 {p : Prop} (h : p := by repeat (first | (with_reducible first | exact HB.out | apply below_alloc | apply pw_below_drewN | apply below_drew1 | refine below_set ?_ bK.out | refine below_set ?_ bO.out) | exact HB.out)) : p := h
theorem zx16_1 {p : Prop} (h : p := by repeat (first | (with_reducible first | exact HB.out | apply below_alloc | apply pw_below_drewN | apply below_drew1 | refine below_set ?_ bK.out | refine below_set ?_ bO.out | refine below_set ?_ b3.out) | exact HB.out)) : p := h
set_option linter.unusedVariables false
set_option linter.unusedSimpArgs false

/-! ### postroomref10_Leave: function 41 -/
def postroomref10_Leave.f (k : Nat) (bk : Int) (bj : Int) (bi : List (S84)) (a1 : ByteArray) : Option (Int × Int × (List (S84)) × Int) := (postroomref10_place.f k bk bj bi a1).bind fun be => (if be < 0 then (some (0, 0, ([] : List (S84)), 5)) else ((postroomref10_copied.f k bk bj bi).bind fun bm => ((some (([] : List (S84)) : List (S84))).bind fun bA => (if 0 ≤ be then (if be ≤ (bm.2.2.length : Int) then ((some (bm.2.2.take (be : Int).toNat : List (S84))).bind fun bz => (if bA.length + bz.length < 2932031007402 then ((some (bA ++ bz : List (S84))).bind fun br => (if 0 ≤ (wrap64 (be + 1)) then (if (wrap64 (be + 1)) ≤ (bm.2.2.length : Int) then ((some (bm.2.2.drop ((wrap64 (be + 1)) : Int).toNat : List (S84))).bind fun bl => (if br.length + bl.length < 2932031007402 then (some (bm.1, bm.2.1, (br ++ bl), 0)) else (none))) else (none)) else (none))) else (none))) else (none)) else (none)))))
def postroomref10_Leave.T5 : Bool × List (List Nat × List Nat) := (true, [([], []), ([], []), ([1], [1]), ([], []), ([2, 3], [2, 3]), ([0, 4], [0, 4]), ([], []), ([6], [6]), ([], []), ([8], [8]), ([7, 9], [7, 9]), ([5, 10, 5], [5, 10]), ([0, 1, 2, 3, 4, 5, 6, 7, 8, 9, 10, 11], []), ([12, 11, 11, 0, 1, 2, 3, 4, 5, 6, 7, 8, 9, 10, 11], [11, 12])])
def postroomref10_Leave.B5 : List Nat := [0, 0, 2, 0, 14, 31, 0, 64, 0, 256, 960, 2047, 4095, 8191]
theorem postroomref10_Leave.tab5 : rtab .any (opsOf Tryd.f41 5) = postroomref10_Leave.T5 := by kernel_rfl
theorem postroomref10_Leave.bits5 : waitsOk postroomref10_Leave.T5.2 postroomref10_Leave.B5 = true := by kernel_rfl
set_option maxHeartbeats 8000000 in
set_option maxRecDepth 100000 in
theorem postroomref10_Leave.calls (k : Nat) (bk : Int) (bj : Int) (bo : Option Addr) (bn : Nat) (bi : List (S84)) (a1 : ByteArray) (r1 : Int) (r2 : Int) (r3 : List (S84)) (r4 : Int) (w : World) (b8 : Kd.C k84 w bo bi.length bi) (db : bi.length ≤ bn) (h : postroomref10_Leave.f k bk bj bi a1 = some (r1, r2, r3, r4)) :
  Calls Tryd.prog 41 #[.agg #[.int .u64 bk, .int .u64 bj, .slice bo bi.length bn], .string a1] w fun e w' => ∃ v2_ : Value, e = .returned (.tuple #[.agg #[.int .u64 r1, .int .u64 r2, v2_], .int .i64 r4]) ∧ Kd.N k84 84 w' w.heap.size (fun k_ => (w.heap.size ≤ k_)) v2_ r3 ∧ Below w.heap.size w w' := by
 have gL := Tryd.underlying57
 have b1 := Aside0.mk b8
 have b2 := Aside0.mk db
 clear b8 db
 have HB := Aside0.mk (Below.refl w.heap.size w)
 have H : ((postroomref10_place.f k bk bj bi a1).bind fun be => (if be < 0 then (some (0, 0, ([] : List (S84)), 5)) else ((postroomref10_copied.f k bk bj bi).bind fun bm => ((some (([] : List (S84)) : List (S84))).bind fun bA => (if 0 ≤ be then (if be ≤ (bm.2.2.length : Int) then ((some (bm.2.2.take (be : Int).toNat : List (S84))).bind fun bz => (if bA.length + bz.length < 2932031007402 then ((some (bA ++ bz : List (S84))).bind fun br => (if 0 ≤ (wrap64 (be + 1)) then (if (wrap64 (be + 1)) ≤ (bm.2.2.length : Int) then ((some (bm.2.2.drop ((wrap64 (be + 1)) : Int).toNat : List (S84))).bind fun bl => (if br.length + bl.length < 2932031007402 then (some (bm.1, bm.2.1, (br ++ bl), 0)) else (none))) else (none)) else (none))) else (none))) else (none)) else (none)))))) = some (r1, r2, r3, r4) := h
 clear h
 replace H := Option.bind_eq_some_iff.mp H
 obtain ⟨be, A30, H⟩ := H
 replace H : (if be < 0 then (some (0, 0, ([] : List (S84)), 5)) else ((postroomref10_copied.f k bk bj bi).bind fun bm => ((some (([] : List (S84)) : List (S84))).bind fun bA => (if 0 ≤ be then (if be ≤ (bm.2.2.length : Int) then ((some (bm.2.2.take (be : Int).toNat : List (S84))).bind fun bz => (if bA.length + bz.length < 2932031007402 then ((some (bA ++ bz : List (S84))).bind fun br => (if 0 ≤ (wrap64 (be + 1)) then (if (wrap64 (be + 1)) ≤ (bm.2.2.length : Int) then ((some (bm.2.2.drop ((wrap64 (be + 1)) : Int).toNat : List (S84))).bind fun bl => (if br.length + bl.length < 2932031007402 then (some (bm.1, bm.2.1, (br ++ bl), 0)) else (none))) else (none)) else (none))) else (none))) else (none)) else (none))))) = some (r1, r2, r3, r4) := H
 have A3 := Aside0.mk A30
 clear A30
 by_cases c4 : be < 0
 ·rw [if_pos c4] at H
  have go : decide (be < 0) = true := decide_eq_true c4
  clear c4
  simp only [Option.some.injEq, Prod.mk.injEq] at H
  obtain ⟨rfl, rfl, rfl, rfl⟩ := H
  go_enter Tryd.func41, Tryd.ntmps41
  go_wp2_with (first | ((with_reducible refine gate_dst (N := 2) rfl ?_); refine box_event ?hg (N := 2) ?hd (cs := #[.int .u64 bk, .int .u64 bj, .slice bo bi.length bn]) (t := 57) ?hr ?_; (case hd => rfl); (case hg => rfl); (case hr => first | (go_simp; done) | (go_simp; rfl)); intro bb hg w5 hbox hb; have bd := Aside0.mk (hbox); have dz := Aside0.mk ((by rw [hg]; exact (below_size zx16_5) : w.heap.size ≤ bb)); have bK := Aside0.mk ((by rw [hg]; exact (below_size zx16_5) : w.heap.size ≤ bb)); replace HB := Aside0.mk (below_step zx16_5 hb); clear hb hbox hg) | ((with_reducible refine gate_dst (N := 4) rfl ?_); refine box_event ?hg (N := 4) ?hd (cs := #[.int .u64 0, .int .u64 0, .slice none 0 0]) (t := 57) ?hr ?_; (case hd => rfl); (case hg => rfl); (case hr => first | (go_simp; done) | (go_simp; rfl)); intro bc hg w6 hbox hb; have bh := Aside0.mk (hbox); have dy := Aside0.mk ((by rw [hg]; exact (below_size zx16_4) : w.heap.size ≤ bc)); have bO := Aside0.mk ((by rw [hg]; exact (below_size zx16_4) : w.heap.size ≤ bc)); replace HB := Aside0.mk (below_step zx16_4 hb); have bH := Aside0.mk ((by rw [hg]; exact Nat.ne_of_lt (blk_lt (g := bb) (o := .cells #[.int .u64 bk, .int .u64 bj, .slice bo bi.length bn] 57 (0, 0)) zx16_0) : bb ≠ bc)); have bE := Aside0.mk ((by rw [hg]; exact Nat.ne_of_gt (blk_lt (g := bb) (o := .cells #[.int .u64 bk, .int .u64 bj, .slice bo bi.length bn] 57 (0, 0)) zx16_0) : bc ≠ bb)); replace bd := Aside0.mk (blk_below (g := bb) (o := .cells #[.int .u64 bk, .int .u64 bj, .slice bo bi.length bn] 57 (0, 0)) zx16_0 hb); clear hb hbox hg; have gO := bH.out; have gN := bE.out; have gm : w6.cell? ⟨bb, 0, none⟩ = some (.int .u64 bk) := (blk_cell bd.out 0).trans rfl; have gl : w6.cell? ⟨bb, 1, none⟩ = some (.int .u64 bj) := (blk_cell bd.out 1).trans rfl; have gk : w6.cell? ⟨bb, 2, none⟩ = some (.slice bo bi.length bn) := (blk_cell bd.out 2).trans rfl; have gj := blk_frozen bd.out 0; have gi := blk_frozen bd.out 1; have gh := blk_frozen bd.out 2) | ((with_reducible refine gate_callee (f := 46) rfl ?_); refine goesL_ (some 10) rfl rfl Tryd.func46 (by kernel_rfl) rfl #[.agg #[.int .u64 bk, .int .u64 bj, .slice bo bi.length bn], .string a1] rfl zx16_7 ?_; (with_reducible refine (postroomref10_place.calls k bk bj _ _ bi a1 be _ ?side1 ?side2 A3.out).mono ?_); (case side1 => repeat (first | exact (Kd.C_below b1.out HB.out) | (with_reducible refine Kd.C_alloc ?_ _) | (with_reducible refine Kd.C_drewN ?_ _) | (with_reducible refine Kd.C_drew ?_))); (case side2 => exact b2.out); rintro e w9 ⟨rfl, hb⟩; refine ⟨_, rfl, ?_⟩; replace bd := Aside0.mk (blk_below (g := bb) (o := .cells #[.int .u64 bk, .int .u64 bj, .slice bo bi.length bn] 57 (0, 0)) zx16_0 hb); replace bh := Aside0.mk (blk_below (g := bc) (o := .cells #[.int .u64 0, .int .u64 0, .slice none 0 0] 57 (0, 0)) zx16_2 hb); replace HB := Aside0.mk (below_step zx16_3 hb); (try clear hb); (try clear hb2); (try clear hk); (try clear hi); have gf : w9.cell? ⟨bc, 0, none⟩ = some (.int .u64 0) := (blk_cell bh.out 0).trans rfl; have ge : w9.cell? ⟨bc, 1, none⟩ = some (.int .u64 0) := (blk_cell bh.out 1).trans rfl; have gc : w9.cell? ⟨bc, 2, none⟩ = some (.slice none 0 0) := (blk_cell bh.out 2).trans rfl; have dW := blk_frozen bh.out 0; have dV := blk_frozen bh.out 1; have dU := blk_frozen bh.out 2))
  refine bodyPost_ret (results_ct rfl _ _ bc 57 #[.int .u64 0, .int .u64 0, .slice none 0 0] (0, 0) _ rfl (by (with_reducible repeat (first | refine blk_drewN ?_ _ | refine blk_drew ?_ | refine blk_alloc ?_ _)); refine blk_put (cs := #[.int .u64 0, .int .u64 0, .slice none 0 0]) ?_ 2 _ rfl; (with_reducible repeat (first | refine blk_drewN ?_ _ | refine blk_drew ?_ | refine blk_alloc ?_ _)); refine blk_put (cs := #[.int .u64 0, .int .u64 0, .slice none 0 0]) ?_ 1 _ rfl; (with_reducible repeat (first | refine blk_drewN ?_ _ | refine blk_drew ?_ | refine blk_alloc ?_ _)); refine blk_put (cs := #[.int .u64 0, .int .u64 0, .slice none 0 0]) ?_ 0 _ rfl; (with_reducible repeat (first | refine blk_drewN ?_ _ | refine blk_drew ?_ | refine blk_alloc ?_ _)); exact bh.out) Tryd.underlying57 rfl (by kernel_rfl)) rfl ?_
  exact ⟨_, by first | rfl | (simp [errW_none, errW_some] <;> rfl) | (simp [*, errW_none, errW_some] <;> rfl), by first | exact Kd.S_nil _ _ _ _ _ | exact Kd.N_nil _ _ _ _ _ | exact Kd.V_nil _ _ _ _ _ | exact Kd.Q_nil _ _ _ _ _ | exact Kd.R_nil _ _ _ _ _, by repeat (first | (with_reducible first | exact HB.out | apply below_alloc | apply pw_below_drewN | apply below_drew1 | refine below_set ?_ bK.out | refine below_set ?_ bO.out) | exact HB.out)⟩
 rw [if_neg c4] at H
 have go : decide (be < 0) = false := decide_eq_false c4
 clear c4
 replace H := Option.bind_eq_some_iff.mp H
 obtain ⟨⟨bp, bu, bg⟩, dA, H⟩ := H
 replace H : ((some (([] : List (S84)) : List (S84))).bind fun bA => (if 0 ≤ be then (if be ≤ (bg.length : Int) then ((some (bg.take (be : Int).toNat : List (S84))).bind fun bz => (if bA.length + bz.length < 2932031007402 then ((some (bA ++ bz : List (S84))).bind fun br => (if 0 ≤ (wrap64 (be + 1)) then (if (wrap64 (be + 1)) ≤ (bg.length : Int) then ((some (bg.drop ((wrap64 (be + 1)) : Int).toNat : List (S84))).bind fun bl => (if br.length + bl.length < 2932031007402 then (some (bp, bu, (br ++ bl), 0)) else (none))) else (none)) else (none))) else (none))) else (none)) else (none))) = some (r1, r2, r3, r4) := H
 have A11 := Aside0.mk dA
 clear dA
 obtain ⟨bA, bU⟩ : ∃ y_ : List (S84), y_ = (([] : List (S84))) := ⟨_, rfl⟩
 replace H : (if 0 ≤ be then (if be ≤ (bg.length : Int) then ((some (bg.take (be : Int).toNat : List (S84))).bind fun bz => (if bA.length + bz.length < 2932031007402 then ((some (bA ++ bz : List (S84))).bind fun br => (if 0 ≤ (wrap64 (be + 1)) then (if (wrap64 (be + 1)) ≤ (bg.length : Int) then ((some (bg.drop ((wrap64 (be + 1)) : Int).toNat : List (S84))).bind fun bl => (if br.length + bl.length < 2932031007402 then (some (bp, bu, (br ++ bl), 0)) else (none))) else (none)) else (none))) else (none))) else (none)) else (none)) = some (r1, r2, r3, r4) := by first | (rw [bU]; with_reducible exact H) | (have H2_ := (Option.bind_some _ _).symm.trans H; rw [bU]; with_reducible exact H2_) | (have H2_ := (Option.bind_some _ _).symm.trans H; with_reducible exact H2_) | with_reducible exact H | (rw [bU]; exact H) | exact H
 have de := Aside0.mk bU
 clear bU
 by_cases c12 : 0 ≤ be
 case neg =>
  rw [if_neg c12] at H
  exact absurd H (by simp)

 rw [if_pos c12] at H
 have gD := eq_true c12
 have gC : decide (0 ≤ be) = true := decide_eq_true c12
 clear c12
 by_cases c13 : be ≤ (bg.length : Int)
 case neg =>
  rw [if_neg c13] at H
  exact absurd H (by simp)
 rw [if_pos c13] at H
 have gB := eq_true c13
 have gA : decide (be ≤ (bg.length : Int)) = true := decide_eq_true c13
 clear c13
 obtain ⟨bz, bS⟩ : ∃ y_ : List (S84), y_ = (bg.take (be : Int).toNat) := ⟨_, rfl⟩
 replace H : (if bA.length + bz.length < 2932031007402 then ((some (bA ++ bz : List (S84))).bind fun br => (if 0 ≤ (wrap64 (be + 1)) then (if (wrap64 (be + 1)) ≤ (bg.length : Int) then ((some (bg.drop ((wrap64 (be + 1)) : Int).toNat : List (S84))).bind fun bl => (if br.length + bl.length < 2932031007402 then (some (bp, bu, (br ++ bl), 0)) else (none))) else (none)) else (none))) else (none)) = some (r1, r2, r3, r4) := by first | (rw [bS]; with_reducible exact H) | (have H2_ := (Option.bind_some _ _).symm.trans H; rw [bS]; with_reducible exact H2_) | (have H2_ := (Option.bind_some _ _).symm.trans H; with_reducible exact H2_) | with_reducible exact H | (rw [bS]; exact H) | exact H
 have dd := Aside0.mk bS
 clear bS
 by_cases c14 : bA.length + bz.length < 2932031007402
 case neg =>
  rw [if_neg c14] at H
  exact absurd H (by simp)
 rw [if_pos c14] at H
 have dx := Aside0.mk c14
 clear c14
 obtain ⟨br, bR⟩ : ∃ y_ : List (S84), y_ = (bA ++ bz) := ⟨_, rfl⟩
 replace H : (if 0 ≤ (wrap64 (be + 1)) then (if (wrap64 (be + 1)) ≤ (bg.length : Int) then ((some (bg.drop ((wrap64 (be + 1)) : Int).toNat : List (S84))).bind fun bl => (if br.length + bl.length < 2932031007402 then (some (bp, bu, (br ++ bl), 0)) else (none))) else (none)) else (none)) = some (r1, r2, r3, r4) := by first | (rw [bR]; with_reducible exact H) | (have H2_ := (Option.bind_some _ _).symm.trans H; rw [bR]; with_reducible exact H2_) | (have H2_ := (Option.bind_some _ _).symm.trans H; with_reducible exact H2_) | with_reducible exact H | (rw [bR]; exact H) | exact H
 have dv := Aside0.mk bR
 clear bR
 obtain ⟨bB, bL⟩ : ∃ j_ : Int, (wrap64 (be + 1)) = j_ := ⟨_, rfl⟩
 replace H : (if 0 ≤ (bB) then (if (bB) ≤ (bg.length : Int) then ((some (bg.drop ((bB) : Int).toNat : List (S84))).bind fun bl => (if br.length + bl.length < 2932031007402 then (some (bp, bu, (br ++ bl), 0)) else (none))) else (none)) else (none)) = some (r1, r2, r3, r4) := by first | (rw [bL] at H; exact H) | (simp only [bL] at H ⊢; exact H)
 (try rw [bL] at A3)
 (try rw [bL] at A11)
 have hji15w : (IntKind.i64.wrap (be + 1)) = bB := (i64_w _).trans bL
 by_cases c16 : 0 ≤ (bB)
 case neg =>
  rw [if_neg c16] at H
  exact absurd H (by simp)
 rw [if_pos c16] at H
 have gz := eq_true c16
 have gy : decide (0 ≤ (bB)) = true := decide_eq_true c16
 clear c16
 by_cases c17 : (bB) ≤ (bg.length : Int)
 case neg =>
  rw [if_neg c17] at H
  exact absurd H (by simp)
 rw [if_pos c17] at H
 have gx := eq_true c17
 have gw : decide ((bB) ≤ (bg.length : Int)) = true := decide_eq_true c17
 clear c17
 obtain ⟨bl, bQ⟩ : ∃ y_ : List (S84), y_ = (bg.drop ((bB) : Int).toNat) := ⟨_, rfl⟩
 replace H : (if br.length + bl.length < 2932031007402 then (some (bp, bu, (br ++ bl), 0)) else (none)) = some (r1, r2, r3, r4) := by first | (rw [bQ]; with_reducible exact H) | (have H2_ := (Option.bind_some _ _).symm.trans H; rw [bQ]; with_reducible exact H2_) | (have H2_ := (Option.bind_some _ _).symm.trans H; with_reducible exact H2_) | with_reducible exact H | (rw [bQ]; exact H) | exact H
 have dc := Aside0.mk bQ
 clear bQ
 by_cases c18 : br.length + bl.length < 2932031007402
 case neg =>
  rw [if_neg c18] at H
  exact absurd H (by simp)
 rw [if_pos c18] at H
 have dw := Aside0.mk c18
 clear c18
 obtain ⟨b4, bP⟩ : ∃ y_ : List (S84), y_ = (br ++ bl) := ⟨_, rfl⟩
 replace H : (some (bp, bu, b4, 0)) = some (r1, r2, r3, r4) := by first | (rw [bP]; with_reducible exact H) | (have H2_ := (Option.bind_some _ _).symm.trans H; rw [bP]; with_reducible exact H2_) | (have H2_ := (Option.bind_some _ _).symm.trans H; with_reducible exact H2_) | with_reducible exact H | (rw [bP]; exact H) | exact H
 have du := Aside0.mk bP
 clear bP
 simp only [Option.some.injEq, Prod.mk.injEq] at H
 obtain ⟨rfl, rfl, rfl, rfl⟩ := H
 go_enter Tryd.func41, Tryd.ntmps41
 try go_wp2_with (first | ((with_reducible refine gate_dst (N := 2) rfl ?_); refine box_event ?hg (N := 2) ?hd (cs := #[.int .u64 bk, .int .u64 bj, .slice bo bi.length bn]) (t := 57) ?hr ?_; (case hd => rfl); (case hg => rfl); (case hr => first | (go_simp; done) | (go_simp; rfl)); intro bb hg w19 hbox hb; have bd := Aside0.mk (hbox); have dz := Aside0.mk ((by rw [hg]; exact (below_size zx16_5) : w.heap.size ≤ bb)); have bK := Aside0.mk ((by rw [hg]; exact (below_size zx16_5) : w.heap.size ≤ bb)); replace HB := Aside0.mk (below_step zx16_5 hb); clear hb hbox hg) | ((with_reducible refine gate_dst (N := 4) rfl ?_); refine box_event ?hg (N := 4) ?hd (cs := #[.int .u64 0, .int .u64 0, .slice none 0 0]) (t := 57) ?hr ?_; (case hd => rfl); (case hg => rfl); (case hr => first | (go_simp; done) | (go_simp; rfl)); intro bc hg w20 hbox hb; have bh := Aside0.mk (hbox); have dy := Aside0.mk ((by rw [hg]; exact (below_size zx16_4) : w.heap.size ≤ bc)); have bO := Aside0.mk ((by rw [hg]; exact (below_size zx16_4) : w.heap.size ≤ bc)); replace HB := Aside0.mk (below_step zx16_4 hb); have bH := Aside0.mk ((by rw [hg]; exact Nat.ne_of_lt (blk_lt (g := bb) (o := .cells #[.int .u64 bk, .int .u64 bj, .slice bo bi.length bn] 57 (0, 0)) zx16_0) : bb ≠ bc)); have bE := Aside0.mk ((by rw [hg]; exact Nat.ne_of_gt (blk_lt (g := bb) (o := .cells #[.int .u64 bk, .int .u64 bj, .slice bo bi.length bn] 57 (0, 0)) zx16_0) : bc ≠ bb)); replace bd := Aside0.mk (blk_below (g := bb) (o := .cells #[.int .u64 bk, .int .u64 bj, .slice bo bi.length bn] 57 (0, 0)) zx16_0 hb); clear hb hbox hg; have gu := bH.out; have gr := bE.out; have gb : w20.cell? ⟨bb, 0, none⟩ = some (.int .u64 bk) := (blk_cell bd.out 0).trans rfl; have ga : w20.cell? ⟨bb, 1, none⟩ = some (.int .u64 bj) := (blk_cell bd.out 1).trans rfl; have d9 : w20.cell? ⟨bb, 2, none⟩ = some (.slice bo bi.length bn) := (blk_cell bd.out 2).trans rfl; have dT := blk_frozen bd.out 0; have dS := blk_frozen bd.out 1; have dR := blk_frozen bd.out 2) | ((with_reducible refine gate_callee (f := 46) rfl ?_); refine goesL_ (some 10) rfl rfl Tryd.func46 (by kernel_rfl) rfl #[.agg #[.int .u64 bk, .int .u64 bj, .slice bo bi.length bn], .string a1] rfl zx16_7 ?_; (with_reducible refine (postroomref10_place.calls k bk bj _ _ bi a1 be _ ?side1 ?side2 A3.out).mono ?_); (case side1 => repeat (first | exact (Kd.C_below b1.out HB.out) | (with_reducible refine Kd.C_alloc ?_ _) | (with_reducible refine Kd.C_drewN ?_ _) | (with_reducible refine Kd.C_drew ?_))); (case side2 => exact b2.out); rintro e w23 ⟨rfl, hb⟩; refine ⟨_, rfl, ?_⟩; replace bd := Aside0.mk (blk_below (g := bb) (o := .cells #[.int .u64 bk, .int .u64 bj, .slice bo bi.length bn] 57 (0, 0)) zx16_0 hb); replace bh := Aside0.mk (blk_below (g := bc) (o := .cells #[.int .u64 0, .int .u64 0, .slice none 0 0] 57 (0, 0)) zx16_2 hb); replace HB := Aside0.mk (below_step zx16_3 hb); (try clear hb); (try clear hb2); (try clear hk); (try clear hi); have d8 : w23.cell? ⟨bb, 0, none⟩ = some (.int .u64 bk) := (blk_cell bd.out 0).trans rfl; have d7 : w23.cell? ⟨bb, 1, none⟩ = some (.int .u64 bj) := (blk_cell bd.out 1).trans rfl; have d6 : w23.cell? ⟨bb, 2, none⟩ = some (.slice bo bi.length bn) := (blk_cell bd.out 2).trans rfl; have dQ := blk_frozen bd.out 0; have dP := blk_frozen bd.out 1; have dO := blk_frozen bd.out 2) | ((with_reducible refine gate_callee (f := 53) rfl ?_); refine goesL_ (some 15) rfl rfl Tryd.func53 (by kernel_rfl) rfl #[.agg #[.int .u64 bk, .int .u64 bj, .slice bo bi.length bn]] rfl zx16_7 ?_; (with_reducible refine (postroomref10_copied.calls k bk bj _ _ bi bp bu bg _ ?side1 ?side2 A11.out).mono ?_); (case side1 => repeat (first | exact (Kd.C_below b1.out HB.out) | (with_reducible refine Kd.C_alloc ?_ _) | (with_reducible refine Kd.C_drewN ?_ _) | (with_reducible refine Kd.C_drew ?_))); (case side2 => exact b2.out); rintro e w25 ⟨gI, rfl, ho0, hb⟩; refine ⟨_, rfl, ?_⟩; have bx := Aside0.mk (Kd.N_lower (Kd.N_mono (ok' := fun k_ => (w.heap.size ≤ k_) ∧ k_ ≠ bb ∧ k_ ≠ bc) (Kd.S_N (Kd.S_bound ho0)) (fun k_ hk_ => ⟨(Nat.le_trans (below_size zx16_3) hk_.2.1), (Kd.freshB (g := bb) (o := .cells #[.int .u64 bk, .int .u64 bj, .slice bo bi.length bn] 57 (0, 0)) zx16_0 k_ hk_.2.1), (Kd.freshB (g := bc) (o := .cells #[.int .u64 0, .int .u64 0, .slice none 0 0] 57 (0, 0)) zx16_2 k_ hk_.2.1)⟩)) (below_size zx16_3)); replace bd := Aside0.mk (blk_below (g := bb) (o := .cells #[.int .u64 bk, .int .u64 bj, .slice bo bi.length bn] 57 (0, 0)) zx16_0 hb); replace bh := Aside0.mk (blk_below (g := bc) (o := .cells #[.int .u64 0, .int .u64 0, .slice none 0 0] 57 (0, 0)) zx16_2 hb); replace HB := Aside0.mk (below_step zx16_3 hb); (try clear hb); (try clear hb2); (try clear hk); (try clear hi); (try clear ho0)) | ((with_reducible refine gate_dst (N := 7) rfl ?_); refine box_event ?hg (N := 7) ?hd (cs := #[.int .u64 0, .int .u64 0, .slice none 0 0]) (t := 57) ?hr ?_; (case hd => rfl); (case hg => rfl); (case hr => first | (go_simp; done) | (go_simp; rfl)); intro ba hg w26 hbox hb; replace bx := Aside0.mk (Kd.N_below (Kd.N_elderB (by (with_reducible repeat (first | apply Kd.N_alloc | apply Kd.N_drewN | apply Kd.N_drew)); exact bx.out) ba (Nat.le_of_eq hg.symm)) hb); have bf := Aside0.mk (hbox); have gG := Aside0.mk ((by rw [hg]; exact (below_size zx16_3) : w.heap.size ≤ ba)); have b3 := Aside0.mk ((by rw [hg]; exact (below_size zx16_3) : w.heap.size ≤ ba)); replace HB := Aside0.mk (below_step zx16_3 hb); have bG := Aside0.mk ((by rw [hg]; exact Nat.ne_of_lt (blk_lt (g := bb) (o := .cells #[.int .u64 bk, .int .u64 bj, .slice bo bi.length bn] 57 (0, 0)) zx16_0) : bb ≠ ba)); have bN := Aside0.mk ((by rw [hg]; exact Nat.ne_of_gt (blk_lt (g := bb) (o := .cells #[.int .u64 bk, .int .u64 bj, .slice bo bi.length bn] 57 (0, 0)) zx16_0) : ba ≠ bb)); replace bd := Aside0.mk (blk_below (g := bb) (o := .cells #[.int .u64 bk, .int .u64 bj, .slice bo bi.length bn] 57 (0, 0)) zx16_0 hb); have bC := Aside0.mk ((by rw [hg]; exact Nat.ne_of_lt (blk_lt (g := bc) (o := .cells #[.int .u64 0, .int .u64 0, .slice none 0 0] 57 (0, 0)) zx16_2) : bc ≠ ba)); have bM := Aside0.mk ((by rw [hg]; exact Nat.ne_of_gt (blk_lt (g := bc) (o := .cells #[.int .u64 0, .int .u64 0, .slice none 0 0] 57 (0, 0)) zx16_2) : ba ≠ bc)); replace bh := Aside0.mk (blk_below (g := bc) (o := .cells #[.int .u64 0, .int .u64 0, .slice none 0 0] 57 (0, 0)) zx16_2 hb); clear hb hbox hg; have gt := bN.out; have gq := bG.out; have gs := bM.out; have gp := bC.out; have d5 : w26.cell? ⟨ba, 0, none⟩ = some (.int .u64 0) := (blk_cell bf.out 0).trans rfl; have d4 : w26.cell? ⟨ba, 1, none⟩ = some (.int .u64 0) := (blk_cell bf.out 1).trans rfl; have d3 : w26.cell? ⟨ba, 2, none⟩ = some (.slice none 0 0) := (blk_cell bf.out 2).trans rfl; have dN := blk_frozen bf.out 0; have dM := blk_frozen bf.out 1; have dL := blk_frozen bf.out 2; obtain ⟨bw, bq, gn⟩ := Kd.N_slice bx.out; subst gn))
 have n0_ : Aside0 (Kd.N k84 84 (((w26.setCell ⟨ba, 0, none⟩ (.int .u64 bp)).setCell ⟨ba, 1, none⟩ (.int .u64 bu)).setCell ⟨ba, 2, none⟩ (.slice bw bg.length bq)) w.heap.size (fun k_ => (w.heap.size ≤ k_) ∧ k_ ≠ bb ∧ k_ ≠ bc ∧ k_ ≠ ba) (.slice bw bg.length bq) bg) := ⟨by (with_reducible repeat (first | apply Kd.N_alloc | apply Kd.N_drewN | apply Kd.N_drew)); exact Kd.N_mono (Kd.N_far (p := ⟨ba, 2, none⟩) (Kd.N_far (p := ⟨ba, 1, none⟩) (Kd.N_far (p := ⟨ba, 0, none⟩) (Kd.N_mono bx.out (fun k_ hk => (⟨hk, hk.2⟩ : _ ∧ k_ ≠ ba))) (fun _ hk => hk.2) (.int .u64 bp)) (fun _ hk => hk.2) (.int .u64 bu)) (fun _ hk => hk.2) (.slice bw bg.length bq)) (fun _ hk => ⟨hk.1.1.1, ⟨hk.1.1.2.1, ⟨hk.1.1.2.2, hk.1.2⟩⟩⟩)⟩
 have n1_ : Aside0 ((((w26.setCell ⟨ba, 0, none⟩ (.int .u64 bp)).setCell ⟨ba, 1, none⟩ (.int .u64 bu)).setCell ⟨ba, 2, none⟩ (.slice bw bg.length bq)).heap[bb]? = some (.cells #[.int .u64 bk, .int .u64 bj, .slice bo bi.length bn] 57 (0, 0))) := ⟨by (iterate 3 ((with_reducible repeat (first | refine blk_drewN ?_ _ | refine blk_drew ?_ | refine blk_alloc ?_ _)); refine blk_far ?_ bG.out _)); (with_reducible repeat (first | refine blk_drewN ?_ _ | refine blk_drew ?_ | refine blk_alloc ?_ _)); exact bd.out⟩
 have n2_ : Aside0 ((((w26.setCell ⟨ba, 0, none⟩ (.int .u64 bp)).setCell ⟨ba, 1, none⟩ (.int .u64 bu)).setCell ⟨ba, 2, none⟩ (.slice bw bg.length bq)).heap[bc]? = some (.cells #[.int .u64 0, .int .u64 0, .slice none 0 0] 57 (0, 0))) := ⟨by (iterate 3 ((with_reducible repeat (first | refine blk_drewN ?_ _ | refine blk_drew ?_ | refine blk_alloc ?_ _)); refine blk_far ?_ bC.out _)); (with_reducible repeat (first | refine blk_drewN ?_ _ | refine blk_drew ?_ | refine blk_alloc ?_ _)); exact bh.out⟩
 have n3_ : Aside0 ((((w26.setCell ⟨ba, 0, none⟩ (.int .u64 bp)).setCell ⟨ba, 1, none⟩ (.int .u64 bu)).setCell ⟨ba, 2, none⟩ (.slice bw bg.length bq)).heap[ba]? = some (.cells #[.int .u64 bp, .int .u64 bu, .slice bw bg.length bq] 57 (0, 0))) := ⟨by (with_reducible repeat (first | refine blk_drewN ?_ _ | refine blk_drew ?_ | refine blk_alloc ?_ _)); refine blk_put (cs := #[.int .u64 bp, .int .u64 bu, .slice none 0 0]) ?_ 2 _ rfl; (with_reducible repeat (first | refine blk_drewN ?_ _ | refine blk_drew ?_ | refine blk_alloc ?_ _)); refine blk_put (cs := #[.int .u64 bp, .int .u64 0, .slice none 0 0]) ?_ 1 _ rfl; (with_reducible repeat (first | refine blk_drewN ?_ _ | refine blk_drew ?_ | refine blk_alloc ?_ _)); refine blk_put (cs := #[.int .u64 0, .int .u64 0, .slice none 0 0]) ?_ 0 _ rfl; (with_reducible repeat (first | refine blk_drewN ?_ _ | refine blk_drew ?_ | refine blk_alloc ?_ _)); exact bf.out⟩
 have n4_ : Aside0 (Below w.heap.size w (((w26.setCell ⟨ba, 0, none⟩ (.int .u64 bp)).setCell ⟨ba, 1, none⟩ (.int .u64 bu)).setCell ⟨ba, 2, none⟩ (.slice bw bg.length bq))) := ⟨by repeat (first | (with_reducible first | exact HB.out | apply below_alloc | apply pw_below_drewN | apply below_drew1 | refine below_set ?_ bK.out | refine below_set ?_ bO.out | refine below_set ?_ b3.out) | exact HB.out)⟩
 (try clear bx)
 (try clear bd)
 (try clear bh)
 (try clear bf)
 (try clear HB)
 generalize (((w26.setCell ⟨ba, 0, none⟩ (.int .u64 bp)).setCell ⟨ba, 1, none⟩ (.int .u64 bu)).setCell ⟨ba, 2, none⟩ (.slice bw bg.length bq)) = w31 at n0_ n1_ n2_ n3_ n4_ ⊢
 have bx := n0_
 have bd := n1_
 have bh := n2_
 have bf := n3_
 have HB := n4_
 clear n0_ n1_ n2_ n3_ n4_
 replace bx := Aside0.mk (Kd.N_drew bx.out)
 replace bd := Aside0.mk (blk_drew bd.out)
 replace bh := Aside0.mk (blk_drew bh.out)
 replace bf := Aside0.mk (blk_drew bf.out)
 replace HB := Aside0.mk (below_drew1 HB.out)
 have q33 : (be : Int) ≤ ((bg.length : Int) : Int) := of_decide_eq_true (by first | (with_reducible assumption) | assumption)
 obtain ⟨gK, da, _, dp, _⟩ := info_parts info84
 have bY : bg.length ≤ bq := (Kd.N_reads' bx.out).2.1
 have dr : Kd.F k84 _ _ bw bg.length bg := (Kd.V_at (base := w.heap.size) (Kd.N_V bx.out)).2.2
 have dl := cut_to (P := Tryd.prog) 55 84 .i64 Tryd.underlying55 da bw bg.length bq be (of_decide_eq_true (by first | (with_reducible assumption) | assumption)) q33 bY
 have dj := Kd.F_take (m := (be : Int).toNat) dr (by omega)
 have di : bz.length = (be : Int).toNat := (by rw [dd.out, List.length_take]; omega)
 rw [← dd.out] at dj
 rw [← di] at dl
 have bJ := Aside0.mk (show Kd.V k84 84 _ w.heap.size _ (.slice bw bz.length bq) bz from Kd.V_mk (by omega) dj)
 have gF := Aside0.mk (show bz.length ≤ bq from by omega)
 clear dj dr bY da dp
 have gQ := Aside0.mk di
 clear di
 replace q33 := eq_true q33
 have q34 : ((bB) : Int) ≤ ((bg.length : Int) : Int) := of_decide_eq_true (by first | (with_reducible assumption) | assumption)
 obtain ⟨gJ, b9, _, b7, _⟩ := info_parts info84
 have bI : bg.length ≤ bq := (Kd.N_reads' bx.out).2.1
 have dq : Kd.F k84 _ _ bw bg.length bg := (Kd.V_at (base := w.heap.size) (Kd.N_V bx.out)).2.2
 have gg : (0 : Int) ≤ ((bB) : Int) := of_decide_eq_true (by first | (with_reducible assumption) | assumption)
 have dk := cut_from (P := Tryd.prog) 55 84 .i64 Tryd.underlying55 b9 3 b7 bw bg.length bq (bB) gg q34
 have b0 := Kd.F_cut (m := ((bB) : Int).toNat) (c := bq) dq (by omega) bI
 obtain ⟨A34, b6⟩ : ∃ A1, A1 = (if bq = ((bB) : Int).toNat then bw else (bw : Option Addr).map (·.add (((bB) : Int).toNat * 3))) := ⟨_, rfl⟩
 obtain ⟨c34, b5⟩ : ∃ c1, c1 = bq - ((bB) : Int).toNat := ⟨_, rfl⟩
 have bZ : bl.length = bg.length - ((bB) : Int).toNat := (by rw [dc.out, List.length_drop] <;> omega)
 rw [show (bg).drop ((bB) : Int).toNat = bl from dc.out.symm] at b0
 replace b0 : Kd.F k84 _ _ A34 bl.length bl := (by rw [b6]; exact b0)
 rw [← bZ, ← b6, ← b5] at dk
 have bD := Aside0.mk (show Kd.V k84 84 _ w.heap.size _ (.slice A34 bl.length c34) bl from Kd.V_mk (by rw [bZ, b5]; exact Nat.sub_le_sub_right bI _) b0)
 have gE := Aside0.mk (show bl.length ≤ c34 from by rw [bZ, b5]; exact Nat.sub_le_sub_right bI _)
 clear b0 dq bI b9 b7 b5
 have gP := Aside0.mk bZ
 have gR := Aside0.mk b6
 clear bZ b6
 replace q34 := eq_true q34
 refine start_ (n := 14) (S := fun w' => w'.cell? ⟨ba, 0, none⟩ = some (.int .u64 bp) ∧ w'.cell? ⟨ba, 1, none⟩ = some (.int .u64 bu) ∧ w'.cell? ⟨ba, 2, none⟩ = some (.slice bw bg.length bq)) (ds := [13]) #[Ff,Ff,Ff,Ff,Ff,Ff,Ff,Ff,Ff,Ff,Ff,Ff,Ff,Ff] (by kernel_rfl) rfl rfl ⟨(blk_cell bf.out 0).trans rfl, (blk_cell bf.out 1).trans rfl, (blk_cell bf.out 2).trans rfl⟩ (fun hHeld => ?_); refine with_tabW postroomref10_Leave.tab5 postroomref10_Leave.bits5 (fun HT_ HW_ => ?_)
 generalize w31.drew = w32 at bx bd bh bf HB bJ bD hHeld ⊢
 refine pp_ 1 (some 17) HT_.out ?_
 refine pp_ 3 (some 19) HT_.out ?_
 refine pp_ 6 (some 22) HT_.out ?_
 refine pp_ 8 (some 24) HT_.out ?_
 refine pp_ 9 (some 25) HT_.out ?_
 refine take_ (i := 2) (N := some 18) (v := ?_) (a' := ?_) #[Ff,Tt,Tt,Tt,Ff,Ff,Tt,Ff,Tt,Tt,Ff,Ff,Ff,Ff] rfl rfl (take_ofW HT_.out HW_.out (by kernel_rfl)) (fun _ _ _ h => h) (Or.inl ⟨by rfl, ?_⟩) hHeld ?_ ?_
 rotate_left
 ·rintro w' ⟨s0, s1, s2⟩
  go_simp
  with_reducible rfl
 rotate_left
 ·simp only [Act.put, List.setIfInBounds_toArray, List.set_cons_zero, List.set_cons_succ, i64_w, i32_w]
  rfl
 refine pp_ 4 (some 20) HT_.out ?_
 refine take_ (i := 7) (N := some 23) (v := ?_) (a' := ?_) #[Ff,Tt,Tt,Tt,Tt,Ff,Tt,Tt,Tt,Tt,Ff,Ff,Ff,Ff] rfl rfl (take_ofW HT_.out HW_.out (by kernel_rfl)) (fun _ _ _ h => h) (Or.inl ⟨by rfl, ?_⟩) hHeld ?_ ?_
 rotate_left
 ·rintro w' ⟨s0, s1, s2⟩
  go_simp
  with_reducible rfl
 rotate_left
 ·simp only [Act.put, List.setIfInBounds_toArray, List.set_cons_zero, List.set_cons_succ, i64_w, i32_w]
  rfl
 refine pp_ 10 (some 26) HT_.out ?_
 refine one_ (i := 0) (N := some 16) #[Tt,Tt,Tt,Tt,Tt,Ff,Tt,Tt,Tt,Tt,Tt,Ff,Ff,Ff] rfl rfl (one_of HT_.out (by kernel_rfl)) (by decide) (fun K hK => ?_)
 refine Kd.N_lit_step k84 _ 84 ?hg (N' := 16) ?hd (xs := ([] : List (S84))) (inner := []) (ok := (fun k_ => (w.heap.size ≤ k_) ∧ some k_ ≠ (.slice bw bg.length bq : Value).ownBlock ∧ k_ ≠ bb ∧ k_ ≠ bc ∧ k_ ≠ ba)) (okp := (fun k_ => (w.heap.size ≤ k_) ∧ some k_ ≠ (.slice bw bg.length bq : Value).ownBlock ∧ k_ ≠ bb ∧ k_ ≠ bc ∧ k_ ≠ ba)) ?hr ?hp (fun _ hk => hk) ((show ∀ k_, w32.heap.size ≤ k_ → (fun k_ => (w.heap.size ≤ k_) ∧ some k_ ≠ (.slice bw bg.length bq : Value).ownBlock ∧ k_ ≠ bb ∧ k_ ≠ bc ∧ k_ ≠ ba) k_ from fun k_ hk => ⟨(Nat.le_trans (below_size zx16_1) hk), Kd.fresh' (Kd.N_lt (by (with_reducible repeat (first | apply Kd.N_alloc | apply Kd.N_drewN | apply Kd.N_drew)); exact bx.out)) k_ hk, Kd.freshB (g := bb) (o := .cells #[.int .u64 bk, .int .u64 bj, .slice bo bi.length bn] 57 (0, 0)) zx16_0 k_ hk, Kd.freshB (g := bc) (o := .cells #[.int .u64 0, .int .u64 0, .slice none 0 0] 57 (0, 0)) zx16_2 k_ hk, Kd.freshB (g := ba) (o := .cells #[.int .u64 bp, .int .u64 bu, .slice bw bg.length bq] 57 (0, 0)) zx16_6 k_ hk⟩) _ (Nat.le_refl _)) (Below.refl _ _) (Nat.le_refl _) (by simp) ?_; (case hd => rfl); (case hg => rfl); (case hr => first | (go_simp; done) | (go_simp; rfl)); (case hp => exact (Reps.none _ _))
 intro dh w35 bX hb hg_ hnew_
 clear hg_ hnew_
 (first | rw [← de.out] at bX | (simp only [Int.reduceToNat] at bX; rw [← de.out] at bX))
 have n1_ := Aside0.mk (Kd.V_elder' (by (with_reducible repeat (first | apply Kd.V_alloc | apply Kd.V_drewN | apply Kd.V_drew)); exact bJ.out) (Kd.N_base bX) hb)
 have n2_ := Aside0.mk (Kd.V_elder' (by (with_reducible repeat (first | apply Kd.V_alloc | apply Kd.V_drewN | apply Kd.V_drew)); exact bD.out) (Kd.N_base bX) hb)
 have n3_ := Aside0.mk (Kd.N_lower bX (below_size zx16_1))
 have n4_ := Aside0.mk (blk_below (g := bb) (o := .cells #[.int .u64 bk, .int .u64 bj, .slice bo bi.length bn] 57 (0, 0)) zx16_0 hb)
 have n5_ := Aside0.mk (blk_below (g := bc) (o := .cells #[.int .u64 0, .int .u64 0, .slice none 0 0] 57 (0, 0)) zx16_2 hb)
 have n6_ := Aside0.mk (blk_below (g := ba) (o := .cells #[.int .u64 bp, .int .u64 bu, .slice bw bg.length bq] 57 (0, 0)) zx16_6 hb)
 have n7_ := Aside0.mk (below_step zx16_1 hb)
 (try clear bx)
 (try clear bJ)
 (try clear bD)
 clear bd
 clear bh
 clear bf
 clear HB
 have bJ := n1_
 have bD := n2_
 have bW := n3_
 have bd := n4_
 have bh := n5_
 have bf := n6_
 have HB := n7_
 clear n1_ n2_ n3_ n4_ n5_ n6_ n7_
 clear hb bX
 refine hK.out _ _ ⟨(blk_cell bf.out 0).trans rfl, (blk_cell bf.out 1).trans rfl, (blk_cell bf.out 2).trans rfl⟩ (fun hHeld => ?_)
 clear hK K
 refine na_ 16 ?_
 refine one_ (i := 5) (N := some 21) #[Tt,Tt,Tt,Tt,Tt,Tt,Tt,Tt,Tt,Tt,Tt,Ff,Ff,Ff] rfl rfl (one_of HT_.out (by kernel_rfl)) (by decide) (fun K hK => ?_)
 refine Kd.N_append_rows_step k84 (w0 := w) w.heap.size (by rfl) (.tmp 16) (.tmp 20) 55 84 (.agg #[(.string ⟨#[]⟩), (.int .u64 0), (.slice none 0 0)]) 48 rfl Tryd.underlying55 info84 rfl (by decide) (by omega) dh bA bz _ _ _ (fun k_ => (w.heap.size ≤ k_) ∧ k_ ≠ bb ∧ k_ ≠ bc ∧ k_ ≠ ba) (fun k_ => ((fun k_ => (w.heap.size ≤ k_) ∧ k_ ≠ bb ∧ k_ ≠ bc ∧ k_ ≠ ba)) k_ ∧ some k_ ≠ (dh : Value).ownBlock) rfl rfl ?aO ?aR (fun _ hk => hk) ?aF ?aB ?aS ?aL ?_
 (case aR => exact (by skip; exact Kd.V_F (Kd.V_mono (ok' := (fun k_ => ((fun k_ => (w.heap.size ≤ k_) ∧ k_ ≠ bb ∧ k_ ≠ bc ∧ k_ ≠ ba)) k_ ∧ some k_ ≠ (dh : Value).ownBlock)) (bJ.out) (fun k_ hk => ⟨⟨hk.1.1, ⟨hk.1.2.1, ⟨hk.1.2.2.1, hk.1.2.2.2⟩⟩⟩, hk.2⟩))))
 (case aB => exact zx16_1)
 (case aF => exact (fun k_ hk => ⟨(Nat.le_trans (below_size zx16_1) hk), Kd.freshB (g := bb) (o := .cells #[.int .u64 bk, .int .u64 bj, .slice bo bi.length bn] 57 (0, 0)) zx16_0 k_ hk, Kd.freshB (g := bc) (o := .cells #[.int .u64 0, .int .u64 0, .slice none 0 0] 57 (0, 0)) zx16_2 k_ hk, Kd.freshB (g := ba) (o := .cells #[.int .u64 bp, .int .u64 bu, .slice bw bg.length bq] 57 (0, 0)) zx16_6 k_ hk⟩))
 (case aO => exact (by (with_reducible repeat (first | apply Kd.N_alloc | apply Kd.N_drewN | apply Kd.N_drew)); exact Kd.N_mono bW.out (fun _ hk => ⟨hk.1, ⟨hk.2.2.1, ⟨hk.2.2.2.1, hk.2.2.2.2⟩⟩⟩)))
 (case aS => exact (below_size zx16_1))
 (case aL => have := dx.out; omega)
 intro dg w37 ho hb hg hat
 rw [← dv.out] at ho
 have n0_ := Aside0.mk (blk_grown (g := bb) (o := .cells #[.int .u64 bk, .int .u64 bj, .slice bo bi.length bn] 57 (0, 0)) zx16_0 hg (Kd.N_ne bW.out bd.out (by decide)))
 have n1_ := Aside0.mk (blk_grown (g := bc) (o := .cells #[.int .u64 0, .int .u64 0, .slice none 0 0] 57 (0, 0)) zx16_2 hg (Kd.N_ne bW.out bh.out (by decide)))
 have n3_ := Aside0.mk (blk_grown (g := ba) (o := .cells #[.int .u64 bp, .int .u64 bu, .slice bw bg.length bq] 57 (0, 0)) zx16_6 hg (Kd.N_ne bW.out bf.out (by decide)))
 have n5_ := Aside0.mk (Kd.V_afterv (ok := (fun k_ => (w.heap.size ≤ k_) ∧ k_ ≠ bb ∧ k_ ≠ bc ∧ k_ ≠ ba)) (by (with_reducible repeat (first | apply Kd.V_alloc | apply Kd.V_drewN | apply Kd.V_drew)); exact bD.out) hg hat)
 have n6_ := Aside0.mk (hb)
 have n7_ := Aside0.mk (ho)
 clear bd
 clear bh
 (try clear bx)
 clear bf
 (try clear bJ)
 (try clear bD)
 clear HB
 (try clear bW)
 have bd := n0_
 have bh := n1_
 have bf := n3_
 have bD := n5_
 have HB := n6_
 have bV := n7_
 clear n0_ n1_ n3_ n5_ n6_ n7_
 clear ho hb hg hat
 refine hK.out _ _ ⟨(blk_cell bf.out 0).trans rfl, (blk_cell bf.out 1).trans rfl, (blk_cell bf.out 2).trans rfl⟩ (fun hHeld => ?_)
 clear hK K
 refine na_ 21 ?_
 refine one_ (i := 11) (N := some 27) #[Tt,Tt,Tt,Tt,Tt,Tt,Tt,Tt,Tt,Tt,Tt,Tt,Ff,Ff] rfl rfl (one_of HT_.out (by kernel_rfl)) (by decide) (fun K hK => ?_)
 refine Kd.N_append_rows_step k84 (w0 := w) w.heap.size (by rfl) (.tmp 21) (.tmp 26) 55 84 (.agg #[(.string ⟨#[]⟩), (.int .u64 0), (.slice none 0 0)]) 48 rfl Tryd.underlying55 info84 rfl (by decide) (by omega) dg br bl _ _ _ (fun k_ => (w.heap.size ≤ k_) ∧ k_ ≠ bb ∧ k_ ≠ bc ∧ k_ ≠ ba) (fun k_ => ((fun k_ => (w.heap.size ≤ k_) ∧ k_ ≠ bb ∧ k_ ≠ bc ∧ k_ ≠ ba)) k_ ∧ some k_ ≠ (dg : Value).ownBlock) rfl rfl ?aO ?aR (fun _ hk => hk) ?aF ?aB ?aS ?aL ?_
 (case aR => exact (by skip; exact Kd.V_F (Kd.V_mono (ok' := (fun k_ => ((fun k_ => (w.heap.size ≤ k_) ∧ k_ ≠ bb ∧ k_ ≠ bc ∧ k_ ≠ ba)) k_ ∧ some k_ ≠ (dg : Value).ownBlock)) (bD.out) (fun k_ hk => ⟨⟨hk.1.1, ⟨hk.1.2.1, ⟨hk.1.2.2.1, hk.1.2.2.2⟩⟩⟩, hk.2⟩))))
 (case aB => exact zx16_1)
 (case aF => exact (fun k_ hk => ⟨(Nat.le_trans (below_size zx16_1) hk), Kd.freshB (g := bb) (o := .cells #[.int .u64 bk, .int .u64 bj, .slice bo bi.length bn] 57 (0, 0)) zx16_0 k_ hk, Kd.freshB (g := bc) (o := .cells #[.int .u64 0, .int .u64 0, .slice none 0 0] 57 (0, 0)) zx16_2 k_ hk, Kd.freshB (g := ba) (o := .cells #[.int .u64 bp, .int .u64 bu, .slice bw bg.length bq] 57 (0, 0)) zx16_6 k_ hk⟩))
 (case aO => exact (by (with_reducible repeat (first | apply Kd.N_alloc | apply Kd.N_drewN | apply Kd.N_drew)); exact bV.out))
 (case aS => exact (below_size zx16_1))
 (case aL => have := dw.out; omega)
 intro gH w38 ho hb hg hat
 rw [← du.out] at ho
 have n0_ := Aside0.mk (blk_grown (g := bb) (o := .cells #[.int .u64 bk, .int .u64 bj, .slice bo bi.length bn] 57 (0, 0)) zx16_0 hg (Kd.N_ne bV.out bd.out (by decide)))
 have n1_ := Aside0.mk (blk_grown (g := bc) (o := .cells #[.int .u64 0, .int .u64 0, .slice none 0 0] 57 (0, 0)) zx16_2 hg (Kd.N_ne bV.out bh.out (by decide)))
 have n3_ := Aside0.mk (blk_grown (g := ba) (o := .cells #[.int .u64 bp, .int .u64 bu, .slice bw bg.length bq] 57 (0, 0)) zx16_6 hg (Kd.N_ne bV.out bf.out (by decide)))
 have n6_ := Aside0.mk (hb)
 have n7_ := Aside0.mk (ho)
 clear bd
 clear bh
 (try clear bx)
 clear bf
 (try clear bJ)
 (try clear bD)
 clear HB
 (try clear bV)
 have bd := n0_
 have bh := n1_
 have bf := n3_
 have HB := n6_
 have df := n7_
 clear n0_ n1_ n3_ n6_ n7_
 clear ho hb hg hat
 obtain ⟨dn, dm, dt⟩ := Kd.N_slice df.out
 (first | subst dt | (injection dt with f1_ f2_ f3_; have f4_ := f1_.symm; have f5_ := f3_.symm; clear f1_ f2_ f3_; subst f4_; subst f5_))
 refine hK.out _ _ ⟨(blk_cell bf.out 0).trans rfl, (blk_cell bf.out 1).trans rfl, (blk_cell bf.out 2).trans rfl⟩ (fun hHeld => ?_)
 clear hK K
 refine na_ 27 ?_
 refine pp_ 12 (some 28) HT_.out ?_
 refine last_ (i := 13) (N := none) #[Tt,Tt,Tt,Tt,Tt,Tt,Tt,Tt,Tt,Tt,Tt,Tt,Tt,Tt] rfl rfl (one_of HT_.out (by kernel_rfl)) (by decide) (fun K hK => ?_)
 have gM : w38.cell? ⟨ba, 2, none⟩ = some (.slice bw bg.length bq) := (blk_cell bf.out 2).trans rfl
 have gv := blk_frozen bf.out 2
 have dC := bG.out
 have dB := bC.out
 have dE := bN.out
 have dD := bM.out
 refine skip_ (w1 := ?_) (by rfl) rfl ?_ ?_
 rotate_left
 ·go_simp
  rfl
 refine hK.out _ _ ?_
 clear hK K
 refine done_ (done_of HT_.out (by kernel_rfl)) ?_
 obtain ⟨d2, d1, d0, dK, dJ, dI⟩ := cx16_bc3 bf.out
 obtain ⟨dZ, dY, dX, dH, dG, dF⟩ := cx16_bc3 bh.out
 try go_wp2
 refine bodyPost_ret (results_ct rfl _ _ bc 57 #[.int .u64 bp, .int .u64 bu, .slice dn b4.length dm] (0, 0) _ rfl (by (with_reducible repeat (first | refine blk_drewN ?_ _ | refine blk_drew ?_ | refine blk_alloc ?_ _)); refine blk_put (cs := #[.int .u64 bp, .int .u64 bu, .slice none 0 0]) ?_ 2 _ rfl; (with_reducible repeat (first | refine blk_drewN ?_ _ | refine blk_drew ?_ | refine blk_alloc ?_ _)); refine blk_put (cs := #[.int .u64 bp, .int .u64 0, .slice none 0 0]) ?_ 1 _ rfl; (with_reducible repeat (first | refine blk_drewN ?_ _ | refine blk_drew ?_ | refine blk_alloc ?_ _)); refine blk_put (cs := #[.int .u64 0, .int .u64 0, .slice none 0 0]) ?_ 0 _ rfl; (with_reducible repeat (first | refine blk_drewN ?_ _ | refine blk_drew ?_ | refine blk_alloc ?_ _)); refine blk_far ?_ bC.out _; (with_reducible repeat (first | refine blk_drewN ?_ _ | refine blk_drew ?_ | refine blk_alloc ?_ _)); exact bh.out) Tryd.underlying57 rfl (by kernel_rfl)) rfl ?_
 exact ⟨_, by first | rfl | (simp [errW_none, errW_some] <;> rfl) | (simp only [← bL]; first | rfl | (simp [errW_none, errW_some] <;> rfl)) | (simp [*, errW_none, errW_some] <;> rfl), by (with_reducible repeat (first | apply Kd.N_alloc | apply Kd.N_drewN | apply Kd.N_drew)); exact Kd.N_mono (Kd.N_far (p := ⟨bc, 2, none⟩) (Kd.N_far (p := ⟨bc, 1, none⟩) (Kd.N_far (p := ⟨bc, 0, none⟩) (Kd.N_far (p := ⟨ba, 2, none⟩) (Kd.N_mono (Kd.N_mono df.out (fun k_ hk => (⟨hk, hk.2.2.2⟩ : _ ∧ k_ ≠ ba))) (fun k_ hk => (⟨hk, hk.1.2.2.1⟩ : _ ∧ k_ ≠ bc))) (fun _ hk => hk.1.2) (.slice dn b4.length dm)) (fun _ hk => hk.2) (.int .u64 bp)) (fun _ hk => hk.2) (.int .u64 bu)) (fun _ hk => hk.2) (.slice dn b4.length dm)) (fun _ hk => hk.1.1.1), by repeat (first | (with_reducible first | exact HB.out | apply below_alloc | apply pw_below_drewN | apply below_drew1 | refine below_set ?_ bK.out | refine below_set ?_ bO.out | refine below_set ?_ b3.out) | exact HB.out)⟩
end Go.Proofs.YthhmpjapnkilcaaDoor.XLdg
end
section
/- What the functions of the translation answer, each as a plain Lean function, and that the code comes to it; for a law: its row. Conditions: none but those that each theorem names. Written by a program of this session (wip/xp). -/
namespace Go.Proofs.YthhmpjapnkilcaaDoor.XLdg
open Go.RowKit Go.Proofs.YthhmpjapnkilcaaDoorW.PrintWords Go.Proofs.YthhmpjapnkilcaaDoorW.PrintLast Go.Proofs.YthhmpjapnkilcaaDoorW.PrintMore
attribute [local go_sem] max2_int min2_int max_two min_two max_three min_three max_four min_four   -- for this text's walks alone
theorem zx17_2 {p : Prop} (h : p := by first | (with_reducible assumption) | assumption) : p := h
theorem zx17_3 {p : Prop} (h : p := by (with_reducible repeat (first | refine blk_drewN ?_ _ | refine blk_drew ?_ | refine blk_alloc ?_ _)); exact ba.out) : p := h
theorem zx17_0 {p : Prop} (h : p := by repeat (first | (with_reducible first | exact HB.out | apply below_alloc | apply pw_below_drewN | apply below_drew1) | exact HB.out)) : p := h
theorem zx17_1 {p : Prop} (h : p := by repeat (first | (with_reducible first | exact HB.out | apply below_alloc | apply pw_below_drewN | apply below_drew1 | refine below_set ?_ bB.out) | exact HB.out)) : p := h
set_option linter.unusedVariables false
set_option linter.unusedSimpArgs false

/-! ### postroomlaw10_kind: function 42 -/
def postroomlaw10_kind.f (a0 : Int) : Option (Int) := (postroomlaw10_pick.f a0 8).bind fun bK => (if 0 ≤ bK then (if bK < 8 then (some (bt (⟨#[97, 97, 97, 97, 114, 114, 114, 101]⟩ : ByteArray) bK)) else (none)) else (none))
set_option maxHeartbeats 8000000 in
set_option maxRecDepth 100000 in
theorem postroomlaw10_kind.calls (a0 : Int) (r : Int) (w : World) (h : postroomlaw10_kind.f a0 = some r) :
  Calls Tryd.prog 42 #[.int .i64 a0] w fun e w' => e = .returned (.int .u8 r) ∧ Drawn0 w w' := by
 have H : ((postroomlaw10_pick.f a0 8).bind fun bK => (if 0 ≤ bK then (if bK < 8 then (some (bt (⟨#[97, 97, 97, 97, 114, 114, 114, 101]⟩ : ByteArray) bK)) else (none)) else (none))) = some r := h
 clear h
 replace H := Option.bind_eq_some_iff.mp H
 obtain ⟨bK, A20, H⟩ := H
 replace H : (if 0 ≤ bK then (if bK < 8 then (some (bt (⟨#[97, 97, 97, 97, 114, 114, 114, 101]⟩ : ByteArray) bK)) else (none)) else (none)) = some r := H
 have A2 := Aside0.mk A20
 clear A20
 by_cases c3 : 0 ≤ bK
 case neg =>
  rw [if_neg c3] at H
  exact absurd H (by simp)

 rw [if_pos c3] at H
 have d5 : decide (0 ≤ bK) = true := decide_eq_true c3
 clear c3
 by_cases c4 : bK < 8
 case neg =>
  rw [if_neg c4] at H
  exact absurd H (by simp)
 rw [if_pos c4] at H
 have d4 : decide (bK < 8) = true := decide_eq_true c4
 clear c4
 obtain rfl := Option.some.inj H
 go_enter Tryd.func42, Tryd.ntmps42
 go_wp2_with ((with_reducible refine gate_callee (f := 15) rfl ?_); refine goesL_ (some 4) rfl rfl Tryd.func15 (by kernel_rfl) rfl #[.int .i64 a0, .int .i64 8] rfl (by (try simp only [List.map_toArray, List.map_cons, List.map_nil]); first | done | rfl | (simp only [List.length_drop, List.length_take]; rfl)) ?_; (with_reducible refine (postroomlaw10_pick.calls a0 8 bK _ A2.out).mono ?_); rintro e w' ⟨rfl, ⟨nd, rfl⟩⟩; refine ⟨_, rfl, ?_⟩; have p5 : 0 ≤ (bK : Int) := of_decide_eq_true zx17_2; have q5 : bK < (8 : Int) := of_decide_eq_true zx17_2; have hx5 := bt_at (⟨#[97, 97, 97, 97, 114, 114, 114, 101]⟩ : ByteArray) bK; replace p5 := eq_true p5; replace q5 := eq_true q5)
 go_ret
 exact ⟨by first | rfl | (simp; done) | (simp [*]; done), by repeat (first | exact Drawn0.refl _ | apply Drawn0.step)⟩
/-! ### postroomref10_Waits: function 29 -/
def postroomref10_Waits.f (k : Nat) (bk : Int) (bh : Int) (bc : List (S84)) (a1 : ByteArray) (a2 : Int) : Option (Bool) := (postroomref10_place.f k bk bh bc a1).bind fun bd => (if bd ≥ 0 then (if 0 ≤ bd then (if bd < (bc.length : Int) then (if a2 ≥ ((rd_T84 bc bd).f1) then (if a2 < bh then (if 0 ≤ (IntKind.u64.wrap (a2 - ((rd_T84 bc bd).f1))) then (if (IntKind.u64.wrap (a2 - ((rd_T84 bc bd).f1))) < (((rd_T84 bc bd).f2).length : Int) then (some ((rd ((rd_T84 bc bd).f2) (IntKind.u64.wrap (a2 - ((rd_T84 bc bd).f1)))) == 112)) else (none)) else (none)) else (some false)) else (some false)) else (none)) else (none)) else (some false))
set_option maxHeartbeats 8000000 in
set_option maxRecDepth 100000 in
theorem postroomref10_Waits.calls (k : Nat) (bk : Int) (bh : Int) (bm : Option Addr) (bl : Nat) (bc : List (S84)) (a1 : ByteArray) (a2 : Int) (r : Bool) (w : World) (dT : Kd.C k84 w bm bc.length bc) (dU : bc.length ≤ bl) (h : postroomref10_Waits.f k bk bh bc a1 a2 = some r) :
  Calls Tryd.prog 29 #[.agg #[.int .u64 bk, .int .u64 bh, .slice bm bc.length bl], .string a1, .int .u64 a2] w fun e w' => e = .returned (.bool r) ∧ Below w.heap.size w w' := by
 have d1 := Tryd.underlying57
 have bn := Aside0.mk dT
 have bL := Aside0.mk dU
 clear dT dU
 have HB := Aside0.mk (Below.refl w.heap.size w)
 have H : ((postroomref10_place.f k bk bh bc a1).bind fun bd => (if bd ≥ 0 then (if 0 ≤ bd then (if bd < (bc.length : Int) then (if a2 ≥ ((rd_T84 bc bd).f1) then (if a2 < bh then (if 0 ≤ (IntKind.u64.wrap (a2 - ((rd_T84 bc bd).f1))) then (if (IntKind.u64.wrap (a2 - ((rd_T84 bc bd).f1))) < (((rd_T84 bc bd).f2).length : Int) then (some ((rd ((rd_T84 bc bd).f2) (IntKind.u64.wrap (a2 - ((rd_T84 bc bd).f1)))) == 112)) else (none)) else (none)) else (some false)) else (some false)) else (none)) else (none)) else (some false))) = some r := h
 clear h
 replace H := Option.bind_eq_some_iff.mp H
 obtain ⟨bd, A40, H⟩ := H
 replace H : (if bd ≥ 0 then (if 0 ≤ bd then (if bd < (bc.length : Int) then (if a2 ≥ ((rd_T84 bc bd).f1) then (if a2 < bh then (if 0 ≤ (IntKind.u64.wrap (a2 - ((rd_T84 bc bd).f1))) then (if (IntKind.u64.wrap (a2 - ((rd_T84 bc bd).f1))) < (((rd_T84 bc bd).f2).length : Int) then (some ((rd ((rd_T84 bc bd).f2) (IntKind.u64.wrap (a2 - ((rd_T84 bc bd).f1)))) == 112)) else (none)) else (none)) else (some false)) else (some false)) else (none)) else (none)) else (some false)) = some r := H
 have A4 := Aside0.mk A40
 clear A40
 by_cases c5 : bd ≥ 0
 case neg =>
  rw [if_neg c5] at H
  have dY : decide (0 ≤ bd) = false := decide_eq_false c5
  clear c5
  obtain rfl := Option.some.inj H
  go_enter Tryd.func29, Tryd.ntmps29
  go_wp2_with (first | ((with_reducible refine gate_dst (N := 3) rfl ?_); refine box_event ?hg (N := 3) ?hd (cs := #[.int .u64 bk, .int .u64 bh, .slice bm bc.length bl]) (t := 57) ?hr ?_; (case hd => rfl); (case hg => rfl); (case hr => first | (go_simp; done) | (go_simp; rfl)); intro bb hg w25 hbox hb; have ba := Aside0.mk (hbox); have bO := Aside0.mk ((by rw [hg]; exact (below_size zx17_0) : w.heap.size ≤ bb)); have bB := Aside0.mk ((by rw [hg]; exact (below_size zx17_0) : w.heap.size ≤ bb)); replace HB := Aside0.mk (below_step zx17_0 hb); clear hb hbox hg; have dq : w25.cell? ⟨bb, 0, none⟩ = some (.int .u64 bk) := (blk_cell ba.out 0).trans rfl; have dp : w25.cell? ⟨bb, 1, none⟩ = some (.int .u64 bh) := (blk_cell ba.out 1).trans rfl; have dn : w25.cell? ⟨bb, 2, none⟩ = some (.slice bm bc.length bl) := (blk_cell ba.out 2).trans rfl; have b4 := blk_frozen ba.out 0; have b3 := blk_frozen ba.out 1; have b2 := blk_frozen ba.out 2) | (go_at_call 46; (with_reducible refine (postroomref10_place.calls k bk bh _ _ bc a1 bd _ ?side1 ?side2 A4.out).mono ?_); (case side1 => repeat (first | exact (Kd.C_below bn.out HB.out) | (with_reducible refine Kd.C_alloc ?_ _) | (with_reducible refine Kd.C_drewN ?_ _) | (with_reducible refine Kd.C_drew ?_))); (case side2 => exact bL.out); rintro e w27 ⟨rfl, hb⟩; replace ba := Aside0.mk (blk_below (g := bb) (o := .cells #[.int .u64 bk, .int .u64 bh, .slice bm bc.length bl] 57 (0, 0)) zx17_3 hb); replace HB := Aside0.mk (below_step zx17_1 hb); (try clear hb); (try clear hb2); (try clear hk); (try clear hi)))
  repeat (go_quiet (fail); try go_wp2_with (fail))
  go_ret
  exact ⟨by first | rfl | (simp [errW_none, errW_some] <;> rfl) | (simp [*, errW_none, errW_some] <;> rfl), by repeat (first | (with_reducible first | exact HB.out | apply below_alloc | apply pw_below_drewN | apply below_drew1 | refine below_set ?_ bB.out) | exact HB.out)⟩

 rw [if_pos c5] at H
 have dY : decide (0 ≤ bd) = true := decide_eq_true c5
 clear c5
 by_cases c6 : 0 ≤ bd
 case neg =>
  rw [if_neg c6] at H
  exact absurd H (by simp)
 rw [if_pos c6] at H
 have d3 : decide (0 ≤ bd) = true := decide_eq_true c6
 clear c6
 by_cases c7 : bd < (bc.length : Int)
 case neg =>
  rw [if_neg c7] at H
  exact absurd H (by simp)
 rw [if_pos c7] at H
 have d2 : decide (bd < (bc.length : Int)) = true := decide_eq_true c7
 clear c7
 by_cases c8 : a2 ≥ ((rd_T84 bc bd).f1)
 case neg =>
  rw [if_neg c8] at H
  have dX : decide (((rd_T84 bc bd).f1) ≤ a2) = false := decide_eq_false c8
  clear c8
  obtain rfl := Option.some.inj H
  go_enter Tryd.func29, Tryd.ntmps29
  go_wp2_with (first | ((with_reducible refine gate_dst (N := 3) rfl ?_); refine box_event ?hg (N := 3) ?hd (cs := #[.int .u64 bk, .int .u64 bh, .slice bm bc.length bl]) (t := 57) ?hr ?_; (case hd => rfl); (case hg => rfl); (case hr => first | (go_simp; done) | (go_simp; rfl)); intro bb hg w21 hbox hb; have ba := Aside0.mk (hbox); have bO := Aside0.mk ((by rw [hg]; exact (below_size zx17_0) : w.heap.size ≤ bb)); have bB := Aside0.mk ((by rw [hg]; exact (below_size zx17_0) : w.heap.size ≤ bb)); replace HB := Aside0.mk (below_step zx17_0 hb); clear hb hbox hg; have dw : w21.cell? ⟨bb, 0, none⟩ = some (.int .u64 bk) := (blk_cell ba.out 0).trans rfl; have dv : w21.cell? ⟨bb, 1, none⟩ = some (.int .u64 bh) := (blk_cell ba.out 1).trans rfl; have du : w21.cell? ⟨bb, 2, none⟩ = some (.slice bm bc.length bl) := (blk_cell ba.out 2).trans rfl; have da := blk_frozen ba.out 0; have b9 := blk_frozen ba.out 1; have b8 := blk_frozen ba.out 2) | (go_at_call 46; (with_reducible refine (postroomref10_place.calls k bk bh _ _ bc a1 bd _ ?side1 ?side2 A4.out).mono ?_); (case side1 => repeat (first | exact (Kd.C_below bn.out HB.out) | (with_reducible refine Kd.C_alloc ?_ _) | (with_reducible refine Kd.C_drewN ?_ _) | (with_reducible refine Kd.C_drew ?_))); (case side2 => exact bL.out); rintro e w23 ⟨rfl, hb⟩; replace ba := Aside0.mk (blk_below (g := bb) (o := .cells #[.int .u64 bk, .int .u64 bh, .slice bm bc.length bl] 57 (0, 0)) zx17_3 hb); replace HB := Aside0.mk (below_step zx17_1 hb); (try clear hb); (try clear hb2); (try clear hk); (try clear hi); have dt : w23.cell? ⟨bb, 0, none⟩ = some (.int .u64 bk) := (blk_cell ba.out 0).trans rfl; have ds : w23.cell? ⟨bb, 1, none⟩ = some (.int .u64 bh) := (blk_cell ba.out 1).trans rfl; have dr : w23.cell? ⟨bb, 2, none⟩ = some (.slice bm bc.length bl) := (blk_cell ba.out 2).trans rfl; have b7 := blk_frozen ba.out 0; have b6 := blk_frozen ba.out 1; have b5 := blk_frozen ba.out 2; have br : 0 ≤ (bd : Int) := of_decide_eq_true zx17_2; have bq : bd < (bc.length : Int) := of_decide_eq_true zx17_2; obtain ⟨bH, bP, bN, bM, bg, bf, be, bi, bj⟩ := at_T84 bn.out bd br bq; cases bM; replace bg := (HB.out.cell (World.block_lt_of_cell? w _ bg)).trans bg; replace bf := (HB.out.cell (World.block_lt_of_cell? w _ bf)).trans bf; replace be := (HB.out.cell (World.block_lt_of_cell? w _ be)).trans be; have bI := Aside0.mk bj; have bJ := Aside0.mk bi; clear bj bi; replace br := eq_true br; replace bq := eq_true bq))
  repeat (go_quiet (fail); try go_wp2_with (fail))
  go_ret
  exact ⟨by first | rfl | (simp [errW_none, errW_some] <;> rfl) | (simp [*, errW_none, errW_some] <;> rfl), by repeat (first | (with_reducible first | exact HB.out | apply below_alloc | apply pw_below_drewN | apply below_drew1 | refine below_set ?_ bB.out) | exact HB.out)⟩
 rw [if_pos c8] at H
 have dX : decide (((rd_T84 bc bd).f1) ≤ a2) = true := decide_eq_true c8
 clear c8
 by_cases c9 : a2 < bh
 case neg =>
  rw [if_neg c9] at H
  have dW : decide (a2 < bh) = false := decide_eq_false c9
  clear c9
  obtain rfl := Option.some.inj H
  go_enter Tryd.func29, Tryd.ntmps29
  go_wp2_with (first | ((with_reducible refine gate_dst (N := 3) rfl ?_); refine box_event ?hg (N := 3) ?hd (cs := #[.int .u64 bk, .int .u64 bh, .slice bm bc.length bl]) (t := 57) ?hr ?_; (case hd => rfl); (case hg => rfl); (case hr => first | (go_simp; done) | (go_simp; rfl)); intro bb hg w17 hbox hb; have ba := Aside0.mk (hbox); have bO := Aside0.mk ((by rw [hg]; exact (below_size zx17_0) : w.heap.size ≤ bb)); have bB := Aside0.mk ((by rw [hg]; exact (below_size zx17_0) : w.heap.size ≤ bb)); replace HB := Aside0.mk (below_step zx17_0 hb); clear hb hbox hg; have dC : w17.cell? ⟨bb, 0, none⟩ = some (.int .u64 bk) := (blk_cell ba.out 0).trans rfl; have dB : w17.cell? ⟨bb, 1, none⟩ = some (.int .u64 bh) := (blk_cell ba.out 1).trans rfl; have dA : w17.cell? ⟨bb, 2, none⟩ = some (.slice bm bc.length bl) := (blk_cell ba.out 2).trans rfl; have dg := blk_frozen ba.out 0; have df := blk_frozen ba.out 1; have de := blk_frozen ba.out 2) | (go_at_call 46; (with_reducible refine (postroomref10_place.calls k bk bh _ _ bc a1 bd _ ?side1 ?side2 A4.out).mono ?_); (case side1 => repeat (first | exact (Kd.C_below bn.out HB.out) | (with_reducible refine Kd.C_alloc ?_ _) | (with_reducible refine Kd.C_drewN ?_ _) | (with_reducible refine Kd.C_drew ?_))); (case side2 => exact bL.out); rintro e w19 ⟨rfl, hb⟩; replace ba := Aside0.mk (blk_below (g := bb) (o := .cells #[.int .u64 bk, .int .u64 bh, .slice bm bc.length bl] 57 (0, 0)) zx17_3 hb); replace HB := Aside0.mk (below_step zx17_1 hb); (try clear hb); (try clear hb2); (try clear hk); (try clear hi); have dz : w19.cell? ⟨bb, 0, none⟩ = some (.int .u64 bk) := (blk_cell ba.out 0).trans rfl; have dy : w19.cell? ⟨bb, 1, none⟩ = some (.int .u64 bh) := (blk_cell ba.out 1).trans rfl; have dx : w19.cell? ⟨bb, 2, none⟩ = some (.slice bm bc.length bl) := (blk_cell ba.out 2).trans rfl; have dd := blk_frozen ba.out 0; have dc := blk_frozen ba.out 1; have db := blk_frozen ba.out 2; have br : 0 ≤ (bd : Int) := of_decide_eq_true zx17_2; have bq : bd < (bc.length : Int) := of_decide_eq_true zx17_2; obtain ⟨bH, bP, bN, bM, bg, bf, be, bi, bj⟩ := at_T84 bn.out bd br bq; cases bM; replace bg := (HB.out.cell (World.block_lt_of_cell? w _ bg)).trans bg; replace bf := (HB.out.cell (World.block_lt_of_cell? w _ bf)).trans bf; replace be := (HB.out.cell (World.block_lt_of_cell? w _ be)).trans be; have bI := Aside0.mk bj; have bJ := Aside0.mk bi; clear bj bi; replace br := eq_true br; replace bq := eq_true bq))
  repeat (go_quiet (fail); try go_wp2_with (fail))
  go_ret
  exact ⟨by first | rfl | (simp [errW_none, errW_some] <;> rfl) | (simp [*, errW_none, errW_some] <;> rfl), by repeat (first | (with_reducible first | exact HB.out | apply below_alloc | apply pw_below_drewN | apply below_drew1 | refine below_set ?_ bB.out) | exact HB.out)⟩
 rw [if_pos c9] at H
 have dW : decide (a2 < bh) = true := decide_eq_true c9
 clear c9
 obtain ⟨bQ, b1⟩ : ∃ j_ : Int, (IntKind.u64.wrap (a2 - ((rd_T84 bc bd).f1))) = j_ := ⟨_, rfl⟩
 replace H : (if 0 ≤ (bQ) then (if (bQ) < (((rd_T84 bc bd).f2).length : Int) then (some ((rd ((rd_T84 bc bd).f2) (bQ)) == 112)) else (none)) else (none)) = some r := by first | (rw [b1] at H; exact H) | (simp only [b1] at H ⊢; exact H)
 (try rw [b1] at A4)
 by_cases c11 : 0 ≤ (bQ)
 case neg =>
  rw [if_neg c11] at H
  exact absurd H (by simp)
 rw [if_pos c11] at H
 have d0 : decide (0 ≤ (bQ)) = true := decide_eq_true c11
 clear c11
 by_cases c12 : (bQ) < (((rd_T84 bc bd).f2).length : Int)
 case neg =>
  rw [if_neg c12] at H
  exact absurd H (by simp)
 rw [if_pos c12] at H
 have dZ : decide ((bQ) < (((rd_T84 bc bd).f2).length : Int)) = true := decide_eq_true c12
 clear c12
 obtain rfl := Option.some.inj H
 go_enter Tryd.func29, Tryd.ntmps29
 go_wp2_with (first | ((with_reducible refine gate_dst (N := 3) rfl ?_); refine box_event ?hg (N := 3) ?hd (cs := #[.int .u64 bk, .int .u64 bh, .slice bm bc.length bl]) (t := 57) ?hr ?_; (case hd => rfl); (case hg => rfl); (case hr => first | (go_simp; done) | (go_simp; rfl)); intro bb hg w13 hbox hb; have ba := Aside0.mk (hbox); have bO := Aside0.mk ((by rw [hg]; exact (below_size zx17_0) : w.heap.size ≤ bb)); have bB := Aside0.mk ((by rw [hg]; exact (below_size zx17_0) : w.heap.size ≤ bb)); replace HB := Aside0.mk (below_step zx17_0 hb); clear hb hbox hg; have dI : w13.cell? ⟨bb, 0, none⟩ = some (.int .u64 bk) := (blk_cell ba.out 0).trans rfl; have dH : w13.cell? ⟨bb, 1, none⟩ = some (.int .u64 bh) := (blk_cell ba.out 1).trans rfl; have dG : w13.cell? ⟨bb, 2, none⟩ = some (.slice bm bc.length bl) := (blk_cell ba.out 2).trans rfl; have dm := blk_frozen ba.out 0; have dl := blk_frozen ba.out 1; have dk := blk_frozen ba.out 2) | (go_at_call 46; (with_reducible refine (postroomref10_place.calls k bk bh _ _ bc a1 bd _ ?side1 ?side2 A4.out).mono ?_); (case side1 => repeat (first | exact (Kd.C_below bn.out HB.out) | (with_reducible refine Kd.C_alloc ?_ _) | (with_reducible refine Kd.C_drewN ?_ _) | (with_reducible refine Kd.C_drew ?_))); (case side2 => exact bL.out); rintro e w15 ⟨rfl, hb⟩; replace ba := Aside0.mk (blk_below (g := bb) (o := .cells #[.int .u64 bk, .int .u64 bh, .slice bm bc.length bl] 57 (0, 0)) zx17_3 hb); replace HB := Aside0.mk (below_step zx17_1 hb); (try clear hb); (try clear hb2); (try clear hk); (try clear hi); have dF : w15.cell? ⟨bb, 0, none⟩ = some (.int .u64 bk) := (blk_cell ba.out 0).trans rfl; have dE : w15.cell? ⟨bb, 1, none⟩ = some (.int .u64 bh) := (blk_cell ba.out 1).trans rfl; have dD : w15.cell? ⟨bb, 2, none⟩ = some (.slice bm bc.length bl) := (blk_cell ba.out 2).trans rfl; have dj := blk_frozen ba.out 0; have di := blk_frozen ba.out 1; have dh := blk_frozen ba.out 2; have br : 0 ≤ (bd : Int) := of_decide_eq_true zx17_2; have bq : bd < (bc.length : Int) := of_decide_eq_true zx17_2; obtain ⟨bH, bP, bN, bM, bg, bf, be, bi, bj⟩ := at_T84 bn.out bd br bq; cases bM; replace bg := (HB.out.cell (World.block_lt_of_cell? w _ bg)).trans bg; replace bf := (HB.out.cell (World.block_lt_of_cell? w _ bf)).trans bf; replace be := (HB.out.cell (World.block_lt_of_cell? w _ be)).trans be; have bI := Aside0.mk bj; have bJ := Aside0.mk bi; clear bj bi; replace br := eq_true br; replace bq := eq_true bq; have bY : 0 ≤ (bd : Int) := of_decide_eq_true zx17_2; have bV : bd < (bc.length : Int) := of_decide_eq_true zx17_2; obtain ⟨b0, dS, dQ, dO, bA, bz, bp, bD, bG⟩ := at_T84 bn.out bd bY bV; obtain rfl : bH = b0 := (by injection dO); replace bA := (HB.out.cell (World.block_lt_of_cell? w _ bA)).trans bA; replace bz := (HB.out.cell (World.block_lt_of_cell? w _ bz)).trans bz; replace bp := (HB.out.cell (World.block_lt_of_cell? w _ bp)).trans bp; have bR := Aside0.mk bG; have dL := Aside0.mk bD; clear bG bD; replace bY := eq_true bY; replace bV := eq_true bV; have ea_ := Option.some.inj (be.symm.trans bp); injection ea_ with ea_ en_ ec_; subst ea_; subst ec_; clear en_; have bX : 0 ≤ (bd : Int) := of_decide_eq_true zx17_2; have bU : bd < (bc.length : Int) := of_decide_eq_true zx17_2; obtain ⟨bZ, dR, dP, dN, bx, bw, bo, bC, bE⟩ := at_T84 bn.out bd bX bU; obtain rfl : bH = bZ := (by injection dN); replace bx := (HB.out.cell (World.block_lt_of_cell? w _ bx)).trans bx; replace bw := (HB.out.cell (World.block_lt_of_cell? w _ bw)).trans bw; replace bo := (HB.out.cell (World.block_lt_of_cell? w _ bo)).trans bo; have dJ := Aside0.mk bE; have dK := Aside0.mk bC; clear bE bC; replace bX := eq_true bX; replace bU := eq_true bU; have ea_ := Option.some.inj (be.symm.trans bo); injection ea_ with ea_ en_ ec_; subst ea_; subst ec_; clear en_; have bW : 0 ≤ ((bQ) : Int) := of_decide_eq_true zx17_2; have bS : (bQ) < (((rd_T84 bc bd).f2).length : Int) := of_decide_eq_true zx17_2; obtain ⟨dV, dM, bu⟩ := Kd.at_int bR.out (bQ) bW bS; cases dM; replace bu := (HB.out.cell (World.block_lt_of_cell? w _ bu)).trans bu; replace bW := eq_true bW; replace bS := eq_true bS))
 repeat (go_quiet (fail); try go_wp2_with (fail))
 go_ret
 exact ⟨by first | rfl | (simp [errW_none, errW_some] <;> rfl) | (simp only [← b1]; first | rfl | (simp [errW_none, errW_some] <;> rfl)) | (simp [*, errW_none, errW_some] <;> rfl), by repeat (first | (with_reducible first | exact HB.out | apply below_alloc | apply pw_below_drewN | apply below_drew1 | refine below_set ?_ bB.out) | exact HB.out)⟩
end Go.Proofs.YthhmpjapnkilcaaDoor.XLdg
end
section
/- What the functions of the translation answer, each as a plain Lean function, and that the code comes to it; for a law: its row. Conditions: none but those that each theorem names. Written by a program of this session (wip/xp). -/
namespace Go.Proofs.YthhmpjapnkilcaaDoor.XLdg
open Go.RowKit Go.Proofs.YthhmpjapnkilcaaDoorW.PrintWords Go.Proofs.YthhmpjapnkilcaaDoorW.PrintLast Go.Proofs.YthhmpjapnkilcaaDoorW.PrintMore
attribute [local go_sem] max2_int min2_int max_two min_two max_three min_three max_four min_four   -- for this text's walks alone
theorem cx18_bc3 {w : World} {g : Nat} {t : TypeId} {x0 x1 x2 : Value} (h : w.heap[g]? = some (.cells #[x0, x1, x2] t (0, 0))) : w.cell? ⟨g, 0, none⟩ = some x0 ∧ w.cell? ⟨g, 1, none⟩ = some x1 ∧ w.cell? ⟨g, 2, none⟩ = some x2 ∧ w.frozen? ⟨g, 0, none⟩ = false ∧ w.frozen? ⟨g, 1, none⟩ = false ∧ w.frozen? ⟨g, 2, none⟩ = false :=
 ⟨(blk_cell h 0).trans rfl, (blk_cell h 1).trans rfl, (blk_cell h 2).trans rfl, blk_frozen h 0, blk_frozen h 1, blk_frozen h 2⟩
theorem zx18_7 {p : Prop} (h : p := by first | (with_reducible assumption) | assumption) : p := h
theorem zx18_1 {p : Prop} (h : p := by (with_reducible repeat (first | refine blk_drewN ?_ _ | refine blk_drew ?_ | refine blk_alloc ?_ _)); exact bc.out) : p := h
theorem zx18_4 {p : Prop} (h : p := by (with_reducible repeat (first | refine blk_drewN ?_ _ | refine blk_drew ?_ | refine blk_alloc ?_ _)); exact be.out) : p := h
theorem zx18_5 {p : Prop} (h : p := by repeat (first | (with_reducible first | exact HB.out | apply below_alloc | apply pw_below_drewN | apply below_drew1) | exact HB.out)) : p := h
theorem zx18_6 {p : Prop} (h : p := by (try simp only [List.map_toArray, List.map_cons, List.map_nil]); first | done | rfl | (simp only [List.length_drop, List.length_take]; rfl)) : p := h
theorem zx18_3 {p : Prop} (h : p := by repeat (first | (with_reducible first | exact HB.out | apply below_alloc | apply pw_below_drewN | apply below_drew1 | refine below_set ?_ bz.out) | exact HB.out)) : p := h
theorem zx18_0 {p : Prop} (h : p := by repeat (first | (with_reducible first | exact HB.out | apply below_alloc | apply pw_below_drewN | apply below_drew1 | refine below_set ?_ bz.out | refine below_set ?_ bB.out) | exact HB.out)) : p := h
theorem zx18_2 {p : Prop} (h : p := by (with_reducible repeat (first | refine blk_drewN ?_ _ | refine blk_drew ?_ | refine blk_alloc ?_ _)); refine blk_put (cs := #[.int .u64 0, .int .u64 0, .slice none 0 0]) ?_ 2 _ rfl; (with_reducible repeat (first | refine blk_drewN ?_ _ | refine blk_drew ?_ | refine blk_alloc ?_ _)); refine blk_put (cs := #[.int .u64 0, .int .u64 0, .slice none 0 0]) ?_ 1 _ rfl; (with_reducible repeat (first | refine blk_drewN ?_ _ | refine blk_drew ?_ | refine blk_alloc ?_ _)); refine blk_put (cs := #[.int .u64 0, .int .u64 0, .slice none 0 0]) ?_ 0 _ rfl; (with_reducible repeat (first | refine blk_drewN ?_ _ | refine blk_drew ?_ | refine blk_alloc ?_ _)); exact be.out) : p := h
set_option linter.unusedVariables false
set_option linter.unusedSimpArgs false

/-! ### postroomref10_Done: function 43 -/
def postroomref10_Done.j0 : Nat → ByteArray → Int → Int → Int → Bool → Int → Int → List (S84) → Option (Int × Int × (List (S84)) × Int)
 | 0, _, _, _, _, _, _, _, _ => none
 | k + 1, x1, x2, x3, x10, x23, b0, bZ, bY => if x23 = true then (some (0, 0, ([] : List (S84)), 1)) else ((postroomref10_Waits.f k b0 bZ bY x1 x2).bind fun da => (if da = true then ((postroomref10_copied.f k b0 bZ bY).bind fun bb => (if 0 ≤ x10 then (if x10 < (bb.2.2.length : Int) then (if 0 ≤ (IntKind.u64.wrap (x2 - ((rd_T84 bb.2.2 x10).f1))) then (if (IntKind.u64.wrap (x2 - ((rd_T84 bb.2.2 x10).f1))) < (((rd_T84 bb.2.2 x10).f2).length : Int) then (some (bb.1, bb.2.1, (bb.2.2.set (x10 : Int).toNat (⟨(rd_T84 bb.2.2 x10).f0, (rd_T84 bb.2.2 x10).f1, (((rd_T84 bb.2.2 x10).f2).set ((IntKind.u64.wrap (x2 - ((rd_T84 bb.2.2 x10).f1))) : Int).toNat x3)⟩ : S84)), 0)) else (none)) else (none)) else (none)) else (none))) else (some (0, 0, ([] : List (S84)), 13))))
def postroomref10_Done.f (k : Nat) (bk : Int) (bj : Int) (bi : List (S84)) (a1 : ByteArray) (a2 : Int) (a3 : Int) : Option (Int × Int × (List (S84)) × Int) := (postroomref10_place.f k bk bj bi a1).bind fun ba => (if ba < 0 then (some (0, 0, ([] : List (S84)), 5)) else (if a3 = 97 then (postroomref10_Done.j0 k a1 a2 a3 ba false bk bj bi) else (postroomref10_Done.j0 k a1 a2 a3 ba (a3 != 114) bk bj bi)))
def postroomref10_Done.T9 : Bool × List (List Nat × List Nat) := (true, [([], []), ([0], [0]), ([], []), ([1, 2], [1, 2]), ([3], [3]), ([4], [4]), ([], []), ([], []), ([7], [7]), ([], []), ([8, 9], [8, 9]), ([10], [10]), ([11], [11]), ([6, 12], [6, 12]), ([], []), ([5, 13, 0, 1, 2, 3, 4, 5, 6, 7, 8, 9, 10, 11, 12, 13, 14], [5, 13]), ([15, 14, 0, 1, 2, 3, 4, 5, 6, 7, 8, 9, 10, 11, 12, 13, 14], [14, 15])])
def postroomref10_Done.B9 : List Nat := [0, 1, 0, 7, 15, 31, 0, 0, 128, 0, 896, 1920, 3968, 8128, 0, 32767, 65535]
theorem postroomref10_Done.tab9 : rtab .any (opsOf Tryd.f43 9) = postroomref10_Done.T9 := by kernel_rfl
theorem postroomref10_Done.bits9 : waitsOk postroomref10_Done.T9.2 postroomref10_Done.B9 = true := by kernel_rfl
set_option maxHeartbeats 8000000 in
set_option maxRecDepth 100000 in
theorem postroomref10_Done.calls (k : Nat) (bk : Int) (bj : Int) (bo : Option Addr) (bn : Nat) (bi : List (S84)) (a1 : ByteArray) (a2 : Int) (a3 : Int) (r1 : Int) (r2 : Int) (r3 : List (S84)) (r4 : Int) (w : World) (dM : Kd.C k84 w bo bi.length bi) (dO : bi.length ≤ bn) (h : postroomref10_Done.f k bk bj bi a1 a2 a3 = some (r1, r2, r3, r4)) :
  Calls Tryd.prog 43 #[.agg #[.int .u64 bk, .int .u64 bj, .slice bo bi.length bn], .string a1, .int .u64 a2, .int .u8 a3] w fun e w' => ∃ v2_ : Value, e = .returned (.tuple #[.agg #[.int .u64 r1, .int .u64 r2, v2_], .int .i64 r4]) ∧ Kd.S k84 84 w' w.heap.size (fun _ => True) v2_ r3 ∧ Below w.heap.size w w' := by
 have hT := Tryd.underlying57
 have bV := Aside0.mk dM
 have bW := Aside0.mk dO
 clear dM dO
 have HB := Aside0.mk (Below.refl w.heap.size w)
 have H : ((postroomref10_place.f k bk bj bi a1).bind fun ba => (if ba < 0 then (some (0, 0, ([] : List (S84)), 5)) else (if a3 = 97 then (postroomref10_Done.j0 k a1 a2 a3 ba false bk bj bi) else (postroomref10_Done.j0 k a1 a2 a3 ba (a3 != 114) bk bj bi)))) = some (r1, r2, r3, r4) := h
 clear h
 replace H := Option.bind_eq_some_iff.mp H
 obtain ⟨ba, A50, H⟩ := H
 replace H : (if ba < 0 then (some (0, 0, ([] : List (S84)), 5)) else (if a3 = 97 then (postroomref10_Done.j0 k a1 a2 a3 ba false bk bj bi) else (postroomref10_Done.j0 k a1 a2 a3 ba (a3 != 114) bk bj bi))) = some (r1, r2, r3, r4) := H
 have A5 := Aside0.mk A50
 clear A50
 by_cases c6 : ba < 0
 ·rw [if_pos c6] at H
  have d4 : decide (ba < 0) = true := decide_eq_true c6
  clear c6
  simp only [Option.some.injEq, Prod.mk.injEq] at H
  obtain ⟨rfl, rfl, rfl, rfl⟩ := H
  go_enter Tryd.func43, Tryd.ntmps43
  go_wp2_with (first | ((with_reducible refine gate_dst (N := 4) rfl ?_); refine box_event ?hg (N := 4) ?hd (cs := #[.int .u64 bk, .int .u64 bj, .slice bo bi.length bn]) (t := 57) ?hr ?_; (case hd => rfl); (case hg => rfl); (case hr => first | (go_simp; done) | (go_simp; rfl)); intro bf hg w7 hbox hb; have bc := Aside0.mk (hbox); have gb := Aside0.mk ((by rw [hg]; exact (below_size zx18_5) : w.heap.size ≤ bf)); have bz := Aside0.mk ((by rw [hg]; exact (below_size zx18_5) : w.heap.size ≤ bf)); replace HB := Aside0.mk (below_step zx18_5 hb); clear hb hbox hg) | ((with_reducible refine gate_dst (N := 8) rfl ?_); refine box_event ?hg (N := 8) ?hd (cs := #[.int .u64 0, .int .u64 0, .slice none 0 0]) (t := 57) ?hr ?_; (case hd => rfl); (case hg => rfl); (case hr => first | (go_simp; done) | (go_simp; rfl)); intro bh hg w8 hbox hb; have be := Aside0.mk (hbox); have ga := Aside0.mk ((by rw [hg]; exact (below_size zx18_3) : w.heap.size ≤ bh)); have bB := Aside0.mk ((by rw [hg]; exact (below_size zx18_3) : w.heap.size ≤ bh)); replace HB := Aside0.mk (below_step zx18_3 hb); have br := Aside0.mk ((by rw [hg]; exact Nat.ne_of_lt (blk_lt (g := bf) (o := .cells #[.int .u64 bk, .int .u64 bj, .slice bo bi.length bn] 57 (0, 0)) zx18_1) : bf ≠ bh)); have bq := Aside0.mk ((by rw [hg]; exact Nat.ne_of_gt (blk_lt (g := bf) (o := .cells #[.int .u64 bk, .int .u64 bj, .slice bo bi.length bn] 57 (0, 0)) zx18_1) : bh ≠ bf)); replace bc := Aside0.mk (blk_below (g := bf) (o := .cells #[.int .u64 bk, .int .u64 bj, .slice bo bi.length bn] 57 (0, 0)) zx18_1 hb); clear hb hbox hg; have hV := br.out; have hU := bq.out; have dG : w8.cell? ⟨bf, 0, none⟩ = some (.int .u64 bk) := (blk_cell bc.out 0).trans rfl; have dF : w8.cell? ⟨bf, 1, none⟩ = some (.int .u64 bj) := (blk_cell bc.out 1).trans rfl; have dE : w8.cell? ⟨bf, 2, none⟩ = some (.slice bo bi.length bn) := (blk_cell bc.out 2).trans rfl; have dx := blk_frozen bc.out 0; have dw := blk_frozen bc.out 1; have dv := blk_frozen bc.out 2) | ((with_reducible refine gate_callee (f := 46) rfl ?_); refine goesL_ (some 14) rfl rfl Tryd.func46 (by kernel_rfl) rfl #[.agg #[.int .u64 bk, .int .u64 bj, .slice bo bi.length bn], .string a1] rfl zx18_6 ?_; (with_reducible refine (postroomref10_place.calls k bk bj _ _ bi a1 ba _ ?side1 ?side2 A5.out).mono ?_); (case side1 => repeat (first | exact (Kd.C_below bV.out HB.out) | (with_reducible refine Kd.C_alloc ?_ _) | (with_reducible refine Kd.C_drewN ?_ _) | (with_reducible refine Kd.C_drew ?_))); (case side2 => exact bW.out); rintro e w11 ⟨rfl, hb⟩; refine ⟨_, rfl, ?_⟩; replace bc := Aside0.mk (blk_below (g := bf) (o := .cells #[.int .u64 bk, .int .u64 bj, .slice bo bi.length bn] 57 (0, 0)) zx18_1 hb); replace be := Aside0.mk (blk_below (g := bh) (o := .cells #[.int .u64 0, .int .u64 0, .slice none 0 0] 57 (0, 0)) zx18_4 hb); replace HB := Aside0.mk (below_step zx18_0 hb); (try clear hb); (try clear hb2); (try clear hk); (try clear hi); have dD : w11.cell? ⟨bh, 0, none⟩ = some (.int .u64 0) := (blk_cell be.out 0).trans rfl; have dC : w11.cell? ⟨bh, 1, none⟩ = some (.int .u64 0) := (blk_cell be.out 1).trans rfl; have dB : w11.cell? ⟨bh, 2, none⟩ = some (.slice none 0 0) := (blk_cell be.out 2).trans rfl; have du := blk_frozen be.out 0; have dt := blk_frozen be.out 1; have dr := blk_frozen be.out 2))
  refine bodyPost_ret (results_ct rfl _ _ bh 57 #[.int .u64 0, .int .u64 0, .slice none 0 0] (0, 0) _ rfl zx18_2 Tryd.underlying57 rfl (by kernel_rfl)) rfl ?_
  exact ⟨_, by first | rfl | (simp [errW_none, errW_some] <;> rfl) | (simp [*, errW_none, errW_some] <;> rfl), by first | exact Kd.S_nil _ _ _ _ _ | exact Kd.N_nil _ _ _ _ _ | exact Kd.V_nil _ _ _ _ _ | exact Kd.Q_nil _ _ _ _ _ | exact Kd.R_nil _ _ _ _ _, by repeat (first | (with_reducible first | exact HB.out | apply below_alloc | apply pw_below_drewN | apply below_drew1 | refine below_set ?_ bz.out | refine below_set ?_ bB.out) | exact HB.out)⟩
 rw [if_neg c6] at H
 have d4 : decide (ba < 0) = false := decide_eq_false c6
 clear c6
 have dY := Aside0.mk H
 clear H
 go_enter Tryd.func43, Tryd.ntmps43
 go_upto_region 4 with (first | ((with_reducible refine gate_dst (N := 4) rfl ?_); refine box_event ?hg (N := 4) ?hd (cs := #[.int .u64 bk, .int .u64 bj, .slice bo bi.length bn]) (t := 57) ?hr ?_; (case hd => rfl); (case hg => rfl); (case hr => first | (go_simp; done) | (go_simp; rfl)); intro bf hg w14 hbox hb; have bc := Aside0.mk (hbox); have gb := Aside0.mk ((by rw [hg]; exact (below_size zx18_5) : w.heap.size ≤ bf)); have bz := Aside0.mk ((by rw [hg]; exact (below_size zx18_5) : w.heap.size ≤ bf)); replace HB := Aside0.mk (below_step zx18_5 hb); clear hb hbox hg) | ((with_reducible refine gate_dst (N := 8) rfl ?_); refine box_event ?hg (N := 8) ?hd (cs := #[.int .u64 0, .int .u64 0, .slice none 0 0]) (t := 57) ?hr ?_; (case hd => rfl); (case hg => rfl); (case hr => first | (go_simp; done) | (go_simp; rfl)); intro bh hg w15 hbox hb; have be := Aside0.mk (hbox); have ga := Aside0.mk ((by rw [hg]; exact (below_size zx18_3) : w.heap.size ≤ bh)); have bB := Aside0.mk ((by rw [hg]; exact (below_size zx18_3) : w.heap.size ≤ bh)); replace HB := Aside0.mk (below_step zx18_3 hb); have br := Aside0.mk ((by rw [hg]; exact Nat.ne_of_lt (blk_lt (g := bf) (o := .cells #[.int .u64 bk, .int .u64 bj, .slice bo bi.length bn] 57 (0, 0)) zx18_1) : bf ≠ bh)); have bq := Aside0.mk ((by rw [hg]; exact Nat.ne_of_gt (blk_lt (g := bf) (o := .cells #[.int .u64 bk, .int .u64 bj, .slice bo bi.length bn] 57 (0, 0)) zx18_1) : bh ≠ bf)); replace bc := Aside0.mk (blk_below (g := bf) (o := .cells #[.int .u64 bk, .int .u64 bj, .slice bo bi.length bn] 57 (0, 0)) zx18_1 hb); clear hb hbox hg; have hJ := br.out; have hD := bq.out; have dA : w15.cell? ⟨bf, 0, none⟩ = some (.int .u64 bk) := (blk_cell bc.out 0).trans rfl; have dz : w15.cell? ⟨bf, 1, none⟩ = some (.int .u64 bj) := (blk_cell bc.out 1).trans rfl; have dy : w15.cell? ⟨bf, 2, none⟩ = some (.slice bo bi.length bn) := (blk_cell bc.out 2).trans rfl; have dq := blk_frozen bc.out 0; have dp := blk_frozen bc.out 1; have dn := blk_frozen bc.out 2) | ((with_reducible refine gate_callee (f := 46) rfl ?_); refine goesL_ (some 14) rfl rfl Tryd.func46 (by kernel_rfl) rfl #[.agg #[.int .u64 bk, .int .u64 bj, .slice bo bi.length bn], .string a1] rfl zx18_6 ?_; (with_reducible refine (postroomref10_place.calls k bk bj _ _ bi a1 ba _ ?side1 ?side2 A5.out).mono ?_); (case side1 => repeat (first | exact (Kd.C_below bV.out HB.out) | (with_reducible refine Kd.C_alloc ?_ _) | (with_reducible refine Kd.C_drewN ?_ _) | (with_reducible refine Kd.C_drew ?_))); (case side2 => exact bW.out); rintro e w18 ⟨rfl, hb⟩; refine ⟨_, rfl, ?_⟩; replace bc := Aside0.mk (blk_below (g := bf) (o := .cells #[.int .u64 bk, .int .u64 bj, .slice bo bi.length bn] 57 (0, 0)) zx18_1 hb); replace be := Aside0.mk (blk_below (g := bh) (o := .cells #[.int .u64 0, .int .u64 0, .slice none 0 0] 57 (0, 0)) zx18_4 hb); replace HB := Aside0.mk (below_step zx18_0 hb); (try clear hb); (try clear hb2); (try clear hk); (try clear hi)))
 (try simp only [Act.put, List.setIfInBounds_toArray, List.set_cons_zero, List.set_cons_succ])
 go_cut [23] (fun v23 wc => ∃ (kq : Nat) (bL : Bool), v23 = .bool bL ∧ Aside0 (postroomref10_Done.j0 kq a1 a2 a3 ba bL bk bj bi = some (r1, r2, r3, r4)) ∧ Aside0 (kq ≤ k) ∧ Aside0 (wc.heap[bf]? = some (.cells #[.int .u64 bk, .int .u64 bj, (.slice bo bi.length bn)] 57 (0, 0))) ∧ Aside0 (wc.heap[bh]? = some (.cells #[.int .u64 0, .int .u64 0, (.slice none 0 0)] 57 (0, 0))) ∧ Aside0 (Below w.heap.size w wc))
 case first =>
  have H := dY.out
  clear dY
  by_cases c19 : a3 = 97
  case neg =>
   rw [if_neg c19] at H
   have bI : (a3 == 97) = false := beq_eq_false_iff_ne.mpr c19
   have dQ : (a3 != 97) = true := bne_iff_ne.mpr c19
   (first | rw [bI] | (simp only [i64_w, i32_w]; rw [bI]) | skip)
   have H' := Aside0.mk H
   clear H
   go_wp2
   go_meet
   case rel => exact ⟨_, ((a3 != 114)), (by first | rfl | (simp; done) | (simp [*]; done)), H', ⟨by first | omega | exact Nat.le_refl _⟩, ⟨by (with_reducible repeat (first | refine blk_drewN ?_ _ | refine blk_drew ?_ | refine blk_alloc ?_ _)); exact bc.out⟩, ⟨by (with_reducible repeat (first | refine blk_drewN ?_ _ | refine blk_drew ?_ | refine blk_alloc ?_ _)); exact be.out⟩, ⟨by repeat (first | (with_reducible first | exact HB.out | apply below_alloc | apply pw_below_drewN | apply below_drew1 | refine below_set ?_ bz.out | refine below_set ?_ bB.out) | exact HB.out)⟩⟩
  rw [if_pos c19] at H
  have bI : (a3 == 97) = true := beq_iff_eq.mpr c19
  have dQ : (a3 != 97) = false := bne_eq_false_iff_eq.mpr c19
  clear c19
  (first | rw [bI] | (simp only [i64_w, i32_w]; rw [bI]) | skip)
  have H' := Aside0.mk H
  clear H
  go_wp2
  go_meet
  case rel => exact ⟨_, (false), (by first | rfl | (simp; done) | (simp [*]; done)), H', ⟨by first | omega | exact Nat.le_refl _⟩, ⟨by (with_reducible repeat (first | refine blk_drewN ?_ _ | refine blk_drew ?_ | refine blk_alloc ?_ _)); exact bc.out⟩, ⟨by (with_reducible repeat (first | refine blk_drewN ?_ _ | refine blk_drew ?_ | refine blk_alloc ?_ _)); exact be.out⟩, ⟨by repeat (first | (with_reducible first | exact HB.out | apply below_alloc | apply pw_below_drewN | apply below_drew1 | refine below_set ?_ bz.out | refine below_set ?_ bB.out) | exact HB.out)⟩⟩
 case rest =>
  clear dY
  (try clear c1); (try clear p2); (try clear c4); (try clear c6); (try clear d4); (try clear c9); (try clear c16); (try clear c19); (try clear bI); (try clear dQ); (try clear dG); (try clear dF); (try clear dE); (try clear dD); (try clear dC); (try clear dB); (try clear dA); (try clear dz); (try clear dy); (try clear dx); (try clear dw); (try clear dv); (try clear du); (try clear dt); (try clear dr); (try clear dq); (try clear dp); (try clear dn)
  obtain ⟨kq, bL, rfl, HA, hZ, bc, be, HB⟩ := hcut
  cases kq with
  | zero => exact absurd HA.out (by simp [postroomref10_Done.j0])
  | succ bX => ?_
  have H := HA.out
  clear HA
  simp only [postroomref10_Done.j0] at H
  by_cases c20 : bL = true
  ·subst c20
   have H1 : (some (0, 0, ([] : List (S84)), 1)) = some (r1, r2, r3, r4) := by rw [if_pos rfl] at H; exact H
   clear H
   have H := H1
   clear H1
   simp only [Option.some.injEq, Prod.mk.injEq] at H
   obtain ⟨rfl, rfl, rfl, rfl⟩ := H
   have hI := bq.out
   have hC := br.out
   obtain ⟨he, hc, ha, gE, gD, gC⟩ := cx18_bc3 be.out
   go_wp2
   refine bodyPost_ret (results_ct rfl _ _ bh 57 #[.int .u64 0, .int .u64 0, .slice none 0 0] (0, 0) _ rfl zx18_2 Tryd.underlying57 rfl (by kernel_rfl)) rfl ?_
   exact ⟨_, by first | rfl | (simp [errW_none, errW_some] <;> rfl) | (simp [*, errW_none, errW_some] <;> rfl), by first | exact Kd.S_nil _ _ _ _ _ | exact Kd.N_nil _ _ _ _ _ | exact Kd.V_nil _ _ _ _ _ | exact Kd.Q_nil _ _ _ _ _ | exact Kd.R_nil _ _ _ _ _, by repeat (first | (with_reducible first | exact HB.out | apply below_alloc | apply pw_below_drewN | apply below_drew1 | refine below_set ?_ bz.out | refine below_set ?_ bB.out) | exact HB.out)⟩
  replace c20 := Bool.eq_false_iff.mpr c20
  subst c20
  have H1 : ((postroomref10_Waits.f bX bk bj bi a1 a2).bind fun da => (if da = true then ((postroomref10_copied.f bX bk bj bi).bind fun bb => (if 0 ≤ ba then (if ba < (bb.2.2.length : Int) then (if 0 ≤ (IntKind.u64.wrap (a2 - ((rd_T84 bb.2.2 ba).f1))) then (if (IntKind.u64.wrap (a2 - ((rd_T84 bb.2.2 ba).f1))) < (((rd_T84 bb.2.2 ba).f2).length : Int) then (some (bb.1, bb.2.1, (bb.2.2.set (ba : Int).toNat (⟨(rd_T84 bb.2.2 ba).f0, (rd_T84 bb.2.2 ba).f1, (((rd_T84 bb.2.2 ba).f2).set ((IntKind.u64.wrap (a2 - ((rd_T84 bb.2.2 ba).f1))) : Int).toNat a3)⟩ : S84)), 0)) else (none)) else (none)) else (none)) else (none))) else (some (0, 0, ([] : List (S84)), 13)))) = some (r1, r2, r3, r4) := by rw [if_neg (show ¬ (false = true) by decide)] at H; exact H
  clear H
  have H := H1
  clear H1
  replace H := Option.bind_eq_some_iff.mp H
  obtain ⟨da, ge, H⟩ := H
  replace H : (if da = true then ((postroomref10_copied.f bX bk bj bi).bind fun bb => (if 0 ≤ ba then (if ba < (bb.2.2.length : Int) then (if 0 ≤ (IntKind.u64.wrap (a2 - ((rd_T84 bb.2.2 ba).f1))) then (if (IntKind.u64.wrap (a2 - ((rd_T84 bb.2.2 ba).f1))) < (((rd_T84 bb.2.2 ba).f2).length : Int) then (some (bb.1, bb.2.1, (bb.2.2.set (ba : Int).toNat (⟨(rd_T84 bb.2.2 ba).f0, (rd_T84 bb.2.2 ba).f1, (((rd_T84 bb.2.2 ba).f2).set ((IntKind.u64.wrap (a2 - ((rd_T84 bb.2.2 ba).f1))) : Int).toNat a3)⟩ : S84)), 0)) else (none)) else (none)) else (none)) else (none))) else (some (0, 0, ([] : List (S84)), 13))) = some (r1, r2, r3, r4) := H
  have A23 := Aside0.mk ge
  clear ge
  by_cases c24 : da = true
  case neg =>
   replace c24 := Bool.eq_false_iff.mpr c24
   subst c24
   have H1 : (some (0, 0, ([] : List (S84)), 13)) = some (r1, r2, r3, r4) := by rw [if_neg (show ¬ (false = true) by decide)] at H; exact H
   clear H
   have H := H1
   clear H1
   simp only [Option.some.injEq, Prod.mk.injEq] at H
   obtain ⟨rfl, rfl, rfl, rfl⟩ := H
   have hE := br.out
   have hy := bq.out
   obtain ⟨gK, gJ, gI, gm, gl, gk⟩ := cx18_bc3 bc.out
   go_wp2_with (first | ((with_reducible refine gate_callee (f := 29) rfl ?_); refine goesL_ (some 28) rfl rfl Tryd.func29 (by kernel_rfl) rfl #[.agg #[.int .u64 bk, .int .u64 bj, .slice bo bi.length bn], .string a1, .int .u64 a2] rfl zx18_6 ?_; (with_reducible refine (postroomref10_Waits.calls bX bk bj _ _ bi a1 a2 false _ ?side1 ?side2 A23.out).mono ?_); (case side1 => repeat (first | exact (Kd.C_below bV.out HB.out) | (with_reducible refine Kd.C_alloc ?_ _) | (with_reducible refine Kd.C_drewN ?_ _) | (with_reducible refine Kd.C_drew ?_))); (case side2 => exact bW.out); rintro e w51 ⟨rfl, hb⟩; refine ⟨_, rfl, ?_⟩; replace bc := Aside0.mk (blk_below (g := bf) (o := .cells #[.int .u64 bk, .int .u64 bj, .slice bo bi.length bn] 57 (0, 0)) zx18_1 hb); replace be := Aside0.mk (blk_below (g := bh) (o := .cells #[.int .u64 0, .int .u64 0, .slice none 0 0] 57 (0, 0)) zx18_4 hb); replace HB := Aside0.mk (below_step zx18_0 hb); (try clear hb); (try clear hb2); (try clear hk); (try clear hi); have gH : w51.cell? ⟨bh, 0, none⟩ = some (.int .u64 0) := (blk_cell be.out 0).trans rfl; have gG : w51.cell? ⟨bh, 1, none⟩ = some (.int .u64 0) := (blk_cell be.out 1).trans rfl; have gF : w51.cell? ⟨bh, 2, none⟩ = some (.slice none 0 0) := (blk_cell be.out 2).trans rfl; have gj := blk_frozen be.out 0; have gi := blk_frozen be.out 1; have gh := blk_frozen be.out 2))
   refine bodyPost_ret (results_ct rfl _ _ bh 57 #[.int .u64 0, .int .u64 0, .slice none 0 0] (0, 0) _ rfl zx18_2 Tryd.underlying57 rfl (by kernel_rfl)) rfl ?_
   exact ⟨_, by first | rfl | (simp [errW_none, errW_some] <;> rfl) | (simp [*, errW_none, errW_some] <;> rfl), by first | exact Kd.S_nil _ _ _ _ _ | exact Kd.N_nil _ _ _ _ _ | exact Kd.V_nil _ _ _ _ _ | exact Kd.Q_nil _ _ _ _ _ | exact Kd.R_nil _ _ _ _ _, by repeat (first | (with_reducible first | exact HB.out | apply below_alloc | apply pw_below_drewN | apply below_drew1 | refine below_set ?_ bz.out | refine below_set ?_ bB.out) | exact HB.out)⟩

  subst c24
  have H1 : ((postroomref10_copied.f bX bk bj bi).bind fun bb => (if 0 ≤ ba then (if ba < (bb.2.2.length : Int) then (if 0 ≤ (IntKind.u64.wrap (a2 - ((rd_T84 bb.2.2 ba).f1))) then (if (IntKind.u64.wrap (a2 - ((rd_T84 bb.2.2 ba).f1))) < (((rd_T84 bb.2.2 ba).f2).length : Int) then (some (bb.1, bb.2.1, (bb.2.2.set (ba : Int).toNat (⟨(rd_T84 bb.2.2 ba).f0, (rd_T84 bb.2.2 ba).f1, (((rd_T84 bb.2.2 ba).f2).set ((IntKind.u64.wrap (a2 - ((rd_T84 bb.2.2 ba).f1))) : Int).toNat a3)⟩ : S84)), 0)) else (none)) else (none)) else (none)) else (none))) = some (r1, r2, r3, r4) := by rw [if_pos rfl] at H; exact H
  clear H
  have H := H1
  clear H1
  replace H := Option.bind_eq_some_iff.mp H
  obtain ⟨⟨bu, bw, bd⟩, gc, H⟩ := H
  replace H : (if 0 ≤ ba then (if ba < (bd.length : Int) then (if 0 ≤ (IntKind.u64.wrap (a2 - ((rd_T84 bd ba).f1))) then (if (IntKind.u64.wrap (a2 - ((rd_T84 bd ba).f1))) < (((rd_T84 bd ba).f2).length : Int) then (some (bu, bw, (bd.set (ba : Int).toNat (⟨(rd_T84 bd ba).f0, (rd_T84 bd ba).f1, (((rd_T84 bd ba).f2).set ((IntKind.u64.wrap (a2 - ((rd_T84 bd ba).f1))) : Int).toNat a3)⟩ : S84)), 0)) else (none)) else (none)) else (none)) else (none)) = some (r1, r2, r3, r4) := H
  have A25 := Aside0.mk gc
  clear gc
  by_cases c26 : 0 ≤ ba
  case neg =>
   rw [if_neg c26] at H
   exact absurd H (by simp)
  rw [if_pos c26] at H
  have hQ : decide (0 ≤ ba) = true := decide_eq_true c26
  clear c26
  by_cases c27 : ba < (bd.length : Int)
  case neg =>
   rw [if_neg c27] at H
   exact absurd H (by simp)
  rw [if_pos c27] at H
  have hP : decide (ba < (bd.length : Int)) = true := decide_eq_true c27
  clear c27
  obtain ⟨bx, bS⟩ : ∃ j_ : Int, (IntKind.u64.wrap (a2 - ((rd_T84 bd ba).f1))) = j_ := ⟨_, rfl⟩
  replace H : (if 0 ≤ (bx) then (if (bx) < (((rd_T84 bd ba).f2).length : Int) then (some (bu, bw, (bd.set (ba : Int).toNat (⟨(rd_T84 bd ba).f0, (rd_T84 bd ba).f1, (((rd_T84 bd ba).f2).set ((bx) : Int).toNat a3)⟩ : S84)), 0)) else (none)) else (none)) = some (r1, r2, r3, r4) := by first | (rw [bS] at H; exact H) | (simp only [bS] at H ⊢; exact H)
  (try rw [bS] at A23)
  (try rw [bS] at A25)
  by_cases c29 : 0 ≤ (bx)
  case neg =>
   rw [if_neg c29] at H
   exact absurd H (by simp)
  rw [if_pos c29] at H
  have hO : decide (0 ≤ (bx)) = true := decide_eq_true c29
  clear c29
  by_cases c30 : (bx) < (((rd_T84 bd ba).f2).length : Int)
  case neg =>
   rw [if_neg c30] at H
   exact absurd H (by simp)
  rw [if_pos c30] at H
  have hN : decide ((bx) < (((rd_T84 bd ba).f2).length : Int)) = true := decide_eq_true c30
  clear c30
  obtain ⟨dh, bR⟩ : ∃ y_ : List Int, y_ = (((rd_T84 bd ba).f2).set ((bx) : Int).toNat a3) := ⟨_, rfl⟩
  replace H : (some (bu, bw, (bd.set (ba : Int).toNat (⟨(rd_T84 bd ba).f0, (rd_T84 bd ba).f1, dh⟩ : S84)), 0)) = some (r1, r2, r3, r4) := by first | (rw [bR]; with_reducible exact H) | (have H2_ := (Option.bind_some _ _).symm.trans H; rw [bR]; with_reducible exact H2_) | (have H2_ := (Option.bind_some _ _).symm.trans H; with_reducible exact H2_) | with_reducible exact H | (rw [bR]; exact H) | exact H
  have d7 := Aside0.mk bR
  clear bR
  obtain ⟨dZ, bQ⟩ : ∃ y_ : List (S84), y_ = (bd.set (ba : Int).toNat (⟨(rd_T84 bd ba).f0, (rd_T84 bd ba).f1, dh⟩ : S84)) := ⟨_, rfl⟩
  replace H : (some (bu, bw, dZ, 0)) = some (r1, r2, r3, r4) := by first | (rw [bQ]; with_reducible exact H) | (have H2_ := (Option.bind_some _ _).symm.trans H; rw [bQ]; with_reducible exact H2_) | (have H2_ := (Option.bind_some _ _).symm.trans H; with_reducible exact H2_) | with_reducible exact H | (rw [bQ]; exact H) | exact H
  have d6 := Aside0.mk bQ
  clear bQ
  simp only [Option.some.injEq, Prod.mk.injEq] at H
  obtain ⟨rfl, rfl, rfl, rfl⟩ := H
  have hH := br.out
  have hB := bq.out
  obtain ⟨gZ, gY, gX, gB, gA, gz⟩ := cx18_bc3 bc.out
  try go_wp2_with (first | ((with_reducible refine gate_callee (f := 29) rfl ?_); refine goesL_ (some 28) rfl rfl Tryd.func29 (by kernel_rfl) rfl #[.agg #[.int .u64 bk, .int .u64 bj, .slice bo bi.length bn], .string a1, .int .u64 a2] rfl zx18_6 ?_; (with_reducible refine (postroomref10_Waits.calls bX bk bj _ _ bi a1 a2 true _ ?side1 ?side2 A23.out).mono ?_); (case side1 => repeat (first | exact (Kd.C_below bV.out HB.out) | (with_reducible refine Kd.C_alloc ?_ _) | (with_reducible refine Kd.C_drewN ?_ _) | (with_reducible refine Kd.C_drew ?_))); (case side2 => exact bW.out); rintro e w34 ⟨rfl, hb⟩; refine ⟨_, rfl, ?_⟩; replace bc := Aside0.mk (blk_below (g := bf) (o := .cells #[.int .u64 bk, .int .u64 bj, .slice bo bi.length bn] 57 (0, 0)) zx18_1 hb); replace be := Aside0.mk (blk_below (g := bh) (o := .cells #[.int .u64 0, .int .u64 0, .slice none 0 0] 57 (0, 0)) zx18_4 hb); replace HB := Aside0.mk (below_step zx18_0 hb); (try clear hb); (try clear hb2); (try clear hk); (try clear hi); have gW : w34.cell? ⟨bf, 0, none⟩ = some (.int .u64 bk) := (blk_cell bc.out 0).trans rfl; have gV : w34.cell? ⟨bf, 1, none⟩ = some (.int .u64 bj) := (blk_cell bc.out 1).trans rfl; have gU : w34.cell? ⟨bf, 2, none⟩ = some (.slice bo bi.length bn) := (blk_cell bc.out 2).trans rfl; have gy := blk_frozen bc.out 0; have gx := blk_frozen bc.out 1; have gw := blk_frozen bc.out 2) | ((with_reducible refine gate_callee (f := 53) rfl ?_); refine goesL_ (some 32) rfl rfl Tryd.func53 (by kernel_rfl) rfl #[.agg #[.int .u64 bk, .int .u64 bj, .slice bo bi.length bn]] rfl zx18_6 ?_; (with_reducible refine (postroomref10_copied.calls bX bk bj _ _ bi bu bw bd _ ?side1 ?side2 A25.out).mono ?_); (case side1 => repeat (first | exact (Kd.C_below bV.out HB.out) | (with_reducible refine Kd.C_alloc ?_ _) | (with_reducible refine Kd.C_drewN ?_ _) | (with_reducible refine Kd.C_drew ?_))); (case side2 => exact bW.out); rintro e w36 ⟨hS, rfl, ho0, hb⟩; refine ⟨_, rfl, ?_⟩; have bm := Aside0.mk (Kd.S_lower ho0 (below_size zx18_0)); replace bc := Aside0.mk (blk_below (g := bf) (o := .cells #[.int .u64 bk, .int .u64 bj, .slice bo bi.length bn] 57 (0, 0)) zx18_1 hb); replace be := Aside0.mk (blk_below (g := bh) (o := .cells #[.int .u64 0, .int .u64 0, .slice none 0 0] 57 (0, 0)) zx18_4 hb); replace HB := Aside0.mk (below_step zx18_0 hb); (try clear hb); (try clear hb2); (try clear hk); (try clear hi); (try clear ho0)) | ((with_reducible refine gate_dst (N := 11) rfl ?_); refine box_event ?hg (N := 11) ?hd (cs := #[.int .u64 0, .int .u64 0, .slice none 0 0]) (t := 57) ?hr ?_; (case hd => rfl); (case hg => rfl); (case hr => first | (go_simp; done) | (go_simp; rfl)); intro bg hg w37 hbox hb; replace bm := Aside0.mk (Kd.S_below (by (with_reducible repeat (first | apply Kd.S_alloc | apply Kd.S_drewN | apply Kd.S_drew)); exact bm.out) hb); have bl := Aside0.mk (hbox); have hR := Aside0.mk ((by rw [hg]; exact (below_size zx18_0) : w.heap.size ≤ bg)); have dg := Aside0.mk ((by rw [hg]; exact (below_size zx18_0) : w.heap.size ≤ bg)); replace HB := Aside0.mk (below_step zx18_0 hb); have bK := Aside0.mk ((by rw [hg]; exact Nat.ne_of_lt (blk_lt (g := bf) (o := .cells #[.int .u64 bk, .int .u64 bj, .slice bo bi.length bn] 57 (0, 0)) zx18_1) : bf ≠ bg)); have dc := Aside0.mk ((by rw [hg]; exact Nat.ne_of_gt (blk_lt (g := bf) (o := .cells #[.int .u64 bk, .int .u64 bj, .slice bo bi.length bn] 57 (0, 0)) zx18_1) : bg ≠ bf)); replace bc := Aside0.mk (blk_below (g := bf) (o := .cells #[.int .u64 bk, .int .u64 bj, .slice bo bi.length bn] 57 (0, 0)) zx18_1 hb); have bJ := Aside0.mk ((by rw [hg]; exact Nat.ne_of_lt (blk_lt (g := bh) (o := .cells #[.int .u64 0, .int .u64 0, .slice none 0 0] 57 (0, 0)) zx18_4) : bh ≠ bg)); have db := Aside0.mk ((by rw [hg]; exact Nat.ne_of_gt (blk_lt (g := bh) (o := .cells #[.int .u64 0, .int .u64 0, .slice none 0 0] 57 (0, 0)) zx18_4) : bg ≠ bh)); replace be := Aside0.mk (blk_below (g := bh) (o := .cells #[.int .u64 0, .int .u64 0, .slice none 0 0] 57 (0, 0)) zx18_4 hb); clear hb hbox hg; have hG := dc.out; have hA := bK.out; have hF := db.out; have hz := bJ.out; have gT : w37.cell? ⟨bg, 0, none⟩ = some (.int .u64 0) := (blk_cell bl.out 0).trans rfl; have gS : w37.cell? ⟨bg, 1, none⟩ = some (.int .u64 0) := (blk_cell bl.out 1).trans rfl; have gR : w37.cell? ⟨bg, 2, none⟩ = some (.slice none 0 0) := (blk_cell bl.out 2).trans rfl; have gv := blk_frozen bl.out 0; have gu := blk_frozen bl.out 1; have gt := blk_frozen bl.out 2; obtain ⟨bP, bH, ho⟩ := Kd.S_slice bm.out; subst ho))
  have n0_ : Aside0 (Kd.S k84 84 (((w37.setCell ⟨bg, 0, none⟩ (.int .u64 bu)).setCell ⟨bg, 1, none⟩ (.int .u64 bw)).setCell ⟨bg, 2, none⟩ (.slice bP bd.length bH)) w.heap.size (fun _ => True) (.slice bP bd.length bH) bd) := ⟨by (with_reducible repeat (first | apply Kd.S_alloc | apply Kd.S_drewN | apply Kd.S_drew)); exact Kd.S_mono (Kd.S_far (p := ⟨bg, 2, none⟩) (Kd.S_far (p := ⟨bg, 1, none⟩) (Kd.S_far (p := ⟨bg, 0, none⟩) (Kd.S_types bm.out bl.out (by decide)) (fun _ hk => hk.2) (.int .u64 bu)) (fun _ hk => hk.2) (.int .u64 bw)) (fun _ hk => hk.2) (.slice bP bd.length bH)) (fun _ hk => trivial)⟩
  have n1_ : Aside0 ((((w37.setCell ⟨bg, 0, none⟩ (.int .u64 bu)).setCell ⟨bg, 1, none⟩ (.int .u64 bw)).setCell ⟨bg, 2, none⟩ (.slice bP bd.length bH)).heap[bf]? = some (.cells #[.int .u64 bk, .int .u64 bj, .slice bo bi.length bn] 57 (0, 0))) := ⟨by (iterate 3 ((with_reducible repeat (first | refine blk_drewN ?_ _ | refine blk_drew ?_ | refine blk_alloc ?_ _)); refine blk_far ?_ bK.out _)); (with_reducible repeat (first | refine blk_drewN ?_ _ | refine blk_drew ?_ | refine blk_alloc ?_ _)); exact bc.out⟩
  have n2_ : Aside0 ((((w37.setCell ⟨bg, 0, none⟩ (.int .u64 bu)).setCell ⟨bg, 1, none⟩ (.int .u64 bw)).setCell ⟨bg, 2, none⟩ (.slice bP bd.length bH)).heap[bh]? = some (.cells #[.int .u64 0, .int .u64 0, .slice none 0 0] 57 (0, 0))) := ⟨by (iterate 3 ((with_reducible repeat (first | refine blk_drewN ?_ _ | refine blk_drew ?_ | refine blk_alloc ?_ _)); refine blk_far ?_ bJ.out _)); (with_reducible repeat (first | refine blk_drewN ?_ _ | refine blk_drew ?_ | refine blk_alloc ?_ _)); exact be.out⟩
  have n3_ : Aside0 ((((w37.setCell ⟨bg, 0, none⟩ (.int .u64 bu)).setCell ⟨bg, 1, none⟩ (.int .u64 bw)).setCell ⟨bg, 2, none⟩ (.slice bP bd.length bH)).heap[bg]? = some (.cells #[.int .u64 bu, .int .u64 bw, .slice bP bd.length bH] 57 (0, 0))) := ⟨by (with_reducible repeat (first | refine blk_drewN ?_ _ | refine blk_drew ?_ | refine blk_alloc ?_ _)); refine blk_put (cs := #[.int .u64 bu, .int .u64 bw, .slice none 0 0]) ?_ 2 _ rfl; (with_reducible repeat (first | refine blk_drewN ?_ _ | refine blk_drew ?_ | refine blk_alloc ?_ _)); refine blk_put (cs := #[.int .u64 bu, .int .u64 0, .slice none 0 0]) ?_ 1 _ rfl; (with_reducible repeat (first | refine blk_drewN ?_ _ | refine blk_drew ?_ | refine blk_alloc ?_ _)); refine blk_put (cs := #[.int .u64 0, .int .u64 0, .slice none 0 0]) ?_ 0 _ rfl; (with_reducible repeat (first | refine blk_drewN ?_ _ | refine blk_drew ?_ | refine blk_alloc ?_ _)); exact bl.out⟩
  have n4_ : Aside0 (Below w.heap.size w (((w37.setCell ⟨bg, 0, none⟩ (.int .u64 bu)).setCell ⟨bg, 1, none⟩ (.int .u64 bw)).setCell ⟨bg, 2, none⟩ (.slice bP bd.length bH))) := ⟨by repeat (first | (with_reducible first | exact HB.out | apply below_alloc | apply pw_below_drewN | apply below_drew1 | refine below_set ?_ bz.out | refine below_set ?_ bB.out | refine below_set ?_ dg.out) | exact HB.out)⟩
  (try clear bm)
  (try clear bc)
  (try clear be)
  (try clear bl)
  (try clear HB)
  generalize (((w37.setCell ⟨bg, 0, none⟩ (.int .u64 bu)).setCell ⟨bg, 1, none⟩ (.int .u64 bw)).setCell ⟨bg, 2, none⟩ (.slice bP bd.length bH)) = w42 at n0_ n1_ n2_ n3_ n4_ ⊢
  have bm := n0_
  have bc := n1_
  have be := n2_
  have bl := n3_
  have HB := n4_
  clear n0_ n1_ n2_ n3_ n4_
  replace bm := Aside0.mk (Kd.S_drew bm.out)
  replace bc := Aside0.mk (blk_drew bc.out)
  replace be := Aside0.mk (blk_drew be.out)
  replace bl := Aside0.mk (blk_drew bl.out)
  replace HB := Aside0.mk (below_drew1 HB.out)
  have dl : 0 ≤ (ba : Int) := of_decide_eq_true zx18_7
  have dj : ba < (bd.length : Int) := of_decide_eq_true zx18_7
  obtain ⟨bp, hw, df, hq, b4, b3, bD, b6, b8⟩ := at_T84 (Kd.S_reads' bm.out).2.2 ba dl dj
  cases hq
  obtain ⟨hM, dU, dW, de⟩ := Kd.S_get bm.out z84 ba dl (by first | exact dj | exact of_decide_eq_true zx18_7 | (have e_ := (Kd.S_reads' bm.out).1; omega))
  obtain ⟨gg, rfl, bO⟩ := k84_openM dW
  have bG := de 2 _ rfl
  rw [add_field _ _ 2 (by omega)] at bG
  replace bG := Option.some.inj (bG.symm.trans bD)
  rw [bG] at bO
  have bA := Aside0.mk (show Kd.R (Kd.int .u8) 5 _ _ _ _ ((rd_T84 bd ba).f2) from bO)
  clear bG bO
  have b9 := Aside0.mk bD
  clear de dU
  have dJ := Aside0.mk b8
  have hh := Aside0.mk b6
  clear b8 b6
  replace dl := eq_true dl
  replace dj := eq_true dj
  have dk : 0 ≤ (ba : Int) := of_decide_eq_true zx18_7
  have di : ba < (bd.length : Int) := of_decide_eq_true zx18_7
  obtain ⟨d5, hv, hs, hp, b2, b1, bC, b5, b7⟩ := at_T84 (Kd.S_reads' bm.out).2.2 ba dk di
  obtain rfl : bp = d5 := (by injection hp)
  obtain ⟨hL, dT, dV, dd⟩ := Kd.S_get bm.out z84 ba dk (by first | exact di | exact of_decide_eq_true zx18_7 | (have e_ := (Kd.S_reads' bm.out).1; omega))
  obtain ⟨gf, rfl, bN⟩ := k84_openM dV
  have bE := dd 2 _ rfl
  rw [add_field _ _ 2 (by omega)] at bE
  replace bE := Option.some.inj (bE.symm.trans bC)
  rw [bE] at bN
  have dL := Aside0.mk (show Kd.R (Kd.int .u8) 5 _ _ _ _ ((rd_T84 bd ba).f2) from bN)
  clear bE bN
  have dH := Aside0.mk bC
  clear dd dT
  have dI := Aside0.mk b7
  have hf := Aside0.mk b5
  clear b7 b5
  replace dk := eq_true dk
  replace di := eq_true di
  have ea_ := Option.some.inj (bD.symm.trans bC)
  injection ea_ with ea_ en_ ec_
  subst ea_
  subst ec_
  clear en_
  have p31 : 0 ≤ ((bx) : Int) := of_decide_eq_true zx18_7
  have q31 : ((bx) : Int) < ((((rd_T84 bd ba).f2).length : Int) : Int) := of_decide_eq_true zx18_7
  obtain ⟨bU, hW, d3, d2, hn, hX, d9⟩ := Kd.R_form bA.out (by omega)
  (first | cases d3 | (injection d3 with ea_ en_ ec_; (first | subst ea_ | (injection ea_ with ea_; subst ea_)); subst ec_; clear en_))
  have hu := Aside0.mk d2
  have ht := Aside0.mk d9
  clear d2 hn d9
  obtain ⟨dR, dS⟩ := Kd.R_celln 0 bA.out ((bx) : Int) p31 q31
  replace p31 := eq_true p31
  replace q31 := eq_true q31
  have hl : (ba : Int) < (bd.length : Int) := (by have h_ : (ba : Int) < ((bd.length : Int) : Int) := of_decide_eq_true zx18_7; first | exact h_ | (have e_ := (Kd.S_reads' bm.out).1; omega) | simpa only [List.length_set, List.length_set] using h_)
  obtain ⟨hx, hY, d1, hm, dN, d0, dP⟩ := Kd.S_borrow bm.out z84 (ba : Int) (of_decide_eq_true zx18_7) hl
  obtain ⟨hj, rfl, bM⟩ := k84_openM hm
  have dm := dN 2 _ rfl
  rw [add_field _ _ 2 (by omega)] at dm
  replace dm := Option.some.inj (dm.symm.trans b9.out)
  subst dm
  clear dN d1
  replace bM := (show Kd.R (Kd.int .u8) 5 _ _ _ _ ((rd_T84 bd ba).f2) from bM)
  have dK := Kd.R_putg bM ((bx) : Int) a3
  rw [← d7.out] at dK
  have dX := dP dK.2 (fun k_ e_ => by injection e_ with e_; subst e_; exact bM.1 _ rfl) (x' := (⟨(rd_T84 bd ba).f0, (rd_T84 bd ba).f1, dh⟩ : S84)) (k84_mkM _ _ _ (⟨(rd_T84 bd ba).f0, (rd_T84 bd ba).f1, dh⟩ : S84) dK.1)
  rw [← d6.out] at dX
  have d8 := Aside0.mk dX
  clear dK dX dP d0
  refine start_ (n := 17) (S := fun w' => w'.cell? ⟨bg, 0, none⟩ = some (.int .u64 bu) ∧ w'.cell? ⟨bg, 1, none⟩ = some (.int .u64 bw) ∧ w'.cell? ⟨bg, 2, none⟩ = some (.slice (some bp) bd.length bH) ∧ w'.cell? (bp.add ((ba).toNat * 3)) = some (.string ((rd_T84 bd ba).f0)) ∧ w'.cell? ⟨(bp.add ((ba).toNat * 3)).block, (bp.add ((ba).toNat * 3)).off + 1, none⟩ = some (.int .u64 ((rd_T84 bd ba).f1)) ∧ w'.cell? ⟨(bp.add ((ba).toNat * 3)).block, (bp.add ((ba).toNat * 3)).off + 2, none⟩ = some (.slice (some ⟨bU, 0, none⟩) ((rd_T84 bd ba).f2).length df) ∧ w'.cell? (bp.add ((ba).toNat * 3)) = some (.string ((rd_T84 bd ba).f0)) ∧ w'.cell? ⟨(bp.add ((ba).toNat * 3)).block, (bp.add ((ba).toNat * 3)).off + 1, none⟩ = some (.int .u64 ((rd_T84 bd ba).f1)) ∧ w'.cell? ⟨(bp.add ((ba).toNat * 3)).block, (bp.add ((ba).toNat * 3)).off + 2, none⟩ = some (.slice (some ⟨bU, 0, none⟩) ((rd_T84 bd ba).f2).length df)) (ds := [16]) #[Ff,Ff,Ff,Ff,Ff,Ff,Ff,Ff,Ff,Ff,Ff,Ff,Ff,Ff,Ff,Ff,Ff] (by kernel_rfl) rfl rfl ⟨(blk_cell bl.out 0).trans rfl, (blk_cell bl.out 1).trans rfl, (blk_cell bl.out 2).trans rfl, b4, b3, bD, b2, b1, bC⟩ (fun hHeld => ?_); refine with_tabW postroomref10_Done.tab9 postroomref10_Done.bits9 (fun HT_ HW_ => ?_)
  generalize w42.drew = w43 at bm bc be bl HB ht bA dL d8 dJ dI b9 dH dS b4 b3 bD b2 b1 bC dR hHeld ⊢
  refine pp_ 0 (some 33) HT_.out ?_
  refine pp_ 2 (some 35) HT_.out ?_
  refine pp_ 6 (some 39) HT_.out ?_
  refine pp_ 7 (some 40) HT_.out ?_
  refine pp_ 9 (some 42) HT_.out ?_
  refine pp_ 14 (some 47) HT_.out ?_
  refine take_ (i := 1) (N := some 34) (v := ?_) (a' := ?_) #[Tt,Tt,Tt,Ff,Ff,Ff,Tt,Tt,Ff,Tt,Ff,Ff,Ff,Ff,Tt,Ff,Ff] rfl rfl (take_ofW HT_.out HW_.out (by kernel_rfl)) (fun _ _ _ h => h) (Or.inl ⟨by rfl, ?_⟩) hHeld ?_ ?_
  rotate_left
  ·rintro w' ⟨s0, s1, s2, s3, s4, s5, s6, s7, s8⟩
   go_simp
   with_reducible rfl
  rotate_left
  ·simp only [Act.put, List.setIfInBounds_toArray, List.set_cons_zero, List.set_cons_succ, i64_w, i32_w]
   rfl
  refine pp_ 3 (some 36) HT_.out ?_
  refine pp_ 4 (some 37) HT_.out ?_
  refine take_ (i := 5) (N := some 38) (v := ?_) (a' := ?_) #[Tt,Tt,Tt,Tt,Tt,Tt,Tt,Tt,Ff,Tt,Ff,Ff,Ff,Ff,Tt,Ff,Ff] rfl rfl (take_ofW HT_.out HW_.out (by kernel_rfl)) (fun _ _ _ h => h) (Or.inl ⟨by rfl, ?_⟩) hHeld ?_ ?_
  rotate_left
  ·rintro w' ⟨s0, s1, s2, s3, s4, s5, s6, s7, s8⟩
   go_simp
   with_reducible rfl
  rotate_left
  ·simp only [Act.put, List.setIfInBounds_toArray, List.set_cons_zero, List.set_cons_succ, i64_w, i32_w]
   rfl
  refine take_ (i := 8) (N := some 41) (v := ?_) (a' := ?_) #[Tt,Tt,Tt,Tt,Tt,Tt,Tt,Tt,Tt,Tt,Ff,Ff,Ff,Ff,Tt,Ff,Ff] rfl rfl (take_ofW HT_.out HW_.out (by kernel_rfl)) (fun _ _ _ h => h) (Or.inl ⟨by rfl, ?_⟩) hHeld ?_ ?_
  rotate_left
  ·rintro w' ⟨s0, s1, s2, s3, s4, s5, s6, s7, s8⟩
   go_simp
   with_reducible rfl
  rotate_left
  ·simp only [Act.put, List.setIfInBounds_toArray, List.set_cons_zero, List.set_cons_succ, i64_w, i32_w]
   rfl
  refine pp_ 10 (some 43) HT_.out ?_
  refine pp_ 11 (some 44) HT_.out ?_
  refine take_ (i := 12) (N := some 45) (v := ?_) (a' := ?_) #[Tt,Tt,Tt,Tt,Tt,Tt,Tt,Tt,Tt,Tt,Tt,Tt,Tt,Ff,Tt,Ff,Ff] rfl rfl (take_ofW HT_.out HW_.out (by kernel_rfl)) (fun _ _ _ h => h) (Or.inl ⟨by rfl, ?_⟩) hHeld ?_ ?_
  rotate_left
  ·rintro w' ⟨s0, s1, s2, s3, s4, s5, s6, s7, s8⟩
   go_simp
   with_reducible rfl
  rotate_left
  ·simp only [Act.put, List.setIfInBounds_toArray, List.set_cons_zero, List.set_cons_succ, i64_w, i32_w]
   rfl
  refine pp_ 13 (some 46) HT_.out ?_
  refine pp_ 15 (some 48) HT_.out ?_
  refine last_ (i := 16) (N := none) #[Tt,Tt,Tt,Tt,Tt,Tt,Tt,Tt,Tt,Tt,Tt,Tt,Tt,Tt,Tt,Tt,Tt] rfl rfl (one_of HT_.out (by kernel_rfl)) (by decide) (fun K hK => ?_)
  refine skip_ (w1 := ?_) (by rfl) rfl ?_ ?_
  rotate_left
  ·go_simp
   rfl
  refine hK.out _ _ ?_
  clear hK K
  refine done_ (done_of HT_.out (by kernel_rfl)) ?_
  have n0_ : Aside0 (Kd.S k84 84 (w43.setCell ⟨bU, ((bx) : Int).toNat, none⟩ (.int .u8 a3)) w.heap.size (fun _ => True) (.slice (some bp) bd.length bH) dZ) := ⟨by (with_reducible repeat (first | apply Kd.S_alloc | apply Kd.S_drewN | apply Kd.S_drew)); exact d8.out⟩
  have n1_ : Aside0 ((w43.setCell ⟨bU, ((bx) : Int).toNat, none⟩ (.int .u8 a3)).heap[bf]? = some (.cells #[.int .u64 bk, .int .u64 bj, .slice bo bi.length bn] 57 (0, 0))) := ⟨by (with_reducible repeat (first | refine blk_drewN ?_ _ | refine blk_drew ?_ | refine blk_alloc ?_ _)); refine blk_far ?_ (by have h_ := Kd.R_ne bA.out bc.out (by decide); intro e_; exact h_ (by rw [e_]; rfl)) _; (with_reducible repeat (first | refine blk_drewN ?_ _ | refine blk_drew ?_ | refine blk_alloc ?_ _)); exact bc.out⟩
  have n2_ : Aside0 ((w43.setCell ⟨bU, ((bx) : Int).toNat, none⟩ (.int .u8 a3)).heap[bh]? = some (.cells #[.int .u64 0, .int .u64 0, .slice none 0 0] 57 (0, 0))) := ⟨by (with_reducible repeat (first | refine blk_drewN ?_ _ | refine blk_drew ?_ | refine blk_alloc ?_ _)); refine blk_far ?_ (by have h_ := Kd.R_ne bA.out be.out (by decide); intro e_; exact h_ (by rw [e_]; rfl)) _; (with_reducible repeat (first | refine blk_drewN ?_ _ | refine blk_drew ?_ | refine blk_alloc ?_ _)); exact be.out⟩
  have n3_ : Aside0 ((w43.setCell ⟨bU, ((bx) : Int).toNat, none⟩ (.int .u8 a3)).heap[bg]? = some (.cells #[.int .u64 bu, .int .u64 bw, .slice (some bp) bd.length bH] 57 (0, 0))) := ⟨by (with_reducible repeat (first | refine blk_drewN ?_ _ | refine blk_drew ?_ | refine blk_alloc ?_ _)); refine blk_far ?_ (by have h_ := Kd.R_ne bA.out bl.out (by decide); intro e_; exact h_ (by rw [e_]; rfl)) _; (with_reducible repeat (first | refine blk_drewN ?_ _ | refine blk_drew ?_ | refine blk_alloc ?_ _)); exact bl.out⟩
  have n4_ : Aside0 (Below w.heap.size w (w43.setCell ⟨bU, ((bx) : Int).toNat, none⟩ (.int .u8 a3))) := ⟨by repeat (first | (with_reducible first | exact HB.out | apply below_alloc | apply pw_below_drewN | apply below_drew1 | refine below_set ?_ hu.out | refine below_set ?_ bz.out | refine below_set ?_ bB.out | refine below_set ?_ dg.out) | exact HB.out)⟩
  (try clear bm)
  (try clear bc)
  (try clear be)
  (try clear bl)
  (try clear HB)
  generalize (w43.setCell ⟨bU, ((bx) : Int).toNat, none⟩ (.int .u8 a3)) = w46 at n0_ n1_ n2_ n3_ n4_ ⊢
  have bm := n0_
  have bc := n1_
  have be := n2_
  have bl := n3_
  have HB := n4_
  clear n0_ n1_ n2_ n3_ n4_
  obtain ⟨gQ, gP, gO, gs, gr, gq⟩ := cx18_bc3 bl.out
  obtain ⟨gN, gM, gL, gp, go, gn⟩ := cx18_bc3 be.out
  try go_wp2
  refine bodyPost_ret (results_ct rfl _ _ bh 57 #[.int .u64 bu, .int .u64 bw, .slice (some bp) bd.length bH] (0, 0) _ rfl (by (with_reducible repeat (first | refine blk_drewN ?_ _ | refine blk_drew ?_ | refine blk_alloc ?_ _)); refine blk_put (cs := #[.int .u64 bu, .int .u64 bw, .slice none 0 0]) ?_ 2 _ rfl; (with_reducible repeat (first | refine blk_drewN ?_ _ | refine blk_drew ?_ | refine blk_alloc ?_ _)); refine blk_put (cs := #[.int .u64 bu, .int .u64 0, .slice none 0 0]) ?_ 1 _ rfl; (with_reducible repeat (first | refine blk_drewN ?_ _ | refine blk_drew ?_ | refine blk_alloc ?_ _)); refine blk_put (cs := #[.int .u64 0, .int .u64 0, .slice none 0 0]) ?_ 0 _ rfl; (with_reducible repeat (first | refine blk_drewN ?_ _ | refine blk_drew ?_ | refine blk_alloc ?_ _)); exact be.out) Tryd.underlying57 rfl (by kernel_rfl)) rfl ?_
  exact ⟨_, by first | rfl | (simp [errW_none, errW_some] <;> rfl) | (simp only [← bS]; first | rfl | (simp [errW_none, errW_some] <;> rfl)) | (simp [*, errW_none, errW_some] <;> rfl), by (with_reducible repeat (first | apply Kd.S_alloc | apply Kd.S_drewN | apply Kd.S_drew)); exact Kd.S_mono (Kd.S_far (p := ⟨bh, 2, none⟩) (Kd.S_far (p := ⟨bh, 1, none⟩) (Kd.S_far (p := ⟨bh, 0, none⟩) (Kd.S_types bm.out be.out (by decide)) (fun _ hk => hk.2) (.int .u64 bu)) (fun _ hk => hk.2) (.int .u64 bw)) (fun _ hk => hk.2) (.slice (some bp) bd.length bH)) (fun _ hk => trivial), by repeat (first | (with_reducible first | exact HB.out | apply below_alloc | apply pw_below_drewN | apply below_drew1 | refine below_set ?_ bz.out | refine below_set ?_ bB.out | refine below_set ?_ dg.out) | exact HB.out)⟩
end Go.Proofs.YthhmpjapnkilcaaDoor.XLdg
end
section
/- What the functions of the translation answer, each as a plain Lean function, and that the code comes to it; for a law: its row. Conditions: none but those that each theorem names. Written by a program of this session (wip/xp). -/
namespace Go.Proofs.YthhmpjapnkilcaaDoor.XLdg
open Go.RowKit Go.Proofs.YthhmpjapnkilcaaDoorW.PrintWords Go.Proofs.YthhmpjapnkilcaaDoorW.PrintLast Go.Proofs.YthhmpjapnkilcaaDoorW.PrintMore
attribute [local go_sem] max2_int min2_int max_two min_two max_three min_three max_four min_four   -- for this text's walks alone
set_option linter.unusedVariables false
set_option linter.unusedSimpArgs false

/-! ### ledger_Waits: function 19 -/
def ledger_Waits.f (k : Nat) (bh : Int) (be : Int) (bf : List (S37)) (a1 : ByteArray) (a2 : Int) : Option (Bool) := (ledger_Find.f bh be bf a1).bind fun bg => (if bg.2.2.2.2.2.2.2 = true then ((ledger_Dest_waits.f k bg.1 bg.2.1 bg.2.2.1 bg.2.2.2.1 bg.2.2.2.2.1 bg.2.2.2.2.2.1 bg.2.2.2.2.2.2.1 a2 be).bind fun br => (some br)) else (some false))
end Go.Proofs.YthhmpjapnkilcaaDoor.XLdg
end
section
/- What the functions of the translation answer, each as a plain Lean function, and that the code comes to it; for a law: its row. Conditions: none but those that each theorem names. Written by a program of this session (wip/xp). -/
namespace Go.Proofs.YthhmpjapnkilcaaDoor.XLdg
open Go.RowKit Go.Proofs.YthhmpjapnkilcaaDoorW.PrintWords Go.Proofs.YthhmpjapnkilcaaDoorW.PrintLast Go.Proofs.YthhmpjapnkilcaaDoorW.PrintMore
attribute [local go_sem] max2_int min2_int max_two min_two max_three min_three max_four min_four   -- for this text's walks alone
set_option linter.unusedVariables false
set_option linter.unusedSimpArgs false

/-! ### postroomref10_Pending: function 28 -/
mutual
def postroomref10_Pending.l0 : Nat → ByteArray → List Int → Int → Int → Int → Int → List (S84) → Option (List Int)
 | 0, _, _, _, _, _, _, _ => none
 | k + 1, x1, x5, x6, x7, bk, bf, bj => if x6 ≥ 0 then (postroomref10_Pending.j1 k x1 x5 x6 x7 (decide (x7 < bf)) bk bf bj) else (postroomref10_Pending.j1 k x1 x5 x6 x7 false bk bf bj)
def postroomref10_Pending.j1 : Nat → ByteArray → List Int → Int → Int → Bool → Int → Int → List (S84) → Option (List Int)
 | 0, _, _, _, _, _, _, _, _ => none
 | k + 1, x1, x5, x6, x7, x18, bk, bf, bj => if x18 = true then ((postroomref10_Waits.f k bk bf bj x1 x7).bind fun br => (if br = true then (if x5.length < 17592186044416 then (postroomref10_Pending.l0 k x1 (x5 ++ [x7]) x6 (IntKind.u64.wrap (x7 + 1)) bk bf bj) else (none)) else (postroomref10_Pending.l0 k x1 x5 x6 (IntKind.u64.wrap (x7 + 1)) bk bf bj))) else (some x5)
end
def postroomref10_Pending.f (k : Nat) (bd : Int) (bc : Int) (ba : List (S84)) (a1 : ByteArray) : Option (List Int) := (postroomref10_place.f k bd bc ba a1).bind fun bh => (postroomref10_Pending.l0 k a1 ([] : List Int) bh 1 bd bc ba)
end Go.Proofs.YthhmpjapnkilcaaDoor.XLdg
end
section
/- What the functions of the translation answer, each as a plain Lean function, and that the code comes to it; for a law: its row. Conditions: none but those that each theorem names. Written by a program of this session (wip/xp). -/
namespace Go.Proofs.YthhmpjapnkilcaaDoor.XLdg
open Go.RowKit Go.Proofs.YthhmpjapnkilcaaDoorW.PrintWords Go.Proofs.YthhmpjapnkilcaaDoorW.PrintLast Go.Proofs.YthhmpjapnkilcaaDoorW.PrintMore
attribute [local go_sem] max2_int min2_int max_two min_two max_three min_three max_four min_four   -- for this text's walks alone
set_option linter.unusedVariables false
set_option linter.unusedSimpArgs false

/-! ### postroomref10_Free: function 30 -/
mutual
def postroomref10_Free.l0 : Nat → Int → Int → Int → List (S84) → Option (Int)
 | 0, _, _, _, _ => none
 | k + 1, x3, bq, bn, bm => if x3 < bn then (postroomref10_Free.l1 k x3 0 bq bn bm) else (some bn)
def postroomref10_Free.l1 : Nat → Int → Int → Int → Int → List (S84) → Option (Int)
 | 0, _, _, _, _, _ => none
 | k + 1, x3, x4, bq, bn, bm => if x4 < (bm.length : Int) then (if 0 ≤ x4 then ((postroomref10_Waits.f k bq bn bm ((rd_T84 bm x4).f0) x3).bind fun bH => (if bH = true then (some x3) else (postroomref10_Free.l1 k x3 (wrap64 (x4 + 1)) bq bn bm))) else (none)) else (postroomref10_Free.l0 k (IntKind.u64.wrap (x3 + 1)) bq bn bm)
end
def postroomref10_Free.f (k : Nat) (bl : Int) (bk : Int) (bb : List (S84)) : Option (Int) := postroomref10_Free.l0 k 1 bl bk bb
def postroomref10_Free.T7 : Bool × List (List Nat × List Nat) := (true, [([], []), ([], []), ([1], [1]), ([], []), ([2, 3], [2, 3]), ([4], [4]), ([5], [5]), ([], []), ([0, 6, 7], [0, 6, 7])])
def postroomref10_Free.B7 : List Nat := [0, 0, 2, 0, 14, 30, 62, 0, 255]
end Go.Proofs.YthhmpjapnkilcaaDoor.XLdg
end
