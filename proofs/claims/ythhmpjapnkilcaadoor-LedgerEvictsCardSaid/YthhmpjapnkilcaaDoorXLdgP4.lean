/- Texts of this seat, in one. Conditions: those that each theorem names. -/
import Derived.Test.YthhmpjapnkilcaaDoorXLdgP1
import Derived.Test.YthhmpjapnkilcaaDoorXLdgP3
import Derived.Test.YthhmpjapnkilcaaDoorGClone
section
/- What the functions of the translation answer, each as a plain Lean function, and that the code comes to it; for a law: its row. Conditions: none but those that each theorem names. Written by a program of this session (wip/xp). -/
namespace Go.Proofs.YthhmpjapnkilcaaDoor.XLdg
open Go.RowKit Go.Proofs.YthhmpjapnkilcaaDoorW.PrintWords Go.Proofs.YthhmpjapnkilcaaDoorW.PrintLast Go.Proofs.YthhmpjapnkilcaaDoorW.PrintMore
attribute [local go_sem] max2_int min2_int max_two min_two max_three min_three max_four min_four   -- for this text's walks alone
theorem cx16_bc3 {w : World} {g : Nat} {t : TypeId} {x0 x1 x2 : Value} (h : w.heap[g]? = some (.cells #[x0, x1, x2] t (0, 0))) : w.cell? ⟨g, 0, none⟩ = some x0 ∧ w.cell? ⟨g, 1, none⟩ = some x1 ∧ w.cell? ⟨g, 2, none⟩ = some x2 ∧ w.frozen? ⟨g, 0, none⟩ = false ∧ w.frozen? ⟨g, 1, none⟩ = false ∧ w.frozen? ⟨g, 2, none⟩ = false :=
 ⟨(blk_cell h 0).trans rfl, (blk_cell h 1).trans rfl, (blk_cell h 2).trans rfl, blk_frozen h 0, blk_frozen h 1, blk_frozen h 2⟩
theorem zx16_0 {p : Prop} (h : p := by (with_reducible repeat (first | refine blk_drewN ?_ _ | refine blk_drew ?_ | refine blk_alloc ?_ _)); exact bd.out) : p := h
theorem zx16_2 {p : Prop} (h : p := by (with_reducible repeat (first | refine blk_drewN ?_ _ | refine blk_drew ?_ | refine blk_alloc ?_ _)); exact bh.out) : p := h
theorem zx16_6 {p : Prop} (h : p := by (with_reducible repeat (first | refine blk_drewN ?_ _ | refine blk_drew ?_ | refine blk_alloc ?_ _)); exact bf.out) : p := h
theorem zx16_5 {p : Prop} (h : p := by repeat (first | (with_reducible first | exact HB.out | apply below_alloc | apply pw_below_drewN | apply below_drew1) | exact HB.out)) : p := h
theorem zx16_7 {p : Prop} (h : p := by (try simp only [List.map_toArray, List.map_cons, List.map_nil]); first | done | rfl | (simp only [List.length_drop, List.length_take]; rfl)) : p := h
theorem zx16_4 {p : Prop} (h : p := by repeat (first | (with_reducible first | exact HB.out | apply below_alloc | apply pw_below_drewN | apply below_drew1 | refine below_set ?_ bK.out) | exact HB.out)) : p := h
theorem zx16_3 {p : Prop} (h : p := by repeat (first | (with_reducible first | exact HB.out | apply below_alloc | apply pw_below_drewN | apply below_drew1 | refine below_set ?_ bK.out | refine below_set ?_ bO.out) | exact HB.out)) : p := h
theorem zx16_1 {p : Prop} (h : p := by repeat (first | (with_reducible first | exact HB.out | apply below_alloc | apply pw_below_drewN | apply below_drew1 | refine below_set ?_ bK.out | refine below_set ?_ bO.out | refine below_set ?_ b3.out) | exact HB.out)) : p := h
set_option linter.unusedVariables false
set_option linter.unusedSimpArgs false

/-! ### postroomref10_Leave: function 41 -/
def postroomref10_Leave.f (k : Nat) (bk : Int) (bj : Int) (bi : List (S84)) (a1 : ByteArray) : Option (Int × Int × (List (S84)) × Int) := (postroomref10_place.f k bk bj bi a1).bind fun be => (if be < 0 then (some (0, 0, ([] : List (S84)), 5)) else ((postroomref10_copied.f k bk bj bi).bind fun bm => ((some (([] : List (S84)) : List (S84))).bind fun bA => (if 0 ≤ be then (if be ≤ (bm.2.2.length : Int) then ((some (bm.2.2.take (be : Int).toNat : List (S84))).bind fun bz => (if bA.length + bz.length < 2932031007402 then ((some (bA ++ bz : List (S84))).bind fun br => (if 0 ≤ (wrap64 (be + 1)) then (if (wrap64 (be + 1)) ≤ (bm.2.2.length : Int) then ((some (bm.2.2.drop ((wrap64 (be + 1)) : Int).toNat : List (S84))).bind fun bl => (if br.length + bl.length < 2932031007402 then (some (bm.1, bm.2.1, (br ++ bl), 0)) else (none))) else (none)) else (none))) else (none))) else (none)) else (none)))))
def postroomref10_Leave.T5 : Bool × List (List Nat × List Nat) := (true, [([], []), ([], []), ([1], [1]), ([], []), ([2, 3], [2, 3]), ([0, 4], [0, 4]), ([], []), ([6], [6]), ([], []), ([8], [8]), ([7, 9], [7, 9]), ([5, 10, 5], [5, 10]), ([0, 1, 2, 3, 4, 5, 6, 7, 8, 9, 10, 11], []), ([12, 11, 11, 0, 1, 2, 3, 4, 5, 6, 7, 8, 9, 10, 11], [11, 12])])
def postroomref10_Leave.B5 : List Nat := [0, 0, 2, 0, 14, 31, 0, 64, 0, 256, 960, 2047, 4095, 8191]
theorem postroomref10_Leave.tab5 : rtab .any (opsOf Tryd.f41 5) = postroomref10_Leave.T5 := by kernel_rfl
theorem postroomref10_Leave.bits5 : waitsOk postroomref10_Leave.T5.2 postroomref10_Leave.B5 = true := by kernel_rfl
set_option maxHeartbeats 8000000 in
set_option maxRecDepth 100000 in
theorem postroomref10_Leave.calls (k : Nat) (bk : Int) (bj : Int) (bo : Option Addr) (bn : Nat) (bi : List (S84)) (a1 : ByteArray) (r1 : Int) (r2 : Int) (r3 : List (S84)) (r4 : Int) (w : World) (b8 : Kd.C k84 w bo bi.length bi) (db : bi.length ≤ bn) (h : postroomref10_Leave.f k bk bj bi a1 = some (r1, r2, r3, r4)) :
  Calls Tryd.prog 41 #[.agg #[.int .u64 bk, .int .u64 bj, .slice bo bi.length bn], .string a1] w fun e w' => ∃ v2_ : Value, e = .returned (.tuple #[.agg #[.int .u64 r1, .int .u64 r2, v2_], .int .i64 r4]) ∧ Kd.N k84 84 w' w.heap.size (fun k_ => (w.heap.size ≤ k_)) v2_ r3 ∧ Below w.heap.size w w' := by
 have gL := Tryd.underlying57
 have b1 := Aside0.mk b8
 have b2 := Aside0.mk db
 clear b8 db
 have HB := Aside0.mk (Below.refl w.heap.size w)
 have H : ((postroomref10_place.f k bk bj bi a1).bind fun be => (if be < 0 then (some (0, 0, ([] : List (S84)), 5)) else ((postroomref10_copied.f k bk bj bi).bind fun bm => ((some (([] : List (S84)) : List (S84))).bind fun bA => (if 0 ≤ be then (if be ≤ (bm.2.2.length : Int) then ((some (bm.2.2.take (be : Int).toNat : List (S84))).bind fun bz => (if bA.length + bz.length < 2932031007402 then ((some (bA ++ bz : List (S84))).bind fun br => (if 0 ≤ (wrap64 (be + 1)) then (if (wrap64 (be + 1)) ≤ (bm.2.2.length : Int) then ((some (bm.2.2.drop ((wrap64 (be + 1)) : Int).toNat : List (S84))).bind fun bl => (if br.length + bl.length < 2932031007402 then (some (bm.1, bm.2.1, (br ++ bl), 0)) else (none))) else (none)) else (none))) else (none))) else (none)) else (none)))))) = some (r1, r2, r3, r4) := h
 clear h
 replace H := Option.bind_eq_some_iff.mp H
 obtain ⟨be, A30, H⟩ := H
 replace H : (if be < 0 then (some (0, 0, ([] : List (S84)), 5)) else ((postroomref10_copied.f k bk bj bi).bind fun bm => ((some (([] : List (S84)) : List (S84))).bind fun bA => (if 0 ≤ be then (if be ≤ (bm.2.2.length : Int) then ((some (bm.2.2.take (be : Int).toNat : List (S84))).bind fun bz => (if bA.length + bz.length < 2932031007402 then ((some (bA ++ bz : List (S84))).bind fun br => (if 0 ≤ (wrap64 (be + 1)) then (if (wrap64 (be + 1)) ≤ (bm.2.2.length : Int) then ((some (bm.2.2.drop ((wrap64 (be + 1)) : Int).toNat : List (S84))).bind fun bl => (if br.length + bl.length < 2932031007402 then (some (bm.1, bm.2.1, (br ++ bl), 0)) else (none))) else (none)) else (none))) else (none))) else (none)) else (none))))) = some (r1, r2, r3, r4) := H
 have A3 := Aside0.mk A30
 clear A30
 by_cases c4 : be < 0
 ·rw [if_pos c4] at H
  have go : decide (be < 0) = true := decide_eq_true c4
  clear c4
  simp only [Option.some.injEq, Prod.mk.injEq] at H
  obtain ⟨rfl, rfl, rfl, rfl⟩ := H
  go_enter Tryd.func41, Tryd.ntmps41
  go_wp2_with (first | ((with_reducible refine gate_dst (N := 2) rfl ?_); refine box_event ?hg (N := 2) ?hd (cs := #[.int .u64 bk, .int .u64 bj, .slice bo bi.length bn]) (t := 57) ?hr ?_; (case hd => rfl); (case hg => rfl); (case hr => first | (go_simp; done) | (go_simp; rfl)); intro bb hg w5 hbox hb; have bd := Aside0.mk (hbox); have dz := Aside0.mk ((by rw [hg]; exact (below_size zx16_5) : w.heap.size ≤ bb)); have bK := Aside0.mk ((by rw [hg]; exact (below_size zx16_5) : w.heap.size ≤ bb)); replace HB := Aside0.mk (below_step zx16_5 hb); clear hb hbox hg) | ((with_reducible refine gate_dst (N := 4) rfl ?_); refine box_event ?hg (N := 4) ?hd (cs := #[.int .u64 0, .int .u64 0, .slice none 0 0]) (t := 57) ?hr ?_; (case hd => rfl); (case hg => rfl); (case hr => first | (go_simp; done) | (go_simp; rfl)); intro bc hg w6 hbox hb; have bh := Aside0.mk (hbox); have dy := Aside0.mk ((by rw [hg]; exact (below_size zx16_4) : w.heap.size ≤ bc)); have bO := Aside0.mk ((by rw [hg]; exact (below_size zx16_4) : w.heap.size ≤ bc)); replace HB := Aside0.mk (below_step zx16_4 hb); have bH := Aside0.mk ((by rw [hg]; exact Nat.ne_of_lt (blk_lt (g := bb) (o := .cells #[.int .u64 bk, .int .u64 bj, .slice bo bi.length bn] 57 (0, 0)) zx16_0) : bb ≠ bc)); have bE := Aside0.mk ((by rw [hg]; exact Nat.ne_of_gt (blk_lt (g := bb) (o := .cells #[.int .u64 bk, .int .u64 bj, .slice bo bi.length bn] 57 (0, 0)) zx16_0) : bc ≠ bb)); replace bd := Aside0.mk (blk_below (g := bb) (o := .cells #[.int .u64 bk, .int .u64 bj, .slice bo bi.length bn] 57 (0, 0)) zx16_0 hb); clear hb hbox hg; have gO := bH.out; have gN := bE.out; have gm : w6.cell? ⟨bb, 0, none⟩ = some (.int .u64 bk) := (blk_cell bd.out 0).trans rfl; have gl : w6.cell? ⟨bb, 1, none⟩ = some (.int .u64 bj) := (blk_cell bd.out 1).trans rfl; have gk : w6.cell? ⟨bb, 2, none⟩ = some (.slice bo bi.length bn) := (blk_cell bd.out 2).trans rfl; have gj := blk_frozen bd.out 0; have gi := blk_frozen bd.out 1; have gh := blk_frozen bd.out 2) | ((with_reducible refine gate_callee (f := 46) rfl ?_); refine goesL_ (some 10) rfl rfl Tryd.func46 (by kernel_rfl) rfl #[.agg #[.int .u64 bk, .int .u64 bj, .slice bo bi.length bn], .string a1] rfl zx16_7 ?_; (with_reducible refine (postroomref10_place.calls k bk bj _ _ bi a1 be _ ?side1 ?side2 A3.out).mono ?_); (case side1 => repeat (first | exact (Kd.C_below b1.out HB.out) | (with_reducible refine Kd.C_alloc ?_ _) | (with_reducible refine Kd.C_drewN ?_ _) | (with_reducible refine Kd.C_drew ?_))); (case side2 => exact b2.out); rintro e w9 ⟨rfl, hb⟩; refine ⟨_, rfl, ?_⟩; replace bd := Aside0.mk (blk_below (g := bb) (o := .cells #[.int .u64 bk, .int .u64 bj, .slice bo bi.length bn] 57 (0, 0)) zx16_0 hb); replace bh := Aside0.mk (blk_below (g := bc) (o := .cells #[.int .u64 0, .int .u64 0, .slice none 0 0] 57 (0, 0)) zx16_2 hb); replace HB := Aside0.mk (below_step zx16_3 hb); (try clear hb); (try clear hb2); (try clear hk); (try clear hi); have gf : w9.cell? ⟨bc, 0, none⟩ = some (.int .u64 0) := (blk_cell bh.out 0).trans rfl; have ge : w9.cell? ⟨bc, 1, none⟩ = some (.int .u64 0) := (blk_cell bh.out 1).trans rfl; have gc : w9.cell? ⟨bc, 2, none⟩ = some (.slice none 0 0) := (blk_cell bh.out 2).trans rfl; have dW := blk_frozen bh.out 0; have dV := blk_frozen bh.out 1; have dU := blk_frozen bh.out 2))
  refine bodyPost_ret (results_ct rfl _ _ bc 57 #[.int .u64 0, .int .u64 0, .slice none 0 0] (0, 0) _ rfl (by (with_reducible repeat (first | refine blk_drewN ?_ _ | refine blk_drew ?_ | refine blk_alloc ?_ _)); refine blk_put (cs := #[.int .u64 0, .int .u64 0, .slice none 0 0]) ?_ 2 _ rfl; (with_reducible repeat (first | refine blk_drewN ?_ _ | refine blk_drew ?_ | refine blk_alloc ?_ _)); refine blk_put (cs := #[.int .u64 0, .int .u64 0, .slice none 0 0]) ?_ 1 _ rfl; (with_reducible repeat (first | refine blk_drewN ?_ _ | refine blk_drew ?_ | refine blk_alloc ?_ _)); refine blk_put (cs := #[.int .u64 0, .int .u64 0, .slice none 0 0]) ?_ 0 _ rfl; (with_reducible repeat (first | refine blk_drewN ?_ _ | refine blk_drew ?_ | refine blk_alloc ?_ _)); exact bh.out) Tryd.underlying57 rfl (by kernel_rfl)) rfl ?_
  exact ⟨_, by first | rfl | (simp [errW_none, errW_some] <;> rfl) | (simp [*, errW_none, errW_some] <;> rfl), by first | exact Kd.S_nil _ _ _ _ _ | exact Kd.N_nil _ _ _ _ _ | exact Kd.V_nil _ _ _ _ _ | exact Kd.Q_nil _ _ _ _ _ | exact Kd.R_nil _ _ _ _ _, by repeat (first | (with_reducible first | exact HB.out | apply below_alloc | apply pw_below_drewN | apply below_drew1 | refine below_set ?_ bK.out | refine below_set ?_ bO.out) | exact HB.out)⟩
 rw [if_neg c4] at H
 have go : decide (be < 0) = false := decide_eq_false c4
 clear c4
 replace H := Option.bind_eq_some_iff.mp H
 obtain ⟨⟨bp, bu, bg⟩, dA, H⟩ := H
 replace H : ((some (([] : List (S84)) : List (S84))).bind fun bA => (if 0 ≤ be then (if be ≤ (bg.length : Int) then ((some (bg.take (be : Int).toNat : List (S84))).bind fun bz => (if bA.length + bz.length < 2932031007402 then ((some (bA ++ bz : List (S84))).bind fun br => (if 0 ≤ (wrap64 (be + 1)) then (if (wrap64 (be + 1)) ≤ (bg.length : Int) then ((some (bg.drop ((wrap64 (be + 1)) : Int).toNat : List (S84))).bind fun bl => (if br.length + bl.length < 2932031007402 then (some (bp, bu, (br ++ bl), 0)) else (none))) else (none)) else (none))) else (none))) else (none)) else (none))) = some (r1, r2, r3, r4) := H
 have A11 := Aside0.mk dA
 clear dA
 obtain ⟨bA, bU⟩ : ∃ y_ : List (S84), y_ = (([] : List (S84))) := ⟨_, rfl⟩
 replace H : (if 0 ≤ be then (if be ≤ (bg.length : Int) then ((some (bg.take (be : Int).toNat : List (S84))).bind fun bz => (if bA.length + bz.length < 2932031007402 then ((some (bA ++ bz : List (S84))).bind fun br => (if 0 ≤ (wrap64 (be + 1)) then (if (wrap64 (be + 1)) ≤ (bg.length : Int) then ((some (bg.drop ((wrap64 (be + 1)) : Int).toNat : List (S84))).bind fun bl => (if br.length + bl.length < 2932031007402 then (some (bp, bu, (br ++ bl), 0)) else (none))) else (none)) else (none))) else (none))) else (none)) else (none)) = some (r1, r2, r3, r4) := by first | (rw [bU]; with_reducible exact H) | (have H2_ := (Option.bind_some _ _).symm.trans H; rw [bU]; with_reducible exact H2_) | (have H2_ := (Option.bind_some _ _).symm.trans H; with_reducible exact H2_) | with_reducible exact H | (rw [bU]; exact H) | exact H
 have de := Aside0.mk bU
 clear bU
 by_cases c12 : 0 ≤ be
 case neg =>
  rw [if_neg c12] at H
  exact absurd H (by simp)

 rw [if_pos c12] at H
 have gD := eq_true c12
 have gC : decide (0 ≤ be) = true := decide_eq_true c12
 clear c12
 by_cases c13 : be ≤ (bg.length : Int)
 case neg =>
  rw [if_neg c13] at H
  exact absurd H (by simp)
 rw [if_pos c13] at H
 have gB := eq_true c13
 have gA : decide (be ≤ (bg.length : Int)) = true := decide_eq_true c13
 clear c13
 obtain ⟨bz, bS⟩ : ∃ y_ : List (S84), y_ = (bg.take (be : Int).toNat) := ⟨_, rfl⟩
 replace H : (if bA.length + bz.length < 2932031007402 then ((some (bA ++ bz : List (S84))).bind fun br => (if 0 ≤ (wrap64 (be + 1)) then (if (wrap64 (be + 1)) ≤ (bg.length : Int) then ((some (bg.drop ((wrap64 (be + 1)) : Int).toNat : List (S84))).bind fun bl => (if br.length + bl.length < 2932031007402 then (some (bp, bu, (br ++ bl), 0)) else (none))) else (none)) else (none))) else (none)) = some (r1, r2, r3, r4) := by first | (rw [bS]; with_reducible exact H) | (have H2_ := (Option.bind_some _ _).symm.trans H; rw [bS]; with_reducible exact H2_) | (have H2_ := (Option.bind_some _ _).symm.trans H; with_reducible exact H2_) | with_reducible exact H | (rw [bS]; exact H) | exact H
 have dd := Aside0.mk bS
 clear bS
 by_cases c14 : bA.length + bz.length < 2932031007402
 case neg =>
  rw [if_neg c14] at H
  exact absurd H (by simp)
 rw [if_pos c14] at H
 have dx := Aside0.mk c14
 clear c14
 obtain ⟨br, bR⟩ : ∃ y_ : List (S84), y_ = (bA ++ bz) := ⟨_, rfl⟩
 replace H : (if 0 ≤ (wrap64 (be + 1)) then (if (wrap64 (be + 1)) ≤ (bg.length : Int) then ((some (bg.drop ((wrap64 (be + 1)) : Int).toNat : List (S84))).bind fun bl => (if br.length + bl.length < 2932031007402 then (some (bp, bu, (br ++ bl), 0)) else (none))) else (none)) else (none)) = some (r1, r2, r3, r4) := by first | (rw [bR]; with_reducible exact H) | (have H2_ := (Option.bind_some _ _).symm.trans H; rw [bR]; with_reducible exact H2_) | (have H2_ := (Option.bind_some _ _).symm.trans H; with_reducible exact H2_) | with_reducible exact H | (rw [bR]; exact H) | exact H
 have dv := Aside0.mk bR
 clear bR
 obtain ⟨bB, bL⟩ : ∃ j_ : Int, (wrap64 (be + 1)) = j_ := ⟨_, rfl⟩
 replace H : (if 0 ≤ (bB) then (if (bB) ≤ (bg.length : Int) then ((some (bg.drop ((bB) : Int).toNat : List (S84))).bind fun bl => (if br.length + bl.length < 2932031007402 then (some (bp, bu, (br ++ bl), 0)) else (none))) else (none)) else (none)) = some (r1, r2, r3, r4) := by first | (rw [bL] at H; exact H) | (simp only [bL] at H ⊢; exact H)
 (try rw [bL] at A3)
 (try rw [bL] at A11)
 have hji15w : (IntKind.i64.wrap (be + 1)) = bB := (i64_w _).trans bL
 by_cases c16 : 0 ≤ (bB)
 case neg =>
  rw [if_neg c16] at H
  exact absurd H (by simp)
 rw [if_pos c16] at H
 have gz := eq_true c16
 have gy : decide (0 ≤ (bB)) = true := decide_eq_true c16
 clear c16
 by_cases c17 : (bB) ≤ (bg.length : Int)
 case neg =>
  rw [if_neg c17] at H
  exact absurd H (by simp)
 rw [if_pos c17] at H
 have gx := eq_true c17
 have gw : decide ((bB) ≤ (bg.length : Int)) = true := decide_eq_true c17
 clear c17
 obtain ⟨bl, bQ⟩ : ∃ y_ : List (S84), y_ = (bg.drop ((bB) : Int).toNat) := ⟨_, rfl⟩
 replace H : (if br.length + bl.length < 2932031007402 then (some (bp, bu, (br ++ bl), 0)) else (none)) = some (r1, r2, r3, r4) := by first | (rw [bQ]; with_reducible exact H) | (have H2_ := (Option.bind_some _ _).symm.trans H; rw [bQ]; with_reducible exact H2_) | (have H2_ := (Option.bind_some _ _).symm.trans H; with_reducible exact H2_) | with_reducible exact H | (rw [bQ]; exact H) | exact H
 have dc := Aside0.mk bQ
 clear bQ
 by_cases c18 : br.length + bl.length < 2932031007402
 case neg =>
  rw [if_neg c18] at H
  exact absurd H (by simp)
 rw [if_pos c18] at H
 have dw := Aside0.mk c18
 clear c18
 obtain ⟨b4, bP⟩ : ∃ y_ : List (S84), y_ = (br ++ bl) := ⟨_, rfl⟩
 replace H : (some (bp, bu, b4, 0)) = some (r1, r2, r3, r4) := by first | (rw [bP]; with_reducible exact H) | (have H2_ := (Option.bind_some _ _).symm.trans H; rw [bP]; with_reducible exact H2_) | (have H2_ := (Option.bind_some _ _).symm.trans H; with_reducible exact H2_) | with_reducible exact H | (rw [bP]; exact H) | exact H
 have du := Aside0.mk bP
 clear bP
 simp only [Option.some.injEq, Prod.mk.injEq] at H
 obtain ⟨rfl, rfl, rfl, rfl⟩ := H
 go_enter Tryd.func41, Tryd.ntmps41
 try go_wp2_with (first | ((with_reducible refine gate_dst (N := 2) rfl ?_); refine box_event ?hg (N := 2) ?hd (cs := #[.int .u64 bk, .int .u64 bj, .slice bo bi.length bn]) (t := 57) ?hr ?_; (case hd => rfl); (case hg => rfl); (case hr => first | (go_simp; done) | (go_simp; rfl)); intro bb hg w19 hbox hb; have bd := Aside0.mk (hbox); have dz := Aside0.mk ((by rw [hg]; exact (below_size zx16_5) : w.heap.size ≤ bb)); have bK := Aside0.mk ((by rw [hg]; exact (below_size zx16_5) : w.heap.size ≤ bb)); replace HB := Aside0.mk (below_step zx16_5 hb); clear hb hbox hg) | ((with_reducible refine gate_dst (N := 4) rfl ?_); refine box_event ?hg (N := 4) ?hd (cs := #[.int .u64 0, .int .u64 0, .slice none 0 0]) (t := 57) ?hr ?_; (case hd => rfl); (case hg => rfl); (case hr => first | (go_simp; done) | (go_simp; rfl)); intro bc hg w20 hbox hb; have bh := Aside0.mk (hbox); have dy := Aside0.mk ((by rw [hg]; exact (below_size zx16_4) : w.heap.size ≤ bc)); have bO := Aside0.mk ((by rw [hg]; exact (below_size zx16_4) : w.heap.size ≤ bc)); replace HB := Aside0.mk (below_step zx16_4 hb); have bH := Aside0.mk ((by rw [hg]; exact Nat.ne_of_lt (blk_lt (g := bb) (o := .cells #[.int .u64 bk, .int .u64 bj, .slice bo bi.length bn] 57 (0, 0)) zx16_0) : bb ≠ bc)); have bE := Aside0.mk ((by rw [hg]; exact Nat.ne_of_gt (blk_lt (g := bb) (o := .cells #[.int .u64 bk, .int .u64 bj, .slice bo bi.length bn] 57 (0, 0)) zx16_0) : bc ≠ bb)); replace bd := Aside0.mk (blk_below (g := bb) (o := .cells #[.int .u64 bk, .int .u64 bj, .slice bo bi.length bn] 57 (0, 0)) zx16_0 hb); clear hb hbox hg; have gu := bH.out; have gr := bE.out; have gb : w20.cell? ⟨bb, 0, none⟩ = some (.int .u64 bk) := (blk_cell bd.out 0).trans rfl; have ga : w20.cell? ⟨bb, 1, none⟩ = some (.int .u64 bj) := (blk_cell bd.out 1).trans rfl; have d9 : w20.cell? ⟨bb, 2, none⟩ = some (.slice bo bi.length bn) := (blk_cell bd.out 2).trans rfl; have dT := blk_frozen bd.out 0; have dS := blk_frozen bd.out 1; have dR := blk_frozen bd.out 2) | ((with_reducible refine gate_callee (f := 46) rfl ?_); refine goesL_ (some 10) rfl rfl Tryd.func46 (by kernel_rfl) rfl #[.agg #[.int .u64 bk, .int .u64 bj, .slice bo bi.length bn], .string a1] rfl zx16_7 ?_; (with_reducible refine (postroomref10_place.calls k bk bj _ _ bi a1 be _ ?side1 ?side2 A3.out).mono ?_); (case side1 => repeat (first | exact (Kd.C_below b1.out HB.out) | (with_reducible refine Kd.C_alloc ?_ _) | (with_reducible refine Kd.C_drewN ?_ _) | (with_reducible refine Kd.C_drew ?_))); (case side2 => exact b2.out); rintro e w23 ⟨rfl, hb⟩; refine ⟨_, rfl, ?_⟩; replace bd := Aside0.mk (blk_below (g := bb) (o := .cells #[.int .u64 bk, .int .u64 bj, .slice bo bi.length bn] 57 (0, 0)) zx16_0 hb); replace bh := Aside0.mk (blk_below (g := bc) (o := .cells #[.int .u64 0, .int .u64 0, .slice none 0 0] 57 (0, 0)) zx16_2 hb); replace HB := Aside0.mk (below_step zx16_3 hb); (try clear hb); (try clear hb2); (try clear hk); (try clear hi); have d8 : w23.cell? ⟨bb, 0, none⟩ = some (.int .u64 bk) := (blk_cell bd.out 0).trans rfl; have d7 : w23.cell? ⟨bb, 1, none⟩ = some (.int .u64 bj) := (blk_cell bd.out 1).trans rfl; have d6 : w23.cell? ⟨bb, 2, none⟩ = some (.slice bo bi.length bn) := (blk_cell bd.out 2).trans rfl; have dQ := blk_frozen bd.out 0; have dP := blk_frozen bd.out 1; have dO := blk_frozen bd.out 2) | ((with_reducible refine gate_callee (f := 53) rfl ?_); refine goesL_ (some 15) rfl rfl Tryd.func53 (by kernel_rfl) rfl #[.agg #[.int .u64 bk, .int .u64 bj, .slice bo bi.length bn]] rfl zx16_7 ?_; (with_reducible refine (postroomref10_copied.calls k bk bj _ _ bi bp bu bg _ ?side1 ?side2 A11.out).mono ?_); (case side1 => repeat (first | exact (Kd.C_below b1.out HB.out) | (with_reducible refine Kd.C_alloc ?_ _) | (with_reducible refine Kd.C_drewN ?_ _) | (with_reducible refine Kd.C_drew ?_))); (case side2 => exact b2.out); rintro e w25 ⟨gI, rfl, ho0, hb⟩; refine ⟨_, rfl, ?_⟩; have bx := Aside0.mk (Kd.N_lower (Kd.N_mono (ok' := fun k_ => (w.heap.size ≤ k_) ∧ k_ ≠ bb ∧ k_ ≠ bc) (Kd.S_N (Kd.S_bound ho0)) (fun k_ hk_ => ⟨(Nat.le_trans (below_size zx16_3) hk_.2.1), (Kd.freshB (g := bb) (o := .cells #[.int .u64 bk, .int .u64 bj, .slice bo bi.length bn] 57 (0, 0)) zx16_0 k_ hk_.2.1), (Kd.freshB (g := bc) (o := .cells #[.int .u64 0, .int .u64 0, .slice none 0 0] 57 (0, 0)) zx16_2 k_ hk_.2.1)⟩)) (below_size zx16_3)); replace bd := Aside0.mk (blk_below (g := bb) (o := .cells #[.int .u64 bk, .int .u64 bj, .slice bo bi.length bn] 57 (0, 0)) zx16_0 hb); replace bh := Aside0.mk (blk_below (g := bc) (o := .cells #[.int .u64 0, .int .u64 0, .slice none 0 0] 57 (0, 0)) zx16_2 hb); replace HB := Aside0.mk (below_step zx16_3 hb); (try clear hb); (try clear hb2); (try clear hk); (try clear hi); (try clear ho0)) | ((with_reducible refine gate_dst (N := 7) rfl ?_); refine box_event ?hg (N := 7) ?hd (cs := #[.int .u64 0, .int .u64 0, .slice none 0 0]) (t := 57) ?hr ?_; (case hd => rfl); (case hg => rfl); (case hr => first | (go_simp; done) | (go_simp; rfl)); intro ba hg w26 hbox hb; replace bx := Aside0.mk (Kd.N_below (Kd.N_elderB (by (with_reducible repeat (first | apply Kd.N_alloc | apply Kd.N_drewN | apply Kd.N_drew)); exact bx.out) ba (Nat.le_of_eq hg.symm)) hb); have bf := Aside0.mk (hbox); have gG := Aside0.mk ((by rw [hg]; exact (below_size zx16_3) : w.heap.size ≤ ba)); have b3 := Aside0.mk ((by rw [hg]; exact (below_size zx16_3) : w.heap.size ≤ ba)); replace HB := Aside0.mk (below_step zx16_3 hb); have bG := Aside0.mk ((by rw [hg]; exact Nat.ne_of_lt (blk_lt (g := bb) (o := .cells #[.int .u64 bk, .int .u64 bj, .slice bo bi.length bn] 57 (0, 0)) zx16_0) : bb ≠ ba)); have bN := Aside0.mk ((by rw [hg]; exact Nat.ne_of_gt (blk_lt (g := bb) (o := .cells #[.int .u64 bk, .int .u64 bj, .slice bo bi.length bn] 57 (0, 0)) zx16_0) : ba ≠ bb)); replace bd := Aside0.mk (blk_below (g := bb) (o := .cells #[.int .u64 bk, .int .u64 bj, .slice bo bi.length bn] 57 (0, 0)) zx16_0 hb); have bC := Aside0.mk ((by rw [hg]; exact Nat.ne_of_lt (blk_lt (g := bc) (o := .cells #[.int .u64 0, .int .u64 0, .slice none 0 0] 57 (0, 0)) zx16_2) : bc ≠ ba)); have bM := Aside0.mk ((by rw [hg]; exact Nat.ne_of_gt (blk_lt (g := bc) (o := .cells #[.int .u64 0, .int .u64 0, .slice none 0 0] 57 (0, 0)) zx16_2) : ba ≠ bc)); replace bh := Aside0.mk (blk_below (g := bc) (o := .cells #[.int .u64 0, .int .u64 0, .slice none 0 0] 57 (0, 0)) zx16_2 hb); clear hb hbox hg; have gt := bN.out; have gq := bG.out; have gs := bM.out; have gp := bC.out; have d5 : w26.cell? ⟨ba, 0, none⟩ = some (.int .u64 0) := (blk_cell bf.out 0).trans rfl; have d4 : w26.cell? ⟨ba, 1, none⟩ = some (.int .u64 0) := (blk_cell bf.out 1).trans rfl; have d3 : w26.cell? ⟨ba, 2, none⟩ = some (.slice none 0 0) := (blk_cell bf.out 2).trans rfl; have dN := blk_frozen bf.out 0; have dM := blk_frozen bf.out 1; have dL := blk_frozen bf.out 2; obtain ⟨bw, bq, gn⟩ := Kd.N_slice bx.out; subst gn))
 have n0_ : Aside0 (Kd.N k84 84 (((w26.setCell ⟨ba, 0, none⟩ (.int .u64 bp)).setCell ⟨ba, 1, none⟩ (.int .u64 bu)).setCell ⟨ba, 2, none⟩ (.slice bw bg.length bq)) w.heap.size (fun k_ => (w.heap.size ≤ k_) ∧ k_ ≠ bb ∧ k_ ≠ bc ∧ k_ ≠ ba) (.slice bw bg.length bq) bg) := ⟨by (with_reducible repeat (first | apply Kd.N_alloc | apply Kd.N_drewN | apply Kd.N_drew)); exact Kd.N_mono (Kd.N_far (p := ⟨ba, 2, none⟩) (Kd.N_far (p := ⟨ba, 1, none⟩) (Kd.N_far (p := ⟨ba, 0, none⟩) (Kd.N_mono bx.out (fun k_ hk => (⟨hk, hk.2⟩ : _ ∧ k_ ≠ ba))) (fun _ hk => hk.2) (.int .u64 bp)) (fun _ hk => hk.2) (.int .u64 bu)) (fun _ hk => hk.2) (.slice bw bg.length bq)) (fun _ hk => ⟨hk.1.1.1, ⟨hk.1.1.2.1, ⟨hk.1.1.2.2, hk.1.2⟩⟩⟩)⟩
 have n1_ : Aside0 ((((w26.setCell ⟨ba, 0, none⟩ (.int .u64 bp)).setCell ⟨ba, 1, none⟩ (.int .u64 bu)).setCell ⟨ba, 2, none⟩ (.slice bw bg.length bq)).heap[bb]? = some (.cells #[.int .u64 bk, .int .u64 bj, .slice bo bi.length bn] 57 (0, 0))) := ⟨by (iterate 3 ((with_reducible repeat (first | refine blk_drewN ?_ _ | refine blk_drew ?_ | refine blk_alloc ?_ _)); refine blk_far ?_ bG.out _)); (with_reducible repeat (first | refine blk_drewN ?_ _ | refine blk_drew ?_ | refine blk_alloc ?_ _)); exact bd.out⟩
 have n2_ : Aside0 ((((w26.setCell ⟨ba, 0, none⟩ (.int .u64 bp)).setCell ⟨ba, 1, none⟩ (.int .u64 bu)).setCell ⟨ba, 2, none⟩ (.slice bw bg.length bq)).heap[bc]? = some (.cells #[.int .u64 0, .int .u64 0, .slice none 0 0] 57 (0, 0))) := ⟨by (iterate 3 ((with_reducible repeat (first | refine blk_drewN ?_ _ | refine blk_drew ?_ | refine blk_alloc ?_ _)); refine blk_far ?_ bC.out _)); (with_reducible repeat (first | refine blk_drewN ?_ _ | refine blk_drew ?_ | refine blk_alloc ?_ _)); exact bh.out⟩
 have n3_ : Aside0 ((((w26.setCell ⟨ba, 0, none⟩ (.int .u64 bp)).setCell ⟨ba, 1, none⟩ (.int .u64 bu)).setCell ⟨ba, 2, none⟩ (.slice bw bg.length bq)).heap[ba]? = some (.cells #[.int .u64 bp, .int .u64 bu, .slice bw bg.length bq] 57 (0, 0))) := ⟨by (with_reducible repeat (first | refine blk_drewN ?_ _ | refine blk_drew ?_ | refine blk_alloc ?_ _)); refine blk_put (cs := #[.int .u64 bp, .int .u64 bu, .slice none 0 0]) ?_ 2 _ rfl; (with_reducible repeat (first | refine blk_drewN ?_ _ | refine blk_drew ?_ | refine blk_alloc ?_ _)); refine blk_put (cs := #[.int .u64 bp, .int .u64 0, .slice none 0 0]) ?_ 1 _ rfl; (with_reducible repeat (first | refine blk_drewN ?_ _ | refine blk_drew ?_ | refine blk_alloc ?_ _)); refine blk_put (cs := #[.int .u64 0, .int .u64 0, .slice none 0 0]) ?_ 0 _ rfl; (with_reducible repeat (first | refine blk_drewN ?_ _ | refine blk_drew ?_ | refine blk_alloc ?_ _)); exact bf.out⟩
 have n4_ : Aside0 (Below w.heap.size w (((w26.setCell ⟨ba, 0, none⟩ (.int .u64 bp)).setCell ⟨ba, 1, none⟩ (.int .u64 bu)).setCell ⟨ba, 2, none⟩ (.slice bw bg.length bq))) := ⟨by repeat (first | (with_reducible first | exact HB.out | apply below_alloc | apply pw_below_drewN | apply below_drew1 | refine below_set ?_ bK.out | refine below_set ?_ bO.out | refine below_set ?_ b3.out) | exact HB.out)⟩
 (try clear bx)
 (try clear bd)
 (try clear bh)
 (try clear bf)
 (try clear HB)
 generalize (((w26.setCell ⟨ba, 0, none⟩ (.int .u64 bp)).setCell ⟨ba, 1, none⟩ (.int .u64 bu)).setCell ⟨ba, 2, none⟩ (.slice bw bg.length bq)) = w31 at n0_ n1_ n2_ n3_ n4_ ⊢
 have bx := n0_
 have bd := n1_
 have bh := n2_
 have bf := n3_
 have HB := n4_
 clear n0_ n1_ n2_ n3_ n4_
 replace bx := Aside0.mk (Kd.N_drew bx.out)
 replace bd := Aside0.mk (blk_drew bd.out)
 replace bh := Aside0.mk (blk_drew bh.out)
 replace bf := Aside0.mk (blk_drew bf.out)
 replace HB := Aside0.mk (below_drew1 HB.out)
 have q33 : (be : Int) ≤ ((bg.length : Int) : Int) := of_decide_eq_true (by first | (with_reducible assumption) | assumption)
 obtain ⟨gK, da, _, dp, _⟩ := info_parts info84
 have bY : bg.length ≤ bq := (Kd.N_reads' bx.out).2.1
 have dr : Kd.F k84 _ _ bw bg.length bg := (Kd.V_at (base := w.heap.size) (Kd.N_V bx.out)).2.2
 have dl := cut_to (P := Tryd.prog) 55 84 .i64 Tryd.underlying55 da bw bg.length bq be (of_decide_eq_true (by first | (with_reducible assumption) | assumption)) q33 bY
 have dj := Kd.F_take (m := (be : Int).toNat) dr (by omega)
 have di : bz.length = (be : Int).toNat := (by rw [dd.out, List.length_take]; omega)
 rw [← dd.out] at dj
 rw [← di] at dl
 have bJ := Aside0.mk (show Kd.V k84 84 _ w.heap.size _ (.slice bw bz.length bq) bz from Kd.V_mk (by omega) dj)
 have gF := Aside0.mk (show bz.length ≤ bq from by omega)
 clear dj dr bY da dp
 have gQ := Aside0.mk di
 clear di
 replace q33 := eq_true q33
 have q34 : ((bB) : Int) ≤ ((bg.length : Int) : Int) := of_decide_eq_true (by first | (with_reducible assumption) | assumption)
 obtain ⟨gJ, b9, _, b7, _⟩ := info_parts info84
 have bI : bg.length ≤ bq := (Kd.N_reads' bx.out).2.1
 have dq : Kd.F k84 _ _ bw bg.length bg := (Kd.V_at (base := w.heap.size) (Kd.N_V bx.out)).2.2
 have gg : (0 : Int) ≤ ((bB) : Int) := of_decide_eq_true (by first | (with_reducible assumption) | assumption)
 have dk := cut_from (P := Tryd.prog) 55 84 .i64 Tryd.underlying55 b9 3 b7 bw bg.length bq (bB) gg q34
 have b0 := Kd.F_cut (m := ((bB) : Int).toNat) (c := bq) dq (by omega) bI
 obtain ⟨A34, b6⟩ : ∃ A1, A1 = (if bq = ((bB) : Int).toNat then bw else (bw : Option Addr).map (·.add (((bB) : Int).toNat * 3))) := ⟨_, rfl⟩
 obtain ⟨c34, b5⟩ : ∃ c1, c1 = bq - ((bB) : Int).toNat := ⟨_, rfl⟩
 have bZ : bl.length = bg.length - ((bB) : Int).toNat := (by rw [dc.out, List.length_drop] <;> omega)
 rw [show (bg).drop ((bB) : Int).toNat = bl from dc.out.symm] at b0
 replace b0 : Kd.F k84 _ _ A34 bl.length bl := (by rw [b6]; exact b0)
 rw [← bZ, ← b6, ← b5] at dk
 have bD := Aside0.mk (show Kd.V k84 84 _ w.heap.size _ (.slice A34 bl.length c34) bl from Kd.V_mk (by rw [bZ, b5]; exact Nat.sub_le_sub_right bI _) b0)
 have gE := Aside0.mk (show bl.length ≤ c34 from by rw [bZ, b5]; exact Nat.sub_le_sub_right bI _)
 clear b0 dq bI b9 b7 b5
 have gP := Aside0.mk bZ
 have gR := Aside0.mk b6
 clear bZ b6
 replace q34 := eq_true q34
 refine start_ (n := 14) (S := fun w' => w'.cell? ⟨ba, 0, none⟩ = some (.int .u64 bp) ∧ w'.cell? ⟨ba, 1, none⟩ = some (.int .u64 bu) ∧ w'.cell? ⟨ba, 2, none⟩ = some (.slice bw bg.length bq)) (ds := [13]) #[Ff,Ff,Ff,Ff,Ff,Ff,Ff,Ff,Ff,Ff,Ff,Ff,Ff,Ff] (by kernel_rfl) rfl rfl ⟨(blk_cell bf.out 0).trans rfl, (blk_cell bf.out 1).trans rfl, (blk_cell bf.out 2).trans rfl⟩ (fun hHeld => ?_); refine with_tabW postroomref10_Leave.tab5 postroomref10_Leave.bits5 (fun HT_ HW_ => ?_)
 generalize w31.drew = w32 at bx bd bh bf HB bJ bD hHeld ⊢
 refine pp_ 1 (some 17) HT_.out ?_
 refine pp_ 3 (some 19) HT_.out ?_
 refine pp_ 6 (some 22) HT_.out ?_
 refine pp_ 8 (some 24) HT_.out ?_
 refine pp_ 9 (some 25) HT_.out ?_
 refine take_ (i := 2) (N := some 18) (v := ?_) (a' := ?_) #[Ff,Tt,Tt,Tt,Ff,Ff,Tt,Ff,Tt,Tt,Ff,Ff,Ff,Ff] rfl rfl (take_ofW HT_.out HW_.out (by kernel_rfl)) (fun _ _ _ h => h) (Or.inl ⟨by rfl, ?_⟩) hHeld ?_ ?_
 rotate_left
 ·rintro w' ⟨s0, s1, s2⟩
  go_simp
  with_reducible rfl
 rotate_left
 ·simp only [Act.put, List.setIfInBounds_toArray, List.set_cons_zero, List.set_cons_succ, i64_w, i32_w]
  rfl
 refine pp_ 4 (some 20) HT_.out ?_
 refine take_ (i := 7) (N := some 23) (v := ?_) (a' := ?_) #[Ff,Tt,Tt,Tt,Tt,Ff,Tt,Tt,Tt,Tt,Ff,Ff,Ff,Ff] rfl rfl (take_ofW HT_.out HW_.out (by kernel_rfl)) (fun _ _ _ h => h) (Or.inl ⟨by rfl, ?_⟩) hHeld ?_ ?_
 rotate_left
 ·rintro w' ⟨s0, s1, s2⟩
  go_simp
  with_reducible rfl
 rotate_left
 ·simp only [Act.put, List.setIfInBounds_toArray, List.set_cons_zero, List.set_cons_succ, i64_w, i32_w]
  rfl
 refine pp_ 10 (some 26) HT_.out ?_
 refine one_ (i := 0) (N := some 16) #[Tt,Tt,Tt,Tt,Tt,Ff,Tt,Tt,Tt,Tt,Tt,Ff,Ff,Ff] rfl rfl (one_of HT_.out (by kernel_rfl)) (by decide) (fun K hK => ?_)
 refine Kd.N_lit_step k84 _ 84 ?hg (N' := 16) ?hd (xs := ([] : List (S84))) (inner := []) (ok := (fun k_ => (w.heap.size ≤ k_) ∧ some k_ ≠ (.slice bw bg.length bq : Value).ownBlock ∧ k_ ≠ bb ∧ k_ ≠ bc ∧ k_ ≠ ba)) (okp := (fun k_ => (w.heap.size ≤ k_) ∧ some k_ ≠ (.slice bw bg.length bq : Value).ownBlock ∧ k_ ≠ bb ∧ k_ ≠ bc ∧ k_ ≠ ba)) ?hr ?hp (fun _ hk => hk) ((show ∀ k_, w32.heap.size ≤ k_ → (fun k_ => (w.heap.size ≤ k_) ∧ some k_ ≠ (.slice bw bg.length bq : Value).ownBlock ∧ k_ ≠ bb ∧ k_ ≠ bc ∧ k_ ≠ ba) k_ from fun k_ hk => ⟨(Nat.le_trans (below_size zx16_1) hk), Kd.fresh' (Kd.N_lt (by (with_reducible repeat (first | apply Kd.N_alloc | apply Kd.N_drewN | apply Kd.N_drew)); exact bx.out)) k_ hk, Kd.freshB (g := bb) (o := .cells #[.int .u64 bk, .int .u64 bj, .slice bo bi.length bn] 57 (0, 0)) zx16_0 k_ hk, Kd.freshB (g := bc) (o := .cells #[.int .u64 0, .int .u64 0, .slice none 0 0] 57 (0, 0)) zx16_2 k_ hk, Kd.freshB (g := ba) (o := .cells #[.int .u64 bp, .int .u64 bu, .slice bw bg.length bq] 57 (0, 0)) zx16_6 k_ hk⟩) _ (Nat.le_refl _)) (Below.refl _ _) (Nat.le_refl _) (by simp) ?_; (case hd => rfl); (case hg => rfl); (case hr => first | (go_simp; done) | (go_simp; rfl)); (case hp => exact (Reps.none _ _))
 intro dh w35 bX hb hg_ hnew_
 clear hg_ hnew_
 (first | rw [← de.out] at bX | (simp only [Int.reduceToNat] at bX; rw [← de.out] at bX))
 have n1_ := Aside0.mk (Kd.V_elder' (by (with_reducible repeat (first | apply Kd.V_alloc | apply Kd.V_drewN | apply Kd.V_drew)); exact bJ.out) (Kd.N_base bX) hb)
 have n2_ := Aside0.mk (Kd.V_elder' (by (with_reducible repeat (first | apply Kd.V_alloc | apply Kd.V_drewN | apply Kd.V_drew)); exact bD.out) (Kd.N_base bX) hb)
 have n3_ := Aside0.mk (Kd.N_lower bX (below_size zx16_1))
 have n4_ := Aside0.mk (blk_below (g := bb) (o := .cells #[.int .u64 bk, .int .u64 bj, .slice bo bi.length bn] 57 (0, 0)) zx16_0 hb)
 have n5_ := Aside0.mk (blk_below (g := bc) (o := .cells #[.int .u64 0, .int .u64 0, .slice none 0 0] 57 (0, 0)) zx16_2 hb)
 have n6_ := Aside0.mk (blk_below (g := ba) (o := .cells #[.int .u64 bp, .int .u64 bu, .slice bw bg.length bq] 57 (0, 0)) zx16_6 hb)
 have n7_ := Aside0.mk (below_step zx16_1 hb)
 (try clear bx)
 (try clear bJ)
 (try clear bD)
 clear bd
 clear bh
 clear bf
 clear HB
 have bJ := n1_
 have bD := n2_
 have bW := n3_
 have bd := n4_
 have bh := n5_
 have bf := n6_
 have HB := n7_
 clear n1_ n2_ n3_ n4_ n5_ n6_ n7_
 clear hb bX
 refine hK.out _ _ ⟨(blk_cell bf.out 0).trans rfl, (blk_cell bf.out 1).trans rfl, (blk_cell bf.out 2).trans rfl⟩ (fun hHeld => ?_)
 clear hK K
 refine norm_ (a' := ?_) ?_ ?_
 rotate_left
 ·show Act.put _ (some 16) _ = _
  simp only [Act.put, List.setIfInBounds_toArray, List.set_cons_zero, List.set_cons_succ, i64_w, i32_w]
  rfl
 refine one_ (i := 5) (N := some 21) #[Tt,Tt,Tt,Tt,Tt,Tt,Tt,Tt,Tt,Tt,Tt,Ff,Ff,Ff] rfl rfl (one_of HT_.out (by kernel_rfl)) (by decide) (fun K hK => ?_)
 refine Kd.N_append_rows_step k84 (w0 := w) w.heap.size (by rfl) (.tmp 16) (.tmp 20) 55 84 (.agg #[(.string ⟨#[]⟩), (.int .u64 0), (.slice none 0 0)]) 48 rfl Tryd.underlying55 info84 rfl (by decide) (by omega) dh bA bz _ _ _ (fun k_ => (w.heap.size ≤ k_) ∧ k_ ≠ bb ∧ k_ ≠ bc ∧ k_ ≠ ba) (fun k_ => ((fun k_ => (w.heap.size ≤ k_) ∧ k_ ≠ bb ∧ k_ ≠ bc ∧ k_ ≠ ba)) k_ ∧ some k_ ≠ (dh : Value).ownBlock) rfl rfl ?aO ?aR (fun _ hk => hk) ?aF ?aB ?aS ?aL ?_
 (case aR => exact (by skip; exact Kd.V_F (Kd.V_mono (ok' := (fun k_ => ((fun k_ => (w.heap.size ≤ k_) ∧ k_ ≠ bb ∧ k_ ≠ bc ∧ k_ ≠ ba)) k_ ∧ some k_ ≠ (dh : Value).ownBlock)) (bJ.out) (fun k_ hk => ⟨⟨hk.1.1, ⟨hk.1.2.1, ⟨hk.1.2.2.1, hk.1.2.2.2⟩⟩⟩, hk.2⟩))))
 (case aB => exact zx16_1)
 (case aF => exact (fun k_ hk => ⟨(Nat.le_trans (below_size zx16_1) hk), Kd.freshB (g := bb) (o := .cells #[.int .u64 bk, .int .u64 bj, .slice bo bi.length bn] 57 (0, 0)) zx16_0 k_ hk, Kd.freshB (g := bc) (o := .cells #[.int .u64 0, .int .u64 0, .slice none 0 0] 57 (0, 0)) zx16_2 k_ hk, Kd.freshB (g := ba) (o := .cells #[.int .u64 bp, .int .u64 bu, .slice bw bg.length bq] 57 (0, 0)) zx16_6 k_ hk⟩))
 (case aO => exact (by (with_reducible repeat (first | apply Kd.N_alloc | apply Kd.N_drewN | apply Kd.N_drew)); exact Kd.N_mono bW.out (fun _ hk => ⟨hk.1, ⟨hk.2.2.1, ⟨hk.2.2.2.1, hk.2.2.2.2⟩⟩⟩)))
 (case aS => exact (below_size zx16_1))
 (case aL => have := dx.out; omega)
 intro dg w37 ho hb hg hat
 rw [← dv.out] at ho
 have n0_ := Aside0.mk (blk_grown (g := bb) (o := .cells #[.int .u64 bk, .int .u64 bj, .slice bo bi.length bn] 57 (0, 0)) zx16_0 hg (Kd.N_ne bW.out bd.out (by decide)))
 have n1_ := Aside0.mk (blk_grown (g := bc) (o := .cells #[.int .u64 0, .int .u64 0, .slice none 0 0] 57 (0, 0)) zx16_2 hg (Kd.N_ne bW.out bh.out (by decide)))
 have n3_ := Aside0.mk (blk_grown (g := ba) (o := .cells #[.int .u64 bp, .int .u64 bu, .slice bw bg.length bq] 57 (0, 0)) zx16_6 hg (Kd.N_ne bW.out bf.out (by decide)))
 have n5_ := Aside0.mk (Kd.V_afterv (ok := (fun k_ => (w.heap.size ≤ k_) ∧ k_ ≠ bb ∧ k_ ≠ bc ∧ k_ ≠ ba)) (by (with_reducible repeat (first | apply Kd.V_alloc | apply Kd.V_drewN | apply Kd.V_drew)); exact bD.out) hg hat)
 have n6_ := Aside0.mk (hb)
 have n7_ := Aside0.mk (ho)
 clear bd
 clear bh
 (try clear bx)
 clear bf
 (try clear bJ)
 (try clear bD)
 clear HB
 (try clear bW)
 have bd := n0_
 have bh := n1_
 have bf := n3_
 have bD := n5_
 have HB := n6_
 have bV := n7_
 clear n0_ n1_ n3_ n5_ n6_ n7_
 clear ho hb hg hat
 refine hK.out _ _ ⟨(blk_cell bf.out 0).trans rfl, (blk_cell bf.out 1).trans rfl, (blk_cell bf.out 2).trans rfl⟩ (fun hHeld => ?_)
 clear hK K
 refine norm_ (a' := ?_) ?_ ?_
 rotate_left
 ·show Act.put _ (some 21) _ = _
  simp only [Act.put, List.setIfInBounds_toArray, List.set_cons_zero, List.set_cons_succ, i64_w, i32_w]
  rfl
 refine one_ (i := 11) (N := some 27) #[Tt,Tt,Tt,Tt,Tt,Tt,Tt,Tt,Tt,Tt,Tt,Tt,Ff,Ff] rfl rfl (one_of HT_.out (by kernel_rfl)) (by decide) (fun K hK => ?_)
 refine Kd.N_append_rows_step k84 (w0 := w) w.heap.size (by rfl) (.tmp 21) (.tmp 26) 55 84 (.agg #[(.string ⟨#[]⟩), (.int .u64 0), (.slice none 0 0)]) 48 rfl Tryd.underlying55 info84 rfl (by decide) (by omega) dg br bl _ _ _ (fun k_ => (w.heap.size ≤ k_) ∧ k_ ≠ bb ∧ k_ ≠ bc ∧ k_ ≠ ba) (fun k_ => ((fun k_ => (w.heap.size ≤ k_) ∧ k_ ≠ bb ∧ k_ ≠ bc ∧ k_ ≠ ba)) k_ ∧ some k_ ≠ (dg : Value).ownBlock) rfl rfl ?aO ?aR (fun _ hk => hk) ?aF ?aB ?aS ?aL ?_
 (case aR => exact (by skip; exact Kd.V_F (Kd.V_mono (ok' := (fun k_ => ((fun k_ => (w.heap.size ≤ k_) ∧ k_ ≠ bb ∧ k_ ≠ bc ∧ k_ ≠ ba)) k_ ∧ some k_ ≠ (dg : Value).ownBlock)) (bD.out) (fun k_ hk => ⟨⟨hk.1.1, ⟨hk.1.2.1, ⟨hk.1.2.2.1, hk.1.2.2.2⟩⟩⟩, hk.2⟩))))
 (case aB => exact zx16_1)
 (case aF => exact (fun k_ hk => ⟨(Nat.le_trans (below_size zx16_1) hk), Kd.freshB (g := bb) (o := .cells #[.int .u64 bk, .int .u64 bj, .slice bo bi.length bn] 57 (0, 0)) zx16_0 k_ hk, Kd.freshB (g := bc) (o := .cells #[.int .u64 0, .int .u64 0, .slice none 0 0] 57 (0, 0)) zx16_2 k_ hk, Kd.freshB (g := ba) (o := .cells #[.int .u64 bp, .int .u64 bu, .slice bw bg.length bq] 57 (0, 0)) zx16_6 k_ hk⟩))
 (case aO => exact (by (with_reducible repeat (first | apply Kd.N_alloc | apply Kd.N_drewN | apply Kd.N_drew)); exact bV.out))
 (case aS => exact (below_size zx16_1))
 (case aL => have := dw.out; omega)
 intro gH w38 ho hb hg hat
 rw [← du.out] at ho
 have n0_ := Aside0.mk (blk_grown (g := bb) (o := .cells #[.int .u64 bk, .int .u64 bj, .slice bo bi.length bn] 57 (0, 0)) zx16_0 hg (Kd.N_ne bV.out bd.out (by decide)))
 have n1_ := Aside0.mk (blk_grown (g := bc) (o := .cells #[.int .u64 0, .int .u64 0, .slice none 0 0] 57 (0, 0)) zx16_2 hg (Kd.N_ne bV.out bh.out (by decide)))
 have n3_ := Aside0.mk (blk_grown (g := ba) (o := .cells #[.int .u64 bp, .int .u64 bu, .slice bw bg.length bq] 57 (0, 0)) zx16_6 hg (Kd.N_ne bV.out bf.out (by decide)))
 have n6_ := Aside0.mk (hb)
 have n7_ := Aside0.mk (ho)
 clear bd
 clear bh
 (try clear bx)
 clear bf
 (try clear bJ)
 (try clear bD)
 clear HB
 (try clear bV)
 have bd := n0_
 have bh := n1_
 have bf := n3_
 have HB := n6_
 have df := n7_
 clear n0_ n1_ n3_ n6_ n7_
 clear ho hb hg hat
 obtain ⟨dn, dm, dt⟩ := Kd.N_slice df.out
 (first | subst dt | (injection dt with f1_ f2_ f3_; have f4_ := f1_.symm; have f5_ := f3_.symm; clear f1_ f2_ f3_; subst f4_; subst f5_))
 refine hK.out _ _ ⟨(blk_cell bf.out 0).trans rfl, (blk_cell bf.out 1).trans rfl, (blk_cell bf.out 2).trans rfl⟩ (fun hHeld => ?_)
 clear hK K
 refine norm_ (a' := ?_) ?_ ?_
 rotate_left
 ·show Act.put _ (some 27) _ = _
  simp only [Act.put, List.setIfInBounds_toArray, List.set_cons_zero, List.set_cons_succ, i64_w, i32_w]
  rfl
 refine pp_ 12 (some 28) HT_.out ?_
 refine last_ (i := 13) (N := none) #[Tt,Tt,Tt,Tt,Tt,Tt,Tt,Tt,Tt,Tt,Tt,Tt,Tt,Tt] rfl rfl (one_of HT_.out (by kernel_rfl)) (by decide) (fun K hK => ?_)
 have gM : w38.cell? ⟨ba, 2, none⟩ = some (.slice bw bg.length bq) := (blk_cell bf.out 2).trans rfl
 have gv := blk_frozen bf.out 2
 have dC := bG.out
 have dB := bC.out
 have dE := bN.out
 have dD := bM.out
 refine skip_ (w1 := ?_) (by rfl) rfl ?_ ?_
 rotate_left
 ·go_simp
  rfl
 refine hK.out _ _ ?_
 clear hK K
 refine done_ (done_of HT_.out (by kernel_rfl)) ?_
 obtain ⟨d2, d1, d0, dK, dJ, dI⟩ := cx16_bc3 bf.out
 obtain ⟨dZ, dY, dX, dH, dG, dF⟩ := cx16_bc3 bh.out
 try go_wp2
 refine bodyPost_ret (results_ct rfl _ _ bc 57 #[.int .u64 bp, .int .u64 bu, .slice dn b4.length dm] (0, 0) _ rfl (by (with_reducible repeat (first | refine blk_drewN ?_ _ | refine blk_drew ?_ | refine blk_alloc ?_ _)); refine blk_put (cs := #[.int .u64 bp, .int .u64 bu, .slice none 0 0]) ?_ 2 _ rfl; (with_reducible repeat (first | refine blk_drewN ?_ _ | refine blk_drew ?_ | refine blk_alloc ?_ _)); refine blk_put (cs := #[.int .u64 bp, .int .u64 0, .slice none 0 0]) ?_ 1 _ rfl; (with_reducible repeat (first | refine blk_drewN ?_ _ | refine blk_drew ?_ | refine blk_alloc ?_ _)); refine blk_put (cs := #[.int .u64 0, .int .u64 0, .slice none 0 0]) ?_ 0 _ rfl; (with_reducible repeat (first | refine blk_drewN ?_ _ | refine blk_drew ?_ | refine blk_alloc ?_ _)); refine blk_far ?_ bC.out _; (with_reducible repeat (first | refine blk_drewN ?_ _ | refine blk_drew ?_ | refine blk_alloc ?_ _)); exact bh.out) Tryd.underlying57 rfl (by kernel_rfl)) rfl ?_
 exact ⟨_, by first | rfl | (simp [errW_none, errW_some] <;> rfl) | (simp only [← bL]; first | rfl | (simp [errW_none, errW_some] <;> rfl)) | (simp [*, errW_none, errW_some] <;> rfl), by (with_reducible repeat (first | apply Kd.N_alloc | apply Kd.N_drewN | apply Kd.N_drew)); exact Kd.N_mono (Kd.N_far (p := ⟨bc, 2, none⟩) (Kd.N_far (p := ⟨bc, 1, none⟩) (Kd.N_far (p := ⟨bc, 0, none⟩) (Kd.N_far (p := ⟨ba, 2, none⟩) (Kd.N_mono (Kd.N_mono df.out (fun k_ hk => (⟨hk, hk.2.2.2⟩ : _ ∧ k_ ≠ ba))) (fun k_ hk => (⟨hk, hk.1.2.2.1⟩ : _ ∧ k_ ≠ bc))) (fun _ hk => hk.1.2) (.slice dn b4.length dm)) (fun _ hk => hk.2) (.int .u64 bp)) (fun _ hk => hk.2) (.int .u64 bu)) (fun _ hk => hk.2) (.slice dn b4.length dm)) (fun _ hk => hk.1.1.1), by repeat (first | (with_reducible first | exact HB.out | apply below_alloc | apply pw_below_drewN | apply below_drew1 | refine below_set ?_ bK.out | refine below_set ?_ bO.out | refine below_set ?_ b3.out) | exact HB.out)⟩
end Go.Proofs.YthhmpjapnkilcaaDoor.XLdg
end
section
/- What the functions of the translation answer, each as a plain Lean function, and that the code comes to it; for a law: its row. Conditions: none but those that each theorem names. Written by a program of this session (wip/xp). -/
namespace Go.Proofs.YthhmpjapnkilcaaDoor.XLdg
open Go.RowKit Go.Proofs.YthhmpjapnkilcaaDoorW.PrintWords Go.Proofs.YthhmpjapnkilcaaDoorW.PrintLast Go.Proofs.YthhmpjapnkilcaaDoorW.PrintMore
attribute [local go_sem] max2_int min2_int max_two min_two max_three min_three max_four min_four   -- for this text's walks alone
theorem zx17_2 {p : Prop} (h : p := by first | (with_reducible assumption) | assumption) : p := h
theorem zx17_3 {p : Prop} (h : p := by (with_reducible repeat (first | refine blk_drewN ?_ _ | refine blk_drew ?_ | refine blk_alloc ?_ _)); exact ba.out) : p := h
theorem zx17_0 {p : Prop} (h : p := by repeat (first | (with_reducible first | exact HB.out | apply below_alloc | apply pw_below_drewN | apply below_drew1) | exact HB.out)) : p := h
theorem zx17_1 {p : Prop} (h : p := by repeat (first | (with_reducible first | exact HB.out | apply below_alloc | apply pw_below_drewN | apply below_drew1 | refine below_set ?_ bp.out) | exact HB.out)) : p := h
set_option linter.unusedVariables false
set_option linter.unusedSimpArgs false

/-! ### postroomlaw10_kind: function 42 -/
def postroomlaw10_kind.f (a0 : Int) : Option (Int) := (postroomlaw10_pick.f a0 8).bind fun bl => (if 0 ≤ bl then (if bl < 8 then (some (bt (⟨#[97, 97, 97, 97, 114, 114, 114, 101]⟩ : ByteArray) bl)) else (none)) else (none))
set_option maxHeartbeats 8000000 in
set_option maxRecDepth 100000 in
theorem postroomlaw10_kind.calls (a0 : Int) (r : Int) (w : World) (h : postroomlaw10_kind.f a0 = some r) :
  Calls Tryd.prog 42 #[.int .i64 a0] w fun e w' => e = .returned (.int .u8 r) ∧ Drawn0 w w' := by
 have H : ((postroomlaw10_pick.f a0 8).bind fun bl => (if 0 ≤ bl then (if bl < 8 then (some (bt (⟨#[97, 97, 97, 97, 114, 114, 114, 101]⟩ : ByteArray) bl)) else (none)) else (none))) = some r := h
 clear h
 replace H := Option.bind_eq_some_iff.mp H
 obtain ⟨bl, A20, H⟩ := H
 replace H : (if 0 ≤ bl then (if bl < 8 then (some (bt (⟨#[97, 97, 97, 97, 114, 114, 114, 101]⟩ : ByteArray) bl)) else (none)) else (none)) = some r := H
 have A2 := Aside0.mk A20
 clear A20
 by_cases c3 : 0 ≤ bl
 case neg =>
  rw [if_neg c3] at H
  exact absurd H (by simp)

 rw [if_pos c3] at H
 have d5 : decide (0 ≤ bl) = true := decide_eq_true c3
 clear c3
 by_cases c4 : bl < 8
 case neg =>
  rw [if_neg c4] at H
  exact absurd H (by simp)
 rw [if_pos c4] at H
 have d4 : decide (bl < 8) = true := decide_eq_true c4
 clear c4
 obtain rfl := Option.some.inj H
 go_enter Tryd.func42, Tryd.ntmps42
 go_wp2_with ((with_reducible refine gate_callee (f := 15) rfl ?_); refine goesL_ (some 4) rfl rfl Tryd.func15 (by kernel_rfl) rfl #[.int .i64 a0, .int .i64 8] rfl (by (try simp only [List.map_toArray, List.map_cons, List.map_nil]); first | done | rfl | (simp only [List.length_drop, List.length_take]; rfl)) ?_; (with_reducible refine (postroomlaw10_pick.calls a0 8 bl _ A2.out).mono ?_); rintro e w' ⟨rfl, ⟨nd, rfl⟩⟩; refine ⟨_, rfl, ?_⟩; have p5 : 0 ≤ (bl : Int) := of_decide_eq_true zx17_2; have q5 : bl < (8 : Int) := of_decide_eq_true zx17_2; have hx5 := bt_at (⟨#[97, 97, 97, 97, 114, 114, 114, 101]⟩ : ByteArray) bl; replace p5 := eq_true p5; replace q5 := eq_true q5)
 go_ret
 exact ⟨by first | rfl | (simp; done) | (simp [*]; done), by repeat (first | exact Drawn0.refl _ | apply Drawn0.step)⟩
/-! ### postroomref10_Waits: function 29 -/
def postroomref10_Waits.f (k : Nat) (bi : Int) (bf : Int) (bc : List (S84)) (a1 : ByteArray) (a2 : Int) : Option (Bool) := (postroomref10_place.f k bi bf bc a1).bind fun bb => (if bb ≥ 0 then (if 0 ≤ bb then (if bb < (bc.length : Int) then (if a2 ≥ ((rd_T84 bc bb).f1) then (if a2 < bf then (if 0 ≤ (IntKind.u64.wrap (a2 - ((rd_T84 bc bb).f1))) then (if (IntKind.u64.wrap (a2 - ((rd_T84 bc bb).f1))) < (((rd_T84 bc bb).f2).length : Int) then (some ((rd ((rd_T84 bc bb).f2) (IntKind.u64.wrap (a2 - ((rd_T84 bc bb).f1)))) == 112)) else (none)) else (none)) else (some false)) else (some false)) else (none)) else (none)) else (some false))
set_option maxHeartbeats 8000000 in
set_option maxRecDepth 100000 in
theorem postroomref10_Waits.calls (k : Nat) (bi : Int) (bf : Int) (bn : Option Addr) (bm : Nat) (bc : List (S84)) (a1 : ByteArray) (a2 : Int) (r : Bool) (w : World) (bU : Kd.C k84 w bn bc.length bc) (bV : bc.length ≤ bm) (h : postroomref10_Waits.f k bi bf bc a1 a2 = some r) :
  Calls Tryd.prog 29 #[.agg #[.int .u64 bi, .int .u64 bf, .slice bn bc.length bm], .string a1, .int .u64 a2] w fun e w' => e = .returned (.bool r) ∧ Below w.heap.size w w' := by
 have d1 := Tryd.underlying57
 have bo := Aside0.mk bU
 have bN := Aside0.mk bV
 clear bU bV
 have HB := Aside0.mk (Below.refl w.heap.size w)
 have H : ((postroomref10_place.f k bi bf bc a1).bind fun bb => (if bb ≥ 0 then (if 0 ≤ bb then (if bb < (bc.length : Int) then (if a2 ≥ ((rd_T84 bc bb).f1) then (if a2 < bf then (if 0 ≤ (IntKind.u64.wrap (a2 - ((rd_T84 bc bb).f1))) then (if (IntKind.u64.wrap (a2 - ((rd_T84 bc bb).f1))) < (((rd_T84 bc bb).f2).length : Int) then (some ((rd ((rd_T84 bc bb).f2) (IntKind.u64.wrap (a2 - ((rd_T84 bc bb).f1)))) == 112)) else (none)) else (none)) else (some false)) else (some false)) else (none)) else (none)) else (some false))) = some r := h
 clear h
 replace H := Option.bind_eq_some_iff.mp H
 obtain ⟨bb, A40, H⟩ := H
 replace H : (if bb ≥ 0 then (if 0 ≤ bb then (if bb < (bc.length : Int) then (if a2 ≥ ((rd_T84 bc bb).f1) then (if a2 < bf then (if 0 ≤ (IntKind.u64.wrap (a2 - ((rd_T84 bc bb).f1))) then (if (IntKind.u64.wrap (a2 - ((rd_T84 bc bb).f1))) < (((rd_T84 bc bb).f2).length : Int) then (some ((rd ((rd_T84 bc bb).f2) (IntKind.u64.wrap (a2 - ((rd_T84 bc bb).f1)))) == 112)) else (none)) else (none)) else (some false)) else (some false)) else (none)) else (none)) else (some false)) = some r := H
 have A4 := Aside0.mk A40
 clear A40
 by_cases c5 : bb ≥ 0
 case neg =>
  rw [if_neg c5] at H
  have dT : decide (0 ≤ bb) = false := decide_eq_false c5
  clear c5
  obtain rfl := Option.some.inj H
  go_enter Tryd.func29, Tryd.ntmps29
  go_wp2_with (first | ((with_reducible refine gate_dst (N := 3) rfl ?_); refine box_event ?hg (N := 3) ?hd (cs := #[.int .u64 bi, .int .u64 bf, .slice bn bc.length bm]) (t := 57) ?hr ?_; (case hd => rfl); (case hg => rfl); (case hr => first | (go_simp; done) | (go_simp; rfl)); intro bd hg w25 hbox hb; have ba := Aside0.mk (hbox); have bQ := Aside0.mk ((by rw [hg]; exact (below_size zx17_0) : w.heap.size ≤ bd)); have bp := Aside0.mk ((by rw [hg]; exact (below_size zx17_0) : w.heap.size ≤ bd)); replace HB := Aside0.mk (below_step zx17_0 hb); clear hb hbox hg; have ds : w25.cell? ⟨bd, 0, none⟩ = some (.int .u64 bi) := (blk_cell ba.out 0).trans rfl; have dr : w25.cell? ⟨bd, 1, none⟩ = some (.int .u64 bf) := (blk_cell ba.out 1).trans rfl; have dq : w25.cell? ⟨bd, 2, none⟩ = some (.slice bn bc.length bm) := (blk_cell ba.out 2).trans rfl; have b6 := blk_frozen ba.out 0; have b5 := blk_frozen ba.out 1; have b4 := blk_frozen ba.out 2) | (go_at_call 46; (with_reducible refine (postroomref10_place.calls k bi bf _ _ bc a1 bb _ ?side1 ?side2 A4.out).mono ?_); (case side1 => repeat (first | exact (Kd.C_below bo.out HB.out) | (with_reducible refine Kd.C_alloc ?_ _) | (with_reducible refine Kd.C_drewN ?_ _) | (with_reducible refine Kd.C_drew ?_))); (case side2 => exact bN.out); rintro e w27 ⟨rfl, hb⟩; replace ba := Aside0.mk (blk_below (g := bd) (o := .cells #[.int .u64 bi, .int .u64 bf, .slice bn bc.length bm] 57 (0, 0)) zx17_3 hb); replace HB := Aside0.mk (below_step zx17_1 hb); (try clear hb); (try clear hb2); (try clear hk); (try clear hi)))
  repeat (go_quiet (fail); try go_wp2_with (fail))
  go_ret
  exact ⟨by first | rfl | (simp [errW_none, errW_some] <;> rfl) | (simp [*, errW_none, errW_some] <;> rfl), by repeat (first | (with_reducible first | exact HB.out | apply below_alloc | apply pw_below_drewN | apply below_drew1 | refine below_set ?_ bp.out) | exact HB.out)⟩

 rw [if_pos c5] at H
 have dT : decide (0 ≤ bb) = true := decide_eq_true c5
 clear c5
 by_cases c6 : 0 ≤ bb
 case neg =>
  rw [if_neg c6] at H
  exact absurd H (by simp)
 rw [if_pos c6] at H
 have d3 : decide (0 ≤ bb) = true := decide_eq_true c6
 clear c6
 by_cases c7 : bb < (bc.length : Int)
 case neg =>
  rw [if_neg c7] at H
  exact absurd H (by simp)
 rw [if_pos c7] at H
 have d2 : decide (bb < (bc.length : Int)) = true := decide_eq_true c7
 clear c7
 by_cases c8 : a2 ≥ ((rd_T84 bc bb).f1)
 case neg =>
  rw [if_neg c8] at H
  have dS : decide (((rd_T84 bc bb).f1) ≤ a2) = false := decide_eq_false c8
  clear c8
  obtain rfl := Option.some.inj H
  go_enter Tryd.func29, Tryd.ntmps29
  go_wp2_with (first | ((with_reducible refine gate_dst (N := 3) rfl ?_); refine box_event ?hg (N := 3) ?hd (cs := #[.int .u64 bi, .int .u64 bf, .slice bn bc.length bm]) (t := 57) ?hr ?_; (case hd => rfl); (case hg => rfl); (case hr => first | (go_simp; done) | (go_simp; rfl)); intro bd hg w21 hbox hb; have ba := Aside0.mk (hbox); have bQ := Aside0.mk ((by rw [hg]; exact (below_size zx17_0) : w.heap.size ≤ bd)); have bp := Aside0.mk ((by rw [hg]; exact (below_size zx17_0) : w.heap.size ≤ bd)); replace HB := Aside0.mk (below_step zx17_0 hb); clear hb hbox hg; have dy : w21.cell? ⟨bd, 0, none⟩ = some (.int .u64 bi) := (blk_cell ba.out 0).trans rfl; have dx : w21.cell? ⟨bd, 1, none⟩ = some (.int .u64 bf) := (blk_cell ba.out 1).trans rfl; have dw : w21.cell? ⟨bd, 2, none⟩ = some (.slice bn bc.length bm) := (blk_cell ba.out 2).trans rfl; have dc := blk_frozen ba.out 0; have db := blk_frozen ba.out 1; have da := blk_frozen ba.out 2) | (go_at_call 46; (with_reducible refine (postroomref10_place.calls k bi bf _ _ bc a1 bb _ ?side1 ?side2 A4.out).mono ?_); (case side1 => repeat (first | exact (Kd.C_below bo.out HB.out) | (with_reducible refine Kd.C_alloc ?_ _) | (with_reducible refine Kd.C_drewN ?_ _) | (with_reducible refine Kd.C_drew ?_))); (case side2 => exact bN.out); rintro e w23 ⟨rfl, hb⟩; replace ba := Aside0.mk (blk_below (g := bd) (o := .cells #[.int .u64 bi, .int .u64 bf, .slice bn bc.length bm] 57 (0, 0)) zx17_3 hb); replace HB := Aside0.mk (below_step zx17_1 hb); (try clear hb); (try clear hb2); (try clear hk); (try clear hi); have dv : w23.cell? ⟨bd, 0, none⟩ = some (.int .u64 bi) := (blk_cell ba.out 0).trans rfl; have du : w23.cell? ⟨bd, 1, none⟩ = some (.int .u64 bf) := (blk_cell ba.out 1).trans rfl; have dt : w23.cell? ⟨bd, 2, none⟩ = some (.slice bn bc.length bm) := (blk_cell ba.out 2).trans rfl; have b9 := blk_frozen ba.out 0; have b8 := blk_frozen ba.out 1; have b7 := blk_frozen ba.out 2; have bw : 0 ≤ (bb : Int) := of_decide_eq_true zx17_2; have bu : bb < (bc.length : Int) := of_decide_eq_true zx17_2; obtain ⟨bK, bR, bP, bO, bh, bg, be, bj, bk⟩ := at_T84 bo.out bb bw bu; cases bO; replace bh := (HB.out.cell (World.block_lt_of_cell? w _ bh)).trans bh; replace bg := (HB.out.cell (World.block_lt_of_cell? w _ bg)).trans bg; replace be := (HB.out.cell (World.block_lt_of_cell? w _ be)).trans be; have bL := Aside0.mk bk; have bM := Aside0.mk bj; clear bk bj; replace bw := eq_true bw; replace bu := eq_true bu))
  repeat (go_quiet (fail); try go_wp2_with (fail))
  go_ret
  exact ⟨by first | rfl | (simp [errW_none, errW_some] <;> rfl) | (simp [*, errW_none, errW_some] <;> rfl), by repeat (first | (with_reducible first | exact HB.out | apply below_alloc | apply pw_below_drewN | apply below_drew1 | refine below_set ?_ bp.out) | exact HB.out)⟩
 rw [if_pos c8] at H
 have dS : decide (((rd_T84 bc bb).f1) ≤ a2) = true := decide_eq_true c8
 clear c8
 by_cases c9 : a2 < bf
 case neg =>
  rw [if_neg c9] at H
  have dR : decide (a2 < bf) = false := decide_eq_false c9
  clear c9
  obtain rfl := Option.some.inj H
  go_enter Tryd.func29, Tryd.ntmps29
  go_wp2_with (first | ((with_reducible refine gate_dst (N := 3) rfl ?_); refine box_event ?hg (N := 3) ?hd (cs := #[.int .u64 bi, .int .u64 bf, .slice bn bc.length bm]) (t := 57) ?hr ?_; (case hd => rfl); (case hg => rfl); (case hr => first | (go_simp; done) | (go_simp; rfl)); intro bd hg w17 hbox hb; have ba := Aside0.mk (hbox); have bQ := Aside0.mk ((by rw [hg]; exact (below_size zx17_0) : w.heap.size ≤ bd)); have bp := Aside0.mk ((by rw [hg]; exact (below_size zx17_0) : w.heap.size ≤ bd)); replace HB := Aside0.mk (below_step zx17_0 hb); clear hb hbox hg; have dE : w17.cell? ⟨bd, 0, none⟩ = some (.int .u64 bi) := (blk_cell ba.out 0).trans rfl; have dD : w17.cell? ⟨bd, 1, none⟩ = some (.int .u64 bf) := (blk_cell ba.out 1).trans rfl; have dC : w17.cell? ⟨bd, 2, none⟩ = some (.slice bn bc.length bm) := (blk_cell ba.out 2).trans rfl; have di := blk_frozen ba.out 0; have dh := blk_frozen ba.out 1; have dg := blk_frozen ba.out 2) | (go_at_call 46; (with_reducible refine (postroomref10_place.calls k bi bf _ _ bc a1 bb _ ?side1 ?side2 A4.out).mono ?_); (case side1 => repeat (first | exact (Kd.C_below bo.out HB.out) | (with_reducible refine Kd.C_alloc ?_ _) | (with_reducible refine Kd.C_drewN ?_ _) | (with_reducible refine Kd.C_drew ?_))); (case side2 => exact bN.out); rintro e w19 ⟨rfl, hb⟩; replace ba := Aside0.mk (blk_below (g := bd) (o := .cells #[.int .u64 bi, .int .u64 bf, .slice bn bc.length bm] 57 (0, 0)) zx17_3 hb); replace HB := Aside0.mk (below_step zx17_1 hb); (try clear hb); (try clear hb2); (try clear hk); (try clear hi); have dB : w19.cell? ⟨bd, 0, none⟩ = some (.int .u64 bi) := (blk_cell ba.out 0).trans rfl; have dA : w19.cell? ⟨bd, 1, none⟩ = some (.int .u64 bf) := (blk_cell ba.out 1).trans rfl; have dz : w19.cell? ⟨bd, 2, none⟩ = some (.slice bn bc.length bm) := (blk_cell ba.out 2).trans rfl; have df := blk_frozen ba.out 0; have de := blk_frozen ba.out 1; have dd := blk_frozen ba.out 2; have bw : 0 ≤ (bb : Int) := of_decide_eq_true zx17_2; have bu : bb < (bc.length : Int) := of_decide_eq_true zx17_2; obtain ⟨bK, bR, bP, bO, bh, bg, be, bj, bk⟩ := at_T84 bo.out bb bw bu; cases bO; replace bh := (HB.out.cell (World.block_lt_of_cell? w _ bh)).trans bh; replace bg := (HB.out.cell (World.block_lt_of_cell? w _ bg)).trans bg; replace be := (HB.out.cell (World.block_lt_of_cell? w _ be)).trans be; have bL := Aside0.mk bk; have bM := Aside0.mk bj; clear bk bj; replace bw := eq_true bw; replace bu := eq_true bu))
  repeat (go_quiet (fail); try go_wp2_with (fail))
  go_ret
  exact ⟨by first | rfl | (simp [errW_none, errW_some] <;> rfl) | (simp [*, errW_none, errW_some] <;> rfl), by repeat (first | (with_reducible first | exact HB.out | apply below_alloc | apply pw_below_drewN | apply below_drew1 | refine below_set ?_ bp.out) | exact HB.out)⟩
 rw [if_pos c9] at H
 have dR : decide (a2 < bf) = true := decide_eq_true c9
 clear c9
 obtain ⟨bx, bH⟩ : ∃ j_ : Int, (IntKind.u64.wrap (a2 - ((rd_T84 bc bb).f1))) = j_ := ⟨_, rfl⟩
 replace H : (if 0 ≤ (bx) then (if (bx) < (((rd_T84 bc bb).f2).length : Int) then (some ((rd ((rd_T84 bc bb).f2) (bx)) == 112)) else (none)) else (none)) = some r := by first | (rw [bH] at H; exact H) | (simp only [bH] at H ⊢; exact H)
 (try rw [bH] at A4)
 by_cases c11 : 0 ≤ (bx)
 case neg =>
  rw [if_neg c11] at H
  exact absurd H (by simp)
 rw [if_pos c11] at H
 have dZ : decide (0 ≤ (bx)) = true := decide_eq_true c11
 clear c11
 by_cases c12 : (bx) < (((rd_T84 bc bb).f2).length : Int)
 case neg =>
  rw [if_neg c12] at H
  exact absurd H (by simp)
 rw [if_pos c12] at H
 have dY : decide ((bx) < (((rd_T84 bc bb).f2).length : Int)) = true := decide_eq_true c12
 clear c12
 obtain rfl := Option.some.inj H
 go_enter Tryd.func29, Tryd.ntmps29
 go_wp2_with (first | ((with_reducible refine gate_dst (N := 3) rfl ?_); refine box_event ?hg (N := 3) ?hd (cs := #[.int .u64 bi, .int .u64 bf, .slice bn bc.length bm]) (t := 57) ?hr ?_; (case hd => rfl); (case hg => rfl); (case hr => first | (go_simp; done) | (go_simp; rfl)); intro bd hg w13 hbox hb; have ba := Aside0.mk (hbox); have bQ := Aside0.mk ((by rw [hg]; exact (below_size zx17_0) : w.heap.size ≤ bd)); have bp := Aside0.mk ((by rw [hg]; exact (below_size zx17_0) : w.heap.size ≤ bd)); replace HB := Aside0.mk (below_step zx17_0 hb); clear hb hbox hg; have dK : w13.cell? ⟨bd, 0, none⟩ = some (.int .u64 bi) := (blk_cell ba.out 0).trans rfl; have dJ : w13.cell? ⟨bd, 1, none⟩ = some (.int .u64 bf) := (blk_cell ba.out 1).trans rfl; have dI : w13.cell? ⟨bd, 2, none⟩ = some (.slice bn bc.length bm) := (blk_cell ba.out 2).trans rfl; have dp := blk_frozen ba.out 0; have dn := blk_frozen ba.out 1; have dm := blk_frozen ba.out 2) | (go_at_call 46; (with_reducible refine (postroomref10_place.calls k bi bf _ _ bc a1 bb _ ?side1 ?side2 A4.out).mono ?_); (case side1 => repeat (first | exact (Kd.C_below bo.out HB.out) | (with_reducible refine Kd.C_alloc ?_ _) | (with_reducible refine Kd.C_drewN ?_ _) | (with_reducible refine Kd.C_drew ?_))); (case side2 => exact bN.out); rintro e w15 ⟨rfl, hb⟩; replace ba := Aside0.mk (blk_below (g := bd) (o := .cells #[.int .u64 bi, .int .u64 bf, .slice bn bc.length bm] 57 (0, 0)) zx17_3 hb); replace HB := Aside0.mk (below_step zx17_1 hb); (try clear hb); (try clear hb2); (try clear hk); (try clear hi); have dH : w15.cell? ⟨bd, 0, none⟩ = some (.int .u64 bi) := (blk_cell ba.out 0).trans rfl; have dG : w15.cell? ⟨bd, 1, none⟩ = some (.int .u64 bf) := (blk_cell ba.out 1).trans rfl; have dF : w15.cell? ⟨bd, 2, none⟩ = some (.slice bn bc.length bm) := (blk_cell ba.out 2).trans rfl; have dl := blk_frozen ba.out 0; have dk := blk_frozen ba.out 1; have dj := blk_frozen ba.out 2; have bw : 0 ≤ (bb : Int) := of_decide_eq_true zx17_2; have bu : bb < (bc.length : Int) := of_decide_eq_true zx17_2; obtain ⟨bK, bR, bP, bO, bh, bg, be, bj, bk⟩ := at_T84 bo.out bb bw bu; cases bO; replace bh := (HB.out.cell (World.block_lt_of_cell? w _ bh)).trans bh; replace bg := (HB.out.cell (World.block_lt_of_cell? w _ bg)).trans bg; replace be := (HB.out.cell (World.block_lt_of_cell? w _ be)).trans be; have bL := Aside0.mk bk; have bM := Aside0.mk bj; clear bk bj; replace bw := eq_true bw; replace bu := eq_true bu; have b1 : 0 ≤ (bb : Int) := of_decide_eq_true zx17_2; have bY : bb < (bc.length : Int) := of_decide_eq_true zx17_2; obtain ⟨b3, dX, dV, dQ, bD, bC, br, bG, bJ⟩ := at_T84 bo.out bb b1 bY; obtain rfl : bK = b3 := (by injection dQ); replace bD := (HB.out.cell (World.block_lt_of_cell? w _ bD)).trans bD; replace bC := (HB.out.cell (World.block_lt_of_cell? w _ bC)).trans bC; replace br := (HB.out.cell (World.block_lt_of_cell? w _ br)).trans br; have bS := Aside0.mk bJ; have dN := Aside0.mk bG; clear bJ bG; replace b1 := eq_true b1; replace bY := eq_true bY; have ea_ := Option.some.inj (be.symm.trans br); injection ea_ with ea_ en_ ec_; subst ea_; subst ec_; clear en_; have b0 : 0 ≤ (bb : Int) := of_decide_eq_true zx17_2; have bX : bb < (bc.length : Int) := of_decide_eq_true zx17_2; obtain ⟨b2, dW, dU, dP, bB, bA, bq, bE, bI⟩ := at_T84 bo.out bb b0 bX; obtain rfl : bK = b2 := (by injection dP); replace bB := (HB.out.cell (World.block_lt_of_cell? w _ bB)).trans bB; replace bA := (HB.out.cell (World.block_lt_of_cell? w _ bA)).trans bA; replace bq := (HB.out.cell (World.block_lt_of_cell? w _ bq)).trans bq; have dL := Aside0.mk bI; have dM := Aside0.mk bE; clear bI bE; replace b0 := eq_true b0; replace bX := eq_true bX; have ea_ := Option.some.inj (be.symm.trans bq); injection ea_ with ea_ en_ ec_; subst ea_; subst ec_; clear en_; have bZ : 0 ≤ ((bx) : Int) := of_decide_eq_true zx17_2; have bW : (bx) < (((rd_T84 bc bb).f2).length : Int) := of_decide_eq_true zx17_2; obtain ⟨d0, dO, bz⟩ := Kd.at_int bS.out (bx) bZ bW; cases dO; replace bz := (HB.out.cell (World.block_lt_of_cell? w _ bz)).trans bz; replace bZ := eq_true bZ; replace bW := eq_true bW))
 repeat (go_quiet (fail); try go_wp2_with (fail))
 go_ret
 exact ⟨by first | rfl | (simp [errW_none, errW_some] <;> rfl) | (simp only [← bH]; first | rfl | (simp [errW_none, errW_some] <;> rfl)) | (simp [*, errW_none, errW_some] <;> rfl), by repeat (first | (with_reducible first | exact HB.out | apply below_alloc | apply pw_below_drewN | apply below_drew1 | refine below_set ?_ bp.out) | exact HB.out)⟩
end Go.Proofs.YthhmpjapnkilcaaDoor.XLdg
end
section
/- What the functions of the translation answer, each as a plain Lean function, and that the code comes to it; for a law: its row. Conditions: none but those that each theorem names. Written by a program of this session (wip/xp). -/
namespace Go.Proofs.YthhmpjapnkilcaaDoor.XLdg
open Go.RowKit Go.Proofs.YthhmpjapnkilcaaDoorW.PrintWords Go.Proofs.YthhmpjapnkilcaaDoorW.PrintLast Go.Proofs.YthhmpjapnkilcaaDoorW.PrintMore
attribute [local go_sem] max2_int min2_int max_two min_two max_three min_three max_four min_four   -- for this text's walks alone
set_option linter.unusedVariables false
set_option linter.unusedSimpArgs false

/-! ### ledger_Add: function 16 -/
def ledger_Add.f (bf : Int) (be : Int) (bd : List (S37)) : Option (Int × Int × (List (S37))) := (ledger_Dest_33.f bd).bind fun bn => (some (bf, IntKind.u64.wrap (be + 1), bn))
set_option maxHeartbeats 8000000 in
set_option maxRecDepth 100000 in
theorem ledger_Add.calls (bf : Int) (be : Int) (bm : Nat → Prop) (bi : Option Addr) (bh : Nat) (bd : List (S37)) (r1 : Int) (r2 : Int) (r3 : List (S37)) (w : World) (bw : Kd.V k37 37 w w.heap.size (fun k_ => bm k_) (.slice bi bd.length bh) bd) (h : ledger_Add.f bf be bd = some (r1, r2, r3)) :
  Calls Tryd.prog 16 #[.agg #[.int .u64 bf, .int .u64 be, .slice bi bd.length bh]] w fun e w' => ∃ v2_ : Value, e = .returned (.agg #[.int .u64 r1, .int .u64 r2, v2_]) ∧ Kd.N k37 37 w' w.heap.size (fun k_ => (bm k_ ∨ w.heap.size ≤ k_)) v2_ r3 ∧ Below w.heap.size w w' := by
 have b2 := Tryd.underlying27
 have bj := Aside0.mk (show Kd.V k37 37 w w.heap.size (fun k_ => (bm k_ ∨ w.heap.size ≤ k_)) (.slice bi bd.length bh) bd from Kd.V_mono bw (fun k_ hk => .inl hk))
 have HB := Aside0.mk (Below.refl w.heap.size w)
 have H : ((ledger_Dest_33.f bd).bind fun bn => (some (bf, IntKind.u64.wrap (be + 1), bn))) = some (r1, r2, r3) := h
 clear h
 replace H := Option.bind_eq_some_iff.mp H
 obtain ⟨bn, A20, H⟩ := H
 replace H : (some (bf, IntKind.u64.wrap (be + 1), bn)) = some (r1, r2, r3) := H
 have A2 := Aside0.mk A20
 clear A20
 simp only [Option.some.injEq, Prod.mk.injEq] at H
 obtain ⟨rfl, rfl, rfl⟩ := H
 go_enter Tryd.func16, Tryd.ntmps16
 go_wp2_with (first | ((with_reducible refine gate_dst (N := 1) rfl ?_); refine box_event ?hg (N := 1) ?hd (cs := #[.int .u64 bf, .int .u64 be, .slice bi bd.length bh]) (t := 27) ?hr ?_; (case hd => rfl); (case hg => rfl); (case hr => first | (go_simp; done) | (go_simp; rfl)); intro ba hg w3 hbox hb; replace bj := Aside0.mk (Kd.V_below (Kd.V_elderB (by (with_reducible repeat (first | apply Kd.V_alloc | apply Kd.V_drewN | apply Kd.V_drew)); exact bj.out) ba (Nat.le_of_eq hg.symm)) hb); have bb := Aside0.mk (hbox); have b0 := Aside0.mk ((by rw [hg]; exact (below_size (by repeat (first | (with_reducible first | exact HB.out | apply below_alloc | apply pw_below_drewN | apply below_drew1) | exact HB.out))) : w.heap.size ≤ ba)); have bl := Aside0.mk ((by rw [hg]; exact (below_size (by repeat (first | (with_reducible first | exact HB.out | apply below_alloc | apply pw_below_drewN | apply below_drew1) | exact HB.out))) : w.heap.size ≤ ba)); replace HB := Aside0.mk (below_step (by repeat (first | (with_reducible first | exact HB.out | apply below_alloc | apply pw_below_drewN | apply below_drew1) | exact HB.out)) hb); clear hb hbox hg) | ((with_reducible refine gate_dst (N := 2) rfl ?_); refine box_event ?hg (N := 2) ?hd (cs := #[.int .u64 0, .int .u64 0, .slice none 0 0]) (t := 27) ?hr ?_; (case hd => rfl); (case hg => rfl); (case hr => first | (go_simp; done) | (go_simp; rfl)); intro bc hg w4 hbox hb; replace bj := Aside0.mk (Kd.V_below (Kd.V_elderB (by (with_reducible repeat (first | apply Kd.V_alloc | apply Kd.V_drewN | apply Kd.V_drew)); exact bj.out) bc (Nat.le_of_eq hg.symm)) hb); have bg := Aside0.mk (hbox); have bZ := Aside0.mk ((by rw [hg]; exact (below_size (by repeat (first | (with_reducible first | exact HB.out | apply below_alloc | apply pw_below_drewN | apply below_drew1 | refine below_set ?_ bl.out) | exact HB.out))) : w.heap.size ≤ bc)); have bo := Aside0.mk ((by rw [hg]; exact (below_size (by repeat (first | (with_reducible first | exact HB.out | apply below_alloc | apply pw_below_drewN | apply below_drew1 | refine below_set ?_ bl.out) | exact HB.out))) : w.heap.size ≤ bc)); replace HB := Aside0.mk (below_step (by repeat (first | (with_reducible first | exact HB.out | apply below_alloc | apply pw_below_drewN | apply below_drew1 | refine below_set ?_ bl.out) | exact HB.out)) hb); have bp := Aside0.mk ((by rw [hg]; exact Nat.ne_of_lt (blk_lt (g := ba) (o := .cells #[.int .u64 bf, .int .u64 be, .slice bi bd.length bh] 27 (0, 0)) (by (with_reducible repeat (first | refine blk_drewN ?_ _ | refine blk_drew ?_ | refine blk_alloc ?_ _)); exact bb.out)) : ba ≠ bc)); have bk := Aside0.mk ((by rw [hg]; exact Nat.ne_of_gt (blk_lt (g := ba) (o := .cells #[.int .u64 bf, .int .u64 be, .slice bi bd.length bh] 27 (0, 0)) (by (with_reducible repeat (first | refine blk_drewN ?_ _ | refine blk_drew ?_ | refine blk_alloc ?_ _)); exact bb.out)) : bc ≠ ba)); replace bb := Aside0.mk (blk_below (g := ba) (o := .cells #[.int .u64 bf, .int .u64 be, .slice bi bd.length bh] 27 (0, 0)) (by (with_reducible repeat (first | refine blk_drewN ?_ _ | refine blk_drew ?_ | refine blk_alloc ?_ _)); exact bb.out) hb); clear hb hbox hg; have b4 := bp.out; have b3 := bk.out; have bX : w4.cell? ⟨ba, 0, none⟩ = some (.int .u64 bf) := (blk_cell bb.out 0).trans rfl; have bW : w4.cell? ⟨ba, 1, none⟩ = some (.int .u64 be) := (blk_cell bb.out 1).trans rfl; have bV : w4.cell? ⟨ba, 2, none⟩ = some (.slice bi bd.length bh) := (blk_cell bb.out 2).trans rfl; have bQ := blk_frozen bb.out 0; have bP := blk_frozen bb.out 1; have bO := blk_frozen bb.out 2) | ((with_reducible refine gate_store (t := 24) (p := 6) rfl ?_); refine store_event (t := 24) (p := 6) (v := ?vo_w7) (w1 := (w4.setCell ⟨ba, 1, none⟩ (.int .u64 (IntKind.u64.wrap (be + 1))))) ?hg ?ho ?hn ?hr ?_; (case ho => rfl); (case hg => rfl); (case hn => rfl); (case hr => first | (go_simp; done) | (go_simp; rfl)); intro w7 hw; have n0_ : Aside0 (Kd.V k37 37 w7 w.heap.size (fun k_ => (bm k_ ∨ w.heap.size ≤ k_) ∧ k_ ≠ ba ∧ k_ ≠ bc) (.slice bi bd.length bh) bd) := ⟨(by rw [hw]; exact (by (with_reducible repeat (first | apply Kd.V_alloc | apply Kd.V_drewN | apply Kd.V_drew)); exact Kd.V_mono (Kd.V_far (p := ⟨ba, 1, none⟩) (Kd.V_mono bj.out (fun k_ hk => (⟨hk, hk.1.2⟩ : _ ∧ k_ ≠ ba))) (fun _ hk => hk.2) (.int .u64 (IntKind.u64.wrap (be + 1)))) (fun _ hk => ⟨hk.1.1.1, ⟨hk.1.1.2, hk.1.2⟩⟩)))⟩; have n1_ : Aside0 (w7.heap[ba]? = some (.cells #[.int .u64 bf, .int .u64 (IntKind.u64.wrap (be + 1)), .slice bi bd.length bh] 27 (0, 0))) := ⟨(by rw [hw]; exact (by (with_reducible repeat (first | refine blk_drewN ?_ _ | refine blk_drew ?_ | refine blk_alloc ?_ _)); refine blk_put (cs := #[.int .u64 bf, .int .u64 be, .slice bi bd.length bh]) ?_ 1 _ rfl; (with_reducible repeat (first | refine blk_drewN ?_ _ | refine blk_drew ?_ | refine blk_alloc ?_ _)); exact bb.out))⟩; have n2_ : Aside0 (w7.heap[bc]? = some (.cells #[.int .u64 0, .int .u64 0, .slice none 0 0] 27 (0, 0))) := ⟨(by rw [hw]; exact (by (with_reducible repeat (first | refine blk_drewN ?_ _ | refine blk_drew ?_ | refine blk_alloc ?_ _)); refine blk_far ?_ bk.out _; (with_reducible repeat (first | refine blk_drewN ?_ _ | refine blk_drew ?_ | refine blk_alloc ?_ _)); exact bg.out))⟩; have n3_ : Aside0 (Below w.heap.size w w7) := ⟨(by rw [hw]; exact (by repeat (first | (with_reducible first | exact HB.out | apply below_alloc | apply pw_below_drewN | apply below_drew1 | refine below_set ?_ bl.out | refine below_set ?_ bo.out) | exact HB.out)))⟩; clear hw; clear bj; clear bb; clear bg; clear HB; have bj := n0_; have bb := n1_; have bg := n2_; have HB := n3_; clear n0_ n1_ n2_ n3_; have bU : w7.cell? ⟨ba, 0, none⟩ = some (.int .u64 bf) := (blk_cell bb.out 0).trans rfl; have bS : w7.cell? ⟨ba, 1, none⟩ = some (.int .u64 (IntKind.u64.wrap (be + 1))) := (blk_cell bb.out 1).trans rfl; have bR : w7.cell? ⟨ba, 2, none⟩ = some (.slice bi bd.length bh) := (blk_cell bb.out 2).trans rfl; have bN := blk_frozen bb.out 0; have bM := blk_frozen bb.out 1; have bL := blk_frozen bb.out 2) | ((with_reducible refine gate_callee (f := 33) rfl ?_); refine goesL_ (some 9) rfl rfl Tryd.func33 (by kernel_rfl) rfl #[.slice bi bd.length bh] rfl (by (try simp only [List.map_toArray, List.map_cons, List.map_nil]); first | done | rfl | (simp only [List.length_drop, List.length_take]; rfl)) ?_; (with_reducible refine (ledger_Dest_33.calls (fun k_ => ((bm k_ ∨ w.heap.size ≤ k_) ∧ (k_ ≠ ba ∧ k_ ≠ bc))) _ _ bd bn _ ?side1 A2.out).mono ?_); (case side1 => exact bj.out); rintro e w9 ⟨b1, rfl, ho0, hb⟩; refine ⟨_, rfl, ?_⟩; replace bj := Aside0.mk (Kd.V_elder' (by (with_reducible repeat (first | apply Kd.V_alloc | apply Kd.V_drewN | apply Kd.V_drew)); exact bj.out) (Kd.N_base ho0) hb); have bq := Aside0.mk (Kd.N_lower (Kd.N_mono (ok' := fun k_ => (bm k_ ∨ w.heap.size ≤ k_) ∧ k_ ≠ ba ∧ k_ ≠ bc) ho0 (fun k_ hk_ => ⟨Or.elim hk_ (fun hs_ => hs_.1) (fun hn_ => (.inr (Nat.le_trans (below_size (by repeat (first | (with_reducible first | exact HB.out | apply below_alloc | apply pw_below_drewN | apply below_drew1 | refine below_set ?_ bl.out | refine below_set ?_ bo.out) | exact HB.out))) hn_))), Or.elim hk_ (fun hs_ => hs_.2.1) (fun hn_ => (Kd.freshB (g := ba) (o := .cells #[.int .u64 bf, .int .u64 (IntKind.u64.wrap (be + 1)), .slice bi bd.length bh] 27 (0, 0)) (by (with_reducible repeat (first | refine blk_drewN ?_ _ | refine blk_drew ?_ | refine blk_alloc ?_ _)); exact bb.out) k_ hn_)), Or.elim hk_ (fun hs_ => hs_.2.2) (fun hn_ => (Kd.freshB (g := bc) (o := .cells #[.int .u64 0, .int .u64 0, .slice none 0 0] 27 (0, 0)) (by (with_reducible repeat (first | refine blk_drewN ?_ _ | refine blk_drew ?_ | refine blk_alloc ?_ _)); exact bg.out) k_ hn_))⟩)) (below_size (by repeat (first | (with_reducible first | exact HB.out | apply below_alloc | apply pw_below_drewN | apply below_drew1 | refine below_set ?_ bl.out | refine below_set ?_ bo.out) | exact HB.out)))); replace bb := Aside0.mk (blk_below (g := ba) (o := .cells #[.int .u64 bf, .int .u64 (IntKind.u64.wrap (be + 1)), .slice bi bd.length bh] 27 (0, 0)) (by (with_reducible repeat (first | refine blk_drewN ?_ _ | refine blk_drew ?_ | refine blk_alloc ?_ _)); exact bb.out) hb); replace bg := Aside0.mk (blk_below (g := bc) (o := .cells #[.int .u64 0, .int .u64 0, .slice none 0 0] 27 (0, 0)) (by (with_reducible repeat (first | refine blk_drewN ?_ _ | refine blk_drew ?_ | refine blk_alloc ?_ _)); exact bg.out) hb); replace HB := Aside0.mk (below_step (by repeat (first | (with_reducible first | exact HB.out | apply below_alloc | apply pw_below_drewN | apply below_drew1 | refine below_set ?_ bl.out | refine below_set ?_ bo.out) | exact HB.out)) hb); (try clear hb); (try clear hb2); (try clear hk); (try clear hi); (try clear ho0); obtain ⟨bu, br, bY⟩ := Kd.N_slice bq.out; subst bY; have bK : w9.cell? ⟨ba, 0, none⟩ = some (.int .u64 bf) := (blk_cell bb.out 0).trans rfl; have bJ : w9.cell? ⟨ba, 1, none⟩ = some (.int .u64 (IntKind.u64.wrap (be + 1))) := (blk_cell bb.out 1).trans rfl; have bI : w9.cell? ⟨ba, 2, none⟩ = some (.slice bi bd.length bh) := (blk_cell bb.out 2).trans rfl; have bD := blk_frozen bb.out 0; have bC := blk_frozen bb.out 1; have bB := blk_frozen bb.out 2; have bH : w9.cell? ⟨bc, 0, none⟩ = some (.int .u64 0) := (blk_cell bg.out 0).trans rfl; have bG : w9.cell? ⟨bc, 1, none⟩ = some (.int .u64 0) := (blk_cell bg.out 1).trans rfl; have bE : w9.cell? ⟨bc, 2, none⟩ = some (.slice none 0 0) := (blk_cell bg.out 2).trans rfl; have bA := blk_frozen bg.out 0; have bz := blk_frozen bg.out 1; have bx := blk_frozen bg.out 2))
 refine bodyPost_ret (results_cell_row rfl _ _ bc 27 #[.int .u64 bf, .int .u64 (IntKind.u64.wrap (be + 1)), .slice bu bn.length br] (0, 0) _ rfl (by (with_reducible repeat (first | refine blk_drewN ?_ _ | refine blk_drew ?_ | refine blk_alloc ?_ _)); refine blk_put (cs := #[.int .u64 bf, .int .u64 (IntKind.u64.wrap (be + 1)), .slice none 0 0]) ?_ 2 _ rfl; (with_reducible repeat (first | refine blk_drewN ?_ _ | refine blk_drew ?_ | refine blk_alloc ?_ _)); refine blk_put (cs := #[.int .u64 bf, .int .u64 0, .slice none 0 0]) ?_ 1 _ rfl; (with_reducible repeat (first | refine blk_drewN ?_ _ | refine blk_drew ?_ | refine blk_alloc ?_ _)); refine blk_put (cs := #[.int .u64 0, .int .u64 0, .slice none 0 0]) ?_ 0 _ rfl; (with_reducible repeat (first | refine blk_drewN ?_ _ | refine blk_drew ?_ | refine blk_alloc ?_ _)); refine blk_far ?_ bk.out _; (with_reducible repeat (first | refine blk_drewN ?_ _ | refine blk_drew ?_ | refine blk_alloc ?_ _)); exact bg.out) Tryd.underlying27 rfl (by kernel_rfl)) rfl ?_
 exact ⟨_, by first | rfl | (simp [errW_none, errW_some] <;> rfl) | (simp [*, errW_none, errW_some] <;> rfl), by (with_reducible repeat (first | apply Kd.N_alloc | apply Kd.N_drewN | apply Kd.N_drew)); exact Kd.N_mono (Kd.N_far (p := ⟨bc, 2, none⟩) (Kd.N_far (p := ⟨bc, 1, none⟩) (Kd.N_far (p := ⟨bc, 0, none⟩) (Kd.N_far (p := ⟨ba, 2, none⟩) (Kd.N_mono (Kd.N_mono bq.out (fun k_ hk => (⟨hk, hk.2.1⟩ : _ ∧ k_ ≠ ba))) (fun k_ hk => (⟨hk, hk.1.2.2⟩ : _ ∧ k_ ≠ bc))) (fun _ hk => hk.1.2) (.slice bu bn.length br)) (fun _ hk => hk.2) (.int .u64 bf)) (fun _ hk => hk.2) (.int .u64 (IntKind.u64.wrap (be + 1)))) (fun _ hk => hk.2) (.slice bu bn.length br)) (fun _ hk => hk.1.1.1), by repeat (first | (with_reducible first | exact HB.out | apply below_alloc | apply pw_below_drewN | apply below_drew1 | refine below_set ?_ bl.out | refine below_set ?_ bo.out) | exact HB.out)⟩

end Go.Proofs.YthhmpjapnkilcaaDoor.XLdg
end
section
/- What the functions of the translation answer, each as a plain Lean function, and that the code comes to it; for a law: its row. Conditions: none but those that each theorem names. Written by a program of this session (wip/xp). -/
namespace Go.Proofs.YthhmpjapnkilcaaDoor.XLdg
open Go.RowKit Go.Proofs.YthhmpjapnkilcaaDoorW.PrintWords Go.Proofs.YthhmpjapnkilcaaDoorW.PrintLast Go.Proofs.YthhmpjapnkilcaaDoorW.PrintMore
attribute [local go_sem] max2_int min2_int max_two min_two max_three min_three max_four min_four   -- for this text's walks alone
set_option linter.unusedVariables false
set_option linter.unusedSimpArgs false

/-! ### ledger_Free: function 22 -/
def ledger_Free.l0 : Nat → Int → List (S37) → Int → Int → Option (Int)
 | 0, _, _, _, _ => none
 | k + 1, x3, x9, x10, x11 => if x11 < x10 then (if 0 ≤ x11 then (if x11 < (x9.length : Int) then (ledger_Free.l0 k (mn x3 ((rd_T37 x9 x11).f2)) x9 x10 (wrap64 (x11 + 1))) else (none)) else (none)) else (some x3)
def ledger_Free.f (k : Nat) (bq : Int) (bg : Int) (ba : List (S37)) : Option (Int) := ledger_Free.l0 k bg ba (ba.length : Int) 0
set_option maxHeartbeats 8000000 in
set_option maxRecDepth 100000 in
theorem ledger_Free.calls (k : Nat) (bq : Int) (bg : Int) (bB : Option Addr) (br : Nat) (ba : List (S37)) (r : Int) (w : World) (bD : Kd.C k37 w bB ba.length ba) (bE : ba.length ≤ br) (h : ledger_Free.f k bq bg ba = some r) :
  Calls Tryd.prog 22 #[.agg #[.int .u64 bq, .int .u64 bg, .slice bB ba.length br]] w fun e w' => e = .returned (.int .u64 r) ∧ Below w.heap.size w w' := by
 have dg := Tryd.underlying27
 have df := Tryd.underlying37
 have bO := Aside0.mk bD
 have dc := Aside0.mk bE
 clear bD bE
 have HB := Aside0.mk (Below.refl w.heap.size w)
 have H : (ledger_Free.l0 k bg ba (ba.length : Int) 0) = some r := h
 clear h
 have H' := Aside0.mk H
 clear H
 go_enter Tryd.func22, Tryd.ntmps22
 go_wp2_with (first | ((with_reducible refine gate_dst (N := 1) rfl ?_); refine box_event ?hg (N := 1) ?hd (cs := #[.int .u64 bq, .int .u64 bg, .slice bB ba.length br]) (t := 27) ?hr ?_; (case hd => rfl); (case hg => rfl); (case hr => first | (go_simp; done) | (go_simp; rfl)); intro bf hg w2 hbox hb; have bd := Aside0.mk (hbox); have de := Aside0.mk ((by rw [hg]; exact (below_size (by repeat (first | (with_reducible first | exact HB.out | apply below_alloc | apply pw_below_drewN | apply below_drew1) | exact HB.out))) : w.heap.size ≤ bf)); have bi := Aside0.mk ((by rw [hg]; exact (below_size (by repeat (first | (with_reducible first | exact HB.out | apply below_alloc | apply pw_below_drewN | apply below_drew1) | exact HB.out))) : w.heap.size ≤ bf)); replace HB := Aside0.mk (below_step (by repeat (first | (with_reducible first | exact HB.out | apply below_alloc | apply pw_below_drewN | apply below_drew1) | exact HB.out)) hb); clear hb hbox hg; have bN : w2.cell? ⟨bf, 0, none⟩ = some (.int .u64 bq) := (blk_cell bd.out 0).trans rfl; have bM : w2.cell? ⟨bf, 1, none⟩ = some (.int .u64 bg) := (blk_cell bd.out 1).trans rfl; have bL : w2.cell? ⟨bf, 2, none⟩ = some (.slice bB ba.length br) := (blk_cell bd.out 2).trans rfl; have bK := blk_frozen bd.out 0; have bJ := blk_frozen bd.out 1; have bI := blk_frozen bd.out 2))
 go_loopg [3, 11] k (fun kq v3 v11 w' => ∃ (bx : Int) (bb : Int), v3 = .int .u64 bx ∧ v11 = .int .i64 bb ∧ Aside0 (ledger_Free.l0 kq bx ba (ba.length : Int) bb = some r) ∧ Aside0 (kq ≤ k) ∧ Aside0 (w'.heap[bf]? = some (.cells #[.int .u64 bq, .int .u64 bg, (.slice bB ba.length br)] 27 (0, 0))) ∧ Aside0 (Below w.heap.size w w'))
 case atStart => exact ⟨(bg), (0), (by first | rfl | (simp; done) | (simp [*]; done)), (by first | rfl | (simp; done) | (simp [*]; done)), H', ⟨Nat.le_refl _⟩, ⟨by (with_reducible repeat (first | refine blk_drewN ?_ _ | refine blk_drew ?_ | refine blk_alloc ?_ _)); exact bd.out⟩, ⟨by repeat (first | (with_reducible first | exact HB.out | apply below_alloc | apply pw_below_drewN | apply below_drew1 | refine below_set ?_ bi.out) | exact HB.out)⟩⟩
 case round =>
  clear H'
  (try clear c2); (try clear p2); (try clear bN); (try clear bM); (try clear bL); (try clear bK); (try clear bJ); (try clear bI)
  obtain ⟨bx, bb, rfl, rfl, HA, HK1, bd, HB⟩ := hrel
  cases gk with
  | zero => exact absurd HA.out (by simp [ledger_Free.l0])
  | succ k1 => ?_
  have H := HA.out
  clear HA
  simp only [ledger_Free.l0] at H
  by_cases c4 : bb < (ba.length : Int)
  case neg =>
   rw [if_neg c4] at H
   have b8 : decide (bb < (ba.length : Int)) = false := decide_eq_false c4
   clear c4
   obtain rfl := Option.some.inj H
   go_wp2
   go_ret
   exact ⟨by first | rfl | (simp [errW_none, errW_some] <;> rfl) | (simp [*, errW_none, errW_some] <;> rfl), by repeat (first | (with_reducible first | exact HB.out | apply below_alloc | apply pw_below_drewN | apply below_drew1 | refine below_set ?_ bi.out) | exact HB.out)⟩

  rw [if_pos c4] at H
  have b8 : decide (bb < (ba.length : Int)) = true := decide_eq_true c4
  clear c4
  by_cases c5 : 0 ≤ bb
  case neg =>
   rw [if_neg c5] at H
   exact absurd H (by simp)
  rw [if_pos c5] at H
  have dk : decide (0 ≤ bb) = true := decide_eq_true c5
  clear c5
  by_cases c6 : bb < (ba.length : Int)
  case neg =>
   rw [if_neg c6] at H
   exact absurd H (by simp)
  rw [if_pos c6] at H
  have dj : decide (bb < (ba.length : Int)) = true := decide_eq_true c6
  clear c6
  obtain ⟨ji7, bC⟩ : ∃ j_ : Int, (mn bx ((rd_T37 ba bb).f2)) = j_ := ⟨_, rfl⟩
  replace H : (ledger_Free.l0 k1 ji7 ba (ba.length : Int) (wrap64 (bb + 1))) = some r := by first | (rw [bC] at H; exact H) | (simp only [bC] at H ⊢; exact H)
  have db : (if ((rd_T37 ba bb).f2) < bx then ((rd_T37 ba bb).f2) else bx) = ji7 := bC
  have H' := Aside0.mk H
  clear H
  have bH : 0 ≤ (bb : Int) := of_decide_eq_true (by first | (with_reducible assumption) | assumption)
  have bG : bb < (ba.length : Int) := of_decide_eq_true (by first | (with_reducible assumption) | assumption)
  obtain ⟨bA, da, b9, b7, bp, bo, bn, bm, bl, bk, bj, bu, bw⟩ := at_T37 bO.out bb bH bG
  cases b7
  replace bp := (HB.out.cell (World.block_lt_of_cell? w _ bp)).trans bp
  replace bo := (HB.out.cell (World.block_lt_of_cell? w _ bo)).trans bo
  replace bn := (HB.out.cell (World.block_lt_of_cell? w _ bn)).trans bn
  replace bm := (HB.out.cell (World.block_lt_of_cell? w _ bm)).trans bm
  replace bl := (HB.out.cell (World.block_lt_of_cell? w _ bl)).trans bl
  replace bk := (HB.out.cell (World.block_lt_of_cell? w _ bk)).trans bk
  replace bj := (HB.out.cell (World.block_lt_of_cell? w _ bj)).trans bj
  have b5 := Aside0.mk bw
  have b6 := Aside0.mk bu
  clear bw bu
  replace bH := eq_true bH
  replace bG := eq_true bG
  go_wp2_with (first | ((with_reducible refine gate_dst (N := 5) rfl ?_); refine box_event ?hg (N := 5) ?hd (cs := #[.string (⟨#[]⟩ : ByteArray), .int .u64 0, .int .u64 0, .slice none 0 0, .int .u64 0, .int .u64 0, .int .u64 0]) (t := 37) ?hr ?_; (case hd => rfl); (case hg => rfl); (case hr => first | (go_simp; done) | (go_simp; rfl)); intro be hg w8 hbox hb; have bc := Aside0.mk (hbox); have dd := Aside0.mk ((by rw [hg]; exact (below_size (by repeat (first | (with_reducible first | exact HB.out | apply below_alloc | apply pw_below_drewN | apply below_drew1 | refine below_set ?_ bi.out) | exact HB.out))) : w.heap.size ≤ be)); have bP := Aside0.mk ((by rw [hg]; exact (below_size (by repeat (first | (with_reducible first | exact HB.out | apply below_alloc | apply pw_below_drewN | apply below_drew1 | refine below_set ?_ bi.out) | exact HB.out))) : w.heap.size ≤ be)); replace HB := Aside0.mk (below_step (by repeat (first | (with_reducible first | exact HB.out | apply below_alloc | apply pw_below_drewN | apply below_drew1 | refine below_set ?_ bi.out) | exact HB.out)) hb); have bh := Aside0.mk ((by rw [hg]; exact Nat.ne_of_lt (blk_lt (g := bf) (o := .cells #[.int .u64 bq, .int .u64 bg, .slice (some bA) ba.length br] 27 (0, 0)) (by (with_reducible repeat (first | refine blk_drewN ?_ _ | refine blk_drew ?_ | refine blk_alloc ?_ _)); exact bd.out)) : bf ≠ be)); have bz := Aside0.mk ((by rw [hg]; exact Nat.ne_of_gt (blk_lt (g := bf) (o := .cells #[.int .u64 bq, .int .u64 bg, .slice (some bA) ba.length br] 27 (0, 0)) (by (with_reducible repeat (first | refine blk_drewN ?_ _ | refine blk_drew ?_ | refine blk_alloc ?_ _)); exact bd.out)) : be ≠ bf)); replace bd := Aside0.mk (blk_below (g := bf) (o := .cells #[.int .u64 bq, .int .u64 bg, .slice (some bA) ba.length br] 27 (0, 0)) (by (with_reducible repeat (first | refine blk_drewN ?_ _ | refine blk_drew ?_ | refine blk_alloc ?_ _)); exact bd.out) hb); clear hb hbox hg; have di := bz.out; have dh := bh.out; have b4 : w8.cell? ⟨be, 0, none⟩ = some (.string (⟨#[]⟩ : ByteArray)) := (blk_cell bc.out 0).trans rfl; have b3 : w8.cell? ⟨be, 1, none⟩ = some (.int .u64 0) := (blk_cell bc.out 1).trans rfl; have b2 : w8.cell? ⟨be, 2, none⟩ = some (.int .u64 0) := (blk_cell bc.out 2).trans rfl; have b1 : w8.cell? ⟨be, 3, none⟩ = some (.slice none 0 0) := (blk_cell bc.out 3).trans rfl; have b0 : w8.cell? ⟨be, 4, none⟩ = some (.int .u64 0) := (blk_cell bc.out 4).trans rfl; have bZ : w8.cell? ⟨be, 5, none⟩ = some (.int .u64 0) := (blk_cell bc.out 5).trans rfl; have bY : w8.cell? ⟨be, 6, none⟩ = some (.int .u64 0) := (blk_cell bc.out 6).trans rfl; have bX := blk_frozen bc.out 0; have bW := blk_frozen bc.out 1; have bV := blk_frozen bc.out 2; have bU := blk_frozen bc.out 3; have bS := blk_frozen bc.out 4; have bR := blk_frozen bc.out 5; have bQ := blk_frozen bc.out 6))
  go_roundg k1
  case measure => have := HK1.out; omega
  case rel => exact ⟨(ji7), (wrap64 (bb + 1)), (by first | rfl | (simp; done) | (simp only [← bC] <;> (first | rfl | simp)) | (simp [*]; done)), (by first | rfl | (simp; done) | (simp [*]; done)), H', ⟨by have := HK1.out; omega⟩, ⟨by (iterate 7 ((with_reducible repeat (first | refine blk_drewN ?_ _ | refine blk_drew ?_ | refine blk_alloc ?_ _)); refine blk_far ?_ bh.out _)); (with_reducible repeat (first | refine blk_drewN ?_ _ | refine blk_drew ?_ | refine blk_alloc ?_ _)); exact bd.out⟩, ⟨by repeat (first | (with_reducible first | exact HB.out | apply below_alloc | apply pw_below_drewN | apply below_drew1 | refine below_set ?_ bi.out | refine below_set ?_ bP.out) | exact HB.out)⟩⟩
end Go.Proofs.YthhmpjapnkilcaaDoor.XLdg
end
