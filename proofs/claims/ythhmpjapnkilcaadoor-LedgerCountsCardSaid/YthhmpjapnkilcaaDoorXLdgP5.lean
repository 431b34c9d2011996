/- Texts of this seat, in one. Conditions: those that each theorem names. -/
import Derived.Test.YthhmpjapnkilcaaDoorXLdgP1
import Derived.Test.YthhmpjapnkilcaaDoorGClone
import Derived.Test.YthhmpjapnkilcaaDoorGLabelName
import Derived.Test.YthhmpjapnkilcaaDoorGPlace
import Derived.Test.YthhmpjapnkilcaaDoorXLdgP2
section
/- What the functions of the translation answer, each as a plain Lean function, and that the code comes to it; for a law: its row. Conditions: none but those that each theorem names. Written by a program of this session (wip/xp). -/
namespace Go.Proofs.YthhmpjapnkilcaaDoor.XLdg
open Go.RowKit Go.Proofs.YthhmpjapnkilcaaDoorW.PrintWords Go.Proofs.YthhmpjapnkilcaaDoorW.PrintLast Go.Proofs.YthhmpjapnkilcaaDoorW.PrintMore
attribute [local go_sem] max2_int min2_int max_two min_two max_three min_three max_four min_four   -- for this text's walks alone
theorem cx3_bc3 {w : World} {g : Nat} {t : TypeId} {x0 x1 x2 : Value} (h : w.heap[g]? = some (.cells #[x0, x1, x2] t (0, 0))) : w.cell? ⟨g, 0, none⟩ = some x0 ∧ w.cell? ⟨g, 1, none⟩ = some x1 ∧ w.cell? ⟨g, 2, none⟩ = some x2 ∧ w.frozen? ⟨g, 0, none⟩ = false ∧ w.frozen? ⟨g, 1, none⟩ = false ∧ w.frozen? ⟨g, 2, none⟩ = false :=
 ⟨(blk_cell h 0).trans rfl, (blk_cell h 1).trans rfl, (blk_cell h 2).trans rfl, blk_frozen h 0, blk_frozen h 1, blk_frozen h 2⟩
theorem zx3_3 {p : Prop} (h : p := by (with_reducible repeat (first | apply Kd.V_alloc | apply Kd.V_drewN | apply Kd.V_drew)); exact bh.out) : p := h
theorem zx3_1 {p : Prop} (h : p := by (with_reducible repeat (first | refine blk_drewN ?_ _ | refine blk_drew ?_ | refine blk_alloc ?_ _)); exact bc.out) : p := h
theorem zx3_2 {p : Prop} (h : p := by (with_reducible repeat (first | refine blk_drewN ?_ _ | refine blk_drew ?_ | refine blk_alloc ?_ _)); exact bf.out) : p := h
theorem zx3_5 {p : Prop} (h : p := by repeat (first | (with_reducible first | exact HB.out | apply below_alloc | apply pw_below_drewN | apply below_drew1) | exact HB.out)) : p := h
theorem zx3_7 {p : Prop} (h : p := by (try simp only [List.map_toArray, List.map_cons, List.map_nil]); first | done | rfl | (simp only [List.length_drop, List.length_take]; rfl)) : p := h
theorem zx3_4 {p : Prop} (h : p := by repeat (first | (with_reducible first | exact HB.out | apply below_alloc | apply pw_below_drewN | apply below_drew1 | refine below_set ?_ bu.out) | exact HB.out)) : p := h
theorem zx3_0 {p : Prop} (h : p := by repeat (first | (with_reducible first | exact HB.out | apply below_alloc | apply pw_below_drewN | apply below_drew1 | refine below_set ?_ bu.out | refine below_set ?_ bx.out) | exact HB.out)) : p := h
theorem zx3_6 {p : Prop} (h : p := by (with_reducible repeat (first | refine blk_drewN ?_ _ | refine blk_drew ?_ | refine blk_alloc ?_ _)); refine blk_put (cs := #[.int .u64 0, .int .u64 0, .slice none 0 0]) ?_ 2 _ rfl; (with_reducible repeat (first | refine blk_drewN ?_ _ | refine blk_drew ?_ | refine blk_alloc ?_ _)); refine blk_put (cs := #[.int .u64 0, .int .u64 0, .slice none 0 0]) ?_ 1 _ rfl; (with_reducible repeat (first | refine blk_drewN ?_ _ | refine blk_drew ?_ | refine blk_alloc ?_ _)); refine blk_put (cs := #[.int .u64 0, .int .u64 0, .slice none 0 0]) ?_ 0 _ rfl; (with_reducible repeat (first | refine blk_drewN ?_ _ | refine blk_drew ?_ | refine blk_alloc ?_ _)); exact bf.out) : p := h
set_option linter.unusedVariables false
set_option linter.unusedSimpArgs false

/-! ### ledger_Join: function 14 -/
def ledger_Join.f (bg : Int) (bd : Int) (be : List (S37)) (a1 : ByteArray) : Option (Int × Int × (List (S37)) × Int) := (label_Name.f a1).bind fun bE => (if bE = true then ((ledger_place.f be a1).bind fun br => (if br ≥ 0 then (some (0, 0, ([] : List (S37)), 4)) else (if (be.length : Int) ≥ 4 then (some (0, 0, ([] : List (S37)), 6)) else ((ledger_Dest_33.f be).bind fun bo => ((some (([(⟨a1, bd, bd, ([] : List Int), 0, 0, 0⟩ : S37)] : List (S37)) : List (S37))).bind fun bn => (if bo.length + bn.length < 1759218604441 then (some (bg, bd, (bo ++ bn), 0)) else (none))))))) else (some (0, 0, ([] : List (S37)), 3)))
def ledger_Join.T7 : Bool × List (List Nat × List Nat) := (true, [([], []), ([0], [0]), ([1], [1]), ([], []), ([], []), ([4], [4]), ([], []), ([6], [6]), ([3, 5, 7], [3, 5, 7]), ([8], [8]), ([2, 9, 2], [2, 9]), ([0, 1, 2, 3, 4, 5, 6, 7, 8, 9, 10], []), ([11, 10, 10, 0, 1, 2, 3, 4, 5, 6, 7, 8, 9, 10], [10, 11])])
def ledger_Join.B7 : List Nat := [0, 1, 3, 0, 0, 16, 0, 64, 248, 504, 1023, 2047, 4095]
theorem ledger_Join.tab7 : rtab .any (opsOf Tryd.f14 7) = ledger_Join.T7 := by kernel_rfl
theorem ledger_Join.bits7 : waitsOk ledger_Join.T7.2 ledger_Join.B7 = true := by kernel_rfl
set_option maxHeartbeats 8000000 in
set_option maxRecDepth 100000 in
theorem ledger_Join.calls (bg : Int) (bd : Int) (bk : Nat → Prop) (bj : Option Addr) (bi : Nat) (be : List (S37)) (a1 : ByteArray) (r1 : Int) (r2 : Int) (r3 : List (S37)) (r4 : Int) (w : World) (bN : Kd.V k37 37 w w.heap.size (fun k_ => bk k_) (.slice bj be.length bi) be) (h : ledger_Join.f bg bd be a1 = some (r1, r2, r3, r4)) :
  Calls Tryd.prog 14 #[.agg #[.int .u64 bg, .int .u64 bd, .slice bj be.length bi], .string a1] w fun e w' => ∃ v2_ : Value, e = .returned (.tuple #[.agg #[.int .u64 r1, .int .u64 r2, v2_], .int .i64 r4]) ∧ Kd.N k37 37 w' w.heap.size (fun k_ => (bk k_ ∨ w.heap.size ≤ k_)) v2_ r3 ∧ Below w.heap.size w w' := by
 have gc := Tryd.underlying27
 have gb := Tryd.underlying37
 have bh := Aside0.mk (show Kd.V k37 37 w w.heap.size (fun k_ => (bk k_ ∨ w.heap.size ≤ k_)) (.slice bj be.length bi) be from Kd.V_mono bN (fun k_ hk => .inl hk))
 have HB := Aside0.mk (Below.refl w.heap.size w)
 have H : ((label_Name.f a1).bind fun bE => (if bE = true then ((ledger_place.f be a1).bind fun br => (if br ≥ 0 then (some (0, 0, ([] : List (S37)), 4)) else (if (be.length : Int) ≥ 4 then (some (0, 0, ([] : List (S37)), 6)) else ((ledger_Dest_33.f be).bind fun bo => ((some (([(⟨a1, bd, bd, ([] : List Int), 0, 0, 0⟩ : S37)] : List (S37)) : List (S37))).bind fun bn => (if bo.length + bn.length < 1759218604441 then (some (bg, bd, (bo ++ bn), 0)) else (none))))))) else (some (0, 0, ([] : List (S37)), 3)))) = some (r1, r2, r3, r4) := h
 clear h
 replace H := Option.bind_eq_some_iff.mp H
 obtain ⟨bE, A30, H⟩ := H
 replace H : (if bE = true then ((ledger_place.f be a1).bind fun br => (if br ≥ 0 then (some (0, 0, ([] : List (S37)), 4)) else (if (be.length : Int) ≥ 4 then (some (0, 0, ([] : List (S37)), 6)) else ((ledger_Dest_33.f be).bind fun bo => ((some (([(⟨a1, bd, bd, ([] : List Int), 0, 0, 0⟩ : S37)] : List (S37)) : List (S37))).bind fun bn => (if bo.length + bn.length < 1759218604441 then (some (bg, bd, (bo ++ bn), 0)) else (none))))))) else (some (0, 0, ([] : List (S37)), 3))) = some (r1, r2, r3, r4) := H
 have A3 := Aside0.mk A30
 clear A30
 by_cases c4 : bE = true
 case neg =>
  replace c4 := Bool.eq_false_iff.mpr c4
  subst c4
  have H1 : (some (0, 0, ([] : List (S37)), 3)) = some (r1, r2, r3, r4) := by rw [if_neg (show ¬ (false = true) by decide)] at H; exact H
  clear H
  have H := H1
  clear H1
  simp only [Option.some.injEq, Prod.mk.injEq] at H
  obtain ⟨rfl, rfl, rfl, rfl⟩ := H
  go_enter Tryd.func14, Tryd.ntmps14
  go_wp2_with (first | ((with_reducible refine gate_dst (N := 2) rfl ?_); refine box_event ?hg (N := 2) ?hd (cs := #[.int .u64 bg, .int .u64 bd, .slice bj be.length bi]) (t := 27) ?hr ?_; (case hd => rfl); (case hg => rfl); (case hr => first | (go_simp; done) | (go_simp; rfl)); intro ba hg w43 hbox hb; replace bh := Aside0.mk (Kd.V_below (Kd.V_elderB zx3_3 ba (Nat.le_of_eq hg.symm)) hb); have bc := Aside0.mk (hbox); have bI := Aside0.mk ((by rw [hg]; exact (below_size zx3_5) : w.heap.size ≤ ba)); have bu := Aside0.mk ((by rw [hg]; exact (below_size zx3_5) : w.heap.size ≤ ba)); replace HB := Aside0.mk (below_step zx3_5 hb); clear hb hbox hg) | ((with_reducible refine gate_dst (N := 4) rfl ?_); refine box_event ?hg (N := 4) ?hd (cs := #[.int .u64 0, .int .u64 0, .slice none 0 0]) (t := 27) ?hr ?_; (case hd => rfl); (case hg => rfl); (case hr => first | (go_simp; done) | (go_simp; rfl)); intro bb hg w44 hbox hb; replace bh := Aside0.mk (Kd.V_below (Kd.V_elderB zx3_3 bb (Nat.le_of_eq hg.symm)) hb); have bf := Aside0.mk (hbox); have bH := Aside0.mk ((by rw [hg]; exact (below_size zx3_4) : w.heap.size ≤ bb)); have bx := Aside0.mk ((by rw [hg]; exact (below_size zx3_4) : w.heap.size ≤ bb)); replace HB := Aside0.mk (below_step zx3_4 hb); have bm := Aside0.mk ((by rw [hg]; exact Nat.ne_of_lt (blk_lt (g := ba) (o := .cells #[.int .u64 bg, .int .u64 bd, .slice bj be.length bi] 27 (0, 0)) zx3_1) : ba ≠ bb)); have bl := Aside0.mk ((by rw [hg]; exact Nat.ne_of_gt (blk_lt (g := ba) (o := .cells #[.int .u64 bg, .int .u64 bd, .slice bj be.length bi] 27 (0, 0)) zx3_1) : bb ≠ ba)); replace bc := Aside0.mk (blk_below (g := ba) (o := .cells #[.int .u64 bg, .int .u64 bd, .slice bj be.length bi] 27 (0, 0)) zx3_1 hb); clear hb hbox hg) | ((with_reducible refine gate_callee (f := 34) rfl ?_); refine goesL_ (some 8) rfl rfl Tryd.func34 (by kernel_rfl) rfl #[.string a1] rfl zx3_7 ?_; (with_reducible refine (label_Name.calls a1 false _ A3.out).mono ?_); rintro e w45 ⟨rfl, hb⟩; refine ⟨_, rfl, ?_⟩; replace bh := Aside0.mk (Kd.V_below zx3_3 hb); replace bc := Aside0.mk (blk_below (g := ba) (o := .cells #[.int .u64 bg, .int .u64 bd, .slice bj be.length bi] 27 (0, 0)) zx3_1 hb); replace bf := Aside0.mk (blk_below (g := bb) (o := .cells #[.int .u64 0, .int .u64 0, .slice none 0 0] 27 (0, 0)) zx3_2 hb); replace HB := Aside0.mk (below_step zx3_0 hb); (try clear hb); (try clear hb2); (try clear hk); (try clear hi); have d5 := bl.out; have d1 := bm.out; have dw : w45.cell? ⟨bb, 0, none⟩ = some (.int .u64 0) := (blk_cell bf.out 0).trans rfl; have dv : w45.cell? ⟨bb, 1, none⟩ = some (.int .u64 0) := (blk_cell bf.out 1).trans rfl; have du : w45.cell? ⟨bb, 2, none⟩ = some (.slice none 0 0) := (blk_cell bf.out 2).trans rfl; have b0 := blk_frozen bf.out 0; have bZ := blk_frozen bf.out 1; have bY := blk_frozen bf.out 2))
  refine bodyPost_ret (results_ct rfl _ _ bb 27 #[.int .u64 0, .int .u64 0, .slice none 0 0] (0, 0) _ rfl zx3_6 Tryd.underlying27 rfl (by kernel_rfl)) rfl ?_
  exact ⟨_, by first | rfl | (simp [errW_none, errW_some] <;> rfl) | (simp [*, errW_none, errW_some] <;> rfl), by first | exact Kd.S_nil _ _ _ _ _ | exact Kd.N_nil _ _ _ _ _ | exact Kd.V_nil _ _ _ _ _ | exact Kd.Q_nil _ _ _ _ _ | exact Kd.R_nil _ _ _ _ _, by repeat (first | (with_reducible first | exact HB.out | apply below_alloc | apply pw_below_drewN | apply below_drew1 | refine below_set ?_ bu.out | refine below_set ?_ bx.out) | exact HB.out)⟩

 subst c4
 have H1 : ((ledger_place.f be a1).bind fun br => (if br ≥ 0 then (some (0, 0, ([] : List (S37)), 4)) else (if (be.length : Int) ≥ 4 then (some (0, 0, ([] : List (S37)), 6)) else ((ledger_Dest_33.f be).bind fun bo => ((some (([(⟨a1, bd, bd, ([] : List Int), 0, 0, 0⟩ : S37)] : List (S37)) : List (S37))).bind fun bn => (if bo.length + bn.length < 1759218604441 then (some (bg, bd, (bo ++ bn), 0)) else (none))))))) = some (r1, r2, r3, r4) := by rw [if_pos rfl] at H; exact H
 clear H
 have H := H1
 clear H1
 replace H := Option.bind_eq_some_iff.mp H
 obtain ⟨br, A50, H⟩ := H
 replace H : (if br ≥ 0 then (some (0, 0, ([] : List (S37)), 4)) else (if (be.length : Int) ≥ 4 then (some (0, 0, ([] : List (S37)), 6)) else ((ledger_Dest_33.f be).bind fun bo => ((some (([(⟨a1, bd, bd, ([] : List Int), 0, 0, 0⟩ : S37)] : List (S37)) : List (S37))).bind fun bn => (if bo.length + bn.length < 1759218604441 then (some (bg, bd, (bo ++ bn), 0)) else (none)))))) = some (r1, r2, r3, r4) := H
 have A5 := Aside0.mk A50
 clear A50
 by_cases c6 : br ≥ 0
 ·rw [if_pos c6] at H
  have dZ : decide (0 ≤ br) = true := decide_eq_true c6
  clear c6
  simp only [Option.some.injEq, Prod.mk.injEq] at H
  obtain ⟨rfl, rfl, rfl, rfl⟩ := H
  go_enter Tryd.func14, Tryd.ntmps14
  go_wp2_with (first | ((with_reducible refine gate_dst (N := 2) rfl ?_); refine box_event ?hg (N := 2) ?hd (cs := #[.int .u64 bg, .int .u64 bd, .slice bj be.length bi]) (t := 27) ?hr ?_; (case hd => rfl); (case hg => rfl); (case hr => first | (go_simp; done) | (go_simp; rfl)); intro ba hg w7 hbox hb; replace bh := Aside0.mk (Kd.V_below (Kd.V_elderB zx3_3 ba (Nat.le_of_eq hg.symm)) hb); have bc := Aside0.mk (hbox); have bI := Aside0.mk ((by rw [hg]; exact (below_size zx3_5) : w.heap.size ≤ ba)); have bu := Aside0.mk ((by rw [hg]; exact (below_size zx3_5) : w.heap.size ≤ ba)); replace HB := Aside0.mk (below_step zx3_5 hb); clear hb hbox hg) | ((with_reducible refine gate_dst (N := 4) rfl ?_); refine box_event ?hg (N := 4) ?hd (cs := #[.int .u64 0, .int .u64 0, .slice none 0 0]) (t := 27) ?hr ?_; (case hd => rfl); (case hg => rfl); (case hr => first | (go_simp; done) | (go_simp; rfl)); intro bb hg w8 hbox hb; replace bh := Aside0.mk (Kd.V_below (Kd.V_elderB zx3_3 bb (Nat.le_of_eq hg.symm)) hb); have bf := Aside0.mk (hbox); have bH := Aside0.mk ((by rw [hg]; exact (below_size zx3_4) : w.heap.size ≤ bb)); have bx := Aside0.mk ((by rw [hg]; exact (below_size zx3_4) : w.heap.size ≤ bb)); replace HB := Aside0.mk (below_step zx3_4 hb); have bm := Aside0.mk ((by rw [hg]; exact Nat.ne_of_lt (blk_lt (g := ba) (o := .cells #[.int .u64 bg, .int .u64 bd, .slice bj be.length bi] 27 (0, 0)) zx3_1) : ba ≠ bb)); have bl := Aside0.mk ((by rw [hg]; exact Nat.ne_of_gt (blk_lt (g := ba) (o := .cells #[.int .u64 bg, .int .u64 bd, .slice bj be.length bi] 27 (0, 0)) zx3_1) : bb ≠ ba)); replace bc := Aside0.mk (blk_below (g := ba) (o := .cells #[.int .u64 bg, .int .u64 bd, .slice bj be.length bi] 27 (0, 0)) zx3_1 hb); clear hb hbox hg) | ((with_reducible refine gate_callee (f := 34) rfl ?_); refine goesL_ (some 8) rfl rfl Tryd.func34 (by kernel_rfl) rfl #[.string a1] rfl zx3_7 ?_; (with_reducible refine (label_Name.calls a1 true _ A3.out).mono ?_); rintro e w9 ⟨rfl, hb⟩; refine ⟨_, rfl, ?_⟩; replace bh := Aside0.mk (Kd.V_below zx3_3 hb); replace bc := Aside0.mk (blk_below (g := ba) (o := .cells #[.int .u64 bg, .int .u64 bd, .slice bj be.length bi] 27 (0, 0)) zx3_1 hb); replace bf := Aside0.mk (blk_below (g := bb) (o := .cells #[.int .u64 0, .int .u64 0, .slice none 0 0] 27 (0, 0)) zx3_2 hb); replace HB := Aside0.mk (below_step zx3_0 hb); (try clear hb); (try clear hb2); (try clear hk); (try clear hi); have d8 := bm.out; have d4 := bl.out; have dX : w9.cell? ⟨ba, 0, none⟩ = some (.int .u64 bg) := (blk_cell bc.out 0).trans rfl; have dW : w9.cell? ⟨ba, 1, none⟩ = some (.int .u64 bd) := (blk_cell bc.out 1).trans rfl; have dV : w9.cell? ⟨ba, 2, none⟩ = some (.slice bj be.length bi) := (blk_cell bc.out 2).trans rfl; have dt := blk_frozen bc.out 0; have dr := blk_frozen bc.out 1; have dq := blk_frozen bc.out 2) | ((with_reducible refine gate_callee (f := 31) rfl ?_); refine goesL_ (some 15) rfl rfl Tryd.func31 (by kernel_rfl) rfl #[.slice bj be.length bi, .string a1] rfl zx3_7 ?_; (with_reducible refine (ledger_place.calls _ _ be a1 br _ ?side1 ?side2 A5.out).mono ?_); (case side1 => repeat (first | exact (Kd.V_reads' bh.out).2.2 | (with_reducible refine Kd.C_alloc ?_ _) | (with_reducible refine Kd.C_drewN ?_ _) | (with_reducible refine Kd.C_drew ?_))); (case side2 => exact (Kd.V_reads' bh.out).2.1); rintro e w12 ⟨rfl, hb⟩; refine ⟨_, rfl, ?_⟩; replace bh := Aside0.mk (Kd.V_below zx3_3 hb); replace bc := Aside0.mk (blk_below (g := ba) (o := .cells #[.int .u64 bg, .int .u64 bd, .slice bj be.length bi] 27 (0, 0)) zx3_1 hb); replace bf := Aside0.mk (blk_below (g := bb) (o := .cells #[.int .u64 0, .int .u64 0, .slice none 0 0] 27 (0, 0)) zx3_2 hb); replace HB := Aside0.mk (below_step zx3_0 hb); (try clear hb); (try clear hb2); (try clear hk); (try clear hi); have dU : w12.cell? ⟨bb, 0, none⟩ = some (.int .u64 0) := (blk_cell bf.out 0).trans rfl; have dT : w12.cell? ⟨bb, 1, none⟩ = some (.int .u64 0) := (blk_cell bf.out 1).trans rfl; have dS : w12.cell? ⟨bb, 2, none⟩ = some (.slice none 0 0) := (blk_cell bf.out 2).trans rfl; have dp := blk_frozen bf.out 0; have dn := blk_frozen bf.out 1; have dm := blk_frozen bf.out 2))
  refine bodyPost_ret (results_ct rfl _ _ bb 27 #[.int .u64 0, .int .u64 0, .slice none 0 0] (0, 0) _ rfl zx3_6 Tryd.underlying27 rfl (by kernel_rfl)) rfl ?_
  exact ⟨_, by first | rfl | (simp [errW_none, errW_some] <;> rfl) | (simp [*, errW_none, errW_some] <;> rfl), by first | exact Kd.S_nil _ _ _ _ _ | exact Kd.N_nil _ _ _ _ _ | exact Kd.V_nil _ _ _ _ _ | exact Kd.Q_nil _ _ _ _ _ | exact Kd.R_nil _ _ _ _ _, by repeat (first | (with_reducible first | exact HB.out | apply below_alloc | apply pw_below_drewN | apply below_drew1 | refine below_set ?_ bu.out | refine below_set ?_ bx.out) | exact HB.out)⟩
 rw [if_neg c6] at H
 have dZ : decide (0 ≤ br) = false := decide_eq_false c6
 clear c6
 by_cases c14 : (be.length : Int) ≥ 4
 ·rw [if_pos c14] at H
  have bR : decide (4 ≤ (be.length : Int)) = true := decide_eq_true c14
  have bQ : decide (4 ≤ be.length) = true := decide_eq_true (by omega)
  clear c14
  simp only [Option.some.injEq, Prod.mk.injEq] at H
  obtain ⟨rfl, rfl, rfl, rfl⟩ := H
  go_enter Tryd.func14, Tryd.ntmps14
  go_wp2_with (first | ((with_reducible refine gate_dst (N := 2) rfl ?_); refine box_event ?hg (N := 2) ?hd (cs := #[.int .u64 bg, .int .u64 bd, .slice bj be.length bi]) (t := 27) ?hr ?_; (case hd => rfl); (case hg => rfl); (case hr => first | (go_simp; done) | (go_simp; rfl)); intro ba hg w15 hbox hb; replace bh := Aside0.mk (Kd.V_below (Kd.V_elderB zx3_3 ba (Nat.le_of_eq hg.symm)) hb); have bc := Aside0.mk (hbox); have bI := Aside0.mk ((by rw [hg]; exact (below_size zx3_5) : w.heap.size ≤ ba)); have bu := Aside0.mk ((by rw [hg]; exact (below_size zx3_5) : w.heap.size ≤ ba)); replace HB := Aside0.mk (below_step zx3_5 hb); clear hb hbox hg) | ((with_reducible refine gate_dst (N := 4) rfl ?_); refine box_event ?hg (N := 4) ?hd (cs := #[.int .u64 0, .int .u64 0, .slice none 0 0]) (t := 27) ?hr ?_; (case hd => rfl); (case hg => rfl); (case hr => first | (go_simp; done) | (go_simp; rfl)); intro bb hg w16 hbox hb; replace bh := Aside0.mk (Kd.V_below (Kd.V_elderB zx3_3 bb (Nat.le_of_eq hg.symm)) hb); have bf := Aside0.mk (hbox); have bH := Aside0.mk ((by rw [hg]; exact (below_size zx3_4) : w.heap.size ≤ bb)); have bx := Aside0.mk ((by rw [hg]; exact (below_size zx3_4) : w.heap.size ≤ bb)); replace HB := Aside0.mk (below_step zx3_4 hb); have bm := Aside0.mk ((by rw [hg]; exact Nat.ne_of_lt (blk_lt (g := ba) (o := .cells #[.int .u64 bg, .int .u64 bd, .slice bj be.length bi] 27 (0, 0)) zx3_1) : ba ≠ bb)); have bl := Aside0.mk ((by rw [hg]; exact Nat.ne_of_gt (blk_lt (g := ba) (o := .cells #[.int .u64 bg, .int .u64 bd, .slice bj be.length bi] 27 (0, 0)) zx3_1) : bb ≠ ba)); replace bc := Aside0.mk (blk_below (g := ba) (o := .cells #[.int .u64 bg, .int .u64 bd, .slice bj be.length bi] 27 (0, 0)) zx3_1 hb); clear hb hbox hg) | ((with_reducible refine gate_callee (f := 34) rfl ?_); refine goesL_ (some 8) rfl rfl Tryd.func34 (by kernel_rfl) rfl #[.string a1] rfl zx3_7 ?_; (with_reducible refine (label_Name.calls a1 true _ A3.out).mono ?_); rintro e w17 ⟨rfl, hb⟩; refine ⟨_, rfl, ?_⟩; replace bh := Aside0.mk (Kd.V_below zx3_3 hb); replace bc := Aside0.mk (blk_below (g := ba) (o := .cells #[.int .u64 bg, .int .u64 bd, .slice bj be.length bi] 27 (0, 0)) zx3_1 hb); replace bf := Aside0.mk (blk_below (g := bb) (o := .cells #[.int .u64 0, .int .u64 0, .slice none 0 0] 27 (0, 0)) zx3_2 hb); replace HB := Aside0.mk (below_step zx3_0 hb); (try clear hb); (try clear hb2); (try clear hk); (try clear hi); have d7 := bm.out; have d3 := bl.out; have dR : w17.cell? ⟨ba, 0, none⟩ = some (.int .u64 bg) := (blk_cell bc.out 0).trans rfl; have dQ : w17.cell? ⟨ba, 1, none⟩ = some (.int .u64 bd) := (blk_cell bc.out 1).trans rfl; have dP : w17.cell? ⟨ba, 2, none⟩ = some (.slice bj be.length bi) := (blk_cell bc.out 2).trans rfl; have dl := blk_frozen bc.out 0; have dk := blk_frozen bc.out 1; have dj := blk_frozen bc.out 2) | ((with_reducible refine gate_callee (f := 31) rfl ?_); refine goesL_ (some 15) rfl rfl Tryd.func31 (by kernel_rfl) rfl #[.slice bj be.length bi, .string a1] rfl zx3_7 ?_; (with_reducible refine (ledger_place.calls _ _ be a1 br _ ?side1 ?side2 A5.out).mono ?_); (case side1 => repeat (first | exact (Kd.V_reads' bh.out).2.2 | (with_reducible refine Kd.C_alloc ?_ _) | (with_reducible refine Kd.C_drewN ?_ _) | (with_reducible refine Kd.C_drew ?_))); (case side2 => exact (Kd.V_reads' bh.out).2.1); rintro e w20 ⟨rfl, hb⟩; refine ⟨_, rfl, ?_⟩; replace bh := Aside0.mk (Kd.V_below zx3_3 hb); replace bc := Aside0.mk (blk_below (g := ba) (o := .cells #[.int .u64 bg, .int .u64 bd, .slice bj be.length bi] 27 (0, 0)) zx3_1 hb); replace bf := Aside0.mk (blk_below (g := bb) (o := .cells #[.int .u64 0, .int .u64 0, .slice none 0 0] 27 (0, 0)) zx3_2 hb); replace HB := Aside0.mk (below_step zx3_0 hb); (try clear hb); (try clear hb2); (try clear hk); (try clear hi); have dO : w20.cell? ⟨ba, 0, none⟩ = some (.int .u64 bg) := (blk_cell bc.out 0).trans rfl; have dN : w20.cell? ⟨ba, 1, none⟩ = some (.int .u64 bd) := (blk_cell bc.out 1).trans rfl; have dM : w20.cell? ⟨ba, 2, none⟩ = some (.slice bj be.length bi) := (blk_cell bc.out 2).trans rfl; have di := blk_frozen bc.out 0; have dh := blk_frozen bc.out 1; have dg := blk_frozen bc.out 2; have dL : w20.cell? ⟨bb, 0, none⟩ = some (.int .u64 0) := (blk_cell bf.out 0).trans rfl; have dK : w20.cell? ⟨bb, 1, none⟩ = some (.int .u64 0) := (blk_cell bf.out 1).trans rfl; have dJ : w20.cell? ⟨bb, 2, none⟩ = some (.slice none 0 0) := (blk_cell bf.out 2).trans rfl; have df := blk_frozen bf.out 0; have de := blk_frozen bf.out 1; have dd := blk_frozen bf.out 2))
  refine bodyPost_ret (results_ct rfl _ _ bb 27 #[.int .u64 0, .int .u64 0, .slice none 0 0] (0, 0) _ rfl zx3_6 Tryd.underlying27 rfl (by kernel_rfl)) rfl ?_
  exact ⟨_, by first | rfl | (simp [errW_none, errW_some] <;> rfl) | (simp [*, errW_none, errW_some] <;> rfl), by first | exact Kd.S_nil _ _ _ _ _ | exact Kd.N_nil _ _ _ _ _ | exact Kd.V_nil _ _ _ _ _ | exact Kd.Q_nil _ _ _ _ _ | exact Kd.R_nil _ _ _ _ _, by repeat (first | (with_reducible first | exact HB.out | apply below_alloc | apply pw_below_drewN | apply below_drew1 | refine below_set ?_ bu.out | refine below_set ?_ bx.out) | exact HB.out)⟩
 rw [if_neg c14] at H
 have bR : decide (4 ≤ (be.length : Int)) = false := decide_eq_false c14
 have bQ : decide (4 ≤ be.length) = false := decide_eq_false (by omega)
 clear c14
 replace H := Option.bind_eq_some_iff.mp H
 obtain ⟨bo, bV, H⟩ := H
 replace H : ((some (([(⟨a1, bd, bd, ([] : List Int), 0, 0, 0⟩ : S37)] : List (S37)) : List (S37))).bind fun bn => (if bo.length + bn.length < 1759218604441 then (some (bg, bd, (bo ++ bn), 0)) else (none))) = some (r1, r2, r3, r4) := H
 have A23 := Aside0.mk bV
 clear bV
 obtain ⟨bn, bB⟩ : ∃ y_ : List (S37), y_ = (([(⟨a1, bd, bd, ([] : List Int), 0, 0, 0⟩ : S37)] : List (S37))) := ⟨_, rfl⟩
 replace H : (if bo.length + bn.length < 1759218604441 then (some (bg, bd, (bo ++ bn), 0)) else (none)) = some (r1, r2, r3, r4) := by first | (rw [bB]; with_reducible exact H) | (have H2_ := (Option.bind_some _ _).symm.trans H; rw [bB]; with_reducible exact H2_) | (have H2_ := (Option.bind_some _ _).symm.trans H; with_reducible exact H2_) | with_reducible exact H | (rw [bB]; exact H) | exact H
 have bD := Aside0.mk bB
 clear bB
 by_cases c24 : bo.length + bn.length < 1759218604441
 case neg =>
  rw [if_neg c24] at H
  exact absurd H (by simp)
 rw [if_pos c24] at H
 have bU := Aside0.mk c24
 clear c24
 obtain ⟨bJ, bA⟩ : ∃ y_ : List (S37), y_ = (bo ++ bn) := ⟨_, rfl⟩
 replace H : (some (bg, bd, bJ, 0)) = some (r1, r2, r3, r4) := by first | (rw [bA]; with_reducible exact H) | (have H2_ := (Option.bind_some _ _).symm.trans H; rw [bA]; with_reducible exact H2_) | (have H2_ := (Option.bind_some _ _).symm.trans H; with_reducible exact H2_) | with_reducible exact H | (rw [bA]; exact H) | exact H
 have bS := Aside0.mk bA
 clear bA
 simp only [Option.some.injEq, Prod.mk.injEq] at H
 obtain ⟨rfl, rfl, rfl, rfl⟩ := H
 go_enter Tryd.func14, Tryd.ntmps14
 try go_wp2_with (first | ((with_reducible refine gate_dst (N := 2) rfl ?_); refine box_event ?hg (N := 2) ?hd (cs := #[.int .u64 bg, .int .u64 bd, .slice bj be.length bi]) (t := 27) ?hr ?_; (case hd => rfl); (case hg => rfl); (case hr => first | (go_simp; done) | (go_simp; rfl)); intro ba hg w25 hbox hb; replace bh := Aside0.mk (Kd.V_below (Kd.V_elderB zx3_3 ba (Nat.le_of_eq hg.symm)) hb); have bc := Aside0.mk (hbox); have bI := Aside0.mk ((by rw [hg]; exact (below_size zx3_5) : w.heap.size ≤ ba)); have bu := Aside0.mk ((by rw [hg]; exact (below_size zx3_5) : w.heap.size ≤ ba)); replace HB := Aside0.mk (below_step zx3_5 hb); clear hb hbox hg) | ((with_reducible refine gate_dst (N := 4) rfl ?_); refine box_event ?hg (N := 4) ?hd (cs := #[.int .u64 0, .int .u64 0, .slice none 0 0]) (t := 27) ?hr ?_; (case hd => rfl); (case hg => rfl); (case hr => first | (go_simp; done) | (go_simp; rfl)); intro bb hg w26 hbox hb; replace bh := Aside0.mk (Kd.V_below (Kd.V_elderB zx3_3 bb (Nat.le_of_eq hg.symm)) hb); have bf := Aside0.mk (hbox); have bH := Aside0.mk ((by rw [hg]; exact (below_size zx3_4) : w.heap.size ≤ bb)); have bx := Aside0.mk ((by rw [hg]; exact (below_size zx3_4) : w.heap.size ≤ bb)); replace HB := Aside0.mk (below_step zx3_4 hb); have bm := Aside0.mk ((by rw [hg]; exact Nat.ne_of_lt (blk_lt (g := ba) (o := .cells #[.int .u64 bg, .int .u64 bd, .slice bj be.length bi] 27 (0, 0)) zx3_1) : ba ≠ bb)); have bl := Aside0.mk ((by rw [hg]; exact Nat.ne_of_gt (blk_lt (g := ba) (o := .cells #[.int .u64 bg, .int .u64 bd, .slice bj be.length bi] 27 (0, 0)) zx3_1) : bb ≠ ba)); replace bc := Aside0.mk (blk_below (g := ba) (o := .cells #[.int .u64 bg, .int .u64 bd, .slice bj be.length bi] 27 (0, 0)) zx3_1 hb); clear hb hbox hg) | ((with_reducible refine gate_callee (f := 34) rfl ?_); refine goesL_ (some 8) rfl rfl Tryd.func34 (by kernel_rfl) rfl #[.string a1] rfl zx3_7 ?_; (with_reducible refine (label_Name.calls a1 true _ A3.out).mono ?_); rintro e w27 ⟨rfl, hb⟩; refine ⟨_, rfl, ?_⟩; replace bh := Aside0.mk (Kd.V_below zx3_3 hb); replace bc := Aside0.mk (blk_below (g := ba) (o := .cells #[.int .u64 bg, .int .u64 bd, .slice bj be.length bi] 27 (0, 0)) zx3_1 hb); replace bf := Aside0.mk (blk_below (g := bb) (o := .cells #[.int .u64 0, .int .u64 0, .slice none 0 0] 27 (0, 0)) zx3_2 hb); replace HB := Aside0.mk (below_step zx3_0 hb); (try clear hb); (try clear hb2); (try clear hk); (try clear hi); have d6 := bm.out; have d2 := bl.out; have dI : w27.cell? ⟨ba, 0, none⟩ = some (.int .u64 bg) := (blk_cell bc.out 0).trans rfl; have dH : w27.cell? ⟨ba, 1, none⟩ = some (.int .u64 bd) := (blk_cell bc.out 1).trans rfl; have dG : w27.cell? ⟨ba, 2, none⟩ = some (.slice bj be.length bi) := (blk_cell bc.out 2).trans rfl; have dc := blk_frozen bc.out 0; have db := blk_frozen bc.out 1; have da := blk_frozen bc.out 2) | ((with_reducible refine gate_callee (f := 31) rfl ?_); refine goesL_ (some 15) rfl rfl Tryd.func31 (by kernel_rfl) rfl #[.slice bj be.length bi, .string a1] rfl zx3_7 ?_; (with_reducible refine (ledger_place.calls _ _ be a1 br _ ?side1 ?side2 A5.out).mono ?_); (case side1 => repeat (first | exact (Kd.V_reads' bh.out).2.2 | (with_reducible refine Kd.C_alloc ?_ _) | (with_reducible refine Kd.C_drewN ?_ _) | (with_reducible refine Kd.C_drew ?_))); (case side2 => exact (Kd.V_reads' bh.out).2.1); rintro e w30 ⟨rfl, hb⟩; refine ⟨_, rfl, ?_⟩; replace bh := Aside0.mk (Kd.V_below zx3_3 hb); replace bc := Aside0.mk (blk_below (g := ba) (o := .cells #[.int .u64 bg, .int .u64 bd, .slice bj be.length bi] 27 (0, 0)) zx3_1 hb); replace bf := Aside0.mk (blk_below (g := bb) (o := .cells #[.int .u64 0, .int .u64 0, .slice none 0 0] 27 (0, 0)) zx3_2 hb); replace HB := Aside0.mk (below_step zx3_0 hb); (try clear hb); (try clear hb2); (try clear hk); (try clear hi); have dF : w30.cell? ⟨ba, 0, none⟩ = some (.int .u64 bg) := (blk_cell bc.out 0).trans rfl; have dE : w30.cell? ⟨ba, 1, none⟩ = some (.int .u64 bd) := (blk_cell bc.out 1).trans rfl; have dD : w30.cell? ⟨ba, 2, none⟩ = some (.slice bj be.length bi) := (blk_cell bc.out 2).trans rfl; have b9 := blk_frozen bc.out 0; have b8 := blk_frozen bc.out 1; have b7 := blk_frozen bc.out 2))
 replace bh := Aside0.mk (Kd.V_drew bh.out)
 replace bc := Aside0.mk (blk_drew bc.out)
 replace bf := Aside0.mk (blk_drew bf.out)
 replace HB := Aside0.mk (below_drew1 HB.out)
 refine start_ (n := 13) (S := fun w' => w'.cell? ⟨ba, 0, none⟩ = some (.int .u64 bg) ∧ w'.cell? ⟨ba, 1, none⟩ = some (.int .u64 bd) ∧ w'.cell? ⟨ba, 2, none⟩ = some (.slice bj be.length bi)) (ds := [12]) #[Ff,Ff,Ff,Ff,Ff,Ff,Ff,Ff,Ff,Ff,Ff,Ff,Ff] (by kernel_rfl) rfl rfl ⟨(blk_cell bc.out 0).trans rfl, (blk_cell bc.out 1).trans rfl, (blk_cell bc.out 2).trans rfl⟩ (fun hHeld => ?_); refine with_tabW ledger_Join.tab7 ledger_Join.bits7 (fun HT_ HW_ => ?_)
 generalize w30.drew = w32 at bh bc bf HB hHeld ⊢
 refine pp_ 0 (some 24) HT_.out ?_
 refine pp_ 3 (some 27) HT_.out ?_
 refine pp_ 4 (some 28) HT_.out ?_
 refine pp_ 6 (some 30) HT_.out ?_
 refine take_ (i := 1) (N := some 25) (v := ?_) (a' := ?_) #[Tt,Tt,Ff,Tt,Tt,Ff,Tt,Ff,Ff,Ff,Ff,Ff,Ff] rfl rfl (take_ofW HT_.out HW_.out (by kernel_rfl)) (fun _ _ _ h => h) (Or.inl ⟨by rfl, ?_⟩) hHeld ?_ ?_
 rotate_left
 ·rintro w' ⟨s0, s1, s2⟩
  go_simp
  with_reducible rfl
 rotate_left
 ·simp only [Act.put, List.setIfInBounds_toArray, List.set_cons_zero, List.set_cons_succ, i64_w, i32_w]
  rfl
 refine take_ (i := 5) (N := some 29) (v := ?_) (a' := ?_) #[Tt,Tt,Ff,Tt,Tt,Tt,Tt,Ff,Ff,Ff,Ff,Ff,Ff] rfl rfl (take_ofW HT_.out HW_.out (by kernel_rfl)) (fun _ _ _ h => h) (Or.inl ⟨by rfl, ?_⟩) hHeld ?_ ?_
 rotate_left
 ·rintro w' ⟨s0, s1, s2⟩
  go_simp
  with_reducible rfl
 rotate_left
 ·simp only [Act.put, List.setIfInBounds_toArray, List.set_cons_zero, List.set_cons_succ, i64_w, i32_w]
  rfl
 refine take_ (i := 7) (N := some 31) (v := ?_) (a' := ?_) #[Tt,Tt,Ff,Tt,Tt,Tt,Tt,Tt,Ff,Ff,Ff,Ff,Ff] rfl rfl (take_ofW HT_.out HW_.out (by kernel_rfl)) (fun _ _ _ h => h) (Or.inl ⟨by rfl, ?_⟩) hHeld ?_ ?_
 rotate_left
 ·rintro w' ⟨s0, s1, s2⟩
  go_simp
  with_reducible rfl
 rotate_left
 ·simp only [Act.put, List.setIfInBounds_toArray, List.set_cons_zero, List.set_cons_succ, i64_w, i32_w]
  rfl
 refine pp_ 8 (some 32) HT_.out ?_
 refine join_ (σ := Value × Value) 3 #[Tt,Tt,Tt,Tt,Tt,Tt,Tt,Tt,Tt,Tt,Ff,Ff,Ff] (fun s_ => [(26, s_.1), (33, s_.2)]) (fun s_ w' => (w'.cell? ⟨ba, 0, none⟩ = some (.int .u64 bg) ∧ w'.cell? ⟨ba, 1, none⟩ = some (.int .u64 bd) ∧ w'.cell? ⟨ba, 2, none⟩ = some (.slice bj be.length bi)) ∧ (Kd.V k37 37 w' w.heap.size (fun k_ => (bk k_ ∨ w.heap.size ≤ k_) ∧ some k_ ≠ (s_.1 : Value).ownBlock ∧ some k_ ≠ (s_.2 : Value).ownBlock ∧ k_ ≠ ba ∧ k_ ≠ bb) (.slice bj be.length bi) be) ∧ (Kd.N k37 37 w' w.heap.size (fun k_ => (bk k_ ∨ w.heap.size ≤ k_) ∧ some k_ ≠ (s_.2 : Value).ownBlock ∧ k_ ≠ ba ∧ k_ ≠ bb) s_.1 bo) ∧ (Kd.N k37 37 w' w.heap.size (fun k_ => (bk k_ ∨ w.heap.size ≤ k_) ∧ some k_ ≠ (s_.1 : Value).ownBlock ∧ k_ ≠ ba ∧ k_ ≠ bb) s_.2 bn) ∧ (w'.heap[ba]? = some (.cells #[.int .u64 bg, .int .u64 bd, .slice bj be.length bi] 27 (0, 0))) ∧ (w'.heap[bb]? = some (.cells #[.int .u64 0, .int .u64 0, .slice none 0 0] 27 (0, 0))) ∧ (Below w.heap.size w w')) ?_ ?_
 rotate_left
 ·intro hCont
  refine two_ (i := 2) (j := 9) (Ni := some 26) (Nj := some 33) #[Tt,Tt,Tt,Tt,Tt,Tt,Tt,Tt,Tt,Ff,Ff,Ff,Ff] #[Tt,Tt,Ff,Tt,Tt,Tt,Tt,Tt,Tt,Tt,Ff,Ff,Ff] rfl rfl rfl rfl (two_of HT_.out (by kernel_rfl)) (by decide) (by decide) (fun K hK => ?_) (fun K hK => ?_)
  ·skip
   refine goes_ Tryd.func33 (by kernel_rfl) rfl #[.slice bj be.length bi] (by rfl) rfl rfl zx3_7 ?_
   with_reducible refine (ledger_Dest_33.calls (fun k_ => (((bk k_ ∨ w.heap.size ≤ k_) ∧ k_ ≠ ba) ∧ k_ ≠ bb)) _ _ be bo _ ?side1 A23.out).mono ?_
   (case side1 => exact bh.out)
   rintro e w33 ⟨bw, rfl, ho0, hb⟩
   refine ⟨_, rfl, ?_⟩
   replace bh := Aside0.mk (Kd.V_elder' zx3_3 (Kd.N_base ho0) hb)
   have bp := Aside0.mk (Kd.N_lower (Kd.N_mono (ok' := fun k_ => (bk k_ ∨ w.heap.size ≤ k_) ∧ k_ ≠ ba ∧ k_ ≠ bb) ho0 (fun k_ hk_ => ⟨Or.elim hk_ (fun hs_ => hs_.1.1) (fun hn_ => (.inr (Nat.le_trans (below_size zx3_0) hn_))), Or.elim hk_ (fun hs_ => hs_.1.2) (fun hn_ => (Kd.freshB (g := ba) (o := .cells #[.int .u64 bg, .int .u64 bd, .slice bj be.length bi] 27 (0, 0)) zx3_1 k_ hn_)), Or.elim hk_ (fun hs_ => hs_.2) (fun hn_ => (Kd.freshB (g := bb) (o := .cells #[.int .u64 0, .int .u64 0, .slice none 0 0] 27 (0, 0)) zx3_2 k_ hn_))⟩)) (below_size zx3_0))
   replace bc := Aside0.mk (blk_below (g := ba) (o := .cells #[.int .u64 bg, .int .u64 bd, .slice bj be.length bi] 27 (0, 0)) zx3_1 hb)
   replace bf := Aside0.mk (blk_below (g := bb) (o := .cells #[.int .u64 0, .int .u64 0, .slice none 0 0] 27 (0, 0)) zx3_2 hb)
   replace HB := Aside0.mk (below_step zx3_0 hb)
   (try clear hb)
   (try clear hb2)
   (try clear hk)
   (try clear hi)
   (try clear ho0)
   refine hK.out _ _ ⟨(blk_cell bc.out 0).trans rfl, (blk_cell bc.out 1).trans rfl, (blk_cell bc.out 2).trans rfl⟩ (fun hHeld => ?_)
   clear hK K
   refine na_ 26 ?_
   refine one_ (i := 9) (N := some 33) #[Tt,Tt,Tt,Tt,Tt,Tt,Tt,Tt,Tt,Tt,Ff,Ff,Ff] rfl rfl (one_of HT_.out (by kernel_rfl)) (by decide) (fun K hK => ?_)
   refine Kd.N_lit_step k37 _ 37 ?hg (N' := 33) ?hd (xs := ([(⟨a1, bd, bd, ([] : List Int), 0, 0, 0⟩ : S37)] : List (S37))) (inner := [.string a1, .int .u64 bd, .int .u64 bd, .slice none 0 0, .int .u64 0, .int .u64 0, .int .u64 0]) (ok := (fun k_ => (bk k_ ∨ w.heap.size ≤ k_) ∧ some k_ ≠ (bw : Value).ownBlock ∧ k_ ≠ ba ∧ k_ ≠ bb)) (okp := (fun k_ => (bk k_ ∨ w.heap.size ≤ k_) ∧ some k_ ≠ (bw : Value).ownBlock ∧ k_ ≠ ba ∧ k_ ≠ bb)) ?hr ?hp (fun _ hk => hk) ((show ∀ k_, w33.heap.size ≤ k_ → (fun k_ => (bk k_ ∨ w.heap.size ≤ k_) ∧ some k_ ≠ (bw : Value).ownBlock ∧ k_ ≠ ba ∧ k_ ≠ bb) k_ from fun k_ hk => ⟨(.inr (Nat.le_trans (below_size zx3_0) hk)), Kd.fresh' (Kd.N_lt (by (with_reducible repeat (first | apply Kd.N_alloc | apply Kd.N_drewN | apply Kd.N_drew)); exact bp.out)) k_ hk, Kd.freshB (g := ba) (o := .cells #[.int .u64 bg, .int .u64 bd, .slice bj be.length bi] 27 (0, 0)) zx3_1 k_ hk, Kd.freshB (g := bb) (o := .cells #[.int .u64 0, .int .u64 0, .slice none 0 0] 27 (0, 0)) zx3_2 k_ hk⟩) _ (Nat.le_refl _)) (Below.refl _ _) (Nat.le_refl _) (by simp) ?_; (case hd => rfl); (case hg => rfl); (case hr => first | (go_simp; done) | (go_simp; rfl)); (case hp => exact (Reps.c7 (show Kd.FK k37 _ _ (⟨a1, bd, bd, ([] : List Int), 0, 0, 0⟩ : S37) [.string a1, .int .u64 bd, .int .u64 bd, .slice none 0 0, .int .u64 0, .int .u64 0, .int .u64 0] from (k37_mkF _ _ (⟨a1, bd, bd, ([] : List Int), 0, 0, 0⟩ : S37) (Nat.le_refl _) (Kd.F_nil _ _ _))) (Reps.none _ _)))
   intro bz w34 bC hb hg_ hnew_
   clear hg_ hnew_
   (first | rw [← bD.out] at bC | (simp only [Int.reduceToNat] at bC; rw [← bD.out] at bC))
   replace bh := Aside0.mk (Kd.V_elder' zx3_3 (Kd.N_base bC) hb)
   replace bp := Aside0.mk (Kd.N_elder' (by (with_reducible repeat (first | apply Kd.N_alloc | apply Kd.N_drewN | apply Kd.N_drew)); exact bp.out) (Kd.N_base bC) hb)
   have bq := Aside0.mk (Kd.N_lower bC (below_size zx3_0))
   replace bc := Aside0.mk (blk_below (g := ba) (o := .cells #[.int .u64 bg, .int .u64 bd, .slice bj be.length bi] 27 (0, 0)) zx3_1 hb)
   replace bf := Aside0.mk (blk_below (g := bb) (o := .cells #[.int .u64 0, .int .u64 0, .slice none 0 0] 27 (0, 0)) zx3_2 hb)
   replace HB := Aside0.mk (below_step zx3_0 hb)
   clear hb bC
   refine hK.out _ _ ⟨(blk_cell bc.out 0).trans rfl, (blk_cell bc.out 1).trans rfl, (blk_cell bc.out 2).trans rfl⟩ (fun hHeld => ?_)
   clear hK K
   refine na_ 33 ?_
   exact norm_ (by simp only [putAll, Act.put, List.setIfInBounds_toArray, List.set_cons_zero, List.set_cons_succ]) (hCont (bw, bz) _ ⟨hHeld, (by (with_reducible repeat (first | apply Kd.V_alloc | apply Kd.V_drewN | apply Kd.V_drew)); exact Kd.V_mono bh.out (fun _ hk => ⟨hk.1.1.1.1, ⟨hk.1.2, ⟨hk.2, ⟨hk.1.1.1.2, hk.1.1.2⟩⟩⟩⟩)), (by (with_reducible repeat (first | apply Kd.N_alloc | apply Kd.N_drewN | apply Kd.N_drew)); exact Kd.N_mono bp.out (fun _ hk => ⟨hk.1.1, ⟨hk.2, ⟨hk.1.2.1, hk.1.2.2⟩⟩⟩)), (by (with_reducible repeat (first | apply Kd.N_alloc | apply Kd.N_drewN | apply Kd.N_drew)); exact bq.out), zx3_1, zx3_2, zx3_0⟩)
  skip
  refine Kd.N_lit_step k37 _ 37 ?hg (N' := 33) ?hd (xs := ([(⟨a1, bd, bd, ([] : List Int), 0, 0, 0⟩ : S37)] : List (S37))) (inner := [.string a1, .int .u64 bd, .int .u64 bd, .slice none 0 0, .int .u64 0, .int .u64 0, .int .u64 0]) (ok := (fun k_ => (bk k_ ∨ w.heap.size ≤ k_) ∧ k_ ≠ ba ∧ k_ ≠ bb)) (okp := (fun k_ => (bk k_ ∨ w.heap.size ≤ k_) ∧ k_ ≠ ba ∧ k_ ≠ bb)) ?hr ?hp (fun _ hk => hk) ((show ∀ k_, w32.heap.size ≤ k_ → (fun k_ => (bk k_ ∨ w.heap.size ≤ k_) ∧ k_ ≠ ba ∧ k_ ≠ bb) k_ from fun k_ hk => ⟨(.inr (Nat.le_trans (below_size zx3_0) hk)), Kd.freshB (g := ba) (o := .cells #[.int .u64 bg, .int .u64 bd, .slice bj be.length bi] 27 (0, 0)) zx3_1 k_ hk, Kd.freshB (g := bb) (o := .cells #[.int .u64 0, .int .u64 0, .slice none 0 0] 27 (0, 0)) zx3_2 k_ hk⟩) _ (Nat.le_refl _)) (Below.refl _ _) (Nat.le_refl _) (by simp) ?_; (case hd => rfl); (case hg => rfl); (case hr => first | (go_simp; done) | (go_simp; rfl)); (case hp => exact (Reps.c7 (show Kd.FK k37 _ _ (⟨a1, bd, bd, ([] : List Int), 0, 0, 0⟩ : S37) [.string a1, .int .u64 bd, .int .u64 bd, .slice none 0 0, .int .u64 0, .int .u64 0, .int .u64 0] from (k37_mkF _ _ (⟨a1, bd, bd, ([] : List Int), 0, 0, 0⟩ : S37) (Nat.le_refl _) (Kd.F_nil _ _ _))) (Reps.none _ _)))
  intro bz w33 bG hb hg_ hnew_
  clear hg_ hnew_
  (first | rw [← bD.out] at bG | (simp only [Int.reduceToNat] at bG; rw [← bD.out] at bG))
  replace bh := Aside0.mk (Kd.V_elder' zx3_3 (Kd.N_base bG) hb)
  have bq := Aside0.mk (Kd.N_lower bG (below_size zx3_0))
  replace bc := Aside0.mk (blk_below (g := ba) (o := .cells #[.int .u64 bg, .int .u64 bd, .slice bj be.length bi] 27 (0, 0)) zx3_1 hb)
  replace bf := Aside0.mk (blk_below (g := bb) (o := .cells #[.int .u64 0, .int .u64 0, .slice none 0 0] 27 (0, 0)) zx3_2 hb)
  replace HB := Aside0.mk (below_step zx3_0 hb)
  clear hb bG
  refine hK.out _ _ ⟨(blk_cell bc.out 0).trans rfl, (blk_cell bc.out 1).trans rfl, (blk_cell bc.out 2).trans rfl⟩ (fun hHeld => ?_)
  clear hK K
  refine na_ 33 ?_
  refine one_ (i := 2) (N := some 26) #[Tt,Tt,Tt,Tt,Tt,Tt,Tt,Tt,Tt,Tt,Ff,Ff,Ff] rfl rfl (one_of HT_.out (by kernel_rfl)) (by decide) (fun K hK => ?_)
  refine goes_ Tryd.func33 (by kernel_rfl) rfl #[.slice bj be.length bi] (by rfl) rfl rfl zx3_7 ?_
  with_reducible refine (ledger_Dest_33.calls (fun k_ => ((((bk k_ ∨ w.heap.size ≤ k_) ∧ k_ ≠ ba) ∧ k_ ≠ bb) ∧ some k_ ≠ (bz : Value).ownBlock)) _ _ be bo _ ?side1 A23.out).mono ?_
  (case side1 => exact bh.out)
  rintro e w35 ⟨bw, rfl, ho0, hb⟩
  refine ⟨_, rfl, ?_⟩
  replace bh := Aside0.mk (Kd.V_elder' zx3_3 (Kd.N_base ho0) hb)
  have bp := Aside0.mk (Kd.N_lower (Kd.N_mono (ok' := fun k_ => (bk k_ ∨ w.heap.size ≤ k_) ∧ some k_ ≠ (bz : Value).ownBlock ∧ k_ ≠ ba ∧ k_ ≠ bb) ho0 (fun k_ hk_ => ⟨Or.elim hk_ (fun hs_ => hs_.1.1.1) (fun hn_ => (.inr (Nat.le_trans (below_size zx3_0) hn_))), Or.elim hk_ (fun hs_ => hs_.2) (fun hn_ => (Kd.fresh' (Kd.N_lt (by (with_reducible repeat (first | apply Kd.N_alloc | apply Kd.N_drewN | apply Kd.N_drew)); exact bq.out)) k_ hn_)), Or.elim hk_ (fun hs_ => hs_.1.1.2) (fun hn_ => (Kd.freshB (g := ba) (o := .cells #[.int .u64 bg, .int .u64 bd, .slice bj be.length bi] 27 (0, 0)) zx3_1 k_ hn_)), Or.elim hk_ (fun hs_ => hs_.1.2) (fun hn_ => (Kd.freshB (g := bb) (o := .cells #[.int .u64 0, .int .u64 0, .slice none 0 0] 27 (0, 0)) zx3_2 k_ hn_))⟩)) (below_size zx3_0))
  replace bq := Aside0.mk (Kd.N_elder' (by (with_reducible repeat (first | apply Kd.N_alloc | apply Kd.N_drewN | apply Kd.N_drew)); exact bq.out) (Kd.N_base ho0) hb)
  replace bc := Aside0.mk (blk_below (g := ba) (o := .cells #[.int .u64 bg, .int .u64 bd, .slice bj be.length bi] 27 (0, 0)) zx3_1 hb)
  replace bf := Aside0.mk (blk_below (g := bb) (o := .cells #[.int .u64 0, .int .u64 0, .slice none 0 0] 27 (0, 0)) zx3_2 hb)
  replace HB := Aside0.mk (below_step zx3_0 hb)
  (try clear hb)
  (try clear hb2)
  (try clear hk)
  (try clear hi)
  (try clear ho0)
  refine hK.out _ _ ⟨(blk_cell bc.out 0).trans rfl, (blk_cell bc.out 1).trans rfl, (blk_cell bc.out 2).trans rfl⟩ (fun hHeld => ?_)
  clear hK K
  refine na_ 26 ?_
  exact norm_ (by simp only [putAll, Act.put, List.setIfInBounds_toArray, List.set_cons_zero, List.set_cons_succ]) (hCont (bw, bz) _ ⟨hHeld, (by (with_reducible repeat (first | apply Kd.V_alloc | apply Kd.V_drewN | apply Kd.V_drew)); exact Kd.V_mono bh.out (fun _ hk => ⟨hk.1.1.1.1, ⟨hk.2, ⟨hk.1.2, ⟨hk.1.1.1.2, hk.1.1.2⟩⟩⟩⟩)), (by (with_reducible repeat (first | apply Kd.N_alloc | apply Kd.N_drewN | apply Kd.N_drew)); exact bp.out), (by (with_reducible repeat (first | apply Kd.N_alloc | apply Kd.N_drewN | apply Kd.N_drew)); exact Kd.N_mono bq.out (fun _ hk => ⟨hk.1.1, ⟨hk.2, ⟨hk.1.2.1, hk.1.2.2⟩⟩⟩)), zx3_1, zx3_2, zx3_0⟩)
 rintro ⟨bw, bz⟩ w36 ⟨hS_, h0_, h1_, h2_, h3_, h4_, h5_⟩
 have n0_ : Aside0 (Kd.V k37 37 w36 w.heap.size (fun k_ => (bk k_ ∨ w.heap.size ≤ k_) ∧ some k_ ≠ (bw : Value).ownBlock ∧ some k_ ≠ (bz : Value).ownBlock ∧ k_ ≠ ba ∧ k_ ≠ bb) (.slice bj be.length bi) be) := ⟨h0_⟩
 have n1_ : Aside0 (Kd.N k37 37 w36 w.heap.size (fun k_ => (bk k_ ∨ w.heap.size ≤ k_) ∧ some k_ ≠ (bz : Value).ownBlock ∧ k_ ≠ ba ∧ k_ ≠ bb) bw bo) := ⟨h1_⟩
 have n2_ : Aside0 (Kd.N k37 37 w36 w.heap.size (fun k_ => (bk k_ ∨ w.heap.size ≤ k_) ∧ some k_ ≠ (bw : Value).ownBlock ∧ k_ ≠ ba ∧ k_ ≠ bb) bz bn) := ⟨h2_⟩
 have n3_ : Aside0 (w36.heap[ba]? = some (.cells #[.int .u64 bg, .int .u64 bd, .slice bj be.length bi] 27 (0, 0))) := ⟨h3_⟩
 have n4_ : Aside0 (w36.heap[bb]? = some (.cells #[.int .u64 0, .int .u64 0, .slice none 0 0] 27 (0, 0))) := ⟨h4_⟩
 have n5_ : Aside0 (Below w.heap.size w w36) := ⟨h5_⟩
 clear bh
 clear bc
 clear bf
 clear HB
 clear h0_ h1_ h2_ h3_ h4_ h5_
 have bh := n0_
 have bp := n1_
 have bq := n2_
 have bc := n3_
 have bf := n4_
 have HB := n5_
 clear n0_ n1_ n2_ n3_ n4_ n5_
 have hHeld : w36.cell? ⟨ba, 0, none⟩ = some (.int .u64 bg) ∧ w36.cell? ⟨ba, 1, none⟩ = some (.int .u64 bd) ∧ w36.cell? ⟨ba, 2, none⟩ = some (.slice bj be.length bi) := hS_
 obtain ⟨d0, dY, bP⟩ := Kd.N_slice bq.out
 (first | subst bP | (injection bP with f1_ f2_ f3_; have f4_ := f1_.symm; have f5_ := f3_.symm; clear f1_ f2_ f3_; subst f4_; subst f5_))
 refine nb_ ?_
 refine one_ (i := 10) (N := some 34) #[Tt,Tt,Tt,Tt,Tt,Tt,Tt,Tt,Tt,Tt,Tt,Ff,Ff] rfl rfl (one_of HT_.out (by kernel_rfl)) (by decide) (fun K hK => ?_)
 refine Kd.N_append_rows_step k37 (w0 := w) w.heap.size (by rfl) (.tmp 26) (.tmp 33) 25 37 (.agg #[(.string ⟨#[]⟩), (.int .u64 0), (.int .u64 0), (.slice none 0 0), (.int .u64 0), (.int .u64 0), (.int .u64 0)]) 80 rfl Tryd.underlying25 info37 rfl (by decide) (by omega) bw bo bn _ _ _ (fun k_ => (bk k_ ∨ w.heap.size ≤ k_) ∧ k_ ≠ ba ∧ k_ ≠ bb) (fun k_ => ((fun k_ => (bk k_ ∨ w.heap.size ≤ k_) ∧ k_ ≠ ba ∧ k_ ≠ bb)) k_ ∧ some k_ ≠ (bw : Value).ownBlock) rfl rfl ?aO ?aR (fun _ hk => hk) ?aF ?aB ?aS ?aL ?_
 (case aR => exact (by skip; exact Kd.N_F (Kd.N_mono (ok' := (fun k_ => ((fun k_ => (bk k_ ∨ w.heap.size ≤ k_) ∧ k_ ≠ ba ∧ k_ ≠ bb)) k_ ∧ some k_ ≠ (bw : Value).ownBlock)) (bq.out) (fun k_ hk => ⟨⟨hk.1, ⟨hk.2.2.1, hk.2.2.2⟩⟩, hk.2.1⟩))))
 (case aB => exact zx3_0)
 (case aF => exact (fun k_ hk => ⟨(.inr (Nat.le_trans (below_size zx3_0) hk)), Kd.freshB (g := ba) (o := .cells #[.int .u64 bg, .int .u64 bd, .slice bj be.length bi] 27 (0, 0)) zx3_1 k_ hk, Kd.freshB (g := bb) (o := .cells #[.int .u64 0, .int .u64 0, .slice none 0 0] 27 (0, 0)) zx3_2 k_ hk⟩))
 (case aO => exact (by (with_reducible repeat (first | apply Kd.N_alloc | apply Kd.N_drewN | apply Kd.N_drew)); exact Kd.N_mono bp.out (fun _ hk => ⟨hk.1, ⟨hk.2.2.1, hk.2.2.2⟩⟩)))
 (case aS => exact (below_size zx3_0))
 (case aL => have := bU.out; omega)
 intro ga w37 ho hb hg hat
 rw [← bS.out] at ho
 have n0_ := Aside0.mk (Kd.V_afterv (ok := (fun k_ => (bk k_ ∨ w.heap.size ≤ k_) ∧ some k_ ≠ (.slice d0 bn.length dY : Value).ownBlock ∧ k_ ≠ ba ∧ k_ ≠ bb)) (by (with_reducible repeat (first | apply Kd.V_alloc | apply Kd.V_drewN | apply Kd.V_drew)); exact Kd.V_mono bh.out (fun _ hk => ⟨⟨hk.1, ⟨hk.2.2.1, ⟨hk.2.2.2.1, hk.2.2.2.2⟩⟩⟩, hk.2.1⟩)) hg hat)
 have n1_ := Aside0.mk (blk_grown (g := ba) (o := .cells #[.int .u64 bg, .int .u64 bd, .slice bj be.length bi] 27 (0, 0)) zx3_1 hg (Kd.N_ne bp.out bc.out (by decide)))
 have n2_ := Aside0.mk (blk_grown (g := bb) (o := .cells #[.int .u64 0, .int .u64 0, .slice none 0 0] 27 (0, 0)) zx3_2 hg (Kd.N_ne bp.out bf.out (by decide)))
 have n4_ := Aside0.mk (hb)
 have n5_ := Aside0.mk (ho)
 clear bh
 clear bc
 clear bf
 (try clear bq)
 clear HB
 (try clear bp)
 have bh := n0_
 have bc := n1_
 have bf := n2_
 have HB := n4_
 have bK := n5_
 clear n0_ n1_ n2_ n4_ n5_
 clear ho hb hg hat
 obtain ⟨bM, bL, bO⟩ := Kd.N_slice bK.out
 (first | subst bO | (injection bO with f1_ f2_ f3_; have f4_ := f1_.symm; have f5_ := f3_.symm; clear f1_ f2_ f3_; subst f4_; subst f5_))
 refine hK.out _ _ ⟨(blk_cell bc.out 0).trans rfl, (blk_cell bc.out 1).trans rfl, (blk_cell bc.out 2).trans rfl⟩ (fun hHeld => ?_)
 clear hK K
 refine na_ 34 ?_
 refine pp_ 11 (some 35) HT_.out ?_
 refine last_ (i := 12) (N := none) #[Tt,Tt,Tt,Tt,Tt,Tt,Tt,Tt,Tt,Tt,Tt,Tt,Tt] rfl rfl (one_of HT_.out (by kernel_rfl)) (by decide) (fun K hK => ?_)
 have ge : w37.cell? ⟨ba, 2, none⟩ = some (.slice bj be.length bi) := (blk_cell bc.out 2).trans rfl
 have d9 := blk_frozen bc.out 2
 have bW := bl.out
 have bX := bm.out
 refine skip_ (w1 := ?_) (by rfl) rfl ?_ ?_
 rotate_left
 ·go_simp
  rfl
 refine hK.out _ _ ?_
 clear hK K
 refine done_ (done_of HT_.out (by kernel_rfl)) ?_
 obtain ⟨dC, dB, dA, b6, b5, b4⟩ := cx3_bc3 bc.out
 obtain ⟨dz, dy, dx, b3, b2, b1⟩ := cx3_bc3 bf.out
 try go_wp2
 refine bodyPost_ret (results_ct rfl _ _ bb 27 #[.int .u64 bg, .int .u64 bd, .slice bM bJ.length bL] (0, 0) _ rfl (by (with_reducible repeat (first | refine blk_drewN ?_ _ | refine blk_drew ?_ | refine blk_alloc ?_ _)); refine blk_put (cs := #[.int .u64 bg, .int .u64 bd, .slice none 0 0]) ?_ 2 _ rfl; (with_reducible repeat (first | refine blk_drewN ?_ _ | refine blk_drew ?_ | refine blk_alloc ?_ _)); refine blk_put (cs := #[.int .u64 bg, .int .u64 0, .slice none 0 0]) ?_ 1 _ rfl; (with_reducible repeat (first | refine blk_drewN ?_ _ | refine blk_drew ?_ | refine blk_alloc ?_ _)); refine blk_put (cs := #[.int .u64 0, .int .u64 0, .slice none 0 0]) ?_ 0 _ rfl; (with_reducible repeat (first | refine blk_drewN ?_ _ | refine blk_drew ?_ | refine blk_alloc ?_ _)); refine blk_far ?_ bl.out _; (with_reducible repeat (first | refine blk_drewN ?_ _ | refine blk_drew ?_ | refine blk_alloc ?_ _)); exact bf.out) Tryd.underlying27 rfl (by kernel_rfl)) rfl ?_
 exact ⟨_, by first | rfl | (simp [errW_none, errW_some] <;> rfl) | (simp [*, errW_none, errW_some] <;> rfl), by (with_reducible repeat (first | apply Kd.N_alloc | apply Kd.N_drewN | apply Kd.N_drew)); exact Kd.N_mono (Kd.N_far (p := ⟨bb, 2, none⟩) (Kd.N_far (p := ⟨bb, 1, none⟩) (Kd.N_far (p := ⟨bb, 0, none⟩) (Kd.N_far (p := ⟨ba, 2, none⟩) (Kd.N_mono (Kd.N_mono bK.out (fun k_ hk => (⟨hk, hk.2.1⟩ : _ ∧ k_ ≠ ba))) (fun k_ hk => (⟨hk, hk.1.2.2⟩ : _ ∧ k_ ≠ bb))) (fun _ hk => hk.1.2) (.slice bM bJ.length bL)) (fun _ hk => hk.2) (.int .u64 bg)) (fun _ hk => hk.2) (.int .u64 bd)) (fun _ hk => hk.2) (.slice bM bJ.length bL)) (fun _ hk => hk.1.1.1), by repeat (first | (with_reducible first | exact HB.out | apply below_alloc | apply pw_below_drewN | apply below_drew1 | refine below_set ?_ bu.out | refine below_set ?_ bx.out) | exact HB.out)⟩
end Go.Proofs.YthhmpjapnkilcaaDoor.XLdg
end
section
/- What the functions of the translation answer, each as a plain Lean function, and that the code comes to it; for a law: its row. Conditions: none but those that each theorem names. Written by a program of this session (wip/xp). -/
namespace Go.Proofs.YthhmpjapnkilcaaDoor.XLdg
open Go.RowKit Go.Proofs.YthhmpjapnkilcaaDoorW.PrintWords Go.Proofs.YthhmpjapnkilcaaDoorW.PrintLast Go.Proofs.YthhmpjapnkilcaaDoorW.PrintMore
attribute [local go_sem] max2_int min2_int max_two min_two max_three min_three max_four min_four   -- for this text's walks alone
theorem cx7_bc3 {w : World} {g : Nat} {t : TypeId} {x0 x1 x2 : Value} (h : w.heap[g]? = some (.cells #[x0, x1, x2] t (0, 0))) : w.cell? ⟨g, 0, none⟩ = some x0 ∧ w.cell? ⟨g, 1, none⟩ = some x1 ∧ w.cell? ⟨g, 2, none⟩ = some x2 ∧ w.frozen? ⟨g, 0, none⟩ = false ∧ w.frozen? ⟨g, 1, none⟩ = false ∧ w.frozen? ⟨g, 2, none⟩ = false :=
 ⟨(blk_cell h 0).trans rfl, (blk_cell h 1).trans rfl, (blk_cell h 2).trans rfl, blk_frozen h 0, blk_frozen h 1, blk_frozen h 2⟩
theorem cx7_bc7 {w : World} {g : Nat} {t : TypeId} {x0 x1 x2 x3 x4 x5 x6 : Value} (h : w.heap[g]? = some (.cells #[x0, x1, x2, x3, x4, x5, x6] t (0, 0))) : w.cell? ⟨g, 0, none⟩ = some x0 ∧ w.cell? ⟨g, 1, none⟩ = some x1 ∧ w.cell? ⟨g, 2, none⟩ = some x2 ∧ w.cell? ⟨g, 3, none⟩ = some x3 ∧ w.cell? ⟨g, 4, none⟩ = some x4 ∧ w.cell? ⟨g, 5, none⟩ = some x5 ∧ w.cell? ⟨g, 6, none⟩ = some x6 ∧ w.frozen? ⟨g, 0, none⟩ = false ∧ w.frozen? ⟨g, 1, none⟩ = false ∧ w.frozen? ⟨g, 2, none⟩ = false ∧ w.frozen? ⟨g, 3, none⟩ = false ∧ w.frozen? ⟨g, 4, none⟩ = false ∧ w.frozen? ⟨g, 5, none⟩ = false ∧ w.frozen? ⟨g, 6, none⟩ = false :=
 ⟨(blk_cell h 0).trans rfl, (blk_cell h 1).trans rfl, (blk_cell h 2).trans rfl, (blk_cell h 3).trans rfl, (blk_cell h 4).trans rfl, (blk_cell h 5).trans rfl, (blk_cell h 6).trans rfl, blk_frozen h 0, blk_frozen h 1, blk_frozen h 2, blk_frozen h 3, blk_frozen h 4, blk_frozen h 5, blk_frozen h 6⟩
theorem zx7_6 {p : Prop} (h : p := by (with_reducible repeat (first | apply Kd.R_alloc | apply Kd.R_drewN | apply Kd.R_drew)); exact ba.out) : p := h
theorem zx7_0 {p : Prop} (h : p := by (with_reducible repeat (first | refine blk_drewN ?_ _ | refine blk_drew ?_ | refine blk_alloc ?_ _)); exact bd.out) : p := h
theorem zx7_5 {p : Prop} (h : p := by (with_reducible repeat (first | refine blk_drewN ?_ _ | refine blk_drew ?_ | refine blk_alloc ?_ _)); exact bb.out) : p := h
theorem zx7_4 {p : Prop} (h : p := by repeat (first | (with_reducible first | exact HB.out | apply below_alloc | apply pw_below_drewN | apply below_drew1) | exact HB.out)) : p := h
theorem zx7_3 {p : Prop} (h : p := by (try simp only [List.map_toArray, List.map_cons, List.map_nil]); first | done | rfl | (simp only [List.length_drop, List.length_take]; rfl)) : p := h
theorem zx7_1 {p : Prop} (h : p := by repeat (first | (with_reducible first | exact HB.out | apply below_alloc | apply pw_below_drewN | apply below_drew1 | refine below_set ?_ bO.out) | exact HB.out)) : p := h
theorem zx7_2 {p : Prop} (h : p := by repeat (first | (with_reducible first | exact HB.out | apply below_alloc | apply pw_below_drewN | apply below_drew1 | refine below_set ?_ bO.out | refine below_set ?_ bR.out) | exact HB.out)) : p := h
set_option linter.unusedVariables false
set_option linter.unusedSimpArgs false

/-! ### ledger_Pending: function 18 -/
mutual
def ledger_Pending.l0 : Nat → Bool → List Int → Int → Int → Int → List (S37) → ByteArray → Int → Int → List Int → Int → Int → Int → Option (List Int)
 | 0, _, _, _, _, _, _, _, _, _, _, _, _, _ => none
 | k + 1, x6, x7, x8, bK, bw, bJ, bE, bD, bC, bB, bA, bz, bx => if x6 = true then (ledger_Pending.j1 k x6 x7 x8 (decide (x8 < bw)) bK bw bJ bE bD bC bB bA bz bx) else (ledger_Pending.j1 k x6 x7 x8 false bK bw bJ bE bD bC bB bA bz bx)
def ledger_Pending.j1 : Nat → Bool → List Int → Int → Bool → Int → Int → List (S37) → ByteArray → Int → Int → List Int → Int → Int → Int → Option (List Int)
 | 0, _, _, _, _, _, _, _, _, _, _, _, _, _, _ => none
 | k + 1, x6, x7, x8, x23, bK, bw, bJ, bE, bD, bC, bB, bA, bz, bx => if x23 = true then ((ledger_Dest_waits.f k bE bD bC bB bA bz bx x8 bw).bind fun bW => (if bW = true then (if x7.length < 17592186044416 then (ledger_Pending.l0 k x6 (x7 ++ [x8]) (IntKind.u64.wrap (x8 + 1)) bK bw bJ bE bD bC bB bA bz bx) else (none)) else (ledger_Pending.l0 k x6 x7 (IntKind.u64.wrap (x8 + 1)) bK bw bJ bE bD bC bB bA bz bx))) else (some x7)
end
def ledger_Pending.f (k : Nat) (bh : Int) (bc : Int) (be : List (S37)) (a1 : ByteArray) : Option (List Int) := (ledger_Find.f bh bc be a1).bind fun bl => (ledger_Pending.l0 k bl.2.2.2.2.2.2.2 ([] : List Int) bl.2.2.1 bh bc be bl.1 bl.2.1 bl.2.2.1 bl.2.2.2.1 bl.2.2.2.2.1 bl.2.2.2.2.2.1 bl.2.2.2.2.2.2.1)
theorem ledger_Pending.mono_l : ∀ k, (∀ y0 y1 y2 y3 y4 y5 y6 y7 y8 y9 y10 y11 y12, LeO (ledger_Pending.l0 k y0 y1 y2 y3 y4 y5 y6 y7 y8 y9 y10 y11 y12) (ledger_Pending.l0 (k + 1) y0 y1 y2 y3 y4 y5 y6 y7 y8 y9 y10 y11 y12)) ∧ (∀ y0 y1 y2 y3 y4 y5 y6 y7 y8 y9 y10 y11 y12 y13, LeO (ledger_Pending.j1 k y0 y1 y2 y3 y4 y5 y6 y7 y8 y9 y10 y11 y12 y13) (ledger_Pending.j1 (k + 1) y0 y1 y2 y3 y4 y5 y6 y7 y8 y9 y10 y11 y12 y13))
 | 0 => ⟨fun _ _ _ _ _ _ _ _ _ _ _ _ _ r h => by simp [ledger_Pending.l0] at h, fun _ _ _ _ _ _ _ _ _ _ _ _ _ _ r h => by simp [ledger_Pending.j1] at h⟩
 | k + 1 => by
  obtain ⟨ih0, ih1⟩ := ledger_Pending.mono_l k
  refine ⟨?_, ?_⟩
  ·intro y0 y1 y2 y3 y4 y5 y6 y7 y8 y9 y10 y11 y12
   unfold ledger_Pending.l0
   repeat' first
   | (with_reducible exact ih0 _ _ _ _ _ _ _ _ _ _ _ _ _)
   | (with_reducible exact ih1 _ _ _ _ _ _ _ _ _ _ _ _ _ _)
   | (with_reducible exact ledger_Dest_waits.mono _ _ _ _ _ _ _ _ _ _)
   | (with_reducible exact LeO.refl _)
   | (with_reducible exact LeO.none _)
   | (with_reducible refine LeO.ite ?_ ?_)
   | (with_reducible refine LeO.bind ?_ (fun _ => ?_))
   | exact ih0 _ _ _ _ _ _ _ _ _ _ _ _ _
   | exact ih1 _ _ _ _ _ _ _ _ _ _ _ _ _ _
   | exact ledger_Dest_waits.mono _ _ _ _ _ _ _ _ _ _
   | exact LeO.none _
   | refine LeO.ite ?_ ?_
   | refine LeO.bind ?_ (fun _ => ?_)
  intro y0 y1 y2 y3 y4 y5 y6 y7 y8 y9 y10 y11 y12 y13
  unfold ledger_Pending.j1
  repeat' first
  | (with_reducible exact ih0 _ _ _ _ _ _ _ _ _ _ _ _ _)
  | (with_reducible exact ih1 _ _ _ _ _ _ _ _ _ _ _ _ _ _)
  | (with_reducible exact ledger_Dest_waits.mono _ _ _ _ _ _ _ _ _ _)
  | (with_reducible exact LeO.refl _)
  | (with_reducible exact LeO.none _)
  | (with_reducible refine LeO.ite ?_ ?_)
  | (with_reducible refine LeO.bind ?_ (fun _ => ?_))
  | exact ih0 _ _ _ _ _ _ _ _ _ _ _ _ _
  | exact ih1 _ _ _ _ _ _ _ _ _ _ _ _ _ _
  | exact ledger_Dest_waits.mono _ _ _ _ _ _ _ _ _ _
  | exact LeO.none _
  | refine LeO.ite ?_ ?_
  | refine LeO.bind ?_ (fun _ => ?_)
theorem ledger_Pending.mono : ∀ a0 a1 a2 a3 k, LeO (ledger_Pending.f k a0 a1 a2 a3) (ledger_Pending.f (k + 1) a0 a1 a2 a3) := by
 intro a0 a1 a2 a3 k
 obtain ⟨ih0, ih1⟩ := ledger_Pending.mono_l k
 unfold ledger_Pending.f
 repeat' first
   | (with_reducible exact ih0 _ _ _ _ _ _ _ _ _ _ _ _ _)
   | (with_reducible exact ih1 _ _ _ _ _ _ _ _ _ _ _ _ _ _)
   | (with_reducible exact ledger_Dest_waits.mono _ _ _ _ _ _ _ _ _ _)
   | (with_reducible exact LeO.refl _)
   | (with_reducible exact LeO.none _)
   | (with_reducible refine LeO.ite ?_ ?_)
   | (with_reducible refine LeO.bind ?_ (fun _ => ?_))
   | exact ih0 _ _ _ _ _ _ _ _ _ _ _ _ _
   | exact ih1 _ _ _ _ _ _ _ _ _ _ _ _ _ _
   | exact ledger_Dest_waits.mono _ _ _ _ _ _ _ _ _ _
   | exact LeO.none _
   | refine LeO.ite ?_ ?_
   | refine LeO.bind ?_ (fun _ => ?_)
set_option maxHeartbeats 8000000 in
set_option maxRecDepth 100000 in
theorem ledger_Pending.calls (k : Nat) (bh : Int) (bc : Int) (bM : Option Addr) (bL : Nat) (be : List (S37)) (a1 : ByteArray) (r : List Int) (w : World) (dp : Kd.C k37 w bM be.length be) (dq : be.length ≤ bL) (h : ledger_Pending.f k bh bc be a1 = some r) :
  Calls Tryd.prog 18 #[.agg #[.int .u64 bh, .int .u64 bc, .slice bM be.length bL], .string a1] w fun e w' => ∃ v0_ : Value, e = .returned (v0_) ∧ Kd.R (Kd.int .u64) 24 w' w.heap.size (fun _ => True) v0_ r ∧ Below w.heap.size w w' := by
 have gr := Tryd.underlying27
 have gq := Tryd.underlying37
 have dv := Aside0.mk dp
 have dx := Aside0.mk dq
 clear dp dq
 have HB := Aside0.mk (Below.refl w.heap.size w)
 have H : ((ledger_Find.f bh bc be a1).bind fun bl => (ledger_Pending.l0 k bl.2.2.2.2.2.2.2 ([] : List Int) bl.2.2.1 bh bc be bl.1 bl.2.1 bl.2.2.1 bl.2.2.2.1 bl.2.2.2.2.1 bl.2.2.2.2.2.1 bl.2.2.2.2.2.2.1)) = some r := h
 clear h
 replace H := Option.bind_eq_some_iff.mp H
 obtain ⟨⟨bj, bk, bi, bg, bn, bo, bq, bP⟩, A30, H⟩ := H
 replace H : (ledger_Pending.l0 k bP ([] : List Int) bi bh bc be bj bk bi bg bn bo bq) = some r := H
 have A3 := Aside0.mk A30
 clear A30
 have H' := Aside0.mk H
 clear H
 go_enter Tryd.func18, Tryd.ntmps18
 go_wp2_with (first | ((with_reducible refine gate_dst (N := 2) rfl ?_); refine box_event ?hg (N := 2) ?hd (cs := #[.int .u64 bh, .int .u64 bc, .slice bM be.length bL]) (t := 27) ?hr ?_; (case hd => rfl); (case hg => rfl); (case hr => first | (go_simp; done) | (go_simp; rfl)); intro bp hg w4 hbox hb; have bd := Aside0.mk (hbox); have gn := Aside0.mk ((by rw [hg]; exact (below_size zx7_4) : w.heap.size ≤ bp)); have bO := Aside0.mk ((by rw [hg]; exact (below_size zx7_4) : w.heap.size ≤ bp)); replace HB := Aside0.mk (below_step zx7_4 hb); clear hb hbox hg; have dg : w4.cell? ⟨bp, 0, none⟩ = some (.int .u64 bh) := (blk_cell bd.out 0).trans rfl; have df : w4.cell? ⟨bp, 1, none⟩ = some (.int .u64 bc) := (blk_cell bd.out 1).trans rfl; have de : w4.cell? ⟨bp, 2, none⟩ = some (.slice bM be.length bL) := (blk_cell bd.out 2).trans rfl; have b6 := blk_frozen bd.out 0; have b5 := blk_frozen bd.out 1; have b4 := blk_frozen bd.out 2) | ((with_reducible refine gate_callee (f := 17) rfl ?_); refine goesL_ (some 12) rfl rfl Tryd.func17 (by kernel_rfl) rfl #[.agg #[.int .u64 bh, .int .u64 bc, .slice bM be.length bL], .string a1] rfl zx7_3 ?_; (with_reducible refine (ledger_Find.calls bh bc _ _ be a1 bj bk bi bg bn bo bq bP _ ?side1 ?side2 A3.out).mono ?_); (case side1 => repeat (first | exact (Kd.C_below dv.out HB.out) | (with_reducible refine Kd.C_alloc ?_ _) | (with_reducible refine Kd.C_drewN ?_ _) | (with_reducible refine Kd.C_drew ?_))); (case side2 => exact dx.out); rintro e w6 ⟨gp, rfl, ho0, hb⟩; refine ⟨_, rfl, ?_⟩; have bV := Aside0.mk (Kd.R_lower ho0 (below_size zx7_1)); replace bd := Aside0.mk (blk_below (g := bp) (o := .cells #[.int .u64 bh, .int .u64 bc, .slice bM be.length bL] 27 (0, 0)) zx7_0 hb); replace HB := Aside0.mk (below_step zx7_1 hb); (try clear hb); (try clear hb2); (try clear hk); (try clear hi); (try clear ho0)) | ((with_reducible refine gate_dst (N := 5) rfl ?_); refine box_event ?hg (N := 5) ?hd (cs := #[.string (⟨#[]⟩ : ByteArray), .int .u64 0, .int .u64 0, .slice none 0 0, .int .u64 0, .int .u64 0, .int .u64 0]) (t := 37) ?hr ?_; (case hd => rfl); (case hg => rfl); (case hr => first | (go_simp; done) | (go_simp; rfl)); intro bf hg w7 hbox hb; replace bV := Aside0.mk (Kd.R_below (by (with_reducible repeat (first | apply Kd.R_alloc | apply Kd.R_drewN | apply Kd.R_drew)); exact bV.out) hb); have bb := Aside0.mk (hbox); have gm := Aside0.mk ((by rw [hg]; exact (below_size zx7_1) : w.heap.size ≤ bf)); have bR := Aside0.mk ((by rw [hg]; exact (below_size zx7_1) : w.heap.size ≤ bf)); replace HB := Aside0.mk (below_step zx7_1 hb); have bu := Aside0.mk ((by rw [hg]; exact Nat.ne_of_lt (blk_lt (g := bp) (o := .cells #[.int .u64 bh, .int .u64 bc, .slice bM be.length bL] 27 (0, 0)) zx7_0) : bp ≠ bf)); have bG := Aside0.mk ((by rw [hg]; exact Nat.ne_of_gt (blk_lt (g := bp) (o := .cells #[.int .u64 bh, .int .u64 bc, .slice bM be.length bL] 27 (0, 0)) zx7_0) : bf ≠ bp)); replace bd := Aside0.mk (blk_below (g := bp) (o := .cells #[.int .u64 bh, .int .u64 bc, .slice bM be.length bL] 27 (0, 0)) zx7_0 hb); clear hb hbox hg; have gt := bG.out; have gs := bu.out; have dd : w7.cell? ⟨bf, 0, none⟩ = some (.string (⟨#[]⟩ : ByteArray)) := (blk_cell bb.out 0).trans rfl; have dc : w7.cell? ⟨bf, 1, none⟩ = some (.int .u64 0) := (blk_cell bb.out 1).trans rfl; have db : w7.cell? ⟨bf, 2, none⟩ = some (.int .u64 0) := (blk_cell bb.out 2).trans rfl; have da : w7.cell? ⟨bf, 3, none⟩ = some (.slice none 0 0) := (blk_cell bb.out 3).trans rfl; have b9 : w7.cell? ⟨bf, 4, none⟩ = some (.int .u64 0) := (blk_cell bb.out 4).trans rfl; have b8 : w7.cell? ⟨bf, 5, none⟩ = some (.int .u64 0) := (blk_cell bb.out 5).trans rfl; have b7 : w7.cell? ⟨bf, 6, none⟩ = some (.int .u64 0) := (blk_cell bb.out 6).trans rfl; have b3 := blk_frozen bb.out 0; have b2 := blk_frozen bb.out 1; have b1 := blk_frozen bb.out 2; have b0 := blk_frozen bb.out 3; have bZ := blk_frozen bb.out 4; have bY := blk_frozen bb.out 5; have bX := blk_frozen bb.out 6; obtain ⟨bI, bH, ge⟩ := Kd.R_slice bV.out; subst ge))
 go_loopg [7, 8] k (fun kq v7 v8 w' => ∃ (br : List Int) (bm : Int), v8 = .int .u64 bm ∧ Aside0 (ledger_Pending.l0 kq bP br bm bh bc be bj bk bi bg bn bo bq = some r) ∧ Aside0 (kq ≤ k) ∧ Aside0 (Kd.R (Kd.int .u64) 24 w' w.heap.size (fun k_ => some k_ ≠ ((.slice bI bg.length bH) : Value).ownBlock) v7 br) ∧ Aside0 (Kd.R (Kd.int .u64) 24 w' w.heap.size (fun k_ => some k_ ≠ (v7 : Value).ownBlock) (.slice bI bg.length bH) bg) ∧ Aside0 (w'.heap[bp]? = some (.cells #[.int .u64 bh, .int .u64 bc, (.slice bM be.length bL)] 27 (0, 0))) ∧ Aside0 (w'.heap[bf]? = some (.cells #[.string bj, .int .u64 bk, .int .u64 bi, (.slice bI bg.length bH), .int .u64 bn, .int .u64 bo, .int .u64 bq] 37 (0, 0))) ∧ Aside0 (Below w.heap.size w w'))
 case atStart => exact ⟨(([] : List Int)), (bi), (by first | rfl | (simp; done) | (simp [*]; done)), H', ⟨Nat.le_refl _⟩, ⟨by first | exact Kd.R_nil _ _ _ _ _ | exact Kd.N_nil _ _ _ _ _ | exact Kd.V_nil _ _ _ _ _ | exact Kd.Q_nil _ _ _ _ _ | exact Kd.S_nil _ _ _ _ _⟩, ⟨by (with_reducible repeat (first | apply Kd.R_alloc | apply Kd.R_drewN | apply Kd.R_drew)); exact Kd.R_mono (Kd.R_far (p := ⟨bf, 6, none⟩) (Kd.R_far (p := ⟨bf, 5, none⟩) (Kd.R_far (p := ⟨bf, 4, none⟩) (Kd.R_far (p := ⟨bf, 3, none⟩) (Kd.R_far (p := ⟨bf, 2, none⟩) (Kd.R_far (p := ⟨bf, 1, none⟩) (Kd.R_far (p := ⟨bf, 0, none⟩) (Kd.R_types bV.out bb.out (by decide)) (fun _ hk => hk.2) (.string bj)) (fun _ hk => hk.2) (.int .u64 bk)) (fun _ hk => hk.2) (.int .u64 bi)) (fun _ hk => hk.2) (.slice bI bg.length bH)) (fun _ hk => hk.2) (.int .u64 bn)) (fun _ hk => hk.2) (.int .u64 bo)) (fun _ hk => hk.2) (.int .u64 bq)) (fun _ hk => (by simp [Value.ownBlock]))⟩, ⟨by (iterate 7 ((with_reducible repeat (first | refine blk_drewN ?_ _ | refine blk_drew ?_ | refine blk_alloc ?_ _)); refine blk_far ?_ bu.out _)); (with_reducible repeat (first | refine blk_drewN ?_ _ | refine blk_drew ?_ | refine blk_alloc ?_ _)); exact bd.out⟩, ⟨by (with_reducible repeat (first | refine blk_drewN ?_ _ | refine blk_drew ?_ | refine blk_alloc ?_ _)); refine blk_put (cs := #[.string bj, .int .u64 bk, .int .u64 bi, .slice bI bg.length bH, .int .u64 bn, .int .u64 bo, .int .u64 0]) ?_ 6 _ rfl; (with_reducible repeat (first | refine blk_drewN ?_ _ | refine blk_drew ?_ | refine blk_alloc ?_ _)); refine blk_put (cs := #[.string bj, .int .u64 bk, .int .u64 bi, .slice bI bg.length bH, .int .u64 bn, .int .u64 0, .int .u64 0]) ?_ 5 _ rfl; (with_reducible repeat (first | refine blk_drewN ?_ _ | refine blk_drew ?_ | refine blk_alloc ?_ _)); refine blk_put (cs := #[.string bj, .int .u64 bk, .int .u64 bi, .slice bI bg.length bH, .int .u64 0, .int .u64 0, .int .u64 0]) ?_ 4 _ rfl; (with_reducible repeat (first | refine blk_drewN ?_ _ | refine blk_drew ?_ | refine blk_alloc ?_ _)); refine blk_put (cs := #[.string bj, .int .u64 bk, .int .u64 bi, .slice none 0 0, .int .u64 0, .int .u64 0, .int .u64 0]) ?_ 3 _ rfl; (with_reducible repeat (first | refine blk_drewN ?_ _ | refine blk_drew ?_ | refine blk_alloc ?_ _)); refine blk_put (cs := #[.string bj, .int .u64 bk, .int .u64 0, .slice none 0 0, .int .u64 0, .int .u64 0, .int .u64 0]) ?_ 2 _ rfl; (with_reducible repeat (first | refine blk_drewN ?_ _ | refine blk_drew ?_ | refine blk_alloc ?_ _)); refine blk_put (cs := #[.string bj, .int .u64 0, .int .u64 0, .slice none 0 0, .int .u64 0, .int .u64 0, .int .u64 0]) ?_ 1 _ rfl; (with_reducible repeat (first | refine blk_drewN ?_ _ | refine blk_drew ?_ | refine blk_alloc ?_ _)); refine blk_put (cs := #[.string (⟨#[]⟩ : ByteArray), .int .u64 0, .int .u64 0, .slice none 0 0, .int .u64 0, .int .u64 0, .int .u64 0]) ?_ 0 _ rfl; (with_reducible repeat (first | refine blk_drewN ?_ _ | refine blk_drew ?_ | refine blk_alloc ?_ _)); exact bb.out⟩, ⟨by repeat (first | (with_reducible first | exact HB.out | apply below_alloc | apply pw_below_drewN | apply below_drew1 | refine below_set ?_ bO.out | refine below_set ?_ bR.out) | exact HB.out)⟩⟩
 case round =>
  clear H'
  (try clear c1); (try clear p2); (try clear c8); (try clear dg); (try clear df); (try clear de); (try clear dd); (try clear dc); (try clear db); (try clear da); (try clear b9); (try clear b8); (try clear b7); (try clear b6); (try clear b5); (try clear b4); (try clear b3); (try clear b2); (try clear b1); (try clear b0); (try clear bZ); (try clear bY); (try clear bX)
  obtain ⟨br, bm, rfl, HA, HK1, bN, ba, bd, bb, HB⟩ := hrel
  cases gk with
  | zero => exact absurd HA.out (by simp [ledger_Pending.l0])
  | succ k1 => ?_
  have H := HA.out
  clear HA
  simp only [ledger_Pending.l0] at H
  have dr := Aside0.mk H
  clear H
  go_upto_region 4 with (fail)
  go_cut [23] (fun v23 wc => ∃ (kq : Nat) (bS : Bool), v23 = .bool bS ∧ Aside0 (ledger_Pending.j1 kq bP br bm bS bh bc be bj bk bi bg bn bo bq = some r) ∧ Aside0 (kq ≤ k1) ∧ Aside0 (Kd.R (Kd.int .u64) 24 wc w.heap.size (fun k_ => some k_ ≠ ((.slice bI bg.length bH) : Value).ownBlock) u7 br) ∧ Aside0 (Kd.R (Kd.int .u64) 24 wc w.heap.size (fun k_ => some k_ ≠ (u7 : Value).ownBlock) (.slice bI bg.length bH) bg) ∧ Aside0 (wc.heap[bp]? = some (.cells #[.int .u64 bh, .int .u64 bc, (.slice bM be.length bL)] 27 (0, 0))) ∧ Aside0 (wc.heap[bf]? = some (.cells #[.string bj, .int .u64 bk, .int .u64 bi, (.slice bI bg.length bH), .int .u64 bn, .int .u64 bo, .int .u64 bq] 37 (0, 0))) ∧ Aside0 (Below w.heap.size w wc))
  case first =>
   have H := dr.out
   clear dr
   by_cases c12 : bP = true
   case neg =>
    replace c12 := Bool.eq_false_iff.mpr c12
    subst c12
    have H1 : (ledger_Pending.j1 k1 false br bm false bh bc be bj bk bi bg bn bo bq) = some r := by rw [if_neg (show ¬ (false = true) by decide)] at H; exact H
    clear H
    have H := H1
    clear H1
    have H' := Aside0.mk H
    clear H
    go_wp2
    go_meet
    case rel => exact ⟨_, (false), (by first | rfl | (simp; done) | (simp [*]; done)), H', ⟨by have := HK1.out; first | omega | exact Nat.le_refl _⟩, ⟨by (with_reducible repeat (first | apply Kd.R_alloc | apply Kd.R_drewN | apply Kd.R_drew)); exact bN.out⟩, ⟨by (with_reducible repeat (first | apply Kd.R_alloc | apply Kd.R_drewN | apply Kd.R_drew)); exact ba.out⟩, ⟨by (with_reducible repeat (first | refine blk_drewN ?_ _ | refine blk_drew ?_ | refine blk_alloc ?_ _)); exact bd.out⟩, ⟨by (with_reducible repeat (first | refine blk_drewN ?_ _ | refine blk_drew ?_ | refine blk_alloc ?_ _)); exact bb.out⟩, ⟨by repeat (first | (with_reducible first | exact HB.out | apply below_alloc | apply pw_below_drewN | apply below_drew1 | refine below_set ?_ bO.out | refine below_set ?_ bR.out) | exact HB.out)⟩⟩
   subst c12
   have H1 : (ledger_Pending.j1 k1 true br bm (decide (bm < bc)) bh bc be bj bk bi bg bn bo bq) = some r := by rw [if_pos rfl] at H; exact H
   clear H
   have H := H1
   clear H1
   have H' := Aside0.mk H
   clear H
   have gl := bu.out
   have gh := bG.out
   obtain ⟨dm, dl, dk, dj, di, dh⟩ := cx7_bc3 bd.out
   go_wp2
   go_meet
   case rel => exact ⟨_, (decide (bm < bc)), (by first | rfl | (simp; done) | (simp [*]; done)), H', ⟨by have := HK1.out; first | omega | exact Nat.le_refl _⟩, ⟨by (with_reducible repeat (first | apply Kd.R_alloc | apply Kd.R_drewN | apply Kd.R_drew)); exact bN.out⟩, ⟨by (with_reducible repeat (first | apply Kd.R_alloc | apply Kd.R_drewN | apply Kd.R_drew)); exact ba.out⟩, ⟨by (with_reducible repeat (first | refine blk_drewN ?_ _ | refine blk_drew ?_ | refine blk_alloc ?_ _)); exact bd.out⟩, ⟨by (with_reducible repeat (first | refine blk_drewN ?_ _ | refine blk_drew ?_ | refine blk_alloc ?_ _)); exact bb.out⟩, ⟨by repeat (first | (with_reducible first | exact HB.out | apply below_alloc | apply pw_below_drewN | apply below_drew1 | refine below_set ?_ bO.out | refine below_set ?_ bR.out) | exact HB.out)⟩⟩
  case rest =>
   clear dr
   (try clear c1); (try clear p2); (try clear c8); (try clear c12); (try clear c13); (try clear dm); (try clear dl); (try clear dk); (try clear dg); (try clear df); (try clear de); (try clear dd); (try clear dc); (try clear db); (try clear da); (try clear b9); (try clear b8); (try clear b7); (try clear dj); (try clear di); (try clear dh); (try clear b6); (try clear b5); (try clear b4); (try clear b3); (try clear b2); (try clear b1); (try clear b0); (try clear bZ); (try clear bY); (try clear bX); (try clear p2)
   obtain ⟨kq, bS, rfl, HA, dn, bN, ba, bd, bb, HB⟩ := hcut
   cases kq with
   | zero => exact absurd HA.out (by simp [ledger_Pending.j1])
   | succ bQ => ?_
   have H := HA.out
   clear HA
   simp only [ledger_Pending.j1] at H
   by_cases c15 : bS = true
   case neg =>
    replace c15 := Bool.eq_false_iff.mpr c15
    subst c15
    have H1 : (some br) = some r := by rw [if_neg (show ¬ (false = true) by decide)] at H; exact H
    clear H
    have H := H1
    clear H1
    obtain rfl := Option.some.inj H
    go_wp2
    go_ret
    exact ⟨_, by first | rfl | (simp [errW_none, errW_some] <;> rfl) | (simp [*, errW_none, errW_some] <;> rfl), by (with_reducible repeat (first | apply Kd.R_alloc | apply Kd.R_drewN | apply Kd.R_drew)); exact Kd.R_mono bN.out (fun _ hk => trivial), by repeat (first | (with_reducible first | exact HB.out | apply below_alloc | apply pw_below_drewN | apply below_drew1 | refine below_set ?_ bO.out | refine below_set ?_ bR.out) | exact HB.out)⟩

   subst c15
   have H1 : ((ledger_Dest_waits.f bQ bj bk bi bg bn bo bq bm bc).bind fun bW => (if bW = true then (if br.length < 17592186044416 then (ledger_Pending.l0 bQ bP (br ++ [bm]) (IntKind.u64.wrap (bm + 1)) bh bc be bj bk bi bg bn bo bq) else (none)) else (ledger_Pending.l0 bQ bP br (IntKind.u64.wrap (bm + 1)) bh bc be bj bk bi bg bn bo bq))) = some r := by rw [if_pos rfl] at H; exact H
   clear H
   have H := H1
   clear H1
   replace H := Option.bind_eq_some_iff.mp H
   obtain ⟨bW, dy, H⟩ := H
   replace H : (if bW = true then (if br.length < 17592186044416 then (ledger_Pending.l0 bQ bP (br ++ [bm]) (IntKind.u64.wrap (bm + 1)) bh bc be bj bk bi bg bn bo bq) else (none)) else (ledger_Pending.l0 bQ bP br (IntKind.u64.wrap (bm + 1)) bh bc be bj bk bi bg bn bo bq)) = some r := H
   have A16 := Aside0.mk dy
   clear dy
   by_cases c17 : bW = true
   case neg =>
    replace c17 := Bool.eq_false_iff.mpr c17
    subst c17
    have H1 : (ledger_Pending.l0 bQ bP br (IntKind.u64.wrap (bm + 1)) bh bc be bj bk bi bg bn bo bq) = some r := by rw [if_neg (show ¬ (false = true) by decide)] at H; exact H
    clear H
    have H := H1
    clear H1
    have H' := Aside0.mk H
    clear H
    have gi := bG.out
    have gf := bu.out
    obtain ⟨d2, d1, d0, dZ, dY, dX, dW, dI, dH, dG, dF, dE, dD, dC⟩ := cx7_bc7 bb.out
    obtain ⟨dV, dU, dT, dB, dA, dz⟩ := cx7_bc3 bd.out
    go_wp2_with (first | ((with_reducible refine gate_callee (f := 36) rfl ?_); refine goesL_ (some 30) rfl rfl Tryd.func36 (by kernel_rfl) rfl #[.agg #[.string bj, .int .u64 bk, .int .u64 bi, .slice bI bg.length bH, .int .u64 bn, .int .u64 bo, .int .u64 bq], .int .u64 bm, .int .u64 bc] rfl zx7_3 ?_; (with_reducible refine (ledger_Dest_waits.calls bQ bj bk bi _ _ bg bn bo bq bm bc false _ ?side1 ?side2 A16.out).mono ?_); (case side1 => repeat (first | exact (Kd.R_reads' ba.out).2.2 | (with_reducible refine Kd.C_alloc ?_ _) | (with_reducible refine Kd.C_drewN ?_ _) | (with_reducible refine Kd.C_drew ?_))); (case side2 => exact (Kd.R_reads' ba.out).2.1); rintro e w27 ⟨rfl, hb⟩; refine ⟨_, rfl, ?_⟩; replace bN := Aside0.mk (Kd.R_below (by (with_reducible repeat (first | apply Kd.R_alloc | apply Kd.R_drewN | apply Kd.R_drew)); exact bN.out) hb); replace ba := Aside0.mk (Kd.R_below zx7_6 hb); replace bd := Aside0.mk (blk_below (g := bp) (o := .cells #[.int .u64 bh, .int .u64 bc, .slice bM be.length bL] 27 (0, 0)) zx7_0 hb); replace bb := Aside0.mk (blk_below (g := bf) (o := .cells #[.string bj, .int .u64 bk, .int .u64 bi, .slice bI bg.length bH, .int .u64 bn, .int .u64 bo, .int .u64 bq] 37 (0, 0)) zx7_5 hb); replace HB := Aside0.mk (below_step zx7_2 hb); (try clear hb); (try clear hb2); (try clear hk); (try clear hi)))
    go_roundg bQ
    case measure => have := HK1.out; have := dn.out; omega
    case rel => exact ⟨(br), (IntKind.u64.wrap (bm + 1)), (by first | rfl | (simp; done) | (simp [*]; done)), H', ⟨by have := HK1.out; have := dn.out; omega⟩, ⟨by (with_reducible repeat (first | apply Kd.R_alloc | apply Kd.R_drewN | apply Kd.R_drew)); exact bN.out⟩, ⟨by (with_reducible repeat (first | apply Kd.R_alloc | apply Kd.R_drewN | apply Kd.R_drew)); exact ba.out⟩, ⟨by (with_reducible repeat (first | refine blk_drewN ?_ _ | refine blk_drew ?_ | refine blk_alloc ?_ _)); exact bd.out⟩, ⟨by (with_reducible repeat (first | refine blk_drewN ?_ _ | refine blk_drew ?_ | refine blk_alloc ?_ _)); exact bb.out⟩, ⟨by repeat (first | (with_reducible first | exact HB.out | apply below_alloc | apply pw_below_drewN | apply below_drew1 | refine below_set ?_ bO.out | refine below_set ?_ bR.out) | exact HB.out)⟩⟩
   subst c17
   have H1 : (if br.length < 17592186044416 then (ledger_Pending.l0 bQ bP (br ++ [bm]) (IntKind.u64.wrap (bm + 1)) bh bc be bj bk bi bg bn bo bq) else (none)) = some r := by rw [if_pos rfl] at H; exact H
   clear H
   have H := H1
   clear H1
   by_cases c18 : br.length < 17592186044416
   case neg =>
    rw [if_neg c18] at H
    exact absurd H (by simp)
   rw [if_pos c18] at H
   have du := Aside0.mk c18
   clear c18
   obtain ⟨ds, bU⟩ : ∃ y_ : List Int, y_ = (br ++ [bm]) := ⟨_, rfl⟩
   replace H : (ledger_Pending.l0 bQ bP ds (IntKind.u64.wrap (bm + 1)) bh bc be bj bk bi bg bn bo bq) = some r := by first | (rw [bU]; with_reducible exact H) | (have H2_ := (Option.bind_some _ _).symm.trans H; rw [bU]; with_reducible exact H2_) | (have H2_ := (Option.bind_some _ _).symm.trans H; with_reducible exact H2_) | with_reducible exact H | (rw [bU]; exact H) | exact H
   have dt := Aside0.mk bU
   clear bU
   have H' := Aside0.mk H
   clear H
   have gj := bG.out
   have gg := bu.out
   obtain ⟨gc, gb, ga, d9, d8, d7, d6, dS, dR, dQ, dP, dO, dN, dM⟩ := cx7_bc7 bb.out
   obtain ⟨d5, d4, d3, dL, dK, dJ⟩ := cx7_bc3 bd.out
   go_wp2_with (first | ((with_reducible refine gate_callee (f := 36) rfl ?_); refine goesL_ (some 30) rfl rfl Tryd.func36 (by kernel_rfl) rfl #[.agg #[.string bj, .int .u64 bk, .int .u64 bi, .slice bI bg.length bH, .int .u64 bn, .int .u64 bo, .int .u64 bq], .int .u64 bm, .int .u64 bc] rfl zx7_3 ?_; (with_reducible refine (ledger_Dest_waits.calls bQ bj bk bi _ _ bg bn bo bq bm bc true _ ?side1 ?side2 A16.out).mono ?_); (case side1 => repeat (first | exact (Kd.R_reads' ba.out).2.2 | (with_reducible refine Kd.C_alloc ?_ _) | (with_reducible refine Kd.C_drewN ?_ _) | (with_reducible refine Kd.C_drew ?_))); (case side2 => exact (Kd.R_reads' ba.out).2.1); rintro e w22 ⟨rfl, hb⟩; refine ⟨_, rfl, ?_⟩; replace bN := Aside0.mk (Kd.R_below (by (with_reducible repeat (first | apply Kd.R_alloc | apply Kd.R_drewN | apply Kd.R_drew)); exact bN.out) hb); replace ba := Aside0.mk (Kd.R_below zx7_6 hb); replace bd := Aside0.mk (blk_below (g := bp) (o := .cells #[.int .u64 bh, .int .u64 bc, .slice bM be.length bL] 27 (0, 0)) zx7_0 hb); replace bb := Aside0.mk (blk_below (g := bf) (o := .cells #[.string bj, .int .u64 bk, .int .u64 bi, .slice bI bg.length bH, .int .u64 bn, .int .u64 bo, .int .u64 bq] 37 (0, 0)) zx7_5 hb); replace HB := Aside0.mk (below_step zx7_2 hb); (try clear hb); (try clear hb2); (try clear hk); (try clear hi)) | ((with_reducible refine gate_builtin (b := .append) (xs := #[.tmp 31, .tmp 33]) rfl ?_); at_builtin; refine Kd.R_append (Kd.int .u64) (w0 := w) w.heap.size rfl (.tmp 31) (.tmp 33) 35 24 (.int .u64 0) 8 rfl Tryd.underlying35 info24 rfl (by decide) (by omega) u7 br bm [.int .u64 bm] (fun k_ => some k_ ≠ (.slice bI bg.length bH : Value).ownBlock) (fun _ => False) rfl rfl ?aP (fun _ hk => hk.elim) ?aF ?aO ?aB ?aS ?aL ?_; (case aP => exact rfl); (case aB => exact zx7_2); (case aF => exact (fun k_ hk => Kd.fresh' (Kd.R_lt zx7_6) k_ hk)); (case aO => exact (by (with_reducible repeat (first | apply Kd.R_alloc | apply Kd.R_drewN | apply Kd.R_drew)); exact bN.out)); (case aS => exact (below_size zx7_2)); (case aL => have := du.out; omega); intro go w23 ho hb hg hat; rw [← dt.out] at ho; have n0_ := Aside0.mk (Kd.R_after (ok := (fun _ => True)) (by (with_reducible repeat (first | apply Kd.R_alloc | apply Kd.R_drewN | apply Kd.R_drew)); exact Kd.R_mono ba.out (fun _ hk => ⟨trivial, hk⟩)) hg hat); have n1_ := Aside0.mk (blk_grown (g := bp) (o := .cells #[.int .u64 bh, .int .u64 bc, .slice bM be.length bL] 27 (0, 0)) zx7_0 hg (Kd.R_ne bN.out bd.out (by decide))); have n2_ := Aside0.mk (blk_grown (g := bf) (o := .cells #[.string bj, .int .u64 bk, .int .u64 bi, .slice bI bg.length bH, .int .u64 bn, .int .u64 bo, .int .u64 bq] 37 (0, 0)) zx7_5 hg (Kd.R_ne bN.out bb.out (by decide))); have n3_ := Aside0.mk (hb); have n4_ := Aside0.mk (ho); clear ba; clear bd; clear bb; clear HB; clear bN; have ba := n0_; have bd := n1_; have bb := n2_; have HB := n3_; have dw := n4_; clear n0_ n1_ n2_ n3_ n4_; clear ho hb hg hat))
   go_roundg bQ
   case measure => have := HK1.out; have := dn.out; omega
   case rel => exact ⟨(ds), (IntKind.u64.wrap (bm + 1)), (by first | rfl | (simp; done) | (simp [*]; done)), H', ⟨by have := HK1.out; have := dn.out; omega⟩, ⟨by (with_reducible repeat (first | apply Kd.R_alloc | apply Kd.R_drewN | apply Kd.R_drew)); exact dw.out⟩, ⟨by (with_reducible repeat (first | apply Kd.R_alloc | apply Kd.R_drewN | apply Kd.R_drew)); exact Kd.R_mono ba.out (fun _ hk => hk.2)⟩, ⟨by (with_reducible repeat (first | refine blk_drewN ?_ _ | refine blk_drew ?_ | refine blk_alloc ?_ _)); exact bd.out⟩, ⟨by (with_reducible repeat (first | refine blk_drewN ?_ _ | refine blk_drew ?_ | refine blk_alloc ?_ _)); exact bb.out⟩, ⟨by repeat (first | (with_reducible first | exact HB.out | apply below_alloc | apply pw_below_drewN | apply below_drew1 | refine below_set ?_ bO.out | refine below_set ?_ bR.out) | exact HB.out)⟩⟩
end Go.Proofs.YthhmpjapnkilcaaDoor.XLdg
end
