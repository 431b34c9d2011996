/- What the functions of the translation answer, each as a plain Lean function, and that the code comes to it; for a law: its row. Conditions: none but those that each theorem names. Written by a program of this session (wip/xp). -/
import Derived.Test.YthhmpjapnkilcaaDoorXLdgP1
import Derived.Test.YthhmpjapnkilcaaDoorXLdgP5
import Derived.Test.YthhmpjapnkilcaaDoorGMono
import Derived.Test.YthhmpjapnkilcaaDoorGShown
namespace Go.Proofs.YthhmpjapnkilcaaDoor.XLdg
open Go.RowKit Go.Proofs.YthhmpjapnkilcaaDoorW.PrintWords Go.Proofs.YthhmpjapnkilcaaDoorW.PrintLast Go.Proofs.YthhmpjapnkilcaaDoorW.PrintMore
attribute [local go_sem] max2_int min2_int max_two min_two max_three min_three max_four min_four   -- for this text's walks alone
theorem cx26_bc3 {w : World} {g : Nat} {t : TypeId} {x0 x1 x2 : Value} (h : w.heap[g]? = some (.cells #[x0, x1, x2] t (0, 0))) : w.cell? ⟨g, 0, none⟩ = some x0 ∧ w.cell? ⟨g, 1, none⟩ = some x1 ∧ w.cell? ⟨g, 2, none⟩ = some x2 ∧ w.frozen? ⟨g, 0, none⟩ = false ∧ w.frozen? ⟨g, 1, none⟩ = false ∧ w.frozen? ⟨g, 2, none⟩ = false :=
 ⟨(blk_cell h 0).trans rfl, (blk_cell h 1).trans rfl, (blk_cell h 2).trans rfl, blk_frozen h 0, blk_frozen h 1, blk_frozen h 2⟩
theorem zx26_3 {p : Prop} (h : p := by first | (with_reducible assumption) | assumption) : p := h
theorem zx26_16 {p : Prop} (h : p := by (with_reducible repeat (first | apply Kd.V_alloc | apply Kd.V_drewN | apply Kd.V_drew)); exact bJ.out) : p := h
theorem zx26_17 {p : Prop} (h : p := by (with_reducible repeat (first | apply Kd.V_alloc | apply Kd.V_drewN | apply Kd.V_drew)); exact bR.out) : p := h
theorem zx26_18 {p : Prop} (h : p := by (with_reducible repeat (first | apply Kd.R_alloc | apply Kd.R_drewN | apply Kd.R_drew)); exact bH.out) : p := h
theorem zx26_15 {p : Prop} (h : p := by (with_reducible repeat (first | apply Kd.V_alloc | apply Kd.V_drewN | apply Kd.V_drew)); exact bB.out) : p := h
theorem zx26_8 {p : Prop} (h : p := by (with_reducible repeat (first | apply Kd.V_alloc | apply Kd.V_drewN | apply Kd.V_drew)); exact bb.out) : p := h
theorem zx26_13 {p : Prop} (h : p := by (with_reducible repeat (first | apply Kd.V_alloc | apply Kd.V_drewN | apply Kd.V_drew)); exact bf.out) : p := h
theorem zx26_14 {p : Prop} (h : p := by (with_reducible repeat (first | apply Kd.V_alloc | apply Kd.V_drewN | apply Kd.V_drew)); exact bk.out) : p := h
theorem zx26_2 {p : Prop} (h : p := by (with_reducible repeat (first | refine blk_drewN ?_ _ | refine blk_drew ?_ | refine blk_alloc ?_ _)); exact bd.out) : p := h
theorem zx26_6 {p : Prop} (h : p := by (with_reducible repeat (first | refine blk_drewN ?_ _ | refine blk_drew ?_ | refine blk_alloc ?_ _)); exact bh.out) : p := h
theorem zx26_11 {p : Prop} (h : p := by (with_reducible repeat (first | refine blk_drewN ?_ _ | refine blk_drew ?_ | refine blk_alloc ?_ _)); exact bx.out) : p := h
theorem zx26_5 {p : Prop} (h : p := by repeat (first | (with_reducible first | exact HB.out | apply below_alloc | apply pw_below_drewN | apply below_drew1) | exact HB.out)) : p := h
theorem zx26_0 {p : Prop} (h : p := by (try simp only [List.map_toArray, List.map_cons, List.map_nil]); first | done | rfl | (simp only [List.length_drop, List.length_take]; rfl)) : p := h
theorem zx26_4 {p : Prop} (h : p := by repeat (first | (with_reducible first | exact HB.out | apply below_alloc | apply pw_below_drewN | apply below_drew1 | refine below_set ?_ da.out) | exact HB.out)) : p := h
theorem zx26_10 {p : Prop} (h : p := by repeat (first | (with_reducible exact bz.out) | (with_reducible refine Kd.C_alloc ?_ _) | (with_reducible refine Kd.C_drewN ?_ _) | (with_reducible refine Kd.C_drew ?_) | exact bz.out)) : p := h
theorem zx26_7 {p : Prop} (h : p := by repeat (first | (with_reducible first | exact HB.out | apply below_alloc | apply pw_below_drewN | apply below_drew1 | refine below_set ?_ da.out | refine below_set ?_ dZ.out) | exact HB.out)) : p := h
theorem zx26_1 {p : Prop} (h : p := by repeat (first | (with_reducible first | exact HB.out | apply below_alloc | apply pw_below_drewN | apply below_drew1 | refine below_set ?_ da.out | refine below_set ?_ dZ.out | refine below_set ?_ gr.out) | exact HB.out)) : p := h
theorem zx26_12 {p : Prop} (h : p := by (with_reducible repeat (first | apply Kd.V_alloc | apply Kd.V_drewN | apply Kd.V_drew)); exact (Kd.V_mono (Kd.V_far (p := ⟨bA, 2, none⟩) (Kd.V_far (p := ⟨bA, 1, none⟩) (Kd.V_far (p := ⟨bA, 0, none⟩) (Kd.V_mono bR.out (fun k_ hk => (⟨hk, hk.2⟩ : _ ∧ k_ ≠ bA))) (fun _ hk => hk.2) (.int .u64 dB)) (fun _ hk => hk.2) (.int .u64 dE)) (fun _ hk => hk.2) (.slice dX dA.length dW)) (fun _ h_ => h_.1))) : p := h
theorem zx26_9 {p : Prop} (h : p := by (with_reducible repeat (first | refine blk_drewN ?_ _ | refine blk_drew ?_ | refine blk_alloc ?_ _)); refine blk_put (cs := #[.int .u64 bl, .int .u64 bm, .slice none 0 0]) ?_ 2 _ rfl; (with_reducible repeat (first | refine blk_drewN ?_ _ | refine blk_drew ?_ | refine blk_alloc ?_ _)); refine blk_put (cs := #[.int .u64 bl, .int .u64 0, .slice none 0 0]) ?_ 1 _ rfl; (with_reducible repeat (first | refine blk_drewN ?_ _ | refine blk_drew ?_ | refine blk_alloc ?_ _)); refine blk_put (cs := #[.int .u64 0, .int .u64 0, .slice none 0 0]) ?_ 0 _ rfl; (with_reducible repeat (first | refine blk_drewN ?_ _ | refine blk_drew ?_ | refine blk_alloc ?_ _)); exact bd.out) : p := h
set_option linter.unusedVariables false
set_option linter.unusedSimpArgs false

/-! ### postroomlaw10_LedgerDone: function 5 -/
mutual
def postroomlaw10_LedgerDone.j0 : Nat → ByteArray → Int → Int → Int → Int → List (S37) → Option (Bool)
 | 0, _, _, _, _, _, _ => none
 | k + 1, x11, x13, x14, bQ, bP, bE => (ledger_Done.f k bQ bP bE x11 x13 x14).bind fun b7 => ((ledger_Done.f k b7.1 b7.2.1 b7.2.2.1 x11 x13 x14).bind fun jD => (if b7.2.2.2 = 0 then (if jD.2.2.2 = 13 then ((ledger_Waits.f k b7.1 b7.2.1 b7.2.2.1 x11 x13).bind fun gq => (if gq = true then (none) else ((ledger_Waits.f k bQ bP bE x11 x13).bind fun dD => (if dD = true then (if b7.1 = bQ then (if b7.2.1 = bP then (postroomlaw10_LedgerDone.l0 k x11 0 bQ bP bE b7.1 b7.2.1 b7.2.2.1) else (none)) else (none)) else (none))))) else (none)) else (none)))
def postroomlaw10_LedgerDone.l0 : Nat → ByteArray → Int → Int → Int → List (S37) → Int → Int → List (S37) → Option (Bool)
 | 0, _, _, _, _, _, _, _, _ => none
 | k + 1, x11, x19, bQ, bP, bE, d1, d0, bV => if x19 < (bE.length : Int) then (if 0 ≤ x19 then ((ledger_Pending.f k bQ bP bE ((rd_T37 bE x19).f0)).bind fun de => ((ledger_Pending.f k d1 d0 bV ((rd_T37 bE x19).f0)).bind fun dd => (if ((rd_T37 bE x19).f0).toList = x11.toList then (if x19 < (bV.length : Int) then (if (dd.length : Int) = (wrap64 ((de.length : Int) - 1)) then (if (IntKind.u64.wrap (((rd_T37 bV x19).f4) + ((rd_T37 bV x19).f6))) = (IntKind.u64.wrap ((IntKind.u64.wrap (((rd_T37 bE x19).f4) + ((rd_T37 bE x19).f6))) + 1)) then (if ((rd_T37 bV x19).f5) = ((rd_T37 bE x19).f5) then (postroomlaw10_LedgerDone.l0 k x11 (wrap64 (x19 + 1)) bQ bP bE d1 d0 bV) else (none)) else (none)) else (none)) else (none)) else ((postroomref10_Same.f k de dd).bind fun gp => (if gp = true then (postroomlaw10_LedgerDone.l0 k x11 (wrap64 (x19 + 1)) bQ bP bE d1 d0 bV) else (none)))))) else (none)) else (some true)
end
def postroomlaw10_LedgerDone.f (k : Nat) (l0 : List (S43)) (a1 : Int) (a2 : Int) (a3 : Bool) : Option (Bool) := (postroomlaw10_shown.f k).bind fun d8 => (if d8 = true then (if (l0.length : Int) > 100 then (some d8) else ((postroomlaw10_run.f k l0).bind fun bu => ((postroomlaw10_name.f a1).bind fun bo => ((ledger_Pending.f k bu.1 bu.2.1 bu.2.2 bo).bind fun bn => (if (bn.length : Int) = 0 then (some true) else ((postroomlaw10_pick.f a2 (bn.length : Int)).bind fun bq => (if 0 ≤ bq then (if bq < (bn.length : Int) then (if a3 = true then (postroomlaw10_LedgerDone.j0 k bo (rd bn bq) 114 bu.1 bu.2.1 bu.2.2) else (postroomlaw10_LedgerDone.j0 k bo (rd bn bq) 97 bu.1 bu.2.1 bu.2.2)) else (none)) else (none)))))))) else (none))
def postroomlaw10_LedgerDone.T20 : Bool × List (List Nat × List Nat) := (true, [([], []), ([], []), ([1], [1]), ([], []), ([2, 3], [2, 3]), ([4], [4]), ([5], [5]), ([0, 6], [0, 6]), ([7, 7, 0, 1, 2, 3, 4, 5, 6, 7], [7])])
def postroomlaw10_LedgerDone.B20 : List Nat := [0, 0, 2, 0, 14, 30, 62, 127, 255]
theorem postroomlaw10_LedgerDone.tab20 : rtab .any (opsOf Tryd.f5 20) = postroomlaw10_LedgerDone.T20 := by kernel_rfl
theorem postroomlaw10_LedgerDone.bits20 : waitsOk postroomlaw10_LedgerDone.T20.2 postroomlaw10_LedgerDone.B20 = true := by kernel_rfl
def postroomlaw10_LedgerDone.T21 : Bool × List (List Nat × List Nat) := (true, [([], []), ([], []), ([1], [1]), ([], []), ([2, 3], [2, 3]), ([4], [4]), ([5], [5]), ([0, 6], [0, 6]), ([7, 7, 0, 1, 2, 3, 4, 5, 6, 7], [7])])
def postroomlaw10_LedgerDone.B21 : List Nat := [0, 0, 2, 0, 14, 30, 62, 127, 255]
theorem postroomlaw10_LedgerDone.tab21 : rtab .any (opsOf Tryd.f5 21) = postroomlaw10_LedgerDone.T21 := by kernel_rfl
theorem postroomlaw10_LedgerDone.bits21 : waitsOk postroomlaw10_LedgerDone.T21.2 postroomlaw10_LedgerDone.B21 = true := by kernel_rfl
def postroomlaw10_LedgerDone.T25 : Bool × List (List Nat × List Nat) := (true, [([], []), ([0], [0]), ([], []), ([1, 2], [1, 2]), ([3], [3]), ([4], [4]), ([], []), ([6], [6]), ([], []), ([7, 8], [7, 8]), ([9], [9]), ([10], [10]), ([5, 11], [5, 11]), ([12, 0, 1, 2, 3, 4, 5, 6, 7, 8, 9, 10, 11, 12], [12])])
def postroomlaw10_LedgerDone.B25 : List Nat := [0, 1, 0, 7, 15, 31, 0, 64, 0, 448, 960, 1984, 4095, 8191]
theorem postroomlaw10_LedgerDone.tab25 : rtab .any (opsOf Tryd.f5 25) = postroomlaw10_LedgerDone.T25 := by kernel_rfl
theorem postroomlaw10_LedgerDone.bits25 : waitsOk postroomlaw10_LedgerDone.T25.2 postroomlaw10_LedgerDone.B25 = true := by kernel_rfl
def postroomlaw10_LedgerDone.T26 : Bool × List (List Nat × List Nat) := (true, [([], []), ([0], [0]), ([], []), ([2], [2]), ([3], [3]), ([1, 4], [1, 4]), ([5], [5]), ([6], [6]), ([6], [6]), ([8, 6], [6, 8]), ([6], [6]), ([9, 10, 6], [6, 9, 10]), ([11, 6], [6, 11]), ([12, 6], [6, 12]), ([6], [6]), ([14, 6], [6, 14]), ([6], [6]), ([15, 16, 6], [6, 15, 16]), ([17, 6], [6, 17]), ([18, 6], [6, 18]), ([13, 19, 6], [6, 13, 19]), ([20, 6], [6, 20]), ([7, 21, 6], [6, 7, 21]), ([6, 22], [6, 22]), ([23, 6], [23]), ([24], [24]), ([25, 24], [24, 25]), ([24], [24]), ([26, 27, 24], [24, 26, 27]), ([28, 24], [24, 28]), ([29, 24], [24, 29]), ([24], [24]), ([31, 24], [24, 31]), ([24], [24]), ([32, 33, 24], [24, 32, 33]), ([34, 24], [24, 34]), ([35, 24], [24, 35]), ([30, 36, 24], [24, 30, 36]), ([24, 37], [24, 37])])
def postroomlaw10_LedgerDone.B26 : List Nat := [0, 1, 0, 4, 12, 31, 63, 127, 127, 383, 127, 1919, 3967, 8063, 127, 16511, 127, 114815, 245887, 508031, 1048447, 2097023, 4194303, 8388607, 16777215, 33554431, 67108863, 33554431, 268435455, 536870911, 1073741823, 33554431, 2181038079, 33554431, 15065939967, 32245809151, 66605547519, 137438953471, 274877906943]
theorem postroomlaw10_LedgerDone.tab26 : rtab .any (opsOf Tryd.f5 26) = postroomlaw10_LedgerDone.T26 := by kernel_rfl
theorem postroomlaw10_LedgerDone.bits26 : waitsOk postroomlaw10_LedgerDone.T26.2 postroomlaw10_LedgerDone.B26 = true := by kernel_rfl
set_option maxHeartbeats 8000000 in
set_option maxRecDepth 100000 in
theorem postroomlaw10_LedgerDone.calls (k : Nat) (A0 : Option Addr) (c0 : Nat) (l0 : List (S43)) (a1 : Int) (a2 : Int) (a3 : Bool) (r : Bool) (w : World) (hr0 : Kd.C k43 w A0 l0.length l0) (hc0 : l0.length ≤ c0) (h : postroomlaw10_LedgerDone.f k l0 a1 a2 a3 = some r) :
  Calls Tryd.prog 5 #[.slice A0 l0.length c0, .int .i64 a1, .int .i64 a2, .bool a3] w fun e w' => e = .returned (.bool r) ∧ Below w.heap.size w w' := by
 have vj := Tryd.underlying27
 have HR0 := Aside0.mk hr0
 have HC0 := Aside0.mk hc0
 clear hr0 hc0
 have HB := Aside0.mk (Below.refl w.heap.size w)
 have H : ((postroomlaw10_shown.f k).bind fun d8 => (if d8 = true then (if (l0.length : Int) > 100 then (some d8) else ((postroomlaw10_run.f k l0).bind fun bu => ((postroomlaw10_name.f a1).bind fun bo => ((ledger_Pending.f k bu.1 bu.2.1 bu.2.2 bo).bind fun bn => (if (bn.length : Int) = 0 then (some true) else ((postroomlaw10_pick.f a2 (bn.length : Int)).bind fun bq => (if 0 ≤ bq then (if bq < (bn.length : Int) then (if a3 = true then (postroomlaw10_LedgerDone.j0 k bo (rd bn bq) 114 bu.1 bu.2.1 bu.2.2) else (postroomlaw10_LedgerDone.j0 k bo (rd bn bq) 97 bu.1 bu.2.1 bu.2.2)) else (none)) else (none)))))))) else (none))) = some r := h
 clear h
 replace H := Option.bind_eq_some_iff.mp H
 obtain ⟨d8, A50, H⟩ := H
 replace H : (if d8 = true then (if (l0.length : Int) > 100 then (some d8) else ((postroomlaw10_run.f k l0).bind fun bu => ((postroomlaw10_name.f a1).bind fun bo => ((ledger_Pending.f k bu.1 bu.2.1 bu.2.2 bo).bind fun bn => (if (bn.length : Int) = 0 then (some true) else ((postroomlaw10_pick.f a2 (bn.length : Int)).bind fun bq => (if 0 ≤ bq then (if bq < (bn.length : Int) then (if a3 = true then (postroomlaw10_LedgerDone.j0 k bo (rd bn bq) 114 bu.1 bu.2.1 bu.2.2) else (postroomlaw10_LedgerDone.j0 k bo (rd bn bq) 97 bu.1 bu.2.1 bu.2.2)) else (none)) else (none)))))))) else (none)) = some r := H
 have A5 := Aside0.mk A50
 clear A50
 by_cases c6 : d8 = true
 case neg =>
  replace c6 := Bool.eq_false_iff.mpr c6
  subst c6
  have H1 : (none) = some r := by rw [if_neg (show ¬ (false = true) by decide)] at H; exact H
  clear H
  have H := H1
  clear H1
  exact absurd H (by simp)

 subst c6
 have H1 : (if (l0.length : Int) > 100 then (some true) else ((postroomlaw10_run.f k l0).bind fun bu => ((postroomlaw10_name.f a1).bind fun bo => ((ledger_Pending.f k bu.1 bu.2.1 bu.2.2 bo).bind fun bn => (if (bn.length : Int) = 0 then (some true) else ((postroomlaw10_pick.f a2 (bn.length : Int)).bind fun bq => (if 0 ≤ bq then (if bq < (bn.length : Int) then (if a3 = true then (postroomlaw10_LedgerDone.j0 k bo (rd bn bq) 114 bu.1 bu.2.1 bu.2.2) else (postroomlaw10_LedgerDone.j0 k bo (rd bn bq) 97 bu.1 bu.2.1 bu.2.2)) else (none)) else (none)))))))) = some r := by rw [if_pos rfl] at H; exact H
 clear H
 have H := H1
 clear H1
 by_cases c7 : (l0.length : Int) > 100
 ·rw [if_pos c7] at H
  have oz : decide (100 < (l0.length : Int)) = true := decide_eq_true c7
  have oy : decide (100 < l0.length) = true := decide_eq_true (by omega)
  clear c7
  obtain rfl := Option.some.inj H
  go_enter Tryd.func5, Tryd.ntmps5
  go_wp2_with (first | ((with_reducible refine gate_callee (f := 10) rfl ?_); refine goesL_ (some 23) rfl rfl Tryd.func10 (by kernel_rfl) rfl #[] rfl zx26_0 ?_; (with_reducible refine (postroomlaw10_shown.calls k  true _ A5.out).mono ?_); rintro e w8 ⟨rfl, hb⟩; refine ⟨_, rfl, ?_⟩; replace HB := Aside0.mk (below_step zx26_5 hb); (try clear hb); (try clear hb2); (try clear hk); (try clear hi)))
  go_ret
  exact ⟨by first | rfl | (simp [errW_none, errW_some] <;> rfl) | (simp [*, errW_none, errW_some] <;> rfl), by repeat (first | (with_reducible first | exact HB.out | apply below_alloc | apply pw_below_drewN | apply below_drew1) | exact HB.out)⟩
 rw [if_neg c7] at H
 have oz : decide (100 < (l0.length : Int)) = false := decide_eq_false c7
 have oy : decide (100 < l0.length) = false := decide_eq_false (by omega)
 clear c7
 replace H := Option.bind_eq_some_iff.mp H
 obtain ⟨⟨bl, bm, bc⟩, A90, H⟩ := H
 replace H : ((postroomlaw10_name.f a1).bind fun bo => ((ledger_Pending.f k bl bm bc bo).bind fun bn => (if (bn.length : Int) = 0 then (some true) else ((postroomlaw10_pick.f a2 (bn.length : Int)).bind fun bq => (if 0 ≤ bq then (if bq < (bn.length : Int) then (if a3 = true then (postroomlaw10_LedgerDone.j0 k bo (rd bn bq) 114 bl bm bc) else (postroomlaw10_LedgerDone.j0 k bo (rd bn bq) 97 bl bm bc)) else (none)) else (none)))))) = some r := H
 have A9 := Aside0.mk A90
 clear A90
 replace H := Option.bind_eq_some_iff.mp H
 obtain ⟨bo, qj, H⟩ := H
 replace H : ((ledger_Pending.f k bl bm bc bo).bind fun bn => (if (bn.length : Int) = 0 then (some true) else ((postroomlaw10_pick.f a2 (bn.length : Int)).bind fun bq => (if 0 ≤ bq then (if bq < (bn.length : Int) then (if a3 = true then (postroomlaw10_LedgerDone.j0 k bo (rd bn bq) 114 bl bm bc) else (postroomlaw10_LedgerDone.j0 k bo (rd bn bq) 97 bl bm bc)) else (none)) else (none))))) = some r := H
 have A10 := Aside0.mk qj
 clear qj
 replace H := Option.bind_eq_some_iff.mp H
 obtain ⟨bn, qi, H⟩ := H
 replace H : (if (bn.length : Int) = 0 then (some true) else ((postroomlaw10_pick.f a2 (bn.length : Int)).bind fun bq => (if 0 ≤ bq then (if bq < (bn.length : Int) then (if a3 = true then (postroomlaw10_LedgerDone.j0 k bo (rd bn bq) 114 bl bm bc) else (postroomlaw10_LedgerDone.j0 k bo (rd bn bq) 97 bl bm bc)) else (none)) else (none)))) = some r := H
 have A11 := Aside0.mk qi
 clear qi
 by_cases c12 : (bn.length : Int) = 0
 ·rw [if_pos c12] at H
  have jC : ((bn.length : Int) == 0) = true := beq_iff_eq.mpr c12
  have jB : ((bn.length : Int) != 0) = false := bne_eq_false_iff_eq.mpr c12
  clear c12
  obtain rfl := Option.some.inj H
  go_enter Tryd.func5, Tryd.ntmps5
  go_wp2_with (first | ((with_reducible refine gate_callee (f := 10) rfl ?_); refine goesL_ (some 23) rfl rfl Tryd.func10 (by kernel_rfl) rfl #[] rfl zx26_0 ?_; (with_reducible refine (postroomlaw10_shown.calls k  true _ A5.out).mono ?_); rintro e w13 ⟨rfl, hb⟩; refine ⟨_, rfl, ?_⟩; replace HB := Aside0.mk (below_step zx26_5 hb); (try clear hb); (try clear hb2); (try clear hk); (try clear hi)) | ((with_reducible refine gate_callee (f := 11) rfl ?_); refine goesL_ (some 33) rfl rfl Tryd.func11 (by kernel_rfl) rfl #[.slice A0 l0.length c0] rfl zx26_0 ?_; (with_reducible refine (postroomlaw10_run.calls k _ _ l0 bl bm bc _ ?side1 ?side2 A9.out).mono ?_); (case side1 => repeat (first | exact (Kd.C_below HR0.out HB.out) | (with_reducible refine Kd.C_alloc ?_ _) | (with_reducible refine Kd.C_drewN ?_ _) | (with_reducible refine Kd.C_drew ?_))); (case side2 => exact HC0.out); rintro e w14 ⟨q3, rfl, ho0, hb⟩; refine ⟨_, rfl, ?_⟩; have bJ := Aside0.mk (Kd.V_lower (Kd.V_mono (ok' := fun k_ => True) ho0 (fun k_ hk_ => trivial)) (below_size zx26_5)); replace HB := Aside0.mk (below_step zx26_5 hb); (try clear hb); (try clear hb2); (try clear hk); (try clear hi); (try clear ho0)) | ((with_reducible refine gate_dst (N := 10) rfl ?_); (try (refine gate_guard (by rfl) ?_; dsimp only)); refine box_event ?hg (N := 10) ?hd (cs := #[.int .u64 0, .int .u64 0, .slice none 0 0]) (t := 27) ?hr ?_; (case hd => rfl); (case hg => rfl); (case hr => first | (go_simp; done) | (go_simp; rfl)); intro bg hg w15 hbox hb; replace bJ := Aside0.mk (Kd.V_below (Kd.V_elderB zx26_16 bg (Nat.le_of_eq hg.symm)) hb); have bd := Aside0.mk (hbox); have o9 := Aside0.mk ((by rw [hg]; exact (below_size zx26_5) : w.heap.size ≤ bg)); have da := Aside0.mk ((by rw [hg]; exact (below_size zx26_5) : w.heap.size ≤ bg)); replace HB := Aside0.mk (below_step zx26_5 hb); clear hb hbox hg; have jm : w15.cell? ⟨bg, 0, none⟩ = some (.int .u64 0) := (blk_cell bd.out 0).trans rfl; have jl : w15.cell? ⟨bg, 1, none⟩ = some (.int .u64 0) := (blk_cell bd.out 1).trans rfl; have jk : w15.cell? ⟨bg, 2, none⟩ = some (.slice none 0 0) := (blk_cell bd.out 2).trans rfl; have ja := blk_frozen bd.out 0; have hZ := blk_frozen bd.out 1; have hY := blk_frozen bd.out 2; obtain ⟨jJ, jz, se⟩ := Kd.V_slice bJ.out; subst se) | ((with_reducible refine gate_callee (f := 12) rfl ?_); refine goesL_ (some 35) rfl rfl Tryd.func12 (by kernel_rfl) rfl #[.int .i64 a1] rfl zx26_0 ?_; (with_reducible refine (postroomlaw10_name.calls a1 bo _ A10.out).mono ?_); rintro e w18 ⟨rfl, hb⟩; refine ⟨_, rfl, ?_⟩; replace bJ := Aside0.mk (Kd.V_below (by (with_reducible repeat (first | apply Kd.V_alloc | apply Kd.V_drewN | apply Kd.V_drew)); exact (Kd.V_mono (Kd.V_far (p := ⟨bg, 2, none⟩) (Kd.V_far (p := ⟨bg, 1, none⟩) (Kd.V_far (p := ⟨bg, 0, none⟩) (Kd.V_mono bJ.out (fun k_ hk => (⟨hk, hk.2⟩ : _ ∧ k_ ≠ bg))) (fun _ hk => hk.2) (.int .u64 bl)) (fun _ hk => hk.2) (.int .u64 bm)) (fun _ hk => hk.2) (.slice jJ bc.length jz)) (fun _ h_ => h_.1))) hb); replace bd := Aside0.mk (blk_below (g := bg) (o := .cells #[.int .u64 bl, .int .u64 bm, .slice jJ bc.length jz] 27 (0, 0)) zx26_9 hb); replace HB := Aside0.mk (below_step zx26_4 hb); (try clear hb); (try clear hb2); (try clear hk); (try clear hi); have jj : w18.cell? ⟨bg, 0, none⟩ = some (.int .u64 bl) := (blk_cell bd.out 0).trans rfl; have ji : w18.cell? ⟨bg, 1, none⟩ = some (.int .u64 bm) := (blk_cell bd.out 1).trans rfl; have jh : w18.cell? ⟨bg, 2, none⟩ = some (.slice jJ bc.length jz) := (blk_cell bd.out 2).trans rfl; have hX := blk_frozen bd.out 0; have hW := blk_frozen bd.out 1; have hV := blk_frozen bd.out 2) | ((with_reducible refine gate_callee (f := 18) rfl ?_); refine goesL_ (some 38) rfl rfl Tryd.func18 (by kernel_rfl) rfl #[.agg #[.int .u64 bl, .int .u64 bm, .slice jJ bc.length jz], .string bo] rfl zx26_0 ?_; (with_reducible refine (ledger_Pending.calls k bl bm _ _ bc bo bn _ ?side1 ?side2 A11.out).mono ?_); (case side1 => repeat (first | exact (Kd.V_reads' bJ.out).2.2 | (with_reducible refine Kd.C_alloc ?_ _) | (with_reducible refine Kd.C_drewN ?_ _) | (with_reducible refine Kd.C_drew ?_))); (case side2 => exact (Kd.V_reads' bJ.out).2.1); rintro e w20 ⟨q2, rfl, ho0, hb⟩; refine ⟨_, rfl, ?_⟩; replace bJ := Aside0.mk (Kd.V_elder' zx26_16 (Kd.R_base ho0) hb); have jn := Aside0.mk (Kd.R_lower ho0 (below_size zx26_4)); replace bd := Aside0.mk (blk_below (g := bg) (o := .cells #[.int .u64 bl, .int .u64 bm, .slice jJ bc.length jz] 27 (0, 0)) zx26_2 hb); replace HB := Aside0.mk (below_step zx26_4 hb); (try clear hb); (try clear hb2); (try clear hk); (try clear hi); (try clear ho0); obtain ⟨vr, vn, sd⟩ := Kd.R_slice jn.out; subst sd))
  go_ret
  exact ⟨by first | rfl | (simp [errW_none, errW_some] <;> rfl) | (simp [*, errW_none, errW_some] <;> rfl), by repeat (first | (with_reducible first | exact HB.out | apply below_alloc | apply pw_below_drewN | apply below_drew1 | refine below_set ?_ da.out) | exact HB.out)⟩
 rw [if_neg c12] at H
 have jC : ((bn.length : Int) == 0) = false := beq_eq_false_iff_ne.mpr c12
 have jB : ((bn.length : Int) != 0) = true := bne_iff_ne.mpr c12
 have og : ¬ (bn = []) := fun h_ => c12 (by rw [h_]; rfl)
 replace H := Option.bind_eq_some_iff.mp H
 obtain ⟨bq, qh, H⟩ := H
 replace H : (if 0 ≤ bq then (if bq < (bn.length : Int) then (if a3 = true then (postroomlaw10_LedgerDone.j0 k bo (rd bn bq) 114 bl bm bc) else (postroomlaw10_LedgerDone.j0 k bo (rd bn bq) 97 bl bm bc)) else (none)) else (none)) = some r := H
 have A22 := Aside0.mk qh
 clear qh
 by_cases c23 : 0 ≤ bq
 case neg =>
  rw [if_neg c23] at H
  exact absurd H (by simp)
 rw [if_pos c23] at H
 have oe : decide (0 ≤ bq) = true := decide_eq_true c23
 clear c23
 by_cases c24 : bq < (bn.length : Int)
 case neg =>
  rw [if_neg c24] at H
  exact absurd H (by simp)
 rw [if_pos c24] at H
 have od : decide (bq < (bn.length : Int)) = true := decide_eq_true c24
 clear c24
 have oF := Aside0.mk H
 clear H
 go_enter Tryd.func5, Tryd.ntmps5
 go_upto_if 49 with (first | ((with_reducible refine gate_callee (f := 10) rfl ?_); refine goesL_ (some 23) rfl rfl Tryd.func10 (by kernel_rfl) rfl #[] rfl zx26_0 ?_; (with_reducible refine (postroomlaw10_shown.calls k  true _ A5.out).mono ?_); rintro e w26 ⟨rfl, hb⟩; refine ⟨_, rfl, ?_⟩; replace HB := Aside0.mk (below_step zx26_5 hb); (try clear hb); (try clear hb2); (try clear hk); (try clear hi)) | ((with_reducible refine gate_callee (f := 11) rfl ?_); refine goesL_ (some 33) rfl rfl Tryd.func11 (by kernel_rfl) rfl #[.slice A0 l0.length c0] rfl zx26_0 ?_; (with_reducible refine (postroomlaw10_run.calls k _ _ l0 bl bm bc _ ?side1 ?side2 A9.out).mono ?_); (case side1 => repeat (first | exact (Kd.C_below HR0.out HB.out) | (with_reducible refine Kd.C_alloc ?_ _) | (with_reducible refine Kd.C_drewN ?_ _) | (with_reducible refine Kd.C_drew ?_))); (case side2 => exact HC0.out); rintro e w27 ⟨q3, rfl, ho0, hb⟩; refine ⟨_, rfl, ?_⟩; have bJ := Aside0.mk (Kd.V_lower (Kd.V_mono (ok' := fun k_ => True) ho0 (fun k_ hk_ => trivial)) (below_size zx26_5)); replace HB := Aside0.mk (below_step zx26_5 hb); (try clear hb); (try clear hb2); (try clear hk); (try clear hi); (try clear ho0)) | ((with_reducible refine gate_dst (N := 10) rfl ?_); (try (refine gate_guard (by rfl) ?_; dsimp only)); refine box_event ?hg (N := 10) ?hd (cs := #[.int .u64 0, .int .u64 0, .slice none 0 0]) (t := 27) ?hr ?_; (case hd => rfl); (case hg => rfl); (case hr => first | (go_simp; done) | (go_simp; rfl)); intro bg hg w28 hbox hb; replace bJ := Aside0.mk (Kd.V_below (Kd.V_elderB zx26_16 bg (Nat.le_of_eq hg.symm)) hb); have bd := Aside0.mk (hbox); have o9 := Aside0.mk ((by rw [hg]; exact (below_size zx26_5) : w.heap.size ≤ bg)); have da := Aside0.mk ((by rw [hg]; exact (below_size zx26_5) : w.heap.size ≤ bg)); replace HB := Aside0.mk (below_step zx26_5 hb); clear hb hbox hg; have jg : w28.cell? ⟨bg, 0, none⟩ = some (.int .u64 0) := (blk_cell bd.out 0).trans rfl; have jf : w28.cell? ⟨bg, 1, none⟩ = some (.int .u64 0) := (blk_cell bd.out 1).trans rfl; have je : w28.cell? ⟨bg, 2, none⟩ = some (.slice none 0 0) := (blk_cell bd.out 2).trans rfl; have hU := blk_frozen bd.out 0; have hT := blk_frozen bd.out 1; have hS := blk_frozen bd.out 2; obtain ⟨bL, bD, sc⟩ := Kd.V_slice bJ.out; subst sc) | ((with_reducible refine gate_callee (f := 12) rfl ?_); refine goesL_ (some 35) rfl rfl Tryd.func12 (by kernel_rfl) rfl #[.int .i64 a1] rfl zx26_0 ?_; (with_reducible refine (postroomlaw10_name.calls a1 bo _ A10.out).mono ?_); rintro e w31 ⟨rfl, hb⟩; refine ⟨_, rfl, ?_⟩; replace bJ := Aside0.mk (Kd.V_below (by (with_reducible repeat (first | apply Kd.V_alloc | apply Kd.V_drewN | apply Kd.V_drew)); exact (Kd.V_mono (Kd.V_far (p := ⟨bg, 2, none⟩) (Kd.V_far (p := ⟨bg, 1, none⟩) (Kd.V_far (p := ⟨bg, 0, none⟩) (Kd.V_mono bJ.out (fun k_ hk => (⟨hk, hk.2⟩ : _ ∧ k_ ≠ bg))) (fun _ hk => hk.2) (.int .u64 bl)) (fun _ hk => hk.2) (.int .u64 bm)) (fun _ hk => hk.2) (.slice bL bc.length bD)) (fun _ h_ => h_.1))) hb); replace bd := Aside0.mk (blk_below (g := bg) (o := .cells #[.int .u64 bl, .int .u64 bm, .slice bL bc.length bD] 27 (0, 0)) zx26_9 hb); replace HB := Aside0.mk (below_step zx26_4 hb); (try clear hb); (try clear hb2); (try clear hk); (try clear hi); have jd : w31.cell? ⟨bg, 0, none⟩ = some (.int .u64 bl) := (blk_cell bd.out 0).trans rfl; have jc : w31.cell? ⟨bg, 1, none⟩ = some (.int .u64 bm) := (blk_cell bd.out 1).trans rfl; have jb : w31.cell? ⟨bg, 2, none⟩ = some (.slice bL bc.length bD) := (blk_cell bd.out 2).trans rfl; have hR := blk_frozen bd.out 0; have hQ := blk_frozen bd.out 1; have hP := blk_frozen bd.out 2) | ((with_reducible refine gate_callee (f := 18) rfl ?_); refine goesL_ (some 38) rfl rfl Tryd.func18 (by kernel_rfl) rfl #[.agg #[.int .u64 bl, .int .u64 bm, .slice bL bc.length bD], .string bo] rfl zx26_0 ?_; (with_reducible refine (ledger_Pending.calls k bl bm _ _ bc bo bn _ ?side1 ?side2 A11.out).mono ?_); (case side1 => repeat (first | exact (Kd.V_reads' bJ.out).2.2 | (with_reducible refine Kd.C_alloc ?_ _) | (with_reducible refine Kd.C_drewN ?_ _) | (with_reducible refine Kd.C_drew ?_))); (case side2 => exact (Kd.V_reads' bJ.out).2.1); rintro e w33 ⟨q2, rfl, ho0, hb⟩; refine ⟨_, rfl, ?_⟩; replace bJ := Aside0.mk (Kd.V_elder' zx26_16 (Kd.R_base ho0) hb); have jn := Aside0.mk (Kd.R_lower ho0 (below_size zx26_4)); replace bd := Aside0.mk (blk_below (g := bg) (o := .cells #[.int .u64 bl, .int .u64 bm, .slice bL bc.length bD] 27 (0, 0)) zx26_2 hb); replace HB := Aside0.mk (below_step zx26_4 hb); (try clear hb); (try clear hb2); (try clear hk); (try clear hi); (try clear ho0); obtain ⟨vq, vm, sb⟩ := Kd.R_slice jn.out; subst sb) | ((with_reducible refine gate_callee (f := 15) rfl ?_); refine goesL_ (some 46) rfl rfl Tryd.func15 (by kernel_rfl) rfl #[.int .i64 a2, .int .i64 (bn.length : Int)] rfl zx26_0 ?_; (with_reducible refine (postroomlaw10_pick.calls a2 (bn.length : Int) bq _ A22.out).mono ?_); rintro e w' ⟨rfl, ⟨nd, rfl⟩⟩; refine ⟨_, rfl, ?_⟩; have js : 0 ≤ (bq : Int) := of_decide_eq_true zx26_3; have jr : bq < (bn.length : Int) := of_decide_eq_true zx26_3; obtain ⟨vd, sl, hB⟩ := Kd.at_int (Kd.R_reads' jn.out).2.2 bq js jr; cases sl; replace js := eq_true js; replace jr := eq_true jr))
 (try simp only [Act.put, List.setIfInBounds_toArray, List.set_cons_zero, List.set_cons_succ])
 go_cut [14] (fun v14 wc => ∃ (kq : Nat) (b8 : Int), v14 = .int .u8 b8 ∧ Aside0 (postroomlaw10_LedgerDone.j0 kq bo (rd bn bq) b8 bl bm bc = some r) ∧ Aside0 (kq ≤ k) ∧ Aside0 (Kd.V k37 37 wc w.heap.size (fun k_ => k_ ≠ bg) (.slice bL bc.length bD) bc) ∧ Aside0 (wc.heap[bg]? = some (.cells #[.int .u64 bl, .int .u64 bm, (.slice bL bc.length bD)] 27 (0, 0))) ∧ Aside0 (Below w.heap.size w wc))
 case first =>
  have H := oF.out
  clear oF
  by_cases c35 : a3 = true
  ·subst c35
   have H1 : (postroomlaw10_LedgerDone.j0 k bo (rd bn bq) 114 bl bm bc) = some r := by rw [if_pos rfl] at H; exact H
   clear H
   have H := H1
   clear H1
   have H' := Aside0.mk H
   clear H
   go_wp2
   go_meet
   case rel => exact ⟨_, (114), (by first | rfl | (simp; done) | (simp [*]; done)), H', ⟨by first | omega | exact Nat.le_refl _⟩, ⟨by (with_reducible repeat (first | apply Kd.V_alloc | apply Kd.V_drewN | apply Kd.V_drew)); exact Kd.V_mono bJ.out (fun _ hk => hk.1.2)⟩, ⟨by (with_reducible repeat (first | refine blk_drewN ?_ _ | refine blk_drew ?_ | refine blk_alloc ?_ _)); exact bd.out⟩, ⟨by repeat (first | (with_reducible first | exact HB.out | apply below_alloc | apply pw_below_drewN | apply below_drew1 | refine below_set ?_ da.out) | exact HB.out)⟩⟩
  replace c35 := Bool.eq_false_iff.mpr c35
  subst c35
  have H1 : (postroomlaw10_LedgerDone.j0 k bo (rd bn bq) 97 bl bm bc) = some r := by rw [if_neg (show ¬ (false = true) by decide)] at H; exact H
  clear H
  have H := H1
  clear H1
  have H' := Aside0.mk H
  clear H
  go_wp2
  go_meet
  case rel => exact ⟨_, (97), (by first | rfl | (simp; done) | (simp [*]; done)), H', ⟨by first | omega | exact Nat.le_refl _⟩, ⟨by (with_reducible repeat (first | apply Kd.V_alloc | apply Kd.V_drewN | apply Kd.V_drew)); exact Kd.V_mono bJ.out (fun _ hk => hk.1.2)⟩, ⟨by (with_reducible repeat (first | refine blk_drewN ?_ _ | refine blk_drew ?_ | refine blk_alloc ?_ _)); exact bd.out⟩, ⟨by repeat (first | (with_reducible first | exact HB.out | apply below_alloc | apply pw_below_drewN | apply below_drew1 | refine below_set ?_ da.out) | exact HB.out)⟩⟩
 case rest =>
  clear oF
  (try clear c1); (try clear c2); (try clear p2); (try clear c3); (try clear p4); (try clear q4); (try clear hx4); (try clear c5); (try clear c6); (try clear c7); (try clear oz); (try clear oy); (try clear c10); (try clear c11); (try clear c12); (try clear jC); (try clear jB); (try clear og); (try clear c15); (try clear c18); (try clear c23); (try clear oe); (try clear c24); (try clear od); (try clear c35); (try clear jm); (try clear jl); (try clear jk); (try clear jj); (try clear ji); (try clear jh); (try clear jg); (try clear jf); (try clear je); (try clear jd); (try clear jc); (try clear jb); (try clear ja); (try clear hZ); (try clear hY); (try clear hX); (try clear hW); (try clear hV); (try clear hU); (try clear hT); (try clear hS); (try clear hR); (try clear hQ); (try clear hP); (try clear hB); (try clear js); (try clear jr)
  obtain ⟨kq, b8, rfl, HA, m9, bb, bd, HB⟩ := hcut
  cases kq with
  | zero => exact absurd HA.out (by simp [postroomlaw10_LedgerDone.j0])
  | succ bZ => ?_
  have H := HA.out
  clear HA
  simp only [postroomlaw10_LedgerDone.j0] at H
  replace H := Option.bind_eq_some_iff.mp H
  obtain ⟨⟨br, bw, bi, jo⟩, qg, H⟩ := H
  replace H : ((ledger_Done.f bZ br bw bi bo (rd bn bq) b8).bind fun jD => (if jo = 0 then (if jD.2.2.2 = 13 then ((ledger_Waits.f bZ br bw bi bo (rd bn bq)).bind fun gq => (if gq = true then (none) else ((ledger_Waits.f bZ bl bm bc bo (rd bn bq)).bind fun dD => (if dD = true then (if br = bl then (if bw = bm then (postroomlaw10_LedgerDone.l0 bZ bo 0 bl bm bc br bw bi) else (none)) else (none)) else (none))))) else (none)) else (none))) = some r := H
  have A36 := Aside0.mk qg
  clear qg
  replace H := Option.bind_eq_some_iff.mp H
  obtain ⟨⟨dB, dE, dA, jq⟩, qf, H⟩ := H
  replace H : (if jo = 0 then (if jq = 13 then ((ledger_Waits.f bZ br bw bi bo (rd bn bq)).bind fun gq => (if gq = true then (none) else ((ledger_Waits.f bZ bl bm bc bo (rd bn bq)).bind fun dD => (if dD = true then (if br = bl then (if bw = bm then (postroomlaw10_LedgerDone.l0 bZ bo 0 bl bm bc br bw bi) else (none)) else (none)) else (none))))) else (none)) else (none)) = some r := H
  have A37 := Aside0.mk qf
  clear qf
  by_cases c38 : jo = 0
  case neg =>
   rw [if_neg c38] at H
   exact absurd H (by simp)
  rw [if_pos c38] at H
  have o3 : (jo == 0) = true := beq_iff_eq.mpr c38
  have o2 : (jo != 0) = false := bne_eq_false_iff_eq.mpr c38
  clear c38
  by_cases c39 : jq = 13
  case neg =>
   rw [if_neg c39] at H
   exact absurd H (by simp)
  rw [if_pos c39] at H
  have o1 : (jq == 13) = true := beq_iff_eq.mpr c39
  have o0 : (jq != 13) = false := bne_eq_false_iff_eq.mpr c39
  clear c39
  replace H := Option.bind_eq_some_iff.mp H
  obtain ⟨gq, qe, H⟩ := H
  replace H : (if gq = true then (none) else ((ledger_Waits.f bZ bl bm bc bo (rd bn bq)).bind fun dD => (if dD = true then (if br = bl then (if bw = bm then (postroomlaw10_LedgerDone.l0 bZ bo 0 bl bm bc br bw bi) else (none)) else (none)) else (none)))) = some r := H
  have A40 := Aside0.mk qe
  clear qe
  by_cases c41 : gq = true
  ·subst c41
   have H1 : (none) = some r := by rw [if_pos rfl] at H; exact H
   clear H
   have H := H1
   clear H1
   exact absurd H (by simp)
  replace c41 := Bool.eq_false_iff.mpr c41
  subst c41
  have H1 : ((ledger_Waits.f bZ bl bm bc bo (rd bn bq)).bind fun dD => (if dD = true then (if br = bl then (if bw = bm then (postroomlaw10_LedgerDone.l0 bZ bo 0 bl bm bc br bw bi) else (none)) else (none)) else (none))) = some r := by rw [if_neg (show ¬ (false = true) by decide)] at H; exact H
  clear H
  have H := H1
  clear H1
  replace H := Option.bind_eq_some_iff.mp H
  obtain ⟨dD, qd, H⟩ := H
  replace H : (if dD = true then (if br = bl then (if bw = bm then (postroomlaw10_LedgerDone.l0 bZ bo 0 bl bm bc br bw bi) else (none)) else (none)) else (none)) = some r := H
  have A42 := Aside0.mk qd
  clear qd
  by_cases c43 : dD = true
  case neg =>
   replace c43 := Bool.eq_false_iff.mpr c43
   subst c43
   have H1 : (none) = some r := by rw [if_neg (show ¬ (false = true) by decide)] at H; exact H
   clear H
   have H := H1
   clear H1
   exact absurd H (by simp)
  subst c43
  have H1 : (if br = bl then (if bw = bm then (postroomlaw10_LedgerDone.l0 bZ bo 0 bl bm bc br bw bi) else (none)) else (none)) = some r := by rw [if_pos rfl] at H; exact H
  clear H
  have H := H1
  clear H1
  by_cases c44 : br = bl
  case neg =>
   rw [if_neg c44] at H
   exact absurd H (by simp)
  rw [if_pos c44] at H
  have oZ : (br == bl) = true := beq_iff_eq.mpr c44
  have oY : (br != bl) = false := bne_eq_false_iff_eq.mpr c44
  clear c44
  by_cases c45 : bw = bm
  case neg =>
   rw [if_neg c45] at H
   exact absurd H (by simp)
  rw [if_pos c45] at H
  have oX : (bw == bm) = true := beq_iff_eq.mpr c45
  have oW : (bw != bm) = false := bne_eq_false_iff_eq.mpr c45
  clear c45
  have H' := Aside0.mk H
  clear H
  obtain ⟨m0, mZ, mY, mC, mB, mA⟩ := cx26_bc3 bd.out
  go_wp2_with (first | ((with_reducible refine gate_callee (f := 20) rfl ?_); refine goesL_ (some 55) rfl rfl Tryd.func20 (by kernel_rfl) rfl #[.agg #[.int .u64 bl, .int .u64 bm, .slice bL bc.length bD], .string bo, .int .u64 (rd bn bq), .int .u8 b8] rfl zx26_0 ?_; (with_reducible refine (ledger_Done.calls bZ bl bm (fun k_ => k_ ≠ bg) _ _ bc bo (rd bn bq) b8 br bw bi jo _ ?side1 A36.out).mono ?_); (case side1 => exact bb.out); rintro e w47 ⟨vh, rfl, ho0, hb⟩; refine ⟨_, rfl, ?_⟩; replace bb := Aside0.mk (Kd.V_below zx26_8 hb); have bR := Aside0.mk (Kd.V_lower (Kd.V_mono (ok' := fun k_ => k_ ≠ bg) ho0 (fun k_ hk_ => Or.elim hk_ (fun hs_ => hs_) (fun hn_ => (Kd.freshB (g := bg) (o := .cells #[.int .u64 bl, .int .u64 bm, .slice bL bc.length bD] 27 (0, 0)) zx26_2 k_ hn_)))) (below_size zx26_4)); replace bd := Aside0.mk (blk_below (g := bg) (o := .cells #[.int .u64 bl, .int .u64 bm, .slice bL bc.length bD] 27 (0, 0)) zx26_2 hb); replace HB := Aside0.mk (below_step zx26_4 hb); (try clear hb); (try clear hb2); (try clear hk); (try clear hi); (try clear ho0)) | ((with_reducible refine gate_dst (N := 15) rfl ?_); (try (refine gate_guard (by rfl) ?_; dsimp only)); refine box_event ?hg (N := 15) ?hd (cs := #[.int .u64 0, .int .u64 0, .slice none 0 0]) (t := 27) ?hr ?_; (case hd => rfl); (case hg => rfl); (case hr => first | (go_simp; done) | (go_simp; rfl)); intro bj hg w48 hbox hb; replace bb := Aside0.mk (Kd.V_below (Kd.V_elderB zx26_8 bj (Nat.le_of_eq hg.symm)) hb); replace bR := Aside0.mk (Kd.V_below (Kd.V_elderB zx26_17 bj (Nat.le_of_eq hg.symm)) hb); have bh := Aside0.mk (hbox); have vf := Aside0.mk ((by rw [hg]; exact (below_size zx26_4) : w.heap.size ≤ bj)); have dZ := Aside0.mk ((by rw [hg]; exact (below_size zx26_4) : w.heap.size ≤ bj)); replace HB := Aside0.mk (below_step zx26_4 hb); have bU := Aside0.mk ((by rw [hg]; exact Nat.ne_of_lt (blk_lt (g := bg) (o := .cells #[.int .u64 bl, .int .u64 bm, .slice bL bc.length bD] 27 (0, 0)) zx26_2) : bg ≠ bj)); have dc := Aside0.mk ((by rw [hg]; exact Nat.ne_of_gt (blk_lt (g := bg) (o := .cells #[.int .u64 bl, .int .u64 bm, .slice bL bc.length bD] 27 (0, 0)) zx26_2) : bj ≠ bg)); replace bd := Aside0.mk (blk_below (g := bg) (o := .cells #[.int .u64 bl, .int .u64 bm, .slice bL bc.length bD] 27 (0, 0)) zx26_2 hb); clear hb hbox hg; have sO := dc.out; have sG := bU.out; have mX : w48.cell? ⟨bj, 0, none⟩ = some (.int .u64 0) := (blk_cell bh.out 0).trans rfl; have mW : w48.cell? ⟨bj, 1, none⟩ = some (.int .u64 0) := (blk_cell bh.out 1).trans rfl; have mV : w48.cell? ⟨bj, 2, none⟩ = some (.slice none 0 0) := (blk_cell bh.out 2).trans rfl; have mz := blk_frozen bh.out 0; have my := blk_frozen bh.out 1; have mw := blk_frozen bh.out 2; obtain ⟨bK, bI, sa⟩ := Kd.V_slice bR.out; subst sa) | ((with_reducible refine gate_store (t := 27) (p := 15) rfl ?_); refine store_event (t := 27) (p := 15) (v := ?vo_w52) (w1 := (((w48.setCell ⟨bj, 0, none⟩ (.int .u64 br)).setCell ⟨bj, 1, none⟩ (.int .u64 bw)).setCell ⟨bj, 2, none⟩ (.slice bK bi.length bI))) ?hg ?ho ?hn ?hr ?_; (case ho => rfl); (case hg => rfl); (case hn => rfl); (case hr => first | (go_simp; done) | (go_simp; rfl)); intro w52 hw; have n0_ : Aside0 (Kd.V k37 37 w52 w.heap.size (fun k_ => k_ ≠ bg ∧ k_ ≠ bj) (.slice bL bc.length bD) bc) := ⟨(by rw [hw]; exact (by (with_reducible repeat (first | apply Kd.V_alloc | apply Kd.V_drewN | apply Kd.V_drew)); exact Kd.V_mono (Kd.V_far (p := ⟨bj, 2, none⟩) (Kd.V_far (p := ⟨bj, 1, none⟩) (Kd.V_far (p := ⟨bj, 0, none⟩) (Kd.V_mono bb.out (fun k_ hk => (⟨hk, hk.2⟩ : _ ∧ k_ ≠ bj))) (fun _ hk => hk.2) (.int .u64 br)) (fun _ hk => hk.2) (.int .u64 bw)) (fun _ hk => hk.2) (.slice bK bi.length bI)) (fun _ hk => ⟨hk.1.1, hk.1.2⟩)))⟩; have n1_ : Aside0 (Kd.V k37 37 w52 w.heap.size (fun k_ => k_ ≠ bg ∧ k_ ≠ bj) (.slice bK bi.length bI) bi) := ⟨(by rw [hw]; exact (by (with_reducible repeat (first | apply Kd.V_alloc | apply Kd.V_drewN | apply Kd.V_drew)); exact Kd.V_mono (Kd.V_far (p := ⟨bj, 2, none⟩) (Kd.V_far (p := ⟨bj, 1, none⟩) (Kd.V_far (p := ⟨bj, 0, none⟩) (Kd.V_mono bR.out (fun k_ hk => (⟨hk, hk.2⟩ : _ ∧ k_ ≠ bj))) (fun _ hk => hk.2) (.int .u64 br)) (fun _ hk => hk.2) (.int .u64 bw)) (fun _ hk => hk.2) (.slice bK bi.length bI)) (fun _ hk => ⟨hk.1.1, hk.1.2⟩)))⟩; have n2_ : Aside0 (w52.heap[bg]? = some (.cells #[.int .u64 bl, .int .u64 bm, .slice bL bc.length bD] 27 (0, 0))) := ⟨(by rw [hw]; exact (by (iterate 3 ((with_reducible repeat (first | refine blk_drewN ?_ _ | refine blk_drew ?_ | refine blk_alloc ?_ _)); refine blk_far ?_ bU.out _)); (with_reducible repeat (first | refine blk_drewN ?_ _ | refine blk_drew ?_ | refine blk_alloc ?_ _)); exact bd.out))⟩; have n3_ : Aside0 (w52.heap[bj]? = some (.cells #[.int .u64 br, .int .u64 bw, .slice bK bi.length bI] 27 (0, 0))) := ⟨(by rw [hw]; exact (by (with_reducible repeat (first | refine blk_drewN ?_ _ | refine blk_drew ?_ | refine blk_alloc ?_ _)); refine blk_put (cs := #[.int .u64 br, .int .u64 bw, .slice none 0 0]) ?_ 2 _ rfl; (with_reducible repeat (first | refine blk_drewN ?_ _ | refine blk_drew ?_ | refine blk_alloc ?_ _)); refine blk_put (cs := #[.int .u64 br, .int .u64 0, .slice none 0 0]) ?_ 1 _ rfl; (with_reducible repeat (first | refine blk_drewN ?_ _ | refine blk_drew ?_ | refine blk_alloc ?_ _)); refine blk_put (cs := #[.int .u64 0, .int .u64 0, .slice none 0 0]) ?_ 0 _ rfl; (with_reducible repeat (first | refine blk_drewN ?_ _ | refine blk_drew ?_ | refine blk_alloc ?_ _)); exact bh.out))⟩; have n4_ : Aside0 (Below w.heap.size w w52) := ⟨(by rw [hw]; exact zx26_7)⟩; clear hw; clear bb; (try clear bR); clear bd; clear bh; clear HB; have bb := n0_; have bR := n1_; have bd := n2_; have bh := n3_; have HB := n4_; clear n0_ n1_ n2_ n3_ n4_; have mU : w52.cell? ⟨bj, 0, none⟩ = some (.int .u64 br) := (blk_cell bh.out 0).trans rfl; have mT : w52.cell? ⟨bj, 1, none⟩ = some (.int .u64 bw) := (blk_cell bh.out 1).trans rfl; have mS : w52.cell? ⟨bj, 2, none⟩ = some (.slice bK bi.length bI) := (blk_cell bh.out 2).trans rfl; have mv := blk_frozen bh.out 0; have mu := blk_frozen bh.out 1; have mt := blk_frozen bh.out 2) | ((with_reducible refine gate_callee (f := 20) rfl ?_); refine goesL_ (some 63) rfl rfl Tryd.func20 (by kernel_rfl) rfl #[.agg #[.int .u64 br, .int .u64 bw, .slice bK bi.length bI], .string bo, .int .u64 (rd bn bq), .int .u8 b8] rfl zx26_0 ?_; (with_reducible refine (ledger_Done.calls bZ br bw (fun k_ => (k_ ≠ bg ∧ k_ ≠ bj)) _ _ bi bo (rd bn bq) b8 dB dE dA jq _ ?side1 A37.out).mono ?_); (case side1 => exact bR.out); rintro e w54 ⟨vg, rfl, ho0, hb⟩; refine ⟨_, rfl, ?_⟩; replace bb := Aside0.mk (Kd.V_below zx26_8 hb); replace bR := Aside0.mk (Kd.V_below zx26_17 hb); have dC := Aside0.mk (Kd.V_lower (Kd.V_mono (ok' := fun k_ => k_ ≠ bg ∧ k_ ≠ bj) ho0 (fun k_ hk_ => ⟨Or.elim hk_ (fun hs_ => hs_.1) (fun hn_ => (Kd.freshB (g := bg) (o := .cells #[.int .u64 bl, .int .u64 bm, .slice bL bc.length bD] 27 (0, 0)) zx26_2 k_ hn_)), Or.elim hk_ (fun hs_ => hs_.2) (fun hn_ => (Kd.freshB (g := bj) (o := .cells #[.int .u64 br, .int .u64 bw, .slice bK bi.length bI] 27 (0, 0)) zx26_6 k_ hn_))⟩)) (below_size zx26_7)); replace bd := Aside0.mk (blk_below (g := bg) (o := .cells #[.int .u64 bl, .int .u64 bm, .slice bL bc.length bD] 27 (0, 0)) zx26_2 hb); replace bh := Aside0.mk (blk_below (g := bj) (o := .cells #[.int .u64 br, .int .u64 bw, .slice bK bi.length bI] 27 (0, 0)) zx26_6 hb); replace HB := Aside0.mk (below_step zx26_7 hb); (try clear hb); (try clear hb2); (try clear hk); (try clear hi); (try clear ho0)) | ((with_reducible refine gate_dst (N := 17) rfl ?_); (try (refine gate_guard (by rfl) ?_; dsimp only)); refine box_event ?hg (N := 17) ?hd (cs := #[.int .u64 0, .int .u64 0, .slice none 0 0]) (t := 27) ?hr ?_; (case hd => rfl); (case hg => rfl); (case hr => first | (go_simp; done) | (go_simp; rfl)); intro bA hg w55 hbox hb; replace bb := Aside0.mk (Kd.V_below (Kd.V_elderB zx26_8 bA (Nat.le_of_eq hg.symm)) hb); replace bR := Aside0.mk (Kd.V_below (Kd.V_elderB zx26_17 bA (Nat.le_of_eq hg.symm)) hb); replace dC := Aside0.mk (Kd.V_below (Kd.V_elderB (by (with_reducible repeat (first | apply Kd.V_alloc | apply Kd.V_drewN | apply Kd.V_drew)); exact dC.out) bA (Nat.le_of_eq hg.symm)) hb); have bx := Aside0.mk (hbox); have ve := Aside0.mk ((by rw [hg]; exact (below_size zx26_7) : w.heap.size ≤ bA)); have gr := Aside0.mk ((by rw [hg]; exact (below_size zx26_7) : w.heap.size ≤ bA)); replace HB := Aside0.mk (below_step zx26_7 hb); have bS := Aside0.mk ((by rw [hg]; exact Nat.ne_of_lt (blk_lt (g := bg) (o := .cells #[.int .u64 bl, .int .u64 bm, .slice bL bc.length bD] 27 (0, 0)) zx26_2) : bg ≠ bA)); have db := Aside0.mk ((by rw [hg]; exact Nat.ne_of_gt (blk_lt (g := bg) (o := .cells #[.int .u64 bl, .int .u64 bm, .slice bL bc.length bD] 27 (0, 0)) zx26_2) : bA ≠ bg)); replace bd := Aside0.mk (blk_below (g := bg) (o := .cells #[.int .u64 bl, .int .u64 bm, .slice bL bc.length bD] 27 (0, 0)) zx26_2 hb); have dY := Aside0.mk ((by rw [hg]; exact Nat.ne_of_lt (blk_lt (g := bj) (o := .cells #[.int .u64 br, .int .u64 bw, .slice bK bi.length bI] 27 (0, 0)) zx26_6) : bj ≠ bA)); have jp := Aside0.mk ((by rw [hg]; exact Nat.ne_of_gt (blk_lt (g := bj) (o := .cells #[.int .u64 br, .int .u64 bw, .slice bK bi.length bI] 27 (0, 0)) zx26_6) : bA ≠ bj)); replace bh := Aside0.mk (blk_below (g := bj) (o := .cells #[.int .u64 br, .int .u64 bw, .slice bK bi.length bI] 27 (0, 0)) zx26_6 hb); clear hb hbox hg; have sN := db.out; have sF := bS.out; have sM := jp.out; have sE := dY.out; have mR : w55.cell? ⟨bA, 0, none⟩ = some (.int .u64 0) := (blk_cell bx.out 0).trans rfl; have mQ : w55.cell? ⟨bA, 1, none⟩ = some (.int .u64 0) := (blk_cell bx.out 1).trans rfl; have mP : w55.cell? ⟨bA, 2, none⟩ = some (.slice none 0 0) := (blk_cell bx.out 2).trans rfl; have ms := blk_frozen bx.out 0; have mr := blk_frozen bx.out 1; have mq := blk_frozen bx.out 2; obtain ⟨dX, dW, q9⟩ := Kd.V_slice dC.out; subst q9; have mO : w55.cell? ⟨bj, 0, none⟩ = some (.int .u64 br) := (blk_cell bh.out 0).trans rfl; have mN : w55.cell? ⟨bj, 1, none⟩ = some (.int .u64 bw) := (blk_cell bh.out 1).trans rfl; have mM : w55.cell? ⟨bj, 2, none⟩ = some (.slice bK bi.length bI) := (blk_cell bh.out 2).trans rfl; have mo := blk_frozen bh.out 0; have mm := blk_frozen bh.out 1; have ml := blk_frozen bh.out 2) | (go_at_call 19; (with_reducible refine (ledger_Waits.calls bZ br bw _ _ bi bo (rd bn bq) false _ ?side1 ?side2 A40.out).mono ?_); (case side1 => refine (Kd.V_reads' (e := 37) (base := w.heap.size) (ok := fun k_ => ((k_ ≠ bg ∧ k_ ≠ bj) ∧ k_ ≠ bA)) (n := bi.length) (c := bI) ?_).2.2; exact zx26_12); (case side2 => exact (Kd.V_reads' bR.out).2.1); rintro e w61 ⟨rfl, hb⟩; replace bb := Aside0.mk (Kd.V_below (by (with_reducible repeat (first | apply Kd.V_alloc | apply Kd.V_drewN | apply Kd.V_drew)); exact (Kd.V_mono (Kd.V_far (p := ⟨bA, 2, none⟩) (Kd.V_far (p := ⟨bA, 1, none⟩) (Kd.V_far (p := ⟨bA, 0, none⟩) (Kd.V_mono bb.out (fun k_ hk => (⟨hk, hk.2⟩ : _ ∧ k_ ≠ bA))) (fun _ hk => hk.2) (.int .u64 dB)) (fun _ hk => hk.2) (.int .u64 dE)) (fun _ hk => hk.2) (.slice dX dA.length dW)) (fun _ h_ => h_.1))) hb); replace bR := Aside0.mk (Kd.V_below zx26_12 hb); replace dC := Aside0.mk (Kd.V_below (by (with_reducible repeat (first | apply Kd.V_alloc | apply Kd.V_drewN | apply Kd.V_drew)); exact (Kd.V_mono (Kd.V_far (p := ⟨bA, 2, none⟩) (Kd.V_far (p := ⟨bA, 1, none⟩) (Kd.V_far (p := ⟨bA, 0, none⟩) (Kd.V_mono dC.out (fun k_ hk => (⟨hk, hk.2⟩ : _ ∧ k_ ≠ bA))) (fun _ hk => hk.2) (.int .u64 dB)) (fun _ hk => hk.2) (.int .u64 dE)) (fun _ hk => hk.2) (.slice dX dA.length dW)) (fun _ h_ => h_.1))) hb); replace bd := Aside0.mk (blk_below (g := bg) (o := .cells #[.int .u64 bl, .int .u64 bm, .slice bL bc.length bD] 27 (0, 0)) (by (iterate 3 ((with_reducible repeat (first | refine blk_drewN ?_ _ | refine blk_drew ?_ | refine blk_alloc ?_ _)); refine blk_far ?_ bS.out _)); (with_reducible repeat (first | refine blk_drewN ?_ _ | refine blk_drew ?_ | refine blk_alloc ?_ _)); exact bd.out) hb); replace bh := Aside0.mk (blk_below (g := bj) (o := .cells #[.int .u64 br, .int .u64 bw, .slice bK bi.length bI] 27 (0, 0)) (by (iterate 3 ((with_reducible repeat (first | refine blk_drewN ?_ _ | refine blk_drew ?_ | refine blk_alloc ?_ _)); refine blk_far ?_ dY.out _)); (with_reducible repeat (first | refine blk_drewN ?_ _ | refine blk_drew ?_ | refine blk_alloc ?_ _)); exact bh.out) hb); replace bx := Aside0.mk (blk_below (g := bA) (o := .cells #[.int .u64 dB, .int .u64 dE, .slice dX dA.length dW] 27 (0, 0)) (by (with_reducible repeat (first | refine blk_drewN ?_ _ | refine blk_drew ?_ | refine blk_alloc ?_ _)); refine blk_put (cs := #[.int .u64 dB, .int .u64 dE, .slice none 0 0]) ?_ 2 _ rfl; (with_reducible repeat (first | refine blk_drewN ?_ _ | refine blk_drew ?_ | refine blk_alloc ?_ _)); refine blk_put (cs := #[.int .u64 dB, .int .u64 0, .slice none 0 0]) ?_ 1 _ rfl; (with_reducible repeat (first | refine blk_drewN ?_ _ | refine blk_drew ?_ | refine blk_alloc ?_ _)); refine blk_put (cs := #[.int .u64 0, .int .u64 0, .slice none 0 0]) ?_ 0 _ rfl; (with_reducible repeat (first | refine blk_drewN ?_ _ | refine blk_drew ?_ | refine blk_alloc ?_ _)); exact bx.out) hb); replace HB := Aside0.mk (below_step zx26_1 hb); (try clear hb); (try clear hb2); (try clear hk); (try clear hi); have mL : w61.cell? ⟨bg, 0, none⟩ = some (.int .u64 bl) := (blk_cell bd.out 0).trans rfl; have mK : w61.cell? ⟨bg, 1, none⟩ = some (.int .u64 bm) := (blk_cell bd.out 1).trans rfl; have mJ : w61.cell? ⟨bg, 2, none⟩ = some (.slice bL bc.length bD) := (blk_cell bd.out 2).trans rfl; have mj := blk_frozen bd.out 0; have mi := blk_frozen bd.out 1; have mh := blk_frozen bd.out 2) | (go_at_call 19; (with_reducible refine (ledger_Waits.calls bZ bl bm _ _ bc bo (rd bn bq) true _ ?side1 ?side2 A42.out).mono ?_); (case side1 => repeat (first | exact (Kd.V_reads' bb.out).2.2 | (with_reducible refine Kd.C_alloc ?_ _) | (with_reducible refine Kd.C_drewN ?_ _) | (with_reducible refine Kd.C_drew ?_))); (case side2 => exact (Kd.V_reads' bb.out).2.1); rintro e w63 ⟨rfl, hb⟩; replace bb := Aside0.mk (Kd.V_below zx26_8 hb); replace bR := Aside0.mk (Kd.V_below zx26_17 hb); replace dC := Aside0.mk (Kd.V_below (by (with_reducible repeat (first | apply Kd.V_alloc | apply Kd.V_drewN | apply Kd.V_drew)); exact dC.out) hb); replace bd := Aside0.mk (blk_below (g := bg) (o := .cells #[.int .u64 bl, .int .u64 bm, .slice bL bc.length bD] 27 (0, 0)) zx26_2 hb); replace bh := Aside0.mk (blk_below (g := bj) (o := .cells #[.int .u64 br, .int .u64 bw, .slice bK bi.length bI] 27 (0, 0)) zx26_6 hb); replace bx := Aside0.mk (blk_below (g := bA) (o := .cells #[.int .u64 dB, .int .u64 dE, .slice dX dA.length dW] 27 (0, 0)) zx26_11 hb); replace HB := Aside0.mk (below_step zx26_1 hb); (try clear hb); (try clear hb2); (try clear hk); (try clear hi); have mI : w63.cell? ⟨bj, 0, none⟩ = some (.int .u64 br) := (blk_cell bh.out 0).trans rfl; have mH : w63.cell? ⟨bj, 1, none⟩ = some (.int .u64 bw) := (blk_cell bh.out 1).trans rfl; have mG : w63.cell? ⟨bj, 2, none⟩ = some (.slice bK bi.length bI) := (blk_cell bh.out 2).trans rfl; have mg := blk_frozen bh.out 0; have mf := blk_frozen bh.out 1; have me := blk_frozen bh.out 2; have mF : w63.cell? ⟨bg, 0, none⟩ = some (.int .u64 bl) := (blk_cell bd.out 0).trans rfl; have mE : w63.cell? ⟨bg, 1, none⟩ = some (.int .u64 bm) := (blk_cell bd.out 1).trans rfl; have mD : w63.cell? ⟨bg, 2, none⟩ = some (.slice bL bc.length bD) := (blk_cell bd.out 2).trans rfl; have md := blk_frozen bd.out 0; have mc := blk_frozen bd.out 1; have mb := blk_frozen bd.out 2))
  go_loopg [19] bZ (fun kq v19 w' => ∃ (ba : Int), v19 = .int .i64 ba ∧ Aside0 (postroomlaw10_LedgerDone.l0 kq bo ba bl bm bc br bw bi = some r) ∧ Aside0 (kq ≤ bZ) ∧ Aside0 (Kd.V k37 37 w' w.heap.size (fun k_ => k_ ≠ bg ∧ k_ ≠ bj ∧ k_ ≠ bA) (.slice bL bc.length bD) bc) ∧ Aside0 (Kd.V k37 37 w' w.heap.size (fun k_ => k_ ≠ bg ∧ k_ ≠ bj ∧ k_ ≠ bA) (.slice bK bi.length bI) bi) ∧ Aside0 (Kd.V k37 37 w' w.heap.size (fun k_ => k_ ≠ bg ∧ k_ ≠ bj ∧ k_ ≠ bA) (.slice dX dA.length dW) dA) ∧ Aside0 (w'.heap[bg]? = some (.cells #[.int .u64 bl, .int .u64 bm, (.slice bL bc.length bD)] 27 (0, 0))) ∧ Aside0 (w'.heap[bj]? = some (.cells #[.int .u64 br, .int .u64 bw, (.slice bK bi.length bI)] 27 (0, 0))) ∧ Aside0 (w'.heap[bA]? = some (.cells #[.int .u64 dB, .int .u64 dE, (.slice dX dA.length dW)] 27 (0, 0))) ∧ Aside0 (Below w.heap.size w w'))
  case atStart => exact ⟨(0), (by first | rfl | (simp; done) | (simp [*]; done)), H', ⟨Nat.le_refl _⟩, ⟨by (with_reducible repeat (first | apply Kd.V_alloc | apply Kd.V_drewN | apply Kd.V_drew)); exact Kd.V_mono bb.out (fun _ hk => ⟨hk.1.1, ⟨hk.1.2, hk.2⟩⟩)⟩, ⟨by (with_reducible repeat (first | apply Kd.V_alloc | apply Kd.V_drewN | apply Kd.V_drew)); exact Kd.V_mono bR.out (fun _ hk => ⟨hk.1.1, ⟨hk.1.2, hk.2⟩⟩)⟩, ⟨by (with_reducible repeat (first | apply Kd.V_alloc | apply Kd.V_drewN | apply Kd.V_drew)); exact Kd.V_mono dC.out (fun _ hk => ⟨hk.1.1, ⟨hk.1.2, hk.2⟩⟩)⟩, ⟨by (with_reducible repeat (first | refine blk_drewN ?_ _ | refine blk_drew ?_ | refine blk_alloc ?_ _)); exact bd.out⟩, ⟨by (with_reducible repeat (first | refine blk_drewN ?_ _ | refine blk_drew ?_ | refine blk_alloc ?_ _)); exact bh.out⟩, ⟨by (with_reducible repeat (first | refine blk_drewN ?_ _ | refine blk_drew ?_ | refine blk_alloc ?_ _)); exact bx.out⟩, ⟨by repeat (first | (with_reducible first | exact HB.out | apply below_alloc | apply pw_below_drewN | apply below_drew1 | refine below_set ?_ da.out | refine below_set ?_ dZ.out | refine below_set ?_ gr.out) | exact HB.out)⟩⟩
  case round =>
   clear H'
   (try clear c1); (try clear c2); (try clear p2); (try clear c3); (try clear c4); (try clear p4); (try clear q4); (try clear hx4); (try clear c5); (try clear c6); (try clear c7); (try clear oz); (try clear oy); (try clear c10); (try clear c11); (try clear c12); (try clear jC); (try clear jB); (try clear og); (try clear c15); (try clear c18); (try clear c20); (try clear c23); (try clear oe); (try clear c24); (try clear od); (try clear c35); (try clear c38); (try clear o3); (try clear o2); (try clear c39); (try clear o1); (try clear o0); (try clear c41); (try clear c43); (try clear p43); (try clear q43); (try clear vi); (try clear c44); (try clear oZ); (try clear oY); (try clear c45); (try clear oX); (try clear oW); (try clear c49); (try clear c56); (try clear c57); (try clear jm); (try clear jl); (try clear jk); (try clear jj); (try clear ji); (try clear jh); (try clear jg); (try clear jf); (try clear je); (try clear jd); (try clear jc); (try clear jb); (try clear m0); (try clear mZ); (try clear mY); (try clear mX); (try clear mW); (try clear mV); (try clear mU); (try clear mT); (try clear mS); (try clear mR); (try clear mQ); (try clear mP); (try clear mO); (try clear mN); (try clear mM); (try clear mL); (try clear mK); (try clear mJ); (try clear mI); (try clear mH); (try clear mG); (try clear mF); (try clear mE); (try clear mD); (try clear ja); (try clear hZ); (try clear hY); (try clear hX); (try clear hW); (try clear hV); (try clear hU); (try clear hT); (try clear hS); (try clear hR); (try clear hQ); (try clear hP); (try clear mC); (try clear mB); (try clear mA); (try clear mz); (try clear my); (try clear mw); (try clear mv); (try clear mu); (try clear mt); (try clear ms); (try clear mr); (try clear mq); (try clear mo); (try clear mm); (try clear ml); (try clear mj); (try clear mi); (try clear mh); (try clear mg); (try clear mf); (try clear me); (try clear md); (try clear mc); (try clear mb); (try clear hB); (try clear p2); (try clear p4); (try clear js); (try clear q4); (try clear jr)
   obtain ⟨ba, rfl, HA, HK2, bb, bf, bk, bd, bh, bx, HB⟩ := hrel
   cases gk with
   | zero => exact absurd HA.out (by simp [postroomlaw10_LedgerDone.l0])
   | succ k2 => ?_
   have H := HA.out
   clear HA
   simp only [postroomlaw10_LedgerDone.l0] at H
   by_cases c66 : ba < (bc.length : Int)
   case neg =>
    rw [if_neg c66] at H
    have oV : decide (ba < (bc.length : Int)) = false := decide_eq_false c66
    clear c66
    obtain rfl := Option.some.inj H
    have sH := bU.out
    have sy := dc.out
    have q6 := bS.out
    have q5 := db.out
    obtain ⟨oN, oM, oL, oK, oJ, oI⟩ := cx26_bc3 bd.out
    go_wp2
    go_ret
    exact ⟨by first | rfl | (simp [errW_none, errW_some] <;> rfl) | (simp [*, errW_none, errW_some] <;> rfl), by repeat (first | (with_reducible first | exact HB.out | apply below_alloc | apply pw_below_drewN | apply below_drew1 | refine below_set ?_ da.out | refine below_set ?_ dZ.out | refine below_set ?_ gr.out) | exact HB.out)⟩
   rw [if_pos c66] at H
   have oV : decide (ba < (bc.length : Int)) = true := decide_eq_true c66
   clear c66
   by_cases c67 : 0 ≤ ba
   case neg =>
    rw [if_neg c67] at H
    exact absurd H (by simp)
   rw [if_pos c67] at H
   have vc : decide (0 ≤ ba) = true := decide_eq_true c67
   clear c67
   replace H := Option.bind_eq_some_iff.mp H
   obtain ⟨de, qc, H⟩ := H
   replace H : ((ledger_Pending.f k2 br bw bi ((rd_T37 bc ba).f0)).bind fun dd => (if ((rd_T37 bc ba).f0).toList = bo.toList then (if ba < (bi.length : Int) then (if (dd.length : Int) = (wrap64 ((de.length : Int) - 1)) then (if (IntKind.u64.wrap (((rd_T37 bi ba).f4) + ((rd_T37 bi ba).f6))) = (IntKind.u64.wrap ((IntKind.u64.wrap (((rd_T37 bc ba).f4) + ((rd_T37 bc ba).f6))) + 1)) then (if ((rd_T37 bi ba).f5) = ((rd_T37 bc ba).f5) then (postroomlaw10_LedgerDone.l0 k2 bo (wrap64 (ba + 1)) bl bm bc br bw bi) else (none)) else (none)) else (none)) else (none)) else ((postroomref10_Same.f k2 de dd).bind fun gp => (if gp = true then (postroomlaw10_LedgerDone.l0 k2 bo (wrap64 (ba + 1)) bl bm bc br bw bi) else (none))))) = some r := H
   have A68 := Aside0.mk qc
   clear qc
   replace H := Option.bind_eq_some_iff.mp H
   obtain ⟨dd, qb, H⟩ := H
   replace H : (if ((rd_T37 bc ba).f0).toList = bo.toList then (if ba < (bi.length : Int) then (if (dd.length : Int) = (wrap64 ((de.length : Int) - 1)) then (if (IntKind.u64.wrap (((rd_T37 bi ba).f4) + ((rd_T37 bi ba).f6))) = (IntKind.u64.wrap ((IntKind.u64.wrap (((rd_T37 bc ba).f4) + ((rd_T37 bc ba).f6))) + 1)) then (if ((rd_T37 bi ba).f5) = ((rd_T37 bc ba).f5) then (postroomlaw10_LedgerDone.l0 k2 bo (wrap64 (ba + 1)) bl bm bc br bw bi) else (none)) else (none)) else (none)) else (none)) else ((postroomref10_Same.f k2 de dd).bind fun gp => (if gp = true then (postroomlaw10_LedgerDone.l0 k2 bo (wrap64 (ba + 1)) bl bm bc br bw bi) else (none)))) = some r := H
   have A69 := Aside0.mk qb
   clear qb
   by_cases c70 : ((rd_T37 bc ba).f0).toList = bo.toList
   case neg =>
    rw [if_neg c70] at H
    have oU : (((rd_T37 bc ba).f0).toList == bo.toList) = false := beq_eq_false_iff_ne.mpr c70
    have oT : (((rd_T37 bc ba).f0).toList != bo.toList) = true := bne_iff_ne.mpr c70
    replace H := Option.bind_eq_some_iff.mp H
    obtain ⟨gp, qa, H⟩ := H
    replace H : (if gp = true then (postroomlaw10_LedgerDone.l0 k2 bo (wrap64 (ba + 1)) bl bm bc br bw bi) else (none)) = some r := H
    have A87 := Aside0.mk qa
    clear qa
    by_cases c88 : gp = true
    case neg =>
     replace c88 := Bool.eq_false_iff.mpr c88
     subst c88
     have H1 : (none) = some r := by rw [if_neg (show ¬ (false = true) by decide)] at H; exact H
     clear H
     have H := H1
     clear H1
     exact absurd H (by simp)
    subst c88
    have H1 : (postroomlaw10_LedgerDone.l0 k2 bo (wrap64 (ba + 1)) bl bm bc br bw bi) = some r := by rw [if_pos rfl] at H; exact H
    clear H
    have H := H1
    clear H1
    have H' := Aside0.mk H
    clear H
    have sJ := bU.out
    have sB := dc.out
    have sI := bS.out
    have sz := db.out
    obtain ⟨qN, qM, qL, qB, qA, qz⟩ := cx26_bc3 bd.out
    try go_wp2
    replace bb := Aside0.mk (Kd.V_drew bb.out)
    replace bf := Aside0.mk (Kd.V_drew bf.out)
    replace bk := Aside0.mk (Kd.V_drew bk.out)
    replace bd := Aside0.mk (blk_drew bd.out)
    replace bh := Aside0.mk (blk_drew bh.out)
    replace bx := Aside0.mk (blk_drew bx.out)
    replace HB := Aside0.mk (below_drew1 HB.out)
    have gf : 0 ≤ (ba : Int) := of_decide_eq_true zx26_3
    have gb : ba < (bc.length : Int) := of_decide_eq_true zx26_3
    obtain ⟨be, gH, gA, ox, dt, dr, dq, b1, dp, dn, dm, dw, dz⟩ := at_T37 (Kd.V_reads' bb.out).2.2 ba gf gb
    cases ox
    obtain ⟨oS, gu, gx, dV⟩ := Kd.V_get bb.out z37 ba gf (by first | exact gb | exact of_decide_eq_true zx26_3 | (have e_ := (Kd.V_reads' bb.out).1; omega))
    obtain ⟨jQ, jN, rfl, bY, b4⟩ := k37_openF gx
    have bO := dV 3 _ rfl
    rw [add_field _ _ 3 (by omega)] at bO
    replace bO := Option.some.inj (bO.symm.trans b1)
    injection bO with hva_ hvn_ hvc_
    rw [hva_] at b4
    rw [hvc_] at bY
    have bB := Aside0.mk (show Kd.V (Kd.int .u64) 24 _ w.heap.size _ _ ((rd_T37 bc ba).f3) from Kd.V_mk bY b4)
    clear hva_ hvn_ hvc_ b4 bY
    clear dV gu
    have bz := Aside0.mk dz
    have oc := Aside0.mk dw
    clear dz dw
    replace gf := eq_true gf
    replace gb := eq_true gb
    refine start_ (n := 9) (S := fun w' => w'.cell? ⟨bg, 0, none⟩ = some (.int .u64 bl) ∧ w'.cell? ⟨bg, 1, none⟩ = some (.int .u64 bm) ∧ w'.cell? ⟨bg, 2, none⟩ = some (.slice (some be) bc.length bD) ∧ w'.cell? (be.add ((ba).toNat * 7)) = some (.string ((rd_T37 bc ba).f0)) ∧ w'.cell? ⟨(be.add ((ba).toNat * 7)).block, (be.add ((ba).toNat * 7)).off + 1, none⟩ = some (.int .u64 ((rd_T37 bc ba).f1)) ∧ w'.cell? ⟨(be.add ((ba).toNat * 7)).block, (be.add ((ba).toNat * 7)).off + 2, none⟩ = some (.int .u64 ((rd_T37 bc ba).f2)) ∧ w'.cell? ⟨(be.add ((ba).toNat * 7)).block, (be.add ((ba).toNat * 7)).off + 3, none⟩ = some (.slice gH ((rd_T37 bc ba).f3).length gA) ∧ w'.cell? ⟨(be.add ((ba).toNat * 7)).block, (be.add ((ba).toNat * 7)).off + 4, none⟩ = some (.int .u64 ((rd_T37 bc ba).f4)) ∧ w'.cell? ⟨(be.add ((ba).toNat * 7)).block, (be.add ((ba).toNat * 7)).off + 5, none⟩ = some (.int .u64 ((rd_T37 bc ba).f5)) ∧ w'.cell? ⟨(be.add ((ba).toNat * 7)).block, (be.add ((ba).toNat * 7)).off + 6, none⟩ = some (.int .u64 ((rd_T37 bc ba).f6))) (ds := []) #[Ff,Ff,Ff,Ff,Ff,Ff,Ff,Ff,Ff] (by kernel_rfl) rfl rfl ⟨(blk_cell bd.out 0).trans rfl, (blk_cell bd.out 1).trans rfl, (blk_cell bd.out 2).trans rfl, dt, dr, dq, b1, dp, dn, dm⟩ (fun hHeld => ?_); refine with_tabW postroomlaw10_LedgerDone.tab20 postroomlaw10_LedgerDone.bits20 (fun HT_ HW_ => ?_)
    generalize wr.drew = w92 at bb bf bk bd bh bx HB bB bz dt dr dq b1 dp dn dm hHeld ⊢
    refine pp_ 1 (some 107) HT_.out ?_
    refine pp_ 3 (some 109) HT_.out ?_
    refine take_ (i := 0) (N := some 106) (v := ?_) (a' := ?_) #[Tt,Tt,Ff,Tt,Ff,Ff,Ff,Ff,Ff] rfl rfl (take_ofW HT_.out HW_.out (by kernel_rfl)) (fun _ _ _ h => h) (Or.inl ⟨by rfl, ?_⟩) hHeld ?_ ?_
    rotate_left
    ·rintro w' ⟨s0, s1, s2, s3, s4, s5, s6, s7, s8, s9⟩
     go_simp
     with_reducible rfl
    rotate_left
    ·simp only [Act.put, List.setIfInBounds_toArray, List.set_cons_zero, List.set_cons_succ, i64_w, i32_w]
     rfl
    refine take_ (i := 2) (N := some 108) (v := ?_) (a' := ?_) #[Tt,Tt,Tt,Tt,Ff,Ff,Ff,Ff,Ff] rfl rfl (take_ofW HT_.out HW_.out (by kernel_rfl)) (fun _ _ _ h => h) (Or.inl ⟨by rfl, ?_⟩) hHeld ?_ ?_
    rotate_left
    ·rintro w' ⟨s0, s1, s2, s3, s4, s5, s6, s7, s8, s9⟩
     go_simp
     with_reducible rfl
    rotate_left
    ·simp only [Act.put, List.setIfInBounds_toArray, List.set_cons_zero, List.set_cons_succ, i64_w, i32_w]
     rfl
    refine pp_ 4 (some 110) HT_.out ?_
    refine pp_ 5 (some 111) HT_.out ?_
    refine take_ (i := 6) (N := some 112) (v := ?_) (a' := ?_) #[Tt,Tt,Tt,Tt,Tt,Tt,Tt,Ff,Ff] rfl rfl (take_ofW HT_.out HW_.out (by kernel_rfl)) (fun _ _ _ h => h) (Or.inl ⟨by rfl, ?_⟩) hHeld ?_ ?_
    rotate_left
    ·rintro w' ⟨s0, s1, s2, s3, s4, s5, s6, s7, s8, s9⟩
     go_simp
     with_reducible rfl
    rotate_left
    ·simp only [Act.put, List.setIfInBounds_toArray, List.set_cons_zero, List.set_cons_succ, i64_w, i32_w]
     rfl
    refine one_ (i := 7) (N := some 113) #[Tt,Tt,Tt,Tt,Tt,Tt,Tt,Tt,Ff] rfl rfl (one_of HT_.out (by kernel_rfl)) (by decide) (fun K hK => ?_)
    refine goes_ Tryd.func18 (by kernel_rfl) rfl #[.agg #[.int .u64 bl, .int .u64 bm, .slice (some be) bc.length bD], .string ((rd_T37 bc ba).f0)] (by rfl) rfl rfl zx26_0 ?_
    with_reducible refine (ledger_Pending.calls k2 bl bm _ _ bc ((rd_T37 bc ba).f0) de _ ?side1 ?side2 A68.out).mono ?_
    (case side1 => repeat (first | exact (Kd.V_reads' bb.out).2.2 | (with_reducible refine Kd.C_alloc ?_ _) | (with_reducible refine Kd.C_drewN ?_ _) | (with_reducible refine Kd.C_drew ?_)))
    (case side2 => exact (Kd.V_reads' bb.out).2.1)
    rintro e w93 ⟨q1, rfl, ho0, hb⟩
    have oE := (hb.cell (World.block_lt_of_cell? _ _ (hHeld.2.2.2.1))).trans (hHeld.2.2.2.1)
    have oD := (hb.cell (World.block_lt_of_cell? _ _ (hHeld.2.2.2.2.1))).trans (hHeld.2.2.2.2.1)
    have oC := (hb.cell (World.block_lt_of_cell? _ _ (hHeld.2.2.2.2.2.1))).trans (hHeld.2.2.2.2.2.1)
    have gE := (hb.cell (World.block_lt_of_cell? _ _ (hHeld.2.2.2.2.2.2.1))).trans (hHeld.2.2.2.2.2.2.1)
    have gD := (hb.cell (World.block_lt_of_cell? _ _ (hHeld.2.2.2.2.2.2.2.1))).trans (hHeld.2.2.2.2.2.2.2.1)
    have gC := (hb.cell (World.block_lt_of_cell? _ _ (hHeld.2.2.2.2.2.2.2.2.1))).trans (hHeld.2.2.2.2.2.2.2.2.1)
    have gB := (hb.cell (World.block_lt_of_cell? _ _ (hHeld.2.2.2.2.2.2.2.2.2))).trans (hHeld.2.2.2.2.2.2.2.2.2)
    refine ⟨_, rfl, ?_⟩
    replace bb := Aside0.mk (Kd.V_elder' zx26_8 (Kd.R_base ho0) hb)
    replace bf := Aside0.mk (Kd.V_elder' zx26_13 (Kd.R_base ho0) hb)
    replace bk := Aside0.mk (Kd.V_elder' zx26_14 (Kd.R_base ho0) hb)
    replace bB := Aside0.mk (Kd.V_elder' zx26_15 (Kd.R_base ho0) hb)
    have bH := Aside0.mk (Kd.R_lower ho0 (below_size zx26_1))
    replace bd := Aside0.mk (blk_below (g := bg) (o := .cells #[.int .u64 bl, .int .u64 bm, .slice (some be) bc.length bD] 27 (0, 0)) zx26_2 hb)
    replace bh := Aside0.mk (blk_below (g := bj) (o := .cells #[.int .u64 br, .int .u64 bw, .slice bK bi.length bI] 27 (0, 0)) zx26_6 hb)
    replace bx := Aside0.mk (blk_below (g := bA) (o := .cells #[.int .u64 dB, .int .u64 dE, .slice dX dA.length dW] 27 (0, 0)) zx26_11 hb)
    replace bz := Aside0.mk (Kd.C_below zx26_10 hb)
    replace HB := Aside0.mk (below_step zx26_1 hb)
    (try clear hb)
    (try clear hb2)
    (try clear hk)
    (try clear hi)
    (try clear ho0)
    refine hK.out _ _ ⟨(blk_cell bd.out 0).trans rfl, (blk_cell bd.out 1).trans rfl, (blk_cell bd.out 2).trans rfl, oE, oD, oC, gE, gD, gC, gB⟩ (fun hHeld => ?_)
    clear hK K
    refine norm_ (a' := ?_) ?_ ?_
    rotate_left
    ·show Act.put _ (some 113) _ = _
     simp only [Act.put, List.setIfInBounds_toArray, List.set_cons_zero, List.set_cons_succ, i64_w, i32_w]
     rfl
    refine pp_ 8 (some 20) HT_.out ?_
    refine done_ (done_of HT_.out (by kernel_rfl)) ?_
    try go_wp2
    replace bb := Aside0.mk (Kd.V_drew bb.out)
    replace bf := Aside0.mk (Kd.V_drew bf.out)
    replace bk := Aside0.mk (Kd.V_drew bk.out)
    replace bB := Aside0.mk (Kd.V_drew bB.out)
    replace bH := Aside0.mk (Kd.R_drew bH.out)
    replace bd := Aside0.mk (blk_drew bd.out)
    replace bh := Aside0.mk (blk_drew bh.out)
    replace bx := Aside0.mk (blk_drew bx.out)
    replace bz := Aside0.mk (Kd.C_drew bz.out)
    replace HB := Aside0.mk (below_drew1 HB.out)
    have ge : 0 ≤ (ba : Int) := of_decide_eq_true zx26_3
    have ga : ba < (bc.length : Int) := of_decide_eq_true zx26_3
    obtain ⟨jF, gG, gz, ow, dl, dk, dj, b0, di, dh, dg, dv, dy⟩ := at_T37 (Kd.V_reads' bb.out).2.2 ba ge ga
    obtain rfl : be = jF := (by injection ow)
    obtain ⟨oR, gt, gw, dU⟩ := Kd.V_get bb.out z37 ba ge (by first | exact ga | exact of_decide_eq_true zx26_3 | (have e_ := (Kd.V_reads' bb.out).1; omega))
    obtain ⟨jP, jM, rfl, bX, b3⟩ := k37_openF gw
    have bN := dU 3 _ rfl
    rw [add_field _ _ 3 (by omega)] at bN
    replace bN := Option.some.inj (bN.symm.trans b0)
    injection bN with hva_ hvn_ hvc_
    rw [hva_] at b3
    rw [hvc_] at bX
    have bG := Aside0.mk (show Kd.V (Kd.int .u64) 24 _ w.heap.size _ _ ((rd_T37 bc ba).f3) from Kd.V_mk bX b3)
    clear hva_ hvn_ hvc_ b3 bX
    clear dU gt
    have bC := Aside0.mk dy
    have ob := Aside0.mk dv
    clear dy dv
    replace ge := eq_true ge
    replace ga := eq_true ga
    refine start_ (n := 9) (S := fun w' => w'.cell? ⟨bj, 0, none⟩ = some (.int .u64 br) ∧ w'.cell? ⟨bj, 1, none⟩ = some (.int .u64 bw) ∧ w'.cell? ⟨bj, 2, none⟩ = some (.slice bK bi.length bI) ∧ w'.cell? ⟨bg, 0, none⟩ = some (.int .u64 bl) ∧ w'.cell? ⟨bg, 1, none⟩ = some (.int .u64 bm) ∧ w'.cell? ⟨bg, 2, none⟩ = some (.slice (some be) bc.length bD) ∧ w'.cell? (be.add ((ba).toNat * 7)) = some (.string ((rd_T37 bc ba).f0)) ∧ w'.cell? ⟨(be.add ((ba).toNat * 7)).block, (be.add ((ba).toNat * 7)).off + 1, none⟩ = some (.int .u64 ((rd_T37 bc ba).f1)) ∧ w'.cell? ⟨(be.add ((ba).toNat * 7)).block, (be.add ((ba).toNat * 7)).off + 2, none⟩ = some (.int .u64 ((rd_T37 bc ba).f2)) ∧ w'.cell? ⟨(be.add ((ba).toNat * 7)).block, (be.add ((ba).toNat * 7)).off + 3, none⟩ = some (.slice gG ((rd_T37 bc ba).f3).length gz) ∧ w'.cell? ⟨(be.add ((ba).toNat * 7)).block, (be.add ((ba).toNat * 7)).off + 4, none⟩ = some (.int .u64 ((rd_T37 bc ba).f4)) ∧ w'.cell? ⟨(be.add ((ba).toNat * 7)).block, (be.add ((ba).toNat * 7)).off + 5, none⟩ = some (.int .u64 ((rd_T37 bc ba).f5)) ∧ w'.cell? ⟨(be.add ((ba).toNat * 7)).block, (be.add ((ba).toNat * 7)).off + 6, none⟩ = some (.int .u64 ((rd_T37 bc ba).f6))) (ds := []) #[Ff,Ff,Ff,Ff,Ff,Ff,Ff,Ff,Ff] (by kernel_rfl) rfl rfl ⟨(blk_cell bh.out 0).trans rfl, (blk_cell bh.out 1).trans rfl, (blk_cell bh.out 2).trans rfl, (blk_cell bd.out 0).trans rfl, (blk_cell bd.out 1).trans rfl, (blk_cell bd.out 2).trans rfl, dl, dk, dj, b0, di, dh, dg⟩ (fun hHeld => ?_); refine with_tabW postroomlaw10_LedgerDone.tab21 postroomlaw10_LedgerDone.bits21 (fun HT_ HW_ => ?_)
    generalize w93.drew = w94 at bb bf bk bB bH bd bh bx bz HB bG bC dl dk dj b0 di dh dg hHeld ⊢
    refine pp_ 1 (some 115) HT_.out ?_
    refine pp_ 3 (some 117) HT_.out ?_
    refine take_ (i := 0) (N := some 114) (v := ?_) (a' := ?_) #[Tt,Tt,Ff,Tt,Ff,Ff,Ff,Ff,Ff] rfl rfl (take_ofW HT_.out HW_.out (by kernel_rfl)) (fun _ _ _ h => h) (Or.inl ⟨by rfl, ?_⟩) hHeld ?_ ?_
    rotate_left
    ·rintro w' ⟨s0, s1, s2, s3, s4, s5, s6, s7, s8, s9, s10, s11, s12⟩
     go_simp
     with_reducible rfl
    rotate_left
    ·simp only [Act.put, List.setIfInBounds_toArray, List.set_cons_zero, List.set_cons_succ, i64_w, i32_w]
     rfl
    refine take_ (i := 2) (N := some 116) (v := ?_) (a' := ?_) #[Tt,Tt,Tt,Tt,Ff,Ff,Ff,Ff,Ff] rfl rfl (take_ofW HT_.out HW_.out (by kernel_rfl)) (fun _ _ _ h => h) (Or.inl ⟨by rfl, ?_⟩) hHeld ?_ ?_
    rotate_left
    ·rintro w' ⟨s0, s1, s2, s3, s4, s5, s6, s7, s8, s9, s10, s11, s12⟩
     go_simp
     with_reducible rfl
    rotate_left
    ·simp only [Act.put, List.setIfInBounds_toArray, List.set_cons_zero, List.set_cons_succ, i64_w, i32_w]
     rfl
    refine pp_ 4 (some 118) HT_.out ?_
    refine pp_ 5 (some 119) HT_.out ?_
    refine take_ (i := 6) (N := some 120) (v := ?_) (a' := ?_) #[Tt,Tt,Tt,Tt,Tt,Tt,Tt,Ff,Ff] rfl rfl (take_ofW HT_.out HW_.out (by kernel_rfl)) (fun _ _ _ h => h) (Or.inl ⟨by rfl, ?_⟩) hHeld ?_ ?_
    rotate_left
    ·rintro w' ⟨s0, s1, s2, s3, s4, s5, s6, s7, s8, s9, s10, s11, s12⟩
     go_simp
     with_reducible rfl
    rotate_left
    ·simp only [Act.put, List.setIfInBounds_toArray, List.set_cons_zero, List.set_cons_succ, i64_w, i32_w]
     rfl
    refine one_ (i := 7) (N := some 121) #[Tt,Tt,Tt,Tt,Tt,Tt,Tt,Tt,Ff] rfl rfl (one_of HT_.out (by kernel_rfl)) (by decide) (fun K hK => ?_)
    refine goes_ Tryd.func18 (by kernel_rfl) rfl #[.agg #[.int .u64 br, .int .u64 bw, .slice bK bi.length bI], .string ((rd_T37 bc ba).f0)] (by rfl) rfl rfl zx26_0 ?_
    with_reducible refine (ledger_Pending.calls k2 br bw _ _ bi ((rd_T37 bc ba).f0) dd _ ?side1 ?side2 A69.out).mono ?_
    (case side1 => repeat (first | exact (Kd.V_reads' bf.out).2.2 | (with_reducible refine Kd.C_alloc ?_ _) | (with_reducible refine Kd.C_drewN ?_ _) | (with_reducible refine Kd.C_drew ?_)))
    (case side2 => exact (Kd.V_reads' bf.out).2.1)
    rintro e w95 ⟨q0, rfl, ho0, hb⟩
    have gE := (hb.cell (World.block_lt_of_cell? _ _ (hHeld.2.2.2.2.2.2.1))).trans (hHeld.2.2.2.2.2.2.1)
    have gD := (hb.cell (World.block_lt_of_cell? _ _ (hHeld.2.2.2.2.2.2.2.1))).trans (hHeld.2.2.2.2.2.2.2.1)
    have gC := (hb.cell (World.block_lt_of_cell? _ _ (hHeld.2.2.2.2.2.2.2.2.1))).trans (hHeld.2.2.2.2.2.2.2.2.1)
    have gB := (hb.cell (World.block_lt_of_cell? _ _ (hHeld.2.2.2.2.2.2.2.2.2.1))).trans (hHeld.2.2.2.2.2.2.2.2.2.1)
    have jI := (hb.cell (World.block_lt_of_cell? _ _ (hHeld.2.2.2.2.2.2.2.2.2.2.1))).trans (hHeld.2.2.2.2.2.2.2.2.2.2.1)
    have jH := (hb.cell (World.block_lt_of_cell? _ _ (hHeld.2.2.2.2.2.2.2.2.2.2.2.1))).trans (hHeld.2.2.2.2.2.2.2.2.2.2.2.1)
    have jG := (hb.cell (World.block_lt_of_cell? _ _ (hHeld.2.2.2.2.2.2.2.2.2.2.2.2))).trans (hHeld.2.2.2.2.2.2.2.2.2.2.2.2)
    refine ⟨_, rfl, ?_⟩
    replace bb := Aside0.mk (Kd.V_elder' zx26_8 (Kd.R_base ho0) hb)
    replace bf := Aside0.mk (Kd.V_elder' zx26_13 (Kd.R_base ho0) hb)
    replace bk := Aside0.mk (Kd.V_elder' zx26_14 (Kd.R_base ho0) hb)
    replace bB := Aside0.mk (Kd.V_elder' zx26_15 (Kd.R_base ho0) hb)
    replace bG := Aside0.mk (Kd.V_elder' (by (with_reducible repeat (first | apply Kd.V_alloc | apply Kd.V_drewN | apply Kd.V_drew)); exact bG.out) (Kd.R_base ho0) hb)
    have b9 := Aside0.mk (Kd.R_lower (Kd.R_new' ho0 (Kd.R_lt zx26_18)) (below_size zx26_1))
    replace bH := Aside0.mk (Kd.R_elder' zx26_18 (Kd.R_base ho0) hb)
    replace bd := Aside0.mk (blk_below (g := bg) (o := .cells #[.int .u64 bl, .int .u64 bm, .slice (some be) bc.length bD] 27 (0, 0)) zx26_2 hb)
    replace bh := Aside0.mk (blk_below (g := bj) (o := .cells #[.int .u64 br, .int .u64 bw, .slice bK bi.length bI] 27 (0, 0)) zx26_6 hb)
    replace bx := Aside0.mk (blk_below (g := bA) (o := .cells #[.int .u64 dB, .int .u64 dE, .slice dX dA.length dW] 27 (0, 0)) zx26_11 hb)
    replace bz := Aside0.mk (Kd.C_below zx26_10 hb)
    replace bC := Aside0.mk (Kd.C_below (by repeat (first | (with_reducible exact bC.out) | (with_reducible refine Kd.C_alloc ?_ _) | (with_reducible refine Kd.C_drewN ?_ _) | (with_reducible refine Kd.C_drew ?_) | exact bC.out)) hb)
    replace HB := Aside0.mk (below_step zx26_1 hb)
    (try clear hb)
    (try clear hb2)
    (try clear hk)
    (try clear hi)
    (try clear ho0)
    refine hK.out _ _ ⟨(blk_cell bh.out 0).trans rfl, (blk_cell bh.out 1).trans rfl, (blk_cell bh.out 2).trans rfl, (blk_cell bd.out 0).trans rfl, (blk_cell bd.out 1).trans rfl, (blk_cell bd.out 2).trans rfl, gE, gD, gC, gB, jI, jH, jG⟩ (fun hHeld => ?_)
    clear hK K
    refine norm_ (a' := ?_) ?_ ?_
    rotate_left
    ·show Act.put _ (some 121) _ = _
     simp only [Act.put, List.setIfInBounds_toArray, List.set_cons_zero, List.set_cons_succ, i64_w, i32_w]
     rfl
    refine pp_ 8 (some 21) HT_.out ?_
    refine done_ (done_of HT_.out (by kernel_rfl)) ?_
    obtain ⟨qK, qJ, qI, qy, qx, qw⟩ := cx26_bc3 bd.out
    have gc : 0 ≤ (ba : Int) := of_decide_eq_true zx26_3
    have d9 : ba < (bc.length : Int) := of_decide_eq_true zx26_3
    obtain ⟨jE, oH, oB, ov, ma, j9, j8, gh, j7, j6, j5, du, dx⟩ := at_T37 (Kd.V_reads' bb.out).2.2 ba gc d9
    obtain rfl : be = jE := (by injection ov)
    obtain ⟨oQ, gs, gv, dT⟩ := Kd.V_get bb.out z37 ba gc (by first | exact d9 | exact of_decide_eq_true zx26_3 | (have e_ := (Kd.V_reads' bb.out).1; omega))
    obtain ⟨jO, jL, rfl, bW, b2⟩ := k37_openF gv
    have bM := dT 3 _ rfl
    rw [add_field _ _ 3 (by omega)] at bM
    replace bM := Option.some.inj (bM.symm.trans gh)
    injection bM with hva_ hvn_ hvc_
    rw [hva_] at b2
    rw [hvc_] at bW
    have b6 := Aside0.mk (show Kd.V (Kd.int .u64) 24 _ w.heap.size _ _ ((rd_T37 bc ba).f3) from Kd.V_mk bW b2)
    clear hva_ hvn_ hvc_ b2 bW
    clear dT gs
    have b5 := Aside0.mk dx
    have oa := Aside0.mk du
    clear dx du
    replace gc := eq_true gc
    replace d9 := eq_true d9
    obtain ⟨su, so, q8⟩ := Kd.R_slice bH.out
    subst q8
    obtain ⟨ss, sn, q7⟩ := Kd.R_slice b9.out
    subst q7
    try go_wp2_with (first | ((with_reducible refine gate_callee (f := 21) rfl ?_); refine goesL_ (some 132) rfl rfl Tryd.func21 (by kernel_rfl) rfl #[.slice su de.length so, .slice ss dd.length sn] rfl zx26_0 ?_; (with_reducible refine (postroomref10_Same.calls k2 _ _ de _ _ dd true _ ?side1 ?side2 ?side3 ?side4 A87.out).mono ?_); (case side1 => repeat (first | exact (Kd.R_reads' bH.out).2.2 | (with_reducible refine Kd.C_alloc ?_ _) | (with_reducible refine Kd.C_drewN ?_ _) | (with_reducible refine Kd.C_drew ?_))); (case side2 => exact (Kd.R_reads' bH.out).2.1); (case side3 => repeat (first | exact (Kd.R_reads' b9.out).2.2 | (with_reducible refine Kd.C_alloc ?_ _) | (with_reducible refine Kd.C_drewN ?_ _) | (with_reducible refine Kd.C_drew ?_))); (case side4 => exact (Kd.R_reads' b9.out).2.1); rintro e w' ⟨rfl, ⟨nd, rfl⟩⟩; refine ⟨_, rfl, ?_⟩))
    go_roundg k2
    case measure => have := m9.out; have := HK2.out; omega
    case rel => exact ⟨(wrap64 (ba + 1)), (by first | rfl | (simp; done) | (simp [*]; done)), H', ⟨by have := m9.out; have := HK2.out; omega⟩, ⟨by (with_reducible repeat (first | apply Kd.V_alloc | apply Kd.V_drewN | apply Kd.V_drew)); exact Kd.V_mono bb.out (fun _ hk => ⟨hk.1.1.1, ⟨hk.1.1.2.1, hk.1.1.2.2⟩⟩)⟩, ⟨by (with_reducible repeat (first | apply Kd.V_alloc | apply Kd.V_drewN | apply Kd.V_drew)); exact Kd.V_mono bf.out (fun _ hk => ⟨hk.1.1.1, ⟨hk.1.1.2.1, hk.1.1.2.2⟩⟩)⟩, ⟨by (with_reducible repeat (first | apply Kd.V_alloc | apply Kd.V_drewN | apply Kd.V_drew)); exact Kd.V_mono bk.out (fun _ hk => ⟨hk.1.1.1, ⟨hk.1.1.2.1, hk.1.1.2.2⟩⟩)⟩, ⟨by (with_reducible repeat (first | refine blk_drewN ?_ _ | refine blk_drew ?_ | refine blk_alloc ?_ _)); exact bd.out⟩, ⟨by (with_reducible repeat (first | refine blk_drewN ?_ _ | refine blk_drew ?_ | refine blk_alloc ?_ _)); exact bh.out⟩, ⟨by (with_reducible repeat (first | refine blk_drewN ?_ _ | refine blk_drew ?_ | refine blk_alloc ?_ _)); exact bx.out⟩, ⟨by repeat (first | (with_reducible first | exact HB.out | apply below_alloc | apply pw_below_drewN | apply below_drew1 | refine below_set ?_ da.out | refine below_set ?_ dZ.out | refine below_set ?_ gr.out) | exact HB.out)⟩⟩
   rw [if_pos c70] at H
   have oU : (((rd_T37 bc ba).f0).toList == bo.toList) = true := beq_iff_eq.mpr c70
   have oT : (((rd_T37 bc ba).f0).toList != bo.toList) = false := bne_eq_false_iff_eq.mpr c70
   clear c70
   by_cases c71 : ba < (bi.length : Int)
   case neg =>
    rw [if_neg c71] at H
    exact absurd H (by simp)
   rw [if_pos c71] at H
   have vb : decide (ba < (bi.length : Int)) = true := decide_eq_true c71
   clear c71
   by_cases c72 : (dd.length : Int) = (wrap64 ((de.length : Int) - 1))
   case neg =>
    rw [if_neg c72] at H
    exact absurd H (by simp)
   rw [if_pos c72] at H
   have va : ((dd.length : Int) == (wrap64 ((de.length : Int) - 1))) = true := beq_iff_eq.mpr c72
   have sZ : ((dd.length : Int) != (wrap64 ((de.length : Int) - 1))) = false := bne_eq_false_iff_eq.mpr c72
   clear c72
   by_cases c73 : (IntKind.u64.wrap (((rd_T37 bi ba).f4) + ((rd_T37 bi ba).f6))) = (IntKind.u64.wrap ((IntKind.u64.wrap (((rd_T37 bc ba).f4) + ((rd_T37 bc ba).f6))) + 1))
   case neg =>
    rw [if_neg c73] at H
    exact absurd H (by simp)
   rw [if_pos c73] at H
   have sY : ((IntKind.u64.wrap (((rd_T37 bi ba).f4) + ((rd_T37 bi ba).f6))) == (IntKind.u64.wrap ((IntKind.u64.wrap (((rd_T37 bc ba).f4) + ((rd_T37 bc ba).f6))) + 1))) = true := beq_iff_eq.mpr c73
   have sX : ((IntKind.u64.wrap (((rd_T37 bi ba).f4) + ((rd_T37 bi ba).f6))) != (IntKind.u64.wrap ((IntKind.u64.wrap (((rd_T37 bc ba).f4) + ((rd_T37 bc ba).f6))) + 1))) = false := bne_eq_false_iff_eq.mpr c73
   clear c73
   by_cases c74 : ((rd_T37 bi ba).f5) = ((rd_T37 bc ba).f5)
   case neg =>
    rw [if_neg c74] at H
    exact absurd H (by simp)
   rw [if_pos c74] at H
   have sW : (((rd_T37 bi ba).f5) == ((rd_T37 bc ba).f5)) = true := beq_iff_eq.mpr c74
   have sV : (((rd_T37 bi ba).f5) != ((rd_T37 bc ba).f5)) = false := bne_eq_false_iff_eq.mpr c74
   clear c74
   have H' := Aside0.mk H
   clear H
   have sL := bU.out
   have sD := dc.out
   have sK := bS.out
   have sC := db.out
   obtain ⟨qT, qS, qR, qH, qG, qF⟩ := cx26_bc3 bd.out
   try go_wp2
   replace bb := Aside0.mk (Kd.V_drew bb.out)
   replace bf := Aside0.mk (Kd.V_drew bf.out)
   replace bk := Aside0.mk (Kd.V_drew bk.out)
   replace bd := Aside0.mk (blk_drew bd.out)
   replace bh := Aside0.mk (blk_drew bh.out)
   replace bx := Aside0.mk (blk_drew bx.out)
   replace HB := Aside0.mk (below_drew1 HB.out)
   have gf : 0 ≤ (ba : Int) := of_decide_eq_true zx26_3
   have gb : ba < (bc.length : Int) := of_decide_eq_true zx26_3
   obtain ⟨be, gH, gA, ox, dt, dr, dq, b1, dp, dn, dm, dw, dz⟩ := at_T37 (Kd.V_reads' bb.out).2.2 ba gf gb
   cases ox
   obtain ⟨oS, gu, gx, dV⟩ := Kd.V_get bb.out z37 ba gf (by first | exact gb | exact of_decide_eq_true zx26_3 | (have e_ := (Kd.V_reads' bb.out).1; omega))
   obtain ⟨jQ, jN, rfl, bY, b4⟩ := k37_openF gx
   have bO := dV 3 _ rfl
   rw [add_field _ _ 3 (by omega)] at bO
   replace bO := Option.some.inj (bO.symm.trans b1)
   injection bO with hva_ hvn_ hvc_
   rw [hva_] at b4
   rw [hvc_] at bY
   have bB := Aside0.mk (show Kd.V (Kd.int .u64) 24 _ w.heap.size _ _ ((rd_T37 bc ba).f3) from Kd.V_mk bY b4)
   clear hva_ hvn_ hvc_ b4 bY
   clear dV gu
   have bz := Aside0.mk dz
   have oc := Aside0.mk dw
   clear dz dw
   replace gf := eq_true gf
   replace gb := eq_true gb
   refine start_ (n := 9) (S := fun w' => w'.cell? ⟨bg, 0, none⟩ = some (.int .u64 bl) ∧ w'.cell? ⟨bg, 1, none⟩ = some (.int .u64 bm) ∧ w'.cell? ⟨bg, 2, none⟩ = some (.slice (some be) bc.length bD) ∧ w'.cell? (be.add ((ba).toNat * 7)) = some (.string ((rd_T37 bc ba).f0)) ∧ w'.cell? ⟨(be.add ((ba).toNat * 7)).block, (be.add ((ba).toNat * 7)).off + 1, none⟩ = some (.int .u64 ((rd_T37 bc ba).f1)) ∧ w'.cell? ⟨(be.add ((ba).toNat * 7)).block, (be.add ((ba).toNat * 7)).off + 2, none⟩ = some (.int .u64 ((rd_T37 bc ba).f2)) ∧ w'.cell? ⟨(be.add ((ba).toNat * 7)).block, (be.add ((ba).toNat * 7)).off + 3, none⟩ = some (.slice gH ((rd_T37 bc ba).f3).length gA) ∧ w'.cell? ⟨(be.add ((ba).toNat * 7)).block, (be.add ((ba).toNat * 7)).off + 4, none⟩ = some (.int .u64 ((rd_T37 bc ba).f4)) ∧ w'.cell? ⟨(be.add ((ba).toNat * 7)).block, (be.add ((ba).toNat * 7)).off + 5, none⟩ = some (.int .u64 ((rd_T37 bc ba).f5)) ∧ w'.cell? ⟨(be.add ((ba).toNat * 7)).block, (be.add ((ba).toNat * 7)).off + 6, none⟩ = some (.int .u64 ((rd_T37 bc ba).f6))) (ds := []) #[Ff,Ff,Ff,Ff,Ff,Ff,Ff,Ff,Ff] (by kernel_rfl) rfl rfl ⟨(blk_cell bd.out 0).trans rfl, (blk_cell bd.out 1).trans rfl, (blk_cell bd.out 2).trans rfl, dt, dr, dq, b1, dp, dn, dm⟩ (fun hHeld => ?_); refine with_tabW postroomlaw10_LedgerDone.tab20 postroomlaw10_LedgerDone.bits20 (fun HT_ HW_ => ?_)
   generalize wr.drew = w78 at bb bf bk bd bh bx HB bB bz dt dr dq b1 dp dn dm hHeld ⊢
   refine pp_ 1 (some 107) HT_.out ?_
   refine pp_ 3 (some 109) HT_.out ?_
   refine take_ (i := 0) (N := some 106) (v := ?_) (a' := ?_) #[Tt,Tt,Ff,Tt,Ff,Ff,Ff,Ff,Ff] rfl rfl (take_ofW HT_.out HW_.out (by kernel_rfl)) (fun _ _ _ h => h) (Or.inl ⟨by rfl, ?_⟩) hHeld ?_ ?_
   rotate_left
   ·rintro w' ⟨s0, s1, s2, s3, s4, s5, s6, s7, s8, s9⟩
    go_simp
    with_reducible rfl
   rotate_left
   ·simp only [Act.put, List.setIfInBounds_toArray, List.set_cons_zero, List.set_cons_succ, i64_w, i32_w]
    rfl
   refine take_ (i := 2) (N := some 108) (v := ?_) (a' := ?_) #[Tt,Tt,Tt,Tt,Ff,Ff,Ff,Ff,Ff] rfl rfl (take_ofW HT_.out HW_.out (by kernel_rfl)) (fun _ _ _ h => h) (Or.inl ⟨by rfl, ?_⟩) hHeld ?_ ?_
   rotate_left
   ·rintro w' ⟨s0, s1, s2, s3, s4, s5, s6, s7, s8, s9⟩
    go_simp
    with_reducible rfl
   rotate_left
   ·simp only [Act.put, List.setIfInBounds_toArray, List.set_cons_zero, List.set_cons_succ, i64_w, i32_w]
    rfl
   refine pp_ 4 (some 110) HT_.out ?_
   refine pp_ 5 (some 111) HT_.out ?_
   refine take_ (i := 6) (N := some 112) (v := ?_) (a' := ?_) #[Tt,Tt,Tt,Tt,Tt,Tt,Tt,Ff,Ff] rfl rfl (take_ofW HT_.out HW_.out (by kernel_rfl)) (fun _ _ _ h => h) (Or.inl ⟨by rfl, ?_⟩) hHeld ?_ ?_
   rotate_left
   ·rintro w' ⟨s0, s1, s2, s3, s4, s5, s6, s7, s8, s9⟩
    go_simp
    with_reducible rfl
   rotate_left
   ·simp only [Act.put, List.setIfInBounds_toArray, List.set_cons_zero, List.set_cons_succ, i64_w, i32_w]
    rfl
   refine one_ (i := 7) (N := some 113) #[Tt,Tt,Tt,Tt,Tt,Tt,Tt,Tt,Ff] rfl rfl (one_of HT_.out (by kernel_rfl)) (by decide) (fun K hK => ?_)
   refine goes_ Tryd.func18 (by kernel_rfl) rfl #[.agg #[.int .u64 bl, .int .u64 bm, .slice (some be) bc.length bD], .string ((rd_T37 bc ba).f0)] (by rfl) rfl rfl zx26_0 ?_
   with_reducible refine (ledger_Pending.calls k2 bl bm _ _ bc ((rd_T37 bc ba).f0) de _ ?side1 ?side2 A68.out).mono ?_
   (case side1 => repeat (first | exact (Kd.V_reads' bb.out).2.2 | (with_reducible refine Kd.C_alloc ?_ _) | (with_reducible refine Kd.C_drewN ?_ _) | (with_reducible refine Kd.C_drew ?_)))
   (case side2 => exact (Kd.V_reads' bb.out).2.1)
   rintro e w79 ⟨q1, rfl, ho0, hb⟩
   have oE := (hb.cell (World.block_lt_of_cell? _ _ (hHeld.2.2.2.1))).trans (hHeld.2.2.2.1)
   have oD := (hb.cell (World.block_lt_of_cell? _ _ (hHeld.2.2.2.2.1))).trans (hHeld.2.2.2.2.1)
   have oC := (hb.cell (World.block_lt_of_cell? _ _ (hHeld.2.2.2.2.2.1))).trans (hHeld.2.2.2.2.2.1)
   have gE := (hb.cell (World.block_lt_of_cell? _ _ (hHeld.2.2.2.2.2.2.1))).trans (hHeld.2.2.2.2.2.2.1)
   have gD := (hb.cell (World.block_lt_of_cell? _ _ (hHeld.2.2.2.2.2.2.2.1))).trans (hHeld.2.2.2.2.2.2.2.1)
   have gC := (hb.cell (World.block_lt_of_cell? _ _ (hHeld.2.2.2.2.2.2.2.2.1))).trans (hHeld.2.2.2.2.2.2.2.2.1)
   have gB := (hb.cell (World.block_lt_of_cell? _ _ (hHeld.2.2.2.2.2.2.2.2.2))).trans (hHeld.2.2.2.2.2.2.2.2.2)
   refine ⟨_, rfl, ?_⟩
   replace bb := Aside0.mk (Kd.V_elder' zx26_8 (Kd.R_base ho0) hb)
   replace bf := Aside0.mk (Kd.V_elder' zx26_13 (Kd.R_base ho0) hb)
   replace bk := Aside0.mk (Kd.V_elder' zx26_14 (Kd.R_base ho0) hb)
   replace bB := Aside0.mk (Kd.V_elder' zx26_15 (Kd.R_base ho0) hb)
   have bH := Aside0.mk (Kd.R_lower ho0 (below_size zx26_1))
   replace bd := Aside0.mk (blk_below (g := bg) (o := .cells #[.int .u64 bl, .int .u64 bm, .slice (some be) bc.length bD] 27 (0, 0)) zx26_2 hb)
   replace bh := Aside0.mk (blk_below (g := bj) (o := .cells #[.int .u64 br, .int .u64 bw, .slice bK bi.length bI] 27 (0, 0)) zx26_6 hb)
   replace bx := Aside0.mk (blk_below (g := bA) (o := .cells #[.int .u64 dB, .int .u64 dE, .slice dX dA.length dW] 27 (0, 0)) zx26_11 hb)
   replace bz := Aside0.mk (Kd.C_below zx26_10 hb)
   replace HB := Aside0.mk (below_step zx26_1 hb)
   (try clear hb)
   (try clear hb2)
   (try clear hk)
   (try clear hi)
   (try clear ho0)
   refine hK.out _ _ ⟨(blk_cell bd.out 0).trans rfl, (blk_cell bd.out 1).trans rfl, (blk_cell bd.out 2).trans rfl, oE, oD, oC, gE, gD, gC, gB⟩ (fun hHeld => ?_)
   clear hK K
   refine norm_ (a' := ?_) ?_ ?_
   rotate_left
   ·show Act.put _ (some 113) _ = _
    simp only [Act.put, List.setIfInBounds_toArray, List.set_cons_zero, List.set_cons_succ, i64_w, i32_w]
    rfl
   refine pp_ 8 (some 20) HT_.out ?_
   refine done_ (done_of HT_.out (by kernel_rfl)) ?_
   try go_wp2
   replace bb := Aside0.mk (Kd.V_drew bb.out)
   replace bf := Aside0.mk (Kd.V_drew bf.out)
   replace bk := Aside0.mk (Kd.V_drew bk.out)
   replace bB := Aside0.mk (Kd.V_drew bB.out)
   replace bH := Aside0.mk (Kd.R_drew bH.out)
   replace bd := Aside0.mk (blk_drew bd.out)
   replace bh := Aside0.mk (blk_drew bh.out)
   replace bx := Aside0.mk (blk_drew bx.out)
   replace bz := Aside0.mk (Kd.C_drew bz.out)
   replace HB := Aside0.mk (below_drew1 HB.out)
   have ge : 0 ≤ (ba : Int) := of_decide_eq_true zx26_3
   have ga : ba < (bc.length : Int) := of_decide_eq_true zx26_3
   obtain ⟨jF, gG, gz, ow, dl, dk, dj, b0, di, dh, dg, dv, dy⟩ := at_T37 (Kd.V_reads' bb.out).2.2 ba ge ga
   obtain rfl : be = jF := (by injection ow)
   obtain ⟨oR, gt, gw, dU⟩ := Kd.V_get bb.out z37 ba ge (by first | exact ga | exact of_decide_eq_true zx26_3 | (have e_ := (Kd.V_reads' bb.out).1; omega))
   obtain ⟨jP, jM, rfl, bX, b3⟩ := k37_openF gw
   have bN := dU 3 _ rfl
   rw [add_field _ _ 3 (by omega)] at bN
   replace bN := Option.some.inj (bN.symm.trans b0)
   injection bN with hva_ hvn_ hvc_
   rw [hva_] at b3
   rw [hvc_] at bX
   have bG := Aside0.mk (show Kd.V (Kd.int .u64) 24 _ w.heap.size _ _ ((rd_T37 bc ba).f3) from Kd.V_mk bX b3)
   clear hva_ hvn_ hvc_ b3 bX
   clear dU gt
   have bC := Aside0.mk dy
   have ob := Aside0.mk dv
   clear dy dv
   replace ge := eq_true ge
   replace ga := eq_true ga
   refine start_ (n := 9) (S := fun w' => w'.cell? ⟨bj, 0, none⟩ = some (.int .u64 br) ∧ w'.cell? ⟨bj, 1, none⟩ = some (.int .u64 bw) ∧ w'.cell? ⟨bj, 2, none⟩ = some (.slice bK bi.length bI) ∧ w'.cell? ⟨bg, 0, none⟩ = some (.int .u64 bl) ∧ w'.cell? ⟨bg, 1, none⟩ = some (.int .u64 bm) ∧ w'.cell? ⟨bg, 2, none⟩ = some (.slice (some be) bc.length bD) ∧ w'.cell? (be.add ((ba).toNat * 7)) = some (.string ((rd_T37 bc ba).f0)) ∧ w'.cell? ⟨(be.add ((ba).toNat * 7)).block, (be.add ((ba).toNat * 7)).off + 1, none⟩ = some (.int .u64 ((rd_T37 bc ba).f1)) ∧ w'.cell? ⟨(be.add ((ba).toNat * 7)).block, (be.add ((ba).toNat * 7)).off + 2, none⟩ = some (.int .u64 ((rd_T37 bc ba).f2)) ∧ w'.cell? ⟨(be.add ((ba).toNat * 7)).block, (be.add ((ba).toNat * 7)).off + 3, none⟩ = some (.slice gG ((rd_T37 bc ba).f3).length gz) ∧ w'.cell? ⟨(be.add ((ba).toNat * 7)).block, (be.add ((ba).toNat * 7)).off + 4, none⟩ = some (.int .u64 ((rd_T37 bc ba).f4)) ∧ w'.cell? ⟨(be.add ((ba).toNat * 7)).block, (be.add ((ba).toNat * 7)).off + 5, none⟩ = some (.int .u64 ((rd_T37 bc ba).f5)) ∧ w'.cell? ⟨(be.add ((ba).toNat * 7)).block, (be.add ((ba).toNat * 7)).off + 6, none⟩ = some (.int .u64 ((rd_T37 bc ba).f6))) (ds := []) #[Ff,Ff,Ff,Ff,Ff,Ff,Ff,Ff,Ff] (by kernel_rfl) rfl rfl ⟨(blk_cell bh.out 0).trans rfl, (blk_cell bh.out 1).trans rfl, (blk_cell bh.out 2).trans rfl, (blk_cell bd.out 0).trans rfl, (blk_cell bd.out 1).trans rfl, (blk_cell bd.out 2).trans rfl, dl, dk, dj, b0, di, dh, dg⟩ (fun hHeld => ?_); refine with_tabW postroomlaw10_LedgerDone.tab21 postroomlaw10_LedgerDone.bits21 (fun HT_ HW_ => ?_)
   generalize w79.drew = w80 at bb bf bk bB bH bd bh bx bz HB bG bC dl dk dj b0 di dh dg hHeld ⊢
   refine pp_ 1 (some 115) HT_.out ?_
   refine pp_ 3 (some 117) HT_.out ?_
   refine take_ (i := 0) (N := some 114) (v := ?_) (a' := ?_) #[Tt,Tt,Ff,Tt,Ff,Ff,Ff,Ff,Ff] rfl rfl (take_ofW HT_.out HW_.out (by kernel_rfl)) (fun _ _ _ h => h) (Or.inl ⟨by rfl, ?_⟩) hHeld ?_ ?_
   rotate_left
   ·rintro w' ⟨s0, s1, s2, s3, s4, s5, s6, s7, s8, s9, s10, s11, s12⟩
    go_simp
    with_reducible rfl
   rotate_left
   ·simp only [Act.put, List.setIfInBounds_toArray, List.set_cons_zero, List.set_cons_succ, i64_w, i32_w]
    rfl
   refine take_ (i := 2) (N := some 116) (v := ?_) (a' := ?_) #[Tt,Tt,Tt,Tt,Ff,Ff,Ff,Ff,Ff] rfl rfl (take_ofW HT_.out HW_.out (by kernel_rfl)) (fun _ _ _ h => h) (Or.inl ⟨by rfl, ?_⟩) hHeld ?_ ?_
   rotate_left
   ·rintro w' ⟨s0, s1, s2, s3, s4, s5, s6, s7, s8, s9, s10, s11, s12⟩
    go_simp
    with_reducible rfl
   rotate_left
   ·simp only [Act.put, List.setIfInBounds_toArray, List.set_cons_zero, List.set_cons_succ, i64_w, i32_w]
    rfl
   refine pp_ 4 (some 118) HT_.out ?_
   refine pp_ 5 (some 119) HT_.out ?_
   refine take_ (i := 6) (N := some 120) (v := ?_) (a' := ?_) #[Tt,Tt,Tt,Tt,Tt,Tt,Tt,Ff,Ff] rfl rfl (take_ofW HT_.out HW_.out (by kernel_rfl)) (fun _ _ _ h => h) (Or.inl ⟨by rfl, ?_⟩) hHeld ?_ ?_
   rotate_left
   ·rintro w' ⟨s0, s1, s2, s3, s4, s5, s6, s7, s8, s9, s10, s11, s12⟩
    go_simp
    with_reducible rfl
   rotate_left
   ·simp only [Act.put, List.setIfInBounds_toArray, List.set_cons_zero, List.set_cons_succ, i64_w, i32_w]
    rfl
   refine one_ (i := 7) (N := some 121) #[Tt,Tt,Tt,Tt,Tt,Tt,Tt,Tt,Ff] rfl rfl (one_of HT_.out (by kernel_rfl)) (by decide) (fun K hK => ?_)
   refine goes_ Tryd.func18 (by kernel_rfl) rfl #[.agg #[.int .u64 br, .int .u64 bw, .slice bK bi.length bI], .string ((rd_T37 bc ba).f0)] (by rfl) rfl rfl zx26_0 ?_
   with_reducible refine (ledger_Pending.calls k2 br bw _ _ bi ((rd_T37 bc ba).f0) dd _ ?side1 ?side2 A69.out).mono ?_
   (case side1 => repeat (first | exact (Kd.V_reads' bf.out).2.2 | (with_reducible refine Kd.C_alloc ?_ _) | (with_reducible refine Kd.C_drewN ?_ _) | (with_reducible refine Kd.C_drew ?_)))
   (case side2 => exact (Kd.V_reads' bf.out).2.1)
   rintro e w81 ⟨q0, rfl, ho0, hb⟩
   have gE := (hb.cell (World.block_lt_of_cell? _ _ (hHeld.2.2.2.2.2.2.1))).trans (hHeld.2.2.2.2.2.2.1)
   have gD := (hb.cell (World.block_lt_of_cell? _ _ (hHeld.2.2.2.2.2.2.2.1))).trans (hHeld.2.2.2.2.2.2.2.1)
   have gC := (hb.cell (World.block_lt_of_cell? _ _ (hHeld.2.2.2.2.2.2.2.2.1))).trans (hHeld.2.2.2.2.2.2.2.2.1)
   have gB := (hb.cell (World.block_lt_of_cell? _ _ (hHeld.2.2.2.2.2.2.2.2.2.1))).trans (hHeld.2.2.2.2.2.2.2.2.2.1)
   have jI := (hb.cell (World.block_lt_of_cell? _ _ (hHeld.2.2.2.2.2.2.2.2.2.2.1))).trans (hHeld.2.2.2.2.2.2.2.2.2.2.1)
   have jH := (hb.cell (World.block_lt_of_cell? _ _ (hHeld.2.2.2.2.2.2.2.2.2.2.2.1))).trans (hHeld.2.2.2.2.2.2.2.2.2.2.2.1)
   have jG := (hb.cell (World.block_lt_of_cell? _ _ (hHeld.2.2.2.2.2.2.2.2.2.2.2.2))).trans (hHeld.2.2.2.2.2.2.2.2.2.2.2.2)
   refine ⟨_, rfl, ?_⟩
   replace bb := Aside0.mk (Kd.V_elder' zx26_8 (Kd.R_base ho0) hb)
   replace bf := Aside0.mk (Kd.V_elder' zx26_13 (Kd.R_base ho0) hb)
   replace bk := Aside0.mk (Kd.V_elder' zx26_14 (Kd.R_base ho0) hb)
   replace bB := Aside0.mk (Kd.V_elder' zx26_15 (Kd.R_base ho0) hb)
   replace bG := Aside0.mk (Kd.V_elder' (by (with_reducible repeat (first | apply Kd.V_alloc | apply Kd.V_drewN | apply Kd.V_drew)); exact bG.out) (Kd.R_base ho0) hb)
   have b9 := Aside0.mk (Kd.R_lower (Kd.R_new' ho0 (Kd.R_lt zx26_18)) (below_size zx26_1))
   replace bH := Aside0.mk (Kd.R_elder' zx26_18 (Kd.R_base ho0) hb)
   replace bd := Aside0.mk (blk_below (g := bg) (o := .cells #[.int .u64 bl, .int .u64 bm, .slice (some be) bc.length bD] 27 (0, 0)) zx26_2 hb)
   replace bh := Aside0.mk (blk_below (g := bj) (o := .cells #[.int .u64 br, .int .u64 bw, .slice bK bi.length bI] 27 (0, 0)) zx26_6 hb)
   replace bx := Aside0.mk (blk_below (g := bA) (o := .cells #[.int .u64 dB, .int .u64 dE, .slice dX dA.length dW] 27 (0, 0)) zx26_11 hb)
   replace bz := Aside0.mk (Kd.C_below zx26_10 hb)
   replace bC := Aside0.mk (Kd.C_below (by repeat (first | (with_reducible exact bC.out) | (with_reducible refine Kd.C_alloc ?_ _) | (with_reducible refine Kd.C_drewN ?_ _) | (with_reducible refine Kd.C_drew ?_) | exact bC.out)) hb)
   replace HB := Aside0.mk (below_step zx26_1 hb)
   (try clear hb)
   (try clear hb2)
   (try clear hk)
   (try clear hi)
   (try clear ho0)
   refine hK.out _ _ ⟨(blk_cell bh.out 0).trans rfl, (blk_cell bh.out 1).trans rfl, (blk_cell bh.out 2).trans rfl, (blk_cell bd.out 0).trans rfl, (blk_cell bd.out 1).trans rfl, (blk_cell bd.out 2).trans rfl, gE, gD, gC, gB, jI, jH, jG⟩ (fun hHeld => ?_)
   clear hK K
   refine norm_ (a' := ?_) ?_ ?_
   rotate_left
   ·show Act.put _ (some 121) _ = _
    simp only [Act.put, List.setIfInBounds_toArray, List.set_cons_zero, List.set_cons_succ, i64_w, i32_w]
    rfl
   refine pp_ 8 (some 21) HT_.out ?_
   refine done_ (done_of HT_.out (by kernel_rfl)) ?_
   obtain ⟨qQ, qP, qO, qE, qD, qC⟩ := cx26_bc3 bd.out
   have gc : 0 ≤ (ba : Int) := of_decide_eq_true zx26_3
   have d9 : ba < (bc.length : Int) := of_decide_eq_true zx26_3
   obtain ⟨jE, oH, oB, ov, ma, j9, j8, gh, j7, j6, j5, du, dx⟩ := at_T37 (Kd.V_reads' bb.out).2.2 ba gc d9
   obtain rfl : be = jE := (by injection ov)
   obtain ⟨oQ, gs, gv, dT⟩ := Kd.V_get bb.out z37 ba gc (by first | exact d9 | exact of_decide_eq_true zx26_3 | (have e_ := (Kd.V_reads' bb.out).1; omega))
   obtain ⟨jO, jL, rfl, bW, b2⟩ := k37_openF gv
   have bM := dT 3 _ rfl
   rw [add_field _ _ 3 (by omega)] at bM
   replace bM := Option.some.inj (bM.symm.trans gh)
   injection bM with hva_ hvn_ hvc_
   rw [hva_] at b2
   rw [hvc_] at bW
   have b6 := Aside0.mk (show Kd.V (Kd.int .u64) 24 _ w.heap.size _ _ ((rd_T37 bc ba).f3) from Kd.V_mk bW b2)
   clear hva_ hvn_ hvc_ b2 bW
   clear dT gs
   have b5 := Aside0.mk dx
   have oa := Aside0.mk du
   clear dx du
   replace gc := eq_true gc
   replace d9 := eq_true d9
   try go_wp2
   replace bb := Aside0.mk (Kd.V_drew bb.out)
   replace bf := Aside0.mk (Kd.V_drew bf.out)
   replace bk := Aside0.mk (Kd.V_drew bk.out)
   replace bB := Aside0.mk (Kd.V_drew bB.out)
   replace bH := Aside0.mk (Kd.R_drew bH.out)
   replace bG := Aside0.mk (Kd.V_drew bG.out)
   replace b9 := Aside0.mk (Kd.R_drew b9.out)
   replace b6 := Aside0.mk (Kd.V_drew b6.out)
   replace bd := Aside0.mk (blk_drew bd.out)
   replace bh := Aside0.mk (blk_drew bh.out)
   replace bx := Aside0.mk (blk_drew bx.out)
   replace bz := Aside0.mk (Kd.C_drew bz.out)
   replace bC := Aside0.mk (Kd.C_drew bC.out)
   replace b5 := Aside0.mk (Kd.C_drew b5.out)
   replace HB := Aside0.mk (below_drew1 HB.out)
   have j4 : 0 ≤ (ba : Int) := of_decide_eq_true zx26_3
   have jW : ba < (bi.length : Int) := of_decide_eq_true zx26_3
   obtain ⟨bp, jK, jA, sk, hA, hz, hy, dI, hx, hv, hu, hH, hO⟩ := at_T37 (Kd.V_reads' bf.out).2.2 ba j4 jW
   cases sk
   obtain ⟨sU, on, ou, jy⟩ := Kd.V_get bf.out z37 ba j4 (by first | exact jW | exact of_decide_eq_true zx26_3 | (have e_ := (Kd.V_reads' bf.out).1; omega))
   obtain ⟨qv, qp, rfl, d7, go⟩ := k37_openF ou
   have dO := jy 3 _ rfl
   rw [add_field _ _ 3 (by omega)] at dO
   replace dO := Option.some.inj (dO.symm.trans dI)
   injection dO with hva_ hvn_ hvc_
   rw [hva_] at go
   rw [hvc_] at d7
   have dS := Aside0.mk (show Kd.V (Kd.int .u64) 24 _ w.heap.size _ _ ((rd_T37 bi ba).f3) from Kd.V_mk d7 go)
   clear hva_ hvn_ hvc_ go d7
   clear jy on
   have dQ := Aside0.mk hO
   have qZ := Aside0.mk hH
   clear hO hH
   replace j4 := eq_true j4
   replace jW := eq_true jW
   have j3 : 0 ≤ (ba : Int) := of_decide_eq_true zx26_3
   have jV : ba < (bi.length : Int) := of_decide_eq_true zx26_3
   obtain ⟨o8, sx, sr, sj, ht, hs, hq, dH, hp, hm, hl, hG, hN⟩ := at_T37 (Kd.V_reads' bf.out).2.2 ba j3 jV
   obtain rfl : bp = o8 := (by injection sj)
   obtain ⟨sT, om, ot, jx⟩ := Kd.V_get bf.out z37 ba j3 (by first | exact jV | exact of_decide_eq_true zx26_3 | (have e_ := (Kd.V_reads' bf.out).1; omega))
   obtain ⟨qu, qo, rfl, d6, gn⟩ := k37_openF ot
   have dN := jx 3 _ rfl
   rw [add_field _ _ 3 (by omega)] at dN
   replace dN := Option.some.inj (dN.symm.trans dH)
   injection dN with hva_ hvn_ hvc_
   rw [hva_] at gn
   rw [hvc_] at d6
   have dR := Aside0.mk (show Kd.V (Kd.int .u64) 24 _ w.heap.size _ _ ((rd_T37 bi ba).f3) from Kd.V_mk d6 gn)
   clear hva_ hvn_ hvc_ gn d6
   clear jx om
   have dP := Aside0.mk hN
   have qY := Aside0.mk hG
   clear hN hG
   replace j3 := eq_true j3
   replace jV := eq_true jV
   have ea_ := Option.some.inj (dI.symm.trans dH)
   injection ea_ with ea_ en_ ec_
   subst ea_
   subst ec_
   clear en_
   refine start_ (n := 14) (S := fun w' => w'.cell? ⟨bj, 0, none⟩ = some (.int .u64 br) ∧ w'.cell? ⟨bj, 1, none⟩ = some (.int .u64 bw) ∧ w'.cell? ⟨bj, 2, none⟩ = some (.slice (some bp) bi.length bI) ∧ w'.cell? (bp.add ((ba).toNat * 7)) = some (.string ((rd_T37 bi ba).f0)) ∧ w'.cell? ⟨(bp.add ((ba).toNat * 7)).block, (bp.add ((ba).toNat * 7)).off + 1, none⟩ = some (.int .u64 ((rd_T37 bi ba).f1)) ∧ w'.cell? ⟨(bp.add ((ba).toNat * 7)).block, (bp.add ((ba).toNat * 7)).off + 2, none⟩ = some (.int .u64 ((rd_T37 bi ba).f2)) ∧ w'.cell? ⟨(bp.add ((ba).toNat * 7)).block, (bp.add ((ba).toNat * 7)).off + 3, none⟩ = some (.slice jK ((rd_T37 bi ba).f3).length jA) ∧ w'.cell? ⟨(bp.add ((ba).toNat * 7)).block, (bp.add ((ba).toNat * 7)).off + 4, none⟩ = some (.int .u64 ((rd_T37 bi ba).f4)) ∧ w'.cell? ⟨(bp.add ((ba).toNat * 7)).block, (bp.add ((ba).toNat * 7)).off + 5, none⟩ = some (.int .u64 ((rd_T37 bi ba).f5)) ∧ w'.cell? ⟨(bp.add ((ba).toNat * 7)).block, (bp.add ((ba).toNat * 7)).off + 6, none⟩ = some (.int .u64 ((rd_T37 bi ba).f6)) ∧ w'.cell? (bp.add ((ba).toNat * 7)) = some (.string ((rd_T37 bi ba).f0)) ∧ w'.cell? ⟨(bp.add ((ba).toNat * 7)).block, (bp.add ((ba).toNat * 7)).off + 1, none⟩ = some (.int .u64 ((rd_T37 bi ba).f1)) ∧ w'.cell? ⟨(bp.add ((ba).toNat * 7)).block, (bp.add ((ba).toNat * 7)).off + 2, none⟩ = some (.int .u64 ((rd_T37 bi ba).f2)) ∧ w'.cell? ⟨(bp.add ((ba).toNat * 7)).block, (bp.add ((ba).toNat * 7)).off + 3, none⟩ = some (.slice jK ((rd_T37 bi ba).f3).length jA) ∧ w'.cell? ⟨(bp.add ((ba).toNat * 7)).block, (bp.add ((ba).toNat * 7)).off + 4, none⟩ = some (.int .u64 ((rd_T37 bi ba).f4)) ∧ w'.cell? ⟨(bp.add ((ba).toNat * 7)).block, (bp.add ((ba).toNat * 7)).off + 5, none⟩ = some (.int .u64 ((rd_T37 bi ba).f5)) ∧ w'.cell? ⟨(bp.add ((ba).toNat * 7)).block, (bp.add ((ba).toNat * 7)).off + 6, none⟩ = some (.int .u64 ((rd_T37 bi ba).f6))) (ds := []) #[Ff,Ff,Ff,Ff,Ff,Ff,Ff,Ff,Ff,Ff,Ff,Ff,Ff,Ff] (by kernel_rfl) rfl rfl ⟨(blk_cell bh.out 0).trans rfl, (blk_cell bh.out 1).trans rfl, (blk_cell bh.out 2).trans rfl, hA, hz, hy, dI, hx, hv, hu, ht, hs, hq, dH, hp, hm, hl⟩ (fun hHeld => ?_); refine with_tabW postroomlaw10_LedgerDone.tab25 postroomlaw10_LedgerDone.bits25 (fun HT_ HW_ => ?_)
   generalize w81.drew = w83 at bb bf bk bB bH bG b9 b6 bd bh bx bz bC b5 HB dS dR dQ dP hA hz hy dI hx hv hu ht hs hq dH hp hm hl hHeld ⊢
   refine pp_ 0 (some 134) HT_.out ?_
   refine pp_ 2 (some 136) HT_.out ?_
   refine pp_ 6 (some 140) HT_.out ?_
   refine pp_ 8 (some 142) HT_.out ?_
   refine take_ (i := 1) (N := some 135) (v := ?_) (a' := ?_) #[Tt,Tt,Tt,Ff,Ff,Ff,Tt,Ff,Tt,Ff,Ff,Ff,Ff,Ff] rfl rfl (take_ofW HT_.out HW_.out (by kernel_rfl)) (fun _ _ _ h => h) (Or.inl ⟨by rfl, ?_⟩) hHeld ?_ ?_
   rotate_left
   ·rintro w' ⟨s0, s1, s2, s3, s4, s5, s6, s7, s8, s9, s10, s11, s12, s13, s14, s15, s16⟩
    go_simp
    with_reducible rfl
   rotate_left
   ·simp only [Act.put, List.setIfInBounds_toArray, List.set_cons_zero, List.set_cons_succ, i64_w, i32_w]
    rfl
   refine pp_ 3 (some 137) HT_.out ?_
   refine pp_ 4 (some 138) HT_.out ?_
   refine take_ (i := 5) (N := some 139) (v := ?_) (a' := ?_) #[Tt,Tt,Tt,Tt,Tt,Tt,Tt,Ff,Tt,Ff,Ff,Ff,Ff,Ff] rfl rfl (take_ofW HT_.out HW_.out (by kernel_rfl)) (fun _ _ _ h => h) (Or.inl ⟨by rfl, ?_⟩) hHeld ?_ ?_
   rotate_left
   ·rintro w' ⟨s0, s1, s2, s3, s4, s5, s6, s7, s8, s9, s10, s11, s12, s13, s14, s15, s16⟩
    go_simp
    with_reducible rfl
   rotate_left
   ·simp only [Act.put, List.setIfInBounds_toArray, List.set_cons_zero, List.set_cons_succ, i64_w, i32_w]
    rfl
   refine take_ (i := 7) (N := some 141) (v := ?_) (a' := ?_) #[Tt,Tt,Tt,Tt,Tt,Tt,Tt,Tt,Tt,Ff,Ff,Ff,Ff,Ff] rfl rfl (take_ofW HT_.out HW_.out (by kernel_rfl)) (fun _ _ _ h => h) (Or.inl ⟨by rfl, ?_⟩) hHeld ?_ ?_
   rotate_left
   ·rintro w' ⟨s0, s1, s2, s3, s4, s5, s6, s7, s8, s9, s10, s11, s12, s13, s14, s15, s16⟩
    go_simp
    with_reducible rfl
   rotate_left
   ·simp only [Act.put, List.setIfInBounds_toArray, List.set_cons_zero, List.set_cons_succ, i64_w, i32_w]
    rfl
   refine pp_ 9 (some 143) HT_.out ?_
   refine pp_ 10 (some 144) HT_.out ?_
   refine take_ (i := 11) (N := some 145) (v := ?_) (a' := ?_) #[Tt,Tt,Tt,Tt,Tt,Tt,Tt,Tt,Tt,Tt,Tt,Tt,Ff,Ff] rfl rfl (take_ofW HT_.out HW_.out (by kernel_rfl)) (fun _ _ _ h => h) (Or.inl ⟨by rfl, ?_⟩) hHeld ?_ ?_
   rotate_left
   ·rintro w' ⟨s0, s1, s2, s3, s4, s5, s6, s7, s8, s9, s10, s11, s12, s13, s14, s15, s16⟩
    go_simp
    with_reducible rfl
   rotate_left
   ·simp only [Act.put, List.setIfInBounds_toArray, List.set_cons_zero, List.set_cons_succ, i64_w, i32_w]
    rfl
   refine pp_ 12 (some 146) HT_.out ?_
   refine pp_ 13 (some 22) HT_.out ?_
   refine done_ (done_of HT_.out (by kernel_rfl)) ?_
   try go_wp2
   replace bb := Aside0.mk (Kd.V_drew bb.out)
   replace bf := Aside0.mk (Kd.V_drew bf.out)
   replace bk := Aside0.mk (Kd.V_drew bk.out)
   replace bB := Aside0.mk (Kd.V_drew bB.out)
   replace bH := Aside0.mk (Kd.R_drew bH.out)
   replace bG := Aside0.mk (Kd.V_drew bG.out)
   replace b9 := Aside0.mk (Kd.R_drew b9.out)
   replace b6 := Aside0.mk (Kd.V_drew b6.out)
   replace dS := Aside0.mk (Kd.V_drew dS.out)
   replace dR := Aside0.mk (Kd.V_drew dR.out)
   replace bd := Aside0.mk (blk_drew bd.out)
   replace bh := Aside0.mk (blk_drew bh.out)
   replace bx := Aside0.mk (blk_drew bx.out)
   replace bz := Aside0.mk (Kd.C_drew bz.out)
   replace bC := Aside0.mk (Kd.C_drew bC.out)
   replace b5 := Aside0.mk (Kd.C_drew b5.out)
   replace dQ := Aside0.mk (Kd.C_drew dQ.out)
   replace dP := Aside0.mk (Kd.C_drew dP.out)
   replace HB := Aside0.mk (below_drew1 HB.out)
   obtain ⟨vp, vl, oP⟩ := Kd.R_slice b9.out
   (first | subst oP | (injection oP with f1_ f2_ f3_; have f4_ := f1_.symm; have f5_ := f3_.symm; clear f1_ f2_ f3_; subst f4_; subst f5_))
   obtain ⟨vo, vk, oO⟩ := Kd.R_slice bH.out
   (first | subst oO | (injection oO with f1_ f2_ f3_; have f4_ := f1_.symm; have f5_ := f3_.symm; clear f1_ f2_ f3_; subst f4_; subst f5_))
   have j2 : 0 ≤ (ba : Int) := of_decide_eq_true zx26_3
   have jU : ba < (bc.length : Int) := of_decide_eq_true zx26_3
   obtain ⟨o7, gF, gy, si, hj, hh, hf, df, he, hc, ha, hF, hM⟩ := at_T37 (Kd.V_reads' bb.out).2.2 ba j2 jU
   obtain rfl : be = o7 := (by injection si)
   obtain ⟨sS, ol, os, jw⟩ := Kd.V_get bb.out z37 ba j2 (by first | exact jU | exact of_decide_eq_true zx26_3 | (have e_ := (Kd.V_reads' bb.out).1; omega))
   obtain ⟨qt, qn, rfl, d5, gm⟩ := k37_openF os
   have dM := jw 3 _ rfl
   rw [add_field _ _ 3 (by omega)] at dM
   replace dM := Option.some.inj (dM.symm.trans df)
   injection dM with hva_ hvn_ hvc_
   rw [hva_] at gm
   rw [hvc_] at d5
   have m8 := Aside0.mk (show Kd.V (Kd.int .u64) 24 _ w.heap.size _ _ ((rd_T37 bc ba).f3) from Kd.V_mk d5 gm)
   clear hva_ hvn_ hvc_ gm d5
   clear jw ol
   have m4 := Aside0.mk hM
   have qX := Aside0.mk hF
   clear hM hF
   replace j2 := eq_true j2
   replace jU := eq_true jU
   have jZ : 0 ≤ (ba : Int) := of_decide_eq_true zx26_3
   have jT : ba < (bc.length : Int) := of_decide_eq_true zx26_3
   obtain ⟨o6, sw, sq, sh, gZ, gY, gX, dG, gW, gV, gU, hE, hL⟩ := at_T37 (Kd.V_reads' bb.out).2.2 ba jZ jT
   obtain rfl : be = o6 := (by injection sh)
   obtain ⟨sR, oj, oq, jv⟩ := Kd.V_get bb.out z37 ba jZ (by first | exact jT | exact of_decide_eq_true zx26_3 | (have e_ := (Kd.V_reads' bb.out).1; omega))
   obtain ⟨qs, qm, rfl, d4, gl⟩ := k37_openF oq
   have dL := jv 3 _ rfl
   rw [add_field _ _ 3 (by omega)] at dL
   replace dL := Option.some.inj (dL.symm.trans dG)
   injection dL with hva_ hvn_ hvc_
   rw [hva_] at gl
   rw [hvc_] at d4
   have m7 := Aside0.mk (show Kd.V (Kd.int .u64) 24 _ w.heap.size _ _ ((rd_T37 bc ba).f3) from Kd.V_mk d4 gl)
   clear hva_ hvn_ hvc_ gl d4
   clear jv oj
   have m3 := Aside0.mk hL
   have qW := Aside0.mk hE
   clear hL hE
   replace jZ := eq_true jZ
   replace jT := eq_true jT
   have ea_ := Option.some.inj (df.symm.trans dG)
   injection ea_ with ea_ en_ ec_
   subst ea_
   subst ec_
   clear en_
   have jY : 0 ≤ (ba : Int) := of_decide_eq_true zx26_3
   have jS : ba < (bi.length : Int) := of_decide_eq_true zx26_3
   obtain ⟨o5, oG, oA, sg, gT, gS, gR, gg, gQ, gP, gO, hD, hJ⟩ := at_T37 (Kd.V_reads' bf.out).2.2 ba jY jS
   obtain rfl : bp = o5 := (by injection sg)
   obtain ⟨sQ, oi, op, ju⟩ := Kd.V_get bf.out z37 ba jY (by first | exact jS | exact of_decide_eq_true zx26_3 | (have e_ := (Kd.V_reads' bf.out).1; omega))
   obtain ⟨qr, ql, rfl, d3, gj⟩ := k37_openF op
   have dK := ju 3 _ rfl
   rw [add_field _ _ 3 (by omega)] at dK
   replace dK := Option.some.inj (dK.symm.trans gg)
   injection dK with hva_ hvn_ hvc_
   rw [hva_] at gj
   rw [hvc_] at d3
   have m6 := Aside0.mk (show Kd.V (Kd.int .u64) 24 _ w.heap.size _ _ ((rd_T37 bi ba).f3) from Kd.V_mk d3 gj)
   clear hva_ hvn_ hvc_ gj d3
   clear ju oi
   have m2 := Aside0.mk hJ
   have qV := Aside0.mk hD
   clear hJ hD
   replace jY := eq_true jY
   replace jS := eq_true jS
   have jX : 0 ≤ (ba : Int) := of_decide_eq_true zx26_3
   have jR : ba < (bc.length : Int) := of_decide_eq_true zx26_3
   obtain ⟨o4, sv, sp, sf, gN, gM, gL, dF, gK, gJ, gI, hC, hI⟩ := at_T37 (Kd.V_reads' bb.out).2.2 ba jX jR
   obtain rfl : be = o4 := (by injection sf)
   obtain ⟨sP, oh, oo, jt⟩ := Kd.V_get bb.out z37 ba jX (by first | exact jR | exact of_decide_eq_true zx26_3 | (have e_ := (Kd.V_reads' bb.out).1; omega))
   obtain ⟨qq, qk, rfl, d2, gi⟩ := k37_openF oo
   have dJ := jt 3 _ rfl
   rw [add_field _ _ 3 (by omega)] at dJ
   replace dJ := Option.some.inj (dJ.symm.trans dF)
   injection dJ with hva_ hvn_ hvc_
   rw [hva_] at gi
   rw [hvc_] at d2
   have m5 := Aside0.mk (show Kd.V (Kd.int .u64) 24 _ w.heap.size _ _ ((rd_T37 bc ba).f3) from Kd.V_mk d2 gi)
   clear hva_ hvn_ hvc_ gi d2
   clear jt oh
   have m1 := Aside0.mk hI
   have qU := Aside0.mk hC
   clear hI hC
   replace jX := eq_true jX
   replace jR := eq_true jR
   have ea_ := Option.some.inj (df.symm.trans dF)
   injection ea_ with ea_ en_ ec_
   subst ea_
   subst ec_
   clear en_
   refine start_ (n := 39) (S := fun w' => w'.cell? ⟨bg, 0, none⟩ = some (.int .u64 bl) ∧ w'.cell? ⟨bg, 1, none⟩ = some (.int .u64 bm) ∧ w'.cell? ⟨bg, 2, none⟩ = some (.slice (some be) bc.length bD) ∧ w'.cell? ⟨bj, 0, none⟩ = some (.int .u64 br) ∧ w'.cell? ⟨bj, 1, none⟩ = some (.int .u64 bw) ∧ w'.cell? ⟨bj, 2, none⟩ = some (.slice (some bp) bi.length bI) ∧ w'.cell? (be.add ((ba).toNat * 7)) = some (.string ((rd_T37 bc ba).f0)) ∧ w'.cell? ⟨(be.add ((ba).toNat * 7)).block, (be.add ((ba).toNat * 7)).off + 1, none⟩ = some (.int .u64 ((rd_T37 bc ba).f1)) ∧ w'.cell? ⟨(be.add ((ba).toNat * 7)).block, (be.add ((ba).toNat * 7)).off + 2, none⟩ = some (.int .u64 ((rd_T37 bc ba).f2)) ∧ w'.cell? ⟨(be.add ((ba).toNat * 7)).block, (be.add ((ba).toNat * 7)).off + 3, none⟩ = some (.slice gF ((rd_T37 bc ba).f3).length gy) ∧ w'.cell? ⟨(be.add ((ba).toNat * 7)).block, (be.add ((ba).toNat * 7)).off + 4, none⟩ = some (.int .u64 ((rd_T37 bc ba).f4)) ∧ w'.cell? ⟨(be.add ((ba).toNat * 7)).block, (be.add ((ba).toNat * 7)).off + 5, none⟩ = some (.int .u64 ((rd_T37 bc ba).f5)) ∧ w'.cell? ⟨(be.add ((ba).toNat * 7)).block, (be.add ((ba).toNat * 7)).off + 6, none⟩ = some (.int .u64 ((rd_T37 bc ba).f6)) ∧ w'.cell? (be.add ((ba).toNat * 7)) = some (.string ((rd_T37 bc ba).f0)) ∧ w'.cell? ⟨(be.add ((ba).toNat * 7)).block, (be.add ((ba).toNat * 7)).off + 1, none⟩ = some (.int .u64 ((rd_T37 bc ba).f1)) ∧ w'.cell? ⟨(be.add ((ba).toNat * 7)).block, (be.add ((ba).toNat * 7)).off + 2, none⟩ = some (.int .u64 ((rd_T37 bc ba).f2)) ∧ w'.cell? ⟨(be.add ((ba).toNat * 7)).block, (be.add ((ba).toNat * 7)).off + 3, none⟩ = some (.slice gF ((rd_T37 bc ba).f3).length gy) ∧ w'.cell? ⟨(be.add ((ba).toNat * 7)).block, (be.add ((ba).toNat * 7)).off + 4, none⟩ = some (.int .u64 ((rd_T37 bc ba).f4)) ∧ w'.cell? ⟨(be.add ((ba).toNat * 7)).block, (be.add ((ba).toNat * 7)).off + 5, none⟩ = some (.int .u64 ((rd_T37 bc ba).f5)) ∧ w'.cell? ⟨(be.add ((ba).toNat * 7)).block, (be.add ((ba).toNat * 7)).off + 6, none⟩ = some (.int .u64 ((rd_T37 bc ba).f6)) ∧ w'.cell? (bp.add ((ba).toNat * 7)) = some (.string ((rd_T37 bi ba).f0)) ∧ w'.cell? ⟨(bp.add ((ba).toNat * 7)).block, (bp.add ((ba).toNat * 7)).off + 1, none⟩ = some (.int .u64 ((rd_T37 bi ba).f1)) ∧ w'.cell? ⟨(bp.add ((ba).toNat * 7)).block, (bp.add ((ba).toNat * 7)).off + 2, none⟩ = some (.int .u64 ((rd_T37 bi ba).f2)) ∧ w'.cell? ⟨(bp.add ((ba).toNat * 7)).block, (bp.add ((ba).toNat * 7)).off + 3, none⟩ = some (.slice oG ((rd_T37 bi ba).f3).length oA) ∧ w'.cell? ⟨(bp.add ((ba).toNat * 7)).block, (bp.add ((ba).toNat * 7)).off + 4, none⟩ = some (.int .u64 ((rd_T37 bi ba).f4)) ∧ w'.cell? ⟨(bp.add ((ba).toNat * 7)).block, (bp.add ((ba).toNat * 7)).off + 5, none⟩ = some (.int .u64 ((rd_T37 bi ba).f5)) ∧ w'.cell? ⟨(bp.add ((ba).toNat * 7)).block, (bp.add ((ba).toNat * 7)).off + 6, none⟩ = some (.int .u64 ((rd_T37 bi ba).f6)) ∧ w'.cell? (be.add ((ba).toNat * 7)) = some (.string ((rd_T37 bc ba).f0)) ∧ w'.cell? ⟨(be.add ((ba).toNat * 7)).block, (be.add ((ba).toNat * 7)).off + 1, none⟩ = some (.int .u64 ((rd_T37 bc ba).f1)) ∧ w'.cell? ⟨(be.add ((ba).toNat * 7)).block, (be.add ((ba).toNat * 7)).off + 2, none⟩ = some (.int .u64 ((rd_T37 bc ba).f2)) ∧ w'.cell? ⟨(be.add ((ba).toNat * 7)).block, (be.add ((ba).toNat * 7)).off + 3, none⟩ = some (.slice gF ((rd_T37 bc ba).f3).length gy) ∧ w'.cell? ⟨(be.add ((ba).toNat * 7)).block, (be.add ((ba).toNat * 7)).off + 4, none⟩ = some (.int .u64 ((rd_T37 bc ba).f4)) ∧ w'.cell? ⟨(be.add ((ba).toNat * 7)).block, (be.add ((ba).toNat * 7)).off + 5, none⟩ = some (.int .u64 ((rd_T37 bc ba).f5)) ∧ w'.cell? ⟨(be.add ((ba).toNat * 7)).block, (be.add ((ba).toNat * 7)).off + 6, none⟩ = some (.int .u64 ((rd_T37 bc ba).f6))) (ds := []) #[Ff,Ff,Ff,Ff,Ff,Ff,Ff,Ff,Ff,Ff,Ff,Ff,Ff,Ff,Ff,Ff,Ff,Ff,Ff,Ff,Ff,Ff,Ff,Ff,Ff,Ff,Ff,Ff,Ff,Ff,Ff,Ff,Ff,Ff,Ff,Ff,Ff,Ff,Ff] (by kernel_rfl) rfl rfl ⟨(blk_cell bd.out 0).trans rfl, (blk_cell bd.out 1).trans rfl, (blk_cell bd.out 2).trans rfl, (blk_cell bh.out 0).trans rfl, (blk_cell bh.out 1).trans rfl, (blk_cell bh.out 2).trans rfl, hj, hh, hf, df, he, hc, ha, gZ, gY, gX, dG, gW, gV, gU, gT, gS, gR, gg, gQ, gP, gO, gN, gM, gL, dF, gK, gJ, gI⟩ (fun hHeld => ?_); refine with_tabW postroomlaw10_LedgerDone.tab26 postroomlaw10_LedgerDone.bits26 (fun HT_ HW_ => ?_)
   generalize w83.drew = w84 at bb bf bk bB bH bG b9 b6 dS dR bd bh bx bz bC b5 dQ dP HB m8 m7 m6 m5 m4 m3 m2 m1 hj hh hf df he hc ha gZ gY gX dG gW gV gU gT gS gR gg gQ gP gO gN gM gL dF gK gJ gI hHeld ⊢
   refine pp_ 0 (some 147) HT_.out ?_
   refine pp_ 1 (some 148) HT_.out ?_
   refine pp_ 2 (some 149) HT_.out ?_
   refine pp_ 3 (some 150) HT_.out ?_
   refine pp_ 4 (some 151) HT_.out ?_
   refine pp_ 5 (some 152) HT_.out ?_
   refine pp_ 6 (some 153) HT_.out ?_
   refine pp_ 7 (some 154) HT_.out ?_
   refine pp_ 8 (some 155) HT_.out ?_
   refine pp_ 10 (some 157) HT_.out ?_
   refine pp_ 14 (some 161) HT_.out ?_
   refine pp_ 16 (some 163) HT_.out ?_
   refine take_ (i := 9) (N := some 156) (v := ?_) (a' := ?_) #[Tt,Tt,Tt,Tt,Tt,Tt,Tt,Tt,Tt,Tt,Tt,Ff,Ff,Ff,Tt,Ff,Tt,Ff,Ff,Ff,Ff,Ff,Ff,Ff,Ff,Ff,Ff,Ff,Ff,Ff,Ff,Ff,Ff,Ff,Ff,Ff,Ff,Ff,Ff] rfl rfl (take_ofW HT_.out HW_.out (by kernel_rfl)) (fun _ _ _ h => h) (Or.inl ⟨by rfl, ?_⟩) hHeld ?_ ?_
   rotate_left
   ·rintro w' ⟨s0, s1, s2, s3, s4, s5, s6, s7, s8, s9, s10, s11, s12, s13, s14, s15, s16, s17, s18, s19, s20, s21, s22, s23, s24, s25, s26, s27, s28, s29, s30, s31, s32, s33⟩
    go_simp
    with_reducible rfl
   rotate_left
   ·simp only [Act.put, List.setIfInBounds_toArray, List.set_cons_zero, List.set_cons_succ, i64_w, i32_w]
    rfl
   refine pp_ 11 (some 158) HT_.out ?_
   refine pp_ 12 (some 159) HT_.out ?_
   refine take_ (i := 13) (N := some 160) (v := ?_) (a' := ?_) #[Tt,Tt,Tt,Tt,Tt,Tt,Tt,Tt,Tt,Tt,Tt,Tt,Tt,Tt,Tt,Ff,Tt,Ff,Ff,Ff,Ff,Ff,Ff,Ff,Ff,Ff,Ff,Ff,Ff,Ff,Ff,Ff,Ff,Ff,Ff,Ff,Ff,Ff,Ff] rfl rfl (take_ofW HT_.out HW_.out (by kernel_rfl)) (fun _ _ _ h => h) (Or.inl ⟨by rfl, ?_⟩) hHeld ?_ ?_
   rotate_left
   ·rintro w' ⟨s0, s1, s2, s3, s4, s5, s6, s7, s8, s9, s10, s11, s12, s13, s14, s15, s16, s17, s18, s19, s20, s21, s22, s23, s24, s25, s26, s27, s28, s29, s30, s31, s32, s33⟩
    go_simp
    with_reducible rfl
   rotate_left
   ·simp only [Act.put, List.setIfInBounds_toArray, List.set_cons_zero, List.set_cons_succ, i64_w, i32_w]
    rfl
   refine take_ (i := 15) (N := some 162) (v := ?_) (a' := ?_) #[Tt,Tt,Tt,Tt,Tt,Tt,Tt,Tt,Tt,Tt,Tt,Tt,Tt,Tt,Tt,Tt,Tt,Ff,Ff,Ff,Ff,Ff,Ff,Ff,Ff,Ff,Ff,Ff,Ff,Ff,Ff,Ff,Ff,Ff,Ff,Ff,Ff,Ff,Ff] rfl rfl (take_ofW HT_.out HW_.out (by kernel_rfl)) (fun _ _ _ h => h) (Or.inl ⟨by rfl, ?_⟩) hHeld ?_ ?_
   rotate_left
   ·rintro w' ⟨s0, s1, s2, s3, s4, s5, s6, s7, s8, s9, s10, s11, s12, s13, s14, s15, s16, s17, s18, s19, s20, s21, s22, s23, s24, s25, s26, s27, s28, s29, s30, s31, s32, s33⟩
    go_simp
    with_reducible rfl
   rotate_left
   ·simp only [Act.put, List.setIfInBounds_toArray, List.set_cons_zero, List.set_cons_succ, i64_w, i32_w]
    rfl
   refine pp_ 17 (some 164) HT_.out ?_
   refine pp_ 18 (some 165) HT_.out ?_
   refine take_ (i := 19) (N := some 166) (v := ?_) (a' := ?_) #[Tt,Tt,Tt,Tt,Tt,Tt,Tt,Tt,Tt,Tt,Tt,Tt,Tt,Tt,Tt,Tt,Tt,Tt,Tt,Tt,Ff,Ff,Ff,Ff,Ff,Ff,Ff,Ff,Ff,Ff,Ff,Ff,Ff,Ff,Ff,Ff,Ff,Ff,Ff] rfl rfl (take_ofW HT_.out HW_.out (by kernel_rfl)) (fun _ _ _ h => h) (Or.inl ⟨by rfl, ?_⟩) hHeld ?_ ?_
   rotate_left
   ·rintro w' ⟨s0, s1, s2, s3, s4, s5, s6, s7, s8, s9, s10, s11, s12, s13, s14, s15, s16, s17, s18, s19, s20, s21, s22, s23, s24, s25, s26, s27, s28, s29, s30, s31, s32, s33⟩
    go_simp
    with_reducible rfl
   rotate_left
   ·simp only [Act.put, List.setIfInBounds_toArray, List.set_cons_zero, List.set_cons_succ, i64_w, i32_w]
    rfl
   refine pp_ 20 (some 167) HT_.out ?_
   refine pp_ 21 (some 168) HT_.out ?_
   refine pp_ 22 (some 169) HT_.out ?_
   refine pp_ 23 (some 170) HT_.out ?_
   refine pp_ 24 (some 171) HT_.out ?_
   refine pp_ 25 (some 172) HT_.out ?_
   refine pp_ 27 (some 174) HT_.out ?_
   refine pp_ 31 (some 178) HT_.out ?_
   refine pp_ 33 (some 180) HT_.out ?_
   refine take_ (i := 26) (N := some 173) (v := ?_) (a' := ?_) #[Tt,Tt,Tt,Tt,Tt,Tt,Tt,Tt,Tt,Tt,Tt,Tt,Tt,Tt,Tt,Tt,Tt,Tt,Tt,Tt,Tt,Tt,Tt,Tt,Tt,Tt,Tt,Tt,Ff,Ff,Ff,Tt,Ff,Tt,Ff,Ff,Ff,Ff,Ff] rfl rfl (take_ofW HT_.out HW_.out (by kernel_rfl)) (fun _ _ _ h => h) (Or.inl ⟨by rfl, ?_⟩) hHeld ?_ ?_
   rotate_left
   ·rintro w' ⟨s0, s1, s2, s3, s4, s5, s6, s7, s8, s9, s10, s11, s12, s13, s14, s15, s16, s17, s18, s19, s20, s21, s22, s23, s24, s25, s26, s27, s28, s29, s30, s31, s32, s33⟩
    go_simp
    with_reducible rfl
   rotate_left
   ·simp only [Act.put, List.setIfInBounds_toArray, List.set_cons_zero, List.set_cons_succ, i64_w, i32_w]
    rfl
   refine pp_ 28 (some 175) HT_.out ?_
   refine pp_ 29 (some 176) HT_.out ?_
   refine take_ (i := 30) (N := some 177) (v := ?_) (a' := ?_) #[Tt,Tt,Tt,Tt,Tt,Tt,Tt,Tt,Tt,Tt,Tt,Tt,Tt,Tt,Tt,Tt,Tt,Tt,Tt,Tt,Tt,Tt,Tt,Tt,Tt,Tt,Tt,Tt,Tt,Tt,Tt,Tt,Ff,Tt,Ff,Ff,Ff,Ff,Ff] rfl rfl (take_ofW HT_.out HW_.out (by kernel_rfl)) (fun _ _ _ h => h) (Or.inl ⟨by rfl, ?_⟩) hHeld ?_ ?_
   rotate_left
   ·rintro w' ⟨s0, s1, s2, s3, s4, s5, s6, s7, s8, s9, s10, s11, s12, s13, s14, s15, s16, s17, s18, s19, s20, s21, s22, s23, s24, s25, s26, s27, s28, s29, s30, s31, s32, s33⟩
    go_simp
    with_reducible rfl
   rotate_left
   ·simp only [Act.put, List.setIfInBounds_toArray, List.set_cons_zero, List.set_cons_succ, i64_w, i32_w]
    rfl
   refine take_ (i := 32) (N := some 179) (v := ?_) (a' := ?_) #[Tt,Tt,Tt,Tt,Tt,Tt,Tt,Tt,Tt,Tt,Tt,Tt,Tt,Tt,Tt,Tt,Tt,Tt,Tt,Tt,Tt,Tt,Tt,Tt,Tt,Tt,Tt,Tt,Tt,Tt,Tt,Tt,Tt,Tt,Ff,Ff,Ff,Ff,Ff] rfl rfl (take_ofW HT_.out HW_.out (by kernel_rfl)) (fun _ _ _ h => h) (Or.inl ⟨by rfl, ?_⟩) hHeld ?_ ?_
   rotate_left
   ·rintro w' ⟨s0, s1, s2, s3, s4, s5, s6, s7, s8, s9, s10, s11, s12, s13, s14, s15, s16, s17, s18, s19, s20, s21, s22, s23, s24, s25, s26, s27, s28, s29, s30, s31, s32, s33⟩
    go_simp
    with_reducible rfl
   rotate_left
   ·simp only [Act.put, List.setIfInBounds_toArray, List.set_cons_zero, List.set_cons_succ, i64_w, i32_w]
    rfl
   refine pp_ 34 (some 181) HT_.out ?_
   refine pp_ 35 (some 182) HT_.out ?_
   refine take_ (i := 36) (N := some 183) (v := ?_) (a' := ?_) #[Tt,Tt,Tt,Tt,Tt,Tt,Tt,Tt,Tt,Tt,Tt,Tt,Tt,Tt,Tt,Tt,Tt,Tt,Tt,Tt,Tt,Tt,Tt,Tt,Tt,Tt,Tt,Tt,Tt,Tt,Tt,Tt,Tt,Tt,Tt,Tt,Tt,Ff,Ff] rfl rfl (take_ofW HT_.out HW_.out (by kernel_rfl)) (fun _ _ _ h => h) (Or.inl ⟨by rfl, ?_⟩) hHeld ?_ ?_
   rotate_left
   ·rintro w' ⟨s0, s1, s2, s3, s4, s5, s6, s7, s8, s9, s10, s11, s12, s13, s14, s15, s16, s17, s18, s19, s20, s21, s22, s23, s24, s25, s26, s27, s28, s29, s30, s31, s32, s33⟩
    go_simp
    with_reducible rfl
   rotate_left
   ·simp only [Act.put, List.setIfInBounds_toArray, List.set_cons_zero, List.set_cons_succ, i64_w, i32_w]
    rfl
   refine pp_ 37 (some 184) HT_.out ?_
   refine pp_ 38 (some 185) HT_.out ?_
   refine done_ (done_of HT_.out (by kernel_rfl)) ?_
   try go_wp2
   go_roundg k2
   case measure => have := m9.out; have := HK2.out; omega
   case rel => exact ⟨(wrap64 (ba + 1)), (by first | rfl | (simp; done) | (simp [*]; done)), H', ⟨by have := m9.out; have := HK2.out; omega⟩, ⟨by (with_reducible repeat (first | apply Kd.V_alloc | apply Kd.V_drewN | apply Kd.V_drew)); exact Kd.V_mono bb.out (fun _ hk => ⟨hk.1.1.1, ⟨hk.1.1.2.1, hk.1.1.2.2⟩⟩)⟩, ⟨by (with_reducible repeat (first | apply Kd.V_alloc | apply Kd.V_drewN | apply Kd.V_drew)); exact Kd.V_mono bf.out (fun _ hk => ⟨hk.1.1.1, ⟨hk.1.1.2.1, hk.1.1.2.2⟩⟩)⟩, ⟨by (with_reducible repeat (first | apply Kd.V_alloc | apply Kd.V_drewN | apply Kd.V_drew)); exact Kd.V_mono bk.out (fun _ hk => ⟨hk.1.1.1, ⟨hk.1.1.2.1, hk.1.1.2.2⟩⟩)⟩, ⟨by (with_reducible repeat (first | refine blk_drewN ?_ _ | refine blk_drew ?_ | refine blk_alloc ?_ _)); exact bd.out⟩, ⟨by (with_reducible repeat (first | refine blk_drewN ?_ _ | refine blk_drew ?_ | refine blk_alloc ?_ _)); exact bh.out⟩, ⟨by (with_reducible repeat (first | refine blk_drewN ?_ _ | refine blk_drew ?_ | refine blk_alloc ?_ _)); exact bx.out⟩, ⟨by repeat (first | (with_reducible first | exact HB.out | apply below_alloc | apply pw_below_drewN | apply below_drew1 | refine below_set ?_ da.out | refine below_set ?_ dZ.out | refine below_set ?_ gr.out) | exact HB.out)⟩⟩
/-- THE ONE PURE STATEMENT of postroomlaw10_LedgerDone. -/
def postroomlaw10_LedgerDone.Pure : Prop := ∀ (l0 : List (S43)) (a1 : Int) (a2 : Int) (a3 : Bool), l0.length ≤ maxLen → l0.length * 32 ≤ 140737488351232 → (∀ x ∈ l0, ((Lit.int .i64 x.f0).wf = true ∧ (Lit.int .i64 x.f1).wf = true ∧ (Lit.int .i64 x.f2).wf = true ∧ (Lit.int .i64 x.f3).wf = true)) → (Lit.int .i64 a1).wf = true → (Lit.int .i64 a2).wf = true → ∃ k, postroomlaw10_LedgerDone.f k l0 a1 a2 a3 = some true
theorem postroomlaw10_LedgerDone.walk (P : postroomlaw10_LedgerDone.Pure) (A0 : Option Addr) (c0 : Nat) (l0 : List (S43)) (a1 : Int) (a2 : Int) (a3 : Bool) (w : World) (hr0 : Kd.C k43 w A0 l0.length l0) (hc0 : l0.length ≤ c0) (hm0 : l0.length ≤ maxLen) (hy0 : l0.length * 32 ≤ 140737488351232) (hw0 : (∀ x ∈ l0, ((Lit.int .i64 x.f0).wf = true ∧ (Lit.int .i64 x.f1).wf = true ∧ (Lit.int .i64 x.f2).wf = true ∧ (Lit.int .i64 x.f3).wf = true))) (hw1 : (Lit.int .i64 a1).wf = true) (hw2 : (Lit.int .i64 a2).wf = true) :
  Calls Tryd.prog 5 #[.slice A0 l0.length c0, .int .i64 a1, .int .i64 a2, .bool a3] w fun e w' => e = .returned (.bool true) ∧ Below w.heap.size w w' := by
 obtain ⟨k, h⟩ := P l0 a1 a2 a3 hm0 hy0 hw0 hw1 hw2
 refine (postroomlaw10_LedgerDone.calls k A0 c0 l0 a1 a2 a3 true w hr0 hc0 h).mono ?_
 rintro e w' ⟨rfl, hd⟩
 exact ⟨rfl, hd⟩

end Go.Proofs.YthhmpjapnkilcaaDoor.XLdg
