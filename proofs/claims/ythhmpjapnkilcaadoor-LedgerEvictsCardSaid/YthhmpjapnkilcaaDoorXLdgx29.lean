/- What the functions of the translation answer, each as a plain Lean function, and that the code comes to it; for a law: its row. Conditions: none but those that each theorem names. Written by a program of this session (wip/xp). -/
import Derived.Test.YthhmpjapnkilcaaDoorXLdgP1
import Derived.Test.YthhmpjapnkilcaaDoorXLdgP5
import Derived.Test.YthhmpjapnkilcaaDoorXLdgP3
import Derived.Test.YthhmpjapnkilcaaDoorXLdgx23
import Derived.Test.YthhmpjapnkilcaaDoorXLdgP4
import Derived.Test.YthhmpjapnkilcaaDoorGMono
import Derived.Test.YthhmpjapnkilcaaDoorGShown
namespace Go.Proofs.YthhmpjapnkilcaaDoor.XLdg
open Go.RowKit Go.Proofs.YthhmpjapnkilcaaDoorW.PrintWords Go.Proofs.YthhmpjapnkilcaaDoorW.PrintLast Go.Proofs.YthhmpjapnkilcaaDoorW.PrintMore
attribute [local go_sem] max2_int min2_int max_two min_two max_three min_three max_four min_four   -- for this text's walks alone
theorem cx29_bc3 {w : World} {g : Nat} {t : TypeId} {x0 x1 x2 : Value} (h : w.heap[g]? = some (.cells #[x0, x1, x2] t (0, 0))) : w.cell? ⟨g, 0, none⟩ = some x0 ∧ w.cell? ⟨g, 1, none⟩ = some x1 ∧ w.cell? ⟨g, 2, none⟩ = some x2 ∧ w.frozen? ⟨g, 0, none⟩ = false ∧ w.frozen? ⟨g, 1, none⟩ = false ∧ w.frozen? ⟨g, 2, none⟩ = false :=
 ⟨(blk_cell h 0).trans rfl, (blk_cell h 1).trans rfl, (blk_cell h 2).trans rfl, blk_frozen h 0, blk_frozen h 1, blk_frozen h 2⟩
theorem zx29_14 {p : Prop} (h : p := by first | rfl | (simp; done) | (simp [*]; done)) : p := h
theorem zx29_4 {p : Prop} (h : p := by first | (with_reducible assumption) | assumption) : p := h
theorem zx29_12 {p : Prop} (h : p := by (with_reducible repeat (first | apply Kd.V_alloc | apply Kd.V_drewN | apply Kd.V_drew)); exact bK.out) : p := h
theorem zx29_15 {p : Prop} (h : p := by (with_reducible repeat (first | apply Kd.R_alloc | apply Kd.R_drewN | apply Kd.R_drew)); exact bG.out) : p := h
theorem zx29_8 {p : Prop} (h : p := by (with_reducible repeat (first | apply Kd.V_alloc | apply Kd.V_drewN | apply Kd.V_drew)); exact bb.out) : p := h
theorem zx29_9 {p : Prop} (h : p := by (with_reducible repeat (first | apply Kd.V_alloc | apply Kd.V_drewN | apply Kd.V_drew)); exact bd.out) : p := h
theorem zx29_1 {p : Prop} (h : p := by (with_reducible repeat (first | refine blk_drewN ?_ _ | refine blk_drew ?_ | refine blk_alloc ?_ _)); exact be.out) : p := h
theorem zx29_3 {p : Prop} (h : p := by (with_reducible repeat (first | refine blk_drewN ?_ _ | refine blk_drew ?_ | refine blk_alloc ?_ _)); exact bj.out) : p := h
theorem zx29_10 {p : Prop} (h : p := by (with_reducible repeat (first | refine blk_drewN ?_ _ | refine blk_drew ?_ | refine blk_alloc ?_ _)); exact bW.out) : p := h
theorem zx29_6 {p : Prop} (h : p := by repeat (first | (with_reducible first | exact HB.out | apply below_alloc | apply pw_below_drewN | apply below_drew1) | exact HB.out)) : p := h
theorem zx29_2 {p : Prop} (h : p := by (try simp only [List.map_toArray, List.map_cons, List.map_nil]); first | done | rfl | (simp only [List.length_drop, List.length_take]; rfl)) : p := h
theorem zx29_7 {p : Prop} (h : p := by repeat (first | (with_reducible first | exact HB.out | apply below_alloc | apply pw_below_drewN | apply below_drew1 | refine below_set ?_ b7.out) | exact HB.out)) : p := h
theorem zx29_13 {p : Prop} (h : p := by repeat (first | (with_reducible exact bx.out) | (with_reducible refine Kd.C_alloc ?_ _) | (with_reducible refine Kd.C_drewN ?_ _) | (with_reducible refine Kd.C_drew ?_) | exact bx.out)) : p := h
theorem zx29_0 {p : Prop} (h : p := by repeat (first | (with_reducible first | exact HB.out | apply below_alloc | apply pw_below_drewN | apply below_drew1 | refine below_set ?_ b7.out | refine below_set ?_ dq.out) | exact HB.out)) : p := h
theorem zx29_5 {p : Prop} (h : p := by repeat (first | (with_reducible first | exact HB.out | apply below_alloc | apply pw_below_drewN | apply below_drew1 | refine below_set ?_ b7.out | refine below_set ?_ dq.out | refine below_set ?_ mq.out) | exact HB.out)) : p := h
theorem zx29_11 {p : Prop} (h : p := by (with_reducible repeat (first | apply Kd.V_alloc | apply Kd.V_drewN | apply Kd.V_drew)); exact (Kd.V_mono (Kd.V_far (p := ⟨bl, 2, none⟩) (Kd.V_far (p := ⟨bl, 1, none⟩) (Kd.V_far (p := ⟨bl, 0, none⟩) (Kd.V_mono bK.out (fun k_ hk => (⟨hk, hk.2⟩ : _ ∧ k_ ≠ bl))) (fun _ hk => hk.2) (.int .u64 br)) (fun _ hk => hk.2) (.int .u64 bq)) (fun _ hk => hk.2) (.slice bL bm.length bE)) (fun _ h_ => h_.1))) : p := h
set_option linter.unusedVariables false
set_option linter.unusedSimpArgs false

/-! ### postroomlaw10_LedgerEvicts: function 7 -/
mutual
def postroomlaw10_LedgerEvicts.l0 : Nat → Int → Int → Int → Int → Int → List (S37) → Int → Int → List (S37) → Option (Bool)
 | 0, _, _, _, _, _, _, _, _, _ => none
 | k + 1, x7, x10, x11, bZ, bY, bC, bM, bI, bH => if x11 < (bC.length : Int) then (if 0 ≤ x11 then ((ledger_Pending.f k bZ bY bC ((rd_T37 bC x11).f0)).bind fun bB => (postroomlaw10_LedgerEvicts.l1 k x7 x10 x11 bB 0 0 bZ bY bC bM bI bH)) else (none)) else ((ledger_Evict.f k bM bI bH (IntKind.u64.wrap (x7 - 1))).bind fun mU => ((ledger_Evict.f k bM bI bH (IntKind.u64.wrap (bI + 1))).bind fun jh => (if mU.2.2.2 = 1 then (some (jh.2.2.2 == 1)) else (none))))
def postroomlaw10_LedgerEvicts.l1 : Nat → Int → Int → Int → List Int → Int → Int → Int → Int → List (S37) → Int → Int → List (S37) → Option (Bool)
 | 0, _, _, _, _, _, _, _, _, _, _, _, _ => none
 | k + 1, x7, x10, x11, x12, x13, x14, bZ, bY, bC, bM, bI, bH => if x14 < (x12.length : Int) then (if 0 ≤ x14 then (if (rd x12 x14) < x7 then (postroomlaw10_LedgerEvicts.l1 k x7 x10 x11 x12 (IntKind.u64.wrap (x13 + 1)) (wrap64 (x14 + 1)) bZ bY bC bM bI bH) else (postroomlaw10_LedgerEvicts.l1 k x7 x10 x11 x12 x13 (wrap64 (x14 + 1)) bZ bY bC bM bI bH)) else (none)) else (if 0 ≤ x11 then (if x11 < (bH.length : Int) then (if x11 < (bC.length : Int) then (if ((rd_T37 bH x11).f5) = (IntKind.u64.wrap (((rd_T37 bC x11).f5) + x13)) then (if x7 ≤ x10 then (if x13 > 0 then (none) else ((ledger_Pending.f k bM bI bH ((rd_T37 bC x11).f0)).bind fun gl => (if 0 ≤ x13 then (if x13 ≤ (x12.length : Int) then ((postroomref10_Same.f k gl (x12.drop (x13 : Int).toNat)).bind fun gg => (if gg = true then (postroomlaw10_LedgerEvicts.l0 k x7 x10 (wrap64 (x11 + 1)) bZ bY bC bM bI bH) else (none))) else (none)) else (none)))) else ((ledger_Pending.f k bM bI bH ((rd_T37 bC x11).f0)).bind fun gj => (if 0 ≤ x13 then (if x13 ≤ (x12.length : Int) then ((postroomref10_Same.f k gj (x12.drop (x13 : Int).toNat)).bind fun gf => (if gf = true then (postroomlaw10_LedgerEvicts.l0 k x7 x10 (wrap64 (x11 + 1)) bZ bY bC bM bI bH) else (none))) else (none)) else (none)))) else (none)) else (none)) else (none)) else (none))
end
def postroomlaw10_LedgerEvicts.f (k : Nat) (l0 : List (S43)) (a1 : Int) : Option (Bool) := (postroomlaw10_shown.f k).bind fun dR => (if dR = true then (if (l0.length : Int) > 100 then (some dR) else ((postroomlaw10_run.f k l0).bind fun bk => ((postroomlaw10_pick.f a1 (wrap64 ((wrap64 (IntKind.u64.wrap (bk.2.1 - bk.1))) + 1))).bind fun bp => ((ledger_Evict.f k bk.1 bk.2.1 bk.2.2 (IntKind.u64.wrap (bk.1 + (IntKind.u64.wrap (bp))))).bind fun bg => ((ledger_Free.f k bk.1 bk.2.1 bk.2.2).bind fun bA => (if bg.2.2.2 = 0 then (if bg.1 = (IntKind.u64.wrap (bk.1 + (IntKind.u64.wrap (bp)))) then (if bg.2.1 = bk.2.1 then (if (bg.2.2.1.length : Int) = (bk.2.2.length : Int) then ((ledger_Free.f k bg.1 bg.2.1 bg.2.2.1).bind fun bX => (if bX < bA then (none) else ((ledger_Free.f k bg.1 bg.2.1 bg.2.2.1).bind fun bS => (if bS < (IntKind.u64.wrap (bk.1 + (IntKind.u64.wrap (bp)))) then (none) else (postroomlaw10_LedgerEvicts.l0 k (IntKind.u64.wrap (bk.1 + (IntKind.u64.wrap (bp)))) bA 0 bk.1 bk.2.1 bk.2.2 bg.1 bg.2.1 bg.2.2.1))))) else (none)) else (none)) else (none)) else (none))))))) else (none))
def postroomlaw10_LedgerEvicts.T5 : Bool × List (List Nat × List Nat) := (true, [([], []), ([0], [0]), ([], []), ([], []), ([3], [3]), ([], []), ([5], [5]), ([4, 6], [4, 6]), ([7], [7]), ([8], [8]), ([2, 9], [2, 9]), ([10], [10]), ([1, 11], [1, 11]), ([12, 10, 0, 1, 2, 3, 4, 5, 6, 7, 8, 9, 10, 11, 12], [12])])
def postroomlaw10_LedgerEvicts.B5 : List Nat := [0, 1, 0, 0, 8, 0, 32, 120, 248, 504, 1020, 2044, 4095, 8191]
theorem postroomlaw10_LedgerEvicts.tab5 : rtab .any (opsOf Tryd.f7 5) = postroomlaw10_LedgerEvicts.T5 := by kernel_rfl
theorem postroomlaw10_LedgerEvicts.bits5 : waitsOk postroomlaw10_LedgerEvicts.T5.2 postroomlaw10_LedgerEvicts.B5 = true := by kernel_rfl
def postroomlaw10_LedgerEvicts.T13 : Bool × List (List Nat × List Nat) := (true, [([], []), ([], []), ([1], [1]), ([], []), ([2, 3], [2, 3]), ([4], [4]), ([5], [5]), ([0, 6], [0, 6]), ([7, 7, 0, 1, 2, 3, 4, 5, 6, 7], [7])])
def postroomlaw10_LedgerEvicts.B13 : List Nat := [0, 0, 2, 0, 14, 30, 62, 127, 255]
theorem postroomlaw10_LedgerEvicts.tab13 : rtab .any (opsOf Tryd.f7 13) = postroomlaw10_LedgerEvicts.T13 := by kernel_rfl
theorem postroomlaw10_LedgerEvicts.bits13 : waitsOk postroomlaw10_LedgerEvicts.T13.2 postroomlaw10_LedgerEvicts.B13 = true := by kernel_rfl
def postroomlaw10_LedgerEvicts.T20 : Bool × List (List Nat × List Nat) := (true, [([], []), ([0], [0]), ([], []), ([1, 2], [1, 2]), ([3], [3]), ([4], [4]), ([], []), ([6], [6]), ([], []), ([7, 8], [7, 8]), ([9], [9]), ([10], [10]), ([], []), ([11, 12], [11, 12]), ([5, 13], [5, 13]), ([14], [14]), ([15], [15]), ([15], [15]), ([16, 17, 15], [15, 16, 17]), ([18, 15, 15], [15, 18]), ([19], [19]), ([20, 19], [19, 20]), ([19, 21, 15], [15, 19, 21]), ([15, 22], [15, 22]), ([23, 19], [23]), ([24], [24]), ([24], [24]), ([26, 24], [24, 26]), ([24], [24]), ([27, 28, 24], [24, 27, 28]), ([29, 24], [24, 29]), ([30, 24], [24, 30]), ([25, 31, 24, 24], [24, 25, 31]), ([24], [24]), ([24], [24]), ([33, 34, 24], [24, 33, 34]), ([32, 35, 32, 24], [24, 32, 35]), ([36, 24], [24, 36]), ([24, 37], [24, 37])])
def postroomlaw10_LedgerEvicts.B20 : List Nat := [0, 1, 0, 7, 15, 31, 0, 64, 0, 448, 960, 1984, 0, 8128, 16383, 32767, 65535, 65535, 262143, 524287, 1048575, 2097151, 4194303, 8388607, 16777215, 33554431, 33554431, 100663295, 33554431, 503316479, 1040187391, 2113929215, 4294967295, 33554431, 33554431, 25803358207, 68719476735, 137438953471, 274877906943]
theorem postroomlaw10_LedgerEvicts.tab20 : rtab .any (opsOf Tryd.f7 20) = postroomlaw10_LedgerEvicts.T20 := by kernel_rfl
theorem postroomlaw10_LedgerEvicts.bits20 : waitsOk postroomlaw10_LedgerEvicts.T20.2 postroomlaw10_LedgerEvicts.B20 = true := by kernel_rfl
set_option maxHeartbeats 8000000 in
set_option maxRecDepth 100000 in
theorem postroomlaw10_LedgerEvicts.calls (k : Nat) (A0 : Option Addr) (c0 : Nat) (l0 : List (S43)) (a1 : Int) (r : Bool) (w : World) (hr0 : Kd.C k43 w A0 l0.length l0) (hc0 : l0.length ≤ c0) (h : postroomlaw10_LedgerEvicts.f k l0 a1 = some r) :
  Calls Tryd.prog 7 #[.slice A0 l0.length c0, .int .i64 a1] w fun e w' => e = .returned (.bool r) ∧ Below w.heap.size w w' := by
 have q6 := Tryd.underlying27
 have HR0 := Aside0.mk hr0
 have HC0 := Aside0.mk hc0
 clear hr0 hc0
 have HB := Aside0.mk (Below.refl w.heap.size w)
 have H : ((postroomlaw10_shown.f k).bind fun dR => (if dR = true then (if (l0.length : Int) > 100 then (some dR) else ((postroomlaw10_run.f k l0).bind fun bk => ((postroomlaw10_pick.f a1 (wrap64 ((wrap64 (IntKind.u64.wrap (bk.2.1 - bk.1))) + 1))).bind fun bp => ((ledger_Evict.f k bk.1 bk.2.1 bk.2.2 (IntKind.u64.wrap (bk.1 + (IntKind.u64.wrap (bp))))).bind fun bg => ((ledger_Free.f k bk.1 bk.2.1 bk.2.2).bind fun bA => (if bg.2.2.2 = 0 then (if bg.1 = (IntKind.u64.wrap (bk.1 + (IntKind.u64.wrap (bp)))) then (if bg.2.1 = bk.2.1 then (if (bg.2.2.1.length : Int) = (bk.2.2.length : Int) then ((ledger_Free.f k bg.1 bg.2.1 bg.2.2.1).bind fun bX => (if bX < bA then (none) else ((ledger_Free.f k bg.1 bg.2.1 bg.2.2.1).bind fun bS => (if bS < (IntKind.u64.wrap (bk.1 + (IntKind.u64.wrap (bp)))) then (none) else (postroomlaw10_LedgerEvicts.l0 k (IntKind.u64.wrap (bk.1 + (IntKind.u64.wrap (bp)))) bA 0 bk.1 bk.2.1 bk.2.2 bg.1 bg.2.1 bg.2.2.1))))) else (none)) else (none)) else (none)) else (none))))))) else (none))) = some r := h
 clear h
 replace H := Option.bind_eq_some_iff.mp H
 obtain ⟨dR, A30, H⟩ := H
 replace H : (if dR = true then (if (l0.length : Int) > 100 then (some dR) else ((postroomlaw10_run.f k l0).bind fun bk => ((postroomlaw10_pick.f a1 (wrap64 ((wrap64 (IntKind.u64.wrap (bk.2.1 - bk.1))) + 1))).bind fun bp => ((ledger_Evict.f k bk.1 bk.2.1 bk.2.2 (IntKind.u64.wrap (bk.1 + (IntKind.u64.wrap (bp))))).bind fun bg => ((ledger_Free.f k bk.1 bk.2.1 bk.2.2).bind fun bA => (if bg.2.2.2 = 0 then (if bg.1 = (IntKind.u64.wrap (bk.1 + (IntKind.u64.wrap (bp)))) then (if bg.2.1 = bk.2.1 then (if (bg.2.2.1.length : Int) = (bk.2.2.length : Int) then ((ledger_Free.f k bg.1 bg.2.1 bg.2.2.1).bind fun bX => (if bX < bA then (none) else ((ledger_Free.f k bg.1 bg.2.1 bg.2.2.1).bind fun bS => (if bS < (IntKind.u64.wrap (bk.1 + (IntKind.u64.wrap (bp)))) then (none) else (postroomlaw10_LedgerEvicts.l0 k (IntKind.u64.wrap (bk.1 + (IntKind.u64.wrap (bp)))) bA 0 bk.1 bk.2.1 bk.2.2 bg.1 bg.2.1 bg.2.2.1))))) else (none)) else (none)) else (none)) else (none))))))) else (none)) = some r := H
 have A3 := Aside0.mk A30
 clear A30
 by_cases c4 : dR = true
 case neg =>
  replace c4 := Bool.eq_false_iff.mpr c4
  subst c4
  have H1 : (none) = some r := by rw [if_neg (show ¬ (false = true) by decide)] at H; exact H
  clear H
  have H := H1
  clear H1
  exact absurd H (by simp)

 subst c4
 have H1 : (if (l0.length : Int) > 100 then (some true) else ((postroomlaw10_run.f k l0).bind fun bk => ((postroomlaw10_pick.f a1 (wrap64 ((wrap64 (IntKind.u64.wrap (bk.2.1 - bk.1))) + 1))).bind fun bp => ((ledger_Evict.f k bk.1 bk.2.1 bk.2.2 (IntKind.u64.wrap (bk.1 + (IntKind.u64.wrap (bp))))).bind fun bg => ((ledger_Free.f k bk.1 bk.2.1 bk.2.2).bind fun bA => (if bg.2.2.2 = 0 then (if bg.1 = (IntKind.u64.wrap (bk.1 + (IntKind.u64.wrap (bp)))) then (if bg.2.1 = bk.2.1 then (if (bg.2.2.1.length : Int) = (bk.2.2.length : Int) then ((ledger_Free.f k bg.1 bg.2.1 bg.2.2.1).bind fun bX => (if bX < bA then (none) else ((ledger_Free.f k bg.1 bg.2.1 bg.2.2.1).bind fun bS => (if bS < (IntKind.u64.wrap (bk.1 + (IntKind.u64.wrap (bp)))) then (none) else (postroomlaw10_LedgerEvicts.l0 k (IntKind.u64.wrap (bk.1 + (IntKind.u64.wrap (bp)))) bA 0 bk.1 bk.2.1 bk.2.2 bg.1 bg.2.1 bg.2.2.1))))) else (none)) else (none)) else (none)) else (none))))))) = some r := by rw [if_pos rfl] at H; exact H
 clear H
 have H := H1
 clear H1
 by_cases c5 : (l0.length : Int) > 100
 ·rw [if_pos c5] at H
  have mH : decide (100 < (l0.length : Int)) = true := decide_eq_true c5
  have mG : decide (100 < l0.length) = true := decide_eq_true (by omega)
  clear c5
  obtain rfl := Option.some.inj H
  go_enter Tryd.func7, Tryd.ntmps7
  go_wp2_with (first | ((with_reducible refine gate_callee (f := 10) rfl ?_); refine goesL_ (some 19) rfl rfl Tryd.func10 (by kernel_rfl) rfl #[] rfl zx29_2 ?_; (with_reducible refine (postroomlaw10_shown.calls k  true _ A3.out).mono ?_); rintro e w6 ⟨rfl, hb⟩; refine ⟨_, rfl, ?_⟩; replace HB := Aside0.mk (below_step zx29_6 hb); (try clear hb); (try clear hb2); (try clear hk); (try clear hi)))
  go_ret
  exact ⟨by first | rfl | (simp [errW_none, errW_some] <;> rfl) | (simp [*, errW_none, errW_some] <;> rfl), by repeat (first | (with_reducible first | exact HB.out | apply below_alloc | apply pw_below_drewN | apply below_drew1) | exact HB.out)⟩
 rw [if_neg c5] at H
 have mH : decide (100 < (l0.length : Int)) = false := decide_eq_false c5
 have mG : decide (100 < l0.length) = false := decide_eq_false (by omega)
 clear c5
 replace H := Option.bind_eq_some_iff.mp H
 obtain ⟨⟨bi, bn, bc⟩, A70, H⟩ := H
 replace H : ((postroomlaw10_pick.f a1 (wrap64 ((wrap64 (IntKind.u64.wrap (bn - bi))) + 1))).bind fun bp => ((ledger_Evict.f k bi bn bc (IntKind.u64.wrap (bi + (IntKind.u64.wrap (bp))))).bind fun bg => ((ledger_Free.f k bi bn bc).bind fun bA => (if bg.2.2.2 = 0 then (if bg.1 = (IntKind.u64.wrap (bi + (IntKind.u64.wrap (bp)))) then (if bg.2.1 = bn then (if (bg.2.2.1.length : Int) = (bc.length : Int) then ((ledger_Free.f k bg.1 bg.2.1 bg.2.2.1).bind fun bX => (if bX < bA then (none) else ((ledger_Free.f k bg.1 bg.2.1 bg.2.2.1).bind fun bS => (if bS < (IntKind.u64.wrap (bi + (IntKind.u64.wrap (bp)))) then (none) else (postroomlaw10_LedgerEvicts.l0 k (IntKind.u64.wrap (bi + (IntKind.u64.wrap (bp)))) bA 0 bi bn bc bg.1 bg.2.1 bg.2.2.1))))) else (none)) else (none)) else (none)) else (none))))) = some r := H
 have A7 := Aside0.mk A70
 clear A70
 replace H := Option.bind_eq_some_iff.mp H
 obtain ⟨bp, A80, H⟩ := H
 replace H : ((ledger_Evict.f k bi bn bc (IntKind.u64.wrap (bi + (IntKind.u64.wrap (bp))))).bind fun bg => ((ledger_Free.f k bi bn bc).bind fun bA => (if bg.2.2.2 = 0 then (if bg.1 = (IntKind.u64.wrap (bi + (IntKind.u64.wrap (bp)))) then (if bg.2.1 = bn then (if (bg.2.2.1.length : Int) = (bc.length : Int) then ((ledger_Free.f k bg.1 bg.2.1 bg.2.2.1).bind fun bX => (if bX < bA then (none) else ((ledger_Free.f k bg.1 bg.2.1 bg.2.2.1).bind fun bS => (if bS < (IntKind.u64.wrap (bi + (IntKind.u64.wrap (bp)))) then (none) else (postroomlaw10_LedgerEvicts.l0 k (IntKind.u64.wrap (bi + (IntKind.u64.wrap (bp)))) bA 0 bi bn bc bg.1 bg.2.1 bg.2.2.1))))) else (none)) else (none)) else (none)) else (none)))) = some r := H
 have A8 := Aside0.mk A80
 clear A80
 replace H := Option.bind_eq_some_iff.mp H
 obtain ⟨⟨br, bq, bm, hO⟩, A90, H⟩ := H
 replace H : ((ledger_Free.f k bi bn bc).bind fun bA => (if hO = 0 then (if br = (IntKind.u64.wrap (bi + (IntKind.u64.wrap (bp)))) then (if bq = bn then (if (bm.length : Int) = (bc.length : Int) then ((ledger_Free.f k br bq bm).bind fun bX => (if bX < bA then (none) else ((ledger_Free.f k br bq bm).bind fun bS => (if bS < (IntKind.u64.wrap (bi + (IntKind.u64.wrap (bp)))) then (none) else (postroomlaw10_LedgerEvicts.l0 k (IntKind.u64.wrap (bi + (IntKind.u64.wrap (bp)))) bA 0 bi bn bc br bq bm))))) else (none)) else (none)) else (none)) else (none))) = some r := H
 have A9 := Aside0.mk A90
 clear A90
 replace H := Option.bind_eq_some_iff.mp H
 obtain ⟨bA, ob, H⟩ := H
 replace H : (if hO = 0 then (if br = (IntKind.u64.wrap (bi + (IntKind.u64.wrap (bp)))) then (if bq = bn then (if (bm.length : Int) = (bc.length : Int) then ((ledger_Free.f k br bq bm).bind fun bX => (if bX < bA then (none) else ((ledger_Free.f k br bq bm).bind fun bS => (if bS < (IntKind.u64.wrap (bi + (IntKind.u64.wrap (bp)))) then (none) else (postroomlaw10_LedgerEvicts.l0 k (IntKind.u64.wrap (bi + (IntKind.u64.wrap (bp)))) bA 0 bi bn bc br bq bm))))) else (none)) else (none)) else (none)) else (none)) = some r := H
 have A10 := Aside0.mk ob
 clear ob
 by_cases c11 : hO = 0
 case neg =>
  rw [if_neg c11] at H
  exact absurd H (by simp)
 rw [if_pos c11] at H
 have ml : (hO == 0) = true := beq_iff_eq.mpr c11
 have mj : (hO != 0) = false := bne_eq_false_iff_eq.mpr c11
 clear c11
 by_cases c12 : br = (IntKind.u64.wrap (bi + (IntKind.u64.wrap (bp))))
 case neg =>
  rw [if_neg c12] at H
  exact absurd H (by simp)
 rw [if_pos c12] at H
 have mi : (br == (IntKind.u64.wrap (bi + (IntKind.u64.wrap (bp))))) = true := beq_iff_eq.mpr c12
 have mh : (br != (IntKind.u64.wrap (bi + (IntKind.u64.wrap (bp))))) = false := bne_eq_false_iff_eq.mpr c12
 clear c12
 by_cases c13 : bq = bn
 case neg =>
  rw [if_neg c13] at H
  exact absurd H (by simp)
 rw [if_pos c13] at H
 have mg : (bq == bn) = true := beq_iff_eq.mpr c13
 have mf : (bq != bn) = false := bne_eq_false_iff_eq.mpr c13
 clear c13
 by_cases c14 : (bm.length : Int) = (bc.length : Int)
 case neg =>
  rw [if_neg c14] at H
  exact absurd H (by simp)
 rw [if_pos c14] at H
 have me : ((bm.length : Int) == (bc.length : Int)) = true := beq_iff_eq.mpr c14
 have md : ((bm.length : Int) != (bc.length : Int)) = false := bne_eq_false_iff_eq.mpr c14
 have mc : (bm.length == bc.length) = true := by first | simpa using c14 | (simp at c14 ⊢; omega)
 clear c14
 replace H := Option.bind_eq_some_iff.mp H
 obtain ⟨bX, oa, H⟩ := H
 replace H : (if bX < bA then (none) else ((ledger_Free.f k br bq bm).bind fun bS => (if bS < (IntKind.u64.wrap (bi + (IntKind.u64.wrap (bp)))) then (none) else (postroomlaw10_LedgerEvicts.l0 k (IntKind.u64.wrap (bi + (IntKind.u64.wrap (bp)))) bA 0 bi bn bc br bq bm)))) = some r := H
 have A15 := Aside0.mk oa
 clear oa
 by_cases c16 : bX < bA
 ·rw [if_pos c16] at H
  exact absurd H (by simp)
 rw [if_neg c16] at H
 have mb : decide (bX < bA) = false := decide_eq_false c16
 clear c16
 replace H := Option.bind_eq_some_iff.mp H
 obtain ⟨bS, m9, H⟩ := H
 replace H : (if bS < (IntKind.u64.wrap (bi + (IntKind.u64.wrap (bp)))) then (none) else (postroomlaw10_LedgerEvicts.l0 k (IntKind.u64.wrap (bi + (IntKind.u64.wrap (bp)))) bA 0 bi bn bc br bq bm)) = some r := H
 have A17 := Aside0.mk m9
 clear m9
 by_cases c18 : bS < (IntKind.u64.wrap (bi + (IntKind.u64.wrap (bp))))
 ·rw [if_pos c18] at H
  exact absurd H (by simp)
 rw [if_neg c18] at H
 have jg : decide (bS < (IntKind.u64.wrap (bi + (IntKind.u64.wrap (bp))))) = false := decide_eq_false c18
 have c_same : decide (bX < (IntKind.u64.wrap (bi + (IntKind.u64.wrap (bp))))) = false := (congrArg (fun z => decide (z < (IntKind.u64.wrap (bi + (IntKind.u64.wrap (bp)))))) (Option.some.inj (A15.out.symm.trans A17.out))).trans jg
 clear c18
 have H' := Aside0.mk H
 clear H
 go_enter Tryd.func7, Tryd.ntmps7
 try go_wp2_with (first | ((with_reducible refine gate_callee (f := 10) rfl ?_); refine goesL_ (some 19) rfl rfl Tryd.func10 (by kernel_rfl) rfl #[] rfl zx29_2 ?_; (with_reducible refine (postroomlaw10_shown.calls k  true _ A3.out).mono ?_); rintro e w19 ⟨rfl, hb⟩; refine ⟨_, rfl, ?_⟩; replace HB := Aside0.mk (below_step zx29_6 hb); (try clear hb); (try clear hb2); (try clear hk); (try clear hi)) | ((with_reducible refine gate_callee (f := 11) rfl ?_); refine goesL_ (some 29) rfl rfl Tryd.func11 (by kernel_rfl) rfl #[.slice A0 l0.length c0] rfl zx29_2 ?_; (with_reducible refine (postroomlaw10_run.calls k _ _ l0 bi bn bc _ ?side1 ?side2 A7.out).mono ?_); (case side1 => repeat (first | exact (Kd.C_below HR0.out HB.out) | (with_reducible refine Kd.C_alloc ?_ _) | (with_reducible refine Kd.C_drewN ?_ _) | (with_reducible refine Kd.C_drew ?_))); (case side2 => exact HC0.out); rintro e w20 ⟨q2, rfl, ho0, hb⟩; refine ⟨_, rfl, ?_⟩; have bK := Aside0.mk (Kd.V_lower (Kd.V_mono (ok' := fun k_ => True) ho0 (fun k_ hk_ => trivial)) (below_size zx29_6)); replace HB := Aside0.mk (below_step zx29_6 hb); (try clear hb); (try clear hb2); (try clear hk); (try clear hi); (try clear ho0)) | ((with_reducible refine gate_dst (N := 6) rfl ?_); (try (refine gate_guard (by rfl) ?_; dsimp only)); refine box_event ?hg (N := 6) ?hd (cs := #[.int .u64 0, .int .u64 0, .slice none 0 0]) (t := 27) ?hr ?_; (case hd => rfl); (case hg => rfl); (case hr => first | (go_simp; done) | (go_simp; rfl)); intro bf hg w21 hbox hb; replace bK := Aside0.mk (Kd.V_below (Kd.V_elderB zx29_12 bf (Nat.le_of_eq hg.symm)) hb); have be := Aside0.mk (hbox); have qW := Aside0.mk ((by rw [hg]; exact (below_size zx29_6) : w.heap.size ≤ bf)); have b7 := Aside0.mk ((by rw [hg]; exact (below_size zx29_6) : w.heap.size ≤ bf)); replace HB := Aside0.mk (below_step zx29_6 hb); clear hb hbox hg; have hL : w21.cell? ⟨bf, 0, none⟩ = some (.int .u64 0) := (blk_cell be.out 0).trans rfl; have hJ : w21.cell? ⟨bf, 1, none⟩ = some (.int .u64 0) := (blk_cell be.out 1).trans rfl; have hI : w21.cell? ⟨bf, 2, none⟩ = some (.slice none 0 0) := (blk_cell be.out 2).trans rfl; have hl := blk_frozen be.out 0; have hj := blk_frozen be.out 1; have hh := blk_frozen be.out 2; obtain ⟨bD, bz, o4⟩ := Kd.V_slice bK.out; subst o4))
 have n0_ : Aside0 (Kd.V k37 37 (((w21.setCell ⟨bf, 0, none⟩ (.int .u64 bi)).setCell ⟨bf, 1, none⟩ (.int .u64 bn)).setCell ⟨bf, 2, none⟩ (.slice bD bc.length bz)) w.heap.size (fun k_ => k_ ≠ bf) (.slice bD bc.length bz) bc) := ⟨by (with_reducible repeat (first | apply Kd.V_alloc | apply Kd.V_drewN | apply Kd.V_drew)); exact Kd.V_mono (Kd.V_far (p := ⟨bf, 2, none⟩) (Kd.V_far (p := ⟨bf, 1, none⟩) (Kd.V_far (p := ⟨bf, 0, none⟩) (Kd.V_mono bK.out (fun k_ hk => (⟨hk, hk.2⟩ : _ ∧ k_ ≠ bf))) (fun _ hk => hk.2) (.int .u64 bi)) (fun _ hk => hk.2) (.int .u64 bn)) (fun _ hk => hk.2) (.slice bD bc.length bz)) (fun _ hk => hk.1.2)⟩
 have n1_ : Aside0 ((((w21.setCell ⟨bf, 0, none⟩ (.int .u64 bi)).setCell ⟨bf, 1, none⟩ (.int .u64 bn)).setCell ⟨bf, 2, none⟩ (.slice bD bc.length bz)).heap[bf]? = some (.cells #[.int .u64 bi, .int .u64 bn, .slice bD bc.length bz] 27 (0, 0))) := ⟨by (with_reducible repeat (first | refine blk_drewN ?_ _ | refine blk_drew ?_ | refine blk_alloc ?_ _)); refine blk_put (cs := #[.int .u64 bi, .int .u64 bn, .slice none 0 0]) ?_ 2 _ rfl; (with_reducible repeat (first | refine blk_drewN ?_ _ | refine blk_drew ?_ | refine blk_alloc ?_ _)); refine blk_put (cs := #[.int .u64 bi, .int .u64 0, .slice none 0 0]) ?_ 1 _ rfl; (with_reducible repeat (first | refine blk_drewN ?_ _ | refine blk_drew ?_ | refine blk_alloc ?_ _)); refine blk_put (cs := #[.int .u64 0, .int .u64 0, .slice none 0 0]) ?_ 0 _ rfl; (with_reducible repeat (first | refine blk_drewN ?_ _ | refine blk_drew ?_ | refine blk_alloc ?_ _)); exact be.out⟩
 have n2_ : Aside0 (Below w.heap.size w (((w21.setCell ⟨bf, 0, none⟩ (.int .u64 bi)).setCell ⟨bf, 1, none⟩ (.int .u64 bn)).setCell ⟨bf, 2, none⟩ (.slice bD bc.length bz))) := ⟨by repeat (first | (with_reducible first | exact HB.out | apply below_alloc | apply pw_below_drewN | apply below_drew1 | refine below_set ?_ b7.out) | exact HB.out)⟩
 (try clear bK)
 (try clear be)
 (try clear HB)
 generalize (((w21.setCell ⟨bf, 0, none⟩ (.int .u64 bi)).setCell ⟨bf, 1, none⟩ (.int .u64 bn)).setCell ⟨bf, 2, none⟩ (.slice bD bc.length bz)) = w24 at n0_ n1_ n2_ ⊢
 have bK := n0_
 have be := n1_
 have HB := n2_
 clear n0_ n1_ n2_
 replace bK := Aside0.mk (Kd.V_drew bK.out)
 replace be := Aside0.mk (blk_drew be.out)
 replace HB := Aside0.mk (below_drew1 HB.out)
 refine start_ (n := 14) (S := fun w' => w'.cell? ⟨bf, 0, none⟩ = some (.int .u64 bi) ∧ w'.cell? ⟨bf, 1, none⟩ = some (.int .u64 bn) ∧ w'.cell? ⟨bf, 2, none⟩ = some (.slice bD bc.length bz)) (ds := []) #[Ff,Ff,Ff,Ff,Ff,Ff,Ff,Ff,Ff,Ff,Ff,Ff,Ff,Ff] (by kernel_rfl) rfl rfl ⟨(blk_cell be.out 0).trans rfl, (blk_cell be.out 1).trans rfl, (blk_cell be.out 2).trans rfl⟩ (fun hHeld => ?_); refine with_tabW postroomlaw10_LedgerEvicts.tab5 postroomlaw10_LedgerEvicts.bits5 (fun HT_ HW_ => ?_)
 generalize w24.drew = w25 at bK be HB hHeld ⊢
 refine pp_ 0 (some 30) HT_.out ?_
 refine pp_ 2 (some 32) HT_.out ?_
 refine pp_ 3 (some 33) HT_.out ?_
 refine pp_ 5 (some 35) HT_.out ?_
 refine take_ (i := 1) (N := some 31) (v := ?_) (a' := ?_) #[Tt,Tt,Tt,Tt,Ff,Tt,Ff,Ff,Ff,Ff,Ff,Ff,Ff,Ff] rfl rfl (take_ofW HT_.out HW_.out (by kernel_rfl)) (fun _ _ _ h => h) (Or.inl ⟨by rfl, ?_⟩) hHeld ?_ ?_
 rotate_left
 ·rintro w' ⟨s0, s1, s2⟩
  go_simp
  with_reducible rfl
 rotate_left
 ·simp only [Act.put, List.setIfInBounds_toArray, List.set_cons_zero, List.set_cons_succ, i64_w, i32_w]
  rfl
 refine take_ (i := 4) (N := some 34) (v := ?_) (a' := ?_) #[Tt,Tt,Tt,Tt,Tt,Tt,Ff,Ff,Ff,Ff,Ff,Ff,Ff,Ff] rfl rfl (take_ofW HT_.out HW_.out (by kernel_rfl)) (fun _ _ _ h => h) (Or.inl ⟨by rfl, ?_⟩) hHeld ?_ ?_
 rotate_left
 ·rintro w' ⟨s0, s1, s2⟩
  go_simp
  with_reducible rfl
 rotate_left
 ·simp only [Act.put, List.setIfInBounds_toArray, List.set_cons_zero, List.set_cons_succ, i64_w, i32_w]
  rfl
 refine take_ (i := 6) (N := some 36) (v := ?_) (a' := ?_) #[Tt,Tt,Tt,Tt,Tt,Tt,Tt,Ff,Ff,Ff,Ff,Ff,Ff,Ff] rfl rfl (take_ofW HT_.out HW_.out (by kernel_rfl)) (fun _ _ _ h => h) (Or.inl ⟨by rfl, ?_⟩) hHeld ?_ ?_
 rotate_left
 ·rintro w' ⟨s0, s1, s2⟩
  go_simp
  with_reducible rfl
 rotate_left
 ·simp only [Act.put, List.setIfInBounds_toArray, List.set_cons_zero, List.set_cons_succ, i64_w, i32_w]
  rfl
 refine pp_ 7 (some 37) HT_.out ?_
 refine pp_ 8 (some 38) HT_.out ?_
 refine pp_ 9 (some 39) HT_.out ?_
 refine one_ (i := 10) (N := some 40) #[Tt,Tt,Tt,Tt,Tt,Tt,Tt,Tt,Tt,Tt,Tt,Ff,Ff,Ff] rfl rfl (one_of HT_.out (by kernel_rfl)) (by decide) (fun K hK => ?_)
 refine goes_ Tryd.func15 (by kernel_rfl) rfl #[.int .i64 a1, .int .i64 (wrap64 ((wrap64 (IntKind.u64.wrap (bn - bi))) + 1))] (by rfl) rfl rfl zx29_2 ?_
 with_reducible refine (postroomlaw10_pick.calls a1 (wrap64 ((wrap64 (IntKind.u64.wrap (bn - bi))) + 1)) bp _ A8.out).mono ?_
 rintro e w' ⟨rfl, ⟨nd, rfl⟩⟩
 refine ⟨_, rfl, ?_⟩
 refine hK.out _ _ ⟨(blk_cell be.out 0).trans rfl, (blk_cell be.out 1).trans rfl, (blk_cell be.out 2).trans rfl⟩ (fun hHeld => ?_)
 clear hK K
 refine norm_ (a' := ?_) ?_ ?_
 rotate_left
 ·show Act.put _ (some 40) _ = _
  simp only [Act.put, List.setIfInBounds_toArray, List.set_cons_zero, List.set_cons_succ, i64_w, i32_w]
  rfl
 refine pp_ 11 (some 41) HT_.out ?_
 refine pp_ 12 (some 42) HT_.out ?_
 refine pp_ 13 (some 7) HT_.out ?_
 refine done_ (done_of HT_.out (by kernel_rfl)) ?_
 obtain ⟨hH, hG, hF, hf, he, hc⟩ := cx29_bc3 be.out
 try go_wp2_with (first | ((with_reducible refine gate_callee (f := 23) rfl ?_); refine goesL_ (some 46) rfl rfl Tryd.func23 (by kernel_rfl) rfl #[.agg #[.int .u64 bi, .int .u64 bn, .slice bD bc.length bz], .int .u64 (IntKind.u64.wrap (bi + (IntKind.u64.wrap (bp))))] rfl zx29_2 ?_; (with_reducible refine (ledger_Evict.calls k bi bn (fun k_ => k_ ≠ bf) _ _ bc (IntKind.u64.wrap (bi + (IntKind.u64.wrap (bp)))) br bq bm hO _ ?side1 A9.out).mono ?_); (case side1 => exact bK.out); rintro e w27 ⟨q1, rfl, ho0, hb⟩; refine ⟨_, rfl, ?_⟩; replace bK := Aside0.mk (Kd.V_below zx29_12 hb); have bV := Aside0.mk (Kd.V_lower (Kd.V_mono (ok' := fun k_ => k_ ≠ bf) ho0 (fun k_ hk_ => Or.elim hk_ (fun hs_ => hs_) (fun hn_ => (Kd.freshB (g := bf) (o := .cells #[.int .u64 bi, .int .u64 bn, .slice bD bc.length bz] 27 (0, 0)) zx29_1 k_ hn_)))) (below_size zx29_7)); replace be := Aside0.mk (blk_below (g := bf) (o := .cells #[.int .u64 bi, .int .u64 bn, .slice bD bc.length bz] 27 (0, 0)) zx29_1 hb); replace HB := Aside0.mk (below_step zx29_7 hb); (try clear hb); (try clear hb2); (try clear hk); (try clear hi); (try clear ho0)) | ((with_reducible refine gate_dst (N := 8) rfl ?_); (try (refine gate_guard (by rfl) ?_; dsimp only)); refine box_event ?hg (N := 8) ?hd (cs := #[.int .u64 0, .int .u64 0, .slice none 0 0]) (t := 27) ?hr ?_; (case hd => rfl); (case hg => rfl); (case hr => first | (go_simp; done) | (go_simp; rfl)); intro bl hg w28 hbox hb; replace bK := Aside0.mk (Kd.V_below (Kd.V_elderB zx29_12 bl (Nat.le_of_eq hg.symm)) hb); replace bV := Aside0.mk (Kd.V_below (Kd.V_elderB (by (with_reducible repeat (first | apply Kd.V_alloc | apply Kd.V_drewN | apply Kd.V_drew)); exact bV.out) bl (Nat.le_of_eq hg.symm)) hb); have bj := Aside0.mk (hbox); have qV := Aside0.mk ((by rw [hg]; exact (below_size zx29_7) : w.heap.size ≤ bl)); have dq := Aside0.mk ((by rw [hg]; exact (below_size zx29_7) : w.heap.size ≤ bl)); replace HB := Aside0.mk (below_step zx29_7 hb); have b8 := Aside0.mk ((by rw [hg]; exact Nat.ne_of_lt (blk_lt (g := bf) (o := .cells #[.int .u64 bi, .int .u64 bn, .slice bD bc.length bz] 27 (0, 0)) zx29_1) : bf ≠ bl)); have dr := Aside0.mk ((by rw [hg]; exact Nat.ne_of_gt (blk_lt (g := bf) (o := .cells #[.int .u64 bi, .int .u64 bn, .slice bD bc.length bz] 27 (0, 0)) zx29_1) : bl ≠ bf)); replace be := Aside0.mk (blk_below (g := bf) (o := .cells #[.int .u64 bi, .int .u64 bn, .slice bD bc.length bz] 27 (0, 0)) zx29_1 hb); clear hb hbox hg; have qy := dr.out; have qq := b8.out; have hE : w28.cell? ⟨bl, 0, none⟩ = some (.int .u64 0) := (blk_cell bj.out 0).trans rfl; have hD : w28.cell? ⟨bl, 1, none⟩ = some (.int .u64 0) := (blk_cell bj.out 1).trans rfl; have hC : w28.cell? ⟨bl, 2, none⟩ = some (.slice none 0 0) := (blk_cell bj.out 2).trans rfl; have ha := blk_frozen bj.out 0; have gZ := blk_frozen bj.out 1; have gY := blk_frozen bj.out 2; obtain ⟨bL, bE, o3⟩ := Kd.V_slice bV.out; subst o3; have hB : w28.cell? ⟨bf, 0, none⟩ = some (.int .u64 bi) := (blk_cell be.out 0).trans rfl; have hA : w28.cell? ⟨bf, 1, none⟩ = some (.int .u64 bn) := (blk_cell be.out 1).trans rfl; have hz : w28.cell? ⟨bf, 2, none⟩ = some (.slice bD bc.length bz) := (blk_cell be.out 2).trans rfl; have gX := blk_frozen be.out 0; have gW := blk_frozen be.out 1; have gV := blk_frozen be.out 2) | ((with_reducible refine gate_callee (f := 22) rfl ?_); refine goesL_ (some 50) rfl rfl Tryd.func22 (by kernel_rfl) rfl #[.agg #[.int .u64 bi, .int .u64 bn, .slice bD bc.length bz]] rfl zx29_2 ?_; (with_reducible refine (ledger_Free.calls k bi bn _ _ bc bA _ ?side1 ?side2 A10.out).mono ?_); (case side1 => refine (Kd.V_reads' (e := 37) (base := w.heap.size) (ok := fun k_ => (k_ ≠ bf ∧ k_ ≠ bl)) (n := bc.length) (c := bz) ?_).2.2; exact zx29_11); (case side2 => exact (Kd.V_reads' bK.out).2.1); rintro e w33 ⟨rfl, hb⟩; refine ⟨_, rfl, ?_⟩; replace bK := Aside0.mk (Kd.V_below zx29_11 hb); replace bV := Aside0.mk (Kd.V_below (by (with_reducible repeat (first | apply Kd.V_alloc | apply Kd.V_drewN | apply Kd.V_drew)); exact (Kd.V_mono (Kd.V_far (p := ⟨bl, 2, none⟩) (Kd.V_far (p := ⟨bl, 1, none⟩) (Kd.V_far (p := ⟨bl, 0, none⟩) (Kd.V_mono bV.out (fun k_ hk => (⟨hk, hk.2⟩ : _ ∧ k_ ≠ bl))) (fun _ hk => hk.2) (.int .u64 br)) (fun _ hk => hk.2) (.int .u64 bq)) (fun _ hk => hk.2) (.slice bL bm.length bE)) (fun _ h_ => h_.1))) hb); replace be := Aside0.mk (blk_below (g := bf) (o := .cells #[.int .u64 bi, .int .u64 bn, .slice bD bc.length bz] 27 (0, 0)) (by (iterate 3 ((with_reducible repeat (first | refine blk_drewN ?_ _ | refine blk_drew ?_ | refine blk_alloc ?_ _)); refine blk_far ?_ b8.out _)); (with_reducible repeat (first | refine blk_drewN ?_ _ | refine blk_drew ?_ | refine blk_alloc ?_ _)); exact be.out) hb); replace bj := Aside0.mk (blk_below (g := bl) (o := .cells #[.int .u64 br, .int .u64 bq, .slice bL bm.length bE] 27 (0, 0)) (by (with_reducible repeat (first | refine blk_drewN ?_ _ | refine blk_drew ?_ | refine blk_alloc ?_ _)); refine blk_put (cs := #[.int .u64 br, .int .u64 bq, .slice none 0 0]) ?_ 2 _ rfl; (with_reducible repeat (first | refine blk_drewN ?_ _ | refine blk_drew ?_ | refine blk_alloc ?_ _)); refine blk_put (cs := #[.int .u64 br, .int .u64 0, .slice none 0 0]) ?_ 1 _ rfl; (with_reducible repeat (first | refine blk_drewN ?_ _ | refine blk_drew ?_ | refine blk_alloc ?_ _)); refine blk_put (cs := #[.int .u64 0, .int .u64 0, .slice none 0 0]) ?_ 0 _ rfl; (with_reducible repeat (first | refine blk_drewN ?_ _ | refine blk_drew ?_ | refine blk_alloc ?_ _)); exact bj.out) hb); replace HB := Aside0.mk (below_step zx29_0 hb); (try clear hb); (try clear hb2); (try clear hk); (try clear hi); have hy : w33.cell? ⟨bl, 0, none⟩ = some (.int .u64 br) := (blk_cell bj.out 0).trans rfl; have hx : w33.cell? ⟨bl, 1, none⟩ = some (.int .u64 bq) := (blk_cell bj.out 1).trans rfl; have hv : w33.cell? ⟨bl, 2, none⟩ = some (.slice bL bm.length bE) := (blk_cell bj.out 2).trans rfl; have gU := blk_frozen bj.out 0; have gT := blk_frozen bj.out 1; have gS := blk_frozen bj.out 2; have hu : w33.cell? ⟨bf, 0, none⟩ = some (.int .u64 bi) := (blk_cell be.out 0).trans rfl; have ht : w33.cell? ⟨bf, 1, none⟩ = some (.int .u64 bn) := (blk_cell be.out 1).trans rfl; have hs : w33.cell? ⟨bf, 2, none⟩ = some (.slice bD bc.length bz) := (blk_cell be.out 2).trans rfl; have gR := blk_frozen be.out 0; have gQ := blk_frozen be.out 1; have gP := blk_frozen be.out 2) | (go_at_call 22; (with_reducible refine (ledger_Free.calls k br bq _ _ bm bX _ ?side1 ?side2 A15.out).mono ?_); (case side1 => repeat (first | exact (Kd.V_reads' bV.out).2.2 | (with_reducible refine Kd.C_alloc ?_ _) | (with_reducible refine Kd.C_drewN ?_ _) | (with_reducible refine Kd.C_drew ?_))); (case side2 => exact (Kd.V_reads' bV.out).2.1); rintro e w36 ⟨rfl, hb⟩; replace bK := Aside0.mk (Kd.V_below zx29_12 hb); replace bV := Aside0.mk (Kd.V_below (by (with_reducible repeat (first | apply Kd.V_alloc | apply Kd.V_drewN | apply Kd.V_drew)); exact bV.out) hb); replace be := Aside0.mk (blk_below (g := bf) (o := .cells #[.int .u64 bi, .int .u64 bn, .slice bD bc.length bz] 27 (0, 0)) zx29_1 hb); replace bj := Aside0.mk (blk_below (g := bl) (o := .cells #[.int .u64 br, .int .u64 bq, .slice bL bm.length bE] 27 (0, 0)) zx29_3 hb); replace HB := Aside0.mk (below_step zx29_0 hb); (try clear hb); (try clear hb2); (try clear hk); (try clear hi); have hq : w36.cell? ⟨bl, 0, none⟩ = some (.int .u64 br) := (blk_cell bj.out 0).trans rfl; have hp : w36.cell? ⟨bl, 1, none⟩ = some (.int .u64 bq) := (blk_cell bj.out 1).trans rfl; have hm : w36.cell? ⟨bl, 2, none⟩ = some (.slice bL bm.length bE) := (blk_cell bj.out 2).trans rfl; have gO := blk_frozen bj.out 0; have gN := blk_frozen bj.out 1; have gM := blk_frozen bj.out 2) | (go_at_call 22; (with_reducible refine (ledger_Free.calls k br bq _ _ bm bS _ ?side1 ?side2 A17.out).mono ?_); (case side1 => repeat (first | exact (Kd.V_reads' bV.out).2.2 | (with_reducible refine Kd.C_alloc ?_ _) | (with_reducible refine Kd.C_drewN ?_ _) | (with_reducible refine Kd.C_drew ?_))); (case side2 => exact (Kd.V_reads' bV.out).2.1); rintro e w38 ⟨rfl, hb⟩; replace bK := Aside0.mk (Kd.V_below zx29_12 hb); replace bV := Aside0.mk (Kd.V_below (by (with_reducible repeat (first | apply Kd.V_alloc | apply Kd.V_drewN | apply Kd.V_drew)); exact bV.out) hb); replace be := Aside0.mk (blk_below (g := bf) (o := .cells #[.int .u64 bi, .int .u64 bn, .slice bD bc.length bz] 27 (0, 0)) zx29_1 hb); replace bj := Aside0.mk (blk_below (g := bl) (o := .cells #[.int .u64 br, .int .u64 bq, .slice bL bm.length bE] 27 (0, 0)) zx29_3 hb); replace HB := Aside0.mk (below_step zx29_0 hb); (try clear hb); (try clear hb2); (try clear hk); (try clear hi)))
 go_loopg [11] k (fun kq v11 w' => ∃ (ba : Int), v11 = .int .i64 ba ∧ Aside0 (postroomlaw10_LedgerEvicts.l0 kq (IntKind.u64.wrap (bi + (IntKind.u64.wrap (bp)))) bA ba bi bn bc br bq bm = some r) ∧ Aside0 (kq ≤ k) ∧ Aside0 (Kd.V k37 37 w' w.heap.size (fun k_ => k_ ≠ bf ∧ k_ ≠ bl) (.slice bD bc.length bz) bc) ∧ Aside0 (Kd.V k37 37 w' w.heap.size (fun k_ => k_ ≠ bf ∧ k_ ≠ bl) (.slice bL bm.length bE) bm) ∧ Aside0 (w'.heap[bf]? = some (.cells #[.int .u64 bi, .int .u64 bn, (.slice bD bc.length bz)] 27 (0, 0))) ∧ Aside0 (w'.heap[bl]? = some (.cells #[.int .u64 br, .int .u64 bq, (.slice bL bm.length bE)] 27 (0, 0))) ∧ Aside0 (Below w.heap.size w w'))
 case atStart => exact ⟨(0), zx29_14, H', ⟨Nat.le_refl _⟩, ⟨by (with_reducible repeat (first | apply Kd.V_alloc | apply Kd.V_drewN | apply Kd.V_drew)); exact bK.out⟩, ⟨by (with_reducible repeat (first | apply Kd.V_alloc | apply Kd.V_drewN | apply Kd.V_drew)); exact bV.out⟩, ⟨by (with_reducible repeat (first | refine blk_drewN ?_ _ | refine blk_drew ?_ | refine blk_alloc ?_ _)); exact be.out⟩, ⟨by (with_reducible repeat (first | refine blk_drewN ?_ _ | refine blk_drew ?_ | refine blk_alloc ?_ _)); exact bj.out⟩, ⟨by repeat (first | (with_reducible first | exact HB.out | apply below_alloc | apply pw_below_drewN | apply below_drew1 | refine below_set ?_ b7.out | refine below_set ?_ dq.out) | exact HB.out)⟩⟩
 case round =>
  clear H'
  (try clear c1); (try clear c2); (try clear p2); (try clear c4); (try clear c5); (try clear mH); (try clear mG); (try clear p6); (try clear c7); (try clear c10); (try clear c11); (try clear ml); (try clear mj); (try clear c12); (try clear mi); (try clear mh); (try clear c13); (try clear mg); (try clear mf); (try clear c14); (try clear me); (try clear md); (try clear mc); (try clear c15); (try clear c16); (try clear mb); (try clear c18); (try clear jg); (try clear c22); (try clear c23); (try clear c29); (try clear hL); (try clear hJ); (try clear hI); (try clear hH); (try clear hG); (try clear hF); (try clear hE); (try clear hD); (try clear hC); (try clear hB); (try clear hA); (try clear hz); (try clear hy); (try clear hx); (try clear hv); (try clear hu); (try clear ht); (try clear hs); (try clear hq); (try clear hp); (try clear hm); (try clear hl); (try clear hj); (try clear hh); (try clear hf); (try clear he); (try clear hc); (try clear ha); (try clear gZ); (try clear gY); (try clear gX); (try clear gW); (try clear gV); (try clear gU); (try clear gT); (try clear gS); (try clear gR); (try clear gQ); (try clear gP); (try clear gO); (try clear gN); (try clear gM)
  obtain ⟨ba, rfl, HA, HK1, bb, bd, be, bj, HB⟩ := hrel
  cases gk with
  | zero => exact absurd HA.out (by simp [postroomlaw10_LedgerEvicts.l0])
  | succ k1 => ?_
  have H := HA.out
  clear HA
  simp only [postroomlaw10_LedgerEvicts.l0] at H
  by_cases c39 : ba < (bc.length : Int)
  case neg =>
   rw [if_neg c39] at H
   have ma : decide (ba < (bc.length : Int)) = false := decide_eq_false c39
   clear c39
   replace H := Option.bind_eq_some_iff.mp H
   obtain ⟨⟨dt, dC, dH, hN⟩, m3, H⟩ := H
   replace H : ((ledger_Evict.f k1 br bq bm (IntKind.u64.wrap (bq + 1))).bind fun jh => (if hN = 1 then (some (jh.2.2.2 == 1)) else (none))) = some r := H
   have A77 := Aside0.mk m3
   clear m3
   replace H := Option.bind_eq_some_iff.mp H
   obtain ⟨⟨oU, oT, oS, mJ⟩, m2, H⟩ := H
   replace H : (if hN = 1 then (some (mJ == 1)) else (none)) = some r := H
   have A78 := Aside0.mk m2
   clear m2
   by_cases c79 : hN = 1
   case neg =>
    rw [if_neg c79] at H
    exact absurd H (by simp)
   rw [if_pos c79] at H
   have qD : (hN == 1) = true := beq_iff_eq.mpr c79
   have qC : (hN != 1) = false := bne_eq_false_iff_eq.mpr c79
   clear c79
   obtain rfl := Option.some.inj H
   have qw := b8.out
   have qo := dr.out
   obtain ⟨oO, oN, oM, oz, oy, ox⟩ := cx29_bc3 be.out
   obtain ⟨oL, oK, oJ, ow, ov, ou⟩ := cx29_bc3 bj.out
   go_wp2_with (first | ((with_reducible refine gate_callee (f := 23) rfl ?_); refine goesL_ (some 165) rfl rfl Tryd.func23 (by kernel_rfl) rfl #[.agg #[.int .u64 br, .int .u64 bq, .slice bL bm.length bE], .int .u64 (IntKind.u64.wrap ((IntKind.u64.wrap (bi + (IntKind.u64.wrap (bp)))) - 1))] rfl zx29_2 ?_; (with_reducible refine (ledger_Evict.calls k1 br bq (fun k_ => (k_ ≠ bf ∧ k_ ≠ bl)) _ _ bm (IntKind.u64.wrap ((IntKind.u64.wrap (bi + (IntKind.u64.wrap (bp)))) - 1)) dt dC dH hN _ ?side1 A77.out).mono ?_); (case side1 => exact bd.out); rintro e w83 ⟨q0, rfl, ho0, hb⟩; refine ⟨_, rfl, ?_⟩; replace bb := Aside0.mk (Kd.V_below zx29_8 hb); replace bd := Aside0.mk (Kd.V_below zx29_9 hb); have dM := Aside0.mk (Kd.V_lower (Kd.V_mono (ok' := fun k_ => k_ ≠ bf ∧ k_ ≠ bl) ho0 (fun k_ hk_ => ⟨Or.elim hk_ (fun hs_ => hs_.1) (fun hn_ => (Kd.freshB (g := bf) (o := .cells #[.int .u64 bi, .int .u64 bn, .slice bD bc.length bz] 27 (0, 0)) zx29_1 k_ hn_)), Or.elim hk_ (fun hs_ => hs_.2) (fun hn_ => (Kd.freshB (g := bl) (o := .cells #[.int .u64 br, .int .u64 bq, .slice bL bm.length bE] 27 (0, 0)) zx29_3 k_ hn_))⟩)) (below_size zx29_0)); replace be := Aside0.mk (blk_below (g := bf) (o := .cells #[.int .u64 bi, .int .u64 bn, .slice bD bc.length bz] 27 (0, 0)) zx29_1 hb); replace bj := Aside0.mk (blk_below (g := bl) (o := .cells #[.int .u64 br, .int .u64 bq, .slice bL bm.length bE] 27 (0, 0)) zx29_3 hb); replace HB := Aside0.mk (below_step zx29_0 hb); (try clear hb); (try clear hb2); (try clear hk); (try clear hi); (try clear ho0)) | ((with_reducible refine gate_dst (N := 15) rfl ?_); (try (refine gate_guard (by rfl) ?_; dsimp only)); refine box_event ?hg (N := 15) ?hd (cs := #[.int .u64 0, .int .u64 0, .slice none 0 0]) (t := 27) ?hr ?_; (case hd => rfl); (case hg => rfl); (case hr => first | (go_simp; done) | (go_simp; rfl)); intro bu hg w84 hbox hb; replace bb := Aside0.mk (Kd.V_below (Kd.V_elderB zx29_8 bu (Nat.le_of_eq hg.symm)) hb); replace bd := Aside0.mk (Kd.V_below (Kd.V_elderB zx29_9 bu (Nat.le_of_eq hg.symm)) hb); replace dM := Aside0.mk (Kd.V_below (Kd.V_elderB (by (with_reducible repeat (first | apply Kd.V_alloc | apply Kd.V_drewN | apply Kd.V_drew)); exact dM.out) bu (Nat.le_of_eq hg.symm)) hb); have bW := Aside0.mk (hbox); have qU := Aside0.mk ((by rw [hg]; exact (below_size zx29_0) : w.heap.size ≤ bu)); have mq := Aside0.mk ((by rw [hg]; exact (below_size zx29_0) : w.heap.size ≤ bu)); replace HB := Aside0.mk (below_step zx29_0 hb); have dJ := Aside0.mk ((by rw [hg]; exact Nat.ne_of_lt (blk_lt (g := bf) (o := .cells #[.int .u64 bi, .int .u64 bn, .slice bD bc.length bz] 27 (0, 0)) zx29_1) : bf ≠ bu)); have hU := Aside0.mk ((by rw [hg]; exact Nat.ne_of_gt (blk_lt (g := bf) (o := .cells #[.int .u64 bi, .int .u64 bn, .slice bD bc.length bz] 27 (0, 0)) zx29_1) : bu ≠ bf)); replace be := Aside0.mk (blk_below (g := bf) (o := .cells #[.int .u64 bi, .int .u64 bn, .slice bD bc.length bz] 27 (0, 0)) zx29_1 hb); have dI := Aside0.mk ((by rw [hg]; exact Nat.ne_of_lt (blk_lt (g := bl) (o := .cells #[.int .u64 br, .int .u64 bq, .slice bL bm.length bE] 27 (0, 0)) zx29_3) : bl ≠ bu)); have hT := Aside0.mk ((by rw [hg]; exact Nat.ne_of_gt (blk_lt (g := bl) (o := .cells #[.int .u64 br, .int .u64 bq, .slice bL bm.length bE] 27 (0, 0)) zx29_3) : bu ≠ bl)); replace bj := Aside0.mk (blk_below (g := bl) (o := .cells #[.int .u64 br, .int .u64 bq, .slice bL bm.length bE] 27 (0, 0)) zx29_3 hb); clear hb hbox hg; have qv := hU.out; have qn := dJ.out; have qu := hT.out; have qm := dI.out; have oI : w84.cell? ⟨bu, 0, none⟩ = some (.int .u64 0) := (blk_cell bW.out 0).trans rfl; have oH : w84.cell? ⟨bu, 1, none⟩ = some (.int .u64 0) := (blk_cell bW.out 1).trans rfl; have oG : w84.cell? ⟨bu, 2, none⟩ = some (.slice none 0 0) := (blk_cell bW.out 2).trans rfl; have ot := blk_frozen bW.out 0; have os := blk_frozen bW.out 1; have oq := blk_frozen bW.out 2; obtain ⟨gb, d7, oY⟩ := Kd.V_slice dM.out; subst oY) | ((with_reducible refine gate_store (t := 27) (p := 15) rfl ?_); refine store_event (t := 27) (p := 15) (v := ?vo_w89) (w1 := (((w84.setCell ⟨bu, 0, none⟩ (.int .u64 dt)).setCell ⟨bu, 1, none⟩ (.int .u64 dC)).setCell ⟨bu, 2, none⟩ (.slice gb dH.length d7))) ?hg ?ho ?hn ?hr ?_; (case ho => rfl); (case hg => rfl); (case hn => rfl); (case hr => first | (go_simp; done) | (go_simp; rfl)); intro w89 hw; have n0_ : Aside0 (Kd.V k37 37 w89 w.heap.size (fun k_ => k_ ≠ bf ∧ k_ ≠ bl ∧ k_ ≠ bu) (.slice bD bc.length bz) bc) := ⟨(by rw [hw]; exact (by (with_reducible repeat (first | apply Kd.V_alloc | apply Kd.V_drewN | apply Kd.V_drew)); exact Kd.V_mono (Kd.V_far (p := ⟨bu, 2, none⟩) (Kd.V_far (p := ⟨bu, 1, none⟩) (Kd.V_far (p := ⟨bu, 0, none⟩) (Kd.V_mono bb.out (fun k_ hk => (⟨hk, hk.2⟩ : _ ∧ k_ ≠ bu))) (fun _ hk => hk.2) (.int .u64 dt)) (fun _ hk => hk.2) (.int .u64 dC)) (fun _ hk => hk.2) (.slice gb dH.length d7)) (fun _ hk => ⟨hk.1.1.1, ⟨hk.1.1.2, hk.1.2⟩⟩)))⟩; have n1_ : Aside0 (Kd.V k37 37 w89 w.heap.size (fun k_ => k_ ≠ bf ∧ k_ ≠ bl ∧ k_ ≠ bu) (.slice bL bm.length bE) bm) := ⟨(by rw [hw]; exact (by (with_reducible repeat (first | apply Kd.V_alloc | apply Kd.V_drewN | apply Kd.V_drew)); exact Kd.V_mono (Kd.V_far (p := ⟨bu, 2, none⟩) (Kd.V_far (p := ⟨bu, 1, none⟩) (Kd.V_far (p := ⟨bu, 0, none⟩) (Kd.V_mono bd.out (fun k_ hk => (⟨hk, hk.2⟩ : _ ∧ k_ ≠ bu))) (fun _ hk => hk.2) (.int .u64 dt)) (fun _ hk => hk.2) (.int .u64 dC)) (fun _ hk => hk.2) (.slice gb dH.length d7)) (fun _ hk => ⟨hk.1.1.1, ⟨hk.1.1.2, hk.1.2⟩⟩)))⟩; have n3_ : Aside0 (w89.heap[bf]? = some (.cells #[.int .u64 bi, .int .u64 bn, .slice bD bc.length bz] 27 (0, 0))) := ⟨(by rw [hw]; exact (by (iterate 3 ((with_reducible repeat (first | refine blk_drewN ?_ _ | refine blk_drew ?_ | refine blk_alloc ?_ _)); refine blk_far ?_ dJ.out _)); (with_reducible repeat (first | refine blk_drewN ?_ _ | refine blk_drew ?_ | refine blk_alloc ?_ _)); exact be.out))⟩; have n4_ : Aside0 (w89.heap[bl]? = some (.cells #[.int .u64 br, .int .u64 bq, .slice bL bm.length bE] 27 (0, 0))) := ⟨(by rw [hw]; exact (by (iterate 3 ((with_reducible repeat (first | refine blk_drewN ?_ _ | refine blk_drew ?_ | refine blk_alloc ?_ _)); refine blk_far ?_ dI.out _)); (with_reducible repeat (first | refine blk_drewN ?_ _ | refine blk_drew ?_ | refine blk_alloc ?_ _)); exact bj.out))⟩; have n5_ : Aside0 (w89.heap[bu]? = some (.cells #[.int .u64 dt, .int .u64 dC, .slice gb dH.length d7] 27 (0, 0))) := ⟨(by rw [hw]; exact (by (with_reducible repeat (first | refine blk_drewN ?_ _ | refine blk_drew ?_ | refine blk_alloc ?_ _)); refine blk_put (cs := #[.int .u64 dt, .int .u64 dC, .slice none 0 0]) ?_ 2 _ rfl; (with_reducible repeat (first | refine blk_drewN ?_ _ | refine blk_drew ?_ | refine blk_alloc ?_ _)); refine blk_put (cs := #[.int .u64 dt, .int .u64 0, .slice none 0 0]) ?_ 1 _ rfl; (with_reducible repeat (first | refine blk_drewN ?_ _ | refine blk_drew ?_ | refine blk_alloc ?_ _)); refine blk_put (cs := #[.int .u64 0, .int .u64 0, .slice none 0 0]) ?_ 0 _ rfl; (with_reducible repeat (first | refine blk_drewN ?_ _ | refine blk_drew ?_ | refine blk_alloc ?_ _)); exact bW.out))⟩; have n6_ : Aside0 (Below w.heap.size w w89) := ⟨(by rw [hw]; exact zx29_5)⟩; clear hw; clear bb; clear bd; (try clear dM); clear be; clear bj; clear bW; clear HB; have bb := n0_; have bd := n1_; have be := n3_; have bj := n4_; have bW := n5_; have HB := n6_; clear n0_ n1_ n3_ n4_ n5_ n6_; have oF : w89.cell? ⟨bl, 0, none⟩ = some (.int .u64 br) := (blk_cell bj.out 0).trans rfl; have oE : w89.cell? ⟨bl, 1, none⟩ = some (.int .u64 bq) := (blk_cell bj.out 1).trans rfl; have oD : w89.cell? ⟨bl, 2, none⟩ = some (.slice bL bm.length bE) := (blk_cell bj.out 2).trans rfl; have op := blk_frozen bj.out 0; have oo := blk_frozen bj.out 1; have on := blk_frozen bj.out 2) | ((with_reducible refine gate_callee (f := 23) rfl ?_); refine goesL_ (some 173) rfl rfl Tryd.func23 (by kernel_rfl) rfl #[.agg #[.int .u64 br, .int .u64 bq, .slice bL bm.length bE], .int .u64 (IntKind.u64.wrap (bq + 1))] rfl zx29_2 ?_; (with_reducible refine (ledger_Evict.calls k1 br bq (fun k_ => (k_ ≠ bf ∧ (k_ ≠ bl ∧ k_ ≠ bu))) _ _ bm (IntKind.u64.wrap (bq + 1)) oU oT oS mJ _ ?side1 A78.out).mono ?_); (case side1 => exact bd.out); rintro e w91 ⟨qZ, rfl, ho0, hb⟩; refine ⟨_, rfl, ?_⟩; have n0_ := Aside0.mk (Kd.V_below zx29_8 hb); have n1_ := Aside0.mk (Kd.V_below zx29_9 hb); have n3_ := Aside0.mk (Kd.V_lower (Kd.V_mono (ok' := fun k_ => k_ ≠ bf ∧ k_ ≠ bl ∧ k_ ≠ bu) ho0 (fun k_ hk_ => ⟨Or.elim hk_ (fun hs_ => hs_.1) (fun hn_ => (Kd.freshB (g := bf) (o := .cells #[.int .u64 bi, .int .u64 bn, .slice bD bc.length bz] 27 (0, 0)) zx29_1 k_ hn_)), Or.elim hk_ (fun hs_ => hs_.2.1) (fun hn_ => (Kd.freshB (g := bl) (o := .cells #[.int .u64 br, .int .u64 bq, .slice bL bm.length bE] 27 (0, 0)) zx29_3 k_ hn_)), Or.elim hk_ (fun hs_ => hs_.2.2) (fun hn_ => (Kd.freshB (g := bu) (o := .cells #[.int .u64 dt, .int .u64 dC, .slice gb dH.length d7] 27 (0, 0)) zx29_10 k_ hn_))⟩)) (below_size zx29_5)); have n4_ := Aside0.mk (blk_below (g := bf) (o := .cells #[.int .u64 bi, .int .u64 bn, .slice bD bc.length bz] 27 (0, 0)) zx29_1 hb); have n5_ := Aside0.mk (blk_below (g := bl) (o := .cells #[.int .u64 br, .int .u64 bq, .slice bL bm.length bE] 27 (0, 0)) zx29_3 hb); have n6_ := Aside0.mk (blk_below (g := bu) (o := .cells #[.int .u64 dt, .int .u64 dC, .slice gb dH.length d7] 27 (0, 0)) zx29_10 hb); have n7_ := Aside0.mk (below_step zx29_5 hb); clear bb; clear bd; (try clear dM); clear be; clear bj; clear bW; clear HB; have bb := n0_; have bd := n1_; have hM := n3_; have be := n4_; have bj := n5_; have bW := n6_; have HB := n7_; clear n0_ n1_ n3_ n4_ n5_ n6_ n7_; (try clear hb); (try clear hb2); (try clear hk); (try clear hi); (try clear ho0)) | ((with_reducible refine gate_dst (N := 17) rfl ?_); (try (refine gate_guard (by rfl) ?_; dsimp only)); refine box_event ?hg (N := 17) ?hd (cs := #[.int .u64 0, .int .u64 0, .slice none 0 0]) (t := 27) ?hr ?_; (case hd => rfl); (case hg => rfl); (case hr => first | (go_simp; done) | (go_simp; rfl)); intro bU hg w92 hbox hb; have n0_ := Aside0.mk (Kd.V_below (Kd.V_elderB zx29_8 bU (Nat.le_of_eq hg.symm)) hb); have n1_ := Aside0.mk (Kd.V_below (Kd.V_elderB zx29_9 bU (Nat.le_of_eq hg.symm)) hb); have n3_ := Aside0.mk (Kd.V_below (Kd.V_elderB (by (with_reducible repeat (first | apply Kd.V_alloc | apply Kd.V_drewN | apply Kd.V_drew)); exact hM.out) bU (Nat.le_of_eq hg.symm)) hb); have n4_ := Aside0.mk (blk_below (g := bf) (o := .cells #[.int .u64 bi, .int .u64 bn, .slice bD bc.length bz] 27 (0, 0)) zx29_1 hb); have n5_ := Aside0.mk (blk_below (g := bl) (o := .cells #[.int .u64 br, .int .u64 bq, .slice bL bm.length bE] 27 (0, 0)) zx29_3 hb); have n6_ := Aside0.mk (blk_below (g := bu) (o := .cells #[.int .u64 dt, .int .u64 dC, .slice gb dH.length d7] 27 (0, 0)) zx29_10 hb); have n7_ := Aside0.mk (below_step zx29_5 hb); have n8_ := Aside0.mk (hbox); have n9_ := Aside0.mk ((by rw [hg]; exact (below_size zx29_5) : w.heap.size ≤ bU)); have n10_ := Aside0.mk ((by rw [hg]; exact (below_size zx29_5) : w.heap.size ≤ bU)); have n11_ := Aside0.mk ((by rw [hg]; exact Nat.ne_of_lt (blk_lt (g := bf) (o := .cells #[.int .u64 bi, .int .u64 bn, .slice bD bc.length bz] 27 (0, 0)) zx29_1) : bf ≠ bU)); have n12_ := Aside0.mk ((by rw [hg]; exact Nat.ne_of_gt (blk_lt (g := bf) (o := .cells #[.int .u64 bi, .int .u64 bn, .slice bD bc.length bz] 27 (0, 0)) zx29_1) : bU ≠ bf)); have n13_ := Aside0.mk ((by rw [hg]; exact Nat.ne_of_lt (blk_lt (g := bl) (o := .cells #[.int .u64 br, .int .u64 bq, .slice bL bm.length bE] 27 (0, 0)) zx29_3) : bl ≠ bU)); have n14_ := Aside0.mk ((by rw [hg]; exact Nat.ne_of_gt (blk_lt (g := bl) (o := .cells #[.int .u64 br, .int .u64 bq, .slice bL bm.length bE] 27 (0, 0)) zx29_3) : bU ≠ bl)); have n15_ := Aside0.mk ((by rw [hg]; exact Nat.ne_of_lt (blk_lt (g := bu) (o := .cells #[.int .u64 dt, .int .u64 dC, .slice gb dH.length d7] 27 (0, 0)) zx29_10) : bu ≠ bU)); have n16_ := Aside0.mk ((by rw [hg]; exact Nat.ne_of_gt (blk_lt (g := bu) (o := .cells #[.int .u64 dt, .int .u64 dC, .slice gb dH.length d7] 27 (0, 0)) zx29_10) : bU ≠ bu)); clear bb; clear bd; (try clear dM); (try clear hM); clear be; clear bj; clear bW; clear HB; have bb := n0_; have bd := n1_; have hM := n3_; have be := n4_; have bj := n5_; have bW := n6_; have HB := n7_; have dN := n8_; have qT := n9_; have m1 := n10_; have hW := n11_; have hR := n12_; have hV := n13_; have hQ := n14_; have hS := n15_; have hP := n16_; clear n0_ n1_ n3_ n4_ n5_ n6_ n7_ n8_ n9_ n10_ n11_ n12_ n13_ n14_ n15_ n16_; clear hb hbox hg; have qt := hR.out; have ql := hW.out; have qs := hQ.out; have qk := hV.out; have qr := hP.out; have qj := hS.out; have oC : w92.cell? ⟨bU, 0, none⟩ = some (.int .u64 0) := (blk_cell dN.out 0).trans rfl; have oB : w92.cell? ⟨bU, 1, none⟩ = some (.int .u64 0) := (blk_cell dN.out 1).trans rfl; have oA : w92.cell? ⟨bU, 2, none⟩ = some (.slice none 0 0) := (blk_cell dN.out 2).trans rfl; have om := blk_frozen dN.out 0; have ol := blk_frozen dN.out 1; have oj := blk_frozen dN.out 2; obtain ⟨sg, q7, oX⟩ := Kd.V_slice hM.out; subst oX))
   go_ret
   exact ⟨by first | rfl | (simp [errW_none, errW_some] <;> rfl) | (simp [*, errW_none, errW_some] <;> rfl), by repeat (first | (with_reducible first | exact HB.out | apply below_alloc | apply pw_below_drewN | apply below_drew1 | refine below_set ?_ b7.out | refine below_set ?_ dq.out | refine below_set ?_ mq.out | refine below_set ?_ m1.out) | exact HB.out)⟩
  rw [if_pos c39] at H
  have ma : decide (ba < (bc.length : Int)) = true := decide_eq_true c39
  clear c39
  by_cases c40 : 0 ≤ ba
  case neg =>
   rw [if_neg c40] at H
   exact absurd H (by simp)
  rw [if_pos c40] at H
  have mT : decide (0 ≤ ba) = true := decide_eq_true c40
  clear c40
  replace H := Option.bind_eq_some_iff.mp H
  obtain ⟨bB, m8, H⟩ := H
  replace H : (postroomlaw10_LedgerEvicts.l1 k1 (IntKind.u64.wrap (bi + (IntKind.u64.wrap (bp)))) bA ba bB 0 0 bi bn bc br bq bm) = some r := H
  have A41 := Aside0.mk m8
  clear m8
  have H' := Aside0.mk H
  clear H
  have qx := b8.out
  have qp := dr.out
  obtain ⟨jX, jW, jV, jU, jT, jS⟩ := cx29_bc3 be.out
  try go_wp2
  replace bb := Aside0.mk (Kd.V_drew bb.out)
  replace bd := Aside0.mk (Kd.V_drew bd.out)
  replace be := Aside0.mk (blk_drew be.out)
  replace bj := Aside0.mk (blk_drew bj.out)
  replace HB := Aside0.mk (below_drew1 HB.out)
  have hY : 0 ≤ (ba : Int) := of_decide_eq_true zx29_4
  have hX : ba < (bc.length : Int) := of_decide_eq_true zx29_4
  obtain ⟨bh, jG, mI, o7, d1, d0, dZ, dw, dY, dX, dW, gI, gL⟩ := at_T37 (Kd.V_reads' bb.out).2.2 ba hY hX
  cases o7
  obtain ⟨qB, mw, mC, jd⟩ := Kd.V_get bb.out z37 ba hY (by first | exact hX | exact of_decide_eq_true zx29_4 | (have e_ := (Kd.V_reads' bb.out).1; omega))
  obtain ⟨oi, oe, rfl, dQ, d6⟩ := k37_openF mC
  have dz := jd 3 _ rfl
  rw [add_field _ _ 3 (by omega)] at dz
  replace dz := Option.some.inj (dz.symm.trans dw)
  injection dz with hva_ hvn_ hvc_
  rw [hva_] at d6
  rw [hvc_] at dQ
  have ga := Aside0.mk (show Kd.V (Kd.int .u64) 24 _ w.heap.size _ _ ((rd_T37 bc ba).f3) from Kd.V_mk dQ d6)
  clear hva_ hvn_ hvc_ d6 dQ
  clear jd mw
  have bx := Aside0.mk gL
  have oR := Aside0.mk gI
  clear gL gI
  replace hY := eq_true hY
  replace hX := eq_true hX
  refine start_ (n := 9) (S := fun w' => w'.cell? ⟨bf, 0, none⟩ = some (.int .u64 bi) ∧ w'.cell? ⟨bf, 1, none⟩ = some (.int .u64 bn) ∧ w'.cell? ⟨bf, 2, none⟩ = some (.slice (some bh) bc.length bz) ∧ w'.cell? (bh.add ((ba).toNat * 7)) = some (.string ((rd_T37 bc ba).f0)) ∧ w'.cell? ⟨(bh.add ((ba).toNat * 7)).block, (bh.add ((ba).toNat * 7)).off + 1, none⟩ = some (.int .u64 ((rd_T37 bc ba).f1)) ∧ w'.cell? ⟨(bh.add ((ba).toNat * 7)).block, (bh.add ((ba).toNat * 7)).off + 2, none⟩ = some (.int .u64 ((rd_T37 bc ba).f2)) ∧ w'.cell? ⟨(bh.add ((ba).toNat * 7)).block, (bh.add ((ba).toNat * 7)).off + 3, none⟩ = some (.slice jG ((rd_T37 bc ba).f3).length mI) ∧ w'.cell? ⟨(bh.add ((ba).toNat * 7)).block, (bh.add ((ba).toNat * 7)).off + 4, none⟩ = some (.int .u64 ((rd_T37 bc ba).f4)) ∧ w'.cell? ⟨(bh.add ((ba).toNat * 7)).block, (bh.add ((ba).toNat * 7)).off + 5, none⟩ = some (.int .u64 ((rd_T37 bc ba).f5)) ∧ w'.cell? ⟨(bh.add ((ba).toNat * 7)).block, (bh.add ((ba).toNat * 7)).off + 6, none⟩ = some (.int .u64 ((rd_T37 bc ba).f6))) (ds := []) #[Ff,Ff,Ff,Ff,Ff,Ff,Ff,Ff,Ff] (by kernel_rfl) rfl rfl ⟨(blk_cell be.out 0).trans rfl, (blk_cell be.out 1).trans rfl, (blk_cell be.out 2).trans rfl, d1, d0, dZ, dw, dY, dX, dW⟩ (fun hHeld => ?_); refine with_tabW postroomlaw10_LedgerEvicts.tab13 postroomlaw10_LedgerEvicts.bits13 (fun HT_ HW_ => ?_)
  generalize wr.drew = w44 at bb bd be bj HB ga bx d1 d0 dZ dw dY dX dW hHeld ⊢
  refine pp_ 1 (some 101) HT_.out ?_
  refine pp_ 3 (some 103) HT_.out ?_
  refine take_ (i := 0) (N := some 100) (v := ?_) (a' := ?_) #[Tt,Tt,Ff,Tt,Ff,Ff,Ff,Ff,Ff] rfl rfl (take_ofW HT_.out HW_.out (by kernel_rfl)) (fun _ _ _ h => h) (Or.inl ⟨by rfl, ?_⟩) hHeld ?_ ?_
  rotate_left
  ·rintro w' ⟨s0, s1, s2, s3, s4, s5, s6, s7, s8, s9⟩
   go_simp
   with_reducible rfl
  rotate_left
  ·simp only [Act.put, List.setIfInBounds_toArray, List.set_cons_zero, List.set_cons_succ, i64_w, i32_w]
   rfl
  refine take_ (i := 2) (N := some 102) (v := ?_) (a' := ?_) #[Tt,Tt,Tt,Tt,Ff,Ff,Ff,Ff,Ff] rfl rfl (take_ofW HT_.out HW_.out (by kernel_rfl)) (fun _ _ _ h => h) (Or.inl ⟨by rfl, ?_⟩) hHeld ?_ ?_
  rotate_left
  ·rintro w' ⟨s0, s1, s2, s3, s4, s5, s6, s7, s8, s9⟩
   go_simp
   with_reducible rfl
  rotate_left
  ·simp only [Act.put, List.setIfInBounds_toArray, List.set_cons_zero, List.set_cons_succ, i64_w, i32_w]
   rfl
  refine pp_ 4 (some 104) HT_.out ?_
  refine pp_ 5 (some 105) HT_.out ?_
  refine take_ (i := 6) (N := some 106) (v := ?_) (a' := ?_) #[Tt,Tt,Tt,Tt,Tt,Tt,Tt,Ff,Ff] rfl rfl (take_ofW HT_.out HW_.out (by kernel_rfl)) (fun _ _ _ h => h) (Or.inl ⟨by rfl, ?_⟩) hHeld ?_ ?_
  rotate_left
  ·rintro w' ⟨s0, s1, s2, s3, s4, s5, s6, s7, s8, s9⟩
   go_simp
   with_reducible rfl
  rotate_left
  ·simp only [Act.put, List.setIfInBounds_toArray, List.set_cons_zero, List.set_cons_succ, i64_w, i32_w]
   rfl
  refine one_ (i := 7) (N := some 107) #[Tt,Tt,Tt,Tt,Tt,Tt,Tt,Tt,Ff] rfl rfl (one_of HT_.out (by kernel_rfl)) (by decide) (fun K hK => ?_)
  refine goes_ Tryd.func18 (by kernel_rfl) rfl #[.agg #[.int .u64 bi, .int .u64 bn, .slice (some bh) bc.length bz], .string ((rd_T37 bc ba).f0)] (by rfl) rfl rfl zx29_2 ?_
  with_reducible refine (ledger_Pending.calls k1 bi bn _ _ bc ((rd_T37 bc ba).f0) bB _ ?side1 ?side2 A41.out).mono ?_
  (case side1 => repeat (first | exact (Kd.V_reads' bb.out).2.2 | (with_reducible refine Kd.C_alloc ?_ _) | (with_reducible refine Kd.C_drewN ?_ _) | (with_reducible refine Kd.C_drew ?_)))
  (case side2 => exact (Kd.V_reads' bb.out).2.1)
  rintro e w45 ⟨mr, rfl, ho0, hb⟩
  have qe := (hb.cell (World.block_lt_of_cell? _ _ (hHeld.2.2.2.1))).trans (hHeld.2.2.2.1)
  have qd := (hb.cell (World.block_lt_of_cell? _ _ (hHeld.2.2.2.2.1))).trans (hHeld.2.2.2.2.1)
  have qc := (hb.cell (World.block_lt_of_cell? _ _ (hHeld.2.2.2.2.2.1))).trans (hHeld.2.2.2.2.2.1)
  have jm := (hb.cell (World.block_lt_of_cell? _ _ (hHeld.2.2.2.2.2.2.1))).trans (hHeld.2.2.2.2.2.2.1)
  have jl := (hb.cell (World.block_lt_of_cell? _ _ (hHeld.2.2.2.2.2.2.2.1))).trans (hHeld.2.2.2.2.2.2.2.1)
  have jk := (hb.cell (World.block_lt_of_cell? _ _ (hHeld.2.2.2.2.2.2.2.2.1))).trans (hHeld.2.2.2.2.2.2.2.2.1)
  have jj := (hb.cell (World.block_lt_of_cell? _ _ (hHeld.2.2.2.2.2.2.2.2.2))).trans (hHeld.2.2.2.2.2.2.2.2.2)
  refine ⟨_, rfl, ?_⟩
  replace bb := Aside0.mk (Kd.V_elder' zx29_8 (Kd.R_base ho0) hb)
  replace bd := Aside0.mk (Kd.V_elder' zx29_9 (Kd.R_base ho0) hb)
  replace ga := Aside0.mk (Kd.V_elder' (by (with_reducible repeat (first | apply Kd.V_alloc | apply Kd.V_drewN | apply Kd.V_drew)); exact ga.out) (Kd.R_base ho0) hb)
  have mY := Aside0.mk (Kd.R_lower ho0 (below_size zx29_0))
  replace be := Aside0.mk (blk_below (g := bf) (o := .cells #[.int .u64 bi, .int .u64 bn, .slice (some bh) bc.length bz] 27 (0, 0)) zx29_1 hb)
  replace bj := Aside0.mk (blk_below (g := bl) (o := .cells #[.int .u64 br, .int .u64 bq, .slice bL bm.length bE] 27 (0, 0)) zx29_3 hb)
  replace bx := Aside0.mk (Kd.C_below zx29_13 hb)
  replace HB := Aside0.mk (below_step zx29_0 hb)
  (try clear hb)
  (try clear hb2)
  (try clear hk)
  (try clear hi)
  (try clear ho0)
  refine hK.out _ _ ⟨(blk_cell be.out 0).trans rfl, (blk_cell be.out 1).trans rfl, (blk_cell be.out 2).trans rfl, qe, qd, qc, jm, jl, jk, jj⟩ (fun hHeld => ?_)
  clear hK K
  refine norm_ (a' := ?_) ?_ ?_
  rotate_left
  ·show Act.put _ (some 107) _ = _
   simp only [Act.put, List.setIfInBounds_toArray, List.set_cons_zero, List.set_cons_succ, i64_w, i32_w]
   rfl
  refine pp_ 8 (some 12) HT_.out ?_
  refine done_ (done_of HT_.out (by kernel_rfl)) ?_
  try go_wp2
  go_loopg [13, 14] k1 (fun kq v13 v14 w' => ∃ (bo : Int) (bJ : Int), v13 = .int .u64 bo ∧ v14 = .int .i64 bJ ∧ Aside0 (postroomlaw10_LedgerEvicts.l1 kq (IntKind.u64.wrap (bi + (IntKind.u64.wrap (bp)))) bA ba bB bo bJ bi bn bc br bq bm = some r) ∧ Aside0 (kq ≤ k1) ∧ Aside0 (Kd.R (Kd.int .u64) 24 w' w.heap.size (fun _ => True) mr bB) ∧ Aside0 (Kd.V k37 37 w' w.heap.size (fun k_ => some k_ ≠ (mr : Value).ownBlock ∧ k_ ≠ bf ∧ k_ ≠ bl) (.slice (some bh) bc.length bz) bc) ∧ Aside0 (Kd.V k37 37 w' w.heap.size (fun k_ => some k_ ≠ (mr : Value).ownBlock ∧ k_ ≠ bf ∧ k_ ≠ bl) (.slice bL bm.length bE) bm) ∧ Aside0 (w'.heap[bf]? = some (.cells #[.int .u64 bi, .int .u64 bn, (.slice (some bh) bc.length bz)] 27 (0, 0))) ∧ Aside0 (w'.heap[bl]? = some (.cells #[.int .u64 br, .int .u64 bq, (.slice bL bm.length bE)] 27 (0, 0))) ∧ Aside0 (Kd.C (Kd.int .u64) w' jG ((rd_T37 bc ba).f3).length ((rd_T37 bc ba).f3)) ∧ Aside0 (Below w.heap.size w w'))
  case atStart => exact ⟨(0), (0), zx29_14, zx29_14, H', ⟨Nat.le_refl _⟩, ⟨by (with_reducible repeat (first | apply Kd.R_alloc | apply Kd.R_drewN | apply Kd.R_drew)); exact mY.out⟩, ⟨by (with_reducible repeat (first | apply Kd.V_alloc | apply Kd.V_drewN | apply Kd.V_drew)); exact Kd.V_mono bb.out (fun _ hk => ⟨hk.2, ⟨hk.1.1, hk.1.2⟩⟩)⟩, ⟨by (with_reducible repeat (first | apply Kd.V_alloc | apply Kd.V_drewN | apply Kd.V_drew)); exact Kd.V_mono bd.out (fun _ hk => ⟨hk.2, ⟨hk.1.1, hk.1.2⟩⟩)⟩, ⟨by (with_reducible repeat (first | refine blk_drewN ?_ _ | refine blk_drew ?_ | refine blk_alloc ?_ _)); exact be.out⟩, ⟨by (with_reducible repeat (first | refine blk_drewN ?_ _ | refine blk_drew ?_ | refine blk_alloc ?_ _)); exact bj.out⟩, ⟨by repeat (first | (with_reducible exact bx.out) | (with_reducible refine Kd.C_alloc ?_ _) | (with_reducible refine Kd.C_drewN ?_ _) | (with_reducible refine Kd.C_drew ?_) | exact bx.out)⟩, ⟨by repeat (first | (with_reducible first | exact HB.out | apply below_alloc | apply pw_below_drewN | apply below_drew1 | refine below_set ?_ b7.out | refine below_set ?_ dq.out) | exact HB.out)⟩⟩
  case round =>
   clear H'
   (try clear c1); (try clear c2); (try clear p2); (try clear c3); (try clear c4); (try clear c5); (try clear mH); (try clear mG); (try clear p5); (try clear q5); (try clear hx5); (try clear p6); (try clear c7); (try clear c10); (try clear c11); (try clear ml); (try clear mj); (try clear c12); (try clear mi); (try clear mh); (try clear c13); (try clear mg); (try clear mf); (try clear c14); (try clear me); (try clear md); (try clear mc); (try clear c15); (try clear c16); (try clear mb); (try clear c18); (try clear jg); (try clear c22); (try clear c23); (try clear c29); (try clear c39); (try clear ma); (try clear c40); (try clear mT); (try clear c42); (try clear hL); (try clear hJ); (try clear hI); (try clear hH); (try clear hG); (try clear hF); (try clear hE); (try clear hD); (try clear hC); (try clear hB); (try clear hA); (try clear hz); (try clear hy); (try clear hx); (try clear hv); (try clear hu); (try clear ht); (try clear hs); (try clear hq); (try clear hp); (try clear hm); (try clear jX); (try clear jW); (try clear jV); (try clear hl); (try clear hj); (try clear hh); (try clear hf); (try clear he); (try clear hc); (try clear ha); (try clear gZ); (try clear gY); (try clear gX); (try clear gW); (try clear gV); (try clear gU); (try clear gT); (try clear gS); (try clear gR); (try clear gQ); (try clear gP); (try clear gO); (try clear gN); (try clear gM); (try clear jU); (try clear jT); (try clear jS); (try clear d1); (try clear d0); (try clear dZ); (try clear dw); (try clear dY); (try clear dX); (try clear dW); (try clear p2); (try clear hY); (try clear p6); (try clear hX)
   obtain ⟨bo, bJ, rfl, rfl, HA, HK2, bG, bb, bd, be, bj, bx, HB⟩ := hrel
   cases gk with
   | zero => exact absurd HA.out (by simp [postroomlaw10_LedgerEvicts.l1])
   | succ k2 => ?_
   have H := HA.out
   clear HA
   simp only [postroomlaw10_LedgerEvicts.l1] at H
   by_cases c46 : bJ < (bB.length : Int)
   ·rw [if_pos c46] at H
    have mS : decide (bJ < (bB.length : Int)) = true := decide_eq_true c46
    clear c46
    by_cases c47 : 0 ≤ bJ
    case neg =>
     rw [if_neg c47] at H
     exact absurd H (by simp)
    rw [if_pos c47] at H
    have qS : decide (0 ≤ bJ) = true := decide_eq_true c47
    clear c47
    by_cases c48 : (rd bB bJ) < (IntKind.u64.wrap (bi + (IntKind.u64.wrap (bp))))
    case neg =>
     rw [if_neg c48] at H
     have mR : decide ((rd bB bJ) < (IntKind.u64.wrap (bi + (IntKind.u64.wrap (bp))))) = false := decide_eq_false c48
     clear c48
     have H' := Aside0.mk H
     clear H
     obtain ⟨sh, q8, o1⟩ := Kd.R_slice bG.out
     subst o1
     have gn : 0 ≤ (bJ : Int) := of_decide_eq_true zx29_4
     have gm : bJ < (bB.length : Int) := of_decide_eq_true zx29_4
     obtain ⟨mX, mF, jR⟩ := Kd.at_int (Kd.R_reads' bG.out).2.2 bJ gn gm
     cases mF
     replace gn := eq_true gn
     replace gm := eq_true gm
     go_wp2
     go_roundg k2
     case measure => have := HK1.out; have := HK2.out; omega
     case rel => exact ⟨(bo), (wrap64 (bJ + 1)), zx29_14, zx29_14, H', ⟨by have := HK1.out; have := HK2.out; omega⟩, ⟨by (with_reducible repeat (first | apply Kd.R_alloc | apply Kd.R_drewN | apply Kd.R_drew)); exact bG.out⟩, ⟨by (with_reducible repeat (first | apply Kd.V_alloc | apply Kd.V_drewN | apply Kd.V_drew)); exact bb.out⟩, ⟨by (with_reducible repeat (first | apply Kd.V_alloc | apply Kd.V_drewN | apply Kd.V_drew)); exact bd.out⟩, ⟨by (with_reducible repeat (first | refine blk_drewN ?_ _ | refine blk_drew ?_ | refine blk_alloc ?_ _)); exact be.out⟩, ⟨by (with_reducible repeat (first | refine blk_drewN ?_ _ | refine blk_drew ?_ | refine blk_alloc ?_ _)); exact bj.out⟩, ⟨by repeat (first | (with_reducible exact bx.out) | (with_reducible refine Kd.C_alloc ?_ _) | (with_reducible refine Kd.C_drewN ?_ _) | (with_reducible refine Kd.C_drew ?_) | exact bx.out)⟩, ⟨by repeat (first | (with_reducible first | exact HB.out | apply below_alloc | apply pw_below_drewN | apply below_drew1 | refine below_set ?_ b7.out | refine below_set ?_ dq.out) | exact HB.out)⟩⟩
    rw [if_pos c48] at H
    have mR : decide ((rd bB bJ) < (IntKind.u64.wrap (bi + (IntKind.u64.wrap (bp))))) = true := decide_eq_true c48
    clear c48
    have H' := Aside0.mk H
    clear H
    obtain ⟨si, q9, o2⟩ := Kd.R_slice bG.out
    subst o2
    have gn : 0 ≤ (bJ : Int) := of_decide_eq_true zx29_4
    have gm : bJ < (bB.length : Int) := of_decide_eq_true zx29_4
    obtain ⟨mX, mF, jR⟩ := Kd.at_int (Kd.R_reads' bG.out).2.2 bJ gn gm
    cases mF
    replace gn := eq_true gn
    replace gm := eq_true gm
    go_wp2
    go_roundg k2
    case measure => have := HK1.out; have := HK2.out; omega
    case rel => exact ⟨(IntKind.u64.wrap (bo + 1)), (wrap64 (bJ + 1)), zx29_14, zx29_14, H', ⟨by have := HK1.out; have := HK2.out; omega⟩, ⟨by (with_reducible repeat (first | apply Kd.R_alloc | apply Kd.R_drewN | apply Kd.R_drew)); exact bG.out⟩, ⟨by (with_reducible repeat (first | apply Kd.V_alloc | apply Kd.V_drewN | apply Kd.V_drew)); exact bb.out⟩, ⟨by (with_reducible repeat (first | apply Kd.V_alloc | apply Kd.V_drewN | apply Kd.V_drew)); exact bd.out⟩, ⟨by (with_reducible repeat (first | refine blk_drewN ?_ _ | refine blk_drew ?_ | refine blk_alloc ?_ _)); exact be.out⟩, ⟨by (with_reducible repeat (first | refine blk_drewN ?_ _ | refine blk_drew ?_ | refine blk_alloc ?_ _)); exact bj.out⟩, ⟨by repeat (first | (with_reducible exact bx.out) | (with_reducible refine Kd.C_alloc ?_ _) | (with_reducible refine Kd.C_drewN ?_ _) | (with_reducible refine Kd.C_drew ?_) | exact bx.out)⟩, ⟨by repeat (first | (with_reducible first | exact HB.out | apply below_alloc | apply pw_below_drewN | apply below_drew1 | refine below_set ?_ b7.out | refine below_set ?_ dq.out) | exact HB.out)⟩⟩
   rw [if_neg c46] at H
   have mS : decide (bJ < (bB.length : Int)) = false := decide_eq_false c46
   clear c46
   by_cases c51 : 0 ≤ ba
   case neg =>
    rw [if_neg c51] at H
    exact absurd H (by simp)
   rw [if_pos c51] at H
   have qR : decide (0 ≤ ba) = true := decide_eq_true c51
   clear c51
   by_cases c52 : ba < (bm.length : Int)
   case neg =>
    rw [if_neg c52] at H
    exact absurd H (by simp)
   rw [if_pos c52] at H
   have qQ : decide (ba < (bm.length : Int)) = true := decide_eq_true c52
   clear c52
   by_cases c53 : ba < (bc.length : Int)
   case neg =>
    rw [if_neg c53] at H
    exact absurd H (by simp)
   rw [if_pos c53] at H
   have qP : decide (ba < (bc.length : Int)) = true := decide_eq_true c53
   clear c53
   by_cases c54 : ((rd_T37 bm ba).f5) = (IntKind.u64.wrap (((rd_T37 bc ba).f5) + bo))
   case neg =>
    rw [if_neg c54] at H
    exact absurd H (by simp)
   rw [if_pos c54] at H
   have qO : (((rd_T37 bm ba).f5) == (IntKind.u64.wrap (((rd_T37 bc ba).f5) + bo))) = true := beq_iff_eq.mpr c54
   have qN : (((rd_T37 bm ba).f5) != (IntKind.u64.wrap (((rd_T37 bc ba).f5) + bo))) = false := bne_eq_false_iff_eq.mpr c54
   clear c54
   by_cases c55 : (IntKind.u64.wrap (bi + (IntKind.u64.wrap (bp)))) ≤ bA
   case neg =>
    rw [if_neg c55] at H
    have mQ : decide ((IntKind.u64.wrap (bi + (IntKind.u64.wrap (bp)))) ≤ bA) = false := decide_eq_false c55
    clear c55
    replace H := Option.bind_eq_some_iff.mp H
    obtain ⟨gj, m5, H⟩ := H
    replace H : (if 0 ≤ bo then (if bo ≤ (bB.length : Int) then ((postroomref10_Same.f k2 gj (bB.drop (bo : Int).toNat)).bind fun gf => (if gf = true then (postroomlaw10_LedgerEvicts.l0 k2 (IntKind.u64.wrap (bi + (IntKind.u64.wrap (bp)))) bA (wrap64 (ba + 1)) bi bn bc br bq bm) else (none))) else (none)) else (none)) = some r := H
    have A67 := Aside0.mk m5
    clear m5
    by_cases c68 : 0 ≤ bo
    case neg =>
     rw [if_neg c68] at H
     exact absurd H (by simp)
    rw [if_pos c68] at H
    have qH := eq_true c68
    have qG : decide (0 ≤ bo) = true := decide_eq_true c68
    clear c68
    by_cases c69 : bo ≤ (bB.length : Int)
    case neg =>
     rw [if_neg c69] at H
     exact absurd H (by simp)
    rw [if_pos c69] at H
    have qF := eq_true c69
    have qE : decide (bo ≤ (bB.length : Int)) = true := decide_eq_true c69
    clear c69
    obtain ⟨gc, gh⟩ : ∃ y_ : List Int, y_ = (bB.drop (bo : Int).toNat) := ⟨_, rfl⟩
    replace H : ((postroomref10_Same.f k2 gj gc).bind fun gf => (if gf = true then (postroomlaw10_LedgerEvicts.l0 k2 (IntKind.u64.wrap (bi + (IntKind.u64.wrap (bp)))) bA (wrap64 (ba + 1)) bi bn bc br bq bm) else (none))) = some r := by first | (rw [gh]; with_reducible exact H) | (have H2_ := (Option.bind_some _ _).symm.trans H; rw [gh]; with_reducible exact H2_) | (have H2_ := (Option.bind_some _ _).symm.trans H; with_reducible exact H2_) | with_reducible exact H | (rw [gh]; exact H) | exact H
    have mm := Aside0.mk gh
    clear gh
    replace H := Option.bind_eq_some_iff.mp H
    obtain ⟨gf, m4, H⟩ := H
    replace H : (if gf = true then (postroomlaw10_LedgerEvicts.l0 k2 (IntKind.u64.wrap (bi + (IntKind.u64.wrap (bp)))) bA (wrap64 (ba + 1)) bi bn bc br bq bm) else (none)) = some r := H
    have A70 := Aside0.mk m4
    clear m4
    by_cases c71 : gf = true
    case neg =>
     replace c71 := Bool.eq_false_iff.mpr c71
     subst c71
     have H1 : (none) = some r := by rw [if_neg (show ¬ (false = true) by decide)] at H; exact H
     clear H
     have H := H1
     clear H1
     exact absurd H (by simp)
    subst c71
    have H1 : (postroomlaw10_LedgerEvicts.l0 k2 (IntKind.u64.wrap (bi + (IntKind.u64.wrap (bp)))) bA (wrap64 (ba + 1)) bi bn bc br bq bm) = some r := by rw [if_pos rfl] at H; exact H
    clear H
    have H := H1
    clear H1
    have H' := Aside0.mk H
    clear H
    obtain ⟨j4, je, oZ⟩ := Kd.R_slice bG.out
    subst oZ
    try go_wp2
    replace bG := Aside0.mk (Kd.R_drew bG.out)
    replace bb := Aside0.mk (Kd.V_drew bb.out)
    replace bd := Aside0.mk (Kd.V_drew bd.out)
    replace be := Aside0.mk (blk_drew be.out)
    replace bj := Aside0.mk (blk_drew bj.out)
    replace bx := Aside0.mk (Kd.C_drew bx.out)
    replace HB := Aside0.mk (below_drew1 HB.out)
    have dV : 0 ≤ (ba : Int) := of_decide_eq_true zx29_4
    have dT : ba < (bm.length : Int) := of_decide_eq_true zx29_4
    obtain ⟨bw, gt, gs, mE, dk, dj, di, b2, dh, dg, df, dm, dp⟩ := at_T37 (Kd.V_reads' bd.out).2.2 ba dV dT
    cases mE
    obtain ⟨mP, gp, gr, dE⟩ := Kd.V_get bd.out z37 ba dV (by first | exact dT | exact of_decide_eq_true zx29_4 | (have e_ := (Kd.V_reads' bd.out).1; omega))
    obtain ⟨jK, jI, rfl, b1, b4⟩ := k37_openF gr
    have bP := dE 3 _ rfl
    rw [add_field _ _ 3 (by omega)] at bP
    replace bP := Option.some.inj (bP.symm.trans b2)
    injection bP with hva_ hvn_ hvc_
    rw [hva_] at b4
    rw [hvc_] at b1
    have b6 := Aside0.mk (show Kd.V (Kd.int .u64) 24 _ w.heap.size _ _ ((rd_T37 bm ba).f3) from Kd.V_mk b1 b4)
    clear hva_ hvn_ hvc_ b4 b1
    clear dE gp
    have bR := Aside0.mk dp
    have j3 := Aside0.mk dm
    clear dp dm
    replace dV := eq_true dV
    replace dT := eq_true dT
    have dU : 0 ≤ (ba : Int) := of_decide_eq_true zx29_4
    have dS : ba < (bc.length : Int) := of_decide_eq_true zx29_4
    obtain ⟨ji, dG, dF, mD, de, dd, dc, bN, db, da, b9, dl, dn⟩ := at_T37 (Kd.V_reads' bb.out).2.2 ba dU dS
    obtain rfl : bh = ji := (by injection mD)
    obtain ⟨mO, go, gq, dD⟩ := Kd.V_get bb.out z37 ba dU (by first | exact dS | exact of_decide_eq_true zx29_4 | (have e_ := (Kd.V_reads' bb.out).1; omega))
    obtain ⟨jJ, jH, rfl, b0, b3⟩ := k37_openF gq
    have bO := dD 3 _ rfl
    rw [add_field _ _ 3 (by omega)] at bO
    replace bO := Option.some.inj (bO.symm.trans bN)
    injection bO with hva_ hvn_ hvc_
    rw [hva_] at b3
    rw [hvc_] at b0
    have b5 := Aside0.mk (show Kd.V (Kd.int .u64) 24 _ w.heap.size _ _ ((rd_T37 bc ba).f3) from Kd.V_mk b0 b3)
    clear hva_ hvn_ hvc_ b3 b0
    clear dD go
    have bQ := Aside0.mk dn
    have j2 := Aside0.mk dl
    clear dn dl
    replace dU := eq_true dU
    replace dS := eq_true dS
    have jN : 0 ≤ (ba : Int) := of_decide_eq_true zx29_4
    have jL : ba < (bc.length : Int) := of_decide_eq_true zx29_4
    obtain ⟨mV, qh, qa, o5, gz, gy, gx, du, gw, gv, gu, gG, gJ⟩ := at_T37 (Kd.V_reads' bb.out).2.2 ba jN jL
    obtain rfl : bh = mV := (by injection o5)
    obtain ⟨qz, mu, mA, jb⟩ := Kd.V_get bb.out z37 ba jN (by first | exact jL | exact of_decide_eq_true zx29_4 | (have e_ := (Kd.V_reads' bb.out).1; omega))
    obtain ⟨og, oc, rfl, dO, d4⟩ := k37_openF mA
    have dx := jb 3 _ rfl
    rw [add_field _ _ 3 (by omega)] at dx
    replace dx := Option.some.inj (dx.symm.trans du)
    injection dx with hva_ hvn_ hvc_
    rw [hva_] at d4
    rw [hvc_] at dO
    have d8 := Aside0.mk (show Kd.V (Kd.int .u64) 24 _ w.heap.size _ _ ((rd_T37 bc ba).f3) from Kd.V_mk dO d4)
    clear hva_ hvn_ hvc_ d4 dO
    clear jb mu
    have dA := Aside0.mk gJ
    have oP := Aside0.mk gG
    clear gJ gG
    replace jN := eq_true jN
    replace jL := eq_true jL
    have ea_ := Option.some.inj (bN.symm.trans du)
    injection ea_ with ea_ en_ ec_
    subst ea_
    subst ec_
    clear en_
    have q74 : (bo : Int) ≤ ((bB.length : Int) : Int) := of_decide_eq_true zx29_4
    obtain ⟨q3, j8, _, j6, _⟩ := info_parts info24
    have d2 : bB.length ≤ je := (Kd.R_reads' bG.out).2.1
    have mK : Kd.C (Kd.int .u64) _ j4 bB.length bB := (Kd.R_reads' bG.out).2.2
    have oV : (0 : Int) ≤ (bo : Int) := of_decide_eq_true zx29_4
    have ms := cut_from (P := Tryd.prog) 35 24 .u64 Tryd.underlying35 j8 1 j6 j4 bB.length je bo oV q74
    have hZ := Kd.C_drop (m := (bo : Int).toNat) (c := je) mK (by omega) d2
    obtain ⟨A74, jY⟩ : ∃ A1, A1 = (if je = (bo : Int).toNat then j4 else (j4 : Option Addr).map (·.add ((bo : Int).toNat * 1))) := ⟨_, rfl⟩
    obtain ⟨c74, my⟩ : ∃ c1, c1 = je - (bo : Int).toNat := ⟨_, rfl⟩
    have jP : gc.length = bB.length - (bo : Int).toNat := (by rw [mm.out, List.length_drop] <;> omega)
    rw [show (bB).drop (bo : Int).toNat = gc from mm.out.symm] at hZ
    replace hZ : Kd.C (Kd.int .u64) _ A74 gc.length gc := (by rw [jY]; exact hZ)
    rw [← jP, ← jY, ← my] at ms
    have dK := Aside0.mk hZ
    have mZ := Aside0.mk (show gc.length ≤ c74 from by rw [jP, my]; exact Nat.sub_le_sub_right d2 _)
    clear hZ mK d2 j8 j6 my
    have sa := Aside0.mk jP
    have se := Aside0.mk jY
    clear jP jY
    have sc := Aside0.mk (show (bo : Int).toNat ≤ bB.length from by omega)
    replace q74 := eq_true q74
    refine start_ (n := 39) (S := fun w' => w'.cell? ⟨bl, 0, none⟩ = some (.int .u64 br) ∧ w'.cell? ⟨bl, 1, none⟩ = some (.int .u64 bq) ∧ w'.cell? ⟨bl, 2, none⟩ = some (.slice (some bw) bm.length bE) ∧ w'.cell? ⟨bf, 0, none⟩ = some (.int .u64 bi) ∧ w'.cell? ⟨bf, 1, none⟩ = some (.int .u64 bn) ∧ w'.cell? ⟨bf, 2, none⟩ = some (.slice (some bh) bc.length bz) ∧ w'.cell? (bw.add ((ba).toNat * 7)) = some (.string ((rd_T37 bm ba).f0)) ∧ w'.cell? ⟨(bw.add ((ba).toNat * 7)).block, (bw.add ((ba).toNat * 7)).off + 1, none⟩ = some (.int .u64 ((rd_T37 bm ba).f1)) ∧ w'.cell? ⟨(bw.add ((ba).toNat * 7)).block, (bw.add ((ba).toNat * 7)).off + 2, none⟩ = some (.int .u64 ((rd_T37 bm ba).f2)) ∧ w'.cell? ⟨(bw.add ((ba).toNat * 7)).block, (bw.add ((ba).toNat * 7)).off + 3, none⟩ = some (.slice gt ((rd_T37 bm ba).f3).length gs) ∧ w'.cell? ⟨(bw.add ((ba).toNat * 7)).block, (bw.add ((ba).toNat * 7)).off + 4, none⟩ = some (.int .u64 ((rd_T37 bm ba).f4)) ∧ w'.cell? ⟨(bw.add ((ba).toNat * 7)).block, (bw.add ((ba).toNat * 7)).off + 5, none⟩ = some (.int .u64 ((rd_T37 bm ba).f5)) ∧ w'.cell? ⟨(bw.add ((ba).toNat * 7)).block, (bw.add ((ba).toNat * 7)).off + 6, none⟩ = some (.int .u64 ((rd_T37 bm ba).f6)) ∧ w'.cell? (bh.add ((ba).toNat * 7)) = some (.string ((rd_T37 bc ba).f0)) ∧ w'.cell? ⟨(bh.add ((ba).toNat * 7)).block, (bh.add ((ba).toNat * 7)).off + 1, none⟩ = some (.int .u64 ((rd_T37 bc ba).f1)) ∧ w'.cell? ⟨(bh.add ((ba).toNat * 7)).block, (bh.add ((ba).toNat * 7)).off + 2, none⟩ = some (.int .u64 ((rd_T37 bc ba).f2)) ∧ w'.cell? ⟨(bh.add ((ba).toNat * 7)).block, (bh.add ((ba).toNat * 7)).off + 3, none⟩ = some (.slice dG ((rd_T37 bc ba).f3).length dF) ∧ w'.cell? ⟨(bh.add ((ba).toNat * 7)).block, (bh.add ((ba).toNat * 7)).off + 4, none⟩ = some (.int .u64 ((rd_T37 bc ba).f4)) ∧ w'.cell? ⟨(bh.add ((ba).toNat * 7)).block, (bh.add ((ba).toNat * 7)).off + 5, none⟩ = some (.int .u64 ((rd_T37 bc ba).f5)) ∧ w'.cell? ⟨(bh.add ((ba).toNat * 7)).block, (bh.add ((ba).toNat * 7)).off + 6, none⟩ = some (.int .u64 ((rd_T37 bc ba).f6)) ∧ w'.cell? (bh.add ((ba).toNat * 7)) = some (.string ((rd_T37 bc ba).f0)) ∧ w'.cell? ⟨(bh.add ((ba).toNat * 7)).block, (bh.add ((ba).toNat * 7)).off + 1, none⟩ = some (.int .u64 ((rd_T37 bc ba).f1)) ∧ w'.cell? ⟨(bh.add ((ba).toNat * 7)).block, (bh.add ((ba).toNat * 7)).off + 2, none⟩ = some (.int .u64 ((rd_T37 bc ba).f2)) ∧ w'.cell? ⟨(bh.add ((ba).toNat * 7)).block, (bh.add ((ba).toNat * 7)).off + 3, none⟩ = some (.slice dG ((rd_T37 bc ba).f3).length dF) ∧ w'.cell? ⟨(bh.add ((ba).toNat * 7)).block, (bh.add ((ba).toNat * 7)).off + 4, none⟩ = some (.int .u64 ((rd_T37 bc ba).f4)) ∧ w'.cell? ⟨(bh.add ((ba).toNat * 7)).block, (bh.add ((ba).toNat * 7)).off + 5, none⟩ = some (.int .u64 ((rd_T37 bc ba).f5)) ∧ w'.cell? ⟨(bh.add ((ba).toNat * 7)).block, (bh.add ((ba).toNat * 7)).off + 6, none⟩ = some (.int .u64 ((rd_T37 bc ba).f6))) (ds := []) #[Ff,Ff,Ff,Ff,Ff,Ff,Ff,Ff,Ff,Ff,Ff,Ff,Ff,Ff,Ff,Ff,Ff,Ff,Ff,Ff,Ff,Ff,Ff,Ff,Ff,Ff,Ff,Ff,Ff,Ff,Ff,Ff,Ff,Ff,Ff,Ff,Ff,Ff,Ff] (by kernel_rfl) rfl rfl ⟨(blk_cell bj.out 0).trans rfl, (blk_cell bj.out 1).trans rfl, (blk_cell bj.out 2).trans rfl, (blk_cell be.out 0).trans rfl, (blk_cell be.out 1).trans rfl, (blk_cell be.out 2).trans rfl, dk, dj, di, b2, dh, dg, df, de, dd, dc, bN, db, da, b9, gz, gy, gx, du, gw, gv, gu⟩ (fun hHeld => ?_); refine with_tabW postroomlaw10_LedgerEvicts.tab20 postroomlaw10_LedgerEvicts.bits20 (fun HT_ HW_ => ?_)
    generalize wr.drew = w73 at bG bb bd be bj bx HB b6 b5 d8 bR bQ dA dK dk dj di b2 dh dg df de dd dc bN db da b9 gz gy gx du gw gv gu hHeld ⊢
    refine pp_ 0 (some 122) HT_.out ?_
    refine pp_ 2 (some 124) HT_.out ?_
    refine pp_ 6 (some 128) HT_.out ?_
    refine pp_ 8 (some 130) HT_.out ?_
    refine pp_ 12 (some 134) HT_.out ?_
    refine take_ (i := 1) (N := some 123) (v := ?_) (a' := ?_) #[Tt,Tt,Tt,Ff,Ff,Ff,Tt,Ff,Tt,Ff,Ff,Ff,Tt,Ff,Ff,Ff,Ff,Ff,Ff,Ff,Ff,Ff,Ff,Ff,Ff,Ff,Ff,Ff,Ff,Ff,Ff,Ff,Ff,Ff,Ff,Ff,Ff,Ff,Ff] rfl rfl (take_ofW HT_.out HW_.out (by kernel_rfl)) (fun _ _ _ h => h) (Or.inl ⟨by rfl, ?_⟩) hHeld ?_ ?_
    rotate_left
    ·rintro w' ⟨s0, s1, s2, s3, s4, s5, s6, s7, s8, s9, s10, s11, s12, s13, s14, s15, s16, s17, s18, s19, s20, s21, s22, s23, s24, s25, s26⟩
     go_simp
     with_reducible rfl
    rotate_left
    ·simp only [Act.put, List.setIfInBounds_toArray, List.set_cons_zero, List.set_cons_succ, i64_w, i32_w]
     rfl
    refine pp_ 3 (some 125) HT_.out ?_
    refine pp_ 4 (some 126) HT_.out ?_
    refine take_ (i := 5) (N := some 127) (v := ?_) (a' := ?_) #[Tt,Tt,Tt,Tt,Tt,Tt,Tt,Ff,Tt,Ff,Ff,Ff,Tt,Ff,Ff,Ff,Ff,Ff,Ff,Ff,Ff,Ff,Ff,Ff,Ff,Ff,Ff,Ff,Ff,Ff,Ff,Ff,Ff,Ff,Ff,Ff,Ff,Ff,Ff] rfl rfl (take_ofW HT_.out HW_.out (by kernel_rfl)) (fun _ _ _ h => h) (Or.inl ⟨by rfl, ?_⟩) hHeld ?_ ?_
    rotate_left
    ·rintro w' ⟨s0, s1, s2, s3, s4, s5, s6, s7, s8, s9, s10, s11, s12, s13, s14, s15, s16, s17, s18, s19, s20, s21, s22, s23, s24, s25, s26⟩
     go_simp
     with_reducible rfl
    rotate_left
    ·simp only [Act.put, List.setIfInBounds_toArray, List.set_cons_zero, List.set_cons_succ, i64_w, i32_w]
     rfl
    refine take_ (i := 7) (N := some 129) (v := ?_) (a' := ?_) #[Tt,Tt,Tt,Tt,Tt,Tt,Tt,Tt,Tt,Ff,Ff,Ff,Tt,Ff,Ff,Ff,Ff,Ff,Ff,Ff,Ff,Ff,Ff,Ff,Ff,Ff,Ff,Ff,Ff,Ff,Ff,Ff,Ff,Ff,Ff,Ff,Ff,Ff,Ff] rfl rfl (take_ofW HT_.out HW_.out (by kernel_rfl)) (fun _ _ _ h => h) (Or.inl ⟨by rfl, ?_⟩) hHeld ?_ ?_
    rotate_left
    ·rintro w' ⟨s0, s1, s2, s3, s4, s5, s6, s7, s8, s9, s10, s11, s12, s13, s14, s15, s16, s17, s18, s19, s20, s21, s22, s23, s24, s25, s26⟩
     go_simp
     with_reducible rfl
    rotate_left
    ·simp only [Act.put, List.setIfInBounds_toArray, List.set_cons_zero, List.set_cons_succ, i64_w, i32_w]
     rfl
    refine pp_ 9 (some 131) HT_.out ?_
    refine pp_ 10 (some 132) HT_.out ?_
    refine take_ (i := 11) (N := some 133) (v := ?_) (a' := ?_) #[Tt,Tt,Tt,Tt,Tt,Tt,Tt,Tt,Tt,Tt,Tt,Tt,Tt,Ff,Ff,Ff,Ff,Ff,Ff,Ff,Ff,Ff,Ff,Ff,Ff,Ff,Ff,Ff,Ff,Ff,Ff,Ff,Ff,Ff,Ff,Ff,Ff,Ff,Ff] rfl rfl (take_ofW HT_.out HW_.out (by kernel_rfl)) (fun _ _ _ h => h) (Or.inl ⟨by rfl, ?_⟩) hHeld ?_ ?_
    rotate_left
    ·rintro w' ⟨s0, s1, s2, s3, s4, s5, s6, s7, s8, s9, s10, s11, s12, s13, s14, s15, s16, s17, s18, s19, s20, s21, s22, s23, s24, s25, s26⟩
     go_simp
     with_reducible rfl
    rotate_left
    ·simp only [Act.put, List.setIfInBounds_toArray, List.set_cons_zero, List.set_cons_succ, i64_w, i32_w]
     rfl
    refine pp_ 13 (some 135) HT_.out ?_
    refine pp_ 14 (some 136) HT_.out ?_
    refine pp_ 15 (some 137) HT_.out ?_
    refine pp_ 16 (some 138) HT_.out ?_
    refine pp_ 17 (some 139) HT_.out ?_
    refine pp_ 18 (some 140) HT_.out ?_
    refine pp_ 19 (some 141) HT_.out ?_
    refine pu_ 20 (some 142) HT_.out ?_
    refine pu_ 21 (some 143) HT_.out ?_
    refine pp_ 22 (some 144) HT_.out ?_
    refine pp_ 23 (some 145) HT_.out ?_
    refine pp_ 24 (some 146) HT_.out ?_
    refine pp_ 26 (some 148) HT_.out ?_
    refine pp_ 28 (some 150) HT_.out ?_
    refine pp_ 33 (some 155) HT_.out ?_
    refine pp_ 34 (some 156) HT_.out ?_
    refine pp_ 35 (some 157) HT_.out ?_
    refine take_ (i := 25) (N := some 147) (v := ?_) (a' := ?_) #[Tt,Tt,Tt,Tt,Tt,Tt,Tt,Tt,Tt,Tt,Tt,Tt,Tt,Tt,Tt,Tt,Tt,Tt,Tt,Tt,Tt,Tt,Tt,Tt,Tt,Tt,Tt,Ff,Tt,Ff,Ff,Ff,Ff,Tt,Tt,Tt,Ff,Ff,Ff] rfl rfl (take_ofW HT_.out HW_.out (by kernel_rfl)) (fun _ _ _ h => h) (Or.inl ⟨by rfl, ?_⟩) hHeld ?_ ?_
    rotate_left
    ·rintro w' ⟨s0, s1, s2, s3, s4, s5, s6, s7, s8, s9, s10, s11, s12, s13, s14, s15, s16, s17, s18, s19, s20, s21, s22, s23, s24, s25, s26⟩
     go_simp
     with_reducible rfl
    rotate_left
    ·simp only [Act.put, List.setIfInBounds_toArray, List.set_cons_zero, List.set_cons_succ, i64_w, i32_w]
     rfl
    refine take_ (i := 27) (N := some 149) (v := ?_) (a' := ?_) #[Tt,Tt,Tt,Tt,Tt,Tt,Tt,Tt,Tt,Tt,Tt,Tt,Tt,Tt,Tt,Tt,Tt,Tt,Tt,Tt,Tt,Tt,Tt,Tt,Tt,Tt,Tt,Tt,Tt,Ff,Ff,Ff,Ff,Tt,Tt,Tt,Ff,Ff,Ff] rfl rfl (take_ofW HT_.out HW_.out (by kernel_rfl)) (fun _ _ _ h => h) (Or.inl ⟨by rfl, ?_⟩) hHeld ?_ ?_
    rotate_left
    ·rintro w' ⟨s0, s1, s2, s3, s4, s5, s6, s7, s8, s9, s10, s11, s12, s13, s14, s15, s16, s17, s18, s19, s20, s21, s22, s23, s24, s25, s26⟩
     go_simp
     with_reducible rfl
    rotate_left
    ·simp only [Act.put, List.setIfInBounds_toArray, List.set_cons_zero, List.set_cons_succ, i64_w, i32_w]
     rfl
    refine pp_ 29 (some 151) HT_.out ?_
    refine pp_ 30 (some 152) HT_.out ?_
    refine take_ (i := 31) (N := some 153) (v := ?_) (a' := ?_) #[Tt,Tt,Tt,Tt,Tt,Tt,Tt,Tt,Tt,Tt,Tt,Tt,Tt,Tt,Tt,Tt,Tt,Tt,Tt,Tt,Tt,Tt,Tt,Tt,Tt,Tt,Tt,Tt,Tt,Tt,Tt,Tt,Ff,Tt,Tt,Tt,Ff,Ff,Ff] rfl rfl (take_ofW HT_.out HW_.out (by kernel_rfl)) (fun _ _ _ h => h) (Or.inl ⟨by rfl, ?_⟩) hHeld ?_ ?_
    rotate_left
    ·rintro w' ⟨s0, s1, s2, s3, s4, s5, s6, s7, s8, s9, s10, s11, s12, s13, s14, s15, s16, s17, s18, s19, s20, s21, s22, s23, s24, s25, s26⟩
     go_simp
     with_reducible rfl
    rotate_left
    ·simp only [Act.put, List.setIfInBounds_toArray, List.set_cons_zero, List.set_cons_succ, i64_w, i32_w]
     rfl
    refine one_ (i := 32) (N := some 154) #[Tt,Tt,Tt,Tt,Tt,Tt,Tt,Tt,Tt,Tt,Tt,Tt,Tt,Tt,Tt,Tt,Tt,Tt,Tt,Tt,Tt,Tt,Tt,Tt,Tt,Tt,Tt,Tt,Tt,Tt,Tt,Tt,Tt,Tt,Tt,Tt,Ff,Ff,Ff] rfl rfl (one_of HT_.out (by kernel_rfl)) (by decide) (fun K hK => ?_)
    refine goes_ Tryd.func18 (by kernel_rfl) rfl #[.agg #[.int .u64 br, .int .u64 bq, .slice (some bw) bm.length bE], .string ((rd_T37 bc ba).f0)] (by rfl) rfl rfl zx29_2 ?_
    with_reducible refine (ledger_Pending.calls k2 br bq _ _ bm ((rd_T37 bc ba).f0) gj _ ?side1 ?side2 A67.out).mono ?_
    (case side1 => repeat (first | exact (Kd.V_reads' bd.out).2.2 | (with_reducible refine Kd.C_alloc ?_ _) | (with_reducible refine Kd.C_drewN ?_ _) | (with_reducible refine Kd.C_drew ?_)))
    (case side2 => exact (Kd.V_reads' bd.out).2.1)
    rintro e w75 ⟨qX, rfl, ho0, hb⟩
    have jm := (hb.cell (World.block_lt_of_cell? _ _ (hHeld.2.2.2.2.2.2.1))).trans (hHeld.2.2.2.2.2.2.1)
    have jl := (hb.cell (World.block_lt_of_cell? _ _ (hHeld.2.2.2.2.2.2.2.1))).trans (hHeld.2.2.2.2.2.2.2.1)
    have jk := (hb.cell (World.block_lt_of_cell? _ _ (hHeld.2.2.2.2.2.2.2.2.1))).trans (hHeld.2.2.2.2.2.2.2.2.1)
    have jj := (hb.cell (World.block_lt_of_cell? _ _ (hHeld.2.2.2.2.2.2.2.2.2.1))).trans (hHeld.2.2.2.2.2.2.2.2.2.1)
    have jD := (hb.cell (World.block_lt_of_cell? _ _ (hHeld.2.2.2.2.2.2.2.2.2.2.1))).trans (hHeld.2.2.2.2.2.2.2.2.2.2.1)
    have jC := (hb.cell (World.block_lt_of_cell? _ _ (hHeld.2.2.2.2.2.2.2.2.2.2.2.1))).trans (hHeld.2.2.2.2.2.2.2.2.2.2.2.1)
    have jB := (hb.cell (World.block_lt_of_cell? _ _ (hHeld.2.2.2.2.2.2.2.2.2.2.2.2.1))).trans (hHeld.2.2.2.2.2.2.2.2.2.2.2.2.1)
    have jA := (hb.cell (World.block_lt_of_cell? _ _ (hHeld.2.2.2.2.2.2.2.2.2.2.2.2.2.1))).trans (hHeld.2.2.2.2.2.2.2.2.2.2.2.2.2.1)
    have jz := (hb.cell (World.block_lt_of_cell? _ _ (hHeld.2.2.2.2.2.2.2.2.2.2.2.2.2.2.1))).trans (hHeld.2.2.2.2.2.2.2.2.2.2.2.2.2.2.1)
    have jy := (hb.cell (World.block_lt_of_cell? _ _ (hHeld.2.2.2.2.2.2.2.2.2.2.2.2.2.2.2.1))).trans (hHeld.2.2.2.2.2.2.2.2.2.2.2.2.2.2.2.1)
    have jx := (hb.cell (World.block_lt_of_cell? _ _ (hHeld.2.2.2.2.2.2.2.2.2.2.2.2.2.2.2.2.1))).trans (hHeld.2.2.2.2.2.2.2.2.2.2.2.2.2.2.2.2.1)
    have jw := (hb.cell (World.block_lt_of_cell? _ _ (hHeld.2.2.2.2.2.2.2.2.2.2.2.2.2.2.2.2.2.1))).trans (hHeld.2.2.2.2.2.2.2.2.2.2.2.2.2.2.2.2.2.1)
    have jv := (hb.cell (World.block_lt_of_cell? _ _ (hHeld.2.2.2.2.2.2.2.2.2.2.2.2.2.2.2.2.2.2.1))).trans (hHeld.2.2.2.2.2.2.2.2.2.2.2.2.2.2.2.2.2.2.1)
    have ju := (hb.cell (World.block_lt_of_cell? _ _ (hHeld.2.2.2.2.2.2.2.2.2.2.2.2.2.2.2.2.2.2.2.1))).trans (hHeld.2.2.2.2.2.2.2.2.2.2.2.2.2.2.2.2.2.2.2.1)
    have jt := (hb.cell (World.block_lt_of_cell? _ _ (hHeld.2.2.2.2.2.2.2.2.2.2.2.2.2.2.2.2.2.2.2.2.1))).trans (hHeld.2.2.2.2.2.2.2.2.2.2.2.2.2.2.2.2.2.2.2.2.1)
    have js := (hb.cell (World.block_lt_of_cell? _ _ (hHeld.2.2.2.2.2.2.2.2.2.2.2.2.2.2.2.2.2.2.2.2.2.1))).trans (hHeld.2.2.2.2.2.2.2.2.2.2.2.2.2.2.2.2.2.2.2.2.2.1)
    have jr := (hb.cell (World.block_lt_of_cell? _ _ (hHeld.2.2.2.2.2.2.2.2.2.2.2.2.2.2.2.2.2.2.2.2.2.2.1))).trans (hHeld.2.2.2.2.2.2.2.2.2.2.2.2.2.2.2.2.2.2.2.2.2.2.1)
    have jq := (hb.cell (World.block_lt_of_cell? _ _ (hHeld.2.2.2.2.2.2.2.2.2.2.2.2.2.2.2.2.2.2.2.2.2.2.2.1))).trans (hHeld.2.2.2.2.2.2.2.2.2.2.2.2.2.2.2.2.2.2.2.2.2.2.2.1)
    have jp := (hb.cell (World.block_lt_of_cell? _ _ (hHeld.2.2.2.2.2.2.2.2.2.2.2.2.2.2.2.2.2.2.2.2.2.2.2.2.1))).trans (hHeld.2.2.2.2.2.2.2.2.2.2.2.2.2.2.2.2.2.2.2.2.2.2.2.2.1)
    have jo := (hb.cell (World.block_lt_of_cell? _ _ (hHeld.2.2.2.2.2.2.2.2.2.2.2.2.2.2.2.2.2.2.2.2.2.2.2.2.2.1))).trans (hHeld.2.2.2.2.2.2.2.2.2.2.2.2.2.2.2.2.2.2.2.2.2.2.2.2.2.1)
    have jn := (hb.cell (World.block_lt_of_cell? _ _ (hHeld.2.2.2.2.2.2.2.2.2.2.2.2.2.2.2.2.2.2.2.2.2.2.2.2.2.2))).trans (hHeld.2.2.2.2.2.2.2.2.2.2.2.2.2.2.2.2.2.2.2.2.2.2.2.2.2.2)
    refine ⟨_, rfl, ?_⟩
    replace bb := Aside0.mk (Kd.V_elder' zx29_8 (Kd.R_base ho0) hb)
    replace bd := Aside0.mk (Kd.V_elder' zx29_9 (Kd.R_base ho0) hb)
    replace b6 := Aside0.mk (Kd.V_elder' (by (with_reducible repeat (first | apply Kd.V_alloc | apply Kd.V_drewN | apply Kd.V_drew)); exact b6.out) (Kd.R_base ho0) hb)
    replace b5 := Aside0.mk (Kd.V_elder' (by (with_reducible repeat (first | apply Kd.V_alloc | apply Kd.V_drewN | apply Kd.V_drew)); exact b5.out) (Kd.R_base ho0) hb)
    replace d8 := Aside0.mk (Kd.V_elder' (by (with_reducible repeat (first | apply Kd.V_alloc | apply Kd.V_drewN | apply Kd.V_drew)); exact d8.out) (Kd.R_base ho0) hb)
    have jE := Aside0.mk (Kd.R_lower (Kd.R_new' ho0 (Kd.R_lt zx29_15)) (below_size zx29_0))
    replace bG := Aside0.mk (Kd.R_elder' zx29_15 (Kd.R_base ho0) hb)
    replace be := Aside0.mk (blk_below (g := bf) (o := .cells #[.int .u64 bi, .int .u64 bn, .slice (some bh) bc.length bz] 27 (0, 0)) zx29_1 hb)
    replace bj := Aside0.mk (blk_below (g := bl) (o := .cells #[.int .u64 br, .int .u64 bq, .slice (some bw) bm.length bE] 27 (0, 0)) zx29_3 hb)
    replace bx := Aside0.mk (Kd.C_below zx29_13 hb)
    replace bR := Aside0.mk (Kd.C_below (by repeat (first | (with_reducible exact bR.out) | (with_reducible refine Kd.C_alloc ?_ _) | (with_reducible refine Kd.C_drewN ?_ _) | (with_reducible refine Kd.C_drew ?_) | exact bR.out)) hb)
    replace bQ := Aside0.mk (Kd.C_below (by repeat (first | (with_reducible exact bQ.out) | (with_reducible refine Kd.C_alloc ?_ _) | (with_reducible refine Kd.C_drewN ?_ _) | (with_reducible refine Kd.C_drew ?_) | exact bQ.out)) hb)
    replace dA := Aside0.mk (Kd.C_below (by repeat (first | (with_reducible exact dA.out) | (with_reducible refine Kd.C_alloc ?_ _) | (with_reducible refine Kd.C_drewN ?_ _) | (with_reducible refine Kd.C_drew ?_) | exact dA.out)) hb)
    replace dK := Aside0.mk (Kd.C_below (by repeat (first | (with_reducible exact dK.out) | (with_reducible refine Kd.C_alloc ?_ _) | (with_reducible refine Kd.C_drewN ?_ _) | (with_reducible refine Kd.C_drew ?_) | exact dK.out)) hb)
    replace HB := Aside0.mk (below_step zx29_0 hb)
    (try clear hb)
    (try clear hb2)
    (try clear hk)
    (try clear hi)
    (try clear ho0)
    obtain ⟨qf, o8, mM⟩ := Kd.R_slice jE.out
    (first | subst mM | (injection mM with f1_ f2_ f3_; have f4_ := f1_.symm; have f5_ := f3_.symm; clear f1_ f2_ f3_; subst f4_; subst f5_))
    refine hK.out _ _ ⟨(blk_cell bj.out 0).trans rfl, (blk_cell bj.out 1).trans rfl, (blk_cell bj.out 2).trans rfl, (blk_cell be.out 0).trans rfl, (blk_cell be.out 1).trans rfl, (blk_cell be.out 2).trans rfl, jm, jl, jk, jj, jD, jC, jB, jA, jz, jy, jx, jw, jv, ju, jt, js, jr, jq, jp, jo, jn⟩ (fun hHeld => ?_)
    clear hK K
    refine norm_ (a' := ?_) ?_ ?_
    rotate_left
    ·show Act.put _ (some 154) _ = _
     simp only [Act.put, List.setIfInBounds_toArray, List.set_cons_zero, List.set_cons_succ, i64_w, i32_w]
     rfl
    refine one_ (i := 36) (N := some 158) #[Tt,Tt,Tt,Tt,Tt,Tt,Tt,Tt,Tt,Tt,Tt,Tt,Tt,Tt,Tt,Tt,Tt,Tt,Tt,Tt,Tt,Tt,Tt,Tt,Tt,Tt,Tt,Tt,Tt,Tt,Tt,Tt,Tt,Tt,Tt,Tt,Tt,Ff,Ff] rfl rfl (one_of HT_.out (by kernel_rfl)) (by decide) (fun K hK => ?_)
    refine goes_ Tryd.func21 (by kernel_rfl) rfl #[.slice qf gj.length o8, .slice A74 gc.length c74] (by rfl) rfl rfl zx29_2 ?_
    with_reducible refine (postroomref10_Same.calls k2 _ _ gj _ _ gc true _ ?side1 ?side2 ?side3 ?side4 A70.out).mono ?_
    (case side1 => repeat (first | exact (Kd.R_reads' jE.out).2.2 | (with_reducible refine Kd.C_alloc ?_ _) | (with_reducible refine Kd.C_drewN ?_ _) | (with_reducible refine Kd.C_drew ?_)))
    (case side2 => exact (Kd.R_reads' jE.out).2.1)
    (case side3 => repeat (first | exact (by repeat (first | (with_reducible exact dK.out) | (with_reducible refine Kd.C_alloc ?_ _) | (with_reducible refine Kd.C_drewN ?_ _) | (with_reducible refine Kd.C_drew ?_) | exact dK.out)) | (with_reducible refine Kd.C_alloc ?_ _) | (with_reducible refine Kd.C_drewN ?_ _) | (with_reducible refine Kd.C_drew ?_)))
    (case side4 => exact mZ.out)
    rintro e w' ⟨rfl, ⟨nd, rfl⟩⟩
    refine ⟨_, rfl, ?_⟩
    refine hK.out _ _ ⟨(blk_cell bj.out 0).trans rfl, (blk_cell bj.out 1).trans rfl, (blk_cell bj.out 2).trans rfl, (blk_cell be.out 0).trans rfl, (blk_cell be.out 1).trans rfl, (blk_cell be.out 2).trans rfl, hHeld.2.2.2.2.2.2.1, hHeld.2.2.2.2.2.2.2.1, hHeld.2.2.2.2.2.2.2.2.1, hHeld.2.2.2.2.2.2.2.2.2.1, hHeld.2.2.2.2.2.2.2.2.2.2.1, hHeld.2.2.2.2.2.2.2.2.2.2.2.1, hHeld.2.2.2.2.2.2.2.2.2.2.2.2.1, hHeld.2.2.2.2.2.2.2.2.2.2.2.2.2.1, hHeld.2.2.2.2.2.2.2.2.2.2.2.2.2.2.1, hHeld.2.2.2.2.2.2.2.2.2.2.2.2.2.2.2.1, hHeld.2.2.2.2.2.2.2.2.2.2.2.2.2.2.2.2.1, hHeld.2.2.2.2.2.2.2.2.2.2.2.2.2.2.2.2.2.1, hHeld.2.2.2.2.2.2.2.2.2.2.2.2.2.2.2.2.2.2.1, hHeld.2.2.2.2.2.2.2.2.2.2.2.2.2.2.2.2.2.2.2.1, hHeld.2.2.2.2.2.2.2.2.2.2.2.2.2.2.2.2.2.2.2.2.1, hHeld.2.2.2.2.2.2.2.2.2.2.2.2.2.2.2.2.2.2.2.2.2.1, hHeld.2.2.2.2.2.2.2.2.2.2.2.2.2.2.2.2.2.2.2.2.2.2.1, hHeld.2.2.2.2.2.2.2.2.2.2.2.2.2.2.2.2.2.2.2.2.2.2.2.1, hHeld.2.2.2.2.2.2.2.2.2.2.2.2.2.2.2.2.2.2.2.2.2.2.2.2.1, hHeld.2.2.2.2.2.2.2.2.2.2.2.2.2.2.2.2.2.2.2.2.2.2.2.2.2.1, hHeld.2.2.2.2.2.2.2.2.2.2.2.2.2.2.2.2.2.2.2.2.2.2.2.2.2.2⟩ (fun hHeld => ?_)
    clear hK K
    refine norm_ (a' := ?_) ?_ ?_
    rotate_left
    ·show Act.put _ (some 158) _ = _
     simp only [Act.put, List.setIfInBounds_toArray, List.set_cons_zero, List.set_cons_succ, i64_w, i32_w]
     rfl
    refine pp_ 37 (some 159) HT_.out ?_
    refine pp_ 38 (some 160) HT_.out ?_
    refine done_ (done_of HT_.out (by kernel_rfl)) ?_
    try go_wp2
    go_roundg k2
    case measure => have := HK1.out; have := HK2.out; omega
    case rel => exact ⟨(wrap64 (ba + 1)), zx29_14, H', ⟨by have := HK1.out; have := HK2.out; omega⟩, ⟨by (with_reducible repeat (first | apply Kd.V_alloc | apply Kd.V_drewN | apply Kd.V_drew)); exact Kd.V_mono bb.out (fun _ hk => ⟨hk.1.2.1, hk.1.2.2⟩)⟩, ⟨by (with_reducible repeat (first | apply Kd.V_alloc | apply Kd.V_drewN | apply Kd.V_drew)); exact Kd.V_mono bd.out (fun _ hk => ⟨hk.1.2.1, hk.1.2.2⟩)⟩, ⟨by (with_reducible repeat (first | refine blk_drewN ?_ _ | refine blk_drew ?_ | refine blk_alloc ?_ _)); exact be.out⟩, ⟨by (with_reducible repeat (first | refine blk_drewN ?_ _ | refine blk_drew ?_ | refine blk_alloc ?_ _)); exact bj.out⟩, ⟨by repeat (first | (with_reducible first | exact HB.out | apply below_alloc | apply pw_below_drewN | apply below_drew1 | refine below_set ?_ b7.out | refine below_set ?_ dq.out) | exact HB.out)⟩⟩
   rw [if_pos c55] at H
   have mQ : decide ((IntKind.u64.wrap (bi + (IntKind.u64.wrap (bp)))) ≤ bA) = true := decide_eq_true c55
   clear c55
   by_cases c56 : bo > 0
   ·rw [if_pos c56] at H
    exact absurd H (by simp)
   rw [if_neg c56] at H
   have qM : decide (0 < bo) = false := decide_eq_false c56
   clear c56
   replace H := Option.bind_eq_some_iff.mp H
   obtain ⟨gl, m7, H⟩ := H
   replace H : (if 0 ≤ bo then (if bo ≤ (bB.length : Int) then ((postroomref10_Same.f k2 gl (bB.drop (bo : Int).toNat)).bind fun gg => (if gg = true then (postroomlaw10_LedgerEvicts.l0 k2 (IntKind.u64.wrap (bi + (IntKind.u64.wrap (bp)))) bA (wrap64 (ba + 1)) bi bn bc br bq bm) else (none))) else (none)) else (none)) = some r := H
   have A57 := Aside0.mk m7
   clear m7
   by_cases c58 : 0 ≤ bo
   case neg =>
    rw [if_neg c58] at H
    exact absurd H (by simp)
   rw [if_pos c58] at H
   have qL := eq_true c58
   have qK : decide (0 ≤ bo) = true := decide_eq_true c58
   clear c58
   by_cases c59 : bo ≤ (bB.length : Int)
   case neg =>
    rw [if_neg c59] at H
    exact absurd H (by simp)
   rw [if_pos c59] at H
   have qJ := eq_true c59
   have qI : decide (bo ≤ (bB.length : Int)) = true := decide_eq_true c59
   clear c59
   obtain ⟨ge, gi⟩ : ∃ y_ : List Int, y_ = (bB.drop (bo : Int).toNat) := ⟨_, rfl⟩
   replace H : ((postroomref10_Same.f k2 gl ge).bind fun gg => (if gg = true then (postroomlaw10_LedgerEvicts.l0 k2 (IntKind.u64.wrap (bi + (IntKind.u64.wrap (bp)))) bA (wrap64 (ba + 1)) bi bn bc br bq bm) else (none))) = some r := by first | (rw [gi]; with_reducible exact H) | (have H2_ := (Option.bind_some _ _).symm.trans H; rw [gi]; with_reducible exact H2_) | (have H2_ := (Option.bind_some _ _).symm.trans H; with_reducible exact H2_) | with_reducible exact H | (rw [gi]; exact H) | exact H
   have mo := Aside0.mk gi
   clear gi
   replace H := Option.bind_eq_some_iff.mp H
   obtain ⟨gg, m6, H⟩ := H
   replace H : (if gg = true then (postroomlaw10_LedgerEvicts.l0 k2 (IntKind.u64.wrap (bi + (IntKind.u64.wrap (bp)))) bA (wrap64 (ba + 1)) bi bn bc br bq bm) else (none)) = some r := H
   have A60 := Aside0.mk m6
   clear m6
   by_cases c61 : gg = true
   case neg =>
    replace c61 := Bool.eq_false_iff.mpr c61
    subst c61
    have H1 : (none) = some r := by rw [if_neg (show ¬ (false = true) by decide)] at H; exact H
    clear H
    have H := H1
    clear H1
    exact absurd H (by simp)
   subst c61
   have H1 : (postroomlaw10_LedgerEvicts.l0 k2 (IntKind.u64.wrap (bi + (IntKind.u64.wrap (bp)))) bA (wrap64 (ba + 1)) bi bn bc br bq bm) = some r := by rw [if_pos rfl] at H; exact H
   clear H
   have H := H1
   clear H1
   have H' := Aside0.mk H
   clear H
   obtain ⟨j5, jf, o0⟩ := Kd.R_slice bG.out
   subst o0
   try go_wp2
   replace bG := Aside0.mk (Kd.R_drew bG.out)
   replace bb := Aside0.mk (Kd.V_drew bb.out)
   replace bd := Aside0.mk (Kd.V_drew bd.out)
   replace be := Aside0.mk (blk_drew be.out)
   replace bj := Aside0.mk (blk_drew bj.out)
   replace bx := Aside0.mk (Kd.C_drew bx.out)
   replace HB := Aside0.mk (below_drew1 HB.out)
   have dV : 0 ≤ (ba : Int) := of_decide_eq_true zx29_4
   have dT : ba < (bm.length : Int) := of_decide_eq_true zx29_4
   obtain ⟨bw, gt, gs, mE, dk, dj, di, b2, dh, dg, df, dm, dp⟩ := at_T37 (Kd.V_reads' bd.out).2.2 ba dV dT
   cases mE
   obtain ⟨mP, gp, gr, dE⟩ := Kd.V_get bd.out z37 ba dV (by first | exact dT | exact of_decide_eq_true zx29_4 | (have e_ := (Kd.V_reads' bd.out).1; omega))
   obtain ⟨jK, jI, rfl, b1, b4⟩ := k37_openF gr
   have bP := dE 3 _ rfl
   rw [add_field _ _ 3 (by omega)] at bP
   replace bP := Option.some.inj (bP.symm.trans b2)
   injection bP with hva_ hvn_ hvc_
   rw [hva_] at b4
   rw [hvc_] at b1
   have b6 := Aside0.mk (show Kd.V (Kd.int .u64) 24 _ w.heap.size _ _ ((rd_T37 bm ba).f3) from Kd.V_mk b1 b4)
   clear hva_ hvn_ hvc_ b4 b1
   clear dE gp
   have bR := Aside0.mk dp
   have j3 := Aside0.mk dm
   clear dp dm
   replace dV := eq_true dV
   replace dT := eq_true dT
   have dU : 0 ≤ (ba : Int) := of_decide_eq_true zx29_4
   have dS : ba < (bc.length : Int) := of_decide_eq_true zx29_4
   obtain ⟨ji, dG, dF, mD, de, dd, dc, bN, db, da, b9, dl, dn⟩ := at_T37 (Kd.V_reads' bb.out).2.2 ba dU dS
   obtain rfl : bh = ji := (by injection mD)
   obtain ⟨mO, go, gq, dD⟩ := Kd.V_get bb.out z37 ba dU (by first | exact dS | exact of_decide_eq_true zx29_4 | (have e_ := (Kd.V_reads' bb.out).1; omega))
   obtain ⟨jJ, jH, rfl, b0, b3⟩ := k37_openF gq
   have bO := dD 3 _ rfl
   rw [add_field _ _ 3 (by omega)] at bO
   replace bO := Option.some.inj (bO.symm.trans bN)
   injection bO with hva_ hvn_ hvc_
   rw [hva_] at b3
   rw [hvc_] at b0
   have b5 := Aside0.mk (show Kd.V (Kd.int .u64) 24 _ w.heap.size _ _ ((rd_T37 bc ba).f3) from Kd.V_mk b0 b3)
   clear hva_ hvn_ hvc_ b3 b0
   clear dD go
   have bQ := Aside0.mk dn
   have j2 := Aside0.mk dl
   clear dn dl
   replace dU := eq_true dU
   replace dS := eq_true dS
   have jO : 0 ≤ (ba : Int) := of_decide_eq_true zx29_4
   have jM : ba < (bc.length : Int) := of_decide_eq_true zx29_4
   obtain ⟨mW, qi, qb, o6, gF, gE, gD, dv, gC, gB, gA, gH, gK⟩ := at_T37 (Kd.V_reads' bb.out).2.2 ba jO jM
   obtain rfl : bh = mW := (by injection o6)
   obtain ⟨qA, mv, mB, jc⟩ := Kd.V_get bb.out z37 ba jO (by first | exact jM | exact of_decide_eq_true zx29_4 | (have e_ := (Kd.V_reads' bb.out).1; omega))
   obtain ⟨oh, od, rfl, dP, d5⟩ := k37_openF mB
   have dy := jc 3 _ rfl
   rw [add_field _ _ 3 (by omega)] at dy
   replace dy := Option.some.inj (dy.symm.trans dv)
   injection dy with hva_ hvn_ hvc_
   rw [hva_] at d5
   rw [hvc_] at dP
   have d9 := Aside0.mk (show Kd.V (Kd.int .u64) 24 _ w.heap.size _ _ ((rd_T37 bc ba).f3) from Kd.V_mk dP d5)
   clear hva_ hvn_ hvc_ d5 dP
   clear jc mv
   have dB := Aside0.mk gK
   have oQ := Aside0.mk gH
   clear gK gH
   replace jO := eq_true jO
   replace jM := eq_true jM
   have ea_ := Option.some.inj (bN.symm.trans dv)
   injection ea_ with ea_ en_ ec_
   subst ea_
   subst ec_
   clear en_
   have q64 : (bo : Int) ≤ ((bB.length : Int) : Int) := of_decide_eq_true zx29_4
   obtain ⟨q4, j9, _, j7, _⟩ := info_parts info24
   have d3 : bB.length ≤ jf := (Kd.R_reads' bG.out).2.1
   have mL : Kd.C (Kd.int .u64) _ j5 bB.length bB := (Kd.R_reads' bG.out).2.2
   have oW : (0 : Int) ≤ (bo : Int) := of_decide_eq_true zx29_4
   have mt := cut_from (P := Tryd.prog) 35 24 .u64 Tryd.underlying35 j9 1 j7 j5 bB.length jf bo oW q64
   have ja := Kd.C_drop (m := (bo : Int).toNat) (c := jf) mL (by omega) d3
   obtain ⟨A64, jZ⟩ : ∃ A1, A1 = (if jf = (bo : Int).toNat then j5 else (j5 : Option Addr).map (·.add ((bo : Int).toNat * 1))) := ⟨_, rfl⟩
   obtain ⟨c64, mz⟩ : ∃ c1, c1 = jf - (bo : Int).toNat := ⟨_, rfl⟩
   have jQ : ge.length = bB.length - (bo : Int).toNat := (by rw [mo.out, List.length_drop] <;> omega)
   rw [show (bB).drop (bo : Int).toNat = ge from mo.out.symm] at ja
   replace ja : Kd.C (Kd.int .u64) _ A64 ge.length ge := (by rw [jZ]; exact ja)
   rw [← jQ, ← jZ, ← mz] at mt
   have dL := Aside0.mk ja
   have m0 := Aside0.mk (show ge.length ≤ c64 from by rw [jQ, mz]; exact Nat.sub_le_sub_right d3 _)
   clear ja mL d3 j9 j7 mz
   have sb := Aside0.mk jQ
   have sf := Aside0.mk jZ
   clear jQ jZ
   have sd := Aside0.mk (show (bo : Int).toNat ≤ bB.length from by omega)
   replace q64 := eq_true q64
   refine start_ (n := 39) (S := fun w' => w'.cell? ⟨bl, 0, none⟩ = some (.int .u64 br) ∧ w'.cell? ⟨bl, 1, none⟩ = some (.int .u64 bq) ∧ w'.cell? ⟨bl, 2, none⟩ = some (.slice (some bw) bm.length bE) ∧ w'.cell? ⟨bf, 0, none⟩ = some (.int .u64 bi) ∧ w'.cell? ⟨bf, 1, none⟩ = some (.int .u64 bn) ∧ w'.cell? ⟨bf, 2, none⟩ = some (.slice (some bh) bc.length bz) ∧ w'.cell? (bw.add ((ba).toNat * 7)) = some (.string ((rd_T37 bm ba).f0)) ∧ w'.cell? ⟨(bw.add ((ba).toNat * 7)).block, (bw.add ((ba).toNat * 7)).off + 1, none⟩ = some (.int .u64 ((rd_T37 bm ba).f1)) ∧ w'.cell? ⟨(bw.add ((ba).toNat * 7)).block, (bw.add ((ba).toNat * 7)).off + 2, none⟩ = some (.int .u64 ((rd_T37 bm ba).f2)) ∧ w'.cell? ⟨(bw.add ((ba).toNat * 7)).block, (bw.add ((ba).toNat * 7)).off + 3, none⟩ = some (.slice gt ((rd_T37 bm ba).f3).length gs) ∧ w'.cell? ⟨(bw.add ((ba).toNat * 7)).block, (bw.add ((ba).toNat * 7)).off + 4, none⟩ = some (.int .u64 ((rd_T37 bm ba).f4)) ∧ w'.cell? ⟨(bw.add ((ba).toNat * 7)).block, (bw.add ((ba).toNat * 7)).off + 5, none⟩ = some (.int .u64 ((rd_T37 bm ba).f5)) ∧ w'.cell? ⟨(bw.add ((ba).toNat * 7)).block, (bw.add ((ba).toNat * 7)).off + 6, none⟩ = some (.int .u64 ((rd_T37 bm ba).f6)) ∧ w'.cell? (bh.add ((ba).toNat * 7)) = some (.string ((rd_T37 bc ba).f0)) ∧ w'.cell? ⟨(bh.add ((ba).toNat * 7)).block, (bh.add ((ba).toNat * 7)).off + 1, none⟩ = some (.int .u64 ((rd_T37 bc ba).f1)) ∧ w'.cell? ⟨(bh.add ((ba).toNat * 7)).block, (bh.add ((ba).toNat * 7)).off + 2, none⟩ = some (.int .u64 ((rd_T37 bc ba).f2)) ∧ w'.cell? ⟨(bh.add ((ba).toNat * 7)).block, (bh.add ((ba).toNat * 7)).off + 3, none⟩ = some (.slice dG ((rd_T37 bc ba).f3).length dF) ∧ w'.cell? ⟨(bh.add ((ba).toNat * 7)).block, (bh.add ((ba).toNat * 7)).off + 4, none⟩ = some (.int .u64 ((rd_T37 bc ba).f4)) ∧ w'.cell? ⟨(bh.add ((ba).toNat * 7)).block, (bh.add ((ba).toNat * 7)).off + 5, none⟩ = some (.int .u64 ((rd_T37 bc ba).f5)) ∧ w'.cell? ⟨(bh.add ((ba).toNat * 7)).block, (bh.add ((ba).toNat * 7)).off + 6, none⟩ = some (.int .u64 ((rd_T37 bc ba).f6)) ∧ w'.cell? (bh.add ((ba).toNat * 7)) = some (.string ((rd_T37 bc ba).f0)) ∧ w'.cell? ⟨(bh.add ((ba).toNat * 7)).block, (bh.add ((ba).toNat * 7)).off + 1, none⟩ = some (.int .u64 ((rd_T37 bc ba).f1)) ∧ w'.cell? ⟨(bh.add ((ba).toNat * 7)).block, (bh.add ((ba).toNat * 7)).off + 2, none⟩ = some (.int .u64 ((rd_T37 bc ba).f2)) ∧ w'.cell? ⟨(bh.add ((ba).toNat * 7)).block, (bh.add ((ba).toNat * 7)).off + 3, none⟩ = some (.slice dG ((rd_T37 bc ba).f3).length dF) ∧ w'.cell? ⟨(bh.add ((ba).toNat * 7)).block, (bh.add ((ba).toNat * 7)).off + 4, none⟩ = some (.int .u64 ((rd_T37 bc ba).f4)) ∧ w'.cell? ⟨(bh.add ((ba).toNat * 7)).block, (bh.add ((ba).toNat * 7)).off + 5, none⟩ = some (.int .u64 ((rd_T37 bc ba).f5)) ∧ w'.cell? ⟨(bh.add ((ba).toNat * 7)).block, (bh.add ((ba).toNat * 7)).off + 6, none⟩ = some (.int .u64 ((rd_T37 bc ba).f6))) (ds := []) #[Ff,Ff,Ff,Ff,Ff,Ff,Ff,Ff,Ff,Ff,Ff,Ff,Ff,Ff,Ff,Ff,Ff,Ff,Ff,Ff,Ff,Ff,Ff,Ff,Ff,Ff,Ff,Ff,Ff,Ff,Ff,Ff,Ff,Ff,Ff,Ff,Ff,Ff,Ff] (by kernel_rfl) rfl rfl ⟨(blk_cell bj.out 0).trans rfl, (blk_cell bj.out 1).trans rfl, (blk_cell bj.out 2).trans rfl, (blk_cell be.out 0).trans rfl, (blk_cell be.out 1).trans rfl, (blk_cell be.out 2).trans rfl, dk, dj, di, b2, dh, dg, df, de, dd, dc, bN, db, da, b9, gF, gE, gD, dv, gC, gB, gA⟩ (fun hHeld => ?_); refine with_tabW postroomlaw10_LedgerEvicts.tab20 postroomlaw10_LedgerEvicts.bits20 (fun HT_ HW_ => ?_)
   generalize wr.drew = w63 at bG bb bd be bj bx HB b6 b5 d9 bR bQ dB dL dk dj di b2 dh dg df de dd dc bN db da b9 gF gE gD dv gC gB gA hHeld ⊢
   refine pp_ 0 (some 122) HT_.out ?_
   refine pp_ 2 (some 124) HT_.out ?_
   refine pp_ 6 (some 128) HT_.out ?_
   refine pp_ 8 (some 130) HT_.out ?_
   refine pp_ 12 (some 134) HT_.out ?_
   refine take_ (i := 1) (N := some 123) (v := ?_) (a' := ?_) #[Tt,Tt,Tt,Ff,Ff,Ff,Tt,Ff,Tt,Ff,Ff,Ff,Tt,Ff,Ff,Ff,Ff,Ff,Ff,Ff,Ff,Ff,Ff,Ff,Ff,Ff,Ff,Ff,Ff,Ff,Ff,Ff,Ff,Ff,Ff,Ff,Ff,Ff,Ff] rfl rfl (take_ofW HT_.out HW_.out (by kernel_rfl)) (fun _ _ _ h => h) (Or.inl ⟨by rfl, ?_⟩) hHeld ?_ ?_
   rotate_left
   ·rintro w' ⟨s0, s1, s2, s3, s4, s5, s6, s7, s8, s9, s10, s11, s12, s13, s14, s15, s16, s17, s18, s19, s20, s21, s22, s23, s24, s25, s26⟩
    go_simp
    with_reducible rfl
   rotate_left
   ·simp only [Act.put, List.setIfInBounds_toArray, List.set_cons_zero, List.set_cons_succ, i64_w, i32_w]
    rfl
   refine pp_ 3 (some 125) HT_.out ?_
   refine pp_ 4 (some 126) HT_.out ?_
   refine take_ (i := 5) (N := some 127) (v := ?_) (a' := ?_) #[Tt,Tt,Tt,Tt,Tt,Tt,Tt,Ff,Tt,Ff,Ff,Ff,Tt,Ff,Ff,Ff,Ff,Ff,Ff,Ff,Ff,Ff,Ff,Ff,Ff,Ff,Ff,Ff,Ff,Ff,Ff,Ff,Ff,Ff,Ff,Ff,Ff,Ff,Ff] rfl rfl (take_ofW HT_.out HW_.out (by kernel_rfl)) (fun _ _ _ h => h) (Or.inl ⟨by rfl, ?_⟩) hHeld ?_ ?_
   rotate_left
   ·rintro w' ⟨s0, s1, s2, s3, s4, s5, s6, s7, s8, s9, s10, s11, s12, s13, s14, s15, s16, s17, s18, s19, s20, s21, s22, s23, s24, s25, s26⟩
    go_simp
    with_reducible rfl
   rotate_left
   ·simp only [Act.put, List.setIfInBounds_toArray, List.set_cons_zero, List.set_cons_succ, i64_w, i32_w]
    rfl
   refine take_ (i := 7) (N := some 129) (v := ?_) (a' := ?_) #[Tt,Tt,Tt,Tt,Tt,Tt,Tt,Tt,Tt,Ff,Ff,Ff,Tt,Ff,Ff,Ff,Ff,Ff,Ff,Ff,Ff,Ff,Ff,Ff,Ff,Ff,Ff,Ff,Ff,Ff,Ff,Ff,Ff,Ff,Ff,Ff,Ff,Ff,Ff] rfl rfl (take_ofW HT_.out HW_.out (by kernel_rfl)) (fun _ _ _ h => h) (Or.inl ⟨by rfl, ?_⟩) hHeld ?_ ?_
   rotate_left
   ·rintro w' ⟨s0, s1, s2, s3, s4, s5, s6, s7, s8, s9, s10, s11, s12, s13, s14, s15, s16, s17, s18, s19, s20, s21, s22, s23, s24, s25, s26⟩
    go_simp
    with_reducible rfl
   rotate_left
   ·simp only [Act.put, List.setIfInBounds_toArray, List.set_cons_zero, List.set_cons_succ, i64_w, i32_w]
    rfl
   refine pp_ 9 (some 131) HT_.out ?_
   refine pp_ 10 (some 132) HT_.out ?_
   refine take_ (i := 11) (N := some 133) (v := ?_) (a' := ?_) #[Tt,Tt,Tt,Tt,Tt,Tt,Tt,Tt,Tt,Tt,Tt,Tt,Tt,Ff,Ff,Ff,Ff,Ff,Ff,Ff,Ff,Ff,Ff,Ff,Ff,Ff,Ff,Ff,Ff,Ff,Ff,Ff,Ff,Ff,Ff,Ff,Ff,Ff,Ff] rfl rfl (take_ofW HT_.out HW_.out (by kernel_rfl)) (fun _ _ _ h => h) (Or.inl ⟨by rfl, ?_⟩) hHeld ?_ ?_
   rotate_left
   ·rintro w' ⟨s0, s1, s2, s3, s4, s5, s6, s7, s8, s9, s10, s11, s12, s13, s14, s15, s16, s17, s18, s19, s20, s21, s22, s23, s24, s25, s26⟩
    go_simp
    with_reducible rfl
   rotate_left
   ·simp only [Act.put, List.setIfInBounds_toArray, List.set_cons_zero, List.set_cons_succ, i64_w, i32_w]
    rfl
   refine pp_ 13 (some 135) HT_.out ?_
   refine pp_ 14 (some 136) HT_.out ?_
   refine pp_ 15 (some 137) HT_.out ?_
   refine pp_ 16 (some 138) HT_.out ?_
   refine pp_ 17 (some 139) HT_.out ?_
   refine pp_ 18 (some 140) HT_.out ?_
   refine pp_ 19 (some 141) HT_.out ?_
   refine pp_ 20 (some 142) HT_.out ?_
   refine pp_ 21 (some 143) HT_.out ?_
   refine pp_ 22 (some 144) HT_.out ?_
   refine pp_ 23 (some 145) HT_.out ?_
   refine pp_ 24 (some 146) HT_.out ?_
   refine pp_ 26 (some 148) HT_.out ?_
   refine pp_ 28 (some 150) HT_.out ?_
   refine pp_ 33 (some 155) HT_.out ?_
   refine pp_ 34 (some 156) HT_.out ?_
   refine pp_ 35 (some 157) HT_.out ?_
   refine take_ (i := 25) (N := some 147) (v := ?_) (a' := ?_) #[Tt,Tt,Tt,Tt,Tt,Tt,Tt,Tt,Tt,Tt,Tt,Tt,Tt,Tt,Tt,Tt,Tt,Tt,Tt,Tt,Tt,Tt,Tt,Tt,Tt,Tt,Tt,Ff,Tt,Ff,Ff,Ff,Ff,Tt,Tt,Tt,Ff,Ff,Ff] rfl rfl (take_ofW HT_.out HW_.out (by kernel_rfl)) (fun _ _ _ h => h) (Or.inl ⟨by rfl, ?_⟩) hHeld ?_ ?_
   rotate_left
   ·rintro w' ⟨s0, s1, s2, s3, s4, s5, s6, s7, s8, s9, s10, s11, s12, s13, s14, s15, s16, s17, s18, s19, s20, s21, s22, s23, s24, s25, s26⟩
    go_simp
    with_reducible rfl
   rotate_left
   ·simp only [Act.put, List.setIfInBounds_toArray, List.set_cons_zero, List.set_cons_succ, i64_w, i32_w]
    rfl
   refine take_ (i := 27) (N := some 149) (v := ?_) (a' := ?_) #[Tt,Tt,Tt,Tt,Tt,Tt,Tt,Tt,Tt,Tt,Tt,Tt,Tt,Tt,Tt,Tt,Tt,Tt,Tt,Tt,Tt,Tt,Tt,Tt,Tt,Tt,Tt,Tt,Tt,Ff,Ff,Ff,Ff,Tt,Tt,Tt,Ff,Ff,Ff] rfl rfl (take_ofW HT_.out HW_.out (by kernel_rfl)) (fun _ _ _ h => h) (Or.inl ⟨by rfl, ?_⟩) hHeld ?_ ?_
   rotate_left
   ·rintro w' ⟨s0, s1, s2, s3, s4, s5, s6, s7, s8, s9, s10, s11, s12, s13, s14, s15, s16, s17, s18, s19, s20, s21, s22, s23, s24, s25, s26⟩
    go_simp
    with_reducible rfl
   rotate_left
   ·simp only [Act.put, List.setIfInBounds_toArray, List.set_cons_zero, List.set_cons_succ, i64_w, i32_w]
    rfl
   refine pp_ 29 (some 151) HT_.out ?_
   refine pp_ 30 (some 152) HT_.out ?_
   refine take_ (i := 31) (N := some 153) (v := ?_) (a' := ?_) #[Tt,Tt,Tt,Tt,Tt,Tt,Tt,Tt,Tt,Tt,Tt,Tt,Tt,Tt,Tt,Tt,Tt,Tt,Tt,Tt,Tt,Tt,Tt,Tt,Tt,Tt,Tt,Tt,Tt,Tt,Tt,Tt,Ff,Tt,Tt,Tt,Ff,Ff,Ff] rfl rfl (take_ofW HT_.out HW_.out (by kernel_rfl)) (fun _ _ _ h => h) (Or.inl ⟨by rfl, ?_⟩) hHeld ?_ ?_
   rotate_left
   ·rintro w' ⟨s0, s1, s2, s3, s4, s5, s6, s7, s8, s9, s10, s11, s12, s13, s14, s15, s16, s17, s18, s19, s20, s21, s22, s23, s24, s25, s26⟩
    go_simp
    with_reducible rfl
   rotate_left
   ·simp only [Act.put, List.setIfInBounds_toArray, List.set_cons_zero, List.set_cons_succ, i64_w, i32_w]
    rfl
   refine one_ (i := 32) (N := some 154) #[Tt,Tt,Tt,Tt,Tt,Tt,Tt,Tt,Tt,Tt,Tt,Tt,Tt,Tt,Tt,Tt,Tt,Tt,Tt,Tt,Tt,Tt,Tt,Tt,Tt,Tt,Tt,Tt,Tt,Tt,Tt,Tt,Tt,Tt,Tt,Tt,Ff,Ff,Ff] rfl rfl (one_of HT_.out (by kernel_rfl)) (by decide) (fun K hK => ?_)
   refine goes_ Tryd.func18 (by kernel_rfl) rfl #[.agg #[.int .u64 br, .int .u64 bq, .slice (some bw) bm.length bE], .string ((rd_T37 bc ba).f0)] (by rfl) rfl rfl zx29_2 ?_
   with_reducible refine (ledger_Pending.calls k2 br bq _ _ bm ((rd_T37 bc ba).f0) gl _ ?side1 ?side2 A57.out).mono ?_
   (case side1 => repeat (first | exact (Kd.V_reads' bd.out).2.2 | (with_reducible refine Kd.C_alloc ?_ _) | (with_reducible refine Kd.C_drewN ?_ _) | (with_reducible refine Kd.C_drew ?_)))
   (case side2 => exact (Kd.V_reads' bd.out).2.1)
   rintro e w65 ⟨qY, rfl, ho0, hb⟩
   have jm := (hb.cell (World.block_lt_of_cell? _ _ (hHeld.2.2.2.2.2.2.1))).trans (hHeld.2.2.2.2.2.2.1)
   have jl := (hb.cell (World.block_lt_of_cell? _ _ (hHeld.2.2.2.2.2.2.2.1))).trans (hHeld.2.2.2.2.2.2.2.1)
   have jk := (hb.cell (World.block_lt_of_cell? _ _ (hHeld.2.2.2.2.2.2.2.2.1))).trans (hHeld.2.2.2.2.2.2.2.2.1)
   have jj := (hb.cell (World.block_lt_of_cell? _ _ (hHeld.2.2.2.2.2.2.2.2.2.1))).trans (hHeld.2.2.2.2.2.2.2.2.2.1)
   have jD := (hb.cell (World.block_lt_of_cell? _ _ (hHeld.2.2.2.2.2.2.2.2.2.2.1))).trans (hHeld.2.2.2.2.2.2.2.2.2.2.1)
   have jC := (hb.cell (World.block_lt_of_cell? _ _ (hHeld.2.2.2.2.2.2.2.2.2.2.2.1))).trans (hHeld.2.2.2.2.2.2.2.2.2.2.2.1)
   have jB := (hb.cell (World.block_lt_of_cell? _ _ (hHeld.2.2.2.2.2.2.2.2.2.2.2.2.1))).trans (hHeld.2.2.2.2.2.2.2.2.2.2.2.2.1)
   have jA := (hb.cell (World.block_lt_of_cell? _ _ (hHeld.2.2.2.2.2.2.2.2.2.2.2.2.2.1))).trans (hHeld.2.2.2.2.2.2.2.2.2.2.2.2.2.1)
   have jz := (hb.cell (World.block_lt_of_cell? _ _ (hHeld.2.2.2.2.2.2.2.2.2.2.2.2.2.2.1))).trans (hHeld.2.2.2.2.2.2.2.2.2.2.2.2.2.2.1)
   have jy := (hb.cell (World.block_lt_of_cell? _ _ (hHeld.2.2.2.2.2.2.2.2.2.2.2.2.2.2.2.1))).trans (hHeld.2.2.2.2.2.2.2.2.2.2.2.2.2.2.2.1)
   have jx := (hb.cell (World.block_lt_of_cell? _ _ (hHeld.2.2.2.2.2.2.2.2.2.2.2.2.2.2.2.2.1))).trans (hHeld.2.2.2.2.2.2.2.2.2.2.2.2.2.2.2.2.1)
   have jw := (hb.cell (World.block_lt_of_cell? _ _ (hHeld.2.2.2.2.2.2.2.2.2.2.2.2.2.2.2.2.2.1))).trans (hHeld.2.2.2.2.2.2.2.2.2.2.2.2.2.2.2.2.2.1)
   have jv := (hb.cell (World.block_lt_of_cell? _ _ (hHeld.2.2.2.2.2.2.2.2.2.2.2.2.2.2.2.2.2.2.1))).trans (hHeld.2.2.2.2.2.2.2.2.2.2.2.2.2.2.2.2.2.2.1)
   have ju := (hb.cell (World.block_lt_of_cell? _ _ (hHeld.2.2.2.2.2.2.2.2.2.2.2.2.2.2.2.2.2.2.2.1))).trans (hHeld.2.2.2.2.2.2.2.2.2.2.2.2.2.2.2.2.2.2.2.1)
   have jt := (hb.cell (World.block_lt_of_cell? _ _ (hHeld.2.2.2.2.2.2.2.2.2.2.2.2.2.2.2.2.2.2.2.2.1))).trans (hHeld.2.2.2.2.2.2.2.2.2.2.2.2.2.2.2.2.2.2.2.2.1)
   have js := (hb.cell (World.block_lt_of_cell? _ _ (hHeld.2.2.2.2.2.2.2.2.2.2.2.2.2.2.2.2.2.2.2.2.2.1))).trans (hHeld.2.2.2.2.2.2.2.2.2.2.2.2.2.2.2.2.2.2.2.2.2.1)
   have jr := (hb.cell (World.block_lt_of_cell? _ _ (hHeld.2.2.2.2.2.2.2.2.2.2.2.2.2.2.2.2.2.2.2.2.2.2.1))).trans (hHeld.2.2.2.2.2.2.2.2.2.2.2.2.2.2.2.2.2.2.2.2.2.2.1)
   have jq := (hb.cell (World.block_lt_of_cell? _ _ (hHeld.2.2.2.2.2.2.2.2.2.2.2.2.2.2.2.2.2.2.2.2.2.2.2.1))).trans (hHeld.2.2.2.2.2.2.2.2.2.2.2.2.2.2.2.2.2.2.2.2.2.2.2.1)
   have jp := (hb.cell (World.block_lt_of_cell? _ _ (hHeld.2.2.2.2.2.2.2.2.2.2.2.2.2.2.2.2.2.2.2.2.2.2.2.2.1))).trans (hHeld.2.2.2.2.2.2.2.2.2.2.2.2.2.2.2.2.2.2.2.2.2.2.2.2.1)
   have jo := (hb.cell (World.block_lt_of_cell? _ _ (hHeld.2.2.2.2.2.2.2.2.2.2.2.2.2.2.2.2.2.2.2.2.2.2.2.2.2.1))).trans (hHeld.2.2.2.2.2.2.2.2.2.2.2.2.2.2.2.2.2.2.2.2.2.2.2.2.2.1)
   have jn := (hb.cell (World.block_lt_of_cell? _ _ (hHeld.2.2.2.2.2.2.2.2.2.2.2.2.2.2.2.2.2.2.2.2.2.2.2.2.2.2))).trans (hHeld.2.2.2.2.2.2.2.2.2.2.2.2.2.2.2.2.2.2.2.2.2.2.2.2.2.2)
   refine ⟨_, rfl, ?_⟩
   replace bb := Aside0.mk (Kd.V_elder' zx29_8 (Kd.R_base ho0) hb)
   replace bd := Aside0.mk (Kd.V_elder' zx29_9 (Kd.R_base ho0) hb)
   replace b6 := Aside0.mk (Kd.V_elder' (by (with_reducible repeat (first | apply Kd.V_alloc | apply Kd.V_drewN | apply Kd.V_drew)); exact b6.out) (Kd.R_base ho0) hb)
   replace b5 := Aside0.mk (Kd.V_elder' (by (with_reducible repeat (first | apply Kd.V_alloc | apply Kd.V_drewN | apply Kd.V_drew)); exact b5.out) (Kd.R_base ho0) hb)
   replace d9 := Aside0.mk (Kd.V_elder' (by (with_reducible repeat (first | apply Kd.V_alloc | apply Kd.V_drewN | apply Kd.V_drew)); exact d9.out) (Kd.R_base ho0) hb)
   have jF := Aside0.mk (Kd.R_lower (Kd.R_new' ho0 (Kd.R_lt zx29_15)) (below_size zx29_0))
   replace bG := Aside0.mk (Kd.R_elder' zx29_15 (Kd.R_base ho0) hb)
   replace be := Aside0.mk (blk_below (g := bf) (o := .cells #[.int .u64 bi, .int .u64 bn, .slice (some bh) bc.length bz] 27 (0, 0)) zx29_1 hb)
   replace bj := Aside0.mk (blk_below (g := bl) (o := .cells #[.int .u64 br, .int .u64 bq, .slice (some bw) bm.length bE] 27 (0, 0)) zx29_3 hb)
   replace bx := Aside0.mk (Kd.C_below zx29_13 hb)
   replace bR := Aside0.mk (Kd.C_below (by repeat (first | (with_reducible exact bR.out) | (with_reducible refine Kd.C_alloc ?_ _) | (with_reducible refine Kd.C_drewN ?_ _) | (with_reducible refine Kd.C_drew ?_) | exact bR.out)) hb)
   replace bQ := Aside0.mk (Kd.C_below (by repeat (first | (with_reducible exact bQ.out) | (with_reducible refine Kd.C_alloc ?_ _) | (with_reducible refine Kd.C_drewN ?_ _) | (with_reducible refine Kd.C_drew ?_) | exact bQ.out)) hb)
   replace dB := Aside0.mk (Kd.C_below (by repeat (first | (with_reducible exact dB.out) | (with_reducible refine Kd.C_alloc ?_ _) | (with_reducible refine Kd.C_drewN ?_ _) | (with_reducible refine Kd.C_drew ?_) | exact dB.out)) hb)
   replace dL := Aside0.mk (Kd.C_below (by repeat (first | (with_reducible exact dL.out) | (with_reducible refine Kd.C_alloc ?_ _) | (with_reducible refine Kd.C_drewN ?_ _) | (with_reducible refine Kd.C_drew ?_) | exact dL.out)) hb)
   replace HB := Aside0.mk (below_step zx29_0 hb)
   (try clear hb)
   (try clear hb2)
   (try clear hk)
   (try clear hi)
   (try clear ho0)
   obtain ⟨qg, o9, mN⟩ := Kd.R_slice jF.out
   (first | subst mN | (injection mN with f1_ f2_ f3_; have f4_ := f1_.symm; have f5_ := f3_.symm; clear f1_ f2_ f3_; subst f4_; subst f5_))
   refine hK.out _ _ ⟨(blk_cell bj.out 0).trans rfl, (blk_cell bj.out 1).trans rfl, (blk_cell bj.out 2).trans rfl, (blk_cell be.out 0).trans rfl, (blk_cell be.out 1).trans rfl, (blk_cell be.out 2).trans rfl, jm, jl, jk, jj, jD, jC, jB, jA, jz, jy, jx, jw, jv, ju, jt, js, jr, jq, jp, jo, jn⟩ (fun hHeld => ?_)
   clear hK K
   refine norm_ (a' := ?_) ?_ ?_
   rotate_left
   ·show Act.put _ (some 154) _ = _
    simp only [Act.put, List.setIfInBounds_toArray, List.set_cons_zero, List.set_cons_succ, i64_w, i32_w]
    rfl
   refine one_ (i := 36) (N := some 158) #[Tt,Tt,Tt,Tt,Tt,Tt,Tt,Tt,Tt,Tt,Tt,Tt,Tt,Tt,Tt,Tt,Tt,Tt,Tt,Tt,Tt,Tt,Tt,Tt,Tt,Tt,Tt,Tt,Tt,Tt,Tt,Tt,Tt,Tt,Tt,Tt,Tt,Ff,Ff] rfl rfl (one_of HT_.out (by kernel_rfl)) (by decide) (fun K hK => ?_)
   refine goes_ Tryd.func21 (by kernel_rfl) rfl #[.slice qg gl.length o9, .slice A64 ge.length c64] (by rfl) rfl rfl zx29_2 ?_
   with_reducible refine (postroomref10_Same.calls k2 _ _ gl _ _ ge true _ ?side1 ?side2 ?side3 ?side4 A60.out).mono ?_
   (case side1 => repeat (first | exact (Kd.R_reads' jF.out).2.2 | (with_reducible refine Kd.C_alloc ?_ _) | (with_reducible refine Kd.C_drewN ?_ _) | (with_reducible refine Kd.C_drew ?_)))
   (case side2 => exact (Kd.R_reads' jF.out).2.1)
   (case side3 => repeat (first | exact (by repeat (first | (with_reducible exact dL.out) | (with_reducible refine Kd.C_alloc ?_ _) | (with_reducible refine Kd.C_drewN ?_ _) | (with_reducible refine Kd.C_drew ?_) | exact dL.out)) | (with_reducible refine Kd.C_alloc ?_ _) | (with_reducible refine Kd.C_drewN ?_ _) | (with_reducible refine Kd.C_drew ?_)))
   (case side4 => exact m0.out)
   rintro e w' ⟨rfl, ⟨nd, rfl⟩⟩
   refine ⟨_, rfl, ?_⟩
   refine hK.out _ _ ⟨(blk_cell bj.out 0).trans rfl, (blk_cell bj.out 1).trans rfl, (blk_cell bj.out 2).trans rfl, (blk_cell be.out 0).trans rfl, (blk_cell be.out 1).trans rfl, (blk_cell be.out 2).trans rfl, hHeld.2.2.2.2.2.2.1, hHeld.2.2.2.2.2.2.2.1, hHeld.2.2.2.2.2.2.2.2.1, hHeld.2.2.2.2.2.2.2.2.2.1, hHeld.2.2.2.2.2.2.2.2.2.2.1, hHeld.2.2.2.2.2.2.2.2.2.2.2.1, hHeld.2.2.2.2.2.2.2.2.2.2.2.2.1, hHeld.2.2.2.2.2.2.2.2.2.2.2.2.2.1, hHeld.2.2.2.2.2.2.2.2.2.2.2.2.2.2.1, hHeld.2.2.2.2.2.2.2.2.2.2.2.2.2.2.2.1, hHeld.2.2.2.2.2.2.2.2.2.2.2.2.2.2.2.2.1, hHeld.2.2.2.2.2.2.2.2.2.2.2.2.2.2.2.2.2.1, hHeld.2.2.2.2.2.2.2.2.2.2.2.2.2.2.2.2.2.2.1, hHeld.2.2.2.2.2.2.2.2.2.2.2.2.2.2.2.2.2.2.2.1, hHeld.2.2.2.2.2.2.2.2.2.2.2.2.2.2.2.2.2.2.2.2.1, hHeld.2.2.2.2.2.2.2.2.2.2.2.2.2.2.2.2.2.2.2.2.2.1, hHeld.2.2.2.2.2.2.2.2.2.2.2.2.2.2.2.2.2.2.2.2.2.2.1, hHeld.2.2.2.2.2.2.2.2.2.2.2.2.2.2.2.2.2.2.2.2.2.2.2.1, hHeld.2.2.2.2.2.2.2.2.2.2.2.2.2.2.2.2.2.2.2.2.2.2.2.2.1, hHeld.2.2.2.2.2.2.2.2.2.2.2.2.2.2.2.2.2.2.2.2.2.2.2.2.2.1, hHeld.2.2.2.2.2.2.2.2.2.2.2.2.2.2.2.2.2.2.2.2.2.2.2.2.2.2⟩ (fun hHeld => ?_)
   clear hK K
   refine norm_ (a' := ?_) ?_ ?_
   rotate_left
   ·show Act.put _ (some 158) _ = _
    simp only [Act.put, List.setIfInBounds_toArray, List.set_cons_zero, List.set_cons_succ, i64_w, i32_w]
    rfl
   refine pp_ 37 (some 159) HT_.out ?_
   refine pp_ 38 (some 160) HT_.out ?_
   refine done_ (done_of HT_.out (by kernel_rfl)) ?_
   try go_wp2
   go_roundg k2
   case measure => have := HK1.out; have := HK2.out; omega
   case rel => exact ⟨(wrap64 (ba + 1)), zx29_14, H', ⟨by have := HK1.out; have := HK2.out; omega⟩, ⟨by (with_reducible repeat (first | apply Kd.V_alloc | apply Kd.V_drewN | apply Kd.V_drew)); exact Kd.V_mono bb.out (fun _ hk => ⟨hk.1.2.1, hk.1.2.2⟩)⟩, ⟨by (with_reducible repeat (first | apply Kd.V_alloc | apply Kd.V_drewN | apply Kd.V_drew)); exact Kd.V_mono bd.out (fun _ hk => ⟨hk.1.2.1, hk.1.2.2⟩)⟩, ⟨by (with_reducible repeat (first | refine blk_drewN ?_ _ | refine blk_drew ?_ | refine blk_alloc ?_ _)); exact be.out⟩, ⟨by (with_reducible repeat (first | refine blk_drewN ?_ _ | refine blk_drew ?_ | refine blk_alloc ?_ _)); exact bj.out⟩, ⟨by repeat (first | (with_reducible first | exact HB.out | apply below_alloc | apply pw_below_drewN | apply below_drew1 | refine below_set ?_ b7.out | refine below_set ?_ dq.out) | exact HB.out)⟩⟩
/-- THE ONE PURE STATEMENT of postroomlaw10_LedgerEvicts. -/
def postroomlaw10_LedgerEvicts.Pure : Prop := ∀ (l0 : List (S43)) (a1 : Int), l0.length ≤ maxLen → l0.length * 32 ≤ 140737488351232 → (∀ x ∈ l0, ((Lit.int .i64 x.f0).wf = true ∧ (Lit.int .i64 x.f1).wf = true ∧ (Lit.int .i64 x.f2).wf = true ∧ (Lit.int .i64 x.f3).wf = true)) → (Lit.int .i64 a1).wf = true → ∃ k, postroomlaw10_LedgerEvicts.f k l0 a1 = some true
theorem postroomlaw10_LedgerEvicts.walk (P : postroomlaw10_LedgerEvicts.Pure) (A0 : Option Addr) (c0 : Nat) (l0 : List (S43)) (a1 : Int) (w : World) (hr0 : Kd.C k43 w A0 l0.length l0) (hc0 : l0.length ≤ c0) (hm0 : l0.length ≤ maxLen) (hy0 : l0.length * 32 ≤ 140737488351232) (hw0 : (∀ x ∈ l0, ((Lit.int .i64 x.f0).wf = true ∧ (Lit.int .i64 x.f1).wf = true ∧ (Lit.int .i64 x.f2).wf = true ∧ (Lit.int .i64 x.f3).wf = true))) (hw1 : (Lit.int .i64 a1).wf = true) :
  Calls Tryd.prog 7 #[.slice A0 l0.length c0, .int .i64 a1] w fun e w' => e = .returned (.bool true) ∧ Below w.heap.size w w' := by
 obtain ⟨k, h⟩ := P l0 a1 hm0 hy0 hw0 hw1
 refine (postroomlaw10_LedgerEvicts.calls k A0 c0 l0 a1 true w hr0 hc0 h).mono ?_
 rintro e w' ⟨rfl, hd⟩
 exact ⟨rfl, hd⟩

end Go.Proofs.YthhmpjapnkilcaaDoor.XLdg
