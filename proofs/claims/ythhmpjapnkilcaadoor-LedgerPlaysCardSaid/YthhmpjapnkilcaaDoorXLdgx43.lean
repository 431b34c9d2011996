/- What the functions of the translation answer, each as a plain Lean function, and that the code comes to it; for a law: its row. Conditions: none but those that each theorem names. Written by a program of this session (wip/xp). -/
import Derived.Test.YthhmpjapnkilcaaDoorXLdgP1
import Derived.Test.YthhmpjapnkilcaaDoorXLdgP2
import Derived.Test.YthhmpjapnkilcaaDoorXLdgP5
import Derived.Test.YthhmpjapnkilcaaDoorXLdgP3
import Derived.Test.YthhmpjapnkilcaaDoorXLdgP4
import Derived.Test.YthhmpjapnkilcaaDoorXLdgx42
import Derived.Test.YthhmpjapnkilcaaDoorGMono
import Derived.Test.YthhmpjapnkilcaaDoorGShown
namespace Go.Proofs.YthhmpjapnkilcaaDoor.XLdg
open Go.RowKit Go.Proofs.YthhmpjapnkilcaaDoorW.PrintWords Go.Proofs.YthhmpjapnkilcaaDoorW.PrintLast Go.Proofs.YthhmpjapnkilcaaDoorW.PrintMore
attribute [local go_sem] max2_int min2_int max_two min_two max_three min_three max_four min_four   -- for this text's walks alone
theorem cx35_bc3 {w : World} {g : Nat} {t : TypeId} {x0 x1 x2 : Value} (h : w.heap[g]? = some (.cells #[x0, x1, x2] t (0, 0))) : w.cell? ⟨g, 0, none⟩ = some x0 ∧ w.cell? ⟨g, 1, none⟩ = some x1 ∧ w.cell? ⟨g, 2, none⟩ = some x2 ∧ w.frozen? ⟨g, 0, none⟩ = false ∧ w.frozen? ⟨g, 1, none⟩ = false ∧ w.frozen? ⟨g, 2, none⟩ = false :=
 ⟨(blk_cell h 0).trans rfl, (blk_cell h 1).trans rfl, (blk_cell h 2).trans rfl, blk_frozen h 0, blk_frozen h 1, blk_frozen h 2⟩
theorem zx35_35 {p : Prop} (h : p := by first | rfl | (simp; done) | (simp [*]; done)) : p := h
theorem zx35_31 {p : Prop} (h : p := by first | (with_reducible assumption) | assumption) : p := h
theorem zx35_13 {p : Prop} (h : p := by have := World.block_lt_of_cell? _ _ b1; first | rwa [add_block] at this | exact this) : p := h
theorem zx35_14 {p : Prop} (h : p := by have := World.block_lt_of_cell? _ _ b0; first | rwa [add_block] at this | exact this) : p := h
theorem zx35_15 {p : Prop} (h : p := by have := World.block_lt_of_cell? _ _ bZ; first | rwa [add_block] at this | exact this) : p := h
theorem zx35_16 {p : Prop} (h : p := by have := World.block_lt_of_cell? _ _ bY; first | rwa [add_block] at this | exact this) : p := h
theorem zx35_17 {p : Prop} (h : p := by (with_reducible repeat (first | apply Kd.V_alloc | apply Kd.V_drewN | apply Kd.V_drew)); exact bU.out) : p := h
theorem zx35_18 {p : Prop} (h : p := by (with_reducible repeat (first | apply Kd.V_alloc | apply Kd.V_drewN | apply Kd.V_drew)); exact bX.out) : p := h
theorem zx35_19 {p : Prop} (h : p := by (with_reducible repeat (first | apply Kd.R_alloc | apply Kd.R_drewN | apply Kd.R_drew)); exact du.out) : p := h
theorem zx35_8 {p : Prop} (h : p := by (with_reducible repeat (first | apply Kd.V_alloc | apply Kd.V_drewN | apply Kd.V_drew)); exact bf.out) : p := h
theorem zx35_9 {p : Prop} (h : p := by (with_reducible repeat (first | apply Kd.V_alloc | apply Kd.V_drewN | apply Kd.V_drew)); exact bm.out) : p := h
theorem zx35_0 {p : Prop} (h : p := by (with_reducible repeat (first | refine blk_drewN ?_ _ | refine blk_drew ?_ | refine blk_alloc ?_ _)); exact bo.out) : p := h
theorem zx35_1 {p : Prop} (h : p := by (with_reducible repeat (first | refine blk_drewN ?_ _ | refine blk_drew ?_ | refine blk_alloc ?_ _)); exact bp.out) : p := h
theorem zx35_2 {p : Prop} (h : p := by (with_reducible repeat (first | refine blk_drewN ?_ _ | refine blk_drew ?_ | refine blk_alloc ?_ _)); exact bH.out) : p := h
theorem zx35_3 {p : Prop} (h : p := by (with_reducible repeat (first | refine blk_drewN ?_ _ | refine blk_drew ?_ | refine blk_alloc ?_ _)); exact bI.out) : p := h
theorem zx35_32 {p : Prop} (h : p := by (with_reducible repeat (first | refine blk_drewN ?_ _ | refine blk_drew ?_ | refine blk_alloc ?_ _)); exact bS.out) : p := h
theorem zx35_20 {p : Prop} (h : p := by repeat (first | (with_reducible first | exact HB.out | apply below_alloc | apply pw_below_drewN | apply below_drew1) | exact HB.out)) : p := h
theorem zx35_11 {p : Prop} (h : p := by (try simp only [List.map_toArray, List.map_cons, List.map_nil]); first | done | rfl | (simp only [List.length_drop, List.length_take]; rfl)) : p := h
theorem zx35_33 {p : Prop} (h : p := by (with_reducible repeat (first | apply Kd.V_alloc | apply Kd.V_drewN | apply Kd.V_drew)); exact Kd.V_mono bf.out (fun _ hk => ⟨hk.1.1, ⟨hk.1.2, hk.2⟩⟩)) : p := h
theorem zx35_34 {p : Prop} (h : p := by (with_reducible repeat (first | apply Kd.V_alloc | apply Kd.V_drewN | apply Kd.V_drew)); exact Kd.V_mono bm.out (fun _ hk => ⟨hk.1.1, ⟨hk.1.2, hk.2⟩⟩)) : p := h
theorem zx35_30 {p : Prop} (h : p := by repeat (first | (with_reducible first | exact HB.out | apply below_alloc | apply pw_below_drewN | apply below_drew1 | refine below_set ?_ dE.out) | exact HB.out)) : p := h
theorem zx35_5 {p : Prop} (h : p := by repeat (first | (with_reducible first | exact HB.out | apply below_alloc | apply pw_below_drewN | apply below_drew1 | refine below_set ?_ dE.out | refine below_set ?_ dF.out) | exact HB.out)) : p := h
theorem zx35_10 {p : Prop} (h : p := by first | (simp only [putAll, Act.put, List.setIfInBounds_toArray, List.set_cons_zero, List.set_cons_succ]; done) | (simp only [putAll, Act.put, List.setIfInBounds_toArray, List.set_cons_zero, List.set_cons_succ]; rfl)) : p := h
theorem zx35_6 {p : Prop} (h : p := by repeat (first | (with_reducible first | exact HB.out | apply below_alloc | apply pw_below_drewN | apply below_drew1 | refine below_set ?_ dE.out | refine below_set ?_ dF.out | refine below_set ?_ dp.out) | exact HB.out)) : p := h
theorem zx35_7 {p : Prop} (h : p := by repeat (first | (with_reducible first | exact HB.out | apply below_alloc | apply pw_below_drewN | apply below_drew1 | refine below_set ?_ dE.out | refine below_set ?_ dF.out | refine below_set ?_ dn.out) | exact HB.out)) : p := h
theorem zx35_4 {p : Prop} (h : p := by repeat (first | (with_reducible first | exact HB.out | apply below_alloc | apply pw_below_drewN | apply below_drew1 | refine below_set ?_ dE.out | refine below_set ?_ dF.out | refine below_set ?_ dp.out | refine below_set ?_ dn.out) | exact HB.out)) : p := h
theorem zx35_36 {p : Prop} (h : p := by repeat (first | (with_reducible first | exact HB.out | apply below_alloc | apply pw_below_drewN | apply below_drew1 | refine below_set ?_ dE.out | refine below_set ?_ dF.out | refine below_set ?_ dn.out | refine below_set ?_ dp.out) | exact HB.out)) : p := h
theorem zx35_12 {p : Prop} (h : p := by repeat (first | (with_reducible first | exact HB.out | apply below_alloc | apply pw_below_drewN | apply below_drew1 | refine below_set ?_ dE.out | refine below_set ?_ dF.out | refine below_set ?_ dp.out | refine below_set ?_ dn.out | refine below_set ?_ gq.out) | exact HB.out)) : p := h
theorem zx35_22 {p : Prop} (h : p := by first | exact Nat.ne_of_lt (Nat.lt_of_lt_of_le zx35_13 da.out) | (rw [add_block]; exact Nat.ne_of_lt (Nat.lt_of_lt_of_le zx35_13 da.out)) | (show (Addr.add _ _).block ≠ _; rw [add_block]; exact Nat.ne_of_lt (Nat.lt_of_lt_of_le zx35_13 da.out)) | (dsimp only; exact Nat.ne_of_lt (Nat.lt_of_lt_of_le zx35_13 da.out))) : p := h
theorem zx35_23 {p : Prop} (h : p := by first | exact Nat.ne_of_lt (Nat.lt_of_lt_of_le zx35_14 da.out) | (rw [add_block]; exact Nat.ne_of_lt (Nat.lt_of_lt_of_le zx35_14 da.out)) | (show (Addr.add _ _).block ≠ _; rw [add_block]; exact Nat.ne_of_lt (Nat.lt_of_lt_of_le zx35_14 da.out)) | (dsimp only; exact Nat.ne_of_lt (Nat.lt_of_lt_of_le zx35_14 da.out))) : p := h
theorem zx35_24 {p : Prop} (h : p := by first | exact Nat.ne_of_lt (Nat.lt_of_lt_of_le zx35_15 da.out) | (rw [add_block]; exact Nat.ne_of_lt (Nat.lt_of_lt_of_le zx35_15 da.out)) | (show (Addr.add _ _).block ≠ _; rw [add_block]; exact Nat.ne_of_lt (Nat.lt_of_lt_of_le zx35_15 da.out)) | (dsimp only; exact Nat.ne_of_lt (Nat.lt_of_lt_of_le zx35_15 da.out))) : p := h
theorem zx35_25 {p : Prop} (h : p := by first | exact Nat.ne_of_lt (Nat.lt_of_lt_of_le zx35_16 da.out) | (rw [add_block]; exact Nat.ne_of_lt (Nat.lt_of_lt_of_le zx35_16 da.out)) | (show (Addr.add _ _).block ≠ _; rw [add_block]; exact Nat.ne_of_lt (Nat.lt_of_lt_of_le zx35_16 da.out)) | (dsimp only; exact Nat.ne_of_lt (Nat.lt_of_lt_of_le zx35_16 da.out))) : p := h
theorem zx35_26 {p : Prop} (h : p := by first | exact Nat.ne_of_lt (Nat.lt_of_lt_of_le zx35_13 b9.out) | (rw [add_block]; exact Nat.ne_of_lt (Nat.lt_of_lt_of_le zx35_13 b9.out)) | (show (Addr.add _ _).block ≠ _; rw [add_block]; exact Nat.ne_of_lt (Nat.lt_of_lt_of_le zx35_13 b9.out)) | (dsimp only; exact Nat.ne_of_lt (Nat.lt_of_lt_of_le zx35_13 b9.out))) : p := h
theorem zx35_27 {p : Prop} (h : p := by first | exact Nat.ne_of_lt (Nat.lt_of_lt_of_le zx35_14 b9.out) | (rw [add_block]; exact Nat.ne_of_lt (Nat.lt_of_lt_of_le zx35_14 b9.out)) | (show (Addr.add _ _).block ≠ _; rw [add_block]; exact Nat.ne_of_lt (Nat.lt_of_lt_of_le zx35_14 b9.out)) | (dsimp only; exact Nat.ne_of_lt (Nat.lt_of_lt_of_le zx35_14 b9.out))) : p := h
theorem zx35_28 {p : Prop} (h : p := by first | exact Nat.ne_of_lt (Nat.lt_of_lt_of_le zx35_15 b9.out) | (rw [add_block]; exact Nat.ne_of_lt (Nat.lt_of_lt_of_le zx35_15 b9.out)) | (show (Addr.add _ _).block ≠ _; rw [add_block]; exact Nat.ne_of_lt (Nat.lt_of_lt_of_le zx35_15 b9.out)) | (dsimp only; exact Nat.ne_of_lt (Nat.lt_of_lt_of_le zx35_15 b9.out))) : p := h
theorem zx35_29 {p : Prop} (h : p := by first | exact Nat.ne_of_lt (Nat.lt_of_lt_of_le zx35_16 b9.out) | (rw [add_block]; exact Nat.ne_of_lt (Nat.lt_of_lt_of_le zx35_16 b9.out)) | (show (Addr.add _ _).block ≠ _; rw [add_block]; exact Nat.ne_of_lt (Nat.lt_of_lt_of_le zx35_16 b9.out)) | (dsimp only; exact Nat.ne_of_lt (Nat.lt_of_lt_of_le zx35_16 b9.out))) : p := h
theorem zx35_21 {p : Prop} (h : p := by (with_reducible repeat (first | apply Kd.V_alloc | apply Kd.V_drewN | apply Kd.V_drew)); exact (Kd.V_mono (Kd.V_mono (Kd.V_far (p := ⟨bg, 2, none⟩) (Kd.V_far (p := ⟨bg, 1, none⟩) (Kd.V_far (p := ⟨bg, 0, none⟩) (Kd.V_far (p := ⟨bh, 2, none⟩) (Kd.V_far (p := ⟨bh, 1, none⟩) (Kd.V_far (p := ⟨bh, 0, none⟩) (Kd.V_mono (Kd.V_mono bU.out (fun k_ hk => (⟨hk, hk.2.2.1⟩ : _ ∧ k_ ≠ bh))) (fun k_ hk => (⟨hk, hk.1.2.2.2⟩ : _ ∧ k_ ≠ bg))) (fun _ hk => hk.1.2) (.int .u64 bw)) (fun _ hk => hk.1.2) (.int .u64 bx)) (fun _ hk => hk.1.2) (.slice dc br.length b5)) (fun _ hk => hk.2) (.int .u64 bB)) (fun _ hk => hk.2) (.int .u64 bD)) (fun _ hk => hk.2) (.slice dh bC.length dg)) (fun _ h_ => h_.1)) (fun _ h_ => h_.1))) : p := h
set_option linter.unusedVariables false
set_option linter.unusedSimpArgs false

/-! ### postroomlaw10_LedgerPlays: function 9 -/
mutual
def postroomlaw10_LedgerPlays.l0 : Nat → List (S43) → Int → Int → Int → Int → Int → List (S37) → Int → Int → List (S84) → Option (Bool)
 | 0, _, _, _, _, _, _, _, _, _, _ => none
 | k + 1, x0, x1, x2, x10, dV, dU, dz, dT, dS, dR => if x10 < (x0.length : Int) then (if 0 ≤ x10 then ((postroomlaw10_does.f k dV dU dz dT dS dR ((rd_T43 x0 x10).f0) ((rd_T43 x0 x10).f1) ((rd_T43 x0 x10).f2) ((rd_T43 x0 x10).f3)).bind fun b8 => (if b8.2.2.2.2.2.2 = true then ((ledger_Right.f k b8.1 b8.2.1 b8.2.2.1).bind fun gN => (if gN = true then ((postroomlaw10_name.f x1).bind fun bQ => ((ledger_Find.f b8.1 b8.2.1 b8.2.2.1 bQ).bind fun bR => ((ledger_Pending.f k b8.1 b8.2.1 b8.2.2.1 bQ).bind fun dM => ((postroomref10_Pending.f k b8.2.2.2.1 b8.2.2.2.2.1 b8.2.2.2.2.2.1 bQ).bind fun dH => ((postroomref10_Same.f k dM dH).bind fun dG => (if dG = true then ((ledger_Waits.f k b8.1 b8.2.1 b8.2.2.1 bQ x2).bind fun dw => ((postroomref10_Waits.f k b8.2.2.2.1 b8.2.2.2.2.1 b8.2.2.2.2.2.1 bQ x2).bind fun dv => (if (dw != dv) = true then (none) else ((ledger_Free.f k b8.1 b8.2.1 b8.2.2.1).bind fun dr => ((postroomref10_Free.f k b8.2.2.2.1 b8.2.2.2.2.1 b8.2.2.2.2.2.1).bind fun dq => (if dr = dq then (postroomlaw10_LedgerPlays.l1 k x0 x1 x2 x10 bQ bR.2.2.2.2.2.2.2 false 0 b8.1 b8.2.1 b8.2.2.1 b8.2.2.2.1 b8.2.2.2.2.1 b8.2.2.2.2.2.1 bR.1 bR.2.1 bR.2.2.1 bR.2.2.2.1 bR.2.2.2.2.1 bR.2.2.2.2.2.1 bR.2.2.2.2.2.2.1) else (none))))))) else (none))))))) else (none))) else (none))) else (none)) else (some true)
def postroomlaw10_LedgerPlays.l1 : Nat → List (S43) → Int → Int → Int → ByteArray → Bool → Bool → Int → Int → Int → List (S37) → Int → Int → List (S84) → ByteArray → Int → Int → List Int → Int → Int → Int → Option (Bool)
 | 0, _, _, _, _, _, _, _, _, _, _, _, _, _, _, _, _, _, _, _, _, _ => none
 | k + 1, x0, x1, x2, x10, x14, x16, x17, x18, dV, dU, dz, dT, dS, dR, gB, ge, gc, gA, gz, gy, gx => if x18 < (dz.length : Int) then (if x17 = true then (postroomlaw10_LedgerPlays.l1 k x0 x1 x2 x10 x14 x16 true (wrap64 (x18 + 1)) dV dU dz dT dS dR gB ge gc gA gz gy gx) else (if 0 ≤ x18 then (if ((rd_T37 dz x18).f0).toList = x14.toList then (if gc = ((rd_T37 dz x18).f2) then (postroomlaw10_LedgerPlays.l1 k x0 x1 x2 x10 x14 x16 (ge == ((rd_T37 dz x18).f1)) (wrap64 (x18 + 1)) dV dU dz dT dS dR gB ge gc gA gz gy gx) else (none)) else (postroomlaw10_LedgerPlays.l1 k x0 x1 x2 x10 x14 x16 false (wrap64 (x18 + 1)) dV dU dz dT dS dR gB ge gc gA gz gy gx)) else (none))) else (if (x16 != x17) = true then (none) else (postroomlaw10_LedgerPlays.l0 k x0 x1 x2 (wrap64 (x10 + 1)) dV dU dz dT dS dR))
end
def postroomlaw10_LedgerPlays.f (k : Nat) (l0 : List (S43)) (a1 : Int) (a2 : Int) : Option (Bool) := (postroomlaw10_shown.f k).bind fun gG => (if gG = true then (if (l0.length : Int) > 100 then (some gG) else ((ledger_New.f).bind fun dD => ((postroomref10_New.f).bind fun dx => (postroomlaw10_LedgerPlays.l0 k l0 a1 a2 0 dD.1 dD.2.1 dD.2.2 dx.1 dx.2.1 dx.2.2)))) else (none))
def postroomlaw10_LedgerPlays.T9 : Bool × List (List Nat × List Nat) := (true, [([], []), ([], []), ([], []), ([], []), ([2, 3], [2, 3]), ([4], [4]), ([0, 1, 5], [0, 1, 5]), ([6], [6]), ([7], [7]), ([7], [7]), ([7], [7]), ([], []), ([], []), ([11, 8, 6, 0, 1, 2, 3, 4, 5, 6, 7, 8, 11, 12], [8, 11]), ([12, 9, 13, 0, 1, 2, 3, 4, 5, 6, 7, 8, 9, 11, 12, 13], [9, 12]), ([10, 14, 0, 1, 2, 3, 4, 5, 6, 7, 8, 9, 10, 11, 12, 13, 14], [10])])
def postroomlaw10_LedgerPlays.B9 : List Nat := [0, 0, 0, 0, 12, 28, 63, 127, 255, 255, 255, 0, 0, 6655, 15359, 32767]
theorem postroomlaw10_LedgerPlays.tab9 : rtab .any (opsOf Tryd.f9 9) = postroomlaw10_LedgerPlays.T9 := by kernel_rfl
theorem postroomlaw10_LedgerPlays.bits9 : waitsOk postroomlaw10_LedgerPlays.T9.2 postroomlaw10_LedgerPlays.B9 = true := by kernel_rfl
def postroomlaw10_LedgerPlays.T16 : Bool × List (List Nat × List Nat) := (true, [([], []), ([], []), ([0, 1], [0, 1]), ([], []), ([], []), ([3, 4, 2], [3, 4]), ([2, 5, 5], [2, 5]), ([6], [6]), ([7, 6], [7]), ([8], [8]), ([8], [8]), ([8], [8]), ([9, 10, 11, 8, 8], [8, 9, 10, 11]), ([8], [8]), ([8], [8]), ([8], [8]), ([13, 14, 15, 12, 8], [8, 13, 14, 15]), ([12, 16, 8], [8, 12, 16]), ([8, 17], [8, 17]), ([18, 16], [18]), ([19], [19]), ([20, 19, 19], [19, 20]), ([19], [19]), ([22, 21, 19], [19, 22]), ([21, 23, 19], [19, 21, 23]), ([19, 24], [19, 24])])
def postroomlaw10_LedgerPlays.B16 : List Nat := [0, 0, 3, 0, 0, 31, 63, 127, 255, 511, 511, 511, 4095, 511, 511, 511, 65535, 131071, 262143, 524287, 1048575, 2097151, 1048575, 8388607, 16777215, 33554431]
theorem postroomlaw10_LedgerPlays.tab16 : rtab .any (opsOf Tryd.f9 16) = postroomlaw10_LedgerPlays.T16 := by kernel_rfl
theorem postroomlaw10_LedgerPlays.bits16 : waitsOk postroomlaw10_LedgerPlays.T16.2 postroomlaw10_LedgerPlays.B16 = true := by kernel_rfl
def postroomlaw10_LedgerPlays.T22 : Bool × List (List Nat × List Nat) := (true, [([], []), ([0], [0]), ([1], [1]), ([2, 1], [1, 2]), ([1], [1]), ([3, 4, 1], [1, 3, 4]), ([5, 1], [1, 5]), ([6, 1], [1, 6]), ([1], [1]), ([7, 8, 1], [1, 7, 8]), ([9, 1, 1], [1, 9]), ([10], [10]), ([11, 10], [10, 11]), ([10], [10]), ([13, 10], [10, 13]), ([10], [10]), ([14, 15, 10], [10, 14, 15]), ([16, 10], [10, 16]), ([17, 10], [10, 17]), ([12, 18, 10], [10, 12, 18]), ([10, 19, 1], [1, 10, 19]), ([20, 10, 1], [1, 20]), ([21], [21]), ([22, 21], [21, 22]), ([21], [21]), ([24, 21], [21, 24]), ([21], [21]), ([25, 26, 21], [21, 25, 26]), ([27, 21], [21, 27]), ([28, 21], [21, 28]), ([23, 29, 21], [21, 23, 29]), ([21, 30, 1], [1, 21, 30]), ([1, 31], [1, 31]), ([32, 21, 0, 1, 2, 3, 4, 5, 6, 7, 8, 9, 10, 11, 12, 13, 14, 15, 16, 17, 18, 19, 20, 21, 22, 23, 24, 25, 26, 27, 28, 29, 30, 31, 32], [0, 32])])
def postroomlaw10_LedgerPlays.B22 : List Nat := [0, 1, 3, 7, 3, 31, 63, 127, 3, 511, 1023, 2047, 4095, 2047, 10239, 2047, 59391, 124927, 255999, 524287, 1048575, 2097151, 4194303, 8388607, 4194303, 20971519, 4194303, 121634815, 255852543, 524287999, 1073741823, 2147483647, 4294967295, 8589934591]
theorem postroomlaw10_LedgerPlays.tab22 : rtab .any (opsOf Tryd.f9 22) = postroomlaw10_LedgerPlays.T22 := by kernel_rfl
theorem postroomlaw10_LedgerPlays.bits22 : waitsOk postroomlaw10_LedgerPlays.T22.2 postroomlaw10_LedgerPlays.B22 = true := by kernel_rfl
set_option maxHeartbeats 8000000 in
set_option maxRecDepth 100000 in
theorem postroomlaw10_LedgerPlays.calls (k : Nat) (A0 : Option Addr) (c0 : Nat) (l0 : List (S43)) (a1 : Int) (a2 : Int) (r : Bool) (w : World) (hr0 : Kd.C k43 w A0 l0.length l0) (hc0 : l0.length ≤ c0) (h : postroomlaw10_LedgerPlays.f k l0 a1 a2 = some r) :
  Calls Tryd.prog 9 #[.slice A0 l0.length c0, .int .i64 a1, .int .u64 a2] w fun e w' => e = .returned (.bool r) ∧ Below w.heap.size w w' := by
 have sB := Tryd.underlying27
 have sx := Tryd.underlying57
 have sy := Tryd.underlying43
 have sz := Tryd.underlying37
 have HR0 := Aside0.mk hr0
 have HC0 := Aside0.mk hc0
 clear hr0 hc0
 have HB := Aside0.mk (Below.refl w.heap.size w)
 have H : ((postroomlaw10_shown.f k).bind fun gG => (if gG = true then (if (l0.length : Int) > 100 then (some gG) else ((ledger_New.f).bind fun dD => ((postroomref10_New.f).bind fun dx => (postroomlaw10_LedgerPlays.l0 k l0 a1 a2 0 dD.1 dD.2.1 dD.2.2 dx.1 dx.2.1 dx.2.2)))) else (none))) = some r := h
 clear h
 replace H := Option.bind_eq_some_iff.mp H
 obtain ⟨gG, A40, H⟩ := H
 replace H : (if gG = true then (if (l0.length : Int) > 100 then (some gG) else ((ledger_New.f).bind fun dD => ((postroomref10_New.f).bind fun dx => (postroomlaw10_LedgerPlays.l0 k l0 a1 a2 0 dD.1 dD.2.1 dD.2.2 dx.1 dx.2.1 dx.2.2)))) else (none)) = some r := H
 have A4 := Aside0.mk A40
 clear A40
 by_cases c5 : gG = true
 case neg =>
  replace c5 := Bool.eq_false_iff.mpr c5
  subst c5
  have H1 : (none) = some r := by rw [if_neg (show ¬ (false = true) by decide)] at H; exact H
  clear H
  have H := H1
  clear H1
  exact absurd H (by simp)

 subst c5
 have H1 : (if (l0.length : Int) > 100 then (some true) else ((ledger_New.f).bind fun dD => ((postroomref10_New.f).bind fun dx => (postroomlaw10_LedgerPlays.l0 k l0 a1 a2 0 dD.1 dD.2.1 dD.2.2 dx.1 dx.2.1 dx.2.2)))) = some r := by rw [if_pos rfl] at H; exact H
 clear H
 have H := H1
 clear H1
 by_cases c6 : (l0.length : Int) > 100
 ·rw [if_pos c6] at H
  have mM : decide (100 < (l0.length : Int)) = true := decide_eq_true c6
  have mL : decide (100 < l0.length) = true := decide_eq_true (by omega)
  clear c6
  obtain rfl := Option.some.inj H
  go_enter Tryd.func9, Tryd.ntmps9
  go_wp2_with (first | ((with_reducible refine gate_callee (f := 10) rfl ?_); refine goesL_ (some 19) rfl rfl Tryd.func10 (by kernel_rfl) rfl #[] rfl zx35_11 ?_; (with_reducible refine (postroomlaw10_shown.calls k  true _ A4.out).mono ?_); rintro e w7 ⟨rfl, hb⟩; refine ⟨_, rfl, ?_⟩; replace HB := Aside0.mk (below_step zx35_20 hb); (try clear hb); (try clear hb2); (try clear hk); (try clear hi)))
  go_ret
  exact ⟨by first | rfl | (simp [errW_none, errW_some] <;> rfl) | (simp [*, errW_none, errW_some] <;> rfl), by repeat (first | (with_reducible first | exact HB.out | apply below_alloc | apply pw_below_drewN | apply below_drew1) | exact HB.out)⟩
 rw [if_neg c6] at H
 have mM : decide (100 < (l0.length : Int)) = false := decide_eq_false c6
 have mL : decide (100 < l0.length) = false := decide_eq_false (by omega)
 clear c6
 replace H := Option.bind_eq_some_iff.mp H
 obtain ⟨⟨gj, gt, gs⟩, A80, H⟩ := H
 replace H : ((postroomref10_New.f).bind fun dx => (postroomlaw10_LedgerPlays.l0 k l0 a1 a2 0 gj gt gs dx.1 dx.2.1 dx.2.2)) = some r := H
 have A8 := Aside0.mk A80
 clear A80
 replace H := Option.bind_eq_some_iff.mp H
 obtain ⟨⟨gO, hp, ho⟩, A90, H⟩ := H
 replace H : (postroomlaw10_LedgerPlays.l0 k l0 a1 a2 0 gj gt gs gO hp ho) = some r := H
 have A9 := Aside0.mk A90
 clear A90
 have H' := Aside0.mk H
 clear H
 go_enter Tryd.func9, Tryd.ntmps9
 go_wp2_with (first | ((with_reducible refine gate_callee (f := 10) rfl ?_); refine goesL_ (some 19) rfl rfl Tryd.func10 (by kernel_rfl) rfl #[] rfl zx35_11 ?_; (with_reducible refine (postroomlaw10_shown.calls k  true _ A4.out).mono ?_); rintro e w10 ⟨rfl, hb⟩; refine ⟨_, rfl, ?_⟩; replace HB := Aside0.mk (below_step zx35_20 hb); (try clear hb); (try clear hb2); (try clear hk); (try clear hi)) | ((with_reducible refine gate_callee (f := 25) rfl ?_); refine goesL_ (some 28) rfl rfl Tryd.func25 (by kernel_rfl) rfl #[] rfl zx35_11 ?_; (with_reducible refine (ledger_New.calls  gj gt gs _ A8.out).mono ?_); rintro e w11 ⟨sw, rfl, ho0, hb⟩; refine ⟨_, rfl, ?_⟩; have gb := Aside0.mk (Kd.S_lower ho0 (below_size zx35_20)); replace HB := Aside0.mk (below_step zx35_20 hb); (try clear hb); (try clear hb2); (try clear hk); (try clear hi); (try clear ho0)) | ((with_reducible refine gate_dst (N := 8) rfl ?_); (try (refine gate_guard (by rfl) ?_; dsimp only)); refine box_event ?hg (N := 8) ?hd (cs := #[.int .u64 0, .int .u64 0, .slice none 0 0]) (t := 27) ?hr ?_; (case hd => rfl); (case hg => rfl); (case hr => first | (go_simp; done) | (go_simp; rfl)); intro ba hg w12 hbox hb; replace gb := Aside0.mk (Kd.S_below (by (with_reducible repeat (first | apply Kd.S_alloc | apply Kd.S_drewN | apply Kd.S_drew)); exact gb.out) hb); have bo := Aside0.mk (hbox); have so := Aside0.mk ((by rw [hg]; exact (below_size zx35_20) : w.heap.size ≤ ba)); have dE := Aside0.mk ((by rw [hg]; exact (below_size zx35_20) : w.heap.size ≤ ba)); replace HB := Aside0.mk (below_step zx35_20 hb); clear hb hbox hg; have jX : w12.cell? ⟨ba, 0, none⟩ = some (.int .u64 0) := (blk_cell bo.out 0).trans rfl; have jW : w12.cell? ⟨ba, 1, none⟩ = some (.int .u64 0) := (blk_cell bo.out 1).trans rfl; have jV : w12.cell? ⟨ba, 2, none⟩ = some (.slice none 0 0) := (blk_cell bo.out 2).trans rfl; have jt := blk_frozen bo.out 0; have js := blk_frozen bo.out 1; have jr := blk_frozen bo.out 2; obtain ⟨hw, hq, qd⟩ := Kd.S_slice gb.out; subst qd) | ((with_reducible refine gate_callee (f := 26) rfl ?_); refine goesL_ (some 29) rfl rfl Tryd.func26 (by kernel_rfl) rfl #[] rfl zx35_11 ?_; (with_reducible refine (postroomref10_New.calls  gO hp ho _ A9.out).mono ?_); rintro e w15 ⟨sv, rfl, ho0, hb⟩; refine ⟨_, rfl, ?_⟩; replace gb := Aside0.mk (Kd.S_below (by (with_reducible repeat (first | apply Kd.S_alloc | apply Kd.S_drewN | apply Kd.S_drew)); exact (Kd.S_mono (Kd.S_far (p := ⟨ba, 2, none⟩) (Kd.S_far (p := ⟨ba, 1, none⟩) (Kd.S_far (p := ⟨ba, 0, none⟩) (Kd.S_types gb.out bo.out (by decide)) (fun _ hk => hk.2) (.int .u64 gj)) (fun _ hk => hk.2) (.int .u64 gt)) (fun _ hk => hk.2) (.slice hw gs.length hq)) (fun _ h_ => h_.1))) hb); have hn := Aside0.mk (Kd.S_lower ho0 (below_size zx35_30)); replace bo := Aside0.mk (blk_below (g := ba) (o := .cells #[.int .u64 gj, .int .u64 gt, .slice hw gs.length hq] 27 (0, 0)) (by (with_reducible repeat (first | refine blk_drewN ?_ _ | refine blk_drew ?_ | refine blk_alloc ?_ _)); refine blk_put (cs := #[.int .u64 gj, .int .u64 gt, .slice none 0 0]) ?_ 2 _ rfl; (with_reducible repeat (first | refine blk_drewN ?_ _ | refine blk_drew ?_ | refine blk_alloc ?_ _)); refine blk_put (cs := #[.int .u64 gj, .int .u64 0, .slice none 0 0]) ?_ 1 _ rfl; (with_reducible repeat (first | refine blk_drewN ?_ _ | refine blk_drew ?_ | refine blk_alloc ?_ _)); refine blk_put (cs := #[.int .u64 0, .int .u64 0, .slice none 0 0]) ?_ 0 _ rfl; (with_reducible repeat (first | refine blk_drewN ?_ _ | refine blk_drew ?_ | refine blk_alloc ?_ _)); exact bo.out) hb); replace HB := Aside0.mk (below_step zx35_30 hb); (try clear hb); (try clear hb2); (try clear hk); (try clear hi); (try clear ho0)) | ((with_reducible refine gate_dst (N := 9) rfl ?_); (try (refine gate_guard (by rfl) ?_; dsimp only)); refine box_event ?hg (N := 9) ?hd (cs := #[.int .u64 0, .int .u64 0, .slice none 0 0]) (t := 57) ?hr ?_; (case hd => rfl); (case hg => rfl); (case hr => first | (go_simp; done) | (go_simp; rfl)); intro bb hg w16 hbox hb; replace gb := Aside0.mk (Kd.S_below (by (with_reducible repeat (first | apply Kd.S_alloc | apply Kd.S_drewN | apply Kd.S_drew)); exact gb.out) hb); replace hn := Aside0.mk (Kd.S_below (by (with_reducible repeat (first | apply Kd.S_alloc | apply Kd.S_drewN | apply Kd.S_drew)); exact hn.out) hb); have bp := Aside0.mk (hbox); have sn := Aside0.mk ((by rw [hg]; exact (below_size zx35_30) : w.heap.size ≤ bb)); have dF := Aside0.mk ((by rw [hg]; exact (below_size zx35_30) : w.heap.size ≤ bb)); replace HB := Aside0.mk (below_step zx35_30 hb); have dt := Aside0.mk ((by rw [hg]; exact Nat.ne_of_lt (blk_lt (g := ba) (o := .cells #[.int .u64 gj, .int .u64 gt, .slice hw gs.length hq] 27 (0, 0)) zx35_0) : ba ≠ bb)); have dy := Aside0.mk ((by rw [hg]; exact Nat.ne_of_gt (blk_lt (g := ba) (o := .cells #[.int .u64 gj, .int .u64 gt, .slice hw gs.length hq] 27 (0, 0)) zx35_0) : bb ≠ ba)); replace bo := Aside0.mk (blk_below (g := ba) (o := .cells #[.int .u64 gj, .int .u64 gt, .slice hw gs.length hq] 27 (0, 0)) zx35_0 hb); clear hb hbox hg; have q3 := dy.out; have qK := dt.out; have jU : w16.cell? ⟨bb, 0, none⟩ = some (.int .u64 0) := (blk_cell bp.out 0).trans rfl; have jT : w16.cell? ⟨bb, 1, none⟩ = some (.int .u64 0) := (blk_cell bp.out 1).trans rfl; have jS : w16.cell? ⟨bb, 2, none⟩ = some (.slice none 0 0) := (blk_cell bp.out 2).trans rfl; have jq := blk_frozen bp.out 0; have jp := blk_frozen bp.out 1; have jo := blk_frozen bp.out 2; obtain ⟨md, mc, qc⟩ := Kd.S_slice hn.out; subst qc))
 go_loopg [10] k (fun kq v10 w' => ∃ (be : Int) (bl : Int) (bj : Int) (bd : List (S37)) (bk : Int) (bi : Int) (bc : List (S84)) (gF : Value) (gE : Value), v10 = .int .i64 be ∧ Aside0 (postroomlaw10_LedgerPlays.l0 kq l0 a1 a2 be bl bj bd bk bi bc = some r) ∧ Aside0 (kq ≤ k) ∧ Aside0 (Kd.V k37 37 w' w.heap.size (fun k_ => k_ ≠ ba ∧ k_ ≠ bb) gF bd) ∧ Aside0 (Kd.V k84 84 w' w.heap.size (fun k_ => k_ ≠ ba ∧ k_ ≠ bb) gE bc) ∧ Aside0 (w'.heap[ba]? = some (.cells #[.int .u64 bl, .int .u64 bj, gF] 27 (0, 0))) ∧ Aside0 (w'.heap[bb]? = some (.cells #[.int .u64 bk, .int .u64 bi, gE] 57 (0, 0))) ∧ Aside0 (Below w.heap.size w w'))
 case atStart => exact ⟨(0), (gj), (gt), (gs), (gO), (hp), (ho), (.slice hw gs.length hq), (.slice md ho.length mc), zx35_35, H', ⟨Nat.le_refl _⟩, ⟨Kd.S_V (by (with_reducible repeat (first | apply Kd.S_alloc | apply Kd.S_drewN | apply Kd.S_drew)); exact Kd.S_mono (Kd.S_far (p := ⟨bb, 2, none⟩) (Kd.S_far (p := ⟨bb, 1, none⟩) (Kd.S_far (p := ⟨bb, 0, none⟩) (Kd.S_types (Kd.S_types (Kd.S_types gb.out bo.out (by decide)) bp.out (by decide)) bp.out (by decide)) (fun _ hk => hk.2) (.int .u64 gO)) (fun _ hk => hk.2) (.int .u64 hp)) (fun _ hk => hk.2) (.slice md ho.length mc)) (fun _ hk => ⟨hk.1.1.2, hk.1.2⟩))⟩, ⟨Kd.S_V (by (with_reducible repeat (first | apply Kd.S_alloc | apply Kd.S_drewN | apply Kd.S_drew)); exact Kd.S_mono (Kd.S_far (p := ⟨bb, 2, none⟩) (Kd.S_far (p := ⟨bb, 1, none⟩) (Kd.S_far (p := ⟨bb, 0, none⟩) (Kd.S_types (Kd.S_types (Kd.S_types hn.out bo.out (by decide)) bp.out (by decide)) bp.out (by decide)) (fun _ hk => hk.2) (.int .u64 gO)) (fun _ hk => hk.2) (.int .u64 hp)) (fun _ hk => hk.2) (.slice md ho.length mc)) (fun _ hk => ⟨hk.1.1.2, hk.1.2⟩))⟩, ⟨by (iterate 3 ((with_reducible repeat (first | refine blk_drewN ?_ _ | refine blk_drew ?_ | refine blk_alloc ?_ _)); refine blk_far ?_ dt.out _)); (with_reducible repeat (first | refine blk_drewN ?_ _ | refine blk_drew ?_ | refine blk_alloc ?_ _)); exact bo.out⟩, ⟨by (with_reducible repeat (first | refine blk_drewN ?_ _ | refine blk_drew ?_ | refine blk_alloc ?_ _)); refine blk_put (cs := #[.int .u64 gO, .int .u64 hp, .slice none 0 0]) ?_ 2 _ rfl; (with_reducible repeat (first | refine blk_drewN ?_ _ | refine blk_drew ?_ | refine blk_alloc ?_ _)); refine blk_put (cs := #[.int .u64 gO, .int .u64 0, .slice none 0 0]) ?_ 1 _ rfl; (with_reducible repeat (first | refine blk_drewN ?_ _ | refine blk_drew ?_ | refine blk_alloc ?_ _)); refine blk_put (cs := #[.int .u64 0, .int .u64 0, .slice none 0 0]) ?_ 0 _ rfl; (with_reducible repeat (first | refine blk_drewN ?_ _ | refine blk_drew ?_ | refine blk_alloc ?_ _)); exact bp.out⟩, ⟨by repeat (first | (with_reducible first | exact HB.out | apply below_alloc | apply pw_below_drewN | apply below_drew1 | refine below_set ?_ dE.out | refine below_set ?_ dF.out) | exact HB.out)⟩⟩
 case round =>
  clear H'
  (try clear c1); (try clear c2); (try clear p2); (try clear c5); (try clear c6); (try clear mM); (try clear mL); (try clear c9); (try clear c10); (try clear c17); (try clear jX); (try clear jW); (try clear jV); (try clear jU); (try clear jT); (try clear jS); (try clear jt); (try clear js); (try clear jr); (try clear jq); (try clear jp); (try clear jo)
  obtain ⟨be, bl, bj, bd, bk, bi, bc, gF, gE, rfl, HA, HK1, bf, bm, bo, bp, HB⟩ := hrel
  cases gk with
  | zero => exact absurd HA.out (by simp [postroomlaw10_LedgerPlays.l0])
  | succ k1 => ?_
  have H := HA.out
  clear HA
  simp only [postroomlaw10_LedgerPlays.l0] at H
  by_cases c20 : be < (l0.length : Int)
  case neg =>
   rw [if_neg c20] at H
   have mN : decide (be < (l0.length : Int)) = false := decide_eq_false c20
   clear c20
   obtain rfl := Option.some.inj H
   go_wp2
   go_ret
   exact ⟨by first | rfl | (simp [errW_none, errW_some] <;> rfl) | (simp [*, errW_none, errW_some] <;> rfl), by repeat (first | (with_reducible first | exact HB.out | apply below_alloc | apply pw_below_drewN | apply below_drew1 | refine below_set ?_ dE.out | refine below_set ?_ dF.out) | exact HB.out)⟩
  rw [if_pos c20] at H
  have mN : decide (be < (l0.length : Int)) = true := decide_eq_true c20
  clear c20
  by_cases c21 : 0 ≤ be
  case neg =>
   rw [if_neg c21] at H
   exact absurd H (by simp)
  rw [if_pos c21] at H
  have sk : decide (0 ≤ be) = true := decide_eq_true c21
  clear c21
  replace H := Option.bind_eq_some_iff.mp H
  obtain ⟨⟨bw, bx, br, bB, bD, bC, me⟩, m0, H⟩ := H
  replace H : (if me = true then ((ledger_Right.f k1 bw bx br).bind fun gN => (if gN = true then ((postroomlaw10_name.f a1).bind fun bQ => ((ledger_Find.f bw bx br bQ).bind fun bR => ((ledger_Pending.f k1 bw bx br bQ).bind fun dM => ((postroomref10_Pending.f k1 bB bD bC bQ).bind fun dH => ((postroomref10_Same.f k1 dM dH).bind fun dG => (if dG = true then ((ledger_Waits.f k1 bw bx br bQ a2).bind fun dw => ((postroomref10_Waits.f k1 bB bD bC bQ a2).bind fun dv => (if (dw != dv) = true then (none) else ((ledger_Free.f k1 bw bx br).bind fun dr => ((postroomref10_Free.f k1 bB bD bC).bind fun dq => (if dr = dq then (postroomlaw10_LedgerPlays.l1 k1 l0 a1 a2 be bQ bR.2.2.2.2.2.2.2 false 0 bw bx br bB bD bC bR.1 bR.2.1 bR.2.2.1 bR.2.2.2.1 bR.2.2.2.2.1 bR.2.2.2.2.2.1 bR.2.2.2.2.2.2.1) else (none))))))) else (none))))))) else (none))) else (none)) = some r := H
  have A22 := Aside0.mk m0
  clear m0
  by_cases c23 : me = true
  case neg =>
   replace c23 := Bool.eq_false_iff.mpr c23
   subst c23
   have H1 : (none) = some r := by rw [if_neg (show ¬ (false = true) by decide)] at H; exact H
   clear H
   have H := H1
   clear H1
   exact absurd H (by simp)
  subst c23
  have H1 : ((ledger_Right.f k1 bw bx br).bind fun gN => (if gN = true then ((postroomlaw10_name.f a1).bind fun bQ => ((ledger_Find.f bw bx br bQ).bind fun bR => ((ledger_Pending.f k1 bw bx br bQ).bind fun dM => ((postroomref10_Pending.f k1 bB bD bC bQ).bind fun dH => ((postroomref10_Same.f k1 dM dH).bind fun dG => (if dG = true then ((ledger_Waits.f k1 bw bx br bQ a2).bind fun dw => ((postroomref10_Waits.f k1 bB bD bC bQ a2).bind fun dv => (if (dw != dv) = true then (none) else ((ledger_Free.f k1 bw bx br).bind fun dr => ((postroomref10_Free.f k1 bB bD bC).bind fun dq => (if dr = dq then (postroomlaw10_LedgerPlays.l1 k1 l0 a1 a2 be bQ bR.2.2.2.2.2.2.2 false 0 bw bx br bB bD bC bR.1 bR.2.1 bR.2.2.1 bR.2.2.2.1 bR.2.2.2.2.1 bR.2.2.2.2.2.1 bR.2.2.2.2.2.2.1) else (none))))))) else (none))))))) else (none))) = some r := by rw [if_pos rfl] at H; exact H
  clear H
  have H := H1
  clear H1
  replace H := Option.bind_eq_some_iff.mp H
  obtain ⟨gN, mZ, H⟩ := H
  replace H : (if gN = true then ((postroomlaw10_name.f a1).bind fun bQ => ((ledger_Find.f bw bx br bQ).bind fun bR => ((ledger_Pending.f k1 bw bx br bQ).bind fun dM => ((postroomref10_Pending.f k1 bB bD bC bQ).bind fun dH => ((postroomref10_Same.f k1 dM dH).bind fun dG => (if dG = true then ((ledger_Waits.f k1 bw bx br bQ a2).bind fun dw => ((postroomref10_Waits.f k1 bB bD bC bQ a2).bind fun dv => (if (dw != dv) = true then (none) else ((ledger_Free.f k1 bw bx br).bind fun dr => ((postroomref10_Free.f k1 bB bD bC).bind fun dq => (if dr = dq then (postroomlaw10_LedgerPlays.l1 k1 l0 a1 a2 be bQ bR.2.2.2.2.2.2.2 false 0 bw bx br bB bD bC bR.1 bR.2.1 bR.2.2.1 bR.2.2.2.1 bR.2.2.2.2.1 bR.2.2.2.2.2.1 bR.2.2.2.2.2.2.1) else (none))))))) else (none))))))) else (none)) = some r := H
  have A24 := Aside0.mk mZ
  clear mZ
  by_cases c25 : gN = true
  case neg =>
   replace c25 := Bool.eq_false_iff.mpr c25
   subst c25
   have H1 : (none) = some r := by rw [if_neg (show ¬ (false = true) by decide)] at H; exact H
   clear H
   have H := H1
   clear H1
   exact absurd H (by simp)
  subst c25
  have H1 : ((postroomlaw10_name.f a1).bind fun bQ => ((ledger_Find.f bw bx br bQ).bind fun bR => ((ledger_Pending.f k1 bw bx br bQ).bind fun dM => ((postroomref10_Pending.f k1 bB bD bC bQ).bind fun dH => ((postroomref10_Same.f k1 dM dH).bind fun dG => (if dG = true then ((ledger_Waits.f k1 bw bx br bQ a2).bind fun dw => ((postroomref10_Waits.f k1 bB bD bC bQ a2).bind fun dv => (if (dw != dv) = true then (none) else ((ledger_Free.f k1 bw bx br).bind fun dr => ((postroomref10_Free.f k1 bB bD bC).bind fun dq => (if dr = dq then (postroomlaw10_LedgerPlays.l1 k1 l0 a1 a2 be bQ bR.2.2.2.2.2.2.2 false 0 bw bx br bB bD bC bR.1 bR.2.1 bR.2.2.1 bR.2.2.2.1 bR.2.2.2.2.1 bR.2.2.2.2.2.1 bR.2.2.2.2.2.2.1) else (none))))))) else (none))))))) = some r := by rw [if_pos rfl] at H; exact H
  clear H
  have H := H1
  clear H1
  replace H := Option.bind_eq_some_iff.mp H
  obtain ⟨bQ, mY, H⟩ := H
  replace H : ((ledger_Find.f bw bx br bQ).bind fun bR => ((ledger_Pending.f k1 bw bx br bQ).bind fun dM => ((postroomref10_Pending.f k1 bB bD bC bQ).bind fun dH => ((postroomref10_Same.f k1 dM dH).bind fun dG => (if dG = true then ((ledger_Waits.f k1 bw bx br bQ a2).bind fun dw => ((postroomref10_Waits.f k1 bB bD bC bQ a2).bind fun dv => (if (dw != dv) = true then (none) else ((ledger_Free.f k1 bw bx br).bind fun dr => ((postroomref10_Free.f k1 bB bD bC).bind fun dq => (if dr = dq then (postroomlaw10_LedgerPlays.l1 k1 l0 a1 a2 be bQ bR.2.2.2.2.2.2.2 false 0 bw bx br bB bD bC bR.1 bR.2.1 bR.2.2.1 bR.2.2.2.1 bR.2.2.2.2.1 bR.2.2.2.2.2.1 bR.2.2.2.2.2.2.1) else (none))))))) else (none)))))) = some r := H
  have A26 := Aside0.mk mY
  clear mY
  replace H := Option.bind_eq_some_iff.mp H
  obtain ⟨⟨db, b7, b6, b4, di, dj, dk, dO⟩, mX, H⟩ := H
  replace H : ((ledger_Pending.f k1 bw bx br bQ).bind fun dM => ((postroomref10_Pending.f k1 bB bD bC bQ).bind fun dH => ((postroomref10_Same.f k1 dM dH).bind fun dG => (if dG = true then ((ledger_Waits.f k1 bw bx br bQ a2).bind fun dw => ((postroomref10_Waits.f k1 bB bD bC bQ a2).bind fun dv => (if (dw != dv) = true then (none) else ((ledger_Free.f k1 bw bx br).bind fun dr => ((postroomref10_Free.f k1 bB bD bC).bind fun dq => (if dr = dq then (postroomlaw10_LedgerPlays.l1 k1 l0 a1 a2 be bQ dO false 0 bw bx br bB bD bC db b7 b6 b4 di dj dk) else (none))))))) else (none))))) = some r := H
  have A27 := Aside0.mk mX
  clear mX
  replace H := Option.bind_eq_some_iff.mp H
  obtain ⟨dM, mW, H⟩ := H
  replace H : ((postroomref10_Pending.f k1 bB bD bC bQ).bind fun dH => ((postroomref10_Same.f k1 dM dH).bind fun dG => (if dG = true then ((ledger_Waits.f k1 bw bx br bQ a2).bind fun dw => ((postroomref10_Waits.f k1 bB bD bC bQ a2).bind fun dv => (if (dw != dv) = true then (none) else ((ledger_Free.f k1 bw bx br).bind fun dr => ((postroomref10_Free.f k1 bB bD bC).bind fun dq => (if dr = dq then (postroomlaw10_LedgerPlays.l1 k1 l0 a1 a2 be bQ dO false 0 bw bx br bB bD bC db b7 b6 b4 di dj dk) else (none))))))) else (none)))) = some r := H
  have A28 := Aside0.mk mW
  clear mW
  replace H := Option.bind_eq_some_iff.mp H
  obtain ⟨dH, mV, H⟩ := H
  replace H : ((postroomref10_Same.f k1 dM dH).bind fun dG => (if dG = true then ((ledger_Waits.f k1 bw bx br bQ a2).bind fun dw => ((postroomref10_Waits.f k1 bB bD bC bQ a2).bind fun dv => (if (dw != dv) = true then (none) else ((ledger_Free.f k1 bw bx br).bind fun dr => ((postroomref10_Free.f k1 bB bD bC).bind fun dq => (if dr = dq then (postroomlaw10_LedgerPlays.l1 k1 l0 a1 a2 be bQ dO false 0 bw bx br bB bD bC db b7 b6 b4 di dj dk) else (none))))))) else (none))) = some r := H
  have A29 := Aside0.mk mV
  clear mV
  replace H := Option.bind_eq_some_iff.mp H
  obtain ⟨dG, mU, H⟩ := H
  replace H : (if dG = true then ((ledger_Waits.f k1 bw bx br bQ a2).bind fun dw => ((postroomref10_Waits.f k1 bB bD bC bQ a2).bind fun dv => (if (dw != dv) = true then (none) else ((ledger_Free.f k1 bw bx br).bind fun dr => ((postroomref10_Free.f k1 bB bD bC).bind fun dq => (if dr = dq then (postroomlaw10_LedgerPlays.l1 k1 l0 a1 a2 be bQ dO false 0 bw bx br bB bD bC db b7 b6 b4 di dj dk) else (none))))))) else (none)) = some r := H
  have A30 := Aside0.mk mU
  clear mU
  by_cases c31 : dG = true
  case neg =>
   replace c31 := Bool.eq_false_iff.mpr c31
   subst c31
   have H1 : (none) = some r := by rw [if_neg (show ¬ (false = true) by decide)] at H; exact H
   clear H
   have H := H1
   clear H1
   exact absurd H (by simp)
  subst c31
  have H1 : ((ledger_Waits.f k1 bw bx br bQ a2).bind fun dw => ((postroomref10_Waits.f k1 bB bD bC bQ a2).bind fun dv => (if (dw != dv) = true then (none) else ((ledger_Free.f k1 bw bx br).bind fun dr => ((postroomref10_Free.f k1 bB bD bC).bind fun dq => (if dr = dq then (postroomlaw10_LedgerPlays.l1 k1 l0 a1 a2 be bQ dO false 0 bw bx br bB bD bC db b7 b6 b4 di dj dk) else (none))))))) = some r := by rw [if_pos rfl] at H; exact H
  clear H
  have H := H1
  clear H1
  replace H := Option.bind_eq_some_iff.mp H
  obtain ⟨dw, mT, H⟩ := H
  replace H : ((postroomref10_Waits.f k1 bB bD bC bQ a2).bind fun dv => (if (dw != dv) = true then (none) else ((ledger_Free.f k1 bw bx br).bind fun dr => ((postroomref10_Free.f k1 bB bD bC).bind fun dq => (if dr = dq then (postroomlaw10_LedgerPlays.l1 k1 l0 a1 a2 be bQ dO false 0 bw bx br bB bD bC db b7 b6 b4 di dj dk) else (none)))))) = some r := H
  have A32 := Aside0.mk mT
  clear mT
  replace H := Option.bind_eq_some_iff.mp H
  obtain ⟨dv, mS, H⟩ := H
  replace H : (if (dw != dv) = true then (none) else ((ledger_Free.f k1 bw bx br).bind fun dr => ((postroomref10_Free.f k1 bB bD bC).bind fun dq => (if dr = dq then (postroomlaw10_LedgerPlays.l1 k1 l0 a1 a2 be bQ dO false 0 bw bx br bB bD bC db b7 b6 b4 di dj dk) else (none))))) = some r := H
  have A33 := Aside0.mk mS
  clear mS
  by_cases c34 : (dw != dv) = true
  ·rw [if_pos c34] at H
   exact absurd H (by simp)
  rw [if_neg c34] at H
  have sj : (dw != dv) = false := by simpa using c34
  (try (have si : decide (dw = dv) = true := by simpa using c34))
  (try (have sh : (dw == dv) = true := by simpa using c34))
  clear c34
  replace H := Option.bind_eq_some_iff.mp H
  obtain ⟨dr, mR, H⟩ := H
  replace H : ((postroomref10_Free.f k1 bB bD bC).bind fun dq => (if dr = dq then (postroomlaw10_LedgerPlays.l1 k1 l0 a1 a2 be bQ dO false 0 bw bx br bB bD bC db b7 b6 b4 di dj dk) else (none))) = some r := H
  have A35 := Aside0.mk mR
  clear mR
  replace H := Option.bind_eq_some_iff.mp H
  obtain ⟨dq, mQ, H⟩ := H
  replace H : (if dr = dq then (postroomlaw10_LedgerPlays.l1 k1 l0 a1 a2 be bQ dO false 0 bw bx br bB bD bC db b7 b6 b4 di dj dk) else (none)) = some r := H
  have A36 := Aside0.mk mQ
  clear mQ
  by_cases c37 : dr = dq
  case neg =>
   rw [if_neg c37] at H
   exact absurd H (by simp)
  rw [if_pos c37] at H
  have sg : (dr == dq) = true := beq_iff_eq.mpr c37
  have sf : (dr != dq) = false := bne_eq_false_iff_eq.mpr c37
  clear c37
  have H' := Aside0.mk H
  clear H
  obtain ⟨bM, bK, qb⟩ := Kd.V_slice bf.out
  subst qb
  obtain ⟨bL, bJ, qa⟩ := Kd.V_slice bm.out
  subst qa
  try go_wp2
  replace bf := Aside0.mk (Kd.V_drew bf.out)
  replace bm := Aside0.mk (Kd.V_drew bm.out)
  replace bo := Aside0.mk (blk_drew bo.out)
  replace bp := Aside0.mk (blk_drew bp.out)
  replace HB := Aside0.mk (below_drew1 HB.out)
  have j6 : 0 ≤ (be : Int) := of_decide_eq_true zx35_31
  have j5 : be < (l0.length : Int) := of_decide_eq_true zx35_31
  obtain ⟨bu, qg, d6, d5, d4, d3⟩ := at_T43 HR0.out be j6 j5
  have bY := d3
  have bZ := d4
  have b0 := d5
  have b1 := d6
  cases qg
  replace d6 := (HB.out.cell (World.block_lt_of_cell? w _ d6)).trans d6
  replace d5 := (HB.out.cell (World.block_lt_of_cell? w _ d5)).trans d5
  replace d4 := (HB.out.cell (World.block_lt_of_cell? w _ d4)).trans d4
  replace d3 := (HB.out.cell (World.block_lt_of_cell? w _ d3)).trans d3
  replace j6 := eq_true j6
  replace j5 := eq_true j5
  refine start_ (n := 16) (S := fun w' => w'.cell? ⟨ba, 0, none⟩ = some (.int .u64 bl) ∧ w'.cell? ⟨ba, 1, none⟩ = some (.int .u64 bj) ∧ w'.cell? ⟨ba, 2, none⟩ = some (.slice bM bd.length bK) ∧ w'.cell? ⟨bb, 0, none⟩ = some (.int .u64 bk) ∧ w'.cell? ⟨bb, 1, none⟩ = some (.int .u64 bi) ∧ w'.cell? ⟨bb, 2, none⟩ = some (.slice bL bc.length bJ) ∧ w'.cell? (bu.add ((be).toNat * 4)) = some (.int .i64 ((rd_T43 l0 be).f0)) ∧ w'.cell? ⟨(bu.add ((be).toNat * 4)).block, (bu.add ((be).toNat * 4)).off + 1, none⟩ = some (.int .i64 ((rd_T43 l0 be).f1)) ∧ w'.cell? ⟨(bu.add ((be).toNat * 4)).block, (bu.add ((be).toNat * 4)).off + 2, none⟩ = some (.int .i64 ((rd_T43 l0 be).f2)) ∧ w'.cell? ⟨(bu.add ((be).toNat * 4)).block, (bu.add ((be).toNat * 4)).off + 3, none⟩ = some (.int .i64 ((rd_T43 l0 be).f3))) (ds := []) #[Ff,Ff,Ff,Ff,Ff,Ff,Ff,Ff,Ff,Ff,Ff,Ff,Ff,Ff,Ff,Ff] (by kernel_rfl) rfl rfl ⟨(blk_cell bo.out 0).trans rfl, (blk_cell bo.out 1).trans rfl, (blk_cell bo.out 2).trans rfl, (blk_cell bp.out 0).trans rfl, (blk_cell bp.out 1).trans rfl, (blk_cell bp.out 2).trans rfl, ((HB.out.cell (World.block_lt_of_cell? w _ b1)).trans b1), ((HB.out.cell (World.block_lt_of_cell? w _ b0)).trans b0), ((HB.out.cell (World.block_lt_of_cell? w _ bZ)).trans bZ), ((HB.out.cell (World.block_lt_of_cell? w _ bY)).trans bY)⟩ (fun hHeld => ?_); refine with_tabW postroomlaw10_LedgerPlays.tab9 postroomlaw10_LedgerPlays.bits9 (fun HT_ HW_ => ?_)
  generalize wr.drew = w40 at bf bm bo bp HB d6 d5 d4 d3 hHeld ⊢
  refine pp_ 2 (some 39) HT_.out ?_
  refine pp_ 3 (some 40) HT_.out ?_
  refine pp_ 4 (some 41) HT_.out ?_
  refine take_ (i := 0) (N := some 37) (v := ?_) (a' := ?_) #[Tt,Ff,Tt,Tt,Tt,Ff,Ff,Ff,Ff,Ff,Ff,Ff,Ff,Ff,Ff,Ff] rfl rfl (take_ofW HT_.out HW_.out (by kernel_rfl)) (fun _ _ _ h => h) (Or.inl ⟨by rfl, ?_⟩) hHeld ?_ ?_
  rotate_left
  ·rintro w' ⟨s0, s1, s2, s3, s4, s5, s6, s7, s8, s9⟩
   go_simp
   with_reducible rfl
  rotate_left
  ·simp only [Act.put, List.setIfInBounds_toArray, List.set_cons_zero, List.set_cons_succ, i64_w, i32_w]
   rfl
  refine take_ (i := 1) (N := some 38) (v := ?_) (a' := ?_) #[Tt,Tt,Tt,Tt,Tt,Ff,Ff,Ff,Ff,Ff,Ff,Ff,Ff,Ff,Ff,Ff] rfl rfl (take_ofW HT_.out HW_.out (by kernel_rfl)) (fun _ _ _ h => h) (Or.inl ⟨by rfl, ?_⟩) hHeld ?_ ?_
  rotate_left
  ·rintro w' ⟨s0, s1, s2, s3, s4, s5, s6, s7, s8, s9⟩
   go_simp
   with_reducible rfl
  rotate_left
  ·simp only [Act.put, List.setIfInBounds_toArray, List.set_cons_zero, List.set_cons_succ, i64_w, i32_w]
   rfl
  refine take_ (i := 5) (N := some 42) (v := ?_) (a' := ?_) #[Tt,Tt,Tt,Tt,Tt,Tt,Ff,Ff,Ff,Ff,Ff,Ff,Ff,Ff,Ff,Ff] rfl rfl (take_ofW HT_.out HW_.out (by kernel_rfl)) (fun _ _ _ h => h) (Or.inl ⟨by rfl, ?_⟩) hHeld ?_ ?_
  rotate_left
  ·rintro w' ⟨s0, s1, s2, s3, s4, s5, s6, s7, s8, s9⟩
   go_simp
   with_reducible rfl
  rotate_left
  ·simp only [Act.put, List.setIfInBounds_toArray, List.set_cons_zero, List.set_cons_succ, i64_w, i32_w]
   rfl
  refine join_ (σ := Value × Value × Nat × Nat) 3 #[Tt,Tt,Tt,Tt,Tt,Tt,Tt,Tt,Tt,Tt,Tt,Tt,Tt,Ff,Ff,Ff] (fun s_ => [(43, .tuple #[.agg #[.int .u64 bw, .int .u64 bx, s_.1], .agg #[.int .u64 bB, .int .u64 bD, s_.2.1], .bool true]), (11, .pointer (some ⟨s_.2.2.1, 0, none⟩)), (12, .pointer (some ⟨s_.2.2.2, 0, none⟩)), (36, .tuple #[.agg #[.int .u64 bw, .int .u64 bx, s_.1], .agg #[.int .u64 bB, .int .u64 bD, s_.2.1], .bool true]), (44, .agg #[.int .u64 bw, .int .u64 bx, s_.1]), (45, .agg #[.int .u64 bB, .int .u64 bD, s_.2.1]), (46, .bool true)]) (fun s_ w' => (w'.cell? ⟨ba, 0, none⟩ = some (.int .u64 bl) ∧ w'.cell? ⟨ba, 1, none⟩ = some (.int .u64 bj) ∧ w'.cell? ⟨ba, 2, none⟩ = some (.slice bM bd.length bK) ∧ w'.cell? ⟨bb, 0, none⟩ = some (.int .u64 bk) ∧ w'.cell? ⟨bb, 1, none⟩ = some (.int .u64 bi) ∧ w'.cell? ⟨bb, 2, none⟩ = some (.slice bL bc.length bJ) ∧ w'.cell? (bu.add ((be).toNat * 4)) = some (.int .i64 ((rd_T43 l0 be).f0)) ∧ w'.cell? ⟨(bu.add ((be).toNat * 4)).block, (bu.add ((be).toNat * 4)).off + 1, none⟩ = some (.int .i64 ((rd_T43 l0 be).f1)) ∧ w'.cell? ⟨(bu.add ((be).toNat * 4)).block, (bu.add ((be).toNat * 4)).off + 2, none⟩ = some (.int .i64 ((rd_T43 l0 be).f2)) ∧ w'.cell? ⟨(bu.add ((be).toNat * 4)).block, (bu.add ((be).toNat * 4)).off + 3, none⟩ = some (.int .i64 ((rd_T43 l0 be).f3))) ∧ (Kd.V k37 37 w' w.heap.size (fun k_ => k_ ≠ ba ∧ k_ ≠ bb ∧ k_ ≠ s_.2.2.1 ∧ k_ ≠ s_.2.2.2) s_.1 br) ∧ (Kd.V k84 84 w' w.heap.size (fun k_ => k_ ≠ ba ∧ k_ ≠ bb ∧ k_ ≠ s_.2.2.1 ∧ k_ ≠ s_.2.2.2) s_.2.1 bC) ∧ (Kd.V k37 37 w' w.heap.size (fun k_ => k_ ≠ ba ∧ k_ ≠ bb ∧ k_ ≠ s_.2.2.1 ∧ k_ ≠ s_.2.2.2) (.slice bM bd.length bK) bd) ∧ (Kd.V k84 84 w' w.heap.size (fun k_ => k_ ≠ ba ∧ k_ ≠ bb ∧ k_ ≠ s_.2.2.1 ∧ k_ ≠ s_.2.2.2) (.slice bL bc.length bJ) bc) ∧ (w'.heap[ba]? = some (.cells #[.int .u64 bl, .int .u64 bj, .slice bM bd.length bK] 27 (0, 0))) ∧ (w'.heap[bb]? = some (.cells #[.int .u64 bk, .int .u64 bi, .slice bL bc.length bJ] 57 (0, 0))) ∧ (w'.heap[s_.2.2.1]? = some (.cells #[.int .u64 0, .int .u64 0, .slice none 0 0] 27 (0, 0))) ∧ (w'.heap[s_.2.2.2]? = some (.cells #[.int .u64 0, .int .u64 0, .slice none 0 0] 57 (0, 0))) ∧ (w.heap.size ≤ s_.2.2.1) ∧ (w.heap.size ≤ s_.2.2.1) ∧ (ba ≠ s_.2.2.1) ∧ (s_.2.2.1 ≠ ba) ∧ (bb ≠ s_.2.2.1) ∧ (s_.2.2.1 ≠ bb) ∧ (s_.2.2.2 ≠ s_.2.2.1) ∧ (s_.2.2.1 ≠ s_.2.2.2) ∧ (w.heap.size ≤ s_.2.2.2) ∧ (w.heap.size ≤ s_.2.2.2) ∧ (ba ≠ s_.2.2.2) ∧ (s_.2.2.2 ≠ ba) ∧ (bb ≠ s_.2.2.2) ∧ (s_.2.2.2 ≠ bb) ∧ (Below w.heap.size w w')) ?_ ?_
  rotate_left
  ·intro d9
   refine join_ (σ := Value × Value × Nat) 4 #[Tt,Tt,Tt,Tt,Tt,Tt,Tt,Tt,Tt,Tt,Tt,Tt,Ff,Ff,Ff,Ff] (fun s_ => [(43, .tuple #[.agg #[.int .u64 bw, .int .u64 bx, s_.1], .agg #[.int .u64 bB, .int .u64 bD, s_.2.1], .bool true]), (11, .pointer (some ⟨s_.2.2, 0, none⟩)), (36, .tuple #[.agg #[.int .u64 bw, .int .u64 bx, s_.1], .agg #[.int .u64 bB, .int .u64 bD, s_.2.1], .bool true]), (44, .agg #[.int .u64 bw, .int .u64 bx, s_.1]), (45, .agg #[.int .u64 bB, .int .u64 bD, s_.2.1]), (46, .bool true)]) (fun s_ w' => (w'.cell? ⟨ba, 0, none⟩ = some (.int .u64 bl) ∧ w'.cell? ⟨ba, 1, none⟩ = some (.int .u64 bj) ∧ w'.cell? ⟨ba, 2, none⟩ = some (.slice bM bd.length bK) ∧ w'.cell? ⟨bb, 0, none⟩ = some (.int .u64 bk) ∧ w'.cell? ⟨bb, 1, none⟩ = some (.int .u64 bi) ∧ w'.cell? ⟨bb, 2, none⟩ = some (.slice bL bc.length bJ) ∧ w'.cell? (bu.add ((be).toNat * 4)) = some (.int .i64 ((rd_T43 l0 be).f0)) ∧ w'.cell? ⟨(bu.add ((be).toNat * 4)).block, (bu.add ((be).toNat * 4)).off + 1, none⟩ = some (.int .i64 ((rd_T43 l0 be).f1)) ∧ w'.cell? ⟨(bu.add ((be).toNat * 4)).block, (bu.add ((be).toNat * 4)).off + 2, none⟩ = some (.int .i64 ((rd_T43 l0 be).f2)) ∧ w'.cell? ⟨(bu.add ((be).toNat * 4)).block, (bu.add ((be).toNat * 4)).off + 3, none⟩ = some (.int .i64 ((rd_T43 l0 be).f3))) ∧ (Kd.V k37 37 w' w.heap.size (fun k_ => k_ ≠ ba ∧ k_ ≠ bb ∧ k_ ≠ s_.2.2) s_.1 br) ∧ (Kd.V k84 84 w' w.heap.size (fun k_ => k_ ≠ ba ∧ k_ ≠ bb ∧ k_ ≠ s_.2.2) s_.2.1 bC) ∧ (Kd.V k37 37 w' w.heap.size (fun k_ => k_ ≠ ba ∧ k_ ≠ bb ∧ k_ ≠ s_.2.2) (.slice bM bd.length bK) bd) ∧ (Kd.V k84 84 w' w.heap.size (fun k_ => k_ ≠ ba ∧ k_ ≠ bb ∧ k_ ≠ s_.2.2) (.slice bL bc.length bJ) bc) ∧ (w'.heap[ba]? = some (.cells #[.int .u64 bl, .int .u64 bj, .slice bM bd.length bK] 27 (0, 0))) ∧ (w'.heap[bb]? = some (.cells #[.int .u64 bk, .int .u64 bi, .slice bL bc.length bJ] 57 (0, 0))) ∧ (w'.heap[s_.2.2]? = some (.cells #[.int .u64 0, .int .u64 0, .slice none 0 0] 27 (0, 0))) ∧ (w.heap.size ≤ s_.2.2) ∧ (w.heap.size ≤ s_.2.2) ∧ (ba ≠ s_.2.2) ∧ (s_.2.2 ≠ ba) ∧ (bb ≠ s_.2.2) ∧ (s_.2.2 ≠ bb) ∧ (Below w.heap.size w w')) ?_ ?_
   rotate_left
   ·intro hA
    refine join_ (σ := Value × Value × Nat) 4 #[Tt,Tt,Tt,Tt,Tt,Tt,Tt,Tt,Tt,Tt,Tt,Ff,Tt,Ff,Ff,Ff] (fun s_ => [(43, .tuple #[.agg #[.int .u64 bw, .int .u64 bx, s_.1], .agg #[.int .u64 bB, .int .u64 bD, s_.2.1], .bool true]), (12, .pointer (some ⟨s_.2.2, 0, none⟩)), (36, .tuple #[.agg #[.int .u64 bw, .int .u64 bx, s_.1], .agg #[.int .u64 bB, .int .u64 bD, s_.2.1], .bool true]), (44, .agg #[.int .u64 bw, .int .u64 bx, s_.1]), (45, .agg #[.int .u64 bB, .int .u64 bD, s_.2.1]), (46, .bool true)]) (fun s_ w' => (w'.cell? ⟨ba, 0, none⟩ = some (.int .u64 bl) ∧ w'.cell? ⟨ba, 1, none⟩ = some (.int .u64 bj) ∧ w'.cell? ⟨ba, 2, none⟩ = some (.slice bM bd.length bK) ∧ w'.cell? ⟨bb, 0, none⟩ = some (.int .u64 bk) ∧ w'.cell? ⟨bb, 1, none⟩ = some (.int .u64 bi) ∧ w'.cell? ⟨bb, 2, none⟩ = some (.slice bL bc.length bJ) ∧ w'.cell? (bu.add ((be).toNat * 4)) = some (.int .i64 ((rd_T43 l0 be).f0)) ∧ w'.cell? ⟨(bu.add ((be).toNat * 4)).block, (bu.add ((be).toNat * 4)).off + 1, none⟩ = some (.int .i64 ((rd_T43 l0 be).f1)) ∧ w'.cell? ⟨(bu.add ((be).toNat * 4)).block, (bu.add ((be).toNat * 4)).off + 2, none⟩ = some (.int .i64 ((rd_T43 l0 be).f2)) ∧ w'.cell? ⟨(bu.add ((be).toNat * 4)).block, (bu.add ((be).toNat * 4)).off + 3, none⟩ = some (.int .i64 ((rd_T43 l0 be).f3))) ∧ (Kd.V k37 37 w' w.heap.size (fun k_ => k_ ≠ ba ∧ k_ ≠ bb ∧ k_ ≠ s_.2.2) s_.1 br) ∧ (Kd.V k84 84 w' w.heap.size (fun k_ => k_ ≠ ba ∧ k_ ≠ bb ∧ k_ ≠ s_.2.2) s_.2.1 bC) ∧ (Kd.V k37 37 w' w.heap.size (fun k_ => k_ ≠ ba ∧ k_ ≠ bb ∧ k_ ≠ s_.2.2) (.slice bM bd.length bK) bd) ∧ (Kd.V k84 84 w' w.heap.size (fun k_ => k_ ≠ ba ∧ k_ ≠ bb ∧ k_ ≠ s_.2.2) (.slice bL bc.length bJ) bc) ∧ (w'.heap[ba]? = some (.cells #[.int .u64 bl, .int .u64 bj, .slice bM bd.length bK] 27 (0, 0))) ∧ (w'.heap[bb]? = some (.cells #[.int .u64 bk, .int .u64 bi, .slice bL bc.length bJ] 57 (0, 0))) ∧ (w'.heap[s_.2.2]? = some (.cells #[.int .u64 0, .int .u64 0, .slice none 0 0] 57 (0, 0))) ∧ (w.heap.size ≤ s_.2.2) ∧ (w.heap.size ≤ s_.2.2) ∧ (ba ≠ s_.2.2) ∧ (s_.2.2 ≠ ba) ∧ (bb ≠ s_.2.2) ∧ (s_.2.2 ≠ bb) ∧ (Below w.heap.size w w')) ?_ ?_
    rotate_left
    ·intro hz
     refine join_ (σ := Nat × Nat) 8 #[Tt,Tt,Tt,Tt,Tt,Tt,Ff,Ff,Ff,Ff,Ff,Tt,Tt,Ff,Ff,Ff] (fun s_ => [(11, .pointer (some ⟨s_.1, 0, none⟩)), (12, .pointer (some ⟨s_.2, 0, none⟩))]) (fun s_ w' => (w'.cell? ⟨ba, 0, none⟩ = some (.int .u64 bl) ∧ w'.cell? ⟨ba, 1, none⟩ = some (.int .u64 bj) ∧ w'.cell? ⟨ba, 2, none⟩ = some (.slice bM bd.length bK) ∧ w'.cell? ⟨bb, 0, none⟩ = some (.int .u64 bk) ∧ w'.cell? ⟨bb, 1, none⟩ = some (.int .u64 bi) ∧ w'.cell? ⟨bb, 2, none⟩ = some (.slice bL bc.length bJ) ∧ w'.cell? (bu.add ((be).toNat * 4)) = some (.int .i64 ((rd_T43 l0 be).f0)) ∧ w'.cell? ⟨(bu.add ((be).toNat * 4)).block, (bu.add ((be).toNat * 4)).off + 1, none⟩ = some (.int .i64 ((rd_T43 l0 be).f1)) ∧ w'.cell? ⟨(bu.add ((be).toNat * 4)).block, (bu.add ((be).toNat * 4)).off + 2, none⟩ = some (.int .i64 ((rd_T43 l0 be).f2)) ∧ w'.cell? ⟨(bu.add ((be).toNat * 4)).block, (bu.add ((be).toNat * 4)).off + 3, none⟩ = some (.int .i64 ((rd_T43 l0 be).f3))) ∧ (Kd.V k37 37 w' w.heap.size (fun k_ => k_ ≠ ba ∧ k_ ≠ bb ∧ k_ ≠ s_.1 ∧ k_ ≠ s_.2) (.slice bM bd.length bK) bd) ∧ (Kd.V k84 84 w' w.heap.size (fun k_ => k_ ≠ ba ∧ k_ ≠ bb ∧ k_ ≠ s_.1 ∧ k_ ≠ s_.2) (.slice bL bc.length bJ) bc) ∧ (w'.heap[ba]? = some (.cells #[.int .u64 bl, .int .u64 bj, .slice bM bd.length bK] 27 (0, 0))) ∧ (w'.heap[bb]? = some (.cells #[.int .u64 bk, .int .u64 bi, .slice bL bc.length bJ] 57 (0, 0))) ∧ (w'.heap[s_.1]? = some (.cells #[.int .u64 0, .int .u64 0, .slice none 0 0] 27 (0, 0))) ∧ (w'.heap[s_.2]? = some (.cells #[.int .u64 0, .int .u64 0, .slice none 0 0] 57 (0, 0))) ∧ (w.heap.size ≤ s_.1) ∧ (w.heap.size ≤ s_.1) ∧ (ba ≠ s_.1) ∧ (s_.1 ≠ ba) ∧ (bb ≠ s_.1) ∧ (s_.1 ≠ bb) ∧ (s_.2 ≠ s_.1) ∧ (s_.1 ≠ s_.2) ∧ (w.heap.size ≤ s_.2) ∧ (w.heap.size ≤ s_.2) ∧ (ba ≠ s_.2) ∧ (s_.2 ≠ ba) ∧ (bb ≠ s_.2) ∧ (s_.2 ≠ bb) ∧ (Below w.heap.size w w')) ?_ ?_
     rotate_left
     ·intro hm
      refine join_ (σ := Value × Value) 5 #[Tt,Tt,Tt,Tt,Tt,Tt,Tt,Tt,Tt,Tt,Tt,Ff,Ff,Ff,Ff,Ff] (fun s_ => [(43, .tuple #[.agg #[.int .u64 bw, .int .u64 bx, s_.1], .agg #[.int .u64 bB, .int .u64 bD, s_.2], .bool true]), (36, .tuple #[.agg #[.int .u64 bw, .int .u64 bx, s_.1], .agg #[.int .u64 bB, .int .u64 bD, s_.2], .bool true]), (44, .agg #[.int .u64 bw, .int .u64 bx, s_.1]), (45, .agg #[.int .u64 bB, .int .u64 bD, s_.2]), (46, .bool true)]) (fun s_ w' => (w'.cell? ⟨ba, 0, none⟩ = some (.int .u64 bl) ∧ w'.cell? ⟨ba, 1, none⟩ = some (.int .u64 bj) ∧ w'.cell? ⟨ba, 2, none⟩ = some (.slice bM bd.length bK) ∧ w'.cell? ⟨bb, 0, none⟩ = some (.int .u64 bk) ∧ w'.cell? ⟨bb, 1, none⟩ = some (.int .u64 bi) ∧ w'.cell? ⟨bb, 2, none⟩ = some (.slice bL bc.length bJ) ∧ w'.cell? (bu.add ((be).toNat * 4)) = some (.int .i64 ((rd_T43 l0 be).f0)) ∧ w'.cell? ⟨(bu.add ((be).toNat * 4)).block, (bu.add ((be).toNat * 4)).off + 1, none⟩ = some (.int .i64 ((rd_T43 l0 be).f1)) ∧ w'.cell? ⟨(bu.add ((be).toNat * 4)).block, (bu.add ((be).toNat * 4)).off + 2, none⟩ = some (.int .i64 ((rd_T43 l0 be).f2)) ∧ w'.cell? ⟨(bu.add ((be).toNat * 4)).block, (bu.add ((be).toNat * 4)).off + 3, none⟩ = some (.int .i64 ((rd_T43 l0 be).f3))) ∧ (Kd.V k37 37 w' w.heap.size (fun k_ => k_ ≠ ba ∧ k_ ≠ bb) s_.1 br) ∧ (Kd.V k84 84 w' w.heap.size (fun k_ => k_ ≠ ba ∧ k_ ≠ bb) s_.2 bC) ∧ (Kd.V k37 37 w' w.heap.size (fun k_ => k_ ≠ ba ∧ k_ ≠ bb) (.slice bM bd.length bK) bd) ∧ (Kd.V k84 84 w' w.heap.size (fun k_ => k_ ≠ ba ∧ k_ ≠ bb) (.slice bL bc.length bJ) bc) ∧ (w'.heap[ba]? = some (.cells #[.int .u64 bl, .int .u64 bj, .slice bM bd.length bK] 27 (0, 0))) ∧ (w'.heap[bb]? = some (.cells #[.int .u64 bk, .int .u64 bi, .slice bL bc.length bJ] 57 (0, 0))) ∧ (Below w.heap.size w w')) ?_ ?_
      rotate_left
      ·intro hJ6
       refine join_ (σ := Nat) 9 #[Tt,Tt,Tt,Tt,Tt,Tt,Ff,Ff,Ff,Ff,Ff,Tt,Ff,Ff,Ff,Ff] (fun s_ => [(11, .pointer (some ⟨s_, 0, none⟩))]) (fun s_ w' => (w'.cell? ⟨ba, 0, none⟩ = some (.int .u64 bl) ∧ w'.cell? ⟨ba, 1, none⟩ = some (.int .u64 bj) ∧ w'.cell? ⟨ba, 2, none⟩ = some (.slice bM bd.length bK) ∧ w'.cell? ⟨bb, 0, none⟩ = some (.int .u64 bk) ∧ w'.cell? ⟨bb, 1, none⟩ = some (.int .u64 bi) ∧ w'.cell? ⟨bb, 2, none⟩ = some (.slice bL bc.length bJ) ∧ w'.cell? (bu.add ((be).toNat * 4)) = some (.int .i64 ((rd_T43 l0 be).f0)) ∧ w'.cell? ⟨(bu.add ((be).toNat * 4)).block, (bu.add ((be).toNat * 4)).off + 1, none⟩ = some (.int .i64 ((rd_T43 l0 be).f1)) ∧ w'.cell? ⟨(bu.add ((be).toNat * 4)).block, (bu.add ((be).toNat * 4)).off + 2, none⟩ = some (.int .i64 ((rd_T43 l0 be).f2)) ∧ w'.cell? ⟨(bu.add ((be).toNat * 4)).block, (bu.add ((be).toNat * 4)).off + 3, none⟩ = some (.int .i64 ((rd_T43 l0 be).f3))) ∧ (Kd.V k37 37 w' w.heap.size (fun k_ => k_ ≠ ba ∧ k_ ≠ bb ∧ k_ ≠ s_) (.slice bM bd.length bK) bd) ∧ (Kd.V k84 84 w' w.heap.size (fun k_ => k_ ≠ ba ∧ k_ ≠ bb ∧ k_ ≠ s_) (.slice bL bc.length bJ) bc) ∧ (w'.heap[ba]? = some (.cells #[.int .u64 bl, .int .u64 bj, .slice bM bd.length bK] 27 (0, 0))) ∧ (w'.heap[bb]? = some (.cells #[.int .u64 bk, .int .u64 bi, .slice bL bc.length bJ] 57 (0, 0))) ∧ (w'.heap[s_]? = some (.cells #[.int .u64 0, .int .u64 0, .slice none 0 0] 27 (0, 0))) ∧ (w.heap.size ≤ s_) ∧ (w.heap.size ≤ s_) ∧ (ba ≠ s_) ∧ (s_ ≠ ba) ∧ (bb ≠ s_) ∧ (s_ ≠ bb) ∧ (Below w.heap.size w w')) ?_ ?_
       rotate_left
       ·intro o8
        refine join_ (σ := Nat) 9 #[Tt,Tt,Tt,Tt,Tt,Tt,Ff,Ff,Ff,Ff,Ff,Ff,Tt,Ff,Ff,Ff] (fun s_ => [(12, .pointer (some ⟨s_, 0, none⟩))]) (fun s_ w' => (w'.cell? ⟨ba, 0, none⟩ = some (.int .u64 bl) ∧ w'.cell? ⟨ba, 1, none⟩ = some (.int .u64 bj) ∧ w'.cell? ⟨ba, 2, none⟩ = some (.slice bM bd.length bK) ∧ w'.cell? ⟨bb, 0, none⟩ = some (.int .u64 bk) ∧ w'.cell? ⟨bb, 1, none⟩ = some (.int .u64 bi) ∧ w'.cell? ⟨bb, 2, none⟩ = some (.slice bL bc.length bJ) ∧ w'.cell? (bu.add ((be).toNat * 4)) = some (.int .i64 ((rd_T43 l0 be).f0)) ∧ w'.cell? ⟨(bu.add ((be).toNat * 4)).block, (bu.add ((be).toNat * 4)).off + 1, none⟩ = some (.int .i64 ((rd_T43 l0 be).f1)) ∧ w'.cell? ⟨(bu.add ((be).toNat * 4)).block, (bu.add ((be).toNat * 4)).off + 2, none⟩ = some (.int .i64 ((rd_T43 l0 be).f2)) ∧ w'.cell? ⟨(bu.add ((be).toNat * 4)).block, (bu.add ((be).toNat * 4)).off + 3, none⟩ = some (.int .i64 ((rd_T43 l0 be).f3))) ∧ (Kd.V k37 37 w' w.heap.size (fun k_ => k_ ≠ ba ∧ k_ ≠ bb ∧ k_ ≠ s_) (.slice bM bd.length bK) bd) ∧ (Kd.V k84 84 w' w.heap.size (fun k_ => k_ ≠ ba ∧ k_ ≠ bb ∧ k_ ≠ s_) (.slice bL bc.length bJ) bc) ∧ (w'.heap[ba]? = some (.cells #[.int .u64 bl, .int .u64 bj, .slice bM bd.length bK] 27 (0, 0))) ∧ (w'.heap[bb]? = some (.cells #[.int .u64 bk, .int .u64 bi, .slice bL bc.length bJ] 57 (0, 0))) ∧ (w'.heap[s_]? = some (.cells #[.int .u64 0, .int .u64 0, .slice none 0 0] 57 (0, 0))) ∧ (w.heap.size ≤ s_) ∧ (w.heap.size ≤ s_) ∧ (ba ≠ s_) ∧ (s_ ≠ ba) ∧ (bb ≠ s_) ∧ (s_ ≠ bb) ∧ (Below w.heap.size w w')) ?_ ?_
        rotate_left
        ·intro o7
         refine three_ (i := 6) (j := 11) (k := 12) (Ni := some 43) (Nj := some 11) (Nk := some 12) #[Tt,Tt,Tt,Tt,Tt,Tt,Tt,Ff,Ff,Ff,Ff,Ff,Ff,Ff,Ff,Ff] #[Tt,Tt,Tt,Tt,Tt,Tt,Ff,Ff,Ff,Ff,Ff,Tt,Ff,Ff,Ff,Ff] #[Tt,Tt,Tt,Tt,Tt,Tt,Ff,Ff,Ff,Ff,Ff,Ff,Tt,Ff,Ff,Ff] rfl rfl rfl rfl rfl rfl (three_of HT_.out (by kernel_rfl)) (by decide) (by decide) (by decide) (fun K hK => ?_) (fun K hK => ?_) (fun K hK => ?_)
         ·skip
          refine goes_ Tryd.func27 (by kernel_rfl) rfl #[.agg #[.int .u64 bl, .int .u64 bj, .slice bM bd.length bK], .agg #[.int .u64 bk, .int .u64 bi, .slice bL bc.length bJ], .agg #[.int .i64 ((rd_T43 l0 be).f0), .int .i64 ((rd_T43 l0 be).f1), .int .i64 ((rd_T43 l0 be).f2), .int .i64 ((rd_T43 l0 be).f3)]] (by rfl) rfl rfl zx35_11 ?_
          with_reducible refine (postroomlaw10_does.calls k1 bl bj (fun k_ => (k_ ≠ ba ∧ k_ ≠ bb)) _ _ bd bk bi (fun k_ => (k_ ≠ ba ∧ k_ ≠ bb)) _ _ bc ((rd_T43 l0 be).f0) ((rd_T43 l0 be).f1) ((rd_T43 l0 be).f2) ((rd_T43 l0 be).f3) bw bx br bB bD bC true _ ?side1 ?side2 A22.out).mono ?_
          (case side1 => exact bf.out)
          (case side2 => exact bm.out)
          rintro e w41 ⟨dK, dJ, rfl, ho0, ho1, hb⟩
          refine ⟨_, rfl, ?_⟩
          replace bf := Aside0.mk (Kd.V_below zx35_8 hb)
          replace bm := Aside0.mk (Kd.V_below zx35_9 hb)
          have bU := Aside0.mk (Kd.V_lower (Kd.V_mono (ok' := fun k_ => k_ ≠ ba ∧ k_ ≠ bb) ho0 (fun k_ hk_ => ⟨Or.elim hk_ (fun hs_ => Or.elim hs_ (fun hs_ => hs_.1) (fun hs_ => hs_.1)) (fun hn_ => (Kd.freshB (g := ba) (o := .cells #[.int .u64 bl, .int .u64 bj, .slice bM bd.length bK] 27 (0, 0)) zx35_0 k_ hn_)), Or.elim hk_ (fun hs_ => Or.elim hs_ (fun hs_ => hs_.2) (fun hs_ => hs_.2)) (fun hn_ => (Kd.freshB (g := bb) (o := .cells #[.int .u64 bk, .int .u64 bi, .slice bL bc.length bJ] 57 (0, 0)) zx35_1 k_ hn_))⟩)) (below_size zx35_5))
          have bX := Aside0.mk (Kd.V_lower (Kd.V_mono (ok' := fun k_ => k_ ≠ ba ∧ k_ ≠ bb) ho1 (fun k_ hk_ => ⟨Or.elim hk_ (fun hs_ => Or.elim hs_ (fun hs_ => hs_.1) (fun hs_ => hs_.1)) (fun hn_ => (Kd.freshB (g := ba) (o := .cells #[.int .u64 bl, .int .u64 bj, .slice bM bd.length bK] 27 (0, 0)) zx35_0 k_ hn_)), Or.elim hk_ (fun hs_ => Or.elim hs_ (fun hs_ => hs_.2) (fun hs_ => hs_.2)) (fun hn_ => (Kd.freshB (g := bb) (o := .cells #[.int .u64 bk, .int .u64 bi, .slice bL bc.length bJ] 57 (0, 0)) zx35_1 k_ hn_))⟩)) (below_size zx35_5))
          replace bo := Aside0.mk (blk_below (g := ba) (o := .cells #[.int .u64 bl, .int .u64 bj, .slice bM bd.length bK] 27 (0, 0)) zx35_0 hb)
          replace bp := Aside0.mk (blk_below (g := bb) (o := .cells #[.int .u64 bk, .int .u64 bi, .slice bL bc.length bJ] 57 (0, 0)) zx35_1 hb)
          replace HB := Aside0.mk (below_step zx35_5 hb)
          (try clear hb)
          (try clear hb2)
          (try clear hk)
          (try clear hi)
          (try clear ho0)
          (try clear ho1)
          refine hK.out _ _ ⟨(blk_cell bo.out 0).trans rfl, (blk_cell bo.out 1).trans rfl, (blk_cell bo.out 2).trans rfl, (blk_cell bp.out 0).trans rfl, (blk_cell bp.out 1).trans rfl, (blk_cell bp.out 2).trans rfl, ((HB.out.cell (World.block_lt_of_cell? w _ b1)).trans b1), ((HB.out.cell (World.block_lt_of_cell? w _ b0)).trans b0), ((HB.out.cell (World.block_lt_of_cell? w _ bZ)).trans bZ), ((HB.out.cell (World.block_lt_of_cell? w _ bY)).trans bY)⟩ (fun hHeld => ?_)
          clear hK K
          refine norm_ (a' := ?_) ?_ ?_
          rotate_left
          ·show Act.put _ (some 43) _ = _
           simp only [Act.put, List.setIfInBounds_toArray, List.set_cons_zero, List.set_cons_succ, i64_w, i32_w]
           rfl
          refine pp_ 7 (some 36) HT_.out ?_
          refine pp_ 8 (some 44) HT_.out ?_
          refine pp_ 9 (some 45) HT_.out ?_
          refine pp_ 10 (some 46) HT_.out ?_
          exact norm_ zx35_10 (hJ6 (dK, dJ) _ ⟨hHeld, zx35_17, zx35_18, zx35_8, zx35_9, zx35_0, zx35_1, zx35_5⟩)
         ·skip
          refine box_step ?hg (N := 11) ?hd (cs := #[.int .u64 0, .int .u64 0, .slice none 0 0]) (t := 27) ?hr ?_; (case hd => rfl); (case hg => rfl); (case hr => first | (go_simp; done) | (go_simp; rfl))
          intro bh hg w41 hbox hb
          replace bf := Aside0.mk (Kd.V_below (Kd.V_elderB zx35_8 bh (Nat.le_of_eq hg.symm)) hb)
          replace bm := Aside0.mk (Kd.V_below (Kd.V_elderB zx35_9 bh (Nat.le_of_eq hg.symm)) hb)
          have bH := Aside0.mk (hbox)
          have da := Aside0.mk ((by rw [hg]; exact (below_size zx35_5) : w.heap.size ≤ bh))
          have dp := Aside0.mk ((by rw [hg]; exact (below_size zx35_5) : w.heap.size ≤ bh))
          replace HB := Aside0.mk (below_step zx35_5 hb)
          have bA := Aside0.mk ((by rw [hg]; exact Nat.ne_of_lt (blk_lt (g := ba) (o := .cells #[.int .u64 bl, .int .u64 bj, .slice bM bd.length bK] 27 (0, 0)) zx35_0) : ba ≠ bh))
          have bO := Aside0.mk ((by rw [hg]; exact Nat.ne_of_gt (blk_lt (g := ba) (o := .cells #[.int .u64 bl, .int .u64 bj, .slice bM bd.length bK] 27 (0, 0)) zx35_0) : bh ≠ ba))
          replace bo := Aside0.mk (blk_below (g := ba) (o := .cells #[.int .u64 bl, .int .u64 bj, .slice bM bd.length bK] 27 (0, 0)) zx35_0 hb)
          have bG := Aside0.mk ((by rw [hg]; exact Nat.ne_of_lt (blk_lt (g := bb) (o := .cells #[.int .u64 bk, .int .u64 bi, .slice bL bc.length bJ] 57 (0, 0)) zx35_1) : bb ≠ bh))
          have bW := Aside0.mk ((by rw [hg]; exact Nat.ne_of_gt (blk_lt (g := bb) (o := .cells #[.int .u64 bk, .int .u64 bi, .slice bL bc.length bJ] 57 (0, 0)) zx35_1) : bh ≠ bb))
          replace bp := Aside0.mk (blk_below (g := bb) (o := .cells #[.int .u64 bk, .int .u64 bi, .slice bL bc.length bJ] 57 (0, 0)) zx35_1 hb)
          clear hb hbox hg
          refine hK.out _ _ ⟨(blk_cell bo.out 0).trans rfl, (blk_cell bo.out 1).trans rfl, (blk_cell bo.out 2).trans rfl, (blk_cell bp.out 0).trans rfl, (blk_cell bp.out 1).trans rfl, (blk_cell bp.out 2).trans rfl, ((HB.out.cell (World.block_lt_of_cell? w _ b1)).trans b1), ((HB.out.cell (World.block_lt_of_cell? w _ b0)).trans b0), ((HB.out.cell (World.block_lt_of_cell? w _ bZ)).trans bZ), ((HB.out.cell (World.block_lt_of_cell? w _ bY)).trans bY)⟩ (fun hHeld => ?_)
          clear hK K
          refine norm_ (a' := ?_) ?_ ?_
          rotate_left
          ·show Act.put _ (some 11) _ = _
           simp only [Act.put, List.setIfInBounds_toArray, List.set_cons_zero, List.set_cons_succ, i64_w, i32_w]
           rfl
          exact norm_ zx35_10 (o8 (bh) _ ⟨hHeld, zx35_33, zx35_34, zx35_0, zx35_1, zx35_2, da.out, dp.out, bA.out, bO.out, bG.out, bW.out, zx35_6⟩)
         ·skip
          refine box_step ?hg (N := 12) ?hd (cs := #[.int .u64 0, .int .u64 0, .slice none 0 0]) (t := 57) ?hr ?_; (case hd => rfl); (case hg => rfl); (case hr => first | (go_simp; done) | (go_simp; rfl))
          intro bg hg w41 hbox hb
          replace bf := Aside0.mk (Kd.V_below (Kd.V_elderB zx35_8 bg (Nat.le_of_eq hg.symm)) hb)
          replace bm := Aside0.mk (Kd.V_below (Kd.V_elderB zx35_9 bg (Nat.le_of_eq hg.symm)) hb)
          have bI := Aside0.mk (hbox)
          have b9 := Aside0.mk ((by rw [hg]; exact (below_size zx35_5) : w.heap.size ≤ bg))
          have dn := Aside0.mk ((by rw [hg]; exact (below_size zx35_5) : w.heap.size ≤ bg))
          replace HB := Aside0.mk (below_step zx35_5 hb)
          have bz := Aside0.mk ((by rw [hg]; exact Nat.ne_of_lt (blk_lt (g := ba) (o := .cells #[.int .u64 bl, .int .u64 bj, .slice bM bd.length bK] 27 (0, 0)) zx35_0) : ba ≠ bg))
          have bN := Aside0.mk ((by rw [hg]; exact Nat.ne_of_gt (blk_lt (g := ba) (o := .cells #[.int .u64 bl, .int .u64 bj, .slice bM bd.length bK] 27 (0, 0)) zx35_0) : bg ≠ ba))
          replace bo := Aside0.mk (blk_below (g := ba) (o := .cells #[.int .u64 bl, .int .u64 bj, .slice bM bd.length bK] 27 (0, 0)) zx35_0 hb)
          have bE := Aside0.mk ((by rw [hg]; exact Nat.ne_of_lt (blk_lt (g := bb) (o := .cells #[.int .u64 bk, .int .u64 bi, .slice bL bc.length bJ] 57 (0, 0)) zx35_1) : bb ≠ bg))
          have bV := Aside0.mk ((by rw [hg]; exact Nat.ne_of_gt (blk_lt (g := bb) (o := .cells #[.int .u64 bk, .int .u64 bi, .slice bL bc.length bJ] 57 (0, 0)) zx35_1) : bg ≠ bb))
          replace bp := Aside0.mk (blk_below (g := bb) (o := .cells #[.int .u64 bk, .int .u64 bi, .slice bL bc.length bJ] 57 (0, 0)) zx35_1 hb)
          clear hb hbox hg
          refine hK.out _ _ ⟨(blk_cell bo.out 0).trans rfl, (blk_cell bo.out 1).trans rfl, (blk_cell bo.out 2).trans rfl, (blk_cell bp.out 0).trans rfl, (blk_cell bp.out 1).trans rfl, (blk_cell bp.out 2).trans rfl, ((HB.out.cell (World.block_lt_of_cell? w _ b1)).trans b1), ((HB.out.cell (World.block_lt_of_cell? w _ b0)).trans b0), ((HB.out.cell (World.block_lt_of_cell? w _ bZ)).trans bZ), ((HB.out.cell (World.block_lt_of_cell? w _ bY)).trans bY)⟩ (fun hHeld => ?_)
          clear hK K
          refine norm_ (a' := ?_) ?_ ?_
          rotate_left
          ·show Act.put _ (some 12) _ = _
           simp only [Act.put, List.setIfInBounds_toArray, List.set_cons_zero, List.set_cons_succ, i64_w, i32_w]
           rfl
          exact norm_ zx35_10 (o7 (bg) _ ⟨hHeld, zx35_33, zx35_34, zx35_0, zx35_1, zx35_3, b9.out, dn.out, bz.out, bN.out, bE.out, bV.out, zx35_7⟩)
        skip
        rintro bg w42 ⟨hS_, h0_, h1_, h2_, h3_, h4_, h5_, h6_, h7_, h8_, h9_, dQ, dP⟩
        have n0_ : Aside0 (Kd.V k37 37 w42 w.heap.size (fun k_ => k_ ≠ ba ∧ k_ ≠ bb ∧ k_ ≠ bg) (.slice bM bd.length bK) bd) := ⟨h0_⟩
        have n1_ : Aside0 (Kd.V k84 84 w42 w.heap.size (fun k_ => k_ ≠ ba ∧ k_ ≠ bb ∧ k_ ≠ bg) (.slice bL bc.length bJ) bc) := ⟨h1_⟩
        have n2_ : Aside0 (w42.heap[ba]? = some (.cells #[.int .u64 bl, .int .u64 bj, .slice bM bd.length bK] 27 (0, 0))) := ⟨h2_⟩
        have n3_ : Aside0 (w42.heap[bb]? = some (.cells #[.int .u64 bk, .int .u64 bi, .slice bL bc.length bJ] 57 (0, 0))) := ⟨h3_⟩
        have n4_ : Aside0 (w42.heap[bg]? = some (.cells #[.int .u64 0, .int .u64 0, .slice none 0 0] 57 (0, 0))) := ⟨h4_⟩
        have n5_ : Aside0 (w.heap.size ≤ bg) := ⟨h5_⟩
        have n6_ : Aside0 (w.heap.size ≤ bg) := ⟨h6_⟩
        have n7_ : Aside0 (ba ≠ bg) := ⟨h7_⟩
        have n8_ : Aside0 (bg ≠ ba) := ⟨h8_⟩
        have n9_ : Aside0 (bb ≠ bg) := ⟨h9_⟩
        have n10_ : Aside0 (bg ≠ bb) := ⟨dQ⟩
        have n11_ : Aside0 (Below w.heap.size w w42) := ⟨dP⟩
        clear bf
        clear bm
        clear bo
        clear bp
        clear HB
        clear h0_ h1_ h2_ h3_ h4_ h5_ h6_ h7_ h8_ h9_ dQ dP
        have bf := n0_
        have bm := n1_
        have bo := n2_
        have bp := n3_
        have bI := n4_
        have b9 := n5_
        have dn := n6_
        have bz := n7_
        have bN := n8_
        have bE := n9_
        have bV := n10_
        have HB := n11_
        clear n0_ n1_ n2_ n3_ n4_ n5_ n6_ n7_ n8_ n9_ n10_ n11_
        have hHeld : w42.cell? ⟨ba, 0, none⟩ = some (.int .u64 bl) ∧ w42.cell? ⟨ba, 1, none⟩ = some (.int .u64 bj) ∧ w42.cell? ⟨ba, 2, none⟩ = some (.slice bM bd.length bK) ∧ w42.cell? ⟨bb, 0, none⟩ = some (.int .u64 bk) ∧ w42.cell? ⟨bb, 1, none⟩ = some (.int .u64 bi) ∧ w42.cell? ⟨bb, 2, none⟩ = some (.slice bL bc.length bJ) ∧ w42.cell? (bu.add ((be).toNat * 4)) = some (.int .i64 ((rd_T43 l0 be).f0)) ∧ w42.cell? ⟨(bu.add ((be).toNat * 4)).block, (bu.add ((be).toNat * 4)).off + 1, none⟩ = some (.int .i64 ((rd_T43 l0 be).f1)) ∧ w42.cell? ⟨(bu.add ((be).toNat * 4)).block, (bu.add ((be).toNat * 4)).off + 2, none⟩ = some (.int .i64 ((rd_T43 l0 be).f2)) ∧ w42.cell? ⟨(bu.add ((be).toNat * 4)).block, (bu.add ((be).toNat * 4)).off + 3, none⟩ = some (.int .i64 ((rd_T43 l0 be).f3)) := hS_
        refine norm_ (a' := ?_) ?_ ?_
        rotate_left
        ·simp only [putAll, Act.put, List.setIfInBounds_toArray, List.set_cons_zero, List.set_cons_succ]
         rfl
        refine two_ (i := 6) (j := 11) (Ni := some 43) (Nj := some 11) #[Tt,Tt,Tt,Tt,Tt,Tt,Tt,Ff,Ff,Ff,Ff,Ff,Tt,Ff,Ff,Ff] #[Tt,Tt,Tt,Tt,Tt,Tt,Ff,Ff,Ff,Ff,Ff,Tt,Tt,Ff,Ff,Ff] rfl rfl rfl rfl (two_of HT_.out (by kernel_rfl)) (by decide) (by decide) (fun K hK => ?_) (fun K hK => ?_)
        ·skip
         refine goes_ Tryd.func27 (by kernel_rfl) rfl #[.agg #[.int .u64 bl, .int .u64 bj, .slice bM bd.length bK], .agg #[.int .u64 bk, .int .u64 bi, .slice bL bc.length bJ], .agg #[.int .i64 ((rd_T43 l0 be).f0), .int .i64 ((rd_T43 l0 be).f1), .int .i64 ((rd_T43 l0 be).f2), .int .i64 ((rd_T43 l0 be).f3)]] (by rfl) rfl rfl zx35_11 ?_
         with_reducible refine (postroomlaw10_does.calls k1 bl bj (fun k_ => (k_ ≠ ba ∧ (k_ ≠ bb ∧ k_ ≠ bg))) _ _ bd bk bi (fun k_ => (k_ ≠ ba ∧ (k_ ≠ bb ∧ k_ ≠ bg))) _ _ bc ((rd_T43 l0 be).f0) ((rd_T43 l0 be).f1) ((rd_T43 l0 be).f2) ((rd_T43 l0 be).f3) bw bx br bB bD bC true _ ?side1 ?side2 A22.out).mono ?_
         (case side1 => exact bf.out)
         (case side2 => exact bm.out)
         rintro e w43 ⟨dK, dJ, rfl, ho0, ho1, hb⟩
         refine ⟨_, rfl, ?_⟩
         replace bf := Aside0.mk (Kd.V_below zx35_8 hb)
         replace bm := Aside0.mk (Kd.V_below zx35_9 hb)
         have bU := Aside0.mk (Kd.V_lower (Kd.V_mono (ok' := fun k_ => k_ ≠ ba ∧ k_ ≠ bb ∧ k_ ≠ bg) ho0 (fun k_ hk_ => ⟨Or.elim hk_ (fun hs_ => Or.elim hs_ (fun hs_ => hs_.1) (fun hs_ => hs_.1)) (fun hn_ => (Kd.freshB (g := ba) (o := .cells #[.int .u64 bl, .int .u64 bj, .slice bM bd.length bK] 27 (0, 0)) zx35_0 k_ hn_)), Or.elim hk_ (fun hs_ => Or.elim hs_ (fun hs_ => hs_.2.1) (fun hs_ => hs_.2.1)) (fun hn_ => (Kd.freshB (g := bb) (o := .cells #[.int .u64 bk, .int .u64 bi, .slice bL bc.length bJ] 57 (0, 0)) zx35_1 k_ hn_)), Or.elim hk_ (fun hs_ => Or.elim hs_ (fun hs_ => hs_.2.2) (fun hs_ => hs_.2.2)) (fun hn_ => (Kd.freshB (g := bg) (o := .cells #[.int .u64 0, .int .u64 0, .slice none 0 0] 57 (0, 0)) zx35_3 k_ hn_))⟩)) (below_size zx35_7))
         have bX := Aside0.mk (Kd.V_lower (Kd.V_mono (ok' := fun k_ => k_ ≠ ba ∧ k_ ≠ bb ∧ k_ ≠ bg) ho1 (fun k_ hk_ => ⟨Or.elim hk_ (fun hs_ => Or.elim hs_ (fun hs_ => hs_.1) (fun hs_ => hs_.1)) (fun hn_ => (Kd.freshB (g := ba) (o := .cells #[.int .u64 bl, .int .u64 bj, .slice bM bd.length bK] 27 (0, 0)) zx35_0 k_ hn_)), Or.elim hk_ (fun hs_ => Or.elim hs_ (fun hs_ => hs_.2.1) (fun hs_ => hs_.2.1)) (fun hn_ => (Kd.freshB (g := bb) (o := .cells #[.int .u64 bk, .int .u64 bi, .slice bL bc.length bJ] 57 (0, 0)) zx35_1 k_ hn_)), Or.elim hk_ (fun hs_ => Or.elim hs_ (fun hs_ => hs_.2.2) (fun hs_ => hs_.2.2)) (fun hn_ => (Kd.freshB (g := bg) (o := .cells #[.int .u64 0, .int .u64 0, .slice none 0 0] 57 (0, 0)) zx35_3 k_ hn_))⟩)) (below_size zx35_7))
         replace bo := Aside0.mk (blk_below (g := ba) (o := .cells #[.int .u64 bl, .int .u64 bj, .slice bM bd.length bK] 27 (0, 0)) zx35_0 hb)
         replace bp := Aside0.mk (blk_below (g := bb) (o := .cells #[.int .u64 bk, .int .u64 bi, .slice bL bc.length bJ] 57 (0, 0)) zx35_1 hb)
         replace bI := Aside0.mk (blk_below (g := bg) (o := .cells #[.int .u64 0, .int .u64 0, .slice none 0 0] 57 (0, 0)) zx35_3 hb)
         replace HB := Aside0.mk (below_step zx35_7 hb)
         (try clear hb)
         (try clear hb2)
         (try clear hk)
         (try clear hi)
         (try clear ho0)
         (try clear ho1)
         refine hK.out _ _ ⟨(blk_cell bo.out 0).trans rfl, (blk_cell bo.out 1).trans rfl, (blk_cell bo.out 2).trans rfl, (blk_cell bp.out 0).trans rfl, (blk_cell bp.out 1).trans rfl, (blk_cell bp.out 2).trans rfl, ((HB.out.cell (World.block_lt_of_cell? w _ b1)).trans b1), ((HB.out.cell (World.block_lt_of_cell? w _ b0)).trans b0), ((HB.out.cell (World.block_lt_of_cell? w _ bZ)).trans bZ), ((HB.out.cell (World.block_lt_of_cell? w _ bY)).trans bY)⟩ (fun hHeld => ?_)
         clear hK K
         refine norm_ (a' := ?_) ?_ ?_
         rotate_left
         ·show Act.put _ (some 43) _ = _
          simp only [Act.put, List.setIfInBounds_toArray, List.set_cons_zero, List.set_cons_succ, i64_w, i32_w]
          rfl
         refine pp_ 7 (some 36) HT_.out ?_
         refine pp_ 8 (some 44) HT_.out ?_
         refine pp_ 9 (some 45) HT_.out ?_
         refine pp_ 10 (some 46) HT_.out ?_
         exact norm_ zx35_10 (hz (dK, dJ, bg) _ ⟨hHeld, zx35_17, zx35_18, zx35_8, zx35_9, zx35_0, zx35_1, zx35_3, b9.out, dn.out, bz.out, bN.out, bE.out, bV.out, zx35_7⟩)
        ·skip
         refine box_step ?hg (N := 11) ?hd (cs := #[.int .u64 0, .int .u64 0, .slice none 0 0]) (t := 27) ?hr ?_; (case hd => rfl); (case hg => rfl); (case hr => first | (go_simp; done) | (go_simp; rfl))
         intro bh hg w43 hbox hb
         replace bf := Aside0.mk (Kd.V_below (Kd.V_elderB zx35_8 bh (Nat.le_of_eq hg.symm)) hb)
         replace bm := Aside0.mk (Kd.V_below (Kd.V_elderB zx35_9 bh (Nat.le_of_eq hg.symm)) hb)
         have bH := Aside0.mk (hbox)
         have da := Aside0.mk ((by rw [hg]; exact (below_size zx35_7) : w.heap.size ≤ bh))
         have dp := Aside0.mk ((by rw [hg]; exact (below_size zx35_7) : w.heap.size ≤ bh))
         replace HB := Aside0.mk (below_step zx35_7 hb)
         have bA := Aside0.mk ((by rw [hg]; exact Nat.ne_of_lt (blk_lt (g := ba) (o := .cells #[.int .u64 bl, .int .u64 bj, .slice bM bd.length bK] 27 (0, 0)) zx35_0) : ba ≠ bh))
         have bO := Aside0.mk ((by rw [hg]; exact Nat.ne_of_gt (blk_lt (g := ba) (o := .cells #[.int .u64 bl, .int .u64 bj, .slice bM bd.length bK] 27 (0, 0)) zx35_0) : bh ≠ ba))
         replace bo := Aside0.mk (blk_below (g := ba) (o := .cells #[.int .u64 bl, .int .u64 bj, .slice bM bd.length bK] 27 (0, 0)) zx35_0 hb)
         have bG := Aside0.mk ((by rw [hg]; exact Nat.ne_of_lt (blk_lt (g := bb) (o := .cells #[.int .u64 bk, .int .u64 bi, .slice bL bc.length bJ] 57 (0, 0)) zx35_1) : bb ≠ bh))
         have bW := Aside0.mk ((by rw [hg]; exact Nat.ne_of_gt (blk_lt (g := bb) (o := .cells #[.int .u64 bk, .int .u64 bi, .slice bL bc.length bJ] 57 (0, 0)) zx35_1) : bh ≠ bb))
         replace bp := Aside0.mk (blk_below (g := bb) (o := .cells #[.int .u64 bk, .int .u64 bi, .slice bL bc.length bJ] 57 (0, 0)) zx35_1 hb)
         have b2 := Aside0.mk ((by rw [hg]; exact Nat.ne_of_lt (blk_lt (g := bg) (o := .cells #[.int .u64 0, .int .u64 0, .slice none 0 0] 57 (0, 0)) zx35_3) : bg ≠ bh))
         have b3 := Aside0.mk ((by rw [hg]; exact Nat.ne_of_gt (blk_lt (g := bg) (o := .cells #[.int .u64 0, .int .u64 0, .slice none 0 0] 57 (0, 0)) zx35_3) : bh ≠ bg))
         replace bI := Aside0.mk (blk_below (g := bg) (o := .cells #[.int .u64 0, .int .u64 0, .slice none 0 0] 57 (0, 0)) zx35_3 hb)
         clear hb hbox hg
         refine hK.out _ _ ⟨(blk_cell bo.out 0).trans rfl, (blk_cell bo.out 1).trans rfl, (blk_cell bo.out 2).trans rfl, (blk_cell bp.out 0).trans rfl, (blk_cell bp.out 1).trans rfl, (blk_cell bp.out 2).trans rfl, ((HB.out.cell (World.block_lt_of_cell? w _ b1)).trans b1), ((HB.out.cell (World.block_lt_of_cell? w _ b0)).trans b0), ((HB.out.cell (World.block_lt_of_cell? w _ bZ)).trans bZ), ((HB.out.cell (World.block_lt_of_cell? w _ bY)).trans bY)⟩ (fun hHeld => ?_)
         clear hK K
         refine norm_ (a' := ?_) ?_ ?_
         rotate_left
         ·show Act.put _ (some 11) _ = _
          simp only [Act.put, List.setIfInBounds_toArray, List.set_cons_zero, List.set_cons_succ, i64_w, i32_w]
          rfl
         exact norm_ zx35_10 (hm (bh, bg) _ ⟨hHeld, (by (with_reducible repeat (first | apply Kd.V_alloc | apply Kd.V_drewN | apply Kd.V_drew)); exact Kd.V_mono bf.out (fun _ hk => ⟨hk.1.1, ⟨hk.1.2.1, ⟨hk.2, hk.1.2.2⟩⟩⟩)), (by (with_reducible repeat (first | apply Kd.V_alloc | apply Kd.V_drewN | apply Kd.V_drew)); exact Kd.V_mono bm.out (fun _ hk => ⟨hk.1.1, ⟨hk.1.2.1, ⟨hk.2, hk.1.2.2⟩⟩⟩)), zx35_0, zx35_1, zx35_2, zx35_3, da.out, dp.out, bA.out, bO.out, bG.out, bW.out, b2.out, b3.out, b9.out, dn.out, bz.out, bN.out, bE.out, bV.out, zx35_36⟩)
       ·skip
        rintro bh w42 ⟨hS_, h0_, h1_, h2_, h3_, h4_, h5_, h6_, h7_, h8_, h9_, dQ, dP⟩
        have n0_ : Aside0 (Kd.V k37 37 w42 w.heap.size (fun k_ => k_ ≠ ba ∧ k_ ≠ bb ∧ k_ ≠ bh) (.slice bM bd.length bK) bd) := ⟨h0_⟩
        have n1_ : Aside0 (Kd.V k84 84 w42 w.heap.size (fun k_ => k_ ≠ ba ∧ k_ ≠ bb ∧ k_ ≠ bh) (.slice bL bc.length bJ) bc) := ⟨h1_⟩
        have n2_ : Aside0 (w42.heap[ba]? = some (.cells #[.int .u64 bl, .int .u64 bj, .slice bM bd.length bK] 27 (0, 0))) := ⟨h2_⟩
        have n3_ : Aside0 (w42.heap[bb]? = some (.cells #[.int .u64 bk, .int .u64 bi, .slice bL bc.length bJ] 57 (0, 0))) := ⟨h3_⟩
        have n4_ : Aside0 (w42.heap[bh]? = some (.cells #[.int .u64 0, .int .u64 0, .slice none 0 0] 27 (0, 0))) := ⟨h4_⟩
        have n5_ : Aside0 (w.heap.size ≤ bh) := ⟨h5_⟩
        have n6_ : Aside0 (w.heap.size ≤ bh) := ⟨h6_⟩
        have n7_ : Aside0 (ba ≠ bh) := ⟨h7_⟩
        have n8_ : Aside0 (bh ≠ ba) := ⟨h8_⟩
        have n9_ : Aside0 (bb ≠ bh) := ⟨h9_⟩
        have n10_ : Aside0 (bh ≠ bb) := ⟨dQ⟩
        have n11_ : Aside0 (Below w.heap.size w w42) := ⟨dP⟩
        clear bf
        clear bm
        clear bo
        clear bp
        clear HB
        clear h0_ h1_ h2_ h3_ h4_ h5_ h6_ h7_ h8_ h9_ dQ dP
        have bf := n0_
        have bm := n1_
        have bo := n2_
        have bp := n3_
        have bH := n4_
        have da := n5_
        have dp := n6_
        have bA := n7_
        have bO := n8_
        have bG := n9_
        have bW := n10_
        have HB := n11_
        clear n0_ n1_ n2_ n3_ n4_ n5_ n6_ n7_ n8_ n9_ n10_ n11_
        have hHeld : w42.cell? ⟨ba, 0, none⟩ = some (.int .u64 bl) ∧ w42.cell? ⟨ba, 1, none⟩ = some (.int .u64 bj) ∧ w42.cell? ⟨ba, 2, none⟩ = some (.slice bM bd.length bK) ∧ w42.cell? ⟨bb, 0, none⟩ = some (.int .u64 bk) ∧ w42.cell? ⟨bb, 1, none⟩ = some (.int .u64 bi) ∧ w42.cell? ⟨bb, 2, none⟩ = some (.slice bL bc.length bJ) ∧ w42.cell? (bu.add ((be).toNat * 4)) = some (.int .i64 ((rd_T43 l0 be).f0)) ∧ w42.cell? ⟨(bu.add ((be).toNat * 4)).block, (bu.add ((be).toNat * 4)).off + 1, none⟩ = some (.int .i64 ((rd_T43 l0 be).f1)) ∧ w42.cell? ⟨(bu.add ((be).toNat * 4)).block, (bu.add ((be).toNat * 4)).off + 2, none⟩ = some (.int .i64 ((rd_T43 l0 be).f2)) ∧ w42.cell? ⟨(bu.add ((be).toNat * 4)).block, (bu.add ((be).toNat * 4)).off + 3, none⟩ = some (.int .i64 ((rd_T43 l0 be).f3)) := hS_
        refine norm_ (a' := ?_) ?_ ?_
        rotate_left
        ·simp only [putAll, Act.put, List.setIfInBounds_toArray, List.set_cons_zero, List.set_cons_succ]
         rfl
        refine two_ (i := 6) (j := 12) (Ni := some 43) (Nj := some 12) #[Tt,Tt,Tt,Tt,Tt,Tt,Tt,Ff,Ff,Ff,Ff,Tt,Ff,Ff,Ff,Ff] #[Tt,Tt,Tt,Tt,Tt,Tt,Ff,Ff,Ff,Ff,Ff,Tt,Tt,Ff,Ff,Ff] rfl rfl rfl rfl (two_of HT_.out (by kernel_rfl)) (by decide) (by decide) (fun K hK => ?_) (fun K hK => ?_)
        ·skip
         refine goes_ Tryd.func27 (by kernel_rfl) rfl #[.agg #[.int .u64 bl, .int .u64 bj, .slice bM bd.length bK], .agg #[.int .u64 bk, .int .u64 bi, .slice bL bc.length bJ], .agg #[.int .i64 ((rd_T43 l0 be).f0), .int .i64 ((rd_T43 l0 be).f1), .int .i64 ((rd_T43 l0 be).f2), .int .i64 ((rd_T43 l0 be).f3)]] (by rfl) rfl rfl zx35_11 ?_
         with_reducible refine (postroomlaw10_does.calls k1 bl bj (fun k_ => (k_ ≠ ba ∧ (k_ ≠ bb ∧ k_ ≠ bh))) _ _ bd bk bi (fun k_ => (k_ ≠ ba ∧ (k_ ≠ bb ∧ k_ ≠ bh))) _ _ bc ((rd_T43 l0 be).f0) ((rd_T43 l0 be).f1) ((rd_T43 l0 be).f2) ((rd_T43 l0 be).f3) bw bx br bB bD bC true _ ?side1 ?side2 A22.out).mono ?_
         (case side1 => exact bf.out)
         (case side2 => exact bm.out)
         rintro e w43 ⟨dK, dJ, rfl, ho0, ho1, hb⟩
         refine ⟨_, rfl, ?_⟩
         replace bf := Aside0.mk (Kd.V_below zx35_8 hb)
         replace bm := Aside0.mk (Kd.V_below zx35_9 hb)
         have bU := Aside0.mk (Kd.V_lower (Kd.V_mono (ok' := fun k_ => k_ ≠ ba ∧ k_ ≠ bb ∧ k_ ≠ bh) ho0 (fun k_ hk_ => ⟨Or.elim hk_ (fun hs_ => Or.elim hs_ (fun hs_ => hs_.1) (fun hs_ => hs_.1)) (fun hn_ => (Kd.freshB (g := ba) (o := .cells #[.int .u64 bl, .int .u64 bj, .slice bM bd.length bK] 27 (0, 0)) zx35_0 k_ hn_)), Or.elim hk_ (fun hs_ => Or.elim hs_ (fun hs_ => hs_.2.1) (fun hs_ => hs_.2.1)) (fun hn_ => (Kd.freshB (g := bb) (o := .cells #[.int .u64 bk, .int .u64 bi, .slice bL bc.length bJ] 57 (0, 0)) zx35_1 k_ hn_)), Or.elim hk_ (fun hs_ => Or.elim hs_ (fun hs_ => hs_.2.2) (fun hs_ => hs_.2.2)) (fun hn_ => (Kd.freshB (g := bh) (o := .cells #[.int .u64 0, .int .u64 0, .slice none 0 0] 27 (0, 0)) zx35_2 k_ hn_))⟩)) (below_size zx35_6))
         have bX := Aside0.mk (Kd.V_lower (Kd.V_mono (ok' := fun k_ => k_ ≠ ba ∧ k_ ≠ bb ∧ k_ ≠ bh) ho1 (fun k_ hk_ => ⟨Or.elim hk_ (fun hs_ => Or.elim hs_ (fun hs_ => hs_.1) (fun hs_ => hs_.1)) (fun hn_ => (Kd.freshB (g := ba) (o := .cells #[.int .u64 bl, .int .u64 bj, .slice bM bd.length bK] 27 (0, 0)) zx35_0 k_ hn_)), Or.elim hk_ (fun hs_ => Or.elim hs_ (fun hs_ => hs_.2.1) (fun hs_ => hs_.2.1)) (fun hn_ => (Kd.freshB (g := bb) (o := .cells #[.int .u64 bk, .int .u64 bi, .slice bL bc.length bJ] 57 (0, 0)) zx35_1 k_ hn_)), Or.elim hk_ (fun hs_ => Or.elim hs_ (fun hs_ => hs_.2.2) (fun hs_ => hs_.2.2)) (fun hn_ => (Kd.freshB (g := bh) (o := .cells #[.int .u64 0, .int .u64 0, .slice none 0 0] 27 (0, 0)) zx35_2 k_ hn_))⟩)) (below_size zx35_6))
         replace bo := Aside0.mk (blk_below (g := ba) (o := .cells #[.int .u64 bl, .int .u64 bj, .slice bM bd.length bK] 27 (0, 0)) zx35_0 hb)
         replace bp := Aside0.mk (blk_below (g := bb) (o := .cells #[.int .u64 bk, .int .u64 bi, .slice bL bc.length bJ] 57 (0, 0)) zx35_1 hb)
         replace bH := Aside0.mk (blk_below (g := bh) (o := .cells #[.int .u64 0, .int .u64 0, .slice none 0 0] 27 (0, 0)) zx35_2 hb)
         replace HB := Aside0.mk (below_step zx35_6 hb)
         (try clear hb)
         (try clear hb2)
         (try clear hk)
         (try clear hi)
         (try clear ho0)
         (try clear ho1)
         refine hK.out _ _ ⟨(blk_cell bo.out 0).trans rfl, (blk_cell bo.out 1).trans rfl, (blk_cell bo.out 2).trans rfl, (blk_cell bp.out 0).trans rfl, (blk_cell bp.out 1).trans rfl, (blk_cell bp.out 2).trans rfl, ((HB.out.cell (World.block_lt_of_cell? w _ b1)).trans b1), ((HB.out.cell (World.block_lt_of_cell? w _ b0)).trans b0), ((HB.out.cell (World.block_lt_of_cell? w _ bZ)).trans bZ), ((HB.out.cell (World.block_lt_of_cell? w _ bY)).trans bY)⟩ (fun hHeld => ?_)
         clear hK K
         refine norm_ (a' := ?_) ?_ ?_
         rotate_left
         ·show Act.put _ (some 43) _ = _
          simp only [Act.put, List.setIfInBounds_toArray, List.set_cons_zero, List.set_cons_succ, i64_w, i32_w]
          rfl
         refine pp_ 7 (some 36) HT_.out ?_
         refine pp_ 8 (some 44) HT_.out ?_
         refine pp_ 9 (some 45) HT_.out ?_
         refine pp_ 10 (some 46) HT_.out ?_
         exact norm_ zx35_10 (hA (dK, dJ, bh) _ ⟨hHeld, zx35_17, zx35_18, zx35_8, zx35_9, zx35_0, zx35_1, zx35_2, da.out, dp.out, bA.out, bO.out, bG.out, bW.out, zx35_6⟩)
        ·skip
         refine box_step ?hg (N := 12) ?hd (cs := #[.int .u64 0, .int .u64 0, .slice none 0 0]) (t := 57) ?hr ?_; (case hd => rfl); (case hg => rfl); (case hr => first | (go_simp; done) | (go_simp; rfl))
         intro bg hg w43 hbox hb
         replace bf := Aside0.mk (Kd.V_below (Kd.V_elderB zx35_8 bg (Nat.le_of_eq hg.symm)) hb)
         replace bm := Aside0.mk (Kd.V_below (Kd.V_elderB zx35_9 bg (Nat.le_of_eq hg.symm)) hb)
         have bI := Aside0.mk (hbox)
         have b9 := Aside0.mk ((by rw [hg]; exact (below_size zx35_6) : w.heap.size ≤ bg))
         have dn := Aside0.mk ((by rw [hg]; exact (below_size zx35_6) : w.heap.size ≤ bg))
         replace HB := Aside0.mk (below_step zx35_6 hb)
         have bz := Aside0.mk ((by rw [hg]; exact Nat.ne_of_lt (blk_lt (g := ba) (o := .cells #[.int .u64 bl, .int .u64 bj, .slice bM bd.length bK] 27 (0, 0)) zx35_0) : ba ≠ bg))
         have bN := Aside0.mk ((by rw [hg]; exact Nat.ne_of_gt (blk_lt (g := ba) (o := .cells #[.int .u64 bl, .int .u64 bj, .slice bM bd.length bK] 27 (0, 0)) zx35_0) : bg ≠ ba))
         replace bo := Aside0.mk (blk_below (g := ba) (o := .cells #[.int .u64 bl, .int .u64 bj, .slice bM bd.length bK] 27 (0, 0)) zx35_0 hb)
         have bE := Aside0.mk ((by rw [hg]; exact Nat.ne_of_lt (blk_lt (g := bb) (o := .cells #[.int .u64 bk, .int .u64 bi, .slice bL bc.length bJ] 57 (0, 0)) zx35_1) : bb ≠ bg))
         have bV := Aside0.mk ((by rw [hg]; exact Nat.ne_of_gt (blk_lt (g := bb) (o := .cells #[.int .u64 bk, .int .u64 bi, .slice bL bc.length bJ] 57 (0, 0)) zx35_1) : bg ≠ bb))
         replace bp := Aside0.mk (blk_below (g := bb) (o := .cells #[.int .u64 bk, .int .u64 bi, .slice bL bc.length bJ] 57 (0, 0)) zx35_1 hb)
         have b3 := Aside0.mk ((by rw [hg]; exact Nat.ne_of_lt (blk_lt (g := bh) (o := .cells #[.int .u64 0, .int .u64 0, .slice none 0 0] 27 (0, 0)) zx35_2) : bh ≠ bg))
         have b2 := Aside0.mk ((by rw [hg]; exact Nat.ne_of_gt (blk_lt (g := bh) (o := .cells #[.int .u64 0, .int .u64 0, .slice none 0 0] 27 (0, 0)) zx35_2) : bg ≠ bh))
         replace bH := Aside0.mk (blk_below (g := bh) (o := .cells #[.int .u64 0, .int .u64 0, .slice none 0 0] 27 (0, 0)) zx35_2 hb)
         clear hb hbox hg
         refine hK.out _ _ ⟨(blk_cell bo.out 0).trans rfl, (blk_cell bo.out 1).trans rfl, (blk_cell bo.out 2).trans rfl, (blk_cell bp.out 0).trans rfl, (blk_cell bp.out 1).trans rfl, (blk_cell bp.out 2).trans rfl, ((HB.out.cell (World.block_lt_of_cell? w _ b1)).trans b1), ((HB.out.cell (World.block_lt_of_cell? w _ b0)).trans b0), ((HB.out.cell (World.block_lt_of_cell? w _ bZ)).trans bZ), ((HB.out.cell (World.block_lt_of_cell? w _ bY)).trans bY)⟩ (fun hHeld => ?_)
         clear hK K
         refine norm_ (a' := ?_) ?_ ?_
         rotate_left
         ·show Act.put _ (some 12) _ = _
          simp only [Act.put, List.setIfInBounds_toArray, List.set_cons_zero, List.set_cons_succ, i64_w, i32_w]
          rfl
         exact norm_ zx35_10 (hm (bh, bg) _ ⟨hHeld, (by (with_reducible repeat (first | apply Kd.V_alloc | apply Kd.V_drewN | apply Kd.V_drew)); exact Kd.V_mono bf.out (fun _ hk => ⟨hk.1.1, ⟨hk.1.2.1, ⟨hk.1.2.2, hk.2⟩⟩⟩)), (by (with_reducible repeat (first | apply Kd.V_alloc | apply Kd.V_drewN | apply Kd.V_drew)); exact Kd.V_mono bm.out (fun _ hk => ⟨hk.1.1, ⟨hk.1.2.1, ⟨hk.1.2.2, hk.2⟩⟩⟩)), zx35_0, zx35_1, zx35_2, zx35_3, da.out, dp.out, bA.out, bO.out, bG.out, bW.out, b2.out, b3.out, b9.out, dn.out, bz.out, bN.out, bE.out, bV.out, zx35_4⟩)
      ·skip
       rintro ⟨dK, dJ⟩ w42 ⟨hS_, h0_, h1_, h2_, h3_, h4_, h5_, h6_⟩
       have n0_ : Aside0 (Kd.V k37 37 w42 w.heap.size (fun k_ => k_ ≠ ba ∧ k_ ≠ bb) dK br) := ⟨h0_⟩
       have n1_ : Aside0 (Kd.V k84 84 w42 w.heap.size (fun k_ => k_ ≠ ba ∧ k_ ≠ bb) dJ bC) := ⟨h1_⟩
       have n2_ : Aside0 (Kd.V k37 37 w42 w.heap.size (fun k_ => k_ ≠ ba ∧ k_ ≠ bb) (.slice bM bd.length bK) bd) := ⟨h2_⟩
       have n3_ : Aside0 (Kd.V k84 84 w42 w.heap.size (fun k_ => k_ ≠ ba ∧ k_ ≠ bb) (.slice bL bc.length bJ) bc) := ⟨h3_⟩
       have n4_ : Aside0 (w42.heap[ba]? = some (.cells #[.int .u64 bl, .int .u64 bj, .slice bM bd.length bK] 27 (0, 0))) := ⟨h4_⟩
       have n5_ : Aside0 (w42.heap[bb]? = some (.cells #[.int .u64 bk, .int .u64 bi, .slice bL bc.length bJ] 57 (0, 0))) := ⟨h5_⟩
       have n6_ : Aside0 (Below w.heap.size w w42) := ⟨h6_⟩
       clear bf
       clear bm
       clear bo
       clear bp
       clear HB
       clear h0_ h1_ h2_ h3_ h4_ h5_ h6_
       have bU := n0_
       have bX := n1_
       have bf := n2_
       have bm := n3_
       have bo := n4_
       have bp := n5_
       have HB := n6_
       clear n0_ n1_ n2_ n3_ n4_ n5_ n6_
       have hHeld : w42.cell? ⟨ba, 0, none⟩ = some (.int .u64 bl) ∧ w42.cell? ⟨ba, 1, none⟩ = some (.int .u64 bj) ∧ w42.cell? ⟨ba, 2, none⟩ = some (.slice bM bd.length bK) ∧ w42.cell? ⟨bb, 0, none⟩ = some (.int .u64 bk) ∧ w42.cell? ⟨bb, 1, none⟩ = some (.int .u64 bi) ∧ w42.cell? ⟨bb, 2, none⟩ = some (.slice bL bc.length bJ) ∧ w42.cell? (bu.add ((be).toNat * 4)) = some (.int .i64 ((rd_T43 l0 be).f0)) ∧ w42.cell? ⟨(bu.add ((be).toNat * 4)).block, (bu.add ((be).toNat * 4)).off + 1, none⟩ = some (.int .i64 ((rd_T43 l0 be).f1)) ∧ w42.cell? ⟨(bu.add ((be).toNat * 4)).block, (bu.add ((be).toNat * 4)).off + 2, none⟩ = some (.int .i64 ((rd_T43 l0 be).f2)) ∧ w42.cell? ⟨(bu.add ((be).toNat * 4)).block, (bu.add ((be).toNat * 4)).off + 3, none⟩ = some (.int .i64 ((rd_T43 l0 be).f3)) := hS_
       refine norm_ (a' := ?_) ?_ ?_
       rotate_left
       ·simp only [putAll, Act.put, List.setIfInBounds_toArray, List.set_cons_zero, List.set_cons_succ]
        rfl
       refine two_ (i := 11) (j := 12) (Ni := some 11) (Nj := some 12) #[Tt,Tt,Tt,Tt,Tt,Tt,Tt,Tt,Tt,Tt,Tt,Tt,Ff,Ff,Ff,Ff] #[Tt,Tt,Tt,Tt,Tt,Tt,Tt,Tt,Tt,Tt,Tt,Ff,Tt,Ff,Ff,Ff] rfl rfl rfl rfl (two_of HT_.out (by kernel_rfl)) (by decide) (by decide) (fun K hK => ?_) (fun K hK => ?_)
       ·skip
        refine box_step ?hg (N := 11) ?hd (cs := #[.int .u64 0, .int .u64 0, .slice none 0 0]) (t := 27) ?hr ?_; (case hd => rfl); (case hg => rfl); (case hr => first | (go_simp; done) | (go_simp; rfl))
        intro bh hg w43 hbox hb
        replace bf := Aside0.mk (Kd.V_below (Kd.V_elderB zx35_8 bh (Nat.le_of_eq hg.symm)) hb)
        replace bm := Aside0.mk (Kd.V_below (Kd.V_elderB zx35_9 bh (Nat.le_of_eq hg.symm)) hb)
        replace bU := Aside0.mk (Kd.V_below (Kd.V_elderB zx35_17 bh (Nat.le_of_eq hg.symm)) hb)
        replace bX := Aside0.mk (Kd.V_below (Kd.V_elderB zx35_18 bh (Nat.le_of_eq hg.symm)) hb)
        have bH := Aside0.mk (hbox)
        have da := Aside0.mk ((by rw [hg]; exact (below_size zx35_5) : w.heap.size ≤ bh))
        have dp := Aside0.mk ((by rw [hg]; exact (below_size zx35_5) : w.heap.size ≤ bh))
        replace HB := Aside0.mk (below_step zx35_5 hb)
        have bA := Aside0.mk ((by rw [hg]; exact Nat.ne_of_lt (blk_lt (g := ba) (o := .cells #[.int .u64 bl, .int .u64 bj, .slice bM bd.length bK] 27 (0, 0)) zx35_0) : ba ≠ bh))
        have bO := Aside0.mk ((by rw [hg]; exact Nat.ne_of_gt (blk_lt (g := ba) (o := .cells #[.int .u64 bl, .int .u64 bj, .slice bM bd.length bK] 27 (0, 0)) zx35_0) : bh ≠ ba))
        replace bo := Aside0.mk (blk_below (g := ba) (o := .cells #[.int .u64 bl, .int .u64 bj, .slice bM bd.length bK] 27 (0, 0)) zx35_0 hb)
        have bG := Aside0.mk ((by rw [hg]; exact Nat.ne_of_lt (blk_lt (g := bb) (o := .cells #[.int .u64 bk, .int .u64 bi, .slice bL bc.length bJ] 57 (0, 0)) zx35_1) : bb ≠ bh))
        have bW := Aside0.mk ((by rw [hg]; exact Nat.ne_of_gt (blk_lt (g := bb) (o := .cells #[.int .u64 bk, .int .u64 bi, .slice bL bc.length bJ] 57 (0, 0)) zx35_1) : bh ≠ bb))
        replace bp := Aside0.mk (blk_below (g := bb) (o := .cells #[.int .u64 bk, .int .u64 bi, .slice bL bc.length bJ] 57 (0, 0)) zx35_1 hb)
        clear hb hbox hg
        refine hK.out _ _ ⟨(blk_cell bo.out 0).trans rfl, (blk_cell bo.out 1).trans rfl, (blk_cell bo.out 2).trans rfl, (blk_cell bp.out 0).trans rfl, (blk_cell bp.out 1).trans rfl, (blk_cell bp.out 2).trans rfl, ((HB.out.cell (World.block_lt_of_cell? w _ b1)).trans b1), ((HB.out.cell (World.block_lt_of_cell? w _ b0)).trans b0), ((HB.out.cell (World.block_lt_of_cell? w _ bZ)).trans bZ), ((HB.out.cell (World.block_lt_of_cell? w _ bY)).trans bY)⟩ (fun hHeld => ?_)
        clear hK K
        refine norm_ (a' := ?_) ?_ ?_
        rotate_left
        ·show Act.put _ (some 11) _ = _
         simp only [Act.put, List.setIfInBounds_toArray, List.set_cons_zero, List.set_cons_succ, i64_w, i32_w]
         rfl
        exact norm_ zx35_10 (hA (dK, dJ, bh) _ ⟨hHeld, (by (with_reducible repeat (first | apply Kd.V_alloc | apply Kd.V_drewN | apply Kd.V_drew)); exact Kd.V_mono bU.out (fun _ hk => ⟨hk.1.1, ⟨hk.1.2, hk.2⟩⟩)), (by (with_reducible repeat (first | apply Kd.V_alloc | apply Kd.V_drewN | apply Kd.V_drew)); exact Kd.V_mono bX.out (fun _ hk => ⟨hk.1.1, ⟨hk.1.2, hk.2⟩⟩)), zx35_33, zx35_34, zx35_0, zx35_1, zx35_2, da.out, dp.out, bA.out, bO.out, bG.out, bW.out, zx35_6⟩)
       ·skip
        refine box_step ?hg (N := 12) ?hd (cs := #[.int .u64 0, .int .u64 0, .slice none 0 0]) (t := 57) ?hr ?_; (case hd => rfl); (case hg => rfl); (case hr => first | (go_simp; done) | (go_simp; rfl))
        intro bg hg w43 hbox hb
        replace bf := Aside0.mk (Kd.V_below (Kd.V_elderB zx35_8 bg (Nat.le_of_eq hg.symm)) hb)
        replace bm := Aside0.mk (Kd.V_below (Kd.V_elderB zx35_9 bg (Nat.le_of_eq hg.symm)) hb)
        replace bU := Aside0.mk (Kd.V_below (Kd.V_elderB zx35_17 bg (Nat.le_of_eq hg.symm)) hb)
        replace bX := Aside0.mk (Kd.V_below (Kd.V_elderB zx35_18 bg (Nat.le_of_eq hg.symm)) hb)
        have bI := Aside0.mk (hbox)
        have b9 := Aside0.mk ((by rw [hg]; exact (below_size zx35_5) : w.heap.size ≤ bg))
        have dn := Aside0.mk ((by rw [hg]; exact (below_size zx35_5) : w.heap.size ≤ bg))
        replace HB := Aside0.mk (below_step zx35_5 hb)
        have bz := Aside0.mk ((by rw [hg]; exact Nat.ne_of_lt (blk_lt (g := ba) (o := .cells #[.int .u64 bl, .int .u64 bj, .slice bM bd.length bK] 27 (0, 0)) zx35_0) : ba ≠ bg))
        have bN := Aside0.mk ((by rw [hg]; exact Nat.ne_of_gt (blk_lt (g := ba) (o := .cells #[.int .u64 bl, .int .u64 bj, .slice bM bd.length bK] 27 (0, 0)) zx35_0) : bg ≠ ba))
        replace bo := Aside0.mk (blk_below (g := ba) (o := .cells #[.int .u64 bl, .int .u64 bj, .slice bM bd.length bK] 27 (0, 0)) zx35_0 hb)
        have bE := Aside0.mk ((by rw [hg]; exact Nat.ne_of_lt (blk_lt (g := bb) (o := .cells #[.int .u64 bk, .int .u64 bi, .slice bL bc.length bJ] 57 (0, 0)) zx35_1) : bb ≠ bg))
        have bV := Aside0.mk ((by rw [hg]; exact Nat.ne_of_gt (blk_lt (g := bb) (o := .cells #[.int .u64 bk, .int .u64 bi, .slice bL bc.length bJ] 57 (0, 0)) zx35_1) : bg ≠ bb))
        replace bp := Aside0.mk (blk_below (g := bb) (o := .cells #[.int .u64 bk, .int .u64 bi, .slice bL bc.length bJ] 57 (0, 0)) zx35_1 hb)
        clear hb hbox hg
        refine hK.out _ _ ⟨(blk_cell bo.out 0).trans rfl, (blk_cell bo.out 1).trans rfl, (blk_cell bo.out 2).trans rfl, (blk_cell bp.out 0).trans rfl, (blk_cell bp.out 1).trans rfl, (blk_cell bp.out 2).trans rfl, ((HB.out.cell (World.block_lt_of_cell? w _ b1)).trans b1), ((HB.out.cell (World.block_lt_of_cell? w _ b0)).trans b0), ((HB.out.cell (World.block_lt_of_cell? w _ bZ)).trans bZ), ((HB.out.cell (World.block_lt_of_cell? w _ bY)).trans bY)⟩ (fun hHeld => ?_)
        clear hK K
        refine norm_ (a' := ?_) ?_ ?_
        rotate_left
        ·show Act.put _ (some 12) _ = _
         simp only [Act.put, List.setIfInBounds_toArray, List.set_cons_zero, List.set_cons_succ, i64_w, i32_w]
         rfl
        exact norm_ zx35_10 (hz (dK, dJ, bg) _ ⟨hHeld, (by (with_reducible repeat (first | apply Kd.V_alloc | apply Kd.V_drewN | apply Kd.V_drew)); exact Kd.V_mono bU.out (fun _ hk => ⟨hk.1.1, ⟨hk.1.2, hk.2⟩⟩)), (by (with_reducible repeat (first | apply Kd.V_alloc | apply Kd.V_drewN | apply Kd.V_drew)); exact Kd.V_mono bX.out (fun _ hk => ⟨hk.1.1, ⟨hk.1.2, hk.2⟩⟩)), zx35_33, zx35_34, zx35_0, zx35_1, zx35_3, b9.out, dn.out, bz.out, bN.out, bE.out, bV.out, zx35_7⟩)
     ·skip
      rintro ⟨bh, bg⟩ w43 ⟨hS_, h0_, h1_, h2_, h3_, h4_, h5_, h6_, h7_, h8_, h9_, dQ, dP, gn, gm, hH, hG, hF, hE, hD, hC, hB⟩
      have n0_ : Aside0 (Kd.V k37 37 w43 w.heap.size (fun k_ => k_ ≠ ba ∧ k_ ≠ bb ∧ k_ ≠ bh ∧ k_ ≠ bg) (.slice bM bd.length bK) bd) := ⟨h0_⟩
      have n1_ : Aside0 (Kd.V k84 84 w43 w.heap.size (fun k_ => k_ ≠ ba ∧ k_ ≠ bb ∧ k_ ≠ bh ∧ k_ ≠ bg) (.slice bL bc.length bJ) bc) := ⟨h1_⟩
      have n2_ : Aside0 (w43.heap[ba]? = some (.cells #[.int .u64 bl, .int .u64 bj, .slice bM bd.length bK] 27 (0, 0))) := ⟨h2_⟩
      have n3_ : Aside0 (w43.heap[bb]? = some (.cells #[.int .u64 bk, .int .u64 bi, .slice bL bc.length bJ] 57 (0, 0))) := ⟨h3_⟩
      have n4_ : Aside0 (w43.heap[bh]? = some (.cells #[.int .u64 0, .int .u64 0, .slice none 0 0] 27 (0, 0))) := ⟨h4_⟩
      have n5_ : Aside0 (w43.heap[bg]? = some (.cells #[.int .u64 0, .int .u64 0, .slice none 0 0] 57 (0, 0))) := ⟨h5_⟩
      have n6_ : Aside0 (w.heap.size ≤ bh) := ⟨h6_⟩
      have n7_ : Aside0 (w.heap.size ≤ bh) := ⟨h7_⟩
      have n8_ : Aside0 (ba ≠ bh) := ⟨h8_⟩
      have n9_ : Aside0 (bh ≠ ba) := ⟨h9_⟩
      have n10_ : Aside0 (bb ≠ bh) := ⟨dQ⟩
      have n11_ : Aside0 (bh ≠ bb) := ⟨dP⟩
      have n12_ : Aside0 (bg ≠ bh) := ⟨gn⟩
      have n13_ : Aside0 (bh ≠ bg) := ⟨gm⟩
      have n14_ : Aside0 (w.heap.size ≤ bg) := ⟨hH⟩
      have n15_ : Aside0 (w.heap.size ≤ bg) := ⟨hG⟩
      have n16_ : Aside0 (ba ≠ bg) := ⟨hF⟩
      have n17_ : Aside0 (bg ≠ ba) := ⟨hE⟩
      have n18_ : Aside0 (bb ≠ bg) := ⟨hD⟩
      have n19_ : Aside0 (bg ≠ bb) := ⟨hC⟩
      have n20_ : Aside0 (Below w.heap.size w w43) := ⟨hB⟩
      clear bf
      clear bm
      clear bo
      clear bp
      clear HB
      clear h0_ h1_ h2_ h3_ h4_ h5_ h6_ h7_ h8_ h9_ dQ dP gn gm hH hG hF hE hD hC hB
      have bf := n0_
      have bm := n1_
      have bo := n2_
      have bp := n3_
      have bH := n4_
      have bI := n5_
      have da := n6_
      have dp := n7_
      have bA := n8_
      have bO := n9_
      have bG := n10_
      have bW := n11_
      have b2 := n12_
      have b3 := n13_
      have b9 := n14_
      have dn := n15_
      have bz := n16_
      have bN := n17_
      have bE := n18_
      have bV := n19_
      have HB := n20_
      clear n0_ n1_ n2_ n3_ n4_ n5_ n6_ n7_ n8_ n9_ n10_ n11_ n12_ n13_ n14_ n15_ n16_ n17_ n18_ n19_ n20_
      have hHeld : w43.cell? ⟨ba, 0, none⟩ = some (.int .u64 bl) ∧ w43.cell? ⟨ba, 1, none⟩ = some (.int .u64 bj) ∧ w43.cell? ⟨ba, 2, none⟩ = some (.slice bM bd.length bK) ∧ w43.cell? ⟨bb, 0, none⟩ = some (.int .u64 bk) ∧ w43.cell? ⟨bb, 1, none⟩ = some (.int .u64 bi) ∧ w43.cell? ⟨bb, 2, none⟩ = some (.slice bL bc.length bJ) ∧ w43.cell? (bu.add ((be).toNat * 4)) = some (.int .i64 ((rd_T43 l0 be).f0)) ∧ w43.cell? ⟨(bu.add ((be).toNat * 4)).block, (bu.add ((be).toNat * 4)).off + 1, none⟩ = some (.int .i64 ((rd_T43 l0 be).f1)) ∧ w43.cell? ⟨(bu.add ((be).toNat * 4)).block, (bu.add ((be).toNat * 4)).off + 2, none⟩ = some (.int .i64 ((rd_T43 l0 be).f2)) ∧ w43.cell? ⟨(bu.add ((be).toNat * 4)).block, (bu.add ((be).toNat * 4)).off + 3, none⟩ = some (.int .i64 ((rd_T43 l0 be).f3)) := hS_
      refine norm_ (a' := ?_) ?_ ?_
      rotate_left
      ·simp only [putAll, Act.put, List.setIfInBounds_toArray, List.set_cons_zero, List.set_cons_succ]
       rfl
      refine one_ (i := 6) (N := some 43) #[Tt,Tt,Tt,Tt,Tt,Tt,Tt,Ff,Ff,Ff,Ff,Tt,Tt,Ff,Ff,Ff] rfl rfl (one_of HT_.out (by kernel_rfl)) (by decide) (fun K hK => ?_)
      refine goes_ Tryd.func27 (by kernel_rfl) rfl #[.agg #[.int .u64 bl, .int .u64 bj, .slice bM bd.length bK], .agg #[.int .u64 bk, .int .u64 bi, .slice bL bc.length bJ], .agg #[.int .i64 ((rd_T43 l0 be).f0), .int .i64 ((rd_T43 l0 be).f1), .int .i64 ((rd_T43 l0 be).f2), .int .i64 ((rd_T43 l0 be).f3)]] (by rfl) rfl rfl zx35_11 ?_
      with_reducible refine (postroomlaw10_does.calls k1 bl bj (fun k_ => (k_ ≠ ba ∧ (k_ ≠ bb ∧ (k_ ≠ bh ∧ k_ ≠ bg)))) _ _ bd bk bi (fun k_ => (k_ ≠ ba ∧ (k_ ≠ bb ∧ (k_ ≠ bh ∧ k_ ≠ bg)))) _ _ bc ((rd_T43 l0 be).f0) ((rd_T43 l0 be).f1) ((rd_T43 l0 be).f2) ((rd_T43 l0 be).f3) bw bx br bB bD bC true _ ?side1 ?side2 A22.out).mono ?_
      (case side1 => exact bf.out)
      (case side2 => exact bm.out)
      rintro e w44 ⟨dK, dJ, rfl, ho0, ho1, hb⟩
      refine ⟨_, rfl, ?_⟩
      replace bf := Aside0.mk (Kd.V_below zx35_8 hb)
      replace bm := Aside0.mk (Kd.V_below zx35_9 hb)
      have bU := Aside0.mk (Kd.V_lower (Kd.V_mono (ok' := fun k_ => k_ ≠ ba ∧ k_ ≠ bb ∧ k_ ≠ bh ∧ k_ ≠ bg) ho0 (fun k_ hk_ => ⟨Or.elim hk_ (fun hs_ => Or.elim hs_ (fun hs_ => hs_.1) (fun hs_ => hs_.1)) (fun hn_ => (Kd.freshB (g := ba) (o := .cells #[.int .u64 bl, .int .u64 bj, .slice bM bd.length bK] 27 (0, 0)) zx35_0 k_ hn_)), Or.elim hk_ (fun hs_ => Or.elim hs_ (fun hs_ => hs_.2.1) (fun hs_ => hs_.2.1)) (fun hn_ => (Kd.freshB (g := bb) (o := .cells #[.int .u64 bk, .int .u64 bi, .slice bL bc.length bJ] 57 (0, 0)) zx35_1 k_ hn_)), Or.elim hk_ (fun hs_ => Or.elim hs_ (fun hs_ => hs_.2.2.1) (fun hs_ => hs_.2.2.1)) (fun hn_ => (Kd.freshB (g := bh) (o := .cells #[.int .u64 0, .int .u64 0, .slice none 0 0] 27 (0, 0)) zx35_2 k_ hn_)), Or.elim hk_ (fun hs_ => Or.elim hs_ (fun hs_ => hs_.2.2.2) (fun hs_ => hs_.2.2.2)) (fun hn_ => (Kd.freshB (g := bg) (o := .cells #[.int .u64 0, .int .u64 0, .slice none 0 0] 57 (0, 0)) zx35_3 k_ hn_))⟩)) (below_size zx35_4))
      have bX := Aside0.mk (Kd.V_lower (Kd.V_mono (ok' := fun k_ => k_ ≠ ba ∧ k_ ≠ bb ∧ k_ ≠ bh ∧ k_ ≠ bg) ho1 (fun k_ hk_ => ⟨Or.elim hk_ (fun hs_ => Or.elim hs_ (fun hs_ => hs_.1) (fun hs_ => hs_.1)) (fun hn_ => (Kd.freshB (g := ba) (o := .cells #[.int .u64 bl, .int .u64 bj, .slice bM bd.length bK] 27 (0, 0)) zx35_0 k_ hn_)), Or.elim hk_ (fun hs_ => Or.elim hs_ (fun hs_ => hs_.2.1) (fun hs_ => hs_.2.1)) (fun hn_ => (Kd.freshB (g := bb) (o := .cells #[.int .u64 bk, .int .u64 bi, .slice bL bc.length bJ] 57 (0, 0)) zx35_1 k_ hn_)), Or.elim hk_ (fun hs_ => Or.elim hs_ (fun hs_ => hs_.2.2.1) (fun hs_ => hs_.2.2.1)) (fun hn_ => (Kd.freshB (g := bh) (o := .cells #[.int .u64 0, .int .u64 0, .slice none 0 0] 27 (0, 0)) zx35_2 k_ hn_)), Or.elim hk_ (fun hs_ => Or.elim hs_ (fun hs_ => hs_.2.2.2) (fun hs_ => hs_.2.2.2)) (fun hn_ => (Kd.freshB (g := bg) (o := .cells #[.int .u64 0, .int .u64 0, .slice none 0 0] 57 (0, 0)) zx35_3 k_ hn_))⟩)) (below_size zx35_4))
      replace bo := Aside0.mk (blk_below (g := ba) (o := .cells #[.int .u64 bl, .int .u64 bj, .slice bM bd.length bK] 27 (0, 0)) zx35_0 hb)
      replace bp := Aside0.mk (blk_below (g := bb) (o := .cells #[.int .u64 bk, .int .u64 bi, .slice bL bc.length bJ] 57 (0, 0)) zx35_1 hb)
      replace bH := Aside0.mk (blk_below (g := bh) (o := .cells #[.int .u64 0, .int .u64 0, .slice none 0 0] 27 (0, 0)) zx35_2 hb)
      replace bI := Aside0.mk (blk_below (g := bg) (o := .cells #[.int .u64 0, .int .u64 0, .slice none 0 0] 57 (0, 0)) zx35_3 hb)
      replace HB := Aside0.mk (below_step zx35_4 hb)
      (try clear hb)
      (try clear hb2)
      (try clear hk)
      (try clear hi)
      (try clear ho0)
      (try clear ho1)
      refine hK.out _ _ ⟨(blk_cell bo.out 0).trans rfl, (blk_cell bo.out 1).trans rfl, (blk_cell bo.out 2).trans rfl, (blk_cell bp.out 0).trans rfl, (blk_cell bp.out 1).trans rfl, (blk_cell bp.out 2).trans rfl, ((HB.out.cell (World.block_lt_of_cell? w _ b1)).trans b1), ((HB.out.cell (World.block_lt_of_cell? w _ b0)).trans b0), ((HB.out.cell (World.block_lt_of_cell? w _ bZ)).trans bZ), ((HB.out.cell (World.block_lt_of_cell? w _ bY)).trans bY)⟩ (fun hHeld => ?_)
      clear hK K
      refine norm_ (a' := ?_) ?_ ?_
      rotate_left
      ·show Act.put _ (some 43) _ = _
       simp only [Act.put, List.setIfInBounds_toArray, List.set_cons_zero, List.set_cons_succ, i64_w, i32_w]
       rfl
      refine pp_ 7 (some 36) HT_.out ?_
      refine pp_ 8 (some 44) HT_.out ?_
      refine pp_ 9 (some 45) HT_.out ?_
      refine pp_ 10 (some 46) HT_.out ?_
      exact norm_ zx35_10 (d9 (dK, dJ, bh, bg) _ ⟨hHeld, zx35_17, zx35_18, zx35_8, zx35_9, zx35_0, zx35_1, zx35_2, zx35_3, da.out, dp.out, bA.out, bO.out, bG.out, bW.out, b2.out, b3.out, b9.out, dn.out, bz.out, bN.out, bE.out, bV.out, zx35_4⟩)
    ·skip
     rintro ⟨dK, dJ, bg⟩ w43 ⟨hS_, h0_, h1_, h2_, h3_, h4_, h5_, h6_, h7_, h8_, h9_, dQ, dP, gn, gm⟩
     have n0_ : Aside0 (Kd.V k37 37 w43 w.heap.size (fun k_ => k_ ≠ ba ∧ k_ ≠ bb ∧ k_ ≠ bg) dK br) := ⟨h0_⟩
     have n1_ : Aside0 (Kd.V k84 84 w43 w.heap.size (fun k_ => k_ ≠ ba ∧ k_ ≠ bb ∧ k_ ≠ bg) dJ bC) := ⟨h1_⟩
     have n2_ : Aside0 (Kd.V k37 37 w43 w.heap.size (fun k_ => k_ ≠ ba ∧ k_ ≠ bb ∧ k_ ≠ bg) (.slice bM bd.length bK) bd) := ⟨h2_⟩
     have n3_ : Aside0 (Kd.V k84 84 w43 w.heap.size (fun k_ => k_ ≠ ba ∧ k_ ≠ bb ∧ k_ ≠ bg) (.slice bL bc.length bJ) bc) := ⟨h3_⟩
     have n4_ : Aside0 (w43.heap[ba]? = some (.cells #[.int .u64 bl, .int .u64 bj, .slice bM bd.length bK] 27 (0, 0))) := ⟨h4_⟩
     have n5_ : Aside0 (w43.heap[bb]? = some (.cells #[.int .u64 bk, .int .u64 bi, .slice bL bc.length bJ] 57 (0, 0))) := ⟨h5_⟩
     have n6_ : Aside0 (w43.heap[bg]? = some (.cells #[.int .u64 0, .int .u64 0, .slice none 0 0] 57 (0, 0))) := ⟨h6_⟩
     have n7_ : Aside0 (w.heap.size ≤ bg) := ⟨h7_⟩
     have n8_ : Aside0 (w.heap.size ≤ bg) := ⟨h8_⟩
     have n9_ : Aside0 (ba ≠ bg) := ⟨h9_⟩
     have n10_ : Aside0 (bg ≠ ba) := ⟨dQ⟩
     have n11_ : Aside0 (bb ≠ bg) := ⟨dP⟩
     have n12_ : Aside0 (bg ≠ bb) := ⟨gn⟩
     have n13_ : Aside0 (Below w.heap.size w w43) := ⟨gm⟩
     clear bf
     clear bm
     clear bo
     clear bp
     clear HB
     clear h0_ h1_ h2_ h3_ h4_ h5_ h6_ h7_ h8_ h9_ dQ dP gn gm
     have bU := n0_
     have bX := n1_
     have bf := n2_
     have bm := n3_
     have bo := n4_
     have bp := n5_
     have bI := n6_
     have b9 := n7_
     have dn := n8_
     have bz := n9_
     have bN := n10_
     have bE := n11_
     have bV := n12_
     have HB := n13_
     clear n0_ n1_ n2_ n3_ n4_ n5_ n6_ n7_ n8_ n9_ n10_ n11_ n12_ n13_
     have hHeld : w43.cell? ⟨ba, 0, none⟩ = some (.int .u64 bl) ∧ w43.cell? ⟨ba, 1, none⟩ = some (.int .u64 bj) ∧ w43.cell? ⟨ba, 2, none⟩ = some (.slice bM bd.length bK) ∧ w43.cell? ⟨bb, 0, none⟩ = some (.int .u64 bk) ∧ w43.cell? ⟨bb, 1, none⟩ = some (.int .u64 bi) ∧ w43.cell? ⟨bb, 2, none⟩ = some (.slice bL bc.length bJ) ∧ w43.cell? (bu.add ((be).toNat * 4)) = some (.int .i64 ((rd_T43 l0 be).f0)) ∧ w43.cell? ⟨(bu.add ((be).toNat * 4)).block, (bu.add ((be).toNat * 4)).off + 1, none⟩ = some (.int .i64 ((rd_T43 l0 be).f1)) ∧ w43.cell? ⟨(bu.add ((be).toNat * 4)).block, (bu.add ((be).toNat * 4)).off + 2, none⟩ = some (.int .i64 ((rd_T43 l0 be).f2)) ∧ w43.cell? ⟨(bu.add ((be).toNat * 4)).block, (bu.add ((be).toNat * 4)).off + 3, none⟩ = some (.int .i64 ((rd_T43 l0 be).f3)) := hS_
     refine norm_ (a' := ?_) ?_ ?_
     rotate_left
     ·simp only [putAll, Act.put, List.setIfInBounds_toArray, List.set_cons_zero, List.set_cons_succ]
      rfl
     refine one_ (i := 11) (N := some 11) #[Tt,Tt,Tt,Tt,Tt,Tt,Tt,Tt,Tt,Tt,Tt,Tt,Tt,Ff,Ff,Ff] rfl rfl (one_of HT_.out (by kernel_rfl)) (by decide) (fun K hK => ?_)
     refine box_step ?hg (N := 11) ?hd (cs := #[.int .u64 0, .int .u64 0, .slice none 0 0]) (t := 27) ?hr ?_; (case hd => rfl); (case hg => rfl); (case hr => first | (go_simp; done) | (go_simp; rfl))
     intro bh hg w44 hbox hb
     replace bf := Aside0.mk (Kd.V_below (Kd.V_elderB zx35_8 bh (Nat.le_of_eq hg.symm)) hb)
     replace bm := Aside0.mk (Kd.V_below (Kd.V_elderB zx35_9 bh (Nat.le_of_eq hg.symm)) hb)
     replace bU := Aside0.mk (Kd.V_below (Kd.V_elderB zx35_17 bh (Nat.le_of_eq hg.symm)) hb)
     replace bX := Aside0.mk (Kd.V_below (Kd.V_elderB zx35_18 bh (Nat.le_of_eq hg.symm)) hb)
     have bH := Aside0.mk (hbox)
     have da := Aside0.mk ((by rw [hg]; exact (below_size zx35_7) : w.heap.size ≤ bh))
     have dp := Aside0.mk ((by rw [hg]; exact (below_size zx35_7) : w.heap.size ≤ bh))
     replace HB := Aside0.mk (below_step zx35_7 hb)
     have bA := Aside0.mk ((by rw [hg]; exact Nat.ne_of_lt (blk_lt (g := ba) (o := .cells #[.int .u64 bl, .int .u64 bj, .slice bM bd.length bK] 27 (0, 0)) zx35_0) : ba ≠ bh))
     have bO := Aside0.mk ((by rw [hg]; exact Nat.ne_of_gt (blk_lt (g := ba) (o := .cells #[.int .u64 bl, .int .u64 bj, .slice bM bd.length bK] 27 (0, 0)) zx35_0) : bh ≠ ba))
     replace bo := Aside0.mk (blk_below (g := ba) (o := .cells #[.int .u64 bl, .int .u64 bj, .slice bM bd.length bK] 27 (0, 0)) zx35_0 hb)
     have bG := Aside0.mk ((by rw [hg]; exact Nat.ne_of_lt (blk_lt (g := bb) (o := .cells #[.int .u64 bk, .int .u64 bi, .slice bL bc.length bJ] 57 (0, 0)) zx35_1) : bb ≠ bh))
     have bW := Aside0.mk ((by rw [hg]; exact Nat.ne_of_gt (blk_lt (g := bb) (o := .cells #[.int .u64 bk, .int .u64 bi, .slice bL bc.length bJ] 57 (0, 0)) zx35_1) : bh ≠ bb))
     replace bp := Aside0.mk (blk_below (g := bb) (o := .cells #[.int .u64 bk, .int .u64 bi, .slice bL bc.length bJ] 57 (0, 0)) zx35_1 hb)
     have b2 := Aside0.mk ((by rw [hg]; exact Nat.ne_of_lt (blk_lt (g := bg) (o := .cells #[.int .u64 0, .int .u64 0, .slice none 0 0] 57 (0, 0)) zx35_3) : bg ≠ bh))
     have b3 := Aside0.mk ((by rw [hg]; exact Nat.ne_of_gt (blk_lt (g := bg) (o := .cells #[.int .u64 0, .int .u64 0, .slice none 0 0] 57 (0, 0)) zx35_3) : bh ≠ bg))
     replace bI := Aside0.mk (blk_below (g := bg) (o := .cells #[.int .u64 0, .int .u64 0, .slice none 0 0] 57 (0, 0)) zx35_3 hb)
     clear hb hbox hg
     refine hK.out _ _ ⟨(blk_cell bo.out 0).trans rfl, (blk_cell bo.out 1).trans rfl, (blk_cell bo.out 2).trans rfl, (blk_cell bp.out 0).trans rfl, (blk_cell bp.out 1).trans rfl, (blk_cell bp.out 2).trans rfl, ((HB.out.cell (World.block_lt_of_cell? w _ b1)).trans b1), ((HB.out.cell (World.block_lt_of_cell? w _ b0)).trans b0), ((HB.out.cell (World.block_lt_of_cell? w _ bZ)).trans bZ), ((HB.out.cell (World.block_lt_of_cell? w _ bY)).trans bY)⟩ (fun hHeld => ?_)
     clear hK K
     refine norm_ (a' := ?_) ?_ ?_
     rotate_left
     ·show Act.put _ (some 11) _ = _
      simp only [Act.put, List.setIfInBounds_toArray, List.set_cons_zero, List.set_cons_succ, i64_w, i32_w]
      rfl
     exact norm_ zx35_10 (d9 (dK, dJ, bh, bg) _ ⟨hHeld, (by (with_reducible repeat (first | apply Kd.V_alloc | apply Kd.V_drewN | apply Kd.V_drew)); exact Kd.V_mono bU.out (fun _ hk => ⟨hk.1.1, ⟨hk.1.2.1, ⟨hk.2, hk.1.2.2⟩⟩⟩)), (by (with_reducible repeat (first | apply Kd.V_alloc | apply Kd.V_drewN | apply Kd.V_drew)); exact Kd.V_mono bX.out (fun _ hk => ⟨hk.1.1, ⟨hk.1.2.1, ⟨hk.2, hk.1.2.2⟩⟩⟩)), (by (with_reducible repeat (first | apply Kd.V_alloc | apply Kd.V_drewN | apply Kd.V_drew)); exact Kd.V_mono bf.out (fun _ hk => ⟨hk.1.1, ⟨hk.1.2.1, ⟨hk.2, hk.1.2.2⟩⟩⟩)), (by (with_reducible repeat (first | apply Kd.V_alloc | apply Kd.V_drewN | apply Kd.V_drew)); exact Kd.V_mono bm.out (fun _ hk => ⟨hk.1.1, ⟨hk.1.2.1, ⟨hk.2, hk.1.2.2⟩⟩⟩)), zx35_0, zx35_1, zx35_2, zx35_3, da.out, dp.out, bA.out, bO.out, bG.out, bW.out, b2.out, b3.out, b9.out, dn.out, bz.out, bN.out, bE.out, bV.out, zx35_36⟩)
   ·skip
    rintro ⟨dK, dJ, bh⟩ w43 ⟨hS_, h0_, h1_, h2_, h3_, h4_, h5_, h6_, h7_, h8_, h9_, dQ, dP, gn, gm⟩
    have n0_ : Aside0 (Kd.V k37 37 w43 w.heap.size (fun k_ => k_ ≠ ba ∧ k_ ≠ bb ∧ k_ ≠ bh) dK br) := ⟨h0_⟩
    have n1_ : Aside0 (Kd.V k84 84 w43 w.heap.size (fun k_ => k_ ≠ ba ∧ k_ ≠ bb ∧ k_ ≠ bh) dJ bC) := ⟨h1_⟩
    have n2_ : Aside0 (Kd.V k37 37 w43 w.heap.size (fun k_ => k_ ≠ ba ∧ k_ ≠ bb ∧ k_ ≠ bh) (.slice bM bd.length bK) bd) := ⟨h2_⟩
    have n3_ : Aside0 (Kd.V k84 84 w43 w.heap.size (fun k_ => k_ ≠ ba ∧ k_ ≠ bb ∧ k_ ≠ bh) (.slice bL bc.length bJ) bc) := ⟨h3_⟩
    have n4_ : Aside0 (w43.heap[ba]? = some (.cells #[.int .u64 bl, .int .u64 bj, .slice bM bd.length bK] 27 (0, 0))) := ⟨h4_⟩
    have n5_ : Aside0 (w43.heap[bb]? = some (.cells #[.int .u64 bk, .int .u64 bi, .slice bL bc.length bJ] 57 (0, 0))) := ⟨h5_⟩
    have n6_ : Aside0 (w43.heap[bh]? = some (.cells #[.int .u64 0, .int .u64 0, .slice none 0 0] 27 (0, 0))) := ⟨h6_⟩
    have n7_ : Aside0 (w.heap.size ≤ bh) := ⟨h7_⟩
    have n8_ : Aside0 (w.heap.size ≤ bh) := ⟨h8_⟩
    have n9_ : Aside0 (ba ≠ bh) := ⟨h9_⟩
    have n10_ : Aside0 (bh ≠ ba) := ⟨dQ⟩
    have n11_ : Aside0 (bb ≠ bh) := ⟨dP⟩
    have n12_ : Aside0 (bh ≠ bb) := ⟨gn⟩
    have n13_ : Aside0 (Below w.heap.size w w43) := ⟨gm⟩
    clear bf
    clear bm
    clear bo
    clear bp
    clear HB
    clear h0_ h1_ h2_ h3_ h4_ h5_ h6_ h7_ h8_ h9_ dQ dP gn gm
    have bU := n0_
    have bX := n1_
    have bf := n2_
    have bm := n3_
    have bo := n4_
    have bp := n5_
    have bH := n6_
    have da := n7_
    have dp := n8_
    have bA := n9_
    have bO := n10_
    have bG := n11_
    have bW := n12_
    have HB := n13_
    clear n0_ n1_ n2_ n3_ n4_ n5_ n6_ n7_ n8_ n9_ n10_ n11_ n12_ n13_
    have hHeld : w43.cell? ⟨ba, 0, none⟩ = some (.int .u64 bl) ∧ w43.cell? ⟨ba, 1, none⟩ = some (.int .u64 bj) ∧ w43.cell? ⟨ba, 2, none⟩ = some (.slice bM bd.length bK) ∧ w43.cell? ⟨bb, 0, none⟩ = some (.int .u64 bk) ∧ w43.cell? ⟨bb, 1, none⟩ = some (.int .u64 bi) ∧ w43.cell? ⟨bb, 2, none⟩ = some (.slice bL bc.length bJ) ∧ w43.cell? (bu.add ((be).toNat * 4)) = some (.int .i64 ((rd_T43 l0 be).f0)) ∧ w43.cell? ⟨(bu.add ((be).toNat * 4)).block, (bu.add ((be).toNat * 4)).off + 1, none⟩ = some (.int .i64 ((rd_T43 l0 be).f1)) ∧ w43.cell? ⟨(bu.add ((be).toNat * 4)).block, (bu.add ((be).toNat * 4)).off + 2, none⟩ = some (.int .i64 ((rd_T43 l0 be).f2)) ∧ w43.cell? ⟨(bu.add ((be).toNat * 4)).block, (bu.add ((be).toNat * 4)).off + 3, none⟩ = some (.int .i64 ((rd_T43 l0 be).f3)) := hS_
    refine norm_ (a' := ?_) ?_ ?_
    rotate_left
    ·simp only [putAll, Act.put, List.setIfInBounds_toArray, List.set_cons_zero, List.set_cons_succ]
     rfl
    refine one_ (i := 12) (N := some 12) #[Tt,Tt,Tt,Tt,Tt,Tt,Tt,Tt,Tt,Tt,Tt,Tt,Tt,Ff,Ff,Ff] rfl rfl (one_of HT_.out (by kernel_rfl)) (by decide) (fun K hK => ?_)
    refine box_step ?hg (N := 12) ?hd (cs := #[.int .u64 0, .int .u64 0, .slice none 0 0]) (t := 57) ?hr ?_; (case hd => rfl); (case hg => rfl); (case hr => first | (go_simp; done) | (go_simp; rfl))
    intro bg hg w44 hbox hb
    replace bf := Aside0.mk (Kd.V_below (Kd.V_elderB zx35_8 bg (Nat.le_of_eq hg.symm)) hb)
    replace bm := Aside0.mk (Kd.V_below (Kd.V_elderB zx35_9 bg (Nat.le_of_eq hg.symm)) hb)
    replace bU := Aside0.mk (Kd.V_below (Kd.V_elderB zx35_17 bg (Nat.le_of_eq hg.symm)) hb)
    replace bX := Aside0.mk (Kd.V_below (Kd.V_elderB zx35_18 bg (Nat.le_of_eq hg.symm)) hb)
    have bI := Aside0.mk (hbox)
    have b9 := Aside0.mk ((by rw [hg]; exact (below_size zx35_6) : w.heap.size ≤ bg))
    have dn := Aside0.mk ((by rw [hg]; exact (below_size zx35_6) : w.heap.size ≤ bg))
    replace HB := Aside0.mk (below_step zx35_6 hb)
    have bz := Aside0.mk ((by rw [hg]; exact Nat.ne_of_lt (blk_lt (g := ba) (o := .cells #[.int .u64 bl, .int .u64 bj, .slice bM bd.length bK] 27 (0, 0)) zx35_0) : ba ≠ bg))
    have bN := Aside0.mk ((by rw [hg]; exact Nat.ne_of_gt (blk_lt (g := ba) (o := .cells #[.int .u64 bl, .int .u64 bj, .slice bM bd.length bK] 27 (0, 0)) zx35_0) : bg ≠ ba))
    replace bo := Aside0.mk (blk_below (g := ba) (o := .cells #[.int .u64 bl, .int .u64 bj, .slice bM bd.length bK] 27 (0, 0)) zx35_0 hb)
    have bE := Aside0.mk ((by rw [hg]; exact Nat.ne_of_lt (blk_lt (g := bb) (o := .cells #[.int .u64 bk, .int .u64 bi, .slice bL bc.length bJ] 57 (0, 0)) zx35_1) : bb ≠ bg))
    have bV := Aside0.mk ((by rw [hg]; exact Nat.ne_of_gt (blk_lt (g := bb) (o := .cells #[.int .u64 bk, .int .u64 bi, .slice bL bc.length bJ] 57 (0, 0)) zx35_1) : bg ≠ bb))
    replace bp := Aside0.mk (blk_below (g := bb) (o := .cells #[.int .u64 bk, .int .u64 bi, .slice bL bc.length bJ] 57 (0, 0)) zx35_1 hb)
    have b3 := Aside0.mk ((by rw [hg]; exact Nat.ne_of_lt (blk_lt (g := bh) (o := .cells #[.int .u64 0, .int .u64 0, .slice none 0 0] 27 (0, 0)) zx35_2) : bh ≠ bg))
    have b2 := Aside0.mk ((by rw [hg]; exact Nat.ne_of_gt (blk_lt (g := bh) (o := .cells #[.int .u64 0, .int .u64 0, .slice none 0 0] 27 (0, 0)) zx35_2) : bg ≠ bh))
    replace bH := Aside0.mk (blk_below (g := bh) (o := .cells #[.int .u64 0, .int .u64 0, .slice none 0 0] 27 (0, 0)) zx35_2 hb)
    clear hb hbox hg
    refine hK.out _ _ ⟨(blk_cell bo.out 0).trans rfl, (blk_cell bo.out 1).trans rfl, (blk_cell bo.out 2).trans rfl, (blk_cell bp.out 0).trans rfl, (blk_cell bp.out 1).trans rfl, (blk_cell bp.out 2).trans rfl, ((HB.out.cell (World.block_lt_of_cell? w _ b1)).trans b1), ((HB.out.cell (World.block_lt_of_cell? w _ b0)).trans b0), ((HB.out.cell (World.block_lt_of_cell? w _ bZ)).trans bZ), ((HB.out.cell (World.block_lt_of_cell? w _ bY)).trans bY)⟩ (fun hHeld => ?_)
    clear hK K
    refine norm_ (a' := ?_) ?_ ?_
    rotate_left
    ·show Act.put _ (some 12) _ = _
     simp only [Act.put, List.setIfInBounds_toArray, List.set_cons_zero, List.set_cons_succ, i64_w, i32_w]
     rfl
    exact norm_ zx35_10 (d9 (dK, dJ, bh, bg) _ ⟨hHeld, (by (with_reducible repeat (first | apply Kd.V_alloc | apply Kd.V_drewN | apply Kd.V_drew)); exact Kd.V_mono bU.out (fun _ hk => ⟨hk.1.1, ⟨hk.1.2.1, ⟨hk.1.2.2, hk.2⟩⟩⟩)), (by (with_reducible repeat (first | apply Kd.V_alloc | apply Kd.V_drewN | apply Kd.V_drew)); exact Kd.V_mono bX.out (fun _ hk => ⟨hk.1.1, ⟨hk.1.2.1, ⟨hk.1.2.2, hk.2⟩⟩⟩)), (by (with_reducible repeat (first | apply Kd.V_alloc | apply Kd.V_drewN | apply Kd.V_drew)); exact Kd.V_mono bf.out (fun _ hk => ⟨hk.1.1, ⟨hk.1.2.1, ⟨hk.1.2.2, hk.2⟩⟩⟩)), (by (with_reducible repeat (first | apply Kd.V_alloc | apply Kd.V_drewN | apply Kd.V_drew)); exact Kd.V_mono bm.out (fun _ hk => ⟨hk.1.1, ⟨hk.1.2.1, ⟨hk.1.2.2, hk.2⟩⟩⟩)), zx35_0, zx35_1, zx35_2, zx35_3, da.out, dp.out, bA.out, bO.out, bG.out, bW.out, b2.out, b3.out, b9.out, dn.out, bz.out, bN.out, bE.out, bV.out, zx35_4⟩)
  rintro ⟨dK, dJ, bh, bg⟩ w44 ⟨hS_, h0_, h1_, h2_, h3_, h4_, h5_, h6_, h7_, h8_, h9_, dQ, dP, gn, gm, hH, hG, hF, hE, hD, hC, hB, mC, mB⟩
  have n0_ : Aside0 (Kd.V k37 37 w44 w.heap.size (fun k_ => k_ ≠ ba ∧ k_ ≠ bb ∧ k_ ≠ bh ∧ k_ ≠ bg) dK br) := ⟨h0_⟩
  have n1_ : Aside0 (Kd.V k84 84 w44 w.heap.size (fun k_ => k_ ≠ ba ∧ k_ ≠ bb ∧ k_ ≠ bh ∧ k_ ≠ bg) dJ bC) := ⟨h1_⟩
  have n2_ : Aside0 (Kd.V k37 37 w44 w.heap.size (fun k_ => k_ ≠ ba ∧ k_ ≠ bb ∧ k_ ≠ bh ∧ k_ ≠ bg) (.slice bM bd.length bK) bd) := ⟨h2_⟩
  have n3_ : Aside0 (Kd.V k84 84 w44 w.heap.size (fun k_ => k_ ≠ ba ∧ k_ ≠ bb ∧ k_ ≠ bh ∧ k_ ≠ bg) (.slice bL bc.length bJ) bc) := ⟨h3_⟩
  have n4_ : Aside0 (w44.heap[ba]? = some (.cells #[.int .u64 bl, .int .u64 bj, .slice bM bd.length bK] 27 (0, 0))) := ⟨h4_⟩
  have n5_ : Aside0 (w44.heap[bb]? = some (.cells #[.int .u64 bk, .int .u64 bi, .slice bL bc.length bJ] 57 (0, 0))) := ⟨h5_⟩
  have n6_ : Aside0 (w44.heap[bh]? = some (.cells #[.int .u64 0, .int .u64 0, .slice none 0 0] 27 (0, 0))) := ⟨h6_⟩
  have n7_ : Aside0 (w44.heap[bg]? = some (.cells #[.int .u64 0, .int .u64 0, .slice none 0 0] 57 (0, 0))) := ⟨h7_⟩
  have n8_ : Aside0 (w.heap.size ≤ bh) := ⟨h8_⟩
  have n9_ : Aside0 (w.heap.size ≤ bh) := ⟨h9_⟩
  have n10_ : Aside0 (ba ≠ bh) := ⟨dQ⟩
  have n11_ : Aside0 (bh ≠ ba) := ⟨dP⟩
  have n12_ : Aside0 (bb ≠ bh) := ⟨gn⟩
  have n13_ : Aside0 (bh ≠ bb) := ⟨gm⟩
  have n14_ : Aside0 (bg ≠ bh) := ⟨hH⟩
  have n15_ : Aside0 (bh ≠ bg) := ⟨hG⟩
  have n16_ : Aside0 (w.heap.size ≤ bg) := ⟨hF⟩
  have n17_ : Aside0 (w.heap.size ≤ bg) := ⟨hE⟩
  have n18_ : Aside0 (ba ≠ bg) := ⟨hD⟩
  have n19_ : Aside0 (bg ≠ ba) := ⟨hC⟩
  have n20_ : Aside0 (bb ≠ bg) := ⟨hB⟩
  have n21_ : Aside0 (bg ≠ bb) := ⟨mC⟩
  have n22_ : Aside0 (Below w.heap.size w w44) := ⟨mB⟩
  clear bf
  clear bm
  clear bo
  clear bp
  clear HB
  clear h0_ h1_ h2_ h3_ h4_ h5_ h6_ h7_ h8_ h9_ dQ dP gn gm hH hG hF hE hD hC hB mC mB
  have bU := n0_
  have bX := n1_
  have bf := n2_
  have bm := n3_
  have bo := n4_
  have bp := n5_
  have bH := n6_
  have bI := n7_
  have da := n8_
  have dp := n9_
  have bA := n10_
  have bO := n11_
  have bG := n12_
  have bW := n13_
  have b2 := n14_
  have b3 := n15_
  have b9 := n16_
  have dn := n17_
  have bz := n18_
  have bN := n19_
  have bE := n20_
  have bV := n21_
  have HB := n22_
  clear n0_ n1_ n2_ n3_ n4_ n5_ n6_ n7_ n8_ n9_ n10_ n11_ n12_ n13_ n14_ n15_ n16_ n17_ n18_ n19_ n20_ n21_ n22_
  have hHeld : w44.cell? ⟨ba, 0, none⟩ = some (.int .u64 bl) ∧ w44.cell? ⟨ba, 1, none⟩ = some (.int .u64 bj) ∧ w44.cell? ⟨ba, 2, none⟩ = some (.slice bM bd.length bK) ∧ w44.cell? ⟨bb, 0, none⟩ = some (.int .u64 bk) ∧ w44.cell? ⟨bb, 1, none⟩ = some (.int .u64 bi) ∧ w44.cell? ⟨bb, 2, none⟩ = some (.slice bL bc.length bJ) ∧ w44.cell? (bu.add ((be).toNat * 4)) = some (.int .i64 ((rd_T43 l0 be).f0)) ∧ w44.cell? ⟨(bu.add ((be).toNat * 4)).block, (bu.add ((be).toNat * 4)).off + 1, none⟩ = some (.int .i64 ((rd_T43 l0 be).f1)) ∧ w44.cell? ⟨(bu.add ((be).toNat * 4)).block, (bu.add ((be).toNat * 4)).off + 2, none⟩ = some (.int .i64 ((rd_T43 l0 be).f2)) ∧ w44.cell? ⟨(bu.add ((be).toNat * 4)).block, (bu.add ((be).toNat * 4)).off + 3, none⟩ = some (.int .i64 ((rd_T43 l0 be).f3)) := hS_
  obtain ⟨dc, b5, mG⟩ := Kd.V_slice bU.out
  (first | subst mG | (injection mG with f1_ f2_ f3_; have f4_ := f1_.symm; have f5_ := f3_.symm; clear f1_ f2_ f3_; subst f4_; subst f5_))
  obtain ⟨dh, dg, mF⟩ := Kd.V_slice bX.out
  (first | subst mF | (injection mF with f1_ f2_ f3_; have f4_ := f1_.symm; have f5_ := f3_.symm; clear f1_ f2_ f3_; subst f4_; subst f5_))
  refine norm_ (a' := ?_) ?_ ?_
  rotate_left
  ·simp only [putAll, Act.put, List.setIfInBounds_toArray, List.set_cons_zero, List.set_cons_succ]
   rfl
  refine one_ (i := 13) (N := none) #[Tt,Tt,Tt,Tt,Tt,Tt,Tt,Tt,Tt,Tt,Tt,Tt,Tt,Tt,Ff,Ff] rfl rfl (one_of HT_.out (by kernel_rfl)) (by decide) (fun K hK => ?_)
  have sH : w44.cell? ⟨bh, 0, none⟩ = some (.int .u64 0) := (blk_cell bH.out 0).trans rfl
  have q9 := blk_frozen bH.out 0
  have oo := bA.out
  have on := bG.out
  have om := b2.out
  have oH := bO.out
  have oG := bW.out
  have oF := b3.out
  have sG : w44.cell? ⟨bh, 1, none⟩ = some (.int .u64 0) := (blk_cell bH.out 1).trans rfl
  have q8 := blk_frozen bH.out 1
  have ol := bA.out
  have oj := bG.out
  have oi := b2.out
  have oE := bO.out
  have oD := bW.out
  have oC := b3.out
  have sF : w44.cell? ⟨bh, 2, none⟩ = some (.slice none 0 0) := (blk_cell bH.out 2).trans rfl
  have q7 := blk_frozen bH.out 2
  have oh := bA.out
  have og := bG.out
  have oe := b2.out
  have oB := bO.out
  have oA := bW.out
  have oz := b3.out
  refine skip_ (w1 := ?_) (by rfl) rfl ?_ ?_
  rotate_left
  ·go_simp
   rfl
  refine hK.out _ _ ⟨((cell_far (p := ⟨bh, _, none⟩) bA.out _).trans (((cell_far (p := ⟨bh, _, none⟩) bA.out _).trans (((cell_far (p := ⟨bh, _, none⟩) bA.out _).trans (hHeld.1)))))), ((cell_far (p := ⟨bh, _, none⟩) bA.out _).trans (((cell_far (p := ⟨bh, _, none⟩) bA.out _).trans (((cell_far (p := ⟨bh, _, none⟩) bA.out _).trans (hHeld.2.1)))))), ((cell_far (p := ⟨bh, _, none⟩) bA.out _).trans (((cell_far (p := ⟨bh, _, none⟩) bA.out _).trans (((cell_far (p := ⟨bh, _, none⟩) bA.out _).trans (hHeld.2.2.1)))))), ((cell_far (p := ⟨bh, _, none⟩) bG.out _).trans (((cell_far (p := ⟨bh, _, none⟩) bG.out _).trans (((cell_far (p := ⟨bh, _, none⟩) bG.out _).trans (hHeld.2.2.2.1)))))), ((cell_far (p := ⟨bh, _, none⟩) bG.out _).trans (((cell_far (p := ⟨bh, _, none⟩) bG.out _).trans (((cell_far (p := ⟨bh, _, none⟩) bG.out _).trans (hHeld.2.2.2.2.1)))))), ((cell_far (p := ⟨bh, _, none⟩) bG.out _).trans (((cell_far (p := ⟨bh, _, none⟩) bG.out _).trans (((cell_far (p := ⟨bh, _, none⟩) bG.out _).trans (hHeld.2.2.2.2.2.1)))))), ((cell_far (p := ⟨bh, _, none⟩) zx35_22 _).trans (((cell_far (p := ⟨bh, _, none⟩) zx35_22 _).trans (((cell_far (p := ⟨bh, _, none⟩) zx35_22 _).trans (hHeld.2.2.2.2.2.2.1)))))), ((cell_far (p := ⟨bh, _, none⟩) zx35_23 _).trans (((cell_far (p := ⟨bh, _, none⟩) zx35_23 _).trans (((cell_far (p := ⟨bh, _, none⟩) zx35_23 _).trans (hHeld.2.2.2.2.2.2.2.1)))))), ((cell_far (p := ⟨bh, _, none⟩) zx35_24 _).trans (((cell_far (p := ⟨bh, _, none⟩) zx35_24 _).trans (((cell_far (p := ⟨bh, _, none⟩) zx35_24 _).trans (hHeld.2.2.2.2.2.2.2.2.1)))))), ((cell_far (p := ⟨bh, _, none⟩) zx35_25 _).trans (((cell_far (p := ⟨bh, _, none⟩) zx35_25 _).trans (((cell_far (p := ⟨bh, _, none⟩) zx35_25 _).trans (hHeld.2.2.2.2.2.2.2.2.2))))))⟩ (fun hHeld => ?_)
  clear hK K
  refine one_ (i := 14) (N := none) #[Tt,Tt,Tt,Tt,Tt,Tt,Tt,Tt,Tt,Tt,Tt,Tt,Tt,Tt,Tt,Ff] rfl rfl (one_of HT_.out (by kernel_rfl)) (by decide) (fun K hK => ?_)
  have sE : w44.cell? ⟨bg, 0, none⟩ = some (.int .u64 0) := (blk_cell bI.out 0).trans rfl
  have q6 := blk_frozen bI.out 0
  have od := bz.out
  have oc := bE.out
  have ob := b3.out
  have oy := bN.out
  have ox := bV.out
  have ow := b2.out
  have sD : w44.cell? ⟨bg, 1, none⟩ = some (.int .u64 0) := (blk_cell bI.out 1).trans rfl
  have q5 := blk_frozen bI.out 1
  have oa := bz.out
  have m9 := bE.out
  have m8 := b3.out
  have ov := bN.out
  have ou := bV.out
  have ot := b2.out
  have sC : w44.cell? ⟨bg, 2, none⟩ = some (.slice none 0 0) := (blk_cell bI.out 2).trans rfl
  have q4 := blk_frozen bI.out 2
  have m7 := bz.out
  have m6 := bE.out
  have m5 := b3.out
  have os := bN.out
  have oq := bV.out
  have op := b2.out
  refine skip_ (w1 := ?_) (by rfl) rfl ?_ ?_
  rotate_left
  ·go_simp
   rfl
  refine hK.out _ _ ⟨((cell_far (p := ⟨bg, _, none⟩) bz.out _).trans (((cell_far (p := ⟨bg, _, none⟩) bz.out _).trans (((cell_far (p := ⟨bg, _, none⟩) bz.out _).trans (hHeld.1)))))), ((cell_far (p := ⟨bg, _, none⟩) bz.out _).trans (((cell_far (p := ⟨bg, _, none⟩) bz.out _).trans (((cell_far (p := ⟨bg, _, none⟩) bz.out _).trans (hHeld.2.1)))))), ((cell_far (p := ⟨bg, _, none⟩) bz.out _).trans (((cell_far (p := ⟨bg, _, none⟩) bz.out _).trans (((cell_far (p := ⟨bg, _, none⟩) bz.out _).trans (hHeld.2.2.1)))))), ((cell_far (p := ⟨bg, _, none⟩) bE.out _).trans (((cell_far (p := ⟨bg, _, none⟩) bE.out _).trans (((cell_far (p := ⟨bg, _, none⟩) bE.out _).trans (hHeld.2.2.2.1)))))), ((cell_far (p := ⟨bg, _, none⟩) bE.out _).trans (((cell_far (p := ⟨bg, _, none⟩) bE.out _).trans (((cell_far (p := ⟨bg, _, none⟩) bE.out _).trans (hHeld.2.2.2.2.1)))))), ((cell_far (p := ⟨bg, _, none⟩) bE.out _).trans (((cell_far (p := ⟨bg, _, none⟩) bE.out _).trans (((cell_far (p := ⟨bg, _, none⟩) bE.out _).trans (hHeld.2.2.2.2.2.1)))))), ((cell_far (p := ⟨bg, _, none⟩) zx35_26 _).trans (((cell_far (p := ⟨bg, _, none⟩) zx35_26 _).trans (((cell_far (p := ⟨bg, _, none⟩) zx35_26 _).trans (hHeld.2.2.2.2.2.2.1)))))), ((cell_far (p := ⟨bg, _, none⟩) zx35_27 _).trans (((cell_far (p := ⟨bg, _, none⟩) zx35_27 _).trans (((cell_far (p := ⟨bg, _, none⟩) zx35_27 _).trans (hHeld.2.2.2.2.2.2.2.1)))))), ((cell_far (p := ⟨bg, _, none⟩) zx35_28 _).trans (((cell_far (p := ⟨bg, _, none⟩) zx35_28 _).trans (((cell_far (p := ⟨bg, _, none⟩) zx35_28 _).trans (hHeld.2.2.2.2.2.2.2.2.1)))))), ((cell_far (p := ⟨bg, _, none⟩) zx35_29 _).trans (((cell_far (p := ⟨bg, _, none⟩) zx35_29 _).trans (((cell_far (p := ⟨bg, _, none⟩) zx35_29 _).trans (hHeld.2.2.2.2.2.2.2.2.2))))))⟩ (fun hHeld => ?_)
  clear hK K
  refine pp_ 15 (some 13) HT_.out ?_
  refine done_ (done_of HT_.out (by kernel_rfl)) ?_
  have q2 := bO.out
  have qJ := bA.out
  have q1 := bW.out
  have qI := bG.out
  have q0 := b3.out
  have qH := b2.out
  obtain ⟨oO, jR, jQ, jn, jm, jl⟩ := cx35_bc3 bH.out
  try go_wp2_with (first | (go_at_call 24; (with_reducible refine (ledger_Right.calls k1 bw bx _ _ br true _ ?side1 ?side2 A24.out).mono ?_); (case side1 => refine (Kd.V_reads' (e := 37) (base := w.heap.size) (ok := fun k_ => (k_ ≠ ba ∧ (k_ ≠ bb ∧ (k_ ≠ bh ∧ k_ ≠ bg)))) (n := br.length) (c := b5) ?_).2.2; exact zx35_21); (case side2 => exact (Kd.V_reads' bU.out).2.1); rintro e w57 ⟨rfl, hb⟩; replace bf := Aside0.mk (Kd.V_below (by (with_reducible repeat (first | apply Kd.V_alloc | apply Kd.V_drewN | apply Kd.V_drew)); exact (Kd.V_mono (Kd.V_mono (Kd.V_far (p := ⟨bg, 2, none⟩) (Kd.V_far (p := ⟨bg, 1, none⟩) (Kd.V_far (p := ⟨bg, 0, none⟩) (Kd.V_far (p := ⟨bh, 2, none⟩) (Kd.V_far (p := ⟨bh, 1, none⟩) (Kd.V_far (p := ⟨bh, 0, none⟩) (Kd.V_mono (Kd.V_mono bf.out (fun k_ hk => (⟨hk, hk.2.2.1⟩ : _ ∧ k_ ≠ bh))) (fun k_ hk => (⟨hk, hk.1.2.2.2⟩ : _ ∧ k_ ≠ bg))) (fun _ hk => hk.1.2) (.int .u64 bw)) (fun _ hk => hk.1.2) (.int .u64 bx)) (fun _ hk => hk.1.2) (.slice dc br.length b5)) (fun _ hk => hk.2) (.int .u64 bB)) (fun _ hk => hk.2) (.int .u64 bD)) (fun _ hk => hk.2) (.slice dh bC.length dg)) (fun _ h_ => h_.1)) (fun _ h_ => h_.1))) hb); replace bm := Aside0.mk (Kd.V_below (by (with_reducible repeat (first | apply Kd.V_alloc | apply Kd.V_drewN | apply Kd.V_drew)); exact (Kd.V_mono (Kd.V_mono (Kd.V_far (p := ⟨bg, 2, none⟩) (Kd.V_far (p := ⟨bg, 1, none⟩) (Kd.V_far (p := ⟨bg, 0, none⟩) (Kd.V_far (p := ⟨bh, 2, none⟩) (Kd.V_far (p := ⟨bh, 1, none⟩) (Kd.V_far (p := ⟨bh, 0, none⟩) (Kd.V_mono (Kd.V_mono bm.out (fun k_ hk => (⟨hk, hk.2.2.1⟩ : _ ∧ k_ ≠ bh))) (fun k_ hk => (⟨hk, hk.1.2.2.2⟩ : _ ∧ k_ ≠ bg))) (fun _ hk => hk.1.2) (.int .u64 bw)) (fun _ hk => hk.1.2) (.int .u64 bx)) (fun _ hk => hk.1.2) (.slice dc br.length b5)) (fun _ hk => hk.2) (.int .u64 bB)) (fun _ hk => hk.2) (.int .u64 bD)) (fun _ hk => hk.2) (.slice dh bC.length dg)) (fun _ h_ => h_.1)) (fun _ h_ => h_.1))) hb); replace bU := Aside0.mk (Kd.V_below zx35_21 hb); replace bX := Aside0.mk (Kd.V_below (by (with_reducible repeat (first | apply Kd.V_alloc | apply Kd.V_drewN | apply Kd.V_drew)); exact (Kd.V_mono (Kd.V_mono (Kd.V_far (p := ⟨bg, 2, none⟩) (Kd.V_far (p := ⟨bg, 1, none⟩) (Kd.V_far (p := ⟨bg, 0, none⟩) (Kd.V_far (p := ⟨bh, 2, none⟩) (Kd.V_far (p := ⟨bh, 1, none⟩) (Kd.V_far (p := ⟨bh, 0, none⟩) (Kd.V_mono (Kd.V_mono bX.out (fun k_ hk => (⟨hk, hk.2.2.1⟩ : _ ∧ k_ ≠ bh))) (fun k_ hk => (⟨hk, hk.1.2.2.2⟩ : _ ∧ k_ ≠ bg))) (fun _ hk => hk.1.2) (.int .u64 bw)) (fun _ hk => hk.1.2) (.int .u64 bx)) (fun _ hk => hk.1.2) (.slice dc br.length b5)) (fun _ hk => hk.2) (.int .u64 bB)) (fun _ hk => hk.2) (.int .u64 bD)) (fun _ hk => hk.2) (.slice dh bC.length dg)) (fun _ h_ => h_.1)) (fun _ h_ => h_.1))) hb); replace bo := Aside0.mk (blk_below (g := ba) (o := .cells #[.int .u64 bl, .int .u64 bj, .slice bM bd.length bK] 27 (0, 0)) (by (iterate 3 ((with_reducible repeat (first | refine blk_drewN ?_ _ | refine blk_drew ?_ | refine blk_alloc ?_ _)); refine blk_far ?_ bz.out _)); (iterate 3 ((with_reducible repeat (first | refine blk_drewN ?_ _ | refine blk_drew ?_ | refine blk_alloc ?_ _)); refine blk_far ?_ bA.out _)); (with_reducible repeat (first | refine blk_drewN ?_ _ | refine blk_drew ?_ | refine blk_alloc ?_ _)); exact bo.out) hb); replace bp := Aside0.mk (blk_below (g := bb) (o := .cells #[.int .u64 bk, .int .u64 bi, .slice bL bc.length bJ] 57 (0, 0)) (by (iterate 3 ((with_reducible repeat (first | refine blk_drewN ?_ _ | refine blk_drew ?_ | refine blk_alloc ?_ _)); refine blk_far ?_ bE.out _)); (iterate 3 ((with_reducible repeat (first | refine blk_drewN ?_ _ | refine blk_drew ?_ | refine blk_alloc ?_ _)); refine blk_far ?_ bG.out _)); (with_reducible repeat (first | refine blk_drewN ?_ _ | refine blk_drew ?_ | refine blk_alloc ?_ _)); exact bp.out) hb); replace bH := Aside0.mk (blk_below (g := bh) (o := .cells #[.int .u64 bw, .int .u64 bx, .slice dc br.length b5] 27 (0, 0)) (by (iterate 3 ((with_reducible repeat (first | refine blk_drewN ?_ _ | refine blk_drew ?_ | refine blk_alloc ?_ _)); refine blk_far ?_ b3.out _)); (with_reducible repeat (first | refine blk_drewN ?_ _ | refine blk_drew ?_ | refine blk_alloc ?_ _)); refine blk_put (cs := #[.int .u64 bw, .int .u64 bx, .slice none 0 0]) ?_ 2 _ rfl; (with_reducible repeat (first | refine blk_drewN ?_ _ | refine blk_drew ?_ | refine blk_alloc ?_ _)); refine blk_put (cs := #[.int .u64 bw, .int .u64 0, .slice none 0 0]) ?_ 1 _ rfl; (with_reducible repeat (first | refine blk_drewN ?_ _ | refine blk_drew ?_ | refine blk_alloc ?_ _)); refine blk_put (cs := #[.int .u64 0, .int .u64 0, .slice none 0 0]) ?_ 0 _ rfl; (with_reducible repeat (first | refine blk_drewN ?_ _ | refine blk_drew ?_ | refine blk_alloc ?_ _)); exact bH.out) hb); replace bI := Aside0.mk (blk_below (g := bg) (o := .cells #[.int .u64 bB, .int .u64 bD, .slice dh bC.length dg] 57 (0, 0)) (by (with_reducible repeat (first | refine blk_drewN ?_ _ | refine blk_drew ?_ | refine blk_alloc ?_ _)); refine blk_put (cs := #[.int .u64 bB, .int .u64 bD, .slice none 0 0]) ?_ 2 _ rfl; (with_reducible repeat (first | refine blk_drewN ?_ _ | refine blk_drew ?_ | refine blk_alloc ?_ _)); refine blk_put (cs := #[.int .u64 bB, .int .u64 0, .slice none 0 0]) ?_ 1 _ rfl; (with_reducible repeat (first | refine blk_drewN ?_ _ | refine blk_drew ?_ | refine blk_alloc ?_ _)); refine blk_put (cs := #[.int .u64 0, .int .u64 0, .slice none 0 0]) ?_ 0 _ rfl; (iterate 3 ((with_reducible repeat (first | refine blk_drewN ?_ _ | refine blk_drew ?_ | refine blk_alloc ?_ _)); refine blk_far ?_ b2.out _)); (with_reducible repeat (first | refine blk_drewN ?_ _ | refine blk_drew ?_ | refine blk_alloc ?_ _)); exact bI.out) hb); replace HB := Aside0.mk (below_step zx35_4 hb); (try clear hb); (try clear hb2); (try clear hk); (try clear hi); have jP : w57.cell? ⟨bh, 0, none⟩ = some (.int .u64 bw) := (blk_cell bH.out 0).trans rfl; have jO : w57.cell? ⟨bh, 1, none⟩ = some (.int .u64 bx) := (blk_cell bH.out 1).trans rfl; have jN : w57.cell? ⟨bh, 2, none⟩ = some (.slice dc br.length b5) := (blk_cell bH.out 2).trans rfl; have jk := blk_frozen bH.out 0; have jj := blk_frozen bH.out 1; have ji := blk_frozen bH.out 2; have qZ := dt.out; have qG := dy.out; have qY := bz.out; have qF := bN.out; have jM : w57.cell? ⟨ba, 0, none⟩ = some (.int .u64 bl) := (blk_cell bo.out 0).trans rfl; have jL : w57.cell? ⟨ba, 1, none⟩ = some (.int .u64 bj) := (blk_cell bo.out 1).trans rfl; have jK : w57.cell? ⟨ba, 2, none⟩ = some (.slice bM bd.length bK) := (blk_cell bo.out 2).trans rfl; have jh := blk_frozen bo.out 0; have jg := blk_frozen bo.out 1; have jf := blk_frozen bo.out 2; have qX := bV.out; have qE := bE.out; have jJ : w57.cell? ⟨bg, 0, none⟩ = some (.int .u64 bB) := (blk_cell bI.out 0).trans rfl; have jI : w57.cell? ⟨bg, 1, none⟩ = some (.int .u64 bD) := (blk_cell bI.out 1).trans rfl; have jH : w57.cell? ⟨bg, 2, none⟩ = some (.slice dh bC.length dg) := (blk_cell bI.out 2).trans rfl; have je := blk_frozen bI.out 0; have jd := blk_frozen bI.out 1; have jc := blk_frozen bI.out 2; have jG : w57.cell? ⟨bb, 0, none⟩ = some (.int .u64 bk) := (blk_cell bp.out 0).trans rfl; have jF : w57.cell? ⟨bb, 1, none⟩ = some (.int .u64 bi) := (blk_cell bp.out 1).trans rfl; have jE : w57.cell? ⟨bb, 2, none⟩ = some (.slice bL bc.length bJ) := (blk_cell bp.out 2).trans rfl; have jb := blk_frozen bp.out 0; have ja := blk_frozen bp.out 1; have hZ := blk_frozen bp.out 2) | ((with_reducible refine gate_callee (f := 12) rfl ?_); refine goesL_ (some 57) rfl rfl Tryd.func12 (by kernel_rfl) rfl #[.int .i64 a1] rfl zx35_11 ?_; (with_reducible refine (postroomlaw10_name.calls a1 bQ _ A26.out).mono ?_); rintro e w65 ⟨rfl, hb⟩; refine ⟨_, rfl, ?_⟩; replace bf := Aside0.mk (Kd.V_below (by (with_reducible repeat (first | apply Kd.V_alloc | apply Kd.V_drewN | apply Kd.V_drew)); exact (Kd.V_mono (Kd.V_mono (Kd.V_far (p := ⟨bb, 2, none⟩) (Kd.V_far (p := ⟨bb, 1, none⟩) (Kd.V_far (p := ⟨bb, 0, none⟩) (Kd.V_far (p := ⟨ba, 2, none⟩) (Kd.V_far (p := ⟨ba, 1, none⟩) (Kd.V_far (p := ⟨ba, 0, none⟩) (Kd.V_mono (Kd.V_mono bf.out (fun k_ hk => (⟨hk, hk.1⟩ : _ ∧ k_ ≠ ba))) (fun k_ hk => (⟨hk, hk.1.2.1⟩ : _ ∧ k_ ≠ bb))) (fun _ hk => hk.1.2) (.int .u64 bw)) (fun _ hk => hk.1.2) (.int .u64 bx)) (fun _ hk => hk.1.2) (.slice dc br.length b5)) (fun _ hk => hk.2) (.int .u64 bB)) (fun _ hk => hk.2) (.int .u64 bD)) (fun _ hk => hk.2) (.slice dh bC.length dg)) (fun _ h_ => h_.1)) (fun _ h_ => h_.1))) hb); replace bm := Aside0.mk (Kd.V_below (by (with_reducible repeat (first | apply Kd.V_alloc | apply Kd.V_drewN | apply Kd.V_drew)); exact (Kd.V_mono (Kd.V_mono (Kd.V_far (p := ⟨bb, 2, none⟩) (Kd.V_far (p := ⟨bb, 1, none⟩) (Kd.V_far (p := ⟨bb, 0, none⟩) (Kd.V_far (p := ⟨ba, 2, none⟩) (Kd.V_far (p := ⟨ba, 1, none⟩) (Kd.V_far (p := ⟨ba, 0, none⟩) (Kd.V_mono (Kd.V_mono bm.out (fun k_ hk => (⟨hk, hk.1⟩ : _ ∧ k_ ≠ ba))) (fun k_ hk => (⟨hk, hk.1.2.1⟩ : _ ∧ k_ ≠ bb))) (fun _ hk => hk.1.2) (.int .u64 bw)) (fun _ hk => hk.1.2) (.int .u64 bx)) (fun _ hk => hk.1.2) (.slice dc br.length b5)) (fun _ hk => hk.2) (.int .u64 bB)) (fun _ hk => hk.2) (.int .u64 bD)) (fun _ hk => hk.2) (.slice dh bC.length dg)) (fun _ h_ => h_.1)) (fun _ h_ => h_.1))) hb); replace bU := Aside0.mk (Kd.V_below (by (with_reducible repeat (first | apply Kd.V_alloc | apply Kd.V_drewN | apply Kd.V_drew)); exact (Kd.V_mono (Kd.V_mono (Kd.V_far (p := ⟨bb, 2, none⟩) (Kd.V_far (p := ⟨bb, 1, none⟩) (Kd.V_far (p := ⟨bb, 0, none⟩) (Kd.V_far (p := ⟨ba, 2, none⟩) (Kd.V_far (p := ⟨ba, 1, none⟩) (Kd.V_far (p := ⟨ba, 0, none⟩) (Kd.V_mono (Kd.V_mono bU.out (fun k_ hk => (⟨hk, hk.1⟩ : _ ∧ k_ ≠ ba))) (fun k_ hk => (⟨hk, hk.1.2.1⟩ : _ ∧ k_ ≠ bb))) (fun _ hk => hk.1.2) (.int .u64 bw)) (fun _ hk => hk.1.2) (.int .u64 bx)) (fun _ hk => hk.1.2) (.slice dc br.length b5)) (fun _ hk => hk.2) (.int .u64 bB)) (fun _ hk => hk.2) (.int .u64 bD)) (fun _ hk => hk.2) (.slice dh bC.length dg)) (fun _ h_ => h_.1)) (fun _ h_ => h_.1))) hb); replace bX := Aside0.mk (Kd.V_below (by (with_reducible repeat (first | apply Kd.V_alloc | apply Kd.V_drewN | apply Kd.V_drew)); exact (Kd.V_mono (Kd.V_mono (Kd.V_far (p := ⟨bb, 2, none⟩) (Kd.V_far (p := ⟨bb, 1, none⟩) (Kd.V_far (p := ⟨bb, 0, none⟩) (Kd.V_far (p := ⟨ba, 2, none⟩) (Kd.V_far (p := ⟨ba, 1, none⟩) (Kd.V_far (p := ⟨ba, 0, none⟩) (Kd.V_mono (Kd.V_mono bX.out (fun k_ hk => (⟨hk, hk.1⟩ : _ ∧ k_ ≠ ba))) (fun k_ hk => (⟨hk, hk.1.2.1⟩ : _ ∧ k_ ≠ bb))) (fun _ hk => hk.1.2) (.int .u64 bw)) (fun _ hk => hk.1.2) (.int .u64 bx)) (fun _ hk => hk.1.2) (.slice dc br.length b5)) (fun _ hk => hk.2) (.int .u64 bB)) (fun _ hk => hk.2) (.int .u64 bD)) (fun _ hk => hk.2) (.slice dh bC.length dg)) (fun _ h_ => h_.1)) (fun _ h_ => h_.1))) hb); replace bo := Aside0.mk (blk_below (g := ba) (o := .cells #[.int .u64 bw, .int .u64 bx, .slice dc br.length b5] 27 (0, 0)) (by (iterate 3 ((with_reducible repeat (first | refine blk_drewN ?_ _ | refine blk_drew ?_ | refine blk_alloc ?_ _)); refine blk_far ?_ dt.out _)); (with_reducible repeat (first | refine blk_drewN ?_ _ | refine blk_drew ?_ | refine blk_alloc ?_ _)); refine blk_put (cs := #[.int .u64 bw, .int .u64 bx, .slice bM bd.length bK]) ?_ 2 _ rfl; (with_reducible repeat (first | refine blk_drewN ?_ _ | refine blk_drew ?_ | refine blk_alloc ?_ _)); refine blk_put (cs := #[.int .u64 bw, .int .u64 bj, .slice bM bd.length bK]) ?_ 1 _ rfl; (with_reducible repeat (first | refine blk_drewN ?_ _ | refine blk_drew ?_ | refine blk_alloc ?_ _)); refine blk_put (cs := #[.int .u64 bl, .int .u64 bj, .slice bM bd.length bK]) ?_ 0 _ rfl; (with_reducible repeat (first | refine blk_drewN ?_ _ | refine blk_drew ?_ | refine blk_alloc ?_ _)); exact bo.out) hb); replace bp := Aside0.mk (blk_below (g := bb) (o := .cells #[.int .u64 bB, .int .u64 bD, .slice dh bC.length dg] 57 (0, 0)) (by (with_reducible repeat (first | refine blk_drewN ?_ _ | refine blk_drew ?_ | refine blk_alloc ?_ _)); refine blk_put (cs := #[.int .u64 bB, .int .u64 bD, .slice bL bc.length bJ]) ?_ 2 _ rfl; (with_reducible repeat (first | refine blk_drewN ?_ _ | refine blk_drew ?_ | refine blk_alloc ?_ _)); refine blk_put (cs := #[.int .u64 bB, .int .u64 bi, .slice bL bc.length bJ]) ?_ 1 _ rfl; (with_reducible repeat (first | refine blk_drewN ?_ _ | refine blk_drew ?_ | refine blk_alloc ?_ _)); refine blk_put (cs := #[.int .u64 bk, .int .u64 bi, .slice bL bc.length bJ]) ?_ 0 _ rfl; (iterate 3 ((with_reducible repeat (first | refine blk_drewN ?_ _ | refine blk_drew ?_ | refine blk_alloc ?_ _)); refine blk_far ?_ dy.out _)); (with_reducible repeat (first | refine blk_drewN ?_ _ | refine blk_drew ?_ | refine blk_alloc ?_ _)); exact bp.out) hb); replace bH := Aside0.mk (blk_below (g := bh) (o := .cells #[.int .u64 bw, .int .u64 bx, .slice dc br.length b5] 27 (0, 0)) (by (iterate 3 ((with_reducible repeat (first | refine blk_drewN ?_ _ | refine blk_drew ?_ | refine blk_alloc ?_ _)); refine blk_far ?_ bW.out _)); (iterate 3 ((with_reducible repeat (first | refine blk_drewN ?_ _ | refine blk_drew ?_ | refine blk_alloc ?_ _)); refine blk_far ?_ bO.out _)); (with_reducible repeat (first | refine blk_drewN ?_ _ | refine blk_drew ?_ | refine blk_alloc ?_ _)); exact bH.out) hb); replace bI := Aside0.mk (blk_below (g := bg) (o := .cells #[.int .u64 bB, .int .u64 bD, .slice dh bC.length dg] 57 (0, 0)) (by (iterate 3 ((with_reducible repeat (first | refine blk_drewN ?_ _ | refine blk_drew ?_ | refine blk_alloc ?_ _)); refine blk_far ?_ bV.out _)); (iterate 3 ((with_reducible repeat (first | refine blk_drewN ?_ _ | refine blk_drew ?_ | refine blk_alloc ?_ _)); refine blk_far ?_ bN.out _)); (with_reducible repeat (first | refine blk_drewN ?_ _ | refine blk_drew ?_ | refine blk_alloc ?_ _)); exact bI.out) hb); replace HB := Aside0.mk (below_step zx35_4 hb); (try clear hb); (try clear hb2); (try clear hk); (try clear hi); have jD : w65.cell? ⟨ba, 0, none⟩ = some (.int .u64 bw) := (blk_cell bo.out 0).trans rfl; have jC : w65.cell? ⟨ba, 1, none⟩ = some (.int .u64 bx) := (blk_cell bo.out 1).trans rfl; have jB : w65.cell? ⟨ba, 2, none⟩ = some (.slice dc br.length b5) := (blk_cell bo.out 2).trans rfl; have hY := blk_frozen bo.out 0; have hX := blk_frozen bo.out 1; have hW := blk_frozen bo.out 2) | ((with_reducible refine gate_callee (f := 17) rfl ?_); refine goesL_ (some 61) rfl rfl Tryd.func17 (by kernel_rfl) rfl #[.agg #[.int .u64 bw, .int .u64 bx, .slice dc br.length b5], .string bQ] rfl zx35_11 ?_; (with_reducible refine (ledger_Find.calls bw bx _ _ br bQ db b7 b6 b4 di dj dk dO _ ?side1 ?side2 A27.out).mono ?_); (case side1 => repeat (first | exact (Kd.V_reads' bU.out).2.2 | (with_reducible refine Kd.C_alloc ?_ _) | (with_reducible refine Kd.C_drewN ?_ _) | (with_reducible refine Kd.C_drew ?_))); (case side2 => exact (Kd.V_reads' bU.out).2.1); rintro e w67 ⟨su, rfl, ho0, hb⟩; refine ⟨_, rfl, ?_⟩; replace bf := Aside0.mk (Kd.V_elder' zx35_8 (Kd.R_base ho0) hb); replace bm := Aside0.mk (Kd.V_elder' zx35_9 (Kd.R_base ho0) hb); replace bU := Aside0.mk (Kd.V_elder' zx35_17 (Kd.R_base ho0) hb); replace bX := Aside0.mk (Kd.V_elder' zx35_18 (Kd.R_base ho0) hb); have du := Aside0.mk (Kd.R_lower ho0 (below_size zx35_4)); replace bo := Aside0.mk (blk_below (g := ba) (o := .cells #[.int .u64 bw, .int .u64 bx, .slice dc br.length b5] 27 (0, 0)) zx35_0 hb); replace bp := Aside0.mk (blk_below (g := bb) (o := .cells #[.int .u64 bB, .int .u64 bD, .slice dh bC.length dg] 57 (0, 0)) zx35_1 hb); replace bH := Aside0.mk (blk_below (g := bh) (o := .cells #[.int .u64 bw, .int .u64 bx, .slice dc br.length b5] 27 (0, 0)) zx35_2 hb); replace bI := Aside0.mk (blk_below (g := bg) (o := .cells #[.int .u64 bB, .int .u64 bD, .slice dh bC.length dg] 57 (0, 0)) zx35_3 hb); replace HB := Aside0.mk (below_step zx35_4 hb); (try clear hb); (try clear hb2); (try clear hk); (try clear hi); (try clear ho0)) | ((with_reducible refine gate_dst (N := 15) rfl ?_); (try (refine gate_guard (by rfl) ?_; dsimp only)); refine box_event ?hg (N := 15) ?hd (cs := #[.string (⟨#[]⟩ : ByteArray), .int .u64 0, .int .u64 0, .slice none 0 0, .int .u64 0, .int .u64 0, .int .u64 0]) (t := 37) ?hr ?_; (case hd => rfl); (case hg => rfl); (case hr => first | (go_simp; done) | (go_simp; rfl)); intro bn hg w68 hbox hb; replace bf := Aside0.mk (Kd.V_below (Kd.V_elderB zx35_8 bn (Nat.le_of_eq hg.symm)) hb); replace bm := Aside0.mk (Kd.V_below (Kd.V_elderB zx35_9 bn (Nat.le_of_eq hg.symm)) hb); replace bU := Aside0.mk (Kd.V_below (Kd.V_elderB zx35_17 bn (Nat.le_of_eq hg.symm)) hb); replace bX := Aside0.mk (Kd.V_below (Kd.V_elderB zx35_18 bn (Nat.le_of_eq hg.symm)) hb); replace du := Aside0.mk (Kd.R_below zx35_19 hb); have bS := Aside0.mk (hbox); have sl := Aside0.mk ((by rw [hg]; exact (below_size zx35_4) : w.heap.size ≤ bn)); have gq := Aside0.mk ((by rw [hg]; exact (below_size zx35_4) : w.heap.size ≤ bn)); replace HB := Aside0.mk (below_step zx35_4 hb); have dC := Aside0.mk ((by rw [hg]; exact Nat.ne_of_lt (blk_lt (g := ba) (o := .cells #[.int .u64 bw, .int .u64 bx, .slice dc br.length b5] 27 (0, 0)) zx35_0) : ba ≠ bn)); have dI := Aside0.mk ((by rw [hg]; exact Nat.ne_of_gt (blk_lt (g := ba) (o := .cells #[.int .u64 bw, .int .u64 bx, .slice dc br.length b5] 27 (0, 0)) zx35_0) : bn ≠ ba)); replace bo := Aside0.mk (blk_below (g := ba) (o := .cells #[.int .u64 bw, .int .u64 bx, .slice dc br.length b5] 27 (0, 0)) zx35_0 hb); have gw := Aside0.mk ((by rw [hg]; exact Nat.ne_of_lt (blk_lt (g := bb) (o := .cells #[.int .u64 bB, .int .u64 bD, .slice dh bC.length dg] 57 (0, 0)) zx35_1) : bb ≠ bn)); have hv := Aside0.mk ((by rw [hg]; exact Nat.ne_of_gt (blk_lt (g := bb) (o := .cells #[.int .u64 bB, .int .u64 bD, .slice dh bC.length dg] 57 (0, 0)) zx35_1) : bn ≠ bb)); replace bp := Aside0.mk (blk_below (g := bb) (o := .cells #[.int .u64 bB, .int .u64 bD, .slice dh bC.length dg] 57 (0, 0)) zx35_1 hb); have gv := Aside0.mk ((by rw [hg]; exact Nat.ne_of_lt (blk_lt (g := bh) (o := .cells #[.int .u64 bw, .int .u64 bx, .slice dc br.length b5] 27 (0, 0)) zx35_2) : bh ≠ bn)); have hu := Aside0.mk ((by rw [hg]; exact Nat.ne_of_gt (blk_lt (g := bh) (o := .cells #[.int .u64 bw, .int .u64 bx, .slice dc br.length b5] 27 (0, 0)) zx35_2) : bn ≠ bh)); replace bH := Aside0.mk (blk_below (g := bh) (o := .cells #[.int .u64 bw, .int .u64 bx, .slice dc br.length b5] 27 (0, 0)) zx35_2 hb); have gu := Aside0.mk ((by rw [hg]; exact Nat.ne_of_lt (blk_lt (g := bg) (o := .cells #[.int .u64 bB, .int .u64 bD, .slice dh bC.length dg] 57 (0, 0)) zx35_3) : bg ≠ bn)); have ht := Aside0.mk ((by rw [hg]; exact Nat.ne_of_gt (blk_lt (g := bg) (o := .cells #[.int .u64 bB, .int .u64 bD, .slice dh bC.length dg] 57 (0, 0)) zx35_3) : bn ≠ bg)); replace bI := Aside0.mk (blk_below (g := bg) (o := .cells #[.int .u64 bB, .int .u64 bD, .slice dh bC.length dg] 57 (0, 0)) zx35_3 hb); clear hb hbox hg; have qW := dI.out; have qD := dC.out; have qV := hv.out; have qC := gw.out; have qU := hu.out; have qB := gv.out; have qT := ht.out; have qA := gu.out; have jA : w68.cell? ⟨bn, 0, none⟩ = some (.string (⟨#[]⟩ : ByteArray)) := (blk_cell bS.out 0).trans rfl; have jz : w68.cell? ⟨bn, 1, none⟩ = some (.int .u64 0) := (blk_cell bS.out 1).trans rfl; have jy : w68.cell? ⟨bn, 2, none⟩ = some (.int .u64 0) := (blk_cell bS.out 2).trans rfl; have jx : w68.cell? ⟨bn, 3, none⟩ = some (.slice none 0 0) := (blk_cell bS.out 3).trans rfl; have jw : w68.cell? ⟨bn, 4, none⟩ = some (.int .u64 0) := (blk_cell bS.out 4).trans rfl; have jv : w68.cell? ⟨bn, 5, none⟩ = some (.int .u64 0) := (blk_cell bS.out 5).trans rfl; have ju : w68.cell? ⟨bn, 6, none⟩ = some (.int .u64 0) := (blk_cell bS.out 6).trans rfl; have hV := blk_frozen bS.out 0; have hU := blk_frozen bS.out 1; have hT := blk_frozen bS.out 2; have hS := blk_frozen bS.out 3; have hR := blk_frozen bS.out 4; have hQ := blk_frozen bS.out 5; have hP := blk_frozen bS.out 6; obtain ⟨dm, dl, o9⟩ := Kd.R_slice du.out; subst o9))
  have n0_ : Aside0 (Kd.V k37 37 (((((((w68.setCell ⟨bn, 0, none⟩ (.string db)).setCell ⟨bn, 1, none⟩ (.int .u64 b7)).setCell ⟨bn, 2, none⟩ (.int .u64 b6)).setCell ⟨bn, 3, none⟩ (.slice dm b4.length dl)).setCell ⟨bn, 4, none⟩ (.int .u64 di)).setCell ⟨bn, 5, none⟩ (.int .u64 dj)).setCell ⟨bn, 6, none⟩ (.int .u64 dk)) w.heap.size (fun k_ => some k_ ≠ (.slice dm b4.length dl : Value).ownBlock ∧ k_ ≠ ba ∧ k_ ≠ bb ∧ k_ ≠ bh ∧ k_ ≠ bg ∧ k_ ≠ bn) (.slice bM bd.length bK) bd) := ⟨by (with_reducible repeat (first | apply Kd.V_alloc | apply Kd.V_drewN | apply Kd.V_drew)); exact Kd.V_mono (Kd.V_far (p := ⟨bn, 6, none⟩) (Kd.V_far (p := ⟨bn, 5, none⟩) (Kd.V_far (p := ⟨bn, 4, none⟩) (Kd.V_far (p := ⟨bn, 3, none⟩) (Kd.V_far (p := ⟨bn, 2, none⟩) (Kd.V_far (p := ⟨bn, 1, none⟩) (Kd.V_far (p := ⟨bn, 0, none⟩) (Kd.V_mono bf.out (fun k_ hk => (⟨hk, hk.2⟩ : _ ∧ k_ ≠ bn))) (fun _ hk => hk.2) (.string db)) (fun _ hk => hk.2) (.int .u64 b7)) (fun _ hk => hk.2) (.int .u64 b6)) (fun _ hk => hk.2) (.slice dm b4.length dl)) (fun _ hk => hk.2) (.int .u64 di)) (fun _ hk => hk.2) (.int .u64 dj)) (fun _ hk => hk.2) (.int .u64 dk)) (fun _ hk => ⟨hk.1.1.2, ⟨hk.1.1.1.1, ⟨hk.1.1.1.2.1, ⟨hk.1.1.1.2.2.1, ⟨hk.1.1.1.2.2.2, hk.1.2⟩⟩⟩⟩⟩)⟩
  have n1_ : Aside0 (Kd.V k84 84 (((((((w68.setCell ⟨bn, 0, none⟩ (.string db)).setCell ⟨bn, 1, none⟩ (.int .u64 b7)).setCell ⟨bn, 2, none⟩ (.int .u64 b6)).setCell ⟨bn, 3, none⟩ (.slice dm b4.length dl)).setCell ⟨bn, 4, none⟩ (.int .u64 di)).setCell ⟨bn, 5, none⟩ (.int .u64 dj)).setCell ⟨bn, 6, none⟩ (.int .u64 dk)) w.heap.size (fun k_ => some k_ ≠ (.slice dm b4.length dl : Value).ownBlock ∧ k_ ≠ ba ∧ k_ ≠ bb ∧ k_ ≠ bh ∧ k_ ≠ bg ∧ k_ ≠ bn) (.slice bL bc.length bJ) bc) := ⟨by (with_reducible repeat (first | apply Kd.V_alloc | apply Kd.V_drewN | apply Kd.V_drew)); exact Kd.V_mono (Kd.V_far (p := ⟨bn, 6, none⟩) (Kd.V_far (p := ⟨bn, 5, none⟩) (Kd.V_far (p := ⟨bn, 4, none⟩) (Kd.V_far (p := ⟨bn, 3, none⟩) (Kd.V_far (p := ⟨bn, 2, none⟩) (Kd.V_far (p := ⟨bn, 1, none⟩) (Kd.V_far (p := ⟨bn, 0, none⟩) (Kd.V_mono bm.out (fun k_ hk => (⟨hk, hk.2⟩ : _ ∧ k_ ≠ bn))) (fun _ hk => hk.2) (.string db)) (fun _ hk => hk.2) (.int .u64 b7)) (fun _ hk => hk.2) (.int .u64 b6)) (fun _ hk => hk.2) (.slice dm b4.length dl)) (fun _ hk => hk.2) (.int .u64 di)) (fun _ hk => hk.2) (.int .u64 dj)) (fun _ hk => hk.2) (.int .u64 dk)) (fun _ hk => ⟨hk.1.1.2, ⟨hk.1.1.1.1, ⟨hk.1.1.1.2.1, ⟨hk.1.1.1.2.2.1, ⟨hk.1.1.1.2.2.2, hk.1.2⟩⟩⟩⟩⟩)⟩
  have n2_ : Aside0 (Kd.V k37 37 (((((((w68.setCell ⟨bn, 0, none⟩ (.string db)).setCell ⟨bn, 1, none⟩ (.int .u64 b7)).setCell ⟨bn, 2, none⟩ (.int .u64 b6)).setCell ⟨bn, 3, none⟩ (.slice dm b4.length dl)).setCell ⟨bn, 4, none⟩ (.int .u64 di)).setCell ⟨bn, 5, none⟩ (.int .u64 dj)).setCell ⟨bn, 6, none⟩ (.int .u64 dk)) w.heap.size (fun k_ => some k_ ≠ (.slice dm b4.length dl : Value).ownBlock ∧ k_ ≠ ba ∧ k_ ≠ bb ∧ k_ ≠ bh ∧ k_ ≠ bg ∧ k_ ≠ bn) (.slice dc br.length b5) br) := ⟨by (with_reducible repeat (first | apply Kd.V_alloc | apply Kd.V_drewN | apply Kd.V_drew)); exact Kd.V_mono (Kd.V_far (p := ⟨bn, 6, none⟩) (Kd.V_far (p := ⟨bn, 5, none⟩) (Kd.V_far (p := ⟨bn, 4, none⟩) (Kd.V_far (p := ⟨bn, 3, none⟩) (Kd.V_far (p := ⟨bn, 2, none⟩) (Kd.V_far (p := ⟨bn, 1, none⟩) (Kd.V_far (p := ⟨bn, 0, none⟩) (Kd.V_mono bU.out (fun k_ hk => (⟨hk, hk.2⟩ : _ ∧ k_ ≠ bn))) (fun _ hk => hk.2) (.string db)) (fun _ hk => hk.2) (.int .u64 b7)) (fun _ hk => hk.2) (.int .u64 b6)) (fun _ hk => hk.2) (.slice dm b4.length dl)) (fun _ hk => hk.2) (.int .u64 di)) (fun _ hk => hk.2) (.int .u64 dj)) (fun _ hk => hk.2) (.int .u64 dk)) (fun _ hk => ⟨hk.1.1.2, ⟨hk.1.1.1.1, ⟨hk.1.1.1.2.1, ⟨hk.1.1.1.2.2.1, ⟨hk.1.1.1.2.2.2, hk.1.2⟩⟩⟩⟩⟩)⟩
  have n3_ : Aside0 (Kd.V k84 84 (((((((w68.setCell ⟨bn, 0, none⟩ (.string db)).setCell ⟨bn, 1, none⟩ (.int .u64 b7)).setCell ⟨bn, 2, none⟩ (.int .u64 b6)).setCell ⟨bn, 3, none⟩ (.slice dm b4.length dl)).setCell ⟨bn, 4, none⟩ (.int .u64 di)).setCell ⟨bn, 5, none⟩ (.int .u64 dj)).setCell ⟨bn, 6, none⟩ (.int .u64 dk)) w.heap.size (fun k_ => some k_ ≠ (.slice dm b4.length dl : Value).ownBlock ∧ k_ ≠ ba ∧ k_ ≠ bb ∧ k_ ≠ bh ∧ k_ ≠ bg ∧ k_ ≠ bn) (.slice dh bC.length dg) bC) := ⟨by (with_reducible repeat (first | apply Kd.V_alloc | apply Kd.V_drewN | apply Kd.V_drew)); exact Kd.V_mono (Kd.V_far (p := ⟨bn, 6, none⟩) (Kd.V_far (p := ⟨bn, 5, none⟩) (Kd.V_far (p := ⟨bn, 4, none⟩) (Kd.V_far (p := ⟨bn, 3, none⟩) (Kd.V_far (p := ⟨bn, 2, none⟩) (Kd.V_far (p := ⟨bn, 1, none⟩) (Kd.V_far (p := ⟨bn, 0, none⟩) (Kd.V_mono bX.out (fun k_ hk => (⟨hk, hk.2⟩ : _ ∧ k_ ≠ bn))) (fun _ hk => hk.2) (.string db)) (fun _ hk => hk.2) (.int .u64 b7)) (fun _ hk => hk.2) (.int .u64 b6)) (fun _ hk => hk.2) (.slice dm b4.length dl)) (fun _ hk => hk.2) (.int .u64 di)) (fun _ hk => hk.2) (.int .u64 dj)) (fun _ hk => hk.2) (.int .u64 dk)) (fun _ hk => ⟨hk.1.1.2, ⟨hk.1.1.1.1, ⟨hk.1.1.1.2.1, ⟨hk.1.1.1.2.2.1, ⟨hk.1.1.1.2.2.2, hk.1.2⟩⟩⟩⟩⟩)⟩
  have n4_ : Aside0 (Kd.R (Kd.int .u64) 24 (((((((w68.setCell ⟨bn, 0, none⟩ (.string db)).setCell ⟨bn, 1, none⟩ (.int .u64 b7)).setCell ⟨bn, 2, none⟩ (.int .u64 b6)).setCell ⟨bn, 3, none⟩ (.slice dm b4.length dl)).setCell ⟨bn, 4, none⟩ (.int .u64 di)).setCell ⟨bn, 5, none⟩ (.int .u64 dj)).setCell ⟨bn, 6, none⟩ (.int .u64 dk)) w.heap.size (fun _ => True) (.slice dm b4.length dl) b4) := ⟨by (with_reducible repeat (first | apply Kd.R_alloc | apply Kd.R_drewN | apply Kd.R_drew)); exact Kd.R_mono (Kd.R_far (p := ⟨bn, 6, none⟩) (Kd.R_far (p := ⟨bn, 5, none⟩) (Kd.R_far (p := ⟨bn, 4, none⟩) (Kd.R_far (p := ⟨bn, 3, none⟩) (Kd.R_far (p := ⟨bn, 2, none⟩) (Kd.R_far (p := ⟨bn, 1, none⟩) (Kd.R_far (p := ⟨bn, 0, none⟩) (Kd.R_types du.out bS.out (by decide)) (fun _ hk => hk.2) (.string db)) (fun _ hk => hk.2) (.int .u64 b7)) (fun _ hk => hk.2) (.int .u64 b6)) (fun _ hk => hk.2) (.slice dm b4.length dl)) (fun _ hk => hk.2) (.int .u64 di)) (fun _ hk => hk.2) (.int .u64 dj)) (fun _ hk => hk.2) (.int .u64 dk)) (fun _ hk => trivial)⟩
  have n5_ : Aside0 ((((((((w68.setCell ⟨bn, 0, none⟩ (.string db)).setCell ⟨bn, 1, none⟩ (.int .u64 b7)).setCell ⟨bn, 2, none⟩ (.int .u64 b6)).setCell ⟨bn, 3, none⟩ (.slice dm b4.length dl)).setCell ⟨bn, 4, none⟩ (.int .u64 di)).setCell ⟨bn, 5, none⟩ (.int .u64 dj)).setCell ⟨bn, 6, none⟩ (.int .u64 dk)).heap[ba]? = some (.cells #[.int .u64 bw, .int .u64 bx, .slice dc br.length b5] 27 (0, 0))) := ⟨by (iterate 7 ((with_reducible repeat (first | refine blk_drewN ?_ _ | refine blk_drew ?_ | refine blk_alloc ?_ _)); refine blk_far ?_ dC.out _)); (with_reducible repeat (first | refine blk_drewN ?_ _ | refine blk_drew ?_ | refine blk_alloc ?_ _)); exact bo.out⟩
  have n6_ : Aside0 ((((((((w68.setCell ⟨bn, 0, none⟩ (.string db)).setCell ⟨bn, 1, none⟩ (.int .u64 b7)).setCell ⟨bn, 2, none⟩ (.int .u64 b6)).setCell ⟨bn, 3, none⟩ (.slice dm b4.length dl)).setCell ⟨bn, 4, none⟩ (.int .u64 di)).setCell ⟨bn, 5, none⟩ (.int .u64 dj)).setCell ⟨bn, 6, none⟩ (.int .u64 dk)).heap[bb]? = some (.cells #[.int .u64 bB, .int .u64 bD, .slice dh bC.length dg] 57 (0, 0))) := ⟨by (iterate 7 ((with_reducible repeat (first | refine blk_drewN ?_ _ | refine blk_drew ?_ | refine blk_alloc ?_ _)); refine blk_far ?_ gw.out _)); (with_reducible repeat (first | refine blk_drewN ?_ _ | refine blk_drew ?_ | refine blk_alloc ?_ _)); exact bp.out⟩
  have n7_ : Aside0 ((((((((w68.setCell ⟨bn, 0, none⟩ (.string db)).setCell ⟨bn, 1, none⟩ (.int .u64 b7)).setCell ⟨bn, 2, none⟩ (.int .u64 b6)).setCell ⟨bn, 3, none⟩ (.slice dm b4.length dl)).setCell ⟨bn, 4, none⟩ (.int .u64 di)).setCell ⟨bn, 5, none⟩ (.int .u64 dj)).setCell ⟨bn, 6, none⟩ (.int .u64 dk)).heap[bh]? = some (.cells #[.int .u64 bw, .int .u64 bx, .slice dc br.length b5] 27 (0, 0))) := ⟨by (iterate 7 ((with_reducible repeat (first | refine blk_drewN ?_ _ | refine blk_drew ?_ | refine blk_alloc ?_ _)); refine blk_far ?_ gv.out _)); (with_reducible repeat (first | refine blk_drewN ?_ _ | refine blk_drew ?_ | refine blk_alloc ?_ _)); exact bH.out⟩
  have n8_ : Aside0 ((((((((w68.setCell ⟨bn, 0, none⟩ (.string db)).setCell ⟨bn, 1, none⟩ (.int .u64 b7)).setCell ⟨bn, 2, none⟩ (.int .u64 b6)).setCell ⟨bn, 3, none⟩ (.slice dm b4.length dl)).setCell ⟨bn, 4, none⟩ (.int .u64 di)).setCell ⟨bn, 5, none⟩ (.int .u64 dj)).setCell ⟨bn, 6, none⟩ (.int .u64 dk)).heap[bg]? = some (.cells #[.int .u64 bB, .int .u64 bD, .slice dh bC.length dg] 57 (0, 0))) := ⟨by (iterate 7 ((with_reducible repeat (first | refine blk_drewN ?_ _ | refine blk_drew ?_ | refine blk_alloc ?_ _)); refine blk_far ?_ gu.out _)); (with_reducible repeat (first | refine blk_drewN ?_ _ | refine blk_drew ?_ | refine blk_alloc ?_ _)); exact bI.out⟩
  have n9_ : Aside0 ((((((((w68.setCell ⟨bn, 0, none⟩ (.string db)).setCell ⟨bn, 1, none⟩ (.int .u64 b7)).setCell ⟨bn, 2, none⟩ (.int .u64 b6)).setCell ⟨bn, 3, none⟩ (.slice dm b4.length dl)).setCell ⟨bn, 4, none⟩ (.int .u64 di)).setCell ⟨bn, 5, none⟩ (.int .u64 dj)).setCell ⟨bn, 6, none⟩ (.int .u64 dk)).heap[bn]? = some (.cells #[.string db, .int .u64 b7, .int .u64 b6, .slice dm b4.length dl, .int .u64 di, .int .u64 dj, .int .u64 dk] 37 (0, 0))) := ⟨by (with_reducible repeat (first | refine blk_drewN ?_ _ | refine blk_drew ?_ | refine blk_alloc ?_ _)); refine blk_put (cs := #[.string db, .int .u64 b7, .int .u64 b6, .slice dm b4.length dl, .int .u64 di, .int .u64 dj, .int .u64 0]) ?_ 6 _ rfl; (with_reducible repeat (first | refine blk_drewN ?_ _ | refine blk_drew ?_ | refine blk_alloc ?_ _)); refine blk_put (cs := #[.string db, .int .u64 b7, .int .u64 b6, .slice dm b4.length dl, .int .u64 di, .int .u64 0, .int .u64 0]) ?_ 5 _ rfl; (with_reducible repeat (first | refine blk_drewN ?_ _ | refine blk_drew ?_ | refine blk_alloc ?_ _)); refine blk_put (cs := #[.string db, .int .u64 b7, .int .u64 b6, .slice dm b4.length dl, .int .u64 0, .int .u64 0, .int .u64 0]) ?_ 4 _ rfl; (with_reducible repeat (first | refine blk_drewN ?_ _ | refine blk_drew ?_ | refine blk_alloc ?_ _)); refine blk_put (cs := #[.string db, .int .u64 b7, .int .u64 b6, .slice none 0 0, .int .u64 0, .int .u64 0, .int .u64 0]) ?_ 3 _ rfl; (with_reducible repeat (first | refine blk_drewN ?_ _ | refine blk_drew ?_ | refine blk_alloc ?_ _)); refine blk_put (cs := #[.string db, .int .u64 b7, .int .u64 0, .slice none 0 0, .int .u64 0, .int .u64 0, .int .u64 0]) ?_ 2 _ rfl; (with_reducible repeat (first | refine blk_drewN ?_ _ | refine blk_drew ?_ | refine blk_alloc ?_ _)); refine blk_put (cs := #[.string db, .int .u64 0, .int .u64 0, .slice none 0 0, .int .u64 0, .int .u64 0, .int .u64 0]) ?_ 1 _ rfl; (with_reducible repeat (first | refine blk_drewN ?_ _ | refine blk_drew ?_ | refine blk_alloc ?_ _)); refine blk_put (cs := #[.string (⟨#[]⟩ : ByteArray), .int .u64 0, .int .u64 0, .slice none 0 0, .int .u64 0, .int .u64 0, .int .u64 0]) ?_ 0 _ rfl; (with_reducible repeat (first | refine blk_drewN ?_ _ | refine blk_drew ?_ | refine blk_alloc ?_ _)); exact bS.out⟩
  have n10_ : Aside0 (Below w.heap.size w (((((((w68.setCell ⟨bn, 0, none⟩ (.string db)).setCell ⟨bn, 1, none⟩ (.int .u64 b7)).setCell ⟨bn, 2, none⟩ (.int .u64 b6)).setCell ⟨bn, 3, none⟩ (.slice dm b4.length dl)).setCell ⟨bn, 4, none⟩ (.int .u64 di)).setCell ⟨bn, 5, none⟩ (.int .u64 dj)).setCell ⟨bn, 6, none⟩ (.int .u64 dk))) := ⟨by repeat (first | (with_reducible first | exact HB.out | apply below_alloc | apply pw_below_drewN | apply below_drew1 | refine below_set ?_ dE.out | refine below_set ?_ dF.out | refine below_set ?_ dp.out | refine below_set ?_ dn.out | refine below_set ?_ gq.out) | exact HB.out)⟩
  (try clear bf)
  (try clear bm)
  (try clear bU)
  (try clear bX)
  (try clear du)
  (try clear bo)
  (try clear bp)
  (try clear bH)
  (try clear bI)
  (try clear bS)
  (try clear HB)
  generalize (((((((w68.setCell ⟨bn, 0, none⟩ (.string db)).setCell ⟨bn, 1, none⟩ (.int .u64 b7)).setCell ⟨bn, 2, none⟩ (.int .u64 b6)).setCell ⟨bn, 3, none⟩ (.slice dm b4.length dl)).setCell ⟨bn, 4, none⟩ (.int .u64 di)).setCell ⟨bn, 5, none⟩ (.int .u64 dj)).setCell ⟨bn, 6, none⟩ (.int .u64 dk)) = w75 at n0_ n1_ n2_ n3_ n4_ n5_ n6_ n7_ n8_ n9_ n10_ ⊢
  have bf := n0_
  have bm := n1_
  have bU := n2_
  have bX := n3_
  have du := n4_
  have bo := n5_
  have bp := n6_
  have bH := n7_
  have bI := n8_
  have bS := n9_
  have HB := n10_
  clear n0_ n1_ n2_ n3_ n4_ n5_ n6_ n7_ n8_ n9_ n10_
  replace bf := Aside0.mk (Kd.V_drew bf.out)
  replace bm := Aside0.mk (Kd.V_drew bm.out)
  replace bU := Aside0.mk (Kd.V_drew bU.out)
  replace bX := Aside0.mk (Kd.V_drew bX.out)
  replace du := Aside0.mk (Kd.R_drew du.out)
  replace bo := Aside0.mk (blk_drew bo.out)
  replace bp := Aside0.mk (blk_drew bp.out)
  replace bH := Aside0.mk (blk_drew bH.out)
  replace bI := Aside0.mk (blk_drew bI.out)
  replace bS := Aside0.mk (blk_drew bS.out)
  replace HB := Aside0.mk (below_drew1 HB.out)
  refine start_ (n := 26) (S := fun w' => w'.cell? ⟨ba, 0, none⟩ = some (.int .u64 bw) ∧ w'.cell? ⟨ba, 1, none⟩ = some (.int .u64 bx) ∧ w'.cell? ⟨ba, 2, none⟩ = some (.slice dc br.length b5) ∧ w'.cell? ⟨bb, 0, none⟩ = some (.int .u64 bB) ∧ w'.cell? ⟨bb, 1, none⟩ = some (.int .u64 bD) ∧ w'.cell? ⟨bb, 2, none⟩ = some (.slice dh bC.length dg)) (ds := []) #[Ff,Ff,Ff,Ff,Ff,Ff,Ff,Ff,Ff,Ff,Ff,Ff,Ff,Ff,Ff,Ff,Ff,Ff,Ff,Ff,Ff,Ff,Ff,Ff,Ff,Ff] (by kernel_rfl) rfl rfl ⟨(blk_cell bo.out 0).trans rfl, (blk_cell bo.out 1).trans rfl, (blk_cell bo.out 2).trans rfl, (blk_cell bp.out 0).trans rfl, (blk_cell bp.out 1).trans rfl, (blk_cell bp.out 2).trans rfl⟩ (fun hHeld => ?_); refine with_tabW postroomlaw10_LedgerPlays.tab16 postroomlaw10_LedgerPlays.bits16 (fun HT_ HW_ => ?_)
  generalize w75.drew = w76 at bf bm bU bX du bo bp bH bI bS HB hHeld ⊢
  refine pp_ 1 (some 65) HT_.out ?_
  refine pp_ 4 (some 68) HT_.out ?_
  refine take_ (i := 0) (N := some 64) (v := ?_) (a' := ?_) #[Tt,Tt,Ff,Ff,Tt,Ff,Ff,Ff,Ff,Ff,Ff,Ff,Ff,Ff,Ff,Ff,Ff,Ff,Ff,Ff,Ff,Ff,Ff,Ff,Ff,Ff] rfl rfl (take_ofW HT_.out HW_.out (by kernel_rfl)) (fun _ _ _ h => h) (Or.inl ⟨by rfl, ?_⟩) hHeld ?_ ?_
  rotate_left
  ·rintro w' ⟨s0, s1, s2, s3, s4, s5⟩
   go_simp
   with_reducible rfl
  rotate_left
  ·simp only [Act.put, List.setIfInBounds_toArray, List.set_cons_zero, List.set_cons_succ, i64_w, i32_w]
   rfl
  refine take_ (i := 3) (N := some 67) (v := ?_) (a' := ?_) #[Tt,Tt,Ff,Tt,Tt,Ff,Ff,Ff,Ff,Ff,Ff,Ff,Ff,Ff,Ff,Ff,Ff,Ff,Ff,Ff,Ff,Ff,Ff,Ff,Ff,Ff] rfl rfl (take_ofW HT_.out HW_.out (by kernel_rfl)) (fun _ _ _ h => h) (Or.inl ⟨by rfl, ?_⟩) hHeld ?_ ?_
  rotate_left
  ·rintro w' ⟨s0, s1, s2, s3, s4, s5⟩
   go_simp
   with_reducible rfl
  rotate_left
  ·simp only [Act.put, List.setIfInBounds_toArray, List.set_cons_zero, List.set_cons_succ, i64_w, i32_w]
   rfl
  refine one_ (i := 2) (N := some 66) #[Tt,Tt,Tt,Tt,Tt,Ff,Ff,Ff,Ff,Ff,Ff,Ff,Ff,Ff,Ff,Ff,Ff,Ff,Ff,Ff,Ff,Ff,Ff,Ff,Ff,Ff] rfl rfl (one_of HT_.out (by kernel_rfl)) (by decide) (fun K hK => ?_)
  refine goes_ Tryd.func18 (by kernel_rfl) rfl #[.agg #[.int .u64 bw, .int .u64 bx, .slice dc br.length b5], .string bQ] (by rfl) rfl rfl zx35_11 ?_
  with_reducible refine (ledger_Pending.calls k1 bw bx _ _ br bQ dM _ ?side1 ?side2 A28.out).mono ?_
  (case side1 => repeat (first | exact (Kd.V_reads' bU.out).2.2 | (with_reducible refine Kd.C_alloc ?_ _) | (with_reducible refine Kd.C_drewN ?_ _) | (with_reducible refine Kd.C_drew ?_)))
  (case side2 => exact (Kd.V_reads' bU.out).2.1)
  rintro e w77 ⟨ss, rfl, ho0, hb⟩
  refine ⟨_, rfl, ?_⟩
  replace bf := Aside0.mk (Kd.V_elder' zx35_8 (Kd.R_base ho0) hb)
  replace bm := Aside0.mk (Kd.V_elder' zx35_9 (Kd.R_base ho0) hb)
  replace bU := Aside0.mk (Kd.V_elder' zx35_17 (Kd.R_base ho0) hb)
  replace bX := Aside0.mk (Kd.V_elder' zx35_18 (Kd.R_base ho0) hb)
  have dW := Aside0.mk (Kd.R_lower (Kd.R_new' ho0 (Kd.R_lt zx35_19)) (below_size zx35_12))
  replace du := Aside0.mk (Kd.R_elder' zx35_19 (Kd.R_base ho0) hb)
  replace bo := Aside0.mk (blk_below (g := ba) (o := .cells #[.int .u64 bw, .int .u64 bx, .slice dc br.length b5] 27 (0, 0)) zx35_0 hb)
  replace bp := Aside0.mk (blk_below (g := bb) (o := .cells #[.int .u64 bB, .int .u64 bD, .slice dh bC.length dg] 57 (0, 0)) zx35_1 hb)
  replace bH := Aside0.mk (blk_below (g := bh) (o := .cells #[.int .u64 bw, .int .u64 bx, .slice dc br.length b5] 27 (0, 0)) zx35_2 hb)
  replace bI := Aside0.mk (blk_below (g := bg) (o := .cells #[.int .u64 bB, .int .u64 bD, .slice dh bC.length dg] 57 (0, 0)) zx35_3 hb)
  replace bS := Aside0.mk (blk_below (g := bn) (o := .cells #[.string db, .int .u64 b7, .int .u64 b6, .slice dm b4.length dl, .int .u64 di, .int .u64 dj, .int .u64 dk] 37 (0, 0)) zx35_32 hb)
  replace HB := Aside0.mk (below_step zx35_12 hb)
  (try clear hb)
  (try clear hb2)
  (try clear hk)
  (try clear hi)
  (try clear ho0)
  refine hK.out _ _ ⟨(blk_cell bo.out 0).trans rfl, (blk_cell bo.out 1).trans rfl, (blk_cell bo.out 2).trans rfl, (blk_cell bp.out 0).trans rfl, (blk_cell bp.out 1).trans rfl, (blk_cell bp.out 2).trans rfl⟩ (fun hHeld => ?_)
  clear hK K
  refine norm_ (a' := ?_) ?_ ?_
  rotate_left
  ·show Act.put _ (some 66) _ = _
   simp only [Act.put, List.setIfInBounds_toArray, List.set_cons_zero, List.set_cons_succ, i64_w, i32_w]
   rfl
  refine one_ (i := 5) (N := some 69) #[Tt,Tt,Tt,Tt,Tt,Tt,Ff,Ff,Ff,Ff,Ff,Ff,Ff,Ff,Ff,Ff,Ff,Ff,Ff,Ff,Ff,Ff,Ff,Ff,Ff,Ff] rfl rfl (one_of HT_.out (by kernel_rfl)) (by decide) (fun K hK => ?_)
  refine goes_ Tryd.func28 (by kernel_rfl) rfl #[.agg #[.int .u64 bB, .int .u64 bD, .slice dh bC.length dg], .string bQ] (by rfl) rfl rfl zx35_11 ?_
  with_reducible refine (postroomref10_Pending.calls k1 bB bD _ _ bC bQ dH _ ?side1 ?side2 A29.out).mono ?_
  (case side1 => repeat (first | exact (Kd.V_reads' bX.out).2.2 | (with_reducible refine Kd.C_alloc ?_ _) | (with_reducible refine Kd.C_drewN ?_ _) | (with_reducible refine Kd.C_drew ?_)))
  (case side2 => exact (Kd.V_reads' bX.out).2.1)
  rintro e w78 ⟨sr, rfl, ho0, hb⟩
  refine ⟨_, rfl, ?_⟩
  replace bf := Aside0.mk (Kd.V_elder' zx35_8 (Kd.R_base ho0) hb)
  replace bm := Aside0.mk (Kd.V_elder' zx35_9 (Kd.R_base ho0) hb)
  replace bU := Aside0.mk (Kd.V_elder' zx35_17 (Kd.R_base ho0) hb)
  replace bX := Aside0.mk (Kd.V_elder' zx35_18 (Kd.R_base ho0) hb)
  have gp := Aside0.mk (Kd.R_lower (Kd.R_new' (Kd.R_new' ho0 (Kd.R_lt zx35_19)) (Kd.R_lt (by (with_reducible repeat (first | apply Kd.R_alloc | apply Kd.R_drewN | apply Kd.R_drew)); exact dW.out))) (below_size zx35_12))
  replace du := Aside0.mk (Kd.R_elder' zx35_19 (Kd.R_base ho0) hb)
  replace dW := Aside0.mk (Kd.R_elder' (by (with_reducible repeat (first | apply Kd.R_alloc | apply Kd.R_drewN | apply Kd.R_drew)); exact dW.out) (Kd.R_base ho0) hb)
  replace bo := Aside0.mk (blk_below (g := ba) (o := .cells #[.int .u64 bw, .int .u64 bx, .slice dc br.length b5] 27 (0, 0)) zx35_0 hb)
  replace bp := Aside0.mk (blk_below (g := bb) (o := .cells #[.int .u64 bB, .int .u64 bD, .slice dh bC.length dg] 57 (0, 0)) zx35_1 hb)
  replace bH := Aside0.mk (blk_below (g := bh) (o := .cells #[.int .u64 bw, .int .u64 bx, .slice dc br.length b5] 27 (0, 0)) zx35_2 hb)
  replace bI := Aside0.mk (blk_below (g := bg) (o := .cells #[.int .u64 bB, .int .u64 bD, .slice dh bC.length dg] 57 (0, 0)) zx35_3 hb)
  replace bS := Aside0.mk (blk_below (g := bn) (o := .cells #[.string db, .int .u64 b7, .int .u64 b6, .slice dm b4.length dl, .int .u64 di, .int .u64 dj, .int .u64 dk] 37 (0, 0)) zx35_32 hb)
  replace HB := Aside0.mk (below_step zx35_12 hb)
  (try clear hb)
  (try clear hb2)
  (try clear hk)
  (try clear hi)
  (try clear ho0)
  obtain ⟨qp, qi, mE⟩ := Kd.R_slice dW.out
  (first | subst mE | (injection mE with f1_ f2_ f3_; have f4_ := f1_.symm; have f5_ := f3_.symm; clear f1_ f2_ f3_; subst f4_; subst f5_))
  obtain ⟨qo, qh, mD⟩ := Kd.R_slice gp.out
  (first | subst mD | (injection mD with f1_ f2_ f3_; have f4_ := f1_.symm; have f5_ := f3_.symm; clear f1_ f2_ f3_; subst f4_; subst f5_))
  refine hK.out _ _ ⟨(blk_cell bo.out 0).trans rfl, (blk_cell bo.out 1).trans rfl, (blk_cell bo.out 2).trans rfl, (blk_cell bp.out 0).trans rfl, (blk_cell bp.out 1).trans rfl, (blk_cell bp.out 2).trans rfl⟩ (fun hHeld => ?_)
  clear hK K
  refine norm_ (a' := ?_) ?_ ?_
  rotate_left
  ·show Act.put _ (some 69) _ = _
   simp only [Act.put, List.setIfInBounds_toArray, List.set_cons_zero, List.set_cons_succ, i64_w, i32_w]
   rfl
  refine one_ (i := 6) (N := some 70) #[Tt,Tt,Tt,Tt,Tt,Tt,Tt,Ff,Ff,Ff,Ff,Ff,Ff,Ff,Ff,Ff,Ff,Ff,Ff,Ff,Ff,Ff,Ff,Ff,Ff,Ff] rfl rfl (one_of HT_.out (by kernel_rfl)) (by decide) (fun K hK => ?_)
  refine goes_ Tryd.func21 (by kernel_rfl) rfl #[.slice qp dM.length qi, .slice qo dH.length qh] (by rfl) rfl rfl zx35_11 ?_
  with_reducible refine (postroomref10_Same.calls k1 _ _ dM _ _ dH true _ ?side1 ?side2 ?side3 ?side4 A30.out).mono ?_
  (case side1 => repeat (first | exact (Kd.R_reads' dW.out).2.2 | (with_reducible refine Kd.C_alloc ?_ _) | (with_reducible refine Kd.C_drewN ?_ _) | (with_reducible refine Kd.C_drew ?_)))
  (case side2 => exact (Kd.R_reads' dW.out).2.1)
  (case side3 => repeat (first | exact (Kd.R_reads' gp.out).2.2 | (with_reducible refine Kd.C_alloc ?_ _) | (with_reducible refine Kd.C_drewN ?_ _) | (with_reducible refine Kd.C_drew ?_)))
  (case side4 => exact (Kd.R_reads' gp.out).2.1)
  rintro e w' ⟨rfl, ⟨nd, rfl⟩⟩
  refine ⟨_, rfl, ?_⟩
  refine hK.out _ _ ⟨(blk_cell bo.out 0).trans rfl, (blk_cell bo.out 1).trans rfl, (blk_cell bo.out 2).trans rfl, (blk_cell bp.out 0).trans rfl, (blk_cell bp.out 1).trans rfl, (blk_cell bp.out 2).trans rfl⟩ (fun hHeld => ?_)
  clear hK K
  refine norm_ (a' := ?_) ?_ ?_
  rotate_left
  ·show Act.put _ (some 70) _ = _
   simp only [Act.put, List.setIfInBounds_toArray, List.set_cons_zero, List.set_cons_succ, i64_w, i32_w]
   rfl
  refine pp_ 7 (some 71) HT_.out ?_
  refine pp_ 8 (some 72) HT_.out ?_
  refine pp_ 10 (some 74) HT_.out ?_
  refine pp_ 11 (some 75) HT_.out ?_
  refine pp_ 14 (some 78) HT_.out ?_
  refine pp_ 15 (some 79) HT_.out ?_
  refine take_ (i := 9) (N := some 73) (v := ?_) (a' := ?_) #[Tt,Tt,Tt,Tt,Tt,Tt,Tt,Tt,Tt,Tt,Tt,Tt,Ff,Ff,Tt,Tt,Ff,Ff,Ff,Ff,Ff,Ff,Ff,Ff,Ff,Ff] rfl rfl (take_ofW HT_.out HW_.out (by kernel_rfl)) (fun _ _ _ h => h) (Or.inl ⟨by rfl, ?_⟩) hHeld ?_ ?_
  rotate_left
  ·rintro w' ⟨s0, s1, s2, s3, s4, s5⟩
   go_simp
   with_reducible rfl
  rotate_left
  ·simp only [Act.put, List.setIfInBounds_toArray, List.set_cons_zero, List.set_cons_succ, i64_w, i32_w]
   rfl
  refine take_ (i := 13) (N := some 77) (v := ?_) (a' := ?_) #[Tt,Tt,Tt,Tt,Tt,Tt,Tt,Tt,Tt,Tt,Tt,Tt,Ff,Tt,Tt,Tt,Ff,Ff,Ff,Ff,Ff,Ff,Ff,Ff,Ff,Ff] rfl rfl (take_ofW HT_.out HW_.out (by kernel_rfl)) (fun _ _ _ h => h) (Or.inl ⟨by rfl, ?_⟩) hHeld ?_ ?_
  rotate_left
  ·rintro w' ⟨s0, s1, s2, s3, s4, s5⟩
   go_simp
   with_reducible rfl
  rotate_left
  ·simp only [Act.put, List.setIfInBounds_toArray, List.set_cons_zero, List.set_cons_succ, i64_w, i32_w]
   rfl
  refine one_ (i := 12) (N := some 76) #[Tt,Tt,Tt,Tt,Tt,Tt,Tt,Tt,Tt,Tt,Tt,Tt,Tt,Tt,Tt,Tt,Ff,Ff,Ff,Ff,Ff,Ff,Ff,Ff,Ff,Ff] rfl rfl (one_of HT_.out (by kernel_rfl)) (by decide) (fun K hK => ?_)
  refine goes_ Tryd.func19 (by kernel_rfl) rfl #[.agg #[.int .u64 bw, .int .u64 bx, .slice dc br.length b5], .string bQ, .int .u64 a2] (by rfl) rfl rfl zx35_11 ?_
  with_reducible refine (ledger_Waits.calls k1 bw bx _ _ br bQ a2 dw _ ?side1 ?side2 A32.out).mono ?_
  (case side1 => repeat (first | exact (Kd.V_reads' bU.out).2.2 | (with_reducible refine Kd.C_alloc ?_ _) | (with_reducible refine Kd.C_drewN ?_ _) | (with_reducible refine Kd.C_drew ?_)))
  (case side2 => exact (Kd.V_reads' bU.out).2.1)
  rintro e w81 ⟨rfl, hb⟩
  refine ⟨_, rfl, ?_⟩
  have n0_ := Aside0.mk (Kd.V_below zx35_8 hb)
  have n1_ := Aside0.mk (Kd.V_below zx35_9 hb)
  have n2_ := Aside0.mk (Kd.V_below zx35_17 hb)
  have n3_ := Aside0.mk (Kd.V_below zx35_18 hb)
  have n4_ := Aside0.mk (Kd.R_below zx35_19 hb)
  have n7_ := Aside0.mk (blk_below (g := ba) (o := .cells #[.int .u64 bw, .int .u64 bx, .slice dc br.length b5] 27 (0, 0)) zx35_0 hb)
  have n8_ := Aside0.mk (blk_below (g := bb) (o := .cells #[.int .u64 bB, .int .u64 bD, .slice dh bC.length dg] 57 (0, 0)) zx35_1 hb)
  have n9_ := Aside0.mk (blk_below (g := bh) (o := .cells #[.int .u64 bw, .int .u64 bx, .slice dc br.length b5] 27 (0, 0)) zx35_2 hb)
  have n10_ := Aside0.mk (blk_below (g := bg) (o := .cells #[.int .u64 bB, .int .u64 bD, .slice dh bC.length dg] 57 (0, 0)) zx35_3 hb)
  have n11_ := Aside0.mk (blk_below (g := bn) (o := .cells #[.string db, .int .u64 b7, .int .u64 b6, .slice dm b4.length dl, .int .u64 di, .int .u64 dj, .int .u64 dk] 37 (0, 0)) zx35_32 hb)
  have n12_ := Aside0.mk (below_step zx35_12 hb)
  clear bf
  clear bm
  (try clear bU)
  (try clear bX)
  (try clear du)
  (try clear dW)
  (try clear gp)
  clear bo
  clear bp
  clear bH
  clear bI
  clear bS
  clear HB
  have bf := n0_
  have bm := n1_
  have bU := n2_
  have bX := n3_
  have du := n4_
  have bo := n7_
  have bp := n8_
  have bH := n9_
  have bI := n10_
  have bS := n11_
  have HB := n12_
  clear n0_ n1_ n2_ n3_ n4_ n7_ n8_ n9_ n10_ n11_ n12_
  (try clear hb)
  (try clear hb2)
  (try clear hk)
  (try clear hi)
  refine hK.out _ _ ⟨(blk_cell bo.out 0).trans rfl, (blk_cell bo.out 1).trans rfl, (blk_cell bo.out 2).trans rfl, (blk_cell bp.out 0).trans rfl, (blk_cell bp.out 1).trans rfl, (blk_cell bp.out 2).trans rfl⟩ (fun hHeld => ?_)
  clear hK K
  refine norm_ (a' := ?_) ?_ ?_
  rotate_left
  ·show Act.put _ (some 76) _ = _
   simp only [Act.put, List.setIfInBounds_toArray, List.set_cons_zero, List.set_cons_succ, i64_w, i32_w]
   rfl
  refine one_ (i := 16) (N := some 80) #[Tt,Tt,Tt,Tt,Tt,Tt,Tt,Tt,Tt,Tt,Tt,Tt,Tt,Tt,Tt,Tt,Tt,Ff,Ff,Ff,Ff,Ff,Ff,Ff,Ff,Ff] rfl rfl (one_of HT_.out (by kernel_rfl)) (by decide) (fun K hK => ?_)
  refine goes_ Tryd.func29 (by kernel_rfl) rfl #[.agg #[.int .u64 bB, .int .u64 bD, .slice dh bC.length dg], .string bQ, .int .u64 a2] (by rfl) rfl rfl zx35_11 ?_
  with_reducible refine (postroomref10_Waits.calls k1 bB bD _ _ bC bQ a2 dv _ ?side1 ?side2 A33.out).mono ?_
  (case side1 => repeat (first | exact (Kd.V_reads' bX.out).2.2 | (with_reducible refine Kd.C_alloc ?_ _) | (with_reducible refine Kd.C_drewN ?_ _) | (with_reducible refine Kd.C_drew ?_)))
  (case side2 => exact (Kd.V_reads' bX.out).2.1)
  rintro e w82 ⟨rfl, hb⟩
  refine ⟨_, rfl, ?_⟩
  have n0_ := Aside0.mk (Kd.V_below zx35_8 hb)
  have n1_ := Aside0.mk (Kd.V_below zx35_9 hb)
  have n2_ := Aside0.mk (Kd.V_below zx35_17 hb)
  have n3_ := Aside0.mk (Kd.V_below zx35_18 hb)
  have n4_ := Aside0.mk (Kd.R_below zx35_19 hb)
  have n7_ := Aside0.mk (blk_below (g := ba) (o := .cells #[.int .u64 bw, .int .u64 bx, .slice dc br.length b5] 27 (0, 0)) zx35_0 hb)
  have n8_ := Aside0.mk (blk_below (g := bb) (o := .cells #[.int .u64 bB, .int .u64 bD, .slice dh bC.length dg] 57 (0, 0)) zx35_1 hb)
  have n9_ := Aside0.mk (blk_below (g := bh) (o := .cells #[.int .u64 bw, .int .u64 bx, .slice dc br.length b5] 27 (0, 0)) zx35_2 hb)
  have n10_ := Aside0.mk (blk_below (g := bg) (o := .cells #[.int .u64 bB, .int .u64 bD, .slice dh bC.length dg] 57 (0, 0)) zx35_3 hb)
  have n11_ := Aside0.mk (blk_below (g := bn) (o := .cells #[.string db, .int .u64 b7, .int .u64 b6, .slice dm b4.length dl, .int .u64 di, .int .u64 dj, .int .u64 dk] 37 (0, 0)) zx35_32 hb)
  have n12_ := Aside0.mk (below_step zx35_12 hb)
  clear bf
  clear bm
  (try clear bU)
  (try clear bX)
  (try clear du)
  (try clear dW)
  (try clear gp)
  clear bo
  clear bp
  clear bH
  clear bI
  clear bS
  clear HB
  have bf := n0_
  have bm := n1_
  have bU := n2_
  have bX := n3_
  have du := n4_
  have bo := n7_
  have bp := n8_
  have bH := n9_
  have bI := n10_
  have bS := n11_
  have HB := n12_
  clear n0_ n1_ n2_ n3_ n4_ n7_ n8_ n9_ n10_ n11_ n12_
  (try clear hb)
  (try clear hb2)
  (try clear hk)
  (try clear hi)
  refine hK.out _ _ ⟨(blk_cell bo.out 0).trans rfl, (blk_cell bo.out 1).trans rfl, (blk_cell bo.out 2).trans rfl, (blk_cell bp.out 0).trans rfl, (blk_cell bp.out 1).trans rfl, (blk_cell bp.out 2).trans rfl⟩ (fun hHeld => ?_)
  clear hK K
  refine norm_ (a' := ?_) ?_ ?_
  rotate_left
  ·show Act.put _ (some 80) _ = _
   simp only [Act.put, List.setIfInBounds_toArray, List.set_cons_zero, List.set_cons_succ, i64_w, i32_w]
   rfl
  refine pp_ 17 (some 81) HT_.out ?_
  refine pp_ 18 (some 82) HT_.out ?_
  refine pp_ 19 (some 83) HT_.out ?_
  refine take_ (i := 20) (N := some 84) (v := ?_) (a' := ?_) #[Tt,Tt,Tt,Tt,Tt,Tt,Tt,Tt,Tt,Tt,Tt,Tt,Tt,Tt,Tt,Tt,Tt,Tt,Tt,Tt,Tt,Ff,Ff,Ff,Ff,Ff] rfl rfl (take_ofW HT_.out HW_.out (by kernel_rfl)) (fun _ _ _ h => h) (Or.inl ⟨by rfl, ?_⟩) hHeld ?_ ?_
  rotate_left
  ·rintro w' ⟨s0, s1, s2, s3, s4, s5⟩
   go_simp
   with_reducible rfl
  rotate_left
  ·simp only [Act.put, List.setIfInBounds_toArray, List.set_cons_zero, List.set_cons_succ, i64_w, i32_w]
   rfl
  refine take_ (i := 22) (N := some 86) (v := ?_) (a' := ?_) #[Tt,Tt,Tt,Tt,Tt,Tt,Tt,Tt,Tt,Tt,Tt,Tt,Tt,Tt,Tt,Tt,Tt,Tt,Tt,Tt,Tt,Ff,Tt,Ff,Ff,Ff] rfl rfl (take_ofW HT_.out HW_.out (by kernel_rfl)) (fun _ _ _ h => h) (Or.inl ⟨by rfl, ?_⟩) hHeld ?_ ?_
  rotate_left
  ·rintro w' ⟨s0, s1, s2, s3, s4, s5⟩
   go_simp
   with_reducible rfl
  rotate_left
  ·simp only [Act.put, List.setIfInBounds_toArray, List.set_cons_zero, List.set_cons_succ, i64_w, i32_w]
   rfl
  refine one_ (i := 21) (N := some 85) #[Tt,Tt,Tt,Tt,Tt,Tt,Tt,Tt,Tt,Tt,Tt,Tt,Tt,Tt,Tt,Tt,Tt,Tt,Tt,Tt,Tt,Tt,Tt,Ff,Ff,Ff] rfl rfl (one_of HT_.out (by kernel_rfl)) (by decide) (fun K hK => ?_)
  refine goes_ Tryd.func22 (by kernel_rfl) rfl #[.agg #[.int .u64 bw, .int .u64 bx, .slice dc br.length b5]] (by rfl) rfl rfl zx35_11 ?_
  with_reducible refine (ledger_Free.calls k1 bw bx _ _ br dr _ ?side1 ?side2 A35.out).mono ?_
  (case side1 => repeat (first | exact (Kd.V_reads' bU.out).2.2 | (with_reducible refine Kd.C_alloc ?_ _) | (with_reducible refine Kd.C_drewN ?_ _) | (with_reducible refine Kd.C_drew ?_)))
  (case side2 => exact (Kd.V_reads' bU.out).2.1)
  rintro e w83 ⟨rfl, hb⟩
  refine ⟨_, rfl, ?_⟩
  have n0_ := Aside0.mk (Kd.V_below zx35_8 hb)
  have n1_ := Aside0.mk (Kd.V_below zx35_9 hb)
  have n2_ := Aside0.mk (Kd.V_below zx35_17 hb)
  have n3_ := Aside0.mk (Kd.V_below zx35_18 hb)
  have n4_ := Aside0.mk (Kd.R_below zx35_19 hb)
  have n7_ := Aside0.mk (blk_below (g := ba) (o := .cells #[.int .u64 bw, .int .u64 bx, .slice dc br.length b5] 27 (0, 0)) zx35_0 hb)
  have n8_ := Aside0.mk (blk_below (g := bb) (o := .cells #[.int .u64 bB, .int .u64 bD, .slice dh bC.length dg] 57 (0, 0)) zx35_1 hb)
  have n9_ := Aside0.mk (blk_below (g := bh) (o := .cells #[.int .u64 bw, .int .u64 bx, .slice dc br.length b5] 27 (0, 0)) zx35_2 hb)
  have n10_ := Aside0.mk (blk_below (g := bg) (o := .cells #[.int .u64 bB, .int .u64 bD, .slice dh bC.length dg] 57 (0, 0)) zx35_3 hb)
  have n11_ := Aside0.mk (blk_below (g := bn) (o := .cells #[.string db, .int .u64 b7, .int .u64 b6, .slice dm b4.length dl, .int .u64 di, .int .u64 dj, .int .u64 dk] 37 (0, 0)) zx35_32 hb)
  have n12_ := Aside0.mk (below_step zx35_12 hb)
  clear bf
  clear bm
  (try clear bU)
  (try clear bX)
  (try clear du)
  (try clear dW)
  (try clear gp)
  clear bo
  clear bp
  clear bH
  clear bI
  clear bS
  clear HB
  have bf := n0_
  have bm := n1_
  have bU := n2_
  have bX := n3_
  have du := n4_
  have bo := n7_
  have bp := n8_
  have bH := n9_
  have bI := n10_
  have bS := n11_
  have HB := n12_
  clear n0_ n1_ n2_ n3_ n4_ n7_ n8_ n9_ n10_ n11_ n12_
  (try clear hb)
  (try clear hb2)
  (try clear hk)
  (try clear hi)
  refine hK.out _ _ ⟨(blk_cell bo.out 0).trans rfl, (blk_cell bo.out 1).trans rfl, (blk_cell bo.out 2).trans rfl, (blk_cell bp.out 0).trans rfl, (blk_cell bp.out 1).trans rfl, (blk_cell bp.out 2).trans rfl⟩ (fun hHeld => ?_)
  clear hK K
  refine norm_ (a' := ?_) ?_ ?_
  rotate_left
  ·show Act.put _ (some 85) _ = _
   simp only [Act.put, List.setIfInBounds_toArray, List.set_cons_zero, List.set_cons_succ, i64_w, i32_w]
   rfl
  refine one_ (i := 23) (N := some 87) #[Tt,Tt,Tt,Tt,Tt,Tt,Tt,Tt,Tt,Tt,Tt,Tt,Tt,Tt,Tt,Tt,Tt,Tt,Tt,Tt,Tt,Tt,Tt,Tt,Ff,Ff] rfl rfl (one_of HT_.out (by kernel_rfl)) (by decide) (fun K hK => ?_)
  refine goes_ Tryd.func30 (by kernel_rfl) rfl #[.agg #[.int .u64 bB, .int .u64 bD, .slice dh bC.length dg]] (by rfl) rfl rfl zx35_11 ?_
  with_reducible refine (postroomref10_Free.calls k1 bB bD _ _ bC dq _ ?side1 ?side2 A36.out).mono ?_
  (case side1 => repeat (first | exact (Kd.V_reads' bX.out).2.2 | (with_reducible refine Kd.C_alloc ?_ _) | (with_reducible refine Kd.C_drewN ?_ _) | (with_reducible refine Kd.C_drew ?_)))
  (case side2 => exact (Kd.V_reads' bX.out).2.1)
  rintro e w84 ⟨rfl, hb⟩
  refine ⟨_, rfl, ?_⟩
  have n0_ := Aside0.mk (Kd.V_below zx35_8 hb)
  have n1_ := Aside0.mk (Kd.V_below zx35_9 hb)
  have n2_ := Aside0.mk (Kd.V_below zx35_17 hb)
  have n3_ := Aside0.mk (Kd.V_below zx35_18 hb)
  have n4_ := Aside0.mk (Kd.R_below zx35_19 hb)
  have n7_ := Aside0.mk (blk_below (g := ba) (o := .cells #[.int .u64 bw, .int .u64 bx, .slice dc br.length b5] 27 (0, 0)) zx35_0 hb)
  have n8_ := Aside0.mk (blk_below (g := bb) (o := .cells #[.int .u64 bB, .int .u64 bD, .slice dh bC.length dg] 57 (0, 0)) zx35_1 hb)
  have n9_ := Aside0.mk (blk_below (g := bh) (o := .cells #[.int .u64 bw, .int .u64 bx, .slice dc br.length b5] 27 (0, 0)) zx35_2 hb)
  have n10_ := Aside0.mk (blk_below (g := bg) (o := .cells #[.int .u64 bB, .int .u64 bD, .slice dh bC.length dg] 57 (0, 0)) zx35_3 hb)
  have n11_ := Aside0.mk (blk_below (g := bn) (o := .cells #[.string db, .int .u64 b7, .int .u64 b6, .slice dm b4.length dl, .int .u64 di, .int .u64 dj, .int .u64 dk] 37 (0, 0)) zx35_32 hb)
  have n12_ := Aside0.mk (below_step zx35_12 hb)
  clear bf
  clear bm
  (try clear bU)
  (try clear bX)
  (try clear du)
  (try clear dW)
  (try clear gp)
  clear bo
  clear bp
  clear bH
  clear bI
  clear bS
  clear HB
  have bf := n0_
  have bm := n1_
  have bU := n2_
  have bX := n3_
  have du := n4_
  have bo := n7_
  have bp := n8_
  have bH := n9_
  have bI := n10_
  have bS := n11_
  have HB := n12_
  clear n0_ n1_ n2_ n3_ n4_ n7_ n8_ n9_ n10_ n11_ n12_
  (try clear hb)
  (try clear hb2)
  (try clear hk)
  (try clear hi)
  refine hK.out _ _ ⟨(blk_cell bo.out 0).trans rfl, (blk_cell bo.out 1).trans rfl, (blk_cell bo.out 2).trans rfl, (blk_cell bp.out 0).trans rfl, (blk_cell bp.out 1).trans rfl, (blk_cell bp.out 2).trans rfl⟩ (fun hHeld => ?_)
  clear hK K
  refine norm_ (a' := ?_) ?_ ?_
  rotate_left
  ·show Act.put _ (some 87) _ = _
   simp only [Act.put, List.setIfInBounds_toArray, List.set_cons_zero, List.set_cons_succ, i64_w, i32_w]
   rfl
  refine pp_ 24 (some 88) HT_.out ?_
  refine pp_ 25 (some 89) HT_.out ?_
  refine done_ (done_of HT_.out (by kernel_rfl)) ?_
  try go_wp2
  go_loopg [17, 18] k1 (fun kq v17 v18 w' => ∃ (ga : Bool) (bq : Int), v17 = .bool ga ∧ v18 = .int .i64 bq ∧ Aside0 (postroomlaw10_LedgerPlays.l1 kq l0 a1 a2 be bQ dO ga bq bw bx br bB bD bC db b7 b6 b4 di dj dk = some r) ∧ Aside0 (kq ≤ k1) ∧ Aside0 (Kd.V k37 37 w' w.heap.size (fun k_ => some k_ ≠ ((.slice dm b4.length dl) : Value).ownBlock ∧ k_ ≠ ba ∧ k_ ≠ bb ∧ k_ ≠ bh ∧ k_ ≠ bg ∧ k_ ≠ bn) (.slice dc br.length b5) br) ∧ Aside0 (Kd.V k84 84 w' w.heap.size (fun k_ => some k_ ≠ ((.slice dm b4.length dl) : Value).ownBlock ∧ k_ ≠ ba ∧ k_ ≠ bb ∧ k_ ≠ bh ∧ k_ ≠ bg ∧ k_ ≠ bn) (.slice dh bC.length dg) bC) ∧ Aside0 (Kd.V k37 37 w' w.heap.size (fun k_ => some k_ ≠ ((.slice dm b4.length dl) : Value).ownBlock ∧ k_ ≠ ba ∧ k_ ≠ bb ∧ k_ ≠ bh ∧ k_ ≠ bg ∧ k_ ≠ bn) (.slice dc br.length b5) br) ∧ Aside0 (Kd.V k84 84 w' w.heap.size (fun k_ => some k_ ≠ ((.slice dm b4.length dl) : Value).ownBlock ∧ k_ ≠ ba ∧ k_ ≠ bb ∧ k_ ≠ bh ∧ k_ ≠ bg ∧ k_ ≠ bn) (.slice dh bC.length dg) bC) ∧ Aside0 (Kd.R (Kd.int .u64) 24 w' w.heap.size (fun _ => True) (.slice dm b4.length dl) b4) ∧ Aside0 (w'.heap[ba]? = some (.cells #[.int .u64 bw, .int .u64 bx, (.slice dc br.length b5)] 27 (0, 0))) ∧ Aside0 (w'.heap[bb]? = some (.cells #[.int .u64 bB, .int .u64 bD, (.slice dh bC.length dg)] 57 (0, 0))) ∧ Aside0 (w'.heap[bh]? = some (.cells #[.int .u64 bw, .int .u64 bx, (.slice dc br.length b5)] 27 (0, 0))) ∧ Aside0 (w'.heap[bg]? = some (.cells #[.int .u64 bB, .int .u64 bD, (.slice dh bC.length dg)] 57 (0, 0))) ∧ Aside0 (w'.heap[bn]? = some (.cells #[.string db, .int .u64 b7, .int .u64 b6, (.slice dm b4.length dl), .int .u64 di, .int .u64 dj, .int .u64 dk] 37 (0, 0))) ∧ Aside0 (Below w.heap.size w w'))
  case atStart => exact ⟨(false), (0), zx35_35, zx35_35, H', ⟨Nat.le_refl _⟩, ⟨by (with_reducible repeat (first | apply Kd.V_alloc | apply Kd.V_drewN | apply Kd.V_drew)); exact Kd.V_mono bU.out (fun _ hk => ⟨hk.1.1.1, ⟨hk.1.1.2.1, ⟨hk.1.1.2.2.1, ⟨hk.1.1.2.2.2.1, ⟨hk.1.1.2.2.2.2.1, hk.1.1.2.2.2.2.2⟩⟩⟩⟩⟩)⟩, ⟨by (with_reducible repeat (first | apply Kd.V_alloc | apply Kd.V_drewN | apply Kd.V_drew)); exact Kd.V_mono bX.out (fun _ hk => ⟨hk.1.1.1, ⟨hk.1.1.2.1, ⟨hk.1.1.2.2.1, ⟨hk.1.1.2.2.2.1, ⟨hk.1.1.2.2.2.2.1, hk.1.1.2.2.2.2.2⟩⟩⟩⟩⟩)⟩, ⟨by (with_reducible repeat (first | apply Kd.V_alloc | apply Kd.V_drewN | apply Kd.V_drew)); exact Kd.V_mono bU.out (fun _ hk => ⟨hk.1.1.1, ⟨hk.1.1.2.1, ⟨hk.1.1.2.2.1, ⟨hk.1.1.2.2.2.1, ⟨hk.1.1.2.2.2.2.1, hk.1.1.2.2.2.2.2⟩⟩⟩⟩⟩)⟩, ⟨by (with_reducible repeat (first | apply Kd.V_alloc | apply Kd.V_drewN | apply Kd.V_drew)); exact Kd.V_mono bX.out (fun _ hk => ⟨hk.1.1.1, ⟨hk.1.1.2.1, ⟨hk.1.1.2.2.1, ⟨hk.1.1.2.2.2.1, ⟨hk.1.1.2.2.2.2.1, hk.1.1.2.2.2.2.2⟩⟩⟩⟩⟩)⟩, ⟨by (with_reducible repeat (first | apply Kd.R_alloc | apply Kd.R_drewN | apply Kd.R_drew)); exact Kd.R_mono du.out (fun _ hk => trivial)⟩, ⟨by (with_reducible repeat (first | refine blk_drewN ?_ _ | refine blk_drew ?_ | refine blk_alloc ?_ _)); exact bo.out⟩, ⟨by (with_reducible repeat (first | refine blk_drewN ?_ _ | refine blk_drew ?_ | refine blk_alloc ?_ _)); exact bp.out⟩, ⟨by (with_reducible repeat (first | refine blk_drewN ?_ _ | refine blk_drew ?_ | refine blk_alloc ?_ _)); exact bH.out⟩, ⟨by (with_reducible repeat (first | refine blk_drewN ?_ _ | refine blk_drew ?_ | refine blk_alloc ?_ _)); exact bI.out⟩, ⟨by (with_reducible repeat (first | refine blk_drewN ?_ _ | refine blk_drew ?_ | refine blk_alloc ?_ _)); exact bS.out⟩, ⟨by repeat (first | (with_reducible first | exact HB.out | apply below_alloc | apply pw_below_drewN | apply below_drew1 | refine below_set ?_ dE.out | refine below_set ?_ dF.out | refine below_set ?_ dp.out | refine below_set ?_ dn.out | refine below_set ?_ gq.out) | exact HB.out)⟩⟩
  case round =>
   clear H'
   (try clear c1); (try clear c2); (try clear p2); (try clear c3); (try clear c5); (try clear c6); (try clear c7); (try clear c12); (try clear c17); (try clear c18); (try clear c19); (try clear c21); (try clear c22); (try clear c28); (try clear c29); (try clear c30); (try clear c59); (try clear c60); (try clear c62); (try clear c69); (try clear c70); (try clear c71); (try clear c72); (try clear jR); (try clear jQ); (try clear jP); (try clear jO); (try clear jN); (try clear jM); (try clear jL); (try clear jK); (try clear jJ); (try clear jI); (try clear jH); (try clear jG); (try clear jF); (try clear jE); (try clear jD); (try clear jC); (try clear jB); (try clear jA); (try clear jz); (try clear jy); (try clear jx); (try clear jw); (try clear jv); (try clear ju); (try clear jn); (try clear jm); (try clear jl); (try clear jk); (try clear jj); (try clear ji); (try clear jh); (try clear jg); (try clear jf); (try clear je); (try clear jd); (try clear jc); (try clear jb); (try clear ja); (try clear hZ); (try clear hY); (try clear hX); (try clear hW); (try clear hV); (try clear hU); (try clear hT); (try clear hS); (try clear hR); (try clear hQ); (try clear hP)
   obtain ⟨ga, bq, rfl, rfl, HA, HK2, bf, bm, df, de, dd, bo, bp, bH, bI, bS, HB⟩ := hrel
   cases gk with
   | zero => exact absurd HA.out (by simp [postroomlaw10_LedgerPlays.l1])
   | succ k2 => ?_
   have H := HA.out
   clear HA
   simp only [postroomlaw10_LedgerPlays.l1] at H
   by_cases c85 : bq < (br.length : Int)
   case neg =>
    rw [if_neg c85] at H
    have mK : decide (bq < (br.length : Int)) = false := decide_eq_false c85
    clear c85
    by_cases hs : (dO != ga) = true
    ·rw [if_pos hs] at H
     exact absurd H (by simp)
    rw [if_neg hs] at H
    have qn : (dO != ga) = false := by simpa using hs
    (try (have qm : decide (dO = ga) = true := by simpa using hs))
    (try (have ql : (dO == ga) = true := by simpa using hs))
    clear hs
    have H' := Aside0.mk H
    clear H
    have o2 := dt.out
    have oU := dy.out
    have o1 := bA.out
    have oT := bO.out
    have o0 := bz.out
    have oS := bN.out
    have oZ := dC.out
    have oR := dI.out
    obtain ⟨mt, ms, mr, mh, mg, mf⟩ := cx35_bc3 bo.out
    go_wp2
    go_roundg k2
    case measure => have := HK1.out; have := HK2.out; omega
    case rel => exact ⟨(wrap64 (be + 1)), (bw), (bx), (br), (bB), (bD), (bC), (.slice dc br.length b5), (.slice dh bC.length dg), zx35_35, H', ⟨by have := HK1.out; have := HK2.out; omega⟩, ⟨by (with_reducible repeat (first | apply Kd.V_alloc | apply Kd.V_drewN | apply Kd.V_drew)); exact Kd.V_mono bf.out (fun _ hk => ⟨hk.2.1, hk.2.2.1⟩)⟩, ⟨by (with_reducible repeat (first | apply Kd.V_alloc | apply Kd.V_drewN | apply Kd.V_drew)); exact Kd.V_mono bm.out (fun _ hk => ⟨hk.2.1, hk.2.2.1⟩)⟩, ⟨by (with_reducible repeat (first | refine blk_drewN ?_ _ | refine blk_drew ?_ | refine blk_alloc ?_ _)); exact bo.out⟩, ⟨by (with_reducible repeat (first | refine blk_drewN ?_ _ | refine blk_drew ?_ | refine blk_alloc ?_ _)); exact bp.out⟩, ⟨by repeat (first | (with_reducible first | exact HB.out | apply below_alloc | apply pw_below_drewN | apply below_drew1 | refine below_set ?_ dE.out | refine below_set ?_ dF.out | refine below_set ?_ dp.out | refine below_set ?_ dn.out | refine below_set ?_ gq.out) | exact HB.out)⟩⟩
   rw [if_pos c85] at H
   have mK : decide (bq < (br.length : Int)) = true := decide_eq_true c85
   clear c85
   by_cases c86 : ga = true
   ·subst c86
    have H1 : (postroomlaw10_LedgerPlays.l1 k2 l0 a1 a2 be bQ dO true (wrap64 (bq + 1)) bw bx br bB bD bC db b7 b6 b4 di dj dk) = some r := by rw [if_pos rfl] at H; exact H
    clear H
    have H := H1
    clear H1
    have H' := Aside0.mk H
    clear H
    have qS := dt.out
    have qz := dy.out
    have qR := bA.out
    have qy := bO.out
    have qQ := bz.out
    have qx := bN.out
    have qP := dC.out
    have qw := dI.out
    obtain ⟨oN, oM, oL, oK, oJ, oI⟩ := cx35_bc3 bo.out
    try go_wp2
    replace bf := Aside0.mk (Kd.V_drew bf.out)
    replace bm := Aside0.mk (Kd.V_drew bm.out)
    replace df := Aside0.mk (Kd.V_drew df.out)
    replace de := Aside0.mk (Kd.V_drew de.out)
    replace dd := Aside0.mk (Kd.R_drew dd.out)
    replace bo := Aside0.mk (blk_drew bo.out)
    replace bp := Aside0.mk (blk_drew bp.out)
    replace bH := Aside0.mk (blk_drew bH.out)
    replace bI := Aside0.mk (blk_drew bI.out)
    replace bS := Aside0.mk (blk_drew bS.out)
    replace HB := Aside0.mk (below_drew1 HB.out)
    refine start_ (n := 34) (S := fun w' => True) (ds := []) #[Ff,Ff,Ff,Ff,Ff,Ff,Ff,Ff,Ff,Ff,Ff,Ff,Ff,Ff,Ff,Ff,Ff,Ff,Ff,Ff,Ff,Ff,Ff,Ff,Ff,Ff,Ff,Ff,Ff,Ff,Ff,Ff,Ff,Ff] (by kernel_rfl) rfl rfl trivial (fun hHeld => ?_); refine with_tabW postroomlaw10_LedgerPlays.tab22 postroomlaw10_LedgerPlays.bits22 (fun HT_ HW_ => ?_)
    generalize wr.drew = w92 at bf bm df de dd bo bp bH bI bS HB hHeld ⊢
    refine pp_ 0 (some 97) HT_.out ?_
    refine pp_ 1 (some 98) HT_.out ?_
    refine pu_ 2 (some 99) HT_.out ?_
    refine pu_ 3 (some 100) HT_.out ?_
    refine pu_ 4 (some 101) HT_.out ?_
    refine pu_ 5 (some 102) HT_.out ?_
    refine pu_ 6 (some 103) HT_.out ?_
    refine pu_ 7 (some 104) HT_.out ?_
    refine pu_ 8 (some 105) HT_.out ?_
    refine pu_ 9 (some 106) HT_.out ?_
    refine pu_ 10 (some 107) HT_.out ?_
    refine pu_ 11 (some 108) HT_.out ?_
    refine pu_ 12 (some 109) HT_.out ?_
    refine pu_ 13 (some 110) HT_.out ?_
    refine pu_ 14 (some 111) HT_.out ?_
    refine pu_ 15 (some 112) HT_.out ?_
    refine pu_ 16 (some 113) HT_.out ?_
    refine pu_ 17 (some 114) HT_.out ?_
    refine pu_ 18 (some 115) HT_.out ?_
    refine pu_ 19 (some 116) HT_.out ?_
    refine pu_ 20 (some 117) HT_.out ?_
    refine pu_ 21 (some 118) HT_.out ?_
    refine pu_ 22 (some 119) HT_.out ?_
    refine pu_ 23 (some 120) HT_.out ?_
    refine pu_ 24 (some 121) HT_.out ?_
    refine pu_ 25 (some 122) HT_.out ?_
    refine pu_ 26 (some 123) HT_.out ?_
    refine pu_ 27 (some 124) HT_.out ?_
    refine pu_ 28 (some 125) HT_.out ?_
    refine pu_ 29 (some 126) HT_.out ?_
    refine pu_ 30 (some 127) HT_.out ?_
    refine pu_ 31 (some 128) HT_.out ?_
    refine pp_ 32 (some 129) HT_.out ?_
    refine pp_ 33 (some 17) HT_.out ?_
    refine done_ (done_of HT_.out (by kernel_rfl)) ?_
    try go_wp2
    go_roundg k2
    case measure => have := HK1.out; have := HK2.out; omega
    case rel => exact ⟨(true), (wrap64 (bq + 1)), zx35_35, zx35_35, H', ⟨by have := HK1.out; have := HK2.out; omega⟩, ⟨by (with_reducible repeat (first | apply Kd.V_alloc | apply Kd.V_drewN | apply Kd.V_drew)); exact bf.out⟩, ⟨by (with_reducible repeat (first | apply Kd.V_alloc | apply Kd.V_drewN | apply Kd.V_drew)); exact bm.out⟩, ⟨by (with_reducible repeat (first | apply Kd.V_alloc | apply Kd.V_drewN | apply Kd.V_drew)); exact df.out⟩, ⟨by (with_reducible repeat (first | apply Kd.V_alloc | apply Kd.V_drewN | apply Kd.V_drew)); exact de.out⟩, ⟨by (with_reducible repeat (first | apply Kd.R_alloc | apply Kd.R_drewN | apply Kd.R_drew)); exact dd.out⟩, ⟨by (with_reducible repeat (first | refine blk_drewN ?_ _ | refine blk_drew ?_ | refine blk_alloc ?_ _)); exact bo.out⟩, ⟨by (with_reducible repeat (first | refine blk_drewN ?_ _ | refine blk_drew ?_ | refine blk_alloc ?_ _)); exact bp.out⟩, ⟨by (with_reducible repeat (first | refine blk_drewN ?_ _ | refine blk_drew ?_ | refine blk_alloc ?_ _)); exact bH.out⟩, ⟨by (with_reducible repeat (first | refine blk_drewN ?_ _ | refine blk_drew ?_ | refine blk_alloc ?_ _)); exact bI.out⟩, ⟨by (with_reducible repeat (first | refine blk_drewN ?_ _ | refine blk_drew ?_ | refine blk_alloc ?_ _)); exact bS.out⟩, ⟨by repeat (first | (with_reducible first | exact HB.out | apply below_alloc | apply pw_below_drewN | apply below_drew1 | refine below_set ?_ dE.out | refine below_set ?_ dF.out | refine below_set ?_ dp.out | refine below_set ?_ dn.out | refine below_set ?_ gq.out) | exact HB.out)⟩⟩
   replace c86 := Bool.eq_false_iff.mpr c86
   subst c86
   have H1 : (if 0 ≤ bq then (if ((rd_T37 br bq).f0).toList = bQ.toList then (if b6 = ((rd_T37 br bq).f2) then (postroomlaw10_LedgerPlays.l1 k2 l0 a1 a2 be bQ dO (b7 == ((rd_T37 br bq).f1)) (wrap64 (bq + 1)) bw bx br bB bD bC db b7 b6 b4 di dj dk) else (none)) else (postroomlaw10_LedgerPlays.l1 k2 l0 a1 a2 be bQ dO false (wrap64 (bq + 1)) bw bx br bB bD bC db b7 b6 b4 di dj dk)) else (none)) = some r := by rw [if_neg (show ¬ (false = true) by decide)] at H; exact H
   clear H
   have H := H1
   clear H1
   by_cases c93 : 0 ≤ bq
   case neg =>
    rw [if_neg c93] at H
    exact absurd H (by simp)
   rw [if_pos c93] at H
   have se : decide (0 ≤ bq) = true := decide_eq_true c93
   clear c93
   by_cases c94 : ((rd_T37 br bq).f0).toList = bQ.toList
   case neg =>
    rw [if_neg c94] at H
    have mJ : (((rd_T37 br bq).f0).toList == bQ.toList) = false := beq_eq_false_iff_ne.mpr c94
    have mI : (((rd_T37 br bq).f0).toList != bQ.toList) = true := bne_iff_ne.mpr c94
    have H' := Aside0.mk H
    clear H
    have o6 := dt.out
    have oY := dy.out
    have o5 := bA.out
    have oX := bO.out
    have o4 := bz.out
    have oW := bN.out
    have o3 := dC.out
    have oV := dI.out
    obtain ⟨mw, mv, mu, ml, mj, mi⟩ := cx35_bc3 bo.out
    try go_wp2
    replace bf := Aside0.mk (Kd.V_drew bf.out)
    replace bm := Aside0.mk (Kd.V_drew bm.out)
    replace df := Aside0.mk (Kd.V_drew df.out)
    replace de := Aside0.mk (Kd.V_drew de.out)
    replace dd := Aside0.mk (Kd.R_drew dd.out)
    replace bo := Aside0.mk (blk_drew bo.out)
    replace bp := Aside0.mk (blk_drew bp.out)
    replace bH := Aside0.mk (blk_drew bH.out)
    replace bI := Aside0.mk (blk_drew bI.out)
    replace bS := Aside0.mk (blk_drew bS.out)
    replace HB := Aside0.mk (below_drew1 HB.out)
    have gI : 0 ≤ (bq : Int) := of_decide_eq_true zx35_31
    have gH : bq < (br.length : Int) := of_decide_eq_true zx35_31
    obtain ⟨bP, gr, go, mb, d2, d1, d0, dA, dZ, dY, dX, d7, d8⟩ := at_T37 (Kd.V_reads' bf.out).2.2 bq gI gH
    cases mb
    obtain ⟨mH, gP, gQ, gl⟩ := Kd.V_get bf.out z37 bq gI (by first | exact gH | exact of_decide_eq_true zx35_31 | (have e_ := (Kd.V_reads' bf.out).1; omega))
    obtain ⟨hJ, hI, rfl, dL, dN⟩ := k37_openF gQ
    have dB := gl 3 _ rfl
    rw [add_field _ _ 3 (by omega)] at dB
    replace dB := Option.some.inj (dB.symm.trans dA)
    injection dB with hva_ hvn_ hvc_
    rw [hva_] at dN
    rw [hvc_] at dL
    have gM := Aside0.mk (show Kd.V (Kd.int .u64) 24 _ w.heap.size _ _ ((rd_T37 br bq).f3) from Kd.V_mk dL dN)
    clear hva_ hvn_ hvc_ dN dL
    clear gl gP
    have gL := Aside0.mk d8
    have j4 := Aside0.mk d7
    clear d8 d7
    replace gI := eq_true gI
    replace gH := eq_true gH
    refine start_ (n := 34) (S := fun w' => w'.cell? ⟨ba, 0, none⟩ = some (.int .u64 bw) ∧ w'.cell? ⟨ba, 1, none⟩ = some (.int .u64 bx) ∧ w'.cell? ⟨ba, 2, none⟩ = some (.slice (some bP) br.length b5) ∧ w'.cell? (bP.add ((bq).toNat * 7)) = some (.string ((rd_T37 br bq).f0)) ∧ w'.cell? ⟨(bP.add ((bq).toNat * 7)).block, (bP.add ((bq).toNat * 7)).off + 1, none⟩ = some (.int .u64 ((rd_T37 br bq).f1)) ∧ w'.cell? ⟨(bP.add ((bq).toNat * 7)).block, (bP.add ((bq).toNat * 7)).off + 2, none⟩ = some (.int .u64 ((rd_T37 br bq).f2)) ∧ w'.cell? ⟨(bP.add ((bq).toNat * 7)).block, (bP.add ((bq).toNat * 7)).off + 3, none⟩ = some (.slice gr ((rd_T37 br bq).f3).length go) ∧ w'.cell? ⟨(bP.add ((bq).toNat * 7)).block, (bP.add ((bq).toNat * 7)).off + 4, none⟩ = some (.int .u64 ((rd_T37 br bq).f4)) ∧ w'.cell? ⟨(bP.add ((bq).toNat * 7)).block, (bP.add ((bq).toNat * 7)).off + 5, none⟩ = some (.int .u64 ((rd_T37 br bq).f5)) ∧ w'.cell? ⟨(bP.add ((bq).toNat * 7)).block, (bP.add ((bq).toNat * 7)).off + 6, none⟩ = some (.int .u64 ((rd_T37 br bq).f6))) (ds := []) #[Ff,Ff,Ff,Ff,Ff,Ff,Ff,Ff,Ff,Ff,Ff,Ff,Ff,Ff,Ff,Ff,Ff,Ff,Ff,Ff,Ff,Ff,Ff,Ff,Ff,Ff,Ff,Ff,Ff,Ff,Ff,Ff,Ff,Ff] (by kernel_rfl) rfl rfl ⟨(blk_cell bo.out 0).trans rfl, (blk_cell bo.out 1).trans rfl, (blk_cell bo.out 2).trans rfl, d2, d1, d0, dA, dZ, dY, dX⟩ (fun hHeld => ?_); refine with_tabW postroomlaw10_LedgerPlays.tab22 postroomlaw10_LedgerPlays.bits22 (fun HT_ HW_ => ?_)
    generalize wr.drew = sp at bf bm df de dd bo bp bH bI bS HB gM gL d2 d1 d0 dA dZ dY dX hHeld ⊢
    refine pp_ 0 (some 97) HT_.out ?_
    refine pp_ 1 (some 98) HT_.out ?_
    refine pp_ 2 (some 99) HT_.out ?_
    refine pp_ 4 (some 101) HT_.out ?_
    refine pp_ 8 (some 105) HT_.out ?_
    refine take_ (i := 3) (N := some 100) (v := ?_) (a' := ?_) #[Tt,Tt,Tt,Tt,Tt,Ff,Ff,Ff,Tt,Ff,Ff,Ff,Ff,Ff,Ff,Ff,Ff,Ff,Ff,Ff,Ff,Ff,Ff,Ff,Ff,Ff,Ff,Ff,Ff,Ff,Ff,Ff,Ff,Ff] rfl rfl (take_ofW HT_.out HW_.out (by kernel_rfl)) (fun _ _ _ h => h) (Or.inl ⟨by rfl, ?_⟩) hHeld ?_ ?_
    rotate_left
    ·rintro w' ⟨s0, s1, s2, s3, s4, s5, s6, s7, s8, s9⟩
     go_simp
     with_reducible rfl
    rotate_left
    ·simp only [Act.put, List.setIfInBounds_toArray, List.set_cons_zero, List.set_cons_succ, i64_w, i32_w]
     rfl
    refine pp_ 5 (some 102) HT_.out ?_
    refine pp_ 6 (some 103) HT_.out ?_
    refine take_ (i := 7) (N := some 104) (v := ?_) (a' := ?_) #[Tt,Tt,Tt,Tt,Tt,Tt,Tt,Tt,Tt,Ff,Ff,Ff,Ff,Ff,Ff,Ff,Ff,Ff,Ff,Ff,Ff,Ff,Ff,Ff,Ff,Ff,Ff,Ff,Ff,Ff,Ff,Ff,Ff,Ff] rfl rfl (take_ofW HT_.out HW_.out (by kernel_rfl)) (fun _ _ _ h => h) (Or.inl ⟨by rfl, ?_⟩) hHeld ?_ ?_
    rotate_left
    ·rintro w' ⟨s0, s1, s2, s3, s4, s5, s6, s7, s8, s9⟩
     go_simp
     with_reducible rfl
    rotate_left
    ·simp only [Act.put, List.setIfInBounds_toArray, List.set_cons_zero, List.set_cons_succ, i64_w, i32_w]
     rfl
    refine pp_ 9 (some 106) HT_.out ?_
    refine pp_ 10 (some 107) HT_.out ?_
    refine pu_ 11 (some 108) HT_.out ?_
    refine pu_ 12 (some 109) HT_.out ?_
    refine pu_ 13 (some 110) HT_.out ?_
    refine pu_ 14 (some 111) HT_.out ?_
    refine pu_ 15 (some 112) HT_.out ?_
    refine pu_ 16 (some 113) HT_.out ?_
    refine pu_ 17 (some 114) HT_.out ?_
    refine pu_ 18 (some 115) HT_.out ?_
    refine pu_ 19 (some 116) HT_.out ?_
    refine pp_ 20 (some 117) HT_.out ?_
    refine pp_ 21 (some 118) HT_.out ?_
    refine pu_ 22 (some 119) HT_.out ?_
    refine pu_ 23 (some 120) HT_.out ?_
    refine pu_ 24 (some 121) HT_.out ?_
    refine pu_ 25 (some 122) HT_.out ?_
    refine pu_ 26 (some 123) HT_.out ?_
    refine pu_ 27 (some 124) HT_.out ?_
    refine pu_ 28 (some 125) HT_.out ?_
    refine pu_ 29 (some 126) HT_.out ?_
    refine pu_ 30 (some 127) HT_.out ?_
    refine pp_ 31 (some 128) HT_.out ?_
    refine pp_ 32 (some 129) HT_.out ?_
    refine pp_ 33 (some 17) HT_.out ?_
    refine done_ (done_of HT_.out (by kernel_rfl)) ?_
    try go_wp2
    go_roundg k2
    case measure => have := HK1.out; have := HK2.out; omega
    case rel => exact ⟨(false), (wrap64 (bq + 1)), zx35_35, zx35_35, H', ⟨by have := HK1.out; have := HK2.out; omega⟩, ⟨by (with_reducible repeat (first | apply Kd.V_alloc | apply Kd.V_drewN | apply Kd.V_drew)); exact bf.out⟩, ⟨by (with_reducible repeat (first | apply Kd.V_alloc | apply Kd.V_drewN | apply Kd.V_drew)); exact bm.out⟩, ⟨by (with_reducible repeat (first | apply Kd.V_alloc | apply Kd.V_drewN | apply Kd.V_drew)); exact df.out⟩, ⟨by (with_reducible repeat (first | apply Kd.V_alloc | apply Kd.V_drewN | apply Kd.V_drew)); exact de.out⟩, ⟨by (with_reducible repeat (first | apply Kd.R_alloc | apply Kd.R_drewN | apply Kd.R_drew)); exact dd.out⟩, ⟨by (with_reducible repeat (first | refine blk_drewN ?_ _ | refine blk_drew ?_ | refine blk_alloc ?_ _)); exact bo.out⟩, ⟨by (with_reducible repeat (first | refine blk_drewN ?_ _ | refine blk_drew ?_ | refine blk_alloc ?_ _)); exact bp.out⟩, ⟨by (with_reducible repeat (first | refine blk_drewN ?_ _ | refine blk_drew ?_ | refine blk_alloc ?_ _)); exact bH.out⟩, ⟨by (with_reducible repeat (first | refine blk_drewN ?_ _ | refine blk_drew ?_ | refine blk_alloc ?_ _)); exact bI.out⟩, ⟨by (with_reducible repeat (first | refine blk_drewN ?_ _ | refine blk_drew ?_ | refine blk_alloc ?_ _)); exact bS.out⟩, ⟨by repeat (first | (with_reducible first | exact HB.out | apply below_alloc | apply pw_below_drewN | apply below_drew1 | refine below_set ?_ dE.out | refine below_set ?_ dF.out | refine below_set ?_ dp.out | refine below_set ?_ dn.out | refine below_set ?_ gq.out) | exact HB.out)⟩⟩
   rw [if_pos c94] at H
   have mJ : (((rd_T37 br bq).f0).toList == bQ.toList) = true := beq_iff_eq.mpr c94
   have mI : (((rd_T37 br bq).f0).toList != bQ.toList) = false := bne_eq_false_iff_eq.mpr c94
   clear c94
   by_cases c95 : b6 = ((rd_T37 br bq).f2)
   case neg =>
    rw [if_neg c95] at H
    exact absurd H (by simp)
   rw [if_pos c95] at H
   have sd : (b6 == ((rd_T37 br bq).f2)) = true := beq_iff_eq.mpr c95
   have sc : (b6 != ((rd_T37 br bq).f2)) = false := bne_eq_false_iff_eq.mpr c95
   clear c95
   have H' := Aside0.mk H
   clear H
   have qO := dt.out
   have qv := dy.out
   have qN := bA.out
   have qu := bO.out
   have qM := bz.out
   have qt := bN.out
   have qL := dC.out
   have qs := dI.out
   obtain ⟨mA, mz, my, mq, mo, mm⟩ := cx35_bc3 bo.out
   try go_wp2
   replace bf := Aside0.mk (Kd.V_drew bf.out)
   replace bm := Aside0.mk (Kd.V_drew bm.out)
   replace df := Aside0.mk (Kd.V_drew df.out)
   replace de := Aside0.mk (Kd.V_drew de.out)
   replace dd := Aside0.mk (Kd.R_drew dd.out)
   replace bo := Aside0.mk (blk_drew bo.out)
   replace bp := Aside0.mk (blk_drew bp.out)
   replace bH := Aside0.mk (blk_drew bH.out)
   replace bI := Aside0.mk (blk_drew bI.out)
   replace bS := Aside0.mk (blk_drew bS.out)
   replace HB := Aside0.mk (below_drew1 HB.out)
   have gI : 0 ≤ (bq : Int) := of_decide_eq_true zx35_31
   have gH : bq < (br.length : Int) := of_decide_eq_true zx35_31
   obtain ⟨bP, gr, go, mb, d2, d1, d0, dA, dZ, dY, dX, d7, d8⟩ := at_T37 (Kd.V_reads' bf.out).2.2 bq gI gH
   cases mb
   obtain ⟨mH, gP, gQ, gl⟩ := Kd.V_get bf.out z37 bq gI (by first | exact gH | exact of_decide_eq_true zx35_31 | (have e_ := (Kd.V_reads' bf.out).1; omega))
   obtain ⟨hJ, hI, rfl, dL, dN⟩ := k37_openF gQ
   have dB := gl 3 _ rfl
   rw [add_field _ _ 3 (by omega)] at dB
   replace dB := Option.some.inj (dB.symm.trans dA)
   injection dB with hva_ hvn_ hvc_
   rw [hva_] at dN
   rw [hvc_] at dL
   have gM := Aside0.mk (show Kd.V (Kd.int .u64) 24 _ w.heap.size _ _ ((rd_T37 br bq).f3) from Kd.V_mk dL dN)
   clear hva_ hvn_ hvc_ dN dL
   clear gl gP
   have gL := Aside0.mk d8
   have j4 := Aside0.mk d7
   clear d8 d7
   replace gI := eq_true gI
   replace gH := eq_true gH
   have hO : 0 ≤ (bq : Int) := of_decide_eq_true zx35_31
   have hM : bq < (br.length : Int) := of_decide_eq_true zx35_31
   obtain ⟨mP, qr, qk, qf, he, hc, ha, gg, gZ, gY, gX, hh, hl⟩ := at_T37 (Kd.V_reads' bf.out).2.2 bq hO hM
   obtain rfl : bP = mP := (by injection qf)
   obtain ⟨sb, j8, ma, hy⟩ := Kd.V_get bf.out z37 bq hO (by first | exact hM | exact of_decide_eq_true zx35_31 | (have e_ := (Kd.V_reads' bf.out).1; omega))
   obtain ⟨m4, m2, rfl, gD, gK⟩ := k37_openF ma
   have gi := hy 3 _ rfl
   rw [add_field _ _ 3 (by omega)] at gi
   replace gi := Option.some.inj (gi.symm.trans gg)
   injection gi with hva_ hvn_ hvc_
   rw [hva_] at gK
   rw [hvc_] at gD
   have j3 := Aside0.mk (show Kd.V (Kd.int .u64) 24 _ w.heap.size _ _ ((rd_T37 br bq).f3) from Kd.V_mk gD gK)
   clear hva_ hvn_ hvc_ gK gD
   clear hy j8
   have jZ := Aside0.mk hl
   have oQ := Aside0.mk hh
   clear hl hh
   replace hO := eq_true hO
   replace hM := eq_true hM
   have ea_ := Option.some.inj (dA.symm.trans gg)
   injection ea_ with ea_ en_ ec_
   subst ea_
   subst ec_
   clear en_
   have hN : 0 ≤ (bq : Int) := of_decide_eq_true zx35_31
   have hL : bq < (br.length : Int) := of_decide_eq_true zx35_31
   obtain ⟨mO, qq, qj, qe, gW, gV, gU, gf, gT, gS, gR, hf, hj⟩ := at_T37 (Kd.V_reads' bf.out).2.2 bq hN hL
   obtain rfl : bP = mO := (by injection qe)
   obtain ⟨sa, j7, j9, hx⟩ := Kd.V_get bf.out z37 bq hN (by first | exact hL | exact of_decide_eq_true zx35_31 | (have e_ := (Kd.V_reads' bf.out).1; omega))
   obtain ⟨m3, m1, rfl, gC, gJ⟩ := k37_openF j9
   have gh := hx 3 _ rfl
   rw [add_field _ _ 3 (by omega)] at gh
   replace gh := Option.some.inj (gh.symm.trans gf)
   injection gh with hva_ hvn_ hvc_
   rw [hva_] at gJ
   rw [hvc_] at gC
   have j2 := Aside0.mk (show Kd.V (Kd.int .u64) 24 _ w.heap.size _ _ ((rd_T37 br bq).f3) from Kd.V_mk gC gJ)
   clear hva_ hvn_ hvc_ gJ gC
   clear hx j7
   have jY := Aside0.mk hj
   have oP := Aside0.mk hf
   clear hj hf
   replace hN := eq_true hN
   replace hL := eq_true hL
   have ea_ := Option.some.inj (dA.symm.trans gf)
   injection ea_ with ea_ en_ ec_
   subst ea_
   subst ec_
   clear en_
   refine start_ (n := 34) (S := fun w' => w'.cell? ⟨ba, 0, none⟩ = some (.int .u64 bw) ∧ w'.cell? ⟨ba, 1, none⟩ = some (.int .u64 bx) ∧ w'.cell? ⟨ba, 2, none⟩ = some (.slice (some bP) br.length b5) ∧ w'.cell? ⟨bn, 0, none⟩ = some (.string db) ∧ w'.cell? ⟨bn, 1, none⟩ = some (.int .u64 b7) ∧ w'.cell? ⟨bn, 2, none⟩ = some (.int .u64 b6) ∧ w'.cell? ⟨bn, 3, none⟩ = some (.slice dm b4.length dl) ∧ w'.cell? ⟨bn, 4, none⟩ = some (.int .u64 di) ∧ w'.cell? ⟨bn, 5, none⟩ = some (.int .u64 dj) ∧ w'.cell? ⟨bn, 6, none⟩ = some (.int .u64 dk) ∧ w'.cell? (bP.add ((bq).toNat * 7)) = some (.string ((rd_T37 br bq).f0)) ∧ w'.cell? ⟨(bP.add ((bq).toNat * 7)).block, (bP.add ((bq).toNat * 7)).off + 1, none⟩ = some (.int .u64 ((rd_T37 br bq).f1)) ∧ w'.cell? ⟨(bP.add ((bq).toNat * 7)).block, (bP.add ((bq).toNat * 7)).off + 2, none⟩ = some (.int .u64 ((rd_T37 br bq).f2)) ∧ w'.cell? ⟨(bP.add ((bq).toNat * 7)).block, (bP.add ((bq).toNat * 7)).off + 3, none⟩ = some (.slice gr ((rd_T37 br bq).f3).length go) ∧ w'.cell? ⟨(bP.add ((bq).toNat * 7)).block, (bP.add ((bq).toNat * 7)).off + 4, none⟩ = some (.int .u64 ((rd_T37 br bq).f4)) ∧ w'.cell? ⟨(bP.add ((bq).toNat * 7)).block, (bP.add ((bq).toNat * 7)).off + 5, none⟩ = some (.int .u64 ((rd_T37 br bq).f5)) ∧ w'.cell? ⟨(bP.add ((bq).toNat * 7)).block, (bP.add ((bq).toNat * 7)).off + 6, none⟩ = some (.int .u64 ((rd_T37 br bq).f6)) ∧ w'.cell? (bP.add ((bq).toNat * 7)) = some (.string ((rd_T37 br bq).f0)) ∧ w'.cell? ⟨(bP.add ((bq).toNat * 7)).block, (bP.add ((bq).toNat * 7)).off + 1, none⟩ = some (.int .u64 ((rd_T37 br bq).f1)) ∧ w'.cell? ⟨(bP.add ((bq).toNat * 7)).block, (bP.add ((bq).toNat * 7)).off + 2, none⟩ = some (.int .u64 ((rd_T37 br bq).f2)) ∧ w'.cell? ⟨(bP.add ((bq).toNat * 7)).block, (bP.add ((bq).toNat * 7)).off + 3, none⟩ = some (.slice gr ((rd_T37 br bq).f3).length go) ∧ w'.cell? ⟨(bP.add ((bq).toNat * 7)).block, (bP.add ((bq).toNat * 7)).off + 4, none⟩ = some (.int .u64 ((rd_T37 br bq).f4)) ∧ w'.cell? ⟨(bP.add ((bq).toNat * 7)).block, (bP.add ((bq).toNat * 7)).off + 5, none⟩ = some (.int .u64 ((rd_T37 br bq).f5)) ∧ w'.cell? ⟨(bP.add ((bq).toNat * 7)).block, (bP.add ((bq).toNat * 7)).off + 6, none⟩ = some (.int .u64 ((rd_T37 br bq).f6)) ∧ w'.cell? (bP.add ((bq).toNat * 7)) = some (.string ((rd_T37 br bq).f0)) ∧ w'.cell? ⟨(bP.add ((bq).toNat * 7)).block, (bP.add ((bq).toNat * 7)).off + 1, none⟩ = some (.int .u64 ((rd_T37 br bq).f1)) ∧ w'.cell? ⟨(bP.add ((bq).toNat * 7)).block, (bP.add ((bq).toNat * 7)).off + 2, none⟩ = some (.int .u64 ((rd_T37 br bq).f2)) ∧ w'.cell? ⟨(bP.add ((bq).toNat * 7)).block, (bP.add ((bq).toNat * 7)).off + 3, none⟩ = some (.slice gr ((rd_T37 br bq).f3).length go) ∧ w'.cell? ⟨(bP.add ((bq).toNat * 7)).block, (bP.add ((bq).toNat * 7)).off + 4, none⟩ = some (.int .u64 ((rd_T37 br bq).f4)) ∧ w'.cell? ⟨(bP.add ((bq).toNat * 7)).block, (bP.add ((bq).toNat * 7)).off + 5, none⟩ = some (.int .u64 ((rd_T37 br bq).f5)) ∧ w'.cell? ⟨(bP.add ((bq).toNat * 7)).block, (bP.add ((bq).toNat * 7)).off + 6, none⟩ = some (.int .u64 ((rd_T37 br bq).f6))) (ds := []) #[Ff,Ff,Ff,Ff,Ff,Ff,Ff,Ff,Ff,Ff,Ff,Ff,Ff,Ff,Ff,Ff,Ff,Ff,Ff,Ff,Ff,Ff,Ff,Ff,Ff,Ff,Ff,Ff,Ff,Ff,Ff,Ff,Ff,Ff] (by kernel_rfl) rfl rfl ⟨(blk_cell bo.out 0).trans rfl, (blk_cell bo.out 1).trans rfl, (blk_cell bo.out 2).trans rfl, (blk_cell bS.out 0).trans rfl, (blk_cell bS.out 1).trans rfl, (blk_cell bS.out 2).trans rfl, (blk_cell bS.out 3).trans rfl, (blk_cell bS.out 4).trans rfl, (blk_cell bS.out 5).trans rfl, (blk_cell bS.out 6).trans rfl, d2, d1, d0, dA, dZ, dY, dX, he, hc, ha, gg, gZ, gY, gX, gW, gV, gU, gf, gT, gS, gR⟩ (fun hHeld => ?_); refine with_tabW postroomlaw10_LedgerPlays.tab22 postroomlaw10_LedgerPlays.bits22 (fun HT_ HW_ => ?_)
   generalize wr.drew = sq at bf bm df de dd bo bp bH bI bS HB gM j3 j2 gL jZ jY d2 d1 d0 dA dZ dY dX he hc ha gg gZ gY gX gW gV gU gf gT gS gR hHeld ⊢
   refine pp_ 0 (some 97) HT_.out ?_
   refine pp_ 1 (some 98) HT_.out ?_
   refine pp_ 2 (some 99) HT_.out ?_
   refine pp_ 4 (some 101) HT_.out ?_
   refine pp_ 8 (some 105) HT_.out ?_
   refine take_ (i := 3) (N := some 100) (v := ?_) (a' := ?_) #[Tt,Tt,Tt,Tt,Tt,Ff,Ff,Ff,Tt,Ff,Ff,Ff,Ff,Ff,Ff,Ff,Ff,Ff,Ff,Ff,Ff,Ff,Ff,Ff,Ff,Ff,Ff,Ff,Ff,Ff,Ff,Ff,Ff,Ff] rfl rfl (take_ofW HT_.out HW_.out (by kernel_rfl)) (fun _ _ _ h => h) (Or.inl ⟨by rfl, ?_⟩) hHeld ?_ ?_
   rotate_left
   ·rintro w' ⟨s0, s1, s2, s3, s4, s5, s6, s7, s8, s9, s10, s11, s12, s13, s14, s15, s16, s17, s18, s19, s20, s21, s22, s23, s24, s25, s26, s27, s28, s29, s30⟩
    go_simp
    with_reducible rfl
   rotate_left
   ·simp only [Act.put, List.setIfInBounds_toArray, List.set_cons_zero, List.set_cons_succ, i64_w, i32_w]
    rfl
   refine pp_ 5 (some 102) HT_.out ?_
   refine pp_ 6 (some 103) HT_.out ?_
   refine take_ (i := 7) (N := some 104) (v := ?_) (a' := ?_) #[Tt,Tt,Tt,Tt,Tt,Tt,Tt,Tt,Tt,Ff,Ff,Ff,Ff,Ff,Ff,Ff,Ff,Ff,Ff,Ff,Ff,Ff,Ff,Ff,Ff,Ff,Ff,Ff,Ff,Ff,Ff,Ff,Ff,Ff] rfl rfl (take_ofW HT_.out HW_.out (by kernel_rfl)) (fun _ _ _ h => h) (Or.inl ⟨by rfl, ?_⟩) hHeld ?_ ?_
   rotate_left
   ·rintro w' ⟨s0, s1, s2, s3, s4, s5, s6, s7, s8, s9, s10, s11, s12, s13, s14, s15, s16, s17, s18, s19, s20, s21, s22, s23, s24, s25, s26, s27, s28, s29, s30⟩
    go_simp
    with_reducible rfl
   rotate_left
   ·simp only [Act.put, List.setIfInBounds_toArray, List.set_cons_zero, List.set_cons_succ, i64_w, i32_w]
    rfl
   refine pp_ 9 (some 106) HT_.out ?_
   refine pp_ 10 (some 107) HT_.out ?_
   refine pp_ 11 (some 108) HT_.out ?_
   refine pp_ 13 (some 110) HT_.out ?_
   refine pp_ 15 (some 112) HT_.out ?_
   refine take_ (i := 12) (N := some 109) (v := ?_) (a' := ?_) #[Tt,Tt,Tt,Tt,Tt,Tt,Tt,Tt,Tt,Tt,Tt,Tt,Tt,Tt,Ff,Tt,Ff,Ff,Ff,Ff,Ff,Ff,Ff,Ff,Ff,Ff,Ff,Ff,Ff,Ff,Ff,Ff,Ff,Ff] rfl rfl (take_ofW HT_.out HW_.out (by kernel_rfl)) (fun _ _ _ h => h) (Or.inl ⟨by rfl, ?_⟩) hHeld ?_ ?_
   rotate_left
   ·rintro w' ⟨s0, s1, s2, s3, s4, s5, s6, s7, s8, s9, s10, s11, s12, s13, s14, s15, s16, s17, s18, s19, s20, s21, s22, s23, s24, s25, s26, s27, s28, s29, s30⟩
    go_simp
    with_reducible rfl
   rotate_left
   ·simp only [Act.put, List.setIfInBounds_toArray, List.set_cons_zero, List.set_cons_succ, i64_w, i32_w]
    rfl
   refine take_ (i := 14) (N := some 111) (v := ?_) (a' := ?_) #[Tt,Tt,Tt,Tt,Tt,Tt,Tt,Tt,Tt,Tt,Tt,Tt,Tt,Tt,Tt,Tt,Ff,Ff,Ff,Ff,Ff,Ff,Ff,Ff,Ff,Ff,Ff,Ff,Ff,Ff,Ff,Ff,Ff,Ff] rfl rfl (take_ofW HT_.out HW_.out (by kernel_rfl)) (fun _ _ _ h => h) (Or.inl ⟨by rfl, ?_⟩) hHeld ?_ ?_
   rotate_left
   ·rintro w' ⟨s0, s1, s2, s3, s4, s5, s6, s7, s8, s9, s10, s11, s12, s13, s14, s15, s16, s17, s18, s19, s20, s21, s22, s23, s24, s25, s26, s27, s28, s29, s30⟩
    go_simp
    with_reducible rfl
   rotate_left
   ·simp only [Act.put, List.setIfInBounds_toArray, List.set_cons_zero, List.set_cons_succ, i64_w, i32_w]
    rfl
   refine pp_ 16 (some 113) HT_.out ?_
   refine pp_ 17 (some 114) HT_.out ?_
   refine take_ (i := 18) (N := some 115) (v := ?_) (a' := ?_) #[Tt,Tt,Tt,Tt,Tt,Tt,Tt,Tt,Tt,Tt,Tt,Tt,Tt,Tt,Tt,Tt,Tt,Tt,Tt,Ff,Ff,Ff,Ff,Ff,Ff,Ff,Ff,Ff,Ff,Ff,Ff,Ff,Ff,Ff] rfl rfl (take_ofW HT_.out HW_.out (by kernel_rfl)) (fun _ _ _ h => h) (Or.inl ⟨by rfl, ?_⟩) hHeld ?_ ?_
   rotate_left
   ·rintro w' ⟨s0, s1, s2, s3, s4, s5, s6, s7, s8, s9, s10, s11, s12, s13, s14, s15, s16, s17, s18, s19, s20, s21, s22, s23, s24, s25, s26, s27, s28, s29, s30⟩
    go_simp
    with_reducible rfl
   rotate_left
   ·simp only [Act.put, List.setIfInBounds_toArray, List.set_cons_zero, List.set_cons_succ, i64_w, i32_w]
    rfl
   refine pp_ 19 (some 116) HT_.out ?_
   refine pp_ 20 (some 117) HT_.out ?_
   refine pp_ 21 (some 118) HT_.out ?_
   refine pp_ 22 (some 119) HT_.out ?_
   refine pp_ 24 (some 121) HT_.out ?_
   refine pp_ 26 (some 123) HT_.out ?_
   refine take_ (i := 23) (N := some 120) (v := ?_) (a' := ?_) #[Tt,Tt,Tt,Tt,Tt,Tt,Tt,Tt,Tt,Tt,Tt,Tt,Tt,Tt,Tt,Tt,Tt,Tt,Tt,Tt,Tt,Tt,Tt,Tt,Tt,Ff,Tt,Ff,Ff,Ff,Ff,Ff,Ff,Ff] rfl rfl (take_ofW HT_.out HW_.out (by kernel_rfl)) (fun _ _ _ h => h) (Or.inl ⟨by rfl, ?_⟩) hHeld ?_ ?_
   rotate_left
   ·rintro w' ⟨s0, s1, s2, s3, s4, s5, s6, s7, s8, s9, s10, s11, s12, s13, s14, s15, s16, s17, s18, s19, s20, s21, s22, s23, s24, s25, s26, s27, s28, s29, s30⟩
    go_simp
    with_reducible rfl
   rotate_left
   ·simp only [Act.put, List.setIfInBounds_toArray, List.set_cons_zero, List.set_cons_succ, i64_w, i32_w]
    rfl
   refine take_ (i := 25) (N := some 122) (v := ?_) (a' := ?_) #[Tt,Tt,Tt,Tt,Tt,Tt,Tt,Tt,Tt,Tt,Tt,Tt,Tt,Tt,Tt,Tt,Tt,Tt,Tt,Tt,Tt,Tt,Tt,Tt,Tt,Tt,Tt,Ff,Ff,Ff,Ff,Ff,Ff,Ff] rfl rfl (take_ofW HT_.out HW_.out (by kernel_rfl)) (fun _ _ _ h => h) (Or.inl ⟨by rfl, ?_⟩) hHeld ?_ ?_
   rotate_left
   ·rintro w' ⟨s0, s1, s2, s3, s4, s5, s6, s7, s8, s9, s10, s11, s12, s13, s14, s15, s16, s17, s18, s19, s20, s21, s22, s23, s24, s25, s26, s27, s28, s29, s30⟩
    go_simp
    with_reducible rfl
   rotate_left
   ·simp only [Act.put, List.setIfInBounds_toArray, List.set_cons_zero, List.set_cons_succ, i64_w, i32_w]
    rfl
   refine pp_ 27 (some 124) HT_.out ?_
   refine pp_ 28 (some 125) HT_.out ?_
   refine take_ (i := 29) (N := some 126) (v := ?_) (a' := ?_) #[Tt,Tt,Tt,Tt,Tt,Tt,Tt,Tt,Tt,Tt,Tt,Tt,Tt,Tt,Tt,Tt,Tt,Tt,Tt,Tt,Tt,Tt,Tt,Tt,Tt,Tt,Tt,Tt,Tt,Tt,Ff,Ff,Ff,Ff] rfl rfl (take_ofW HT_.out HW_.out (by kernel_rfl)) (fun _ _ _ h => h) (Or.inl ⟨by rfl, ?_⟩) hHeld ?_ ?_
   rotate_left
   ·rintro w' ⟨s0, s1, s2, s3, s4, s5, s6, s7, s8, s9, s10, s11, s12, s13, s14, s15, s16, s17, s18, s19, s20, s21, s22, s23, s24, s25, s26, s27, s28, s29, s30⟩
    go_simp
    with_reducible rfl
   rotate_left
   ·simp only [Act.put, List.setIfInBounds_toArray, List.set_cons_zero, List.set_cons_succ, i64_w, i32_w]
    rfl
   refine pp_ 30 (some 127) HT_.out ?_
   refine pp_ 31 (some 128) HT_.out ?_
   refine pp_ 32 (some 129) HT_.out ?_
   refine pp_ 33 (some 17) HT_.out ?_
   refine done_ (done_of HT_.out (by kernel_rfl)) ?_
   try go_wp2
   go_roundg k2
   case measure => have := HK1.out; have := HK2.out; omega
   case rel => exact ⟨((b7 == ((rd_T37 br bq).f1))), (wrap64 (bq + 1)), zx35_35, zx35_35, H', ⟨by have := HK1.out; have := HK2.out; omega⟩, ⟨by (with_reducible repeat (first | apply Kd.V_alloc | apply Kd.V_drewN | apply Kd.V_drew)); exact bf.out⟩, ⟨by (with_reducible repeat (first | apply Kd.V_alloc | apply Kd.V_drewN | apply Kd.V_drew)); exact bm.out⟩, ⟨by (with_reducible repeat (first | apply Kd.V_alloc | apply Kd.V_drewN | apply Kd.V_drew)); exact df.out⟩, ⟨by (with_reducible repeat (first | apply Kd.V_alloc | apply Kd.V_drewN | apply Kd.V_drew)); exact de.out⟩, ⟨by (with_reducible repeat (first | apply Kd.R_alloc | apply Kd.R_drewN | apply Kd.R_drew)); exact dd.out⟩, ⟨by (with_reducible repeat (first | refine blk_drewN ?_ _ | refine blk_drew ?_ | refine blk_alloc ?_ _)); exact bo.out⟩, ⟨by (with_reducible repeat (first | refine blk_drewN ?_ _ | refine blk_drew ?_ | refine blk_alloc ?_ _)); exact bp.out⟩, ⟨by (with_reducible repeat (first | refine blk_drewN ?_ _ | refine blk_drew ?_ | refine blk_alloc ?_ _)); exact bH.out⟩, ⟨by (with_reducible repeat (first | refine blk_drewN ?_ _ | refine blk_drew ?_ | refine blk_alloc ?_ _)); exact bI.out⟩, ⟨by (with_reducible repeat (first | refine blk_drewN ?_ _ | refine blk_drew ?_ | refine blk_alloc ?_ _)); exact bS.out⟩, ⟨by repeat (first | (with_reducible first | exact HB.out | apply below_alloc | apply pw_below_drewN | apply below_drew1 | refine below_set ?_ dE.out | refine below_set ?_ dF.out | refine below_set ?_ dp.out | refine below_set ?_ dn.out | refine below_set ?_ gq.out) | exact HB.out)⟩⟩
/-- THE ONE PURE STATEMENT of postroomlaw10_LedgerPlays. -/
def postroomlaw10_LedgerPlays.Pure : Prop := ∀ (l0 : List (S43)) (a1 : Int) (a2 : Int), l0.length ≤ maxLen → l0.length * 32 ≤ 140737488351232 → (∀ x ∈ l0, ((Lit.int .i64 x.f0).wf = true ∧ (Lit.int .i64 x.f1).wf = true ∧ (Lit.int .i64 x.f2).wf = true ∧ (Lit.int .i64 x.f3).wf = true)) → (Lit.int .i64 a1).wf = true → (Lit.int .u64 a2).wf = true → ∃ k, postroomlaw10_LedgerPlays.f k l0 a1 a2 = some true
theorem postroomlaw10_LedgerPlays.walk (P : postroomlaw10_LedgerPlays.Pure) (A0 : Option Addr) (c0 : Nat) (l0 : List (S43)) (a1 : Int) (a2 : Int) (w : World) (hr0 : Kd.C k43 w A0 l0.length l0) (hc0 : l0.length ≤ c0) (hm0 : l0.length ≤ maxLen) (hy0 : l0.length * 32 ≤ 140737488351232) (hw0 : (∀ x ∈ l0, ((Lit.int .i64 x.f0).wf = true ∧ (Lit.int .i64 x.f1).wf = true ∧ (Lit.int .i64 x.f2).wf = true ∧ (Lit.int .i64 x.f3).wf = true))) (hw1 : (Lit.int .i64 a1).wf = true) (hw2 : (Lit.int .u64 a2).wf = true) :
  Calls Tryd.prog 9 #[.slice A0 l0.length c0, .int .i64 a1, .int .u64 a2] w fun e w' => e = .returned (.bool true) ∧ Below w.heap.size w w' := by
 obtain ⟨k, h⟩ := P l0 a1 a2 hm0 hy0 hw0 hw1 hw2
 refine (postroomlaw10_LedgerPlays.calls k A0 c0 l0 a1 a2 true w hr0 hc0 h).mono ?_
 rintro e w' ⟨rfl, hd⟩
 exact ⟨rfl, hd⟩

end Go.Proofs.YthhmpjapnkilcaaDoor.XLdg
