/- What the functions of the translation answer, each as a plain Lean function, and that the code comes to it; for a law: its row. Conditions: none but those that each theorem names. Written by a program of this session (wip/xp). -/
import Derived.Test.YthhmpjapnkilcaaDoorXLdgP1
import Derived.Test.YthhmpjapnkilcaaDoorXLdgP2
import Derived.Test.YthhmpjapnkilcaaDoorXLdgP5
import Derived.Test.YthhmpjapnkilcaaDoorXLdgx23
import Derived.Test.YthhmpjapnkilcaaDoorXLdgP3
import Derived.Test.YthhmpjapnkilcaaDoorGShown
namespace Go.Proofs.YthhmpjapnkilcaaDoor.XLdg
open Go.RowKit Go.Proofs.YthhmpjapnkilcaaDoorW.PrintWords Go.Proofs.YthhmpjapnkilcaaDoorW.PrintLast Go.Proofs.YthhmpjapnkilcaaDoorW.PrintMore
attribute [local go_sem] max2_int min2_int max_two min_two max_three min_three max_four min_four   -- for this text's walks alone
theorem cx26_bc3 {w : World} {g : Nat} {t : TypeId} {x0 x1 x2 : Value} (h : w.heap[g]? = some (.cells #[x0, x1, x2] t (0, 0))) : w.cell? ⟨g, 0, none⟩ = some x0 ∧ w.cell? ⟨g, 1, none⟩ = some x1 ∧ w.cell? ⟨g, 2, none⟩ = some x2 ∧ w.frozen? ⟨g, 0, none⟩ = false ∧ w.frozen? ⟨g, 1, none⟩ = false ∧ w.frozen? ⟨g, 2, none⟩ = false :=
 ⟨(blk_cell h 0).trans rfl, (blk_cell h 1).trans rfl, (blk_cell h 2).trans rfl, blk_frozen h 0, blk_frozen h 1, blk_frozen h 2⟩
theorem cx26_bc7 {w : World} {g : Nat} {t : TypeId} {x0 x1 x2 x3 x4 x5 x6 : Value} (h : w.heap[g]? = some (.cells #[x0, x1, x2, x3, x4, x5, x6] t (0, 0))) : w.cell? ⟨g, 0, none⟩ = some x0 ∧ w.cell? ⟨g, 1, none⟩ = some x1 ∧ w.cell? ⟨g, 2, none⟩ = some x2 ∧ w.cell? ⟨g, 3, none⟩ = some x3 ∧ w.cell? ⟨g, 4, none⟩ = some x4 ∧ w.cell? ⟨g, 5, none⟩ = some x5 ∧ w.cell? ⟨g, 6, none⟩ = some x6 ∧ w.frozen? ⟨g, 0, none⟩ = false ∧ w.frozen? ⟨g, 1, none⟩ = false ∧ w.frozen? ⟨g, 2, none⟩ = false ∧ w.frozen? ⟨g, 3, none⟩ = false ∧ w.frozen? ⟨g, 4, none⟩ = false ∧ w.frozen? ⟨g, 5, none⟩ = false ∧ w.frozen? ⟨g, 6, none⟩ = false :=
 ⟨(blk_cell h 0).trans rfl, (blk_cell h 1).trans rfl, (blk_cell h 2).trans rfl, (blk_cell h 3).trans rfl, (blk_cell h 4).trans rfl, (blk_cell h 5).trans rfl, (blk_cell h 6).trans rfl, blk_frozen h 0, blk_frozen h 1, blk_frozen h 2, blk_frozen h 3, blk_frozen h 4, blk_frozen h 5, blk_frozen h 6⟩
theorem zx26_32 {p : Prop} (h : p := by first | rfl | (simp; done) | (simp [*]; done)) : p := h
theorem zx26_11 {p : Prop} (h : p := by first | (with_reducible assumption) | assumption) : p := h
theorem zx26_7 {p : Prop} (h : p := by (with_reducible repeat (first | apply Kd.R_alloc | apply Kd.R_drewN | apply Kd.R_drew)); exact bL.out) : p := h
theorem zx26_8 {p : Prop} (h : p := by (with_reducible repeat (first | apply Kd.V_alloc | apply Kd.V_drewN | apply Kd.V_drew)); exact bB.out) : p := h
theorem zx26_10 {p : Prop} (h : p := by (with_reducible repeat (first | apply Kd.R_alloc | apply Kd.R_drewN | apply Kd.R_drew)); exact b8.out) : p := h
theorem zx26_15 {p : Prop} (h : p := by (with_reducible repeat (first | apply Kd.R_alloc | apply Kd.R_drewN | apply Kd.R_drew)); exact bX.out) : p := h
theorem zx26_16 {p : Prop} (h : p := by (with_reducible repeat (first | apply Kd.R_alloc | apply Kd.R_drewN | apply Kd.R_drew)); exact dl.out) : p := h
theorem zx26_22 {p : Prop} (h : p := by (with_reducible repeat (first | apply Kd.R_alloc | apply Kd.R_drewN | apply Kd.R_drew)); exact b2.out) : p := h
theorem zx26_20 {p : Prop} (h : p := by (with_reducible repeat (first | apply Kd.V_alloc | apply Kd.V_drewN | apply Kd.V_drew)); exact bn.out) : p := h
theorem zx26_21 {p : Prop} (h : p := by (with_reducible repeat (first | apply Kd.V_alloc | apply Kd.V_drewN | apply Kd.V_drew)); exact bw.out) : p := h
theorem zx26_0 {p : Prop} (h : p := by (with_reducible repeat (first | refine blk_drewN ?_ _ | refine blk_drew ?_ | refine blk_alloc ?_ _)); exact bf.out) : p := h
theorem zx26_2 {p : Prop} (h : p := by (with_reducible repeat (first | refine blk_drewN ?_ _ | refine blk_drew ?_ | refine blk_alloc ?_ _)); exact bg.out) : p := h
theorem zx26_5 {p : Prop} (h : p := by (with_reducible repeat (first | refine blk_drewN ?_ _ | refine blk_drew ?_ | refine blk_alloc ?_ _)); exact bC.out) : p := h
theorem zx26_14 {p : Prop} (h : p := by (with_reducible repeat (first | refine blk_drewN ?_ _ | refine blk_drew ?_ | refine blk_alloc ?_ _)); exact bm.out) : p := h
theorem zx26_27 {p : Prop} (h : p := by repeat (first | (with_reducible first | exact HB.out | apply below_alloc | apply pw_below_drewN | apply below_drew1) | exact HB.out)) : p := h
theorem zx26_9 {p : Prop} (h : p := by (try simp only [List.map_toArray, List.map_cons, List.map_nil]); first | done | rfl | (simp only [List.length_drop, List.length_take]; rfl)) : p := h
theorem zx26_12 {p : Prop} (h : p := by (with_reducible repeat (first | apply Kd.R_alloc | apply Kd.R_drewN | apply Kd.R_drew)); exact Kd.R_mono bL.out (fun _ hk => ⟨hk.2, hk.1⟩)) : p := h
theorem zx26_30 {p : Prop} (h : p := by (with_reducible repeat (first | apply Kd.R_alloc | apply Kd.R_drewN | apply Kd.R_drew)); exact Kd.R_mono bL.out (fun _ hk => ⟨hk.1.2, hk.2⟩)) : p := h
theorem zx26_36 {p : Prop} (h : p := by (with_reducible repeat (first | apply Kd.V_alloc | apply Kd.V_drewN | apply Kd.V_drew)); exact Kd.V_mono bB.out (fun _ hk => ⟨hk.2, ⟨hk.1.1, hk.1.2⟩⟩)) : p := h
theorem zx26_17 {p : Prop} (h : p := by repeat (first | (with_reducible first | exact HB.out | apply below_alloc | apply pw_below_drewN | apply below_drew1 | refine below_set ?_ df.out) | exact HB.out)) : p := h
theorem zx26_26 {p : Prop} (h : p := by (with_reducible repeat (first | apply Kd.V_alloc | apply Kd.V_drewN | apply Kd.V_drew)); exact Kd.V_mono bB.out (fun _ hk => ⟨hk.2, ⟨hk.1.1, ⟨hk.1.2.1, hk.1.2.2⟩⟩⟩)) : p := h
theorem zx26_33 {p : Prop} (h : p := by (with_reducible repeat (first | apply Kd.V_alloc | apply Kd.V_drewN | apply Kd.V_drew)); exact Kd.V_mono bB.out (fun _ hk => ⟨hk.1.1, ⟨hk.1.2.1, ⟨hk.1.2.2, hk.2⟩⟩⟩)) : p := h
theorem zx26_34 {p : Prop} (h : p := by (with_reducible repeat (first | apply Kd.V_alloc | apply Kd.V_drewN | apply Kd.V_drew)); exact Kd.V_mono bB.out (fun _ hk => ⟨hk.1.1, ⟨hk.2, ⟨hk.1.2.1, hk.1.2.2⟩⟩⟩)) : p := h
theorem zx26_35 {p : Prop} (h : p := by (with_reducible repeat (first | apply Kd.V_alloc | apply Kd.V_drewN | apply Kd.V_drew)); exact Kd.V_mono bB.out (fun _ hk => ⟨⟨hk.2.1, ⟨hk.2.2.1, hk.2.2.2⟩⟩, hk.1⟩)) : p := h
theorem zx26_29 {p : Prop} (h : p := by (with_reducible repeat (first | apply Kd.V_alloc | apply Kd.V_drewN | apply Kd.V_drew)); exact Kd.V_mono bB.out (fun _ hk => ⟨hk.1.1, ⟨hk.1.2.1, ⟨hk.1.2.2.1, ⟨hk.1.2.2.2, hk.2⟩⟩⟩⟩)) : p := h
theorem zx26_31 {p : Prop} (h : p := by (with_reducible repeat (first | apply Kd.V_alloc | apply Kd.V_drewN | apply Kd.V_drew)); exact Kd.V_mono bB.out (fun _ hk => ⟨hk.1.1, ⟨hk.2, ⟨hk.1.2.1, ⟨hk.1.2.2.1, hk.1.2.2.2⟩⟩⟩⟩)) : p := h
theorem zx26_13 {p : Prop} (h : p := by repeat (first | (with_reducible exact bN.out) | (with_reducible refine Kd.C_alloc ?_ _) | (with_reducible refine Kd.C_drewN ?_ _) | (with_reducible refine Kd.C_drew ?_) | exact bN.out)) : p := h
theorem zx26_1 {p : Prop} (h : p := by repeat (first | (with_reducible first | exact HB.out | apply below_alloc | apply pw_below_drewN | apply below_drew1 | refine below_set ?_ df.out | refine below_set ?_ dm.out) | exact HB.out)) : p := h
theorem zx26_4 {p : Prop} (h : p := by first | (simp only [putAll, Act.put, List.setIfInBounds_toArray, List.set_cons_zero, List.set_cons_succ]; done) | (simp only [putAll, Act.put, List.setIfInBounds_toArray, List.set_cons_zero, List.set_cons_succ]; rfl)) : p := h
theorem zx26_3 {p : Prop} (h : p := by repeat (first | (with_reducible first | exact HB.out | apply below_alloc | apply pw_below_drewN | apply below_drew1 | refine below_set ?_ df.out | refine below_set ?_ dm.out | refine below_set ?_ bH.out) | exact HB.out)) : p := h
theorem zx26_6 {p : Prop} (h : p := by repeat (first | (with_reducible first | exact HB.out | apply below_alloc | apply pw_below_drewN | apply below_drew1 | refine below_set ?_ df.out | refine below_set ?_ dm.out | refine below_set ?_ bH.out | refine below_set ?_ dT.out) | exact HB.out)) : p := h
theorem zx26_28 {p : Prop} (h : p := by repeat (first | (with_reducible first | exact HB.out | apply below_alloc | apply pw_below_drewN | apply below_drew1 | refine below_set ?_ df.out | refine below_set ?_ dm.out | refine below_set ?_ bH.out | refine below_set ?_ dT.out | refine below_set ?_ gh.out) | exact HB.out)) : p := h
theorem zx26_24 {p : Prop} (h : p := by (with_reducible repeat (first | apply Kd.R_alloc | apply Kd.R_drewN | apply Kd.R_drew)); exact (Kd.R_mono (Kd.R_far (p := ⟨bz, 6, none⟩) (Kd.R_far (p := ⟨bz, 5, none⟩) (Kd.R_far (p := ⟨bz, 4, none⟩) (Kd.R_far (p := ⟨bz, 3, none⟩) (Kd.R_far (p := ⟨bz, 2, none⟩) (Kd.R_far (p := ⟨bz, 1, none⟩) (Kd.R_far (p := ⟨bz, 0, none⟩) (Kd.R_types b2.out bI.out (by decide)) (fun _ hk => hk.2) (.string dF)) (fun _ hk => hk.2) (.int .u64 dp)) (fun _ hk => hk.2) (.int .u64 dB)) (fun _ hk => hk.2) (.slice dY dr.length dX)) (fun _ hk => hk.2) (.int .u64 dE)) (fun _ hk => hk.2) (.int .u64 dP)) (fun _ hk => hk.2) (.int .u64 dU)) (fun _ h_ => h_.1))) : p := h
theorem zx26_25 {p : Prop} (h : p := by (with_reducible repeat (first | apply Kd.R_alloc | apply Kd.R_drewN | apply Kd.R_drew)); exact (Kd.R_mono (Kd.R_far (p := ⟨bz, 6, none⟩) (Kd.R_far (p := ⟨bz, 5, none⟩) (Kd.R_far (p := ⟨bz, 4, none⟩) (Kd.R_far (p := ⟨bz, 3, none⟩) (Kd.R_far (p := ⟨bz, 2, none⟩) (Kd.R_far (p := ⟨bz, 1, none⟩) (Kd.R_far (p := ⟨bz, 0, none⟩) (Kd.R_types dR.out bI.out (by decide)) (fun _ hk => hk.2) (.string dF)) (fun _ hk => hk.2) (.int .u64 dp)) (fun _ hk => hk.2) (.int .u64 dB)) (fun _ hk => hk.2) (.slice dY dr.length dX)) (fun _ hk => hk.2) (.int .u64 dE)) (fun _ hk => hk.2) (.int .u64 dP)) (fun _ hk => hk.2) (.int .u64 dU)) (fun _ h_ => h_.1))) : p := h
theorem zx26_23 {p : Prop} (h : p := by (with_reducible repeat (first | apply Kd.V_alloc | apply Kd.V_drewN | apply Kd.V_drew)); exact (Kd.V_mono (Kd.V_far (p := ⟨bz, 6, none⟩) (Kd.V_far (p := ⟨bz, 5, none⟩) (Kd.V_far (p := ⟨bz, 4, none⟩) (Kd.V_far (p := ⟨bz, 3, none⟩) (Kd.V_far (p := ⟨bz, 2, none⟩) (Kd.V_far (p := ⟨bz, 1, none⟩) (Kd.V_far (p := ⟨bz, 0, none⟩) (Kd.V_mono bw.out (fun k_ hk => (⟨hk, hk.2⟩ : _ ∧ k_ ≠ bz))) (fun _ hk => hk.2) (.string dF)) (fun _ hk => hk.2) (.int .u64 dp)) (fun _ hk => hk.2) (.int .u64 dB)) (fun _ hk => hk.2) (.slice dY dr.length dX)) (fun _ hk => hk.2) (.int .u64 dE)) (fun _ hk => hk.2) (.int .u64 dP)) (fun _ hk => hk.2) (.int .u64 dU)) (fun _ h_ => h_.1))) : p := h
theorem zx26_19 {p : Prop} (h : p := by (with_reducible repeat (first | apply Kd.V_alloc | apply Kd.V_drewN | apply Kd.V_drew)); exact (Kd.V_mono (Kd.V_far (p := ⟨bo, 6, none⟩) (Kd.V_far (p := ⟨bo, 5, none⟩) (Kd.V_far (p := ⟨bo, 4, none⟩) (Kd.V_far (p := ⟨bo, 3, none⟩) (Kd.V_far (p := ⟨bo, 2, none⟩) (Kd.V_far (p := ⟨bo, 1, none⟩) (Kd.V_far (p := ⟨bo, 0, none⟩) (Kd.V_mono gf.out (fun k_ hk => (⟨hk, hk.2⟩ : _ ∧ k_ ≠ bo))) (fun _ hk => hk.2) (.string ((rd_T37 bb bd).f0))) (fun _ hk => hk.2) (.int .u64 ((rd_T37 bb bd).f1))) (fun _ hk => hk.2) (.int .u64 ((rd_T37 bb bd).f2))) (fun _ hk => hk.2) (.slice bP ((rd_T37 bb bd).f3).length bR)) (fun _ hk => hk.2) (.int .u64 ((rd_T37 bb bd).f4))) (fun _ hk => hk.2) (.int .u64 ((rd_T37 bb bd).f5))) (fun _ hk => hk.2) (.int .u64 ((rd_T37 bb bd).f6))) (fun _ h_ => h_.1))) : p := h
theorem zx26_18 {p : Prop} (h : p := by (with_reducible repeat (first | apply Kd.V_alloc | apply Kd.V_drewN | apply Kd.V_drew)); exact (Kd.V_mono (Kd.V_far (p := ⟨bo, 6, none⟩) (Kd.V_far (p := ⟨bo, 5, none⟩) (Kd.V_far (p := ⟨bo, 4, none⟩) (Kd.V_far (p := ⟨bo, 3, none⟩) (Kd.V_far (p := ⟨bo, 2, none⟩) (Kd.V_far (p := ⟨bo, 1, none⟩) (Kd.V_far (p := ⟨bo, 0, none⟩) (Kd.V_mono bn.out (fun k_ hk => (⟨hk, hk.2⟩ : _ ∧ k_ ≠ bo))) (fun _ hk => hk.2) (.string ((rd_T37 bb bd).f0))) (fun _ hk => hk.2) (.int .u64 ((rd_T37 bb bd).f1))) (fun _ hk => hk.2) (.int .u64 ((rd_T37 bb bd).f2))) (fun _ hk => hk.2) (.slice bP ((rd_T37 bb bd).f3).length bR)) (fun _ hk => hk.2) (.int .u64 ((rd_T37 bb bd).f4))) (fun _ hk => hk.2) (.int .u64 ((rd_T37 bb bd).f5))) (fun _ hk => hk.2) (.int .u64 ((rd_T37 bb bd).f6))) (fun _ h_ => h_.1))) : p := h
set_option linter.unusedVariables false
set_option linter.unusedSimpArgs false

/-! ### postroomlaw10_LedgerCounts: function 4 -/
mutual
def postroomlaw10_LedgerCounts.l0 : Nat → Int → Int → Int → List (S37) → Int → Int → List (S37) → Option (Bool)
 | 0, _, _, _, _, _, _, _ => none
 | k + 1, x8, b1, bZ, bG, b7, b6, b9 => if x8 < (bG.length : Int) then (if 0 ≤ x8 then ((ledger_Pending.f k b1 bZ bG ((rd_T37 bG x8).f0)).bind fun bK => (if (IntKind.u64.wrap ((IntKind.u64.wrap ((IntKind.u64.wrap (((rd_T37 bG x8).f4) + ((rd_T37 bG x8).f5))) + ((rd_T37 bG x8).f6))) + (IntKind.u64.wrap ((bK.length : Int))))) = (IntKind.u64.wrap (bZ - ((rd_T37 bG x8).f1))) then (postroomlaw10_LedgerCounts.l1 k x8 bK 0 b1 bZ bG b7 b6 b9 ((rd_T37 bG x8).f0) ((rd_T37 bG x8).f1) ((rd_T37 bG x8).f2) ((rd_T37 bG x8).f3) ((rd_T37 bG x8).f4) ((rd_T37 bG x8).f5) ((rd_T37 bG x8).f6)) else (none))) else (none)) else (if b7 ≥ b1 then (some (decide (b6 ≥ bZ))) else (none))
def postroomlaw10_LedgerCounts.l1 : Nat → Int → List Int → Int → Int → Int → List (S37) → Int → Int → List (S37) → ByteArray → Int → Int → List Int → Int → Int → Int → Option (Bool)
 | 0, _, _, _, _, _, _, _, _, _, _, _, _, _, _, _, _ => none
 | k + 1, x8, x10, x11, b1, bZ, bG, b7, b6, b9, db, dn, dA, dG, dz, dy, dx => if x11 < (x10.length : Int) then (if 0 ≤ x11 then (if (rd x10 x11) < dn then (none) else (if (rd x10 x11) < b1 then (none) else (if (rd x10 x11) ≥ bZ then (none) else (if x11 > 0 then (if 0 ≤ (wrap64 (x11 - 1)) then (if (wrap64 (x11 - 1)) < (x10.length : Int) then (if (rd x10 x11) ≤ (rd x10 (wrap64 (x11 - 1))) then (none) else ((ledger_Waits.f k b1 bZ bG db (rd x10 x11)).bind fun gU => (if gU = true then (postroomlaw10_LedgerCounts.l1 k x8 x10 (wrap64 (x11 + 1)) b1 bZ bG b7 b6 b9 db dn dA dG dz dy dx) else (none)))) else (none)) else (none)) else ((ledger_Waits.f k b1 bZ bG db (rd x10 x11)).bind fun hm => (if hm = true then (postroomlaw10_LedgerCounts.l1 k x8 x10 (wrap64 (x11 + 1)) b1 bZ bG b7 b6 b9 db dn dA dG dz dy dx) else (none))))))) else (none)) else ((ledger_Find.f b7 b6 b9 db).bind fun gi => (if gi.2.2.2.2.2.2.2 = true then (if gi.2.2.2.2.1 < dz then (none) else (if gi.2.2.2.2.2.1 < dy then (none) else (if gi.2.2.2.2.2.2.1 < dx then (none) else (if gi.2.1 = dn then (if gi.2.2.1 < dA then (none) else ((ledger_Pending.f k b7 b6 b9 db).bind fun dg => (postroomlaw10_LedgerCounts.l2 k x8 dg 0 b1 bZ bG b7 b6 b9 db dn dA dG dz dy dx))) else (none))))) else (postroomlaw10_LedgerCounts.l0 k (wrap64 (x8 + 1)) b1 bZ bG b7 b6 b9)))
def postroomlaw10_LedgerCounts.l2 : Nat → Int → List Int → Int → Int → Int → List (S37) → Int → Int → List (S37) → ByteArray → Int → Int → List Int → Int → Int → Int → Option (Bool)
 | 0, _, _, _, _, _, _, _, _, _, _, _, _, _, _, _, _ => none
 | k + 1, x8, x14, x15, b1, bZ, bG, b7, b6, b9, db, dn, dA, dG, dz, dy, dx => if x15 < (x14.length : Int) then (if 0 ≤ x15 then (if (rd x14 x15) < bZ then ((ledger_Waits.f k b1 bZ bG db (rd x14 x15)).bind fun hl => (if hl = true then (postroomlaw10_LedgerCounts.l2 k x8 x14 (wrap64 (x15 + 1)) b1 bZ bG b7 b6 b9 db dn dA dG dz dy dx) else (none))) else (postroomlaw10_LedgerCounts.l2 k x8 x14 (wrap64 (x15 + 1)) b1 bZ bG b7 b6 b9 db dn dA dG dz dy dx)) else (none)) else (postroomlaw10_LedgerCounts.l0 k (wrap64 (x8 + 1)) b1 bZ bG b7 b6 b9)
end
def postroomlaw10_LedgerCounts.f (k : Nat) (l0 : List (S43)) (bk : Int) (bj : Int) (bi : Int) (bh : Int) : Option (Bool) := (postroomlaw10_shown.f k).bind fun gl => (if gl = true then (if (l0.length : Int) > 100 then (some gl) else ((postroomlaw10_run.f k l0).bind fun dk => ((some (([] : List (S43)) : List (S43))).bind fun da => (if da.length + l0.length < 4398046511104 then ((some (da ++ l0 : List (S43))).bind fun b5 => ((some (([(⟨bk, bj, bi, bh⟩ : S43)] : List (S43)) : List (S43))).bind fun bQ => (if b5.length + bQ.length < 4398046511104 then ((postroomlaw10_run.f k (b5 ++ bQ)).bind fun bS => (postroomlaw10_LedgerCounts.l0 k 0 dk.1 dk.2.1 dk.2.2 bS.1 bS.2.1 bS.2.2)) else (none)))) else (none))))) else (none))
def postroomlaw10_LedgerCounts.T5 : Bool × List (List Nat × List Nat) := (true, [([], []), ([], []), ([0, 1], [0, 1]), ([], []), ([3], [3]), ([2, 4, 2], [2, 4]), ([5, 5], [5]), ([], []), ([7, 6, 6, 0, 1, 2, 3, 4, 5, 6, 7], [6, 7])])
def postroomlaw10_LedgerCounts.B5 : List Nat := [0, 0, 3, 0, 8, 31, 63, 0, 255]
theorem postroomlaw10_LedgerCounts.tab5 : rtab .any (opsOf Tryd.f4 5) = postroomlaw10_LedgerCounts.T5 := by kernel_rfl
theorem postroomlaw10_LedgerCounts.bits5 : waitsOk postroomlaw10_LedgerCounts.T5.2 postroomlaw10_LedgerCounts.B5 = true := by kernel_rfl
def postroomlaw10_LedgerCounts.T16 : Bool × List (List Nat × List Nat) := (true, [([], []), ([], []), ([0, 1], [0, 1]), ([2], [2]), ([], []), ([4], [4]), ([3, 5], [3, 5]), ([6], [6]), ([7], [7]), ([7], [7]), ([8, 9, 7], [7, 8, 9]), ([10, 7], [7, 10]), ([7], [7]), ([12, 7], [7, 12]), ([11, 13, 7], [7, 11, 13]), ([7, 14], [7, 14]), ([15, 7], [15]), ([16], [16]), ([16], [16]), ([17, 18, 16], [16, 17, 18]), ([19, 16], [16, 19]), ([16], [16]), ([21, 16], [16, 21]), ([20, 22, 16], [16, 20, 22]), ([16, 23], [16, 23]), ([24, 16], [24]), ([25], [25]), ([26, 25], [25, 26]), ([27, 25, 25], [25, 27]), ([28], [28]), ([28], [28]), ([29, 30, 28], [28, 29, 30]), ([31, 28], [28, 31]), ([28], [28]), ([28], [28]), ([34, 28], [28, 34]), ([33, 35, 28], [28, 33, 35]), ([36, 28], [28, 36]), ([32, 37, 28], [28, 32, 37]), ([28, 38, 25], [25, 28, 38]), ([25, 39], [25, 39]), ([40, 28], [40]), ([41], [41]), ([41], [41]), ([43, 41], [41, 43]), ([41], [41]), ([41], [41]), ([45, 46, 41], [41, 45, 46]), ([47, 41], [41, 47]), ([42, 44, 48, 41, 41], [41, 42, 44, 48]), ([49, 41], [41, 49]), ([41, 50], [41, 50])])
def postroomlaw10_LedgerCounts.B16 : List Nat := [0, 0, 3, 7, 0, 16, 63, 127, 255, 255, 1023, 2047, 255, 4351, 16383, 32767, 65535, 131071, 131071, 524287, 1048575, 131071, 2228223, 8388607, 16777215, 33554431, 67108863, 134217727, 268435455, 536870911, 536870911, 2147483647, 4294967295, 536870911, 536870911, 17716740095, 60666413055, 129385889791, 274877906943, 549755813887, 1099511627775, 2199023255551, 4398046511103, 4398046511103, 13194139533311, 4398046511103, 4398046511103, 109951162777599, 250688651132927, 562949953421311, 1125899906842623, 2251799813685247]
theorem postroomlaw10_LedgerCounts.tab16 : rtab .any (opsOf Tryd.f4 16) = postroomlaw10_LedgerCounts.T16 := by kernel_rfl
theorem postroomlaw10_LedgerCounts.bits16 : waitsOk postroomlaw10_LedgerCounts.T16.2 postroomlaw10_LedgerCounts.B16 = true := by kernel_rfl
def postroomlaw10_LedgerCounts.T26 : Bool × List (List Nat × List Nat) := (true, [([], []), ([], []), ([0, 1], [0, 1]), ([2], [2]), ([], []), ([4], [4]), ([3, 5], [3, 5]), ([6], [6]), ([7], [7]), ([7], [7]), ([9, 7], [7, 9]), ([7], [7]), ([7], [7]), ([11, 12, 7], [7, 11, 12]), ([13, 7], [7, 13]), ([8, 10, 14, 7, 7], [7, 8, 10, 14]), ([15, 7], [7, 15]), ([7, 16], [7, 16])])
def postroomlaw10_LedgerCounts.B26 : List Nat := [0, 0, 3, 7, 0, 16, 63, 127, 255, 255, 767, 255, 255, 6399, 14591, 32767, 65535, 131071]
theorem postroomlaw10_LedgerCounts.tab26 : rtab .any (opsOf Tryd.f4 26) = postroomlaw10_LedgerCounts.T26 := by kernel_rfl
theorem postroomlaw10_LedgerCounts.bits26 : waitsOk postroomlaw10_LedgerCounts.T26.2 postroomlaw10_LedgerCounts.B26 = true := by kernel_rfl
set_option maxHeartbeats 8000000 in
set_option maxRecDepth 100000 in
theorem postroomlaw10_LedgerCounts.calls (k : Nat) (A0 : Option Addr) (c0 : Nat) (l0 : List (S43)) (bk : Int) (bj : Int) (bi : Int) (bh : Int) (r : Bool) (w : World) (hr0 : Kd.C k43 w A0 l0.length l0) (hc0 : l0.length ≤ c0) (h : postroomlaw10_LedgerCounts.f k l0 bk bj bi bh = some r) :
  Calls Tryd.prog 4 #[.slice A0 l0.length c0, .agg #[.int .i64 bk, .int .i64 bj, .int .i64 bi, .int .i64 bh]] w fun e w' => e = .returned (.bool r) ∧ Below w.heap.size w w' := by
 have vA := Tryd.underlying43
 have vC := Tryd.underlying27
 have vB := Tryd.underlying37
 have HR0 := Aside0.mk hr0
 have HC0 := Aside0.mk hc0
 clear hr0 hc0
 have HB := Aside0.mk (Below.refl w.heap.size w)
 have H : ((postroomlaw10_shown.f k).bind fun gl => (if gl = true then (if (l0.length : Int) > 100 then (some gl) else ((postroomlaw10_run.f k l0).bind fun dk => ((some (([] : List (S43)) : List (S43))).bind fun da => (if da.length + l0.length < 4398046511104 then ((some (da ++ l0 : List (S43))).bind fun b5 => ((some (([(⟨bk, bj, bi, bh⟩ : S43)] : List (S43)) : List (S43))).bind fun bQ => (if b5.length + bQ.length < 4398046511104 then ((postroomlaw10_run.f k (b5 ++ bQ)).bind fun bS => (postroomlaw10_LedgerCounts.l0 k 0 dk.1 dk.2.1 dk.2.2 bS.1 bS.2.1 bS.2.2)) else (none)))) else (none))))) else (none))) = some r := h
 clear h
 replace H := Option.bind_eq_some_iff.mp H
 obtain ⟨gl, A30, H⟩ := H
 replace H : (if gl = true then (if (l0.length : Int) > 100 then (some gl) else ((postroomlaw10_run.f k l0).bind fun dk => ((some (([] : List (S43)) : List (S43))).bind fun da => (if da.length + l0.length < 4398046511104 then ((some (da ++ l0 : List (S43))).bind fun b5 => ((some (([(⟨bk, bj, bi, bh⟩ : S43)] : List (S43)) : List (S43))).bind fun bQ => (if b5.length + bQ.length < 4398046511104 then ((postroomlaw10_run.f k (b5 ++ bQ)).bind fun bS => (postroomlaw10_LedgerCounts.l0 k 0 dk.1 dk.2.1 dk.2.2 bS.1 bS.2.1 bS.2.2)) else (none)))) else (none))))) else (none)) = some r := H
 have A3 := Aside0.mk A30
 clear A30
 by_cases c4 : gl = true
 case neg =>
  replace c4 := Bool.eq_false_iff.mpr c4
  subst c4
  have H1 : (none) = some r := by rw [if_neg (show ¬ (false = true) by decide)] at H; exact H
  clear H
  have H := H1
  clear H1
  exact absurd H (by simp)

 subst c4
 have H1 : (if (l0.length : Int) > 100 then (some true) else ((postroomlaw10_run.f k l0).bind fun dk => ((some (([] : List (S43)) : List (S43))).bind fun da => (if da.length + l0.length < 4398046511104 then ((some (da ++ l0 : List (S43))).bind fun b5 => ((some (([(⟨bk, bj, bi, bh⟩ : S43)] : List (S43)) : List (S43))).bind fun bQ => (if b5.length + bQ.length < 4398046511104 then ((postroomlaw10_run.f k (b5 ++ bQ)).bind fun bS => (postroomlaw10_LedgerCounts.l0 k 0 dk.1 dk.2.1 dk.2.2 bS.1 bS.2.1 bS.2.2)) else (none)))) else (none))))) = some r := by rw [if_pos rfl] at H; exact H
 clear H
 have H := H1
 clear H1
 by_cases c5 : (l0.length : Int) > 100
 ·rw [if_pos c5] at H
  have sq : decide (100 < (l0.length : Int)) = true := decide_eq_true c5
  have sp : decide (100 < l0.length) = true := decide_eq_true (by omega)
  clear c5
  obtain rfl := Option.some.inj H
  go_enter Tryd.func4, Tryd.ntmps4
  go_wp2_with (first | ((with_reducible refine gate_dst (N := 3) rfl ?_); (try (refine gate_guard (by rfl) ?_; dsimp only)); refine box_event ?hg (N := 3) ?hd (cs := #[.int .i64 bk, .int .i64 bj, .int .i64 bi, .int .i64 bh]) (t := 43) ?hr ?_; (case hd => rfl); (case hg => rfl); (case hr => first | (go_simp; done) | (go_simp; rfl)); intro ba hg w6 hbox hb; have bf := Aside0.mk (hbox); have ql := Aside0.mk ((by rw [hg]; exact (below_size zx26_27) : w.heap.size ≤ ba)); have df := Aside0.mk ((by rw [hg]; exact (below_size zx26_27) : w.heap.size ≤ ba)); replace HB := Aside0.mk (below_step zx26_27 hb); clear hb hbox hg) | ((with_reducible refine gate_callee (f := 10) rfl ?_); refine goesL_ (some 16) rfl rfl Tryd.func10 (by kernel_rfl) rfl #[] rfl zx26_9 ?_; (with_reducible refine (postroomlaw10_shown.calls k  true _ A3.out).mono ?_); rintro e w7 ⟨rfl, hb⟩; refine ⟨_, rfl, ?_⟩; replace bf := Aside0.mk (blk_below (g := ba) (o := .cells #[.int .i64 bk, .int .i64 bj, .int .i64 bi, .int .i64 bh] 43 (0, 0)) zx26_0 hb); replace HB := Aside0.mk (below_step zx26_17 hb); (try clear hb); (try clear hb2); (try clear hk); (try clear hi)))
  go_ret
  exact ⟨by first | rfl | (simp [errW_none, errW_some] <;> rfl) | (simp [*, errW_none, errW_some] <;> rfl), by repeat (first | (with_reducible first | exact HB.out | apply below_alloc | apply pw_below_drewN | apply below_drew1 | refine below_set ?_ df.out) | exact HB.out)⟩
 rw [if_neg c5] at H
 have sq : decide (100 < (l0.length : Int)) = false := decide_eq_false c5
 have sp : decide (100 < l0.length) = false := decide_eq_false (by omega)
 clear c5
 replace H := Option.bind_eq_some_iff.mp H
 obtain ⟨⟨br, bp, bb⟩, A80, H⟩ := H
 replace H : ((some (([] : List (S43)) : List (S43))).bind fun da => (if da.length + l0.length < 4398046511104 then ((some (da ++ l0 : List (S43))).bind fun b5 => ((some (([(⟨bk, bj, bi, bh⟩ : S43)] : List (S43)) : List (S43))).bind fun bQ => (if b5.length + bQ.length < 4398046511104 then ((postroomlaw10_run.f k (b5 ++ bQ)).bind fun bS => (postroomlaw10_LedgerCounts.l0 k 0 br bp bb bS.1 bS.2.1 bS.2.2)) else (none)))) else (none))) = some r := H
 have A8 := Aside0.mk A80
 clear A80
 obtain ⟨da, gz⟩ : ∃ y_ : List (S43), y_ = (([] : List (S43))) := ⟨_, rfl⟩
 replace H : (if da.length + l0.length < 4398046511104 then ((some (da ++ l0 : List (S43))).bind fun b5 => ((some (([(⟨bk, bj, bi, bh⟩ : S43)] : List (S43)) : List (S43))).bind fun bQ => (if b5.length + bQ.length < 4398046511104 then ((postroomlaw10_run.f k (b5 ++ bQ)).bind fun bS => (postroomlaw10_LedgerCounts.l0 k 0 br bp bb bS.1 bS.2.1 bS.2.2)) else (none)))) else (none)) = some r := by first | (rw [gz]; with_reducible exact H) | (have H2_ := (Option.bind_some _ _).symm.trans H; rw [gz]; with_reducible exact H2_) | (have H2_ := (Option.bind_some _ _).symm.trans H; with_reducible exact H2_) | with_reducible exact H | (rw [gz]; exact H) | exact H
 have gc := Aside0.mk gz
 clear gz
 by_cases c9 : da.length + l0.length < 4398046511104
 case neg =>
  rw [if_neg c9] at H
  exact absurd H (by simp)
 rw [if_pos c9] at H
 have mu := Aside0.mk c9
 clear c9
 obtain ⟨b5, gy⟩ : ∃ y_ : List (S43), y_ = (da ++ l0) := ⟨_, rfl⟩
 replace H : ((some (([(⟨bk, bj, bi, bh⟩ : S43)] : List (S43)) : List (S43))).bind fun bQ => (if b5.length + bQ.length < 4398046511104 then ((postroomlaw10_run.f k (b5 ++ bQ)).bind fun bS => (postroomlaw10_LedgerCounts.l0 k 0 br bp bb bS.1 bS.2.1 bS.2.2)) else (none))) = some r := by first | (rw [gy]; with_reducible exact H) | (have H2_ := (Option.bind_some _ _).symm.trans H; rw [gy]; with_reducible exact H2_) | (have H2_ := (Option.bind_some _ _).symm.trans H; with_reducible exact H2_) | with_reducible exact H | (rw [gy]; exact H) | exact H
 have gT := Aside0.mk gy
 clear gy
 obtain ⟨bQ, gx⟩ : ∃ y_ : List (S43), y_ = (([(⟨bk, bj, bi, bh⟩ : S43)] : List (S43))) := ⟨_, rfl⟩
 replace H : (if b5.length + bQ.length < 4398046511104 then ((postroomlaw10_run.f k (b5 ++ bQ)).bind fun bS => (postroomlaw10_LedgerCounts.l0 k 0 br bp bb bS.1 bS.2.1 bS.2.2)) else (none)) = some r := by first | (rw [gx]; with_reducible exact H) | (have H2_ := (Option.bind_some _ _).symm.trans H; rw [gx]; with_reducible exact H2_) | (have H2_ := (Option.bind_some _ _).symm.trans H; with_reducible exact H2_) | with_reducible exact H | (rw [gx]; exact H) | exact H
 have dC := Aside0.mk gx
 clear gx
 by_cases c10 : b5.length + bQ.length < 4398046511104
 case neg =>
  rw [if_neg c10] at H
  exact absurd H (by simp)
 rw [if_pos c10] at H
 have mG := Aside0.mk c10
 clear c10
 obtain ⟨dD, gw⟩ : ∃ y_ : List (S43), y_ = (b5 ++ bQ) := ⟨_, rfl⟩
 replace H : ((postroomlaw10_run.f k dD).bind fun bS => (postroomlaw10_LedgerCounts.l0 k 0 br bp bb bS.1 bS.2.1 bS.2.2)) = some r := by first | (rw [gw]; with_reducible exact H) | (have H2_ := (Option.bind_some _ _).symm.trans H; rw [gw]; with_reducible exact H2_) | (have H2_ := (Option.bind_some _ _).symm.trans H; with_reducible exact H2_) | with_reducible exact H | (rw [gw]; exact H) | exact H
 have mF := Aside0.mk gw
 clear gw
 replace H := Option.bind_eq_some_iff.mp H
 obtain ⟨⟨bO, bU, bM⟩, qr, H⟩ := H
 replace H : (postroomlaw10_LedgerCounts.l0 k 0 br bp bb bO bU bM) = some r := H
 have A11 := Aside0.mk qr
 clear qr
 have H' := Aside0.mk H
 clear H
 go_enter Tryd.func4, Tryd.ntmps4
 try go_wp2_with (first | ((with_reducible refine gate_dst (N := 3) rfl ?_); (try (refine gate_guard (by rfl) ?_; dsimp only)); refine box_event ?hg (N := 3) ?hd (cs := #[.int .i64 bk, .int .i64 bj, .int .i64 bi, .int .i64 bh]) (t := 43) ?hr ?_; (case hd => rfl); (case hg => rfl); (case hr => first | (go_simp; done) | (go_simp; rfl)); intro ba hg w12 hbox hb; have bf := Aside0.mk (hbox); have ql := Aside0.mk ((by rw [hg]; exact (below_size zx26_27) : w.heap.size ≤ ba)); have df := Aside0.mk ((by rw [hg]; exact (below_size zx26_27) : w.heap.size ≤ ba)); replace HB := Aside0.mk (below_step zx26_27 hb); clear hb hbox hg) | ((with_reducible refine gate_callee (f := 10) rfl ?_); refine goesL_ (some 16) rfl rfl Tryd.func10 (by kernel_rfl) rfl #[] rfl zx26_9 ?_; (with_reducible refine (postroomlaw10_shown.calls k  true _ A3.out).mono ?_); rintro e w13 ⟨rfl, hb⟩; refine ⟨_, rfl, ?_⟩; replace bf := Aside0.mk (blk_below (g := ba) (o := .cells #[.int .i64 bk, .int .i64 bj, .int .i64 bi, .int .i64 bh] 43 (0, 0)) zx26_0 hb); replace HB := Aside0.mk (below_step zx26_17 hb); (try clear hb); (try clear hb2); (try clear hk); (try clear hi)) | ((with_reducible refine gate_callee (f := 11) rfl ?_); refine goesL_ (some 26) rfl rfl Tryd.func11 (by kernel_rfl) rfl #[.slice A0 l0.length c0] rfl zx26_9 ?_; (with_reducible refine (postroomlaw10_run.calls k _ _ l0 br bp bb _ ?side1 ?side2 A8.out).mono ?_); (case side1 => repeat (first | exact (Kd.C_below HR0.out HB.out) | (with_reducible refine Kd.C_alloc ?_ _) | (with_reducible refine Kd.C_drewN ?_ _) | (with_reducible refine Kd.C_drew ?_))); (case side2 => exact HC0.out); rintro e w14 ⟨vy, rfl, ho0, hb⟩; refine ⟨_, rfl, ?_⟩; have bB := Aside0.mk (Kd.V_lower (Kd.V_mono (ok' := fun k_ => k_ ≠ ba) ho0 (fun k_ hk_ => (Kd.freshB (g := ba) (o := .cells #[.int .i64 bk, .int .i64 bj, .int .i64 bi, .int .i64 bh] 43 (0, 0)) zx26_0 k_ hk_))) (below_size zx26_17)); replace bf := Aside0.mk (blk_below (g := ba) (o := .cells #[.int .i64 bk, .int .i64 bj, .int .i64 bi, .int .i64 bh] 43 (0, 0)) zx26_0 hb); replace HB := Aside0.mk (below_step zx26_17 hb); (try clear hb); (try clear hb2); (try clear hk); (try clear hi); (try clear ho0)) | ((with_reducible refine gate_dst (N := 6) rfl ?_); (try (refine gate_guard (by rfl) ?_; dsimp only)); refine box_event ?hg (N := 6) ?hd (cs := #[.int .u64 0, .int .u64 0, .slice none 0 0]) (t := 27) ?hr ?_; (case hd => rfl); (case hg => rfl); (case hr => first | (go_simp; done) | (go_simp; rfl)); intro bc hg w15 hbox hb; replace bB := Aside0.mk (Kd.V_below (Kd.V_elderB zx26_8 bc (Nat.le_of_eq hg.symm)) hb); have bg := Aside0.mk (hbox); have vp := Aside0.mk ((by rw [hg]; exact (below_size zx26_17) : w.heap.size ≤ bc)); have dm := Aside0.mk ((by rw [hg]; exact (below_size zx26_17) : w.heap.size ≤ bc)); replace HB := Aside0.mk (below_step zx26_17 hb); have dO := Aside0.mk ((by rw [hg]; exact Nat.ne_of_lt (blk_lt (g := ba) (o := .cells #[.int .i64 bk, .int .i64 bj, .int .i64 bi, .int .i64 bh] 43 (0, 0)) zx26_0) : ba ≠ bc)); have ga := Aside0.mk ((by rw [hg]; exact Nat.ne_of_gt (blk_lt (g := ba) (o := .cells #[.int .i64 bk, .int .i64 bj, .int .i64 bi, .int .i64 bh] 43 (0, 0)) zx26_0) : bc ≠ ba)); replace bf := Aside0.mk (blk_below (g := ba) (o := .cells #[.int .i64 bk, .int .i64 bj, .int .i64 bi, .int .i64 bh] 43 (0, 0)) zx26_0 hb); clear hb hbox hg; have sY := ga.out; have sJ := dO.out; have qL : w15.cell? ⟨bc, 0, none⟩ = some (.int .u64 0) := (blk_cell bg.out 0).trans rfl; have qK : w15.cell? ⟨bc, 1, none⟩ = some (.int .u64 0) := (blk_cell bg.out 1).trans rfl; have qJ : w15.cell? ⟨bc, 2, none⟩ = some (.slice none 0 0) := (blk_cell bg.out 2).trans rfl; have qI := blk_frozen bg.out 0; have qH := blk_frozen bg.out 1; have qG := blk_frozen bg.out 2; obtain ⟨bE, bq, sh⟩ := Kd.V_slice bB.out; subst sh))
 have n0_ : Aside0 (Kd.V k37 37 (((w15.setCell ⟨bc, 0, none⟩ (.int .u64 br)).setCell ⟨bc, 1, none⟩ (.int .u64 bp)).setCell ⟨bc, 2, none⟩ (.slice bE bb.length bq)) w.heap.size (fun k_ => k_ ≠ ba ∧ k_ ≠ bc) (.slice bE bb.length bq) bb) := ⟨by (with_reducible repeat (first | apply Kd.V_alloc | apply Kd.V_drewN | apply Kd.V_drew)); exact Kd.V_mono (Kd.V_far (p := ⟨bc, 2, none⟩) (Kd.V_far (p := ⟨bc, 1, none⟩) (Kd.V_far (p := ⟨bc, 0, none⟩) (Kd.V_mono bB.out (fun k_ hk => (⟨hk, hk.2⟩ : _ ∧ k_ ≠ bc))) (fun _ hk => hk.2) (.int .u64 br)) (fun _ hk => hk.2) (.int .u64 bp)) (fun _ hk => hk.2) (.slice bE bb.length bq)) (fun _ hk => ⟨hk.1.1, hk.1.2⟩)⟩
 have n1_ : Aside0 ((((w15.setCell ⟨bc, 0, none⟩ (.int .u64 br)).setCell ⟨bc, 1, none⟩ (.int .u64 bp)).setCell ⟨bc, 2, none⟩ (.slice bE bb.length bq)).heap[ba]? = some (.cells #[.int .i64 bk, .int .i64 bj, .int .i64 bi, .int .i64 bh] 43 (0, 0))) := ⟨by (iterate 3 ((with_reducible repeat (first | refine blk_drewN ?_ _ | refine blk_drew ?_ | refine blk_alloc ?_ _)); refine blk_far ?_ dO.out _)); (with_reducible repeat (first | refine blk_drewN ?_ _ | refine blk_drew ?_ | refine blk_alloc ?_ _)); exact bf.out⟩
 have n2_ : Aside0 ((((w15.setCell ⟨bc, 0, none⟩ (.int .u64 br)).setCell ⟨bc, 1, none⟩ (.int .u64 bp)).setCell ⟨bc, 2, none⟩ (.slice bE bb.length bq)).heap[bc]? = some (.cells #[.int .u64 br, .int .u64 bp, .slice bE bb.length bq] 27 (0, 0))) := ⟨by (with_reducible repeat (first | refine blk_drewN ?_ _ | refine blk_drew ?_ | refine blk_alloc ?_ _)); refine blk_put (cs := #[.int .u64 br, .int .u64 bp, .slice none 0 0]) ?_ 2 _ rfl; (with_reducible repeat (first | refine blk_drewN ?_ _ | refine blk_drew ?_ | refine blk_alloc ?_ _)); refine blk_put (cs := #[.int .u64 br, .int .u64 0, .slice none 0 0]) ?_ 1 _ rfl; (with_reducible repeat (first | refine blk_drewN ?_ _ | refine blk_drew ?_ | refine blk_alloc ?_ _)); refine blk_put (cs := #[.int .u64 0, .int .u64 0, .slice none 0 0]) ?_ 0 _ rfl; (with_reducible repeat (first | refine blk_drewN ?_ _ | refine blk_drew ?_ | refine blk_alloc ?_ _)); exact bg.out⟩
 have n3_ : Aside0 (Below w.heap.size w (((w15.setCell ⟨bc, 0, none⟩ (.int .u64 br)).setCell ⟨bc, 1, none⟩ (.int .u64 bp)).setCell ⟨bc, 2, none⟩ (.slice bE bb.length bq))) := ⟨by repeat (first | (with_reducible first | exact HB.out | apply below_alloc | apply pw_below_drewN | apply below_drew1 | refine below_set ?_ df.out | refine below_set ?_ dm.out) | exact HB.out)⟩
 (try clear bB)
 (try clear bf)
 (try clear bg)
 (try clear HB)
 generalize (((w15.setCell ⟨bc, 0, none⟩ (.int .u64 br)).setCell ⟨bc, 1, none⟩ (.int .u64 bp)).setCell ⟨bc, 2, none⟩ (.slice bE bb.length bq)) = w19 at n0_ n1_ n2_ n3_ ⊢
 have bB := n0_
 have bf := n1_
 have bg := n2_
 have HB := n3_
 clear n0_ n1_ n2_ n3_
 replace bB := Aside0.mk (Kd.V_drew bB.out)
 replace bf := Aside0.mk (blk_drew bf.out)
 replace bg := Aside0.mk (blk_drew bg.out)
 replace HB := Aside0.mk (below_drew1 HB.out)
 refine start_ (n := 9) (S := fun w' => w'.cell? ⟨ba, 0, none⟩ = some (.int .i64 bk) ∧ w'.cell? ⟨ba, 1, none⟩ = some (.int .i64 bj) ∧ w'.cell? ⟨ba, 2, none⟩ = some (.int .i64 bi) ∧ w'.cell? ⟨ba, 3, none⟩ = some (.int .i64 bh)) (ds := []) #[Ff,Ff,Ff,Ff,Ff,Ff,Ff,Ff,Ff] (by kernel_rfl) rfl rfl ⟨(blk_cell bf.out 0).trans rfl, (blk_cell bf.out 1).trans rfl, (blk_cell bf.out 2).trans rfl, (blk_cell bf.out 3).trans rfl⟩ (fun hHeld => ?_); refine with_tabW postroomlaw10_LedgerCounts.tab5 postroomlaw10_LedgerCounts.bits5 (fun HT_ HW_ => ?_)
 generalize w19.drew = w20 at bB bf bg HB hHeld ⊢
 refine pp_ 1 (some 28) HT_.out ?_
 refine take_ (i := 3) (N := some 30) (v := ?_) (a' := ?_) #[Ff,Tt,Ff,Tt,Ff,Ff,Ff,Ff,Ff] rfl rfl (take_ofW HT_.out HW_.out (by kernel_rfl)) (fun _ _ _ h => h) (Or.inl ⟨by rfl, ?_⟩) hHeld ?_ ?_
 rotate_left
 ·rintro w' ⟨s0, s1, s2, s3⟩
  go_simp
  with_reducible rfl
 rotate_left
 ·simp only [Act.put, List.setIfInBounds_toArray, List.set_cons_zero, List.set_cons_succ, i64_w, i32_w]
  rfl
 refine join_ (σ := Value × Value × Value × Value × Value × Nat) 1 #[Tt,Tt,Tt,Tt,Tt,Tt,Tt,Tt,Ff] (fun s_ => [(27, s_.1), (29, s_.2.1), (31, s_.2.2.1), (32, s_.2.2.2.1), (33, .agg #[.int .u64 bO, .int .u64 bU, s_.2.2.2.2.1]), (7, .pointer (some ⟨s_.2.2.2.2.2, 0, none⟩))]) (fun s_ w' => (w'.cell? ⟨ba, 0, none⟩ = some (.int .i64 bk) ∧ w'.cell? ⟨ba, 1, none⟩ = some (.int .i64 bj) ∧ w'.cell? ⟨ba, 2, none⟩ = some (.int .i64 bi) ∧ w'.cell? ⟨ba, 3, none⟩ = some (.int .i64 bh)) ∧ (Kd.V k37 37 w' w.heap.size (fun k_ => some k_ ≠ (s_.2.2.1 : Value).ownBlock ∧ some k_ ≠ (s_.2.2.2.1 : Value).ownBlock ∧ k_ ≠ ba ∧ k_ ≠ bc ∧ k_ ≠ s_.2.2.2.2.2) (.slice bE bb.length bq) bb) ∧ (Kd.R k43 43 w' w.heap.size (fun k_ => some k_ ≠ (s_.2.2.2.1 : Value).ownBlock ∧ k_ ≠ ba) s_.2.2.1 bQ) ∧ (Kd.R k43 43 w' w.heap.size (fun k_ => some k_ ≠ (s_.2.2.1 : Value).ownBlock ∧ k_ ≠ ba) s_.2.2.2.1 dD) ∧ (Kd.V k37 37 w' w.heap.size (fun k_ => some k_ ≠ (s_.2.2.1 : Value).ownBlock ∧ some k_ ≠ (s_.2.2.2.1 : Value).ownBlock ∧ k_ ≠ ba ∧ k_ ≠ bc ∧ k_ ≠ s_.2.2.2.2.2) s_.2.2.2.2.1 bM) ∧ (w'.heap[ba]? = some (.cells #[.int .i64 bk, .int .i64 bj, .int .i64 bi, .int .i64 bh] 43 (0, 0))) ∧ (w'.heap[bc]? = some (.cells #[.int .u64 br, .int .u64 bp, .slice bE bb.length bq] 27 (0, 0))) ∧ (w'.heap[s_.2.2.2.2.2]? = some (.cells #[.int .u64 0, .int .u64 0, .slice none 0 0] 27 (0, 0))) ∧ (w.heap.size ≤ s_.2.2.2.2.2) ∧ (w.heap.size ≤ s_.2.2.2.2.2) ∧ (ba ≠ s_.2.2.2.2.2) ∧ (s_.2.2.2.2.2 ≠ ba) ∧ (bc ≠ s_.2.2.2.2.2) ∧ (s_.2.2.2.2.2 ≠ bc) ∧ (Below w.heap.size w w')) ?_ ?_
 rotate_left
 ·intro dQ
  refine join_ (σ := Value × Value × Value × Value × Value) 2 #[Tt,Tt,Tt,Tt,Tt,Tt,Tt,Ff,Ff] (fun s_ => [(27, s_.1), (29, s_.2.1), (31, s_.2.2.1), (32, s_.2.2.2.1), (33, .agg #[.int .u64 bO, .int .u64 bU, s_.2.2.2.2])]) (fun s_ w' => (w'.cell? ⟨ba, 0, none⟩ = some (.int .i64 bk) ∧ w'.cell? ⟨ba, 1, none⟩ = some (.int .i64 bj) ∧ w'.cell? ⟨ba, 2, none⟩ = some (.int .i64 bi) ∧ w'.cell? ⟨ba, 3, none⟩ = some (.int .i64 bh)) ∧ (Kd.V k37 37 w' w.heap.size (fun k_ => some k_ ≠ (s_.2.2.1 : Value).ownBlock ∧ some k_ ≠ (s_.2.2.2.1 : Value).ownBlock ∧ k_ ≠ ba ∧ k_ ≠ bc) (.slice bE bb.length bq) bb) ∧ (Kd.R k43 43 w' w.heap.size (fun k_ => some k_ ≠ (s_.2.2.2.1 : Value).ownBlock ∧ k_ ≠ ba) s_.2.2.1 bQ) ∧ (Kd.R k43 43 w' w.heap.size (fun k_ => some k_ ≠ (s_.2.2.1 : Value).ownBlock ∧ k_ ≠ ba) s_.2.2.2.1 dD) ∧ (Kd.V k37 37 w' w.heap.size (fun k_ => some k_ ≠ (s_.2.2.1 : Value).ownBlock ∧ some k_ ≠ (s_.2.2.2.1 : Value).ownBlock ∧ k_ ≠ ba ∧ k_ ≠ bc) s_.2.2.2.2 bM) ∧ (w'.heap[ba]? = some (.cells #[.int .i64 bk, .int .i64 bj, .int .i64 bi, .int .i64 bh] 43 (0, 0))) ∧ (w'.heap[bc]? = some (.cells #[.int .u64 br, .int .u64 bp, .slice bE bb.length bq] 27 (0, 0))) ∧ (Below w.heap.size w w')) ?_ ?_
  rotate_left
  ·intro gA
   refine join_ (σ := Value × Value × Value × Value × Nat) 2 #[Tt,Tt,Tt,Tt,Tt,Tt,Ff,Tt,Ff] (fun s_ => [(27, s_.1), (29, s_.2.1), (31, s_.2.2.1), (32, s_.2.2.2.1), (7, .pointer (some ⟨s_.2.2.2.2, 0, none⟩))]) (fun s_ w' => (w'.cell? ⟨ba, 0, none⟩ = some (.int .i64 bk) ∧ w'.cell? ⟨ba, 1, none⟩ = some (.int .i64 bj) ∧ w'.cell? ⟨ba, 2, none⟩ = some (.int .i64 bi) ∧ w'.cell? ⟨ba, 3, none⟩ = some (.int .i64 bh)) ∧ (Kd.V k37 37 w' w.heap.size (fun k_ => some k_ ≠ (s_.2.2.1 : Value).ownBlock ∧ some k_ ≠ (s_.2.2.2.1 : Value).ownBlock ∧ k_ ≠ ba ∧ k_ ≠ bc ∧ k_ ≠ s_.2.2.2.2) (.slice bE bb.length bq) bb) ∧ (Kd.R k43 43 w' w.heap.size (fun k_ => some k_ ≠ (s_.2.2.2.1 : Value).ownBlock ∧ k_ ≠ ba) s_.2.2.1 bQ) ∧ (Kd.R k43 43 w' w.heap.size (fun k_ => some k_ ≠ (s_.2.2.1 : Value).ownBlock ∧ k_ ≠ ba) s_.2.2.2.1 dD) ∧ (w'.heap[ba]? = some (.cells #[.int .i64 bk, .int .i64 bj, .int .i64 bi, .int .i64 bh] 43 (0, 0))) ∧ (w'.heap[bc]? = some (.cells #[.int .u64 br, .int .u64 bp, .slice bE bb.length bq] 27 (0, 0))) ∧ (w'.heap[s_.2.2.2.2]? = some (.cells #[.int .u64 0, .int .u64 0, .slice none 0 0] 27 (0, 0))) ∧ (w.heap.size ≤ s_.2.2.2.2) ∧ (w.heap.size ≤ s_.2.2.2.2) ∧ (ba ≠ s_.2.2.2.2) ∧ (s_.2.2.2.2 ≠ ba) ∧ (bc ≠ s_.2.2.2.2) ∧ (s_.2.2.2.2 ≠ bc) ∧ (Below w.heap.size w w')) ?_ ?_
   rotate_left
   ·intro gb
    refine join_ (σ := Value × Value × Value × Value) 3 #[Tt,Tt,Tt,Tt,Tt,Tt,Ff,Ff,Ff] (fun s_ => [(27, s_.1), (29, s_.2.1), (31, s_.2.2.1), (32, s_.2.2.2)]) (fun s_ w' => (w'.cell? ⟨ba, 0, none⟩ = some (.int .i64 bk) ∧ w'.cell? ⟨ba, 1, none⟩ = some (.int .i64 bj) ∧ w'.cell? ⟨ba, 2, none⟩ = some (.int .i64 bi) ∧ w'.cell? ⟨ba, 3, none⟩ = some (.int .i64 bh)) ∧ (Kd.V k37 37 w' w.heap.size (fun k_ => some k_ ≠ (s_.2.2.1 : Value).ownBlock ∧ some k_ ≠ (s_.2.2.2 : Value).ownBlock ∧ k_ ≠ ba ∧ k_ ≠ bc) (.slice bE bb.length bq) bb) ∧ (Kd.R k43 43 w' w.heap.size (fun k_ => some k_ ≠ (s_.2.2.2 : Value).ownBlock ∧ k_ ≠ ba) s_.2.2.1 bQ) ∧ (Kd.R k43 43 w' w.heap.size (fun k_ => some k_ ≠ (s_.2.2.1 : Value).ownBlock ∧ k_ ≠ ba) s_.2.2.2 dD) ∧ (w'.heap[ba]? = some (.cells #[.int .i64 bk, .int .i64 bj, .int .i64 bi, .int .i64 bh] 43 (0, 0))) ∧ (w'.heap[bc]? = some (.cells #[.int .u64 br, .int .u64 bp, .slice bE bb.length bq] 27 (0, 0))) ∧ (Below w.heap.size w w')) ?_ ?_
    rotate_left
    ·intro gV
     refine join_ (σ := Value × Value × Value × Nat) 3 #[Tt,Tt,Tt,Tt,Tt,Ff,Ff,Tt,Ff] (fun s_ => [(27, s_.1), (29, s_.2.1), (31, s_.2.2.1), (7, .pointer (some ⟨s_.2.2.2, 0, none⟩))]) (fun s_ w' => (w'.cell? ⟨ba, 0, none⟩ = some (.int .i64 bk) ∧ w'.cell? ⟨ba, 1, none⟩ = some (.int .i64 bj) ∧ w'.cell? ⟨ba, 2, none⟩ = some (.int .i64 bi) ∧ w'.cell? ⟨ba, 3, none⟩ = some (.int .i64 bh)) ∧ (Kd.V k37 37 w' w.heap.size (fun k_ => some k_ ≠ (s_.2.1 : Value).ownBlock ∧ some k_ ≠ (s_.2.2.1 : Value).ownBlock ∧ k_ ≠ ba ∧ k_ ≠ bc ∧ k_ ≠ s_.2.2.2) (.slice bE bb.length bq) bb) ∧ (Kd.R k43 43 w' w.heap.size (fun k_ => some k_ ≠ (s_.2.2.1 : Value).ownBlock ∧ k_ ≠ ba) s_.2.1 b5) ∧ (Kd.R k43 43 w' w.heap.size (fun k_ => some k_ ≠ (s_.2.1 : Value).ownBlock ∧ k_ ≠ ba) s_.2.2.1 bQ) ∧ (w'.heap[ba]? = some (.cells #[.int .i64 bk, .int .i64 bj, .int .i64 bi, .int .i64 bh] 43 (0, 0))) ∧ (w'.heap[bc]? = some (.cells #[.int .u64 br, .int .u64 bp, .slice bE bb.length bq] 27 (0, 0))) ∧ (w'.heap[s_.2.2.2]? = some (.cells #[.int .u64 0, .int .u64 0, .slice none 0 0] 27 (0, 0))) ∧ (w.heap.size ≤ s_.2.2.2) ∧ (w.heap.size ≤ s_.2.2.2) ∧ (ba ≠ s_.2.2.2) ∧ (s_.2.2.2 ≠ ba) ∧ (bc ≠ s_.2.2.2) ∧ (s_.2.2.2 ≠ bc) ∧ (Below w.heap.size w w')) ?_ ?_
     rotate_left
     ·intro d2
      refine join_ (σ := Value × Value × Value) 4 #[Tt,Tt,Tt,Tt,Tt,Ff,Ff,Ff,Ff] (fun s_ => [(27, s_.1), (29, s_.2.1), (31, s_.2.2)]) (fun s_ w' => (w'.cell? ⟨ba, 0, none⟩ = some (.int .i64 bk) ∧ w'.cell? ⟨ba, 1, none⟩ = some (.int .i64 bj) ∧ w'.cell? ⟨ba, 2, none⟩ = some (.int .i64 bi) ∧ w'.cell? ⟨ba, 3, none⟩ = some (.int .i64 bh)) ∧ (Kd.V k37 37 w' w.heap.size (fun k_ => some k_ ≠ (s_.2.1 : Value).ownBlock ∧ some k_ ≠ (s_.2.2 : Value).ownBlock ∧ k_ ≠ ba ∧ k_ ≠ bc) (.slice bE bb.length bq) bb) ∧ (Kd.R k43 43 w' w.heap.size (fun k_ => some k_ ≠ (s_.2.2 : Value).ownBlock ∧ k_ ≠ ba) s_.2.1 b5) ∧ (Kd.R k43 43 w' w.heap.size (fun k_ => some k_ ≠ (s_.2.1 : Value).ownBlock ∧ k_ ≠ ba) s_.2.2 bQ) ∧ (w'.heap[ba]? = some (.cells #[.int .i64 bk, .int .i64 bj, .int .i64 bi, .int .i64 bh] 43 (0, 0))) ∧ (w'.heap[bc]? = some (.cells #[.int .u64 br, .int .u64 bp, .slice bE bb.length bq] 27 (0, 0))) ∧ (Below w.heap.size w w')) ?_ ?_
      rotate_left
      ·intro gS
       refine join_ (σ := Value × Value × Nat) 4 #[Tt,Tt,Tt,Tt,Ff,Ff,Ff,Tt,Ff] (fun s_ => [(27, s_.1), (29, s_.2.1), (7, .pointer (some ⟨s_.2.2, 0, none⟩))]) (fun s_ w' => (w'.cell? ⟨ba, 0, none⟩ = some (.int .i64 bk) ∧ w'.cell? ⟨ba, 1, none⟩ = some (.int .i64 bj) ∧ w'.cell? ⟨ba, 2, none⟩ = some (.int .i64 bi) ∧ w'.cell? ⟨ba, 3, none⟩ = some (.int .i64 bh)) ∧ (Kd.V k37 37 w' w.heap.size (fun k_ => some k_ ≠ (s_.2.1 : Value).ownBlock ∧ k_ ≠ ba ∧ k_ ≠ bc ∧ k_ ≠ s_.2.2) (.slice bE bb.length bq) bb) ∧ (Kd.R k43 43 w' w.heap.size (fun k_ => k_ ≠ ba) s_.2.1 b5) ∧ (w'.heap[ba]? = some (.cells #[.int .i64 bk, .int .i64 bj, .int .i64 bi, .int .i64 bh] 43 (0, 0))) ∧ (w'.heap[bc]? = some (.cells #[.int .u64 br, .int .u64 bp, .slice bE bb.length bq] 27 (0, 0))) ∧ (w'.heap[s_.2.2]? = some (.cells #[.int .u64 0, .int .u64 0, .slice none 0 0] 27 (0, 0))) ∧ (w.heap.size ≤ s_.2.2) ∧ (w.heap.size ≤ s_.2.2) ∧ (ba ≠ s_.2.2) ∧ (s_.2.2 ≠ ba) ∧ (bc ≠ s_.2.2) ∧ (s_.2.2 ≠ bc) ∧ (Below w.heap.size w w')) ?_ ?_
       rotate_left
       ·intro gR
        refine join_ (σ := Value × Value × Nat) 4 #[Tt,Tt,Ff,Tt,Tt,Ff,Ff,Tt,Ff] (fun s_ => [(27, s_.1), (31, s_.2.1), (7, .pointer (some ⟨s_.2.2, 0, none⟩))]) (fun s_ w' => (w'.cell? ⟨ba, 0, none⟩ = some (.int .i64 bk) ∧ w'.cell? ⟨ba, 1, none⟩ = some (.int .i64 bj) ∧ w'.cell? ⟨ba, 2, none⟩ = some (.int .i64 bi) ∧ w'.cell? ⟨ba, 3, none⟩ = some (.int .i64 bh)) ∧ (Kd.V k37 37 w' w.heap.size (fun k_ => some k_ ≠ (s_.1 : Value).ownBlock ∧ some k_ ≠ (s_.2.1 : Value).ownBlock ∧ k_ ≠ ba ∧ k_ ≠ bc ∧ k_ ≠ s_.2.2) (.slice bE bb.length bq) bb) ∧ (Kd.R k43 43 w' w.heap.size (fun k_ => some k_ ≠ (s_.2.1 : Value).ownBlock ∧ k_ ≠ ba) s_.1 da) ∧ (Kd.R k43 43 w' w.heap.size (fun k_ => some k_ ≠ (s_.1 : Value).ownBlock ∧ k_ ≠ ba) s_.2.1 bQ) ∧ (w'.heap[ba]? = some (.cells #[.int .i64 bk, .int .i64 bj, .int .i64 bi, .int .i64 bh] 43 (0, 0))) ∧ (w'.heap[bc]? = some (.cells #[.int .u64 br, .int .u64 bp, .slice bE bb.length bq] 27 (0, 0))) ∧ (w'.heap[s_.2.2]? = some (.cells #[.int .u64 0, .int .u64 0, .slice none 0 0] 27 (0, 0))) ∧ (w.heap.size ≤ s_.2.2) ∧ (w.heap.size ≤ s_.2.2) ∧ (ba ≠ s_.2.2) ∧ (s_.2.2 ≠ ba) ∧ (bc ≠ s_.2.2) ∧ (s_.2.2 ≠ bc) ∧ (Below w.heap.size w w')) ?_ ?_
        rotate_left
        ·intro gn
         refine join_ (σ := Value × Value) 5 #[Tt,Tt,Tt,Tt,Ff,Ff,Ff,Ff,Ff] (fun s_ => [(27, s_.1), (29, s_.2)]) (fun s_ w' => (w'.cell? ⟨ba, 0, none⟩ = some (.int .i64 bk) ∧ w'.cell? ⟨ba, 1, none⟩ = some (.int .i64 bj) ∧ w'.cell? ⟨ba, 2, none⟩ = some (.int .i64 bi) ∧ w'.cell? ⟨ba, 3, none⟩ = some (.int .i64 bh)) ∧ (Kd.V k37 37 w' w.heap.size (fun k_ => some k_ ≠ (s_.2 : Value).ownBlock ∧ k_ ≠ ba ∧ k_ ≠ bc) (.slice bE bb.length bq) bb) ∧ (Kd.R k43 43 w' w.heap.size (fun k_ => k_ ≠ ba) s_.2 b5) ∧ (w'.heap[ba]? = some (.cells #[.int .i64 bk, .int .i64 bj, .int .i64 bi, .int .i64 bh] 43 (0, 0))) ∧ (w'.heap[bc]? = some (.cells #[.int .u64 br, .int .u64 bp, .slice bE bb.length bq] 27 (0, 0))) ∧ (Below w.heap.size w w')) ?_ ?_
         rotate_left
         ·intro oS
          refine join_ (σ := Value × Value) 5 #[Tt,Tt,Ff,Tt,Tt,Ff,Ff,Ff,Ff] (fun s_ => [(27, s_.1), (31, s_.2)]) (fun s_ w' => (w'.cell? ⟨ba, 0, none⟩ = some (.int .i64 bk) ∧ w'.cell? ⟨ba, 1, none⟩ = some (.int .i64 bj) ∧ w'.cell? ⟨ba, 2, none⟩ = some (.int .i64 bi) ∧ w'.cell? ⟨ba, 3, none⟩ = some (.int .i64 bh)) ∧ (Kd.V k37 37 w' w.heap.size (fun k_ => some k_ ≠ (s_.1 : Value).ownBlock ∧ some k_ ≠ (s_.2 : Value).ownBlock ∧ k_ ≠ ba ∧ k_ ≠ bc) (.slice bE bb.length bq) bb) ∧ (Kd.R k43 43 w' w.heap.size (fun k_ => some k_ ≠ (s_.2 : Value).ownBlock ∧ k_ ≠ ba) s_.1 da) ∧ (Kd.R k43 43 w' w.heap.size (fun k_ => some k_ ≠ (s_.1 : Value).ownBlock ∧ k_ ≠ ba) s_.2 bQ) ∧ (w'.heap[ba]? = some (.cells #[.int .i64 bk, .int .i64 bj, .int .i64 bi, .int .i64 bh] 43 (0, 0))) ∧ (w'.heap[bc]? = some (.cells #[.int .u64 br, .int .u64 bp, .slice bE bb.length bq] 27 (0, 0))) ∧ (Below w.heap.size w w')) ?_ ?_
          rotate_left
          ·intro mA
           refine join_ (σ := Value × Nat) 5 #[Tt,Tt,Ff,Tt,Ff,Ff,Ff,Tt,Ff] (fun s_ => [(27, s_.1), (7, .pointer (some ⟨s_.2, 0, none⟩))]) (fun s_ w' => (w'.cell? ⟨ba, 0, none⟩ = some (.int .i64 bk) ∧ w'.cell? ⟨ba, 1, none⟩ = some (.int .i64 bj) ∧ w'.cell? ⟨ba, 2, none⟩ = some (.int .i64 bi) ∧ w'.cell? ⟨ba, 3, none⟩ = some (.int .i64 bh)) ∧ (Kd.V k37 37 w' w.heap.size (fun k_ => some k_ ≠ (s_.1 : Value).ownBlock ∧ k_ ≠ ba ∧ k_ ≠ bc ∧ k_ ≠ s_.2) (.slice bE bb.length bq) bb) ∧ (Kd.R k43 43 w' w.heap.size (fun k_ => k_ ≠ ba) s_.1 da) ∧ (w'.heap[ba]? = some (.cells #[.int .i64 bk, .int .i64 bj, .int .i64 bi, .int .i64 bh] 43 (0, 0))) ∧ (w'.heap[bc]? = some (.cells #[.int .u64 br, .int .u64 bp, .slice bE bb.length bq] 27 (0, 0))) ∧ (w'.heap[s_.2]? = some (.cells #[.int .u64 0, .int .u64 0, .slice none 0 0] 27 (0, 0))) ∧ (w.heap.size ≤ s_.2) ∧ (w.heap.size ≤ s_.2) ∧ (ba ≠ s_.2) ∧ (s_.2 ≠ ba) ∧ (bc ≠ s_.2) ∧ (s_.2 ≠ bc) ∧ (Below w.heap.size w w')) ?_ ?_
           rotate_left
           ·intro mz
            refine join_ (σ := Value × Nat) 5 #[Ff,Tt,Ff,Tt,Tt,Ff,Ff,Tt,Ff] (fun s_ => [(31, s_.1), (7, .pointer (some ⟨s_.2, 0, none⟩))]) (fun s_ w' => (w'.cell? ⟨ba, 0, none⟩ = some (.int .i64 bk) ∧ w'.cell? ⟨ba, 1, none⟩ = some (.int .i64 bj) ∧ w'.cell? ⟨ba, 2, none⟩ = some (.int .i64 bi) ∧ w'.cell? ⟨ba, 3, none⟩ = some (.int .i64 bh)) ∧ (Kd.V k37 37 w' w.heap.size (fun k_ => some k_ ≠ (s_.1 : Value).ownBlock ∧ k_ ≠ ba ∧ k_ ≠ bc ∧ k_ ≠ s_.2) (.slice bE bb.length bq) bb) ∧ (Kd.R k43 43 w' w.heap.size (fun k_ => k_ ≠ ba) s_.1 bQ) ∧ (w'.heap[ba]? = some (.cells #[.int .i64 bk, .int .i64 bj, .int .i64 bi, .int .i64 bh] 43 (0, 0))) ∧ (w'.heap[bc]? = some (.cells #[.int .u64 br, .int .u64 bp, .slice bE bb.length bq] 27 (0, 0))) ∧ (w'.heap[s_.2]? = some (.cells #[.int .u64 0, .int .u64 0, .slice none 0 0] 27 (0, 0))) ∧ (w.heap.size ≤ s_.2) ∧ (w.heap.size ≤ s_.2) ∧ (ba ≠ s_.2) ∧ (s_.2 ≠ ba) ∧ (bc ≠ s_.2) ∧ (s_.2 ≠ bc) ∧ (Below w.heap.size w w')) ?_ ?_
            rotate_left
            ·intro my
             refine join_ (σ := Value) 6 #[Tt,Tt,Ff,Tt,Ff,Ff,Ff,Ff,Ff] (fun s_ => [(27, s_)]) (fun s_ w' => (w'.cell? ⟨ba, 0, none⟩ = some (.int .i64 bk) ∧ w'.cell? ⟨ba, 1, none⟩ = some (.int .i64 bj) ∧ w'.cell? ⟨ba, 2, none⟩ = some (.int .i64 bi) ∧ w'.cell? ⟨ba, 3, none⟩ = some (.int .i64 bh)) ∧ (Kd.V k37 37 w' w.heap.size (fun k_ => some k_ ≠ (s_ : Value).ownBlock ∧ k_ ≠ ba ∧ k_ ≠ bc) (.slice bE bb.length bq) bb) ∧ (Kd.R k43 43 w' w.heap.size (fun k_ => k_ ≠ ba) s_ da) ∧ (w'.heap[ba]? = some (.cells #[.int .i64 bk, .int .i64 bj, .int .i64 bi, .int .i64 bh] 43 (0, 0))) ∧ (w'.heap[bc]? = some (.cells #[.int .u64 br, .int .u64 bp, .slice bE bb.length bq] 27 (0, 0))) ∧ (Below w.heap.size w w')) ?_ ?_
             rotate_left
             ·intro hJ0
              refine join_ (σ := Value) 6 #[Ff,Tt,Ff,Tt,Tt,Ff,Ff,Ff,Ff] (fun s_ => [(31, s_)]) (fun s_ w' => (w'.cell? ⟨ba, 0, none⟩ = some (.int .i64 bk) ∧ w'.cell? ⟨ba, 1, none⟩ = some (.int .i64 bj) ∧ w'.cell? ⟨ba, 2, none⟩ = some (.int .i64 bi) ∧ w'.cell? ⟨ba, 3, none⟩ = some (.int .i64 bh)) ∧ (Kd.V k37 37 w' w.heap.size (fun k_ => some k_ ≠ (s_ : Value).ownBlock ∧ k_ ≠ ba ∧ k_ ≠ bc) (.slice bE bb.length bq) bb) ∧ (Kd.R k43 43 w' w.heap.size (fun k_ => k_ ≠ ba) s_ bQ) ∧ (w'.heap[ba]? = some (.cells #[.int .i64 bk, .int .i64 bj, .int .i64 bi, .int .i64 bh] 43 (0, 0))) ∧ (w'.heap[bc]? = some (.cells #[.int .u64 br, .int .u64 bp, .slice bE bb.length bq] 27 (0, 0))) ∧ (Below w.heap.size w w')) ?_ ?_
              rotate_left
              ·intro hJ4
               refine join_ (σ := Nat) 6 #[Ff,Tt,Ff,Tt,Ff,Ff,Ff,Tt,Ff] (fun s_ => [(7, .pointer (some ⟨s_, 0, none⟩))]) (fun s_ w' => (w'.cell? ⟨ba, 0, none⟩ = some (.int .i64 bk) ∧ w'.cell? ⟨ba, 1, none⟩ = some (.int .i64 bj) ∧ w'.cell? ⟨ba, 2, none⟩ = some (.int .i64 bi) ∧ w'.cell? ⟨ba, 3, none⟩ = some (.int .i64 bh)) ∧ (Kd.V k37 37 w' w.heap.size (fun k_ => k_ ≠ ba ∧ k_ ≠ bc ∧ k_ ≠ s_) (.slice bE bb.length bq) bb) ∧ (w'.heap[ba]? = some (.cells #[.int .i64 bk, .int .i64 bj, .int .i64 bi, .int .i64 bh] 43 (0, 0))) ∧ (w'.heap[bc]? = some (.cells #[.int .u64 br, .int .u64 bp, .slice bE bb.length bq] 27 (0, 0))) ∧ (w'.heap[s_]? = some (.cells #[.int .u64 0, .int .u64 0, .slice none 0 0] 27 (0, 0))) ∧ (w.heap.size ≤ s_) ∧ (w.heap.size ≤ s_) ∧ (ba ≠ s_) ∧ (s_ ≠ ba) ∧ (bc ≠ s_) ∧ (s_ ≠ bc) ∧ (Below w.heap.size w w')) ?_ ?_
               rotate_left
               ·intro hJ7
                refine three_ (i := 0) (j := 4) (k := 7) (Ni := some 27) (Nj := some 31) (Nk := some 7) #[Tt,Tt,Ff,Tt,Ff,Ff,Ff,Ff,Ff] #[Ff,Tt,Ff,Tt,Tt,Ff,Ff,Ff,Ff] #[Ff,Tt,Ff,Tt,Ff,Ff,Ff,Tt,Ff] rfl rfl rfl rfl rfl rfl (three_of HT_.out (by kernel_rfl)) (by decide) (by decide) (by decide) (fun K hK => ?_) (fun K hK => ?_) (fun K hK => ?_)
                ·skip
                 refine Kd.R_lit_step k43 _ 43 ?hg (N := 27) ?hd (xs := ([] : List (S43))) (inner := []) (ok := fun _ => True) (okp := fun _ => True) ?hr ?hp (fun _ hk => hk) trivial (Below.refl _ _) (Nat.le_refl _) (by simp) ?_; (case hd => rfl); (case hg => rfl); (case hr => first | (go_simp; done) | (go_simp; rfl)); (case hp => exact (Reps.none _ _))
                 intro bV w21 d1 hb hg_ hnew_
                 clear hg_ hnew_
                 (first | rw [← gc.out] at d1 | (simp only [Int.reduceToNat] at d1; rw [← gc.out] at d1))
                 replace bB := Aside0.mk (Kd.V_elder' zx26_8 (Kd.R_base d1) hb)
                 have bX := Aside0.mk (Kd.R_lower (Kd.R_newB d1 (g := ba) (o := .cells #[.int .i64 bk, .int .i64 bj, .int .i64 bi, .int .i64 bh] 43 (0, 0)) zx26_0) (below_size zx26_1))
                 replace bf := Aside0.mk (blk_below (g := ba) (o := .cells #[.int .i64 bk, .int .i64 bj, .int .i64 bi, .int .i64 bh] 43 (0, 0)) zx26_0 hb)
                 replace bg := Aside0.mk (blk_below (g := bc) (o := .cells #[.int .u64 br, .int .u64 bp, .slice bE bb.length bq] 27 (0, 0)) zx26_2 hb)
                 replace HB := Aside0.mk (below_step zx26_1 hb)
                 clear hb d1
                 refine hK.out _ _ ⟨(blk_cell bf.out 0).trans rfl, (blk_cell bf.out 1).trans rfl, (blk_cell bf.out 2).trans rfl, (blk_cell bf.out 3).trans rfl⟩ (fun hHeld => ?_)
                 clear hK K
                 refine na_ 27 ?_
                 exact norm_ zx26_4 (hJ0 (bV) _ ⟨hHeld, zx26_36, (by (with_reducible repeat (first | apply Kd.R_alloc | apply Kd.R_drewN | apply Kd.R_drew)); exact Kd.R_mono bX.out (fun _ hk => hk.2)), zx26_0, zx26_2, zx26_1⟩)
                ·skip
                 refine Kd.R_lit_step k43 _ 43 ?hg (N := 31) ?hd (xs := ([(⟨bk, bj, bi, bh⟩ : S43)] : List (S43))) (inner := [.int .i64 bk, .int .i64 bj, .int .i64 bi, .int .i64 bh]) (ok := fun _ => True) (okp := fun _ => True) ?hr ?hp (fun _ hk => hk) trivial (Below.refl _ _) (Nat.le_refl _) (by simp) ?_; (case hd => rfl); (case hg => rfl); (case hr => first | (go_simp; done) | (go_simp; rfl)); (case hp => exact (Reps.c4 (show Kd.M k43 _ _ _ (⟨bk, bj, bi, bh⟩ : S43) [.int .i64 bk, .int .i64 bj, .int .i64 bi, .int .i64 bh] from (k43_mkM _ _ _ (⟨bk, bj, bi, bh⟩ : S43) )) (Reps.none _ _)))
                 intro bJ w21 d1 hb hg_ hnew_
                 clear hg_ hnew_
                 (first | rw [← dC.out] at d1 | (simp only [Int.reduceToNat] at d1; rw [← dC.out] at d1))
                 replace bB := Aside0.mk (Kd.V_elder' zx26_8 (Kd.R_base d1) hb)
                 have bL := Aside0.mk (Kd.R_lower (Kd.R_newB d1 (g := ba) (o := .cells #[.int .i64 bk, .int .i64 bj, .int .i64 bi, .int .i64 bh] 43 (0, 0)) zx26_0) (below_size zx26_1))
                 replace bf := Aside0.mk (blk_below (g := ba) (o := .cells #[.int .i64 bk, .int .i64 bj, .int .i64 bi, .int .i64 bh] 43 (0, 0)) zx26_0 hb)
                 replace bg := Aside0.mk (blk_below (g := bc) (o := .cells #[.int .u64 br, .int .u64 bp, .slice bE bb.length bq] 27 (0, 0)) zx26_2 hb)
                 replace HB := Aside0.mk (below_step zx26_1 hb)
                 clear hb d1
                 refine hK.out _ _ ⟨(blk_cell bf.out 0).trans rfl, (blk_cell bf.out 1).trans rfl, (blk_cell bf.out 2).trans rfl, (blk_cell bf.out 3).trans rfl⟩ (fun hHeld => ?_)
                 clear hK K
                 refine na_ 31 ?_
                 exact norm_ zx26_4 (hJ4 (bJ) _ ⟨hHeld, zx26_36, (by (with_reducible repeat (first | apply Kd.R_alloc | apply Kd.R_drewN | apply Kd.R_drew)); exact Kd.R_mono bL.out (fun _ hk => hk.2)), zx26_0, zx26_2, zx26_1⟩)
                skip
                refine box_step ?hg (N := 7) ?hd (cs := #[.int .u64 0, .int .u64 0, .slice none 0 0]) (t := 27) ?hr ?_; (case hd => rfl); (case hg => rfl); (case hr => first | (go_simp; done) | (go_simp; rfl))
                intro be hg w21 hbox hb
                replace bB := Aside0.mk (Kd.V_below (Kd.V_elderB zx26_8 be (Nat.le_of_eq hg.symm)) hb)
                have bC := Aside0.mk (hbox)
                have bY := Aside0.mk ((by rw [hg]; exact (below_size zx26_1) : w.heap.size ≤ be))
                have bH := Aside0.mk ((by rw [hg]; exact (below_size zx26_1) : w.heap.size ≤ be))
                replace HB := Aside0.mk (below_step zx26_1 hb)
                have bl := Aside0.mk ((by rw [hg]; exact Nat.ne_of_lt (blk_lt (g := ba) (o := .cells #[.int .i64 bk, .int .i64 bj, .int .i64 bi, .int .i64 bh] 43 (0, 0)) zx26_0) : ba ≠ be))
                have bA := Aside0.mk ((by rw [hg]; exact Nat.ne_of_gt (blk_lt (g := ba) (o := .cells #[.int .i64 bk, .int .i64 bj, .int .i64 bi, .int .i64 bh] 43 (0, 0)) zx26_0) : be ≠ ba))
                replace bf := Aside0.mk (blk_below (g := ba) (o := .cells #[.int .i64 bk, .int .i64 bj, .int .i64 bi, .int .i64 bh] 43 (0, 0)) zx26_0 hb)
                have bu := Aside0.mk ((by rw [hg]; exact Nat.ne_of_lt (blk_lt (g := bc) (o := .cells #[.int .u64 br, .int .u64 bp, .slice bE bb.length bq] 27 (0, 0)) zx26_2) : bc ≠ be))
                have bx := Aside0.mk ((by rw [hg]; exact Nat.ne_of_gt (blk_lt (g := bc) (o := .cells #[.int .u64 br, .int .u64 bp, .slice bE bb.length bq] 27 (0, 0)) zx26_2) : be ≠ bc))
                replace bg := Aside0.mk (blk_below (g := bc) (o := .cells #[.int .u64 br, .int .u64 bp, .slice bE bb.length bq] 27 (0, 0)) zx26_2 hb)
                clear hb hbox hg
                refine hK.out _ _ ⟨(blk_cell bf.out 0).trans rfl, (blk_cell bf.out 1).trans rfl, (blk_cell bf.out 2).trans rfl, (blk_cell bf.out 3).trans rfl⟩ (fun hHeld => ?_)
                clear hK K
                refine na_ 7 ?_
                exact norm_ zx26_4 (hJ7 (be) _ ⟨hHeld, (by (with_reducible repeat (first | apply Kd.V_alloc | apply Kd.V_drewN | apply Kd.V_drew)); exact Kd.V_mono bB.out (fun _ hk => ⟨hk.1.1, ⟨hk.1.2, hk.2⟩⟩)), zx26_0, zx26_2, zx26_5, bY.out, bH.out, bl.out, bA.out, bu.out, bx.out, zx26_3⟩)
               ·skip
                rintro be w22 ⟨hS_, h0_, h1_, h2_, h3_, h4_, h5_, h6_, h7_, h8_, h9_, dj⟩
                have n0_ : Aside0 (Kd.V k37 37 w22 w.heap.size (fun k_ => k_ ≠ ba ∧ k_ ≠ bc ∧ k_ ≠ be) (.slice bE bb.length bq) bb) := ⟨h0_⟩
                have n1_ : Aside0 (w22.heap[ba]? = some (.cells #[.int .i64 bk, .int .i64 bj, .int .i64 bi, .int .i64 bh] 43 (0, 0))) := ⟨h1_⟩
                have n2_ : Aside0 (w22.heap[bc]? = some (.cells #[.int .u64 br, .int .u64 bp, .slice bE bb.length bq] 27 (0, 0))) := ⟨h2_⟩
                have n3_ : Aside0 (w22.heap[be]? = some (.cells #[.int .u64 0, .int .u64 0, .slice none 0 0] 27 (0, 0))) := ⟨h3_⟩
                have n4_ : Aside0 (w.heap.size ≤ be) := ⟨h4_⟩
                have n5_ : Aside0 (w.heap.size ≤ be) := ⟨h5_⟩
                have n6_ : Aside0 (ba ≠ be) := ⟨h6_⟩
                have n7_ : Aside0 (be ≠ ba) := ⟨h7_⟩
                have n8_ : Aside0 (bc ≠ be) := ⟨h8_⟩
                have n9_ : Aside0 (be ≠ bc) := ⟨h9_⟩
                have n10_ : Aside0 (Below w.heap.size w w22) := ⟨dj⟩
                (try clear bB)
                clear bf
                clear bg
                clear HB
                clear h0_ h1_ h2_ h3_ h4_ h5_ h6_ h7_ h8_ h9_ dj
                have bB := n0_
                have bf := n1_
                have bg := n2_
                have bC := n3_
                have bY := n4_
                have bH := n5_
                have bl := n6_
                have bA := n7_
                have bu := n8_
                have bx := n9_
                have HB := n10_
                clear n0_ n1_ n2_ n3_ n4_ n5_ n6_ n7_ n8_ n9_ n10_
                have hHeld : w22.cell? ⟨ba, 0, none⟩ = some (.int .i64 bk) ∧ w22.cell? ⟨ba, 1, none⟩ = some (.int .i64 bj) ∧ w22.cell? ⟨ba, 2, none⟩ = some (.int .i64 bi) ∧ w22.cell? ⟨ba, 3, none⟩ = some (.int .i64 bh) := hS_
                refine nb_ ?_
                refine two_ (i := 0) (j := 4) (Ni := some 27) (Nj := some 31) #[Tt,Tt,Ff,Tt,Ff,Ff,Ff,Tt,Ff] #[Ff,Tt,Ff,Tt,Tt,Ff,Ff,Tt,Ff] rfl rfl rfl rfl (two_of HT_.out (by kernel_rfl)) (by decide) (by decide) (fun K hK => ?_) (fun K hK => ?_)
                ·skip
                 refine Kd.R_lit_step k43 _ 43 ?hg (N := 27) ?hd (xs := ([] : List (S43))) (inner := []) (ok := fun _ => True) (okp := fun _ => True) ?hr ?hp (fun _ hk => hk) trivial (Below.refl _ _) (Nat.le_refl _) (by simp) ?_; (case hd => rfl); (case hg => rfl); (case hr => first | (go_simp; done) | (go_simp; rfl)); (case hp => exact (Reps.none _ _))
                 intro bV w23 d0 hb hg_ hnew_
                 clear hg_ hnew_
                 (first | rw [← gc.out] at d0 | (simp only [Int.reduceToNat] at d0; rw [← gc.out] at d0))
                 replace bB := Aside0.mk (Kd.V_elder' zx26_8 (Kd.R_base d0) hb)
                 have bX := Aside0.mk (Kd.R_lower (Kd.R_newB d0 (g := ba) (o := .cells #[.int .i64 bk, .int .i64 bj, .int .i64 bi, .int .i64 bh] 43 (0, 0)) zx26_0) (below_size zx26_3))
                 replace bf := Aside0.mk (blk_below (g := ba) (o := .cells #[.int .i64 bk, .int .i64 bj, .int .i64 bi, .int .i64 bh] 43 (0, 0)) zx26_0 hb)
                 replace bg := Aside0.mk (blk_below (g := bc) (o := .cells #[.int .u64 br, .int .u64 bp, .slice bE bb.length bq] 27 (0, 0)) zx26_2 hb)
                 replace bC := Aside0.mk (blk_below (g := be) (o := .cells #[.int .u64 0, .int .u64 0, .slice none 0 0] 27 (0, 0)) zx26_5 hb)
                 replace HB := Aside0.mk (below_step zx26_3 hb)
                 clear hb d0
                 refine hK.out _ _ ⟨(blk_cell bf.out 0).trans rfl, (blk_cell bf.out 1).trans rfl, (blk_cell bf.out 2).trans rfl, (blk_cell bf.out 3).trans rfl⟩ (fun hHeld => ?_)
                 clear hK K
                 refine na_ 27 ?_
                 exact norm_ zx26_4 (mz (bV, be) _ ⟨hHeld, zx26_26, (by (with_reducible repeat (first | apply Kd.R_alloc | apply Kd.R_drewN | apply Kd.R_drew)); exact Kd.R_mono bX.out (fun _ hk => hk.2)), zx26_0, zx26_2, zx26_5, bY.out, bH.out, bl.out, bA.out, bu.out, bx.out, zx26_3⟩)
                skip
                refine Kd.R_lit_step k43 _ 43 ?hg (N := 31) ?hd (xs := ([(⟨bk, bj, bi, bh⟩ : S43)] : List (S43))) (inner := [.int .i64 bk, .int .i64 bj, .int .i64 bi, .int .i64 bh]) (ok := fun _ => True) (okp := fun _ => True) ?hr ?hp (fun _ hk => hk) trivial (Below.refl _ _) (Nat.le_refl _) (by simp) ?_; (case hd => rfl); (case hg => rfl); (case hr => first | (go_simp; done) | (go_simp; rfl)); (case hp => exact (Reps.c4 (show Kd.M k43 _ _ _ (⟨bk, bj, bi, bh⟩ : S43) [.int .i64 bk, .int .i64 bj, .int .i64 bi, .int .i64 bh] from (k43_mkM _ _ _ (⟨bk, bj, bi, bh⟩ : S43) )) (Reps.none _ _)))
                intro bJ w23 d0 hb hg_ hnew_
                clear hg_ hnew_
                (first | rw [← dC.out] at d0 | (simp only [Int.reduceToNat] at d0; rw [← dC.out] at d0))
                replace bB := Aside0.mk (Kd.V_elder' zx26_8 (Kd.R_base d0) hb)
                have bL := Aside0.mk (Kd.R_lower (Kd.R_newB d0 (g := ba) (o := .cells #[.int .i64 bk, .int .i64 bj, .int .i64 bi, .int .i64 bh] 43 (0, 0)) zx26_0) (below_size zx26_3))
                replace bf := Aside0.mk (blk_below (g := ba) (o := .cells #[.int .i64 bk, .int .i64 bj, .int .i64 bi, .int .i64 bh] 43 (0, 0)) zx26_0 hb)
                replace bg := Aside0.mk (blk_below (g := bc) (o := .cells #[.int .u64 br, .int .u64 bp, .slice bE bb.length bq] 27 (0, 0)) zx26_2 hb)
                replace bC := Aside0.mk (blk_below (g := be) (o := .cells #[.int .u64 0, .int .u64 0, .slice none 0 0] 27 (0, 0)) zx26_5 hb)
                replace HB := Aside0.mk (below_step zx26_3 hb)
                clear hb d0
                refine hK.out _ _ ⟨(blk_cell bf.out 0).trans rfl, (blk_cell bf.out 1).trans rfl, (blk_cell bf.out 2).trans rfl, (blk_cell bf.out 3).trans rfl⟩ (fun hHeld => ?_)
                clear hK K
                refine na_ 31 ?_
                exact norm_ zx26_4 (my (bJ, be) _ ⟨hHeld, zx26_26, (by (with_reducible repeat (first | apply Kd.R_alloc | apply Kd.R_drewN | apply Kd.R_drew)); exact Kd.R_mono bL.out (fun _ hk => hk.2)), zx26_0, zx26_2, zx26_5, bY.out, bH.out, bl.out, bA.out, bu.out, bx.out, zx26_3⟩)
              ·skip
               rintro bJ w23 ⟨hS_, h0_, h1_, h2_, h3_, h4_⟩
               have n0_ : Aside0 (Kd.V k37 37 w23 w.heap.size (fun k_ => some k_ ≠ (bJ : Value).ownBlock ∧ k_ ≠ ba ∧ k_ ≠ bc) (.slice bE bb.length bq) bb) := ⟨h0_⟩
               have n1_ : Aside0 (Kd.R k43 43 w23 w.heap.size (fun k_ => k_ ≠ ba) bJ bQ) := ⟨h1_⟩
               have n2_ : Aside0 (w23.heap[ba]? = some (.cells #[.int .i64 bk, .int .i64 bj, .int .i64 bi, .int .i64 bh] 43 (0, 0))) := ⟨h2_⟩
               have n3_ : Aside0 (w23.heap[bc]? = some (.cells #[.int .u64 br, .int .u64 bp, .slice bE bb.length bq] 27 (0, 0))) := ⟨h3_⟩
               have n4_ : Aside0 (Below w.heap.size w w23) := ⟨h4_⟩
               (try clear bB)
               clear bf
               clear bg
               clear HB
               clear h0_ h1_ h2_ h3_ h4_
               have bB := n0_
               have bL := n1_
               have bf := n2_
               have bg := n3_
               have HB := n4_
               clear n0_ n1_ n2_ n3_ n4_
               have hHeld : w23.cell? ⟨ba, 0, none⟩ = some (.int .i64 bk) ∧ w23.cell? ⟨ba, 1, none⟩ = some (.int .i64 bj) ∧ w23.cell? ⟨ba, 2, none⟩ = some (.int .i64 bi) ∧ w23.cell? ⟨ba, 3, none⟩ = some (.int .i64 bh) := hS_
               refine nb_ ?_
               refine two_ (i := 0) (j := 7) (Ni := some 27) (Nj := some 7) #[Tt,Tt,Ff,Tt,Tt,Ff,Ff,Ff,Ff] #[Ff,Tt,Ff,Tt,Tt,Ff,Ff,Tt,Ff] rfl rfl rfl rfl (two_of HT_.out (by kernel_rfl)) (by decide) (by decide) (fun K hK => ?_) (fun K hK => ?_)
               ·skip
                refine Kd.R_lit_step k43 _ 43 ?hg (N := 27) ?hd (xs := ([] : List (S43))) (inner := []) (ok := fun _ => True) (okp := fun _ => True) ?hr ?hp (fun _ hk => hk) trivial (Below.refl _ _) (Nat.le_refl _) (by simp) ?_; (case hd => rfl); (case hg => rfl); (case hr => first | (go_simp; done) | (go_simp; rfl)); (case hp => exact (Reps.none _ _))
                intro bV w24 dW hb hg_ hnew_
                clear hg_ hnew_
                (first | rw [← gc.out] at dW | (simp only [Int.reduceToNat] at dW; rw [← gc.out] at dW))
                replace bB := Aside0.mk (Kd.V_elder' zx26_8 (Kd.R_base dW) hb)
                have bX := Aside0.mk (Kd.R_lower (Kd.R_newB (Kd.R_new' dW (Kd.R_lt zx26_7)) (g := ba) (o := .cells #[.int .i64 bk, .int .i64 bj, .int .i64 bi, .int .i64 bh] 43 (0, 0)) zx26_0) (below_size zx26_1))
                replace bL := Aside0.mk (Kd.R_elder' zx26_7 (Kd.R_base dW) hb)
                replace bf := Aside0.mk (blk_below (g := ba) (o := .cells #[.int .i64 bk, .int .i64 bj, .int .i64 bi, .int .i64 bh] 43 (0, 0)) zx26_0 hb)
                replace bg := Aside0.mk (blk_below (g := bc) (o := .cells #[.int .u64 br, .int .u64 bp, .slice bE bb.length bq] 27 (0, 0)) zx26_2 hb)
                replace HB := Aside0.mk (below_step zx26_1 hb)
                clear hb dW
                refine hK.out _ _ ⟨(blk_cell bf.out 0).trans rfl, (blk_cell bf.out 1).trans rfl, (blk_cell bf.out 2).trans rfl, (blk_cell bf.out 3).trans rfl⟩ (fun hHeld => ?_)
                clear hK K
                refine na_ 27 ?_
                exact norm_ zx26_4 (mA (bV, bJ) _ ⟨hHeld, zx26_26, (by (with_reducible repeat (first | apply Kd.R_alloc | apply Kd.R_drewN | apply Kd.R_drew)); exact Kd.R_mono bX.out (fun _ hk => ⟨hk.1.2, hk.2⟩)), zx26_12, zx26_0, zx26_2, zx26_1⟩)
               skip
               refine box_step ?hg (N := 7) ?hd (cs := #[.int .u64 0, .int .u64 0, .slice none 0 0]) (t := 27) ?hr ?_; (case hd => rfl); (case hg => rfl); (case hr => first | (go_simp; done) | (go_simp; rfl))
               intro be hg w24 hbox hb
               replace bB := Aside0.mk (Kd.V_below (Kd.V_elderB zx26_8 be (Nat.le_of_eq hg.symm)) hb)
               replace bL := Aside0.mk (Kd.R_below zx26_7 hb)
               have bC := Aside0.mk (hbox)
               have bY := Aside0.mk ((by rw [hg]; exact (below_size zx26_1) : w.heap.size ≤ be))
               have bH := Aside0.mk ((by rw [hg]; exact (below_size zx26_1) : w.heap.size ≤ be))
               replace HB := Aside0.mk (below_step zx26_1 hb)
               have bl := Aside0.mk ((by rw [hg]; exact Nat.ne_of_lt (blk_lt (g := ba) (o := .cells #[.int .i64 bk, .int .i64 bj, .int .i64 bi, .int .i64 bh] 43 (0, 0)) zx26_0) : ba ≠ be))
               have bA := Aside0.mk ((by rw [hg]; exact Nat.ne_of_gt (blk_lt (g := ba) (o := .cells #[.int .i64 bk, .int .i64 bj, .int .i64 bi, .int .i64 bh] 43 (0, 0)) zx26_0) : be ≠ ba))
               replace bf := Aside0.mk (blk_below (g := ba) (o := .cells #[.int .i64 bk, .int .i64 bj, .int .i64 bi, .int .i64 bh] 43 (0, 0)) zx26_0 hb)
               have bu := Aside0.mk ((by rw [hg]; exact Nat.ne_of_lt (blk_lt (g := bc) (o := .cells #[.int .u64 br, .int .u64 bp, .slice bE bb.length bq] 27 (0, 0)) zx26_2) : bc ≠ be))
               have bx := Aside0.mk ((by rw [hg]; exact Nat.ne_of_gt (blk_lt (g := bc) (o := .cells #[.int .u64 br, .int .u64 bp, .slice bE bb.length bq] 27 (0, 0)) zx26_2) : be ≠ bc))
               replace bg := Aside0.mk (blk_below (g := bc) (o := .cells #[.int .u64 br, .int .u64 bp, .slice bE bb.length bq] 27 (0, 0)) zx26_2 hb)
               clear hb hbox hg
               refine hK.out _ _ ⟨(blk_cell bf.out 0).trans rfl, (blk_cell bf.out 1).trans rfl, (blk_cell bf.out 2).trans rfl, (blk_cell bf.out 3).trans rfl⟩ (fun hHeld => ?_)
               clear hK K
               refine na_ 7 ?_
               exact norm_ zx26_4 (my (bJ, be) _ ⟨hHeld, zx26_33, zx26_7, zx26_0, zx26_2, zx26_5, bY.out, bH.out, bl.out, bA.out, bu.out, bx.out, zx26_3⟩)
             ·skip
              rintro bV w23 ⟨hS_, h0_, h1_, h2_, h3_, h4_⟩
              have n0_ : Aside0 (Kd.V k37 37 w23 w.heap.size (fun k_ => some k_ ≠ (bV : Value).ownBlock ∧ k_ ≠ ba ∧ k_ ≠ bc) (.slice bE bb.length bq) bb) := ⟨h0_⟩
              have n1_ : Aside0 (Kd.R k43 43 w23 w.heap.size (fun k_ => k_ ≠ ba) bV da) := ⟨h1_⟩
              have n2_ : Aside0 (w23.heap[ba]? = some (.cells #[.int .i64 bk, .int .i64 bj, .int .i64 bi, .int .i64 bh] 43 (0, 0))) := ⟨h2_⟩
              have n3_ : Aside0 (w23.heap[bc]? = some (.cells #[.int .u64 br, .int .u64 bp, .slice bE bb.length bq] 27 (0, 0))) := ⟨h3_⟩
              have n4_ : Aside0 (Below w.heap.size w w23) := ⟨h4_⟩
              (try clear bB)
              clear bf
              clear bg
              clear HB
              clear h0_ h1_ h2_ h3_ h4_
              have bB := n0_
              have bX := n1_
              have bf := n2_
              have bg := n3_
              have HB := n4_
              clear n0_ n1_ n2_ n3_ n4_
              have hHeld : w23.cell? ⟨ba, 0, none⟩ = some (.int .i64 bk) ∧ w23.cell? ⟨ba, 1, none⟩ = some (.int .i64 bj) ∧ w23.cell? ⟨ba, 2, none⟩ = some (.int .i64 bi) ∧ w23.cell? ⟨ba, 3, none⟩ = some (.int .i64 bh) := hS_
              refine nb_ ?_
              refine three_ (i := 2) (j := 4) (k := 7) (Ni := some 29) (Nj := some 31) (Nk := some 7) #[Tt,Tt,Tt,Tt,Ff,Ff,Ff,Ff,Ff] #[Tt,Tt,Ff,Tt,Tt,Ff,Ff,Ff,Ff] #[Tt,Tt,Ff,Tt,Ff,Ff,Ff,Tt,Ff] rfl rfl rfl rfl rfl rfl (three_of HT_.out (by kernel_rfl)) (by decide) (by decide) (by decide) (fun K hK => ?_) (fun K hK => ?_) (fun K hK => ?_)
              ·skip
               refine Kd.R_append_rows_step k43 (w0 := w) w.heap.size (by rfl) (.tmp 27) (.tmp 28) 22 43 (.agg #[(.int .i64 0), (.int .i64 0), (.int .i64 0), (.int .i64 0)]) 32 rfl Tryd.underlying22 info43 rfl (by decide) (by omega) bV da l0 _ _ _ (fun k_ => k_ ≠ ba) (fun _ => False) rfl rfl ?aO ?aR (fun _ _ h => h) (fun _ h => h.elim) ?aF ?aB ?aS ?aL ?_
               (case aR => repeat (first | exact (Kd.C_below HR0.out HB.out) | (with_reducible refine Kd.C_alloc ?_ _) | (with_reducible refine Kd.C_drewN ?_ _) | (with_reducible refine Kd.C_drew ?_)))
               (case aB => exact zx26_1)
               (case aF => exact (fun k_ hk => Kd.freshB (g := ba) (o := .cells #[.int .i64 bk, .int .i64 bj, .int .i64 bi, .int .i64 bh] 43 (0, 0)) zx26_0 k_ hk))
               (case aO => exact zx26_15)
               (case aS => exact (below_size zx26_1))
               (case aL => have := mu.out; omega)
               intro b4 w24 ho hb hg hat
               rw [← gT.out] at ho
               have n0_ := Aside0.mk (blk_grown (g := ba) (o := .cells #[.int .i64 bk, .int .i64 bj, .int .i64 bi, .int .i64 bh] 43 (0, 0)) zx26_0 hg (Kd.R_away bX.out (fun _ hk => hk)))
               have n1_ := Aside0.mk (Kd.V_afterv (ok := (fun k_ => k_ ≠ ba ∧ k_ ≠ bc)) (by (with_reducible repeat (first | apply Kd.V_alloc | apply Kd.V_drewN | apply Kd.V_drew)); exact Kd.V_mono bB.out (fun _ hk => ⟨⟨hk.2.1, hk.2.2⟩, hk.1⟩)) hg hat)
               have n2_ := Aside0.mk (blk_grown (g := bc) (o := .cells #[.int .u64 br, .int .u64 bp, .slice bE bb.length bq] 27 (0, 0)) zx26_2 hg (Kd.R_ne bX.out bg.out (by decide)))
               have n3_ := Aside0.mk (hb)
               have n4_ := Aside0.mk (ho)
               clear bf
               (try clear bB)
               clear bg
               clear HB
               (try clear bX)
               have bf := n0_
               have bB := n1_
               have bg := n2_
               have HB := n3_
               have b8 := n4_
               clear n0_ n1_ n2_ n3_ n4_
               clear ho hb hg hat
               refine hK.out _ _ ⟨(blk_cell bf.out 0).trans rfl, (blk_cell bf.out 1).trans rfl, (blk_cell bf.out 2).trans rfl, (blk_cell bf.out 3).trans rfl⟩ (fun hHeld => ?_)
               clear hK K
               refine na_ 29 ?_
               exact norm_ zx26_4 (oS (bV, b4) _ ⟨hHeld, zx26_36, zx26_10, zx26_0, zx26_2, zx26_1⟩)
              ·skip
               refine Kd.R_lit_step k43 _ 43 ?hg (N := 31) ?hd (xs := ([(⟨bk, bj, bi, bh⟩ : S43)] : List (S43))) (inner := [.int .i64 bk, .int .i64 bj, .int .i64 bi, .int .i64 bh]) (ok := fun _ => True) (okp := fun _ => True) ?hr ?hp (fun _ hk => hk) trivial (Below.refl _ _) (Nat.le_refl _) (by simp) ?_; (case hd => rfl); (case hg => rfl); (case hr => first | (go_simp; done) | (go_simp; rfl)); (case hp => exact (Reps.c4 (show Kd.M k43 _ _ _ (⟨bk, bj, bi, bh⟩ : S43) [.int .i64 bk, .int .i64 bj, .int .i64 bi, .int .i64 bh] from (k43_mkM _ _ _ (⟨bk, bj, bi, bh⟩ : S43) )) (Reps.none _ _)))
               intro bJ w24 dW hb hg_ hnew_
               clear hg_ hnew_
               (first | rw [← dC.out] at dW | (simp only [Int.reduceToNat] at dW; rw [← dC.out] at dW))
               replace bB := Aside0.mk (Kd.V_elder' zx26_8 (Kd.R_base dW) hb)
               have bL := Aside0.mk (Kd.R_lower (Kd.R_newB (Kd.R_new' dW (Kd.R_lt zx26_15)) (g := ba) (o := .cells #[.int .i64 bk, .int .i64 bj, .int .i64 bi, .int .i64 bh] 43 (0, 0)) zx26_0) (below_size zx26_1))
               replace bX := Aside0.mk (Kd.R_elder' zx26_15 (Kd.R_base dW) hb)
               replace bf := Aside0.mk (blk_below (g := ba) (o := .cells #[.int .i64 bk, .int .i64 bj, .int .i64 bi, .int .i64 bh] 43 (0, 0)) zx26_0 hb)
               replace bg := Aside0.mk (blk_below (g := bc) (o := .cells #[.int .u64 br, .int .u64 bp, .slice bE bb.length bq] 27 (0, 0)) zx26_2 hb)
               replace HB := Aside0.mk (below_step zx26_1 hb)
               clear hb dW
               refine hK.out _ _ ⟨(blk_cell bf.out 0).trans rfl, (blk_cell bf.out 1).trans rfl, (blk_cell bf.out 2).trans rfl, (blk_cell bf.out 3).trans rfl⟩ (fun hHeld => ?_)
               clear hK K
               refine na_ 31 ?_
               exact norm_ zx26_4 (mA (bV, bJ) _ ⟨hHeld, zx26_34, (by (with_reducible repeat (first | apply Kd.R_alloc | apply Kd.R_drewN | apply Kd.R_drew)); exact Kd.R_mono bX.out (fun _ hk => ⟨hk.2, hk.1⟩)), zx26_30, zx26_0, zx26_2, zx26_1⟩)
              skip
              refine box_step ?hg (N := 7) ?hd (cs := #[.int .u64 0, .int .u64 0, .slice none 0 0]) (t := 27) ?hr ?_; (case hd => rfl); (case hg => rfl); (case hr => first | (go_simp; done) | (go_simp; rfl))
              intro be hg w24 hbox hb
              replace bB := Aside0.mk (Kd.V_below (Kd.V_elderB zx26_8 be (Nat.le_of_eq hg.symm)) hb)
              replace bX := Aside0.mk (Kd.R_below zx26_15 hb)
              have bC := Aside0.mk (hbox)
              have bY := Aside0.mk ((by rw [hg]; exact (below_size zx26_1) : w.heap.size ≤ be))
              have bH := Aside0.mk ((by rw [hg]; exact (below_size zx26_1) : w.heap.size ≤ be))
              replace HB := Aside0.mk (below_step zx26_1 hb)
              have bl := Aside0.mk ((by rw [hg]; exact Nat.ne_of_lt (blk_lt (g := ba) (o := .cells #[.int .i64 bk, .int .i64 bj, .int .i64 bi, .int .i64 bh] 43 (0, 0)) zx26_0) : ba ≠ be))
              have bA := Aside0.mk ((by rw [hg]; exact Nat.ne_of_gt (blk_lt (g := ba) (o := .cells #[.int .i64 bk, .int .i64 bj, .int .i64 bi, .int .i64 bh] 43 (0, 0)) zx26_0) : be ≠ ba))
              replace bf := Aside0.mk (blk_below (g := ba) (o := .cells #[.int .i64 bk, .int .i64 bj, .int .i64 bi, .int .i64 bh] 43 (0, 0)) zx26_0 hb)
              have bu := Aside0.mk ((by rw [hg]; exact Nat.ne_of_lt (blk_lt (g := bc) (o := .cells #[.int .u64 br, .int .u64 bp, .slice bE bb.length bq] 27 (0, 0)) zx26_2) : bc ≠ be))
              have bx := Aside0.mk ((by rw [hg]; exact Nat.ne_of_gt (blk_lt (g := bc) (o := .cells #[.int .u64 br, .int .u64 bp, .slice bE bb.length bq] 27 (0, 0)) zx26_2) : be ≠ bc))
              replace bg := Aside0.mk (blk_below (g := bc) (o := .cells #[.int .u64 br, .int .u64 bp, .slice bE bb.length bq] 27 (0, 0)) zx26_2 hb)
              clear hb hbox hg
              refine hK.out _ _ ⟨(blk_cell bf.out 0).trans rfl, (blk_cell bf.out 1).trans rfl, (blk_cell bf.out 2).trans rfl, (blk_cell bf.out 3).trans rfl⟩ (fun hHeld => ?_)
              clear hK K
              refine na_ 7 ?_
              exact norm_ zx26_4 (mz (bV, be) _ ⟨hHeld, zx26_33, zx26_15, zx26_0, zx26_2, zx26_5, bY.out, bH.out, bl.out, bA.out, bu.out, bx.out, zx26_3⟩)
            ·skip
             rintro ⟨bJ, be⟩ w24 ⟨hS_, h0_, h1_, h2_, h3_, h4_, h5_, h6_, h7_, h8_, h9_, dj, dt⟩
             have n0_ : Aside0 (Kd.V k37 37 w24 w.heap.size (fun k_ => some k_ ≠ (bJ : Value).ownBlock ∧ k_ ≠ ba ∧ k_ ≠ bc ∧ k_ ≠ be) (.slice bE bb.length bq) bb) := ⟨h0_⟩
             have n1_ : Aside0 (Kd.R k43 43 w24 w.heap.size (fun k_ => k_ ≠ ba) bJ bQ) := ⟨h1_⟩
             have n2_ : Aside0 (w24.heap[ba]? = some (.cells #[.int .i64 bk, .int .i64 bj, .int .i64 bi, .int .i64 bh] 43 (0, 0))) := ⟨h2_⟩
             have n3_ : Aside0 (w24.heap[bc]? = some (.cells #[.int .u64 br, .int .u64 bp, .slice bE bb.length bq] 27 (0, 0))) := ⟨h3_⟩
             have n4_ : Aside0 (w24.heap[be]? = some (.cells #[.int .u64 0, .int .u64 0, .slice none 0 0] 27 (0, 0))) := ⟨h4_⟩
             have n5_ : Aside0 (w.heap.size ≤ be) := ⟨h5_⟩
             have n6_ : Aside0 (w.heap.size ≤ be) := ⟨h6_⟩
             have n7_ : Aside0 (ba ≠ be) := ⟨h7_⟩
             have n8_ : Aside0 (be ≠ ba) := ⟨h8_⟩
             have n9_ : Aside0 (bc ≠ be) := ⟨h9_⟩
             have n10_ : Aside0 (be ≠ bc) := ⟨dj⟩
             have n11_ : Aside0 (Below w.heap.size w w24) := ⟨dt⟩
             (try clear bB)
             clear bf
             clear bg
             clear HB
             clear h0_ h1_ h2_ h3_ h4_ h5_ h6_ h7_ h8_ h9_ dj dt
             have bB := n0_
             have bL := n1_
             have bf := n2_
             have bg := n3_
             have bC := n4_
             have bY := n5_
             have bH := n6_
             have bl := n7_
             have bA := n8_
             have bu := n9_
             have bx := n10_
             have HB := n11_
             clear n0_ n1_ n2_ n3_ n4_ n5_ n6_ n7_ n8_ n9_ n10_ n11_
             have hHeld : w24.cell? ⟨ba, 0, none⟩ = some (.int .i64 bk) ∧ w24.cell? ⟨ba, 1, none⟩ = some (.int .i64 bj) ∧ w24.cell? ⟨ba, 2, none⟩ = some (.int .i64 bi) ∧ w24.cell? ⟨ba, 3, none⟩ = some (.int .i64 bh) := hS_
             refine nb_ ?_
             refine one_ (i := 0) (N := some 27) #[Tt,Tt,Ff,Tt,Tt,Ff,Ff,Tt,Ff] rfl rfl (one_of HT_.out (by kernel_rfl)) (by decide) (fun K hK => ?_)
             refine Kd.R_lit_step k43 _ 43 ?hg (N := 27) ?hd (xs := ([] : List (S43))) (inner := []) (ok := fun _ => True) (okp := fun _ => True) ?hr ?hp (fun _ hk => hk) trivial (Below.refl _ _) (Nat.le_refl _) (by simp) ?_; (case hd => rfl); (case hg => rfl); (case hr => first | (go_simp; done) | (go_simp; rfl)); (case hp => exact (Reps.none _ _))
             intro bV w25 di hb hg_ hnew_
             clear hg_ hnew_
             (first | rw [← gc.out] at di | (simp only [Int.reduceToNat] at di; rw [← gc.out] at di))
             replace bB := Aside0.mk (Kd.V_elder' zx26_8 (Kd.R_base di) hb)
             have bX := Aside0.mk (Kd.R_lower (Kd.R_newB (Kd.R_new' di (Kd.R_lt zx26_7)) (g := ba) (o := .cells #[.int .i64 bk, .int .i64 bj, .int .i64 bi, .int .i64 bh] 43 (0, 0)) zx26_0) (below_size zx26_3))
             replace bL := Aside0.mk (Kd.R_elder' zx26_7 (Kd.R_base di) hb)
             replace bf := Aside0.mk (blk_below (g := ba) (o := .cells #[.int .i64 bk, .int .i64 bj, .int .i64 bi, .int .i64 bh] 43 (0, 0)) zx26_0 hb)
             replace bg := Aside0.mk (blk_below (g := bc) (o := .cells #[.int .u64 br, .int .u64 bp, .slice bE bb.length bq] 27 (0, 0)) zx26_2 hb)
             replace bC := Aside0.mk (blk_below (g := be) (o := .cells #[.int .u64 0, .int .u64 0, .slice none 0 0] 27 (0, 0)) zx26_5 hb)
             replace HB := Aside0.mk (below_step zx26_3 hb)
             clear hb di
             refine hK.out _ _ ⟨(blk_cell bf.out 0).trans rfl, (blk_cell bf.out 1).trans rfl, (blk_cell bf.out 2).trans rfl, (blk_cell bf.out 3).trans rfl⟩ (fun hHeld => ?_)
             clear hK K
             refine na_ 27 ?_
             exact norm_ zx26_4 (gn (bV, bJ, be) _ ⟨hHeld, (by (with_reducible repeat (first | apply Kd.V_alloc | apply Kd.V_drewN | apply Kd.V_drew)); exact Kd.V_mono bB.out (fun _ hk => ⟨hk.2, ⟨hk.1.1, ⟨hk.1.2.1, ⟨hk.1.2.2.1, hk.1.2.2.2⟩⟩⟩⟩)), (by (with_reducible repeat (first | apply Kd.R_alloc | apply Kd.R_drewN | apply Kd.R_drew)); exact Kd.R_mono bX.out (fun _ hk => ⟨hk.1.2, hk.2⟩)), zx26_12, zx26_0, zx26_2, zx26_5, bY.out, bH.out, bl.out, bA.out, bu.out, bx.out, zx26_3⟩)
           ·skip
            rintro ⟨bV, be⟩ w24 ⟨hS_, h0_, h1_, h2_, h3_, h4_, h5_, h6_, h7_, h8_, h9_, dj, dt⟩
            have n0_ : Aside0 (Kd.V k37 37 w24 w.heap.size (fun k_ => some k_ ≠ (bV : Value).ownBlock ∧ k_ ≠ ba ∧ k_ ≠ bc ∧ k_ ≠ be) (.slice bE bb.length bq) bb) := ⟨h0_⟩
            have n1_ : Aside0 (Kd.R k43 43 w24 w.heap.size (fun k_ => k_ ≠ ba) bV da) := ⟨h1_⟩
            have n2_ : Aside0 (w24.heap[ba]? = some (.cells #[.int .i64 bk, .int .i64 bj, .int .i64 bi, .int .i64 bh] 43 (0, 0))) := ⟨h2_⟩
            have n3_ : Aside0 (w24.heap[bc]? = some (.cells #[.int .u64 br, .int .u64 bp, .slice bE bb.length bq] 27 (0, 0))) := ⟨h3_⟩
            have n4_ : Aside0 (w24.heap[be]? = some (.cells #[.int .u64 0, .int .u64 0, .slice none 0 0] 27 (0, 0))) := ⟨h4_⟩
            have n5_ : Aside0 (w.heap.size ≤ be) := ⟨h5_⟩
            have n6_ : Aside0 (w.heap.size ≤ be) := ⟨h6_⟩
            have n7_ : Aside0 (ba ≠ be) := ⟨h7_⟩
            have n8_ : Aside0 (be ≠ ba) := ⟨h8_⟩
            have n9_ : Aside0 (bc ≠ be) := ⟨h9_⟩
            have n10_ : Aside0 (be ≠ bc) := ⟨dj⟩
            have n11_ : Aside0 (Below w.heap.size w w24) := ⟨dt⟩
            (try clear bB)
            clear bf
            clear bg
            clear HB
            clear h0_ h1_ h2_ h3_ h4_ h5_ h6_ h7_ h8_ h9_ dj dt
            have bB := n0_
            have bX := n1_
            have bf := n2_
            have bg := n3_
            have bC := n4_
            have bY := n5_
            have bH := n6_
            have bl := n7_
            have bA := n8_
            have bu := n9_
            have bx := n10_
            have HB := n11_
            clear n0_ n1_ n2_ n3_ n4_ n5_ n6_ n7_ n8_ n9_ n10_ n11_
            have hHeld : w24.cell? ⟨ba, 0, none⟩ = some (.int .i64 bk) ∧ w24.cell? ⟨ba, 1, none⟩ = some (.int .i64 bj) ∧ w24.cell? ⟨ba, 2, none⟩ = some (.int .i64 bi) ∧ w24.cell? ⟨ba, 3, none⟩ = some (.int .i64 bh) := hS_
            refine nb_ ?_
            refine two_ (i := 2) (j := 4) (Ni := some 29) (Nj := some 31) #[Tt,Tt,Tt,Tt,Ff,Ff,Ff,Tt,Ff] #[Tt,Tt,Ff,Tt,Tt,Ff,Ff,Tt,Ff] rfl rfl rfl rfl (two_of HT_.out (by kernel_rfl)) (by decide) (by decide) (fun K hK => ?_) (fun K hK => ?_)
            ·skip
             refine Kd.R_append_rows_step k43 (w0 := w) w.heap.size (by rfl) (.tmp 27) (.tmp 28) 22 43 (.agg #[(.int .i64 0), (.int .i64 0), (.int .i64 0), (.int .i64 0)]) 32 rfl Tryd.underlying22 info43 rfl (by decide) (by omega) bV da l0 _ _ _ (fun k_ => k_ ≠ ba) (fun _ => False) rfl rfl ?aO ?aR (fun _ _ h => h) (fun _ h => h.elim) ?aF ?aB ?aS ?aL ?_
             (case aR => repeat (first | exact (Kd.C_below HR0.out HB.out) | (with_reducible refine Kd.C_alloc ?_ _) | (with_reducible refine Kd.C_drewN ?_ _) | (with_reducible refine Kd.C_drew ?_)))
             (case aB => exact zx26_3)
             (case aF => exact (fun k_ hk => Kd.freshB (g := ba) (o := .cells #[.int .i64 bk, .int .i64 bj, .int .i64 bi, .int .i64 bh] 43 (0, 0)) zx26_0 k_ hk))
             (case aO => exact zx26_15)
             (case aS => exact (below_size zx26_3))
             (case aL => have := mu.out; omega)
             intro b4 w25 ho hb hg hat
             rw [← gT.out] at ho
             have n0_ := Aside0.mk (blk_grown (g := ba) (o := .cells #[.int .i64 bk, .int .i64 bj, .int .i64 bi, .int .i64 bh] 43 (0, 0)) zx26_0 hg (Kd.R_away bX.out (fun _ hk => hk)))
             have n1_ := Aside0.mk (Kd.V_afterv (ok := (fun k_ => k_ ≠ ba ∧ k_ ≠ bc ∧ k_ ≠ be)) zx26_35 hg hat)
             have n2_ := Aside0.mk (blk_grown (g := bc) (o := .cells #[.int .u64 br, .int .u64 bp, .slice bE bb.length bq] 27 (0, 0)) zx26_2 hg (Kd.R_ne bX.out bg.out (by decide)))
             have n3_ := Aside0.mk (blk_grown (g := be) (o := .cells #[.int .u64 0, .int .u64 0, .slice none 0 0] 27 (0, 0)) zx26_5 hg (Kd.R_ne bX.out bC.out (by decide)))
             have n4_ := Aside0.mk (hb)
             have n5_ := Aside0.mk (ho)
             clear bf
             (try clear bB)
             clear bg
             clear bC
             clear HB
             (try clear bX)
             have bf := n0_
             have bB := n1_
             have bg := n2_
             have bC := n3_
             have HB := n4_
             have b8 := n5_
             clear n0_ n1_ n2_ n3_ n4_ n5_
             clear ho hb hg hat
             refine hK.out _ _ ⟨(blk_cell bf.out 0).trans rfl, (blk_cell bf.out 1).trans rfl, (blk_cell bf.out 2).trans rfl, (blk_cell bf.out 3).trans rfl⟩ (fun hHeld => ?_)
             clear hK K
             refine na_ 29 ?_
             exact norm_ zx26_4 (gR (bV, b4, be) _ ⟨hHeld, zx26_26, zx26_10, zx26_0, zx26_2, zx26_5, bY.out, bH.out, bl.out, bA.out, bu.out, bx.out, zx26_3⟩)
            ·skip
             refine Kd.R_lit_step k43 _ 43 ?hg (N := 31) ?hd (xs := ([(⟨bk, bj, bi, bh⟩ : S43)] : List (S43))) (inner := [.int .i64 bk, .int .i64 bj, .int .i64 bi, .int .i64 bh]) (ok := fun _ => True) (okp := fun _ => True) ?hr ?hp (fun _ hk => hk) trivial (Below.refl _ _) (Nat.le_refl _) (by simp) ?_; (case hd => rfl); (case hg => rfl); (case hr => first | (go_simp; done) | (go_simp; rfl)); (case hp => exact (Reps.c4 (show Kd.M k43 _ _ _ (⟨bk, bj, bi, bh⟩ : S43) [.int .i64 bk, .int .i64 bj, .int .i64 bi, .int .i64 bh] from (k43_mkM _ _ _ (⟨bk, bj, bi, bh⟩ : S43) )) (Reps.none _ _)))
             intro bJ w25 di hb hg_ hnew_
             clear hg_ hnew_
             (first | rw [← dC.out] at di | (simp only [Int.reduceToNat] at di; rw [← dC.out] at di))
             replace bB := Aside0.mk (Kd.V_elder' zx26_8 (Kd.R_base di) hb)
             have bL := Aside0.mk (Kd.R_lower (Kd.R_newB (Kd.R_new' di (Kd.R_lt zx26_15)) (g := ba) (o := .cells #[.int .i64 bk, .int .i64 bj, .int .i64 bi, .int .i64 bh] 43 (0, 0)) zx26_0) (below_size zx26_3))
             replace bX := Aside0.mk (Kd.R_elder' zx26_15 (Kd.R_base di) hb)
             replace bf := Aside0.mk (blk_below (g := ba) (o := .cells #[.int .i64 bk, .int .i64 bj, .int .i64 bi, .int .i64 bh] 43 (0, 0)) zx26_0 hb)
             replace bg := Aside0.mk (blk_below (g := bc) (o := .cells #[.int .u64 br, .int .u64 bp, .slice bE bb.length bq] 27 (0, 0)) zx26_2 hb)
             replace bC := Aside0.mk (blk_below (g := be) (o := .cells #[.int .u64 0, .int .u64 0, .slice none 0 0] 27 (0, 0)) zx26_5 hb)
             replace HB := Aside0.mk (below_step zx26_3 hb)
             clear hb di
             refine hK.out _ _ ⟨(blk_cell bf.out 0).trans rfl, (blk_cell bf.out 1).trans rfl, (blk_cell bf.out 2).trans rfl, (blk_cell bf.out 3).trans rfl⟩ (fun hHeld => ?_)
             clear hK K
             refine na_ 31 ?_
             exact norm_ zx26_4 (gn (bV, bJ, be) _ ⟨hHeld, zx26_31, (by (with_reducible repeat (first | apply Kd.R_alloc | apply Kd.R_drewN | apply Kd.R_drew)); exact Kd.R_mono bX.out (fun _ hk => ⟨hk.2, hk.1⟩)), zx26_30, zx26_0, zx26_2, zx26_5, bY.out, bH.out, bl.out, bA.out, bu.out, bx.out, zx26_3⟩)
          ·skip
           rintro ⟨bV, bJ⟩ w25 ⟨hS_, h0_, h1_, h2_, h3_, h4_, h5_⟩
           have n0_ : Aside0 (Kd.V k37 37 w25 w.heap.size (fun k_ => some k_ ≠ (bV : Value).ownBlock ∧ some k_ ≠ (bJ : Value).ownBlock ∧ k_ ≠ ba ∧ k_ ≠ bc) (.slice bE bb.length bq) bb) := ⟨h0_⟩
           have n1_ : Aside0 (Kd.R k43 43 w25 w.heap.size (fun k_ => some k_ ≠ (bJ : Value).ownBlock ∧ k_ ≠ ba) bV da) := ⟨h1_⟩
           have n2_ : Aside0 (Kd.R k43 43 w25 w.heap.size (fun k_ => some k_ ≠ (bV : Value).ownBlock ∧ k_ ≠ ba) bJ bQ) := ⟨h2_⟩
           have n3_ : Aside0 (w25.heap[ba]? = some (.cells #[.int .i64 bk, .int .i64 bj, .int .i64 bi, .int .i64 bh] 43 (0, 0))) := ⟨h3_⟩
           have n4_ : Aside0 (w25.heap[bc]? = some (.cells #[.int .u64 br, .int .u64 bp, .slice bE bb.length bq] 27 (0, 0))) := ⟨h4_⟩
           have n5_ : Aside0 (Below w.heap.size w w25) := ⟨h5_⟩
           (try clear bB)
           clear bf
           clear bg
           clear HB
           clear h0_ h1_ h2_ h3_ h4_ h5_
           have bB := n0_
           have bX := n1_
           have bL := n2_
           have bf := n3_
           have bg := n4_
           have HB := n5_
           clear n0_ n1_ n2_ n3_ n4_ n5_
           have hHeld : w25.cell? ⟨ba, 0, none⟩ = some (.int .i64 bk) ∧ w25.cell? ⟨ba, 1, none⟩ = some (.int .i64 bj) ∧ w25.cell? ⟨ba, 2, none⟩ = some (.int .i64 bi) ∧ w25.cell? ⟨ba, 3, none⟩ = some (.int .i64 bh) := hS_
           refine nb_ ?_
           refine two_ (i := 2) (j := 7) (Ni := some 29) (Nj := some 7) #[Tt,Tt,Tt,Tt,Tt,Ff,Ff,Ff,Ff] #[Tt,Tt,Ff,Tt,Tt,Ff,Ff,Tt,Ff] rfl rfl rfl rfl (two_of HT_.out (by kernel_rfl)) (by decide) (by decide) (fun K hK => ?_) (fun K hK => ?_)
           ·skip
            refine Kd.R_append_rows_step k43 (w0 := w) w.heap.size (by rfl) (.tmp 27) (.tmp 28) 22 43 (.agg #[(.int .i64 0), (.int .i64 0), (.int .i64 0), (.int .i64 0)]) 32 rfl Tryd.underlying22 info43 rfl (by decide) (by omega) bV da l0 _ _ _ (fun k_ => some k_ ≠ (bJ : Value).ownBlock ∧ k_ ≠ ba) (fun _ => False) rfl rfl ?aO ?aR (fun _ _ h => h) (fun _ h => h.elim) ?aF ?aB ?aS ?aL ?_
            (case aR => repeat (first | exact (Kd.C_below HR0.out HB.out) | (with_reducible refine Kd.C_alloc ?_ _) | (with_reducible refine Kd.C_drewN ?_ _) | (with_reducible refine Kd.C_drew ?_)))
            (case aB => exact zx26_1)
            (case aF => exact (fun k_ hk => ⟨Kd.fresh' (Kd.R_lt zx26_7) k_ hk, Kd.freshB (g := ba) (o := .cells #[.int .i64 bk, .int .i64 bj, .int .i64 bi, .int .i64 bh] 43 (0, 0)) zx26_0 k_ hk⟩))
            (case aO => exact zx26_15)
            (case aS => exact (below_size zx26_1))
            (case aL => have := mu.out; omega)
            intro b4 w26 ho hb hg hat
            rw [← gT.out] at ho
            have n0_ := Aside0.mk (blk_grown (g := ba) (o := .cells #[.int .i64 bk, .int .i64 bj, .int .i64 bi, .int .i64 bh] 43 (0, 0)) zx26_0 hg (Kd.R_away bX.out (fun _ hk => hk.2)))
            have n1_ := Aside0.mk (Kd.V_afterv (ok := (fun k_ => some k_ ≠ (bJ : Value).ownBlock ∧ k_ ≠ ba ∧ k_ ≠ bc)) zx26_35 hg hat)
            have n2_ := Aside0.mk (blk_grown (g := bc) (o := .cells #[.int .u64 br, .int .u64 bp, .slice bE bb.length bq] 27 (0, 0)) zx26_2 hg (Kd.R_ne bX.out bg.out (by decide)))
            have n3_ := Aside0.mk (Kd.R_after (ok := (fun k_ => k_ ≠ ba)) zx26_12 hg hat)
            have n4_ := Aside0.mk (hb)
            have n5_ := Aside0.mk (ho)
            clear bf
            (try clear bB)
            clear bg
            (try clear bL)
            clear HB
            (try clear bX)
            have bf := n0_
            have bB := n1_
            have bg := n2_
            have bL := n3_
            have HB := n4_
            have b8 := n5_
            clear n0_ n1_ n2_ n3_ n4_ n5_
            clear ho hb hg hat
            refine hK.out _ _ ⟨(blk_cell bf.out 0).trans rfl, (blk_cell bf.out 1).trans rfl, (blk_cell bf.out 2).trans rfl, (blk_cell bf.out 3).trans rfl⟩ (fun hHeld => ?_)
            clear hK K
            refine na_ 29 ?_
            exact norm_ zx26_4 (gS (bV, b4, bJ) _ ⟨hHeld, zx26_26, zx26_10, zx26_12, zx26_0, zx26_2, zx26_1⟩)
           ·skip
            refine box_step ?hg (N := 7) ?hd (cs := #[.int .u64 0, .int .u64 0, .slice none 0 0]) (t := 27) ?hr ?_; (case hd => rfl); (case hg => rfl); (case hr => first | (go_simp; done) | (go_simp; rfl))
            intro be hg w26 hbox hb
            replace bB := Aside0.mk (Kd.V_below (Kd.V_elderB zx26_8 be (Nat.le_of_eq hg.symm)) hb)
            replace bX := Aside0.mk (Kd.R_below zx26_15 hb)
            replace bL := Aside0.mk (Kd.R_below zx26_7 hb)
            have bC := Aside0.mk (hbox)
            have bY := Aside0.mk ((by rw [hg]; exact (below_size zx26_1) : w.heap.size ≤ be))
            have bH := Aside0.mk ((by rw [hg]; exact (below_size zx26_1) : w.heap.size ≤ be))
            replace HB := Aside0.mk (below_step zx26_1 hb)
            have bl := Aside0.mk ((by rw [hg]; exact Nat.ne_of_lt (blk_lt (g := ba) (o := .cells #[.int .i64 bk, .int .i64 bj, .int .i64 bi, .int .i64 bh] 43 (0, 0)) zx26_0) : ba ≠ be))
            have bA := Aside0.mk ((by rw [hg]; exact Nat.ne_of_gt (blk_lt (g := ba) (o := .cells #[.int .i64 bk, .int .i64 bj, .int .i64 bi, .int .i64 bh] 43 (0, 0)) zx26_0) : be ≠ ba))
            replace bf := Aside0.mk (blk_below (g := ba) (o := .cells #[.int .i64 bk, .int .i64 bj, .int .i64 bi, .int .i64 bh] 43 (0, 0)) zx26_0 hb)
            have bu := Aside0.mk ((by rw [hg]; exact Nat.ne_of_lt (blk_lt (g := bc) (o := .cells #[.int .u64 br, .int .u64 bp, .slice bE bb.length bq] 27 (0, 0)) zx26_2) : bc ≠ be))
            have bx := Aside0.mk ((by rw [hg]; exact Nat.ne_of_gt (blk_lt (g := bc) (o := .cells #[.int .u64 br, .int .u64 bp, .slice bE bb.length bq] 27 (0, 0)) zx26_2) : be ≠ bc))
            replace bg := Aside0.mk (blk_below (g := bc) (o := .cells #[.int .u64 br, .int .u64 bp, .slice bE bb.length bq] 27 (0, 0)) zx26_2 hb)
            clear hb hbox hg
            refine hK.out _ _ ⟨(blk_cell bf.out 0).trans rfl, (blk_cell bf.out 1).trans rfl, (blk_cell bf.out 2).trans rfl, (blk_cell bf.out 3).trans rfl⟩ (fun hHeld => ?_)
            clear hK K
            refine na_ 7 ?_
            exact norm_ zx26_4 (gn (bV, bJ, be) _ ⟨hHeld, zx26_29, zx26_15, zx26_7, zx26_0, zx26_2, zx26_5, bY.out, bH.out, bl.out, bA.out, bu.out, bx.out, zx26_3⟩)
         ·skip
          rintro ⟨bV, b4⟩ w24 ⟨hS_, h0_, h1_, h2_, h3_, h4_⟩
          have n0_ : Aside0 (Kd.V k37 37 w24 w.heap.size (fun k_ => some k_ ≠ (b4 : Value).ownBlock ∧ k_ ≠ ba ∧ k_ ≠ bc) (.slice bE bb.length bq) bb) := ⟨h0_⟩
          have n1_ : Aside0 (Kd.R k43 43 w24 w.heap.size (fun k_ => k_ ≠ ba) b4 b5) := ⟨h1_⟩
          have n2_ : Aside0 (w24.heap[ba]? = some (.cells #[.int .i64 bk, .int .i64 bj, .int .i64 bi, .int .i64 bh] 43 (0, 0))) := ⟨h2_⟩
          have n3_ : Aside0 (w24.heap[bc]? = some (.cells #[.int .u64 br, .int .u64 bp, .slice bE bb.length bq] 27 (0, 0))) := ⟨h3_⟩
          have n4_ : Aside0 (Below w.heap.size w w24) := ⟨h4_⟩
          (try clear bB)
          clear bf
          clear bg
          clear HB
          clear h0_ h1_ h2_ h3_ h4_
          have bB := n0_
          have b8 := n1_
          have bf := n2_
          have bg := n3_
          have HB := n4_
          clear n0_ n1_ n2_ n3_ n4_
          have hHeld : w24.cell? ⟨ba, 0, none⟩ = some (.int .i64 bk) ∧ w24.cell? ⟨ba, 1, none⟩ = some (.int .i64 bj) ∧ w24.cell? ⟨ba, 2, none⟩ = some (.int .i64 bi) ∧ w24.cell? ⟨ba, 3, none⟩ = some (.int .i64 bh) := hS_
          refine nb_ ?_
          refine two_ (i := 4) (j := 7) (Ni := some 31) (Nj := some 7) #[Tt,Tt,Tt,Tt,Tt,Ff,Ff,Ff,Ff] #[Tt,Tt,Tt,Tt,Ff,Ff,Ff,Tt,Ff] rfl rfl rfl rfl (two_of HT_.out (by kernel_rfl)) (by decide) (by decide) (fun K hK => ?_) (fun K hK => ?_)
          ·skip
           refine Kd.R_lit_step k43 _ 43 ?hg (N := 31) ?hd (xs := ([(⟨bk, bj, bi, bh⟩ : S43)] : List (S43))) (inner := [.int .i64 bk, .int .i64 bj, .int .i64 bi, .int .i64 bh]) (ok := fun _ => True) (okp := fun _ => True) ?hr ?hp (fun _ hk => hk) trivial (Below.refl _ _) (Nat.le_refl _) (by simp) ?_; (case hd => rfl); (case hg => rfl); (case hr => first | (go_simp; done) | (go_simp; rfl)); (case hp => exact (Reps.c4 (show Kd.M k43 _ _ _ (⟨bk, bj, bi, bh⟩ : S43) [.int .i64 bk, .int .i64 bj, .int .i64 bi, .int .i64 bh] from (k43_mkM _ _ _ (⟨bk, bj, bi, bh⟩ : S43) )) (Reps.none _ _)))
           intro bJ w25 di hb hg_ hnew_
           clear hg_ hnew_
           (first | rw [← dC.out] at di | (simp only [Int.reduceToNat] at di; rw [← dC.out] at di))
           replace bB := Aside0.mk (Kd.V_elder' zx26_8 (Kd.R_base di) hb)
           have bL := Aside0.mk (Kd.R_lower (Kd.R_newB (Kd.R_new' di (Kd.R_lt zx26_10)) (g := ba) (o := .cells #[.int .i64 bk, .int .i64 bj, .int .i64 bi, .int .i64 bh] 43 (0, 0)) zx26_0) (below_size zx26_1))
           replace b8 := Aside0.mk (Kd.R_elder' zx26_10 (Kd.R_base di) hb)
           replace bf := Aside0.mk (blk_below (g := ba) (o := .cells #[.int .i64 bk, .int .i64 bj, .int .i64 bi, .int .i64 bh] 43 (0, 0)) zx26_0 hb)
           replace bg := Aside0.mk (blk_below (g := bc) (o := .cells #[.int .u64 br, .int .u64 bp, .slice bE bb.length bq] 27 (0, 0)) zx26_2 hb)
           replace HB := Aside0.mk (below_step zx26_1 hb)
           clear hb di
           refine hK.out _ _ ⟨(blk_cell bf.out 0).trans rfl, (blk_cell bf.out 1).trans rfl, (blk_cell bf.out 2).trans rfl, (blk_cell bf.out 3).trans rfl⟩ (fun hHeld => ?_)
           clear hK K
           refine na_ 31 ?_
           exact norm_ zx26_4 (gS (bV, b4, bJ) _ ⟨hHeld, zx26_34, (by (with_reducible repeat (first | apply Kd.R_alloc | apply Kd.R_drewN | apply Kd.R_drew)); exact Kd.R_mono b8.out (fun _ hk => ⟨hk.2, hk.1⟩)), zx26_30, zx26_0, zx26_2, zx26_1⟩)
          skip
          refine box_step ?hg (N := 7) ?hd (cs := #[.int .u64 0, .int .u64 0, .slice none 0 0]) (t := 27) ?hr ?_; (case hd => rfl); (case hg => rfl); (case hr => first | (go_simp; done) | (go_simp; rfl))
          intro be hg w25 hbox hb
          replace bB := Aside0.mk (Kd.V_below (Kd.V_elderB zx26_8 be (Nat.le_of_eq hg.symm)) hb)
          replace b8 := Aside0.mk (Kd.R_below zx26_10 hb)
          have bC := Aside0.mk (hbox)
          have bY := Aside0.mk ((by rw [hg]; exact (below_size zx26_1) : w.heap.size ≤ be))
          have bH := Aside0.mk ((by rw [hg]; exact (below_size zx26_1) : w.heap.size ≤ be))
          replace HB := Aside0.mk (below_step zx26_1 hb)
          have bl := Aside0.mk ((by rw [hg]; exact Nat.ne_of_lt (blk_lt (g := ba) (o := .cells #[.int .i64 bk, .int .i64 bj, .int .i64 bi, .int .i64 bh] 43 (0, 0)) zx26_0) : ba ≠ be))
          have bA := Aside0.mk ((by rw [hg]; exact Nat.ne_of_gt (blk_lt (g := ba) (o := .cells #[.int .i64 bk, .int .i64 bj, .int .i64 bi, .int .i64 bh] 43 (0, 0)) zx26_0) : be ≠ ba))
          replace bf := Aside0.mk (blk_below (g := ba) (o := .cells #[.int .i64 bk, .int .i64 bj, .int .i64 bi, .int .i64 bh] 43 (0, 0)) zx26_0 hb)
          have bu := Aside0.mk ((by rw [hg]; exact Nat.ne_of_lt (blk_lt (g := bc) (o := .cells #[.int .u64 br, .int .u64 bp, .slice bE bb.length bq] 27 (0, 0)) zx26_2) : bc ≠ be))
          have bx := Aside0.mk ((by rw [hg]; exact Nat.ne_of_gt (blk_lt (g := bc) (o := .cells #[.int .u64 br, .int .u64 bp, .slice bE bb.length bq] 27 (0, 0)) zx26_2) : be ≠ bc))
          replace bg := Aside0.mk (blk_below (g := bc) (o := .cells #[.int .u64 br, .int .u64 bp, .slice bE bb.length bq] 27 (0, 0)) zx26_2 hb)
          clear hb hbox hg
          refine hK.out _ _ ⟨(blk_cell bf.out 0).trans rfl, (blk_cell bf.out 1).trans rfl, (blk_cell bf.out 2).trans rfl, (blk_cell bf.out 3).trans rfl⟩ (fun hHeld => ?_)
          clear hK K
          refine na_ 7 ?_
          exact norm_ zx26_4 (gR (bV, b4, be) _ ⟨hHeld, zx26_33, zx26_10, zx26_0, zx26_2, zx26_5, bY.out, bH.out, bl.out, bA.out, bu.out, bx.out, zx26_3⟩)
        ·skip
         rintro ⟨bV, bJ, be⟩ w26 ⟨hS_, h0_, h1_, h2_, h3_, h4_, h5_, h6_, h7_, h8_, h9_, dj, dt, gg⟩
         have n0_ : Aside0 (Kd.V k37 37 w26 w.heap.size (fun k_ => some k_ ≠ (bV : Value).ownBlock ∧ some k_ ≠ (bJ : Value).ownBlock ∧ k_ ≠ ba ∧ k_ ≠ bc ∧ k_ ≠ be) (.slice bE bb.length bq) bb) := ⟨h0_⟩
         have n1_ : Aside0 (Kd.R k43 43 w26 w.heap.size (fun k_ => some k_ ≠ (bJ : Value).ownBlock ∧ k_ ≠ ba) bV da) := ⟨h1_⟩
         have n2_ : Aside0 (Kd.R k43 43 w26 w.heap.size (fun k_ => some k_ ≠ (bV : Value).ownBlock ∧ k_ ≠ ba) bJ bQ) := ⟨h2_⟩
         have n3_ : Aside0 (w26.heap[ba]? = some (.cells #[.int .i64 bk, .int .i64 bj, .int .i64 bi, .int .i64 bh] 43 (0, 0))) := ⟨h3_⟩
         have n4_ : Aside0 (w26.heap[bc]? = some (.cells #[.int .u64 br, .int .u64 bp, .slice bE bb.length bq] 27 (0, 0))) := ⟨h4_⟩
         have n5_ : Aside0 (w26.heap[be]? = some (.cells #[.int .u64 0, .int .u64 0, .slice none 0 0] 27 (0, 0))) := ⟨h5_⟩
         have n6_ : Aside0 (w.heap.size ≤ be) := ⟨h6_⟩
         have n7_ : Aside0 (w.heap.size ≤ be) := ⟨h7_⟩
         have n8_ : Aside0 (ba ≠ be) := ⟨h8_⟩
         have n9_ : Aside0 (be ≠ ba) := ⟨h9_⟩
         have n10_ : Aside0 (bc ≠ be) := ⟨dj⟩
         have n11_ : Aside0 (be ≠ bc) := ⟨dt⟩
         have n12_ : Aside0 (Below w.heap.size w w26) := ⟨gg⟩
         (try clear bB)
         clear bf
         clear bg
         clear HB
         clear h0_ h1_ h2_ h3_ h4_ h5_ h6_ h7_ h8_ h9_ dj dt gg
         have bB := n0_
         have bX := n1_
         have bL := n2_
         have bf := n3_
         have bg := n4_
         have bC := n5_
         have bY := n6_
         have bH := n7_
         have bl := n8_
         have bA := n9_
         have bu := n10_
         have bx := n11_
         have HB := n12_
         clear n0_ n1_ n2_ n3_ n4_ n5_ n6_ n7_ n8_ n9_ n10_ n11_ n12_
         have hHeld : w26.cell? ⟨ba, 0, none⟩ = some (.int .i64 bk) ∧ w26.cell? ⟨ba, 1, none⟩ = some (.int .i64 bj) ∧ w26.cell? ⟨ba, 2, none⟩ = some (.int .i64 bi) ∧ w26.cell? ⟨ba, 3, none⟩ = some (.int .i64 bh) := hS_
         refine nb_ ?_
         refine one_ (i := 2) (N := some 29) #[Tt,Tt,Tt,Tt,Tt,Ff,Ff,Tt,Ff] rfl rfl (one_of HT_.out (by kernel_rfl)) (by decide) (fun K hK => ?_)
         refine Kd.R_append_rows_step k43 (w0 := w) w.heap.size (by rfl) (.tmp 27) (.tmp 28) 22 43 (.agg #[(.int .i64 0), (.int .i64 0), (.int .i64 0), (.int .i64 0)]) 32 rfl Tryd.underlying22 info43 rfl (by decide) (by omega) bV da l0 _ _ _ (fun k_ => some k_ ≠ (bJ : Value).ownBlock ∧ k_ ≠ ba) (fun _ => False) rfl rfl ?aO ?aR (fun _ _ h => h) (fun _ h => h.elim) ?aF ?aB ?aS ?aL ?_
         (case aR => repeat (first | exact (Kd.C_below HR0.out HB.out) | (with_reducible refine Kd.C_alloc ?_ _) | (with_reducible refine Kd.C_drewN ?_ _) | (with_reducible refine Kd.C_drew ?_)))
         (case aB => exact zx26_3)
         (case aF => exact (fun k_ hk => ⟨Kd.fresh' (Kd.R_lt zx26_7) k_ hk, Kd.freshB (g := ba) (o := .cells #[.int .i64 bk, .int .i64 bj, .int .i64 bi, .int .i64 bh] 43 (0, 0)) zx26_0 k_ hk⟩))
         (case aO => exact zx26_15)
         (case aS => exact (below_size zx26_3))
         (case aL => have := mu.out; omega)
         intro b4 w27 ho hb hg hat
         rw [← gT.out] at ho
         have n0_ := Aside0.mk (blk_grown (g := ba) (o := .cells #[.int .i64 bk, .int .i64 bj, .int .i64 bi, .int .i64 bh] 43 (0, 0)) zx26_0 hg (Kd.R_away bX.out (fun _ hk => hk.2)))
         have n1_ := Aside0.mk (Kd.V_afterv (ok := (fun k_ => some k_ ≠ (bJ : Value).ownBlock ∧ k_ ≠ ba ∧ k_ ≠ bc ∧ k_ ≠ be)) (by (with_reducible repeat (first | apply Kd.V_alloc | apply Kd.V_drewN | apply Kd.V_drew)); exact Kd.V_mono bB.out (fun _ hk => ⟨⟨hk.2.1, ⟨hk.2.2.1, ⟨hk.2.2.2.1, hk.2.2.2.2⟩⟩⟩, hk.1⟩)) hg hat)
         have n2_ := Aside0.mk (blk_grown (g := bc) (o := .cells #[.int .u64 br, .int .u64 bp, .slice bE bb.length bq] 27 (0, 0)) zx26_2 hg (Kd.R_ne bX.out bg.out (by decide)))
         have n3_ := Aside0.mk (Kd.R_after (ok := (fun k_ => k_ ≠ ba)) zx26_12 hg hat)
         have n4_ := Aside0.mk (blk_grown (g := be) (o := .cells #[.int .u64 0, .int .u64 0, .slice none 0 0] 27 (0, 0)) zx26_5 hg (Kd.R_ne bX.out bC.out (by decide)))
         have n5_ := Aside0.mk (hb)
         have n6_ := Aside0.mk (ho)
         clear bf
         (try clear bB)
         clear bg
         (try clear bL)
         clear bC
         clear HB
         (try clear bX)
         have bf := n0_
         have bB := n1_
         have bg := n2_
         have bL := n3_
         have bC := n4_
         have HB := n5_
         have b8 := n6_
         clear n0_ n1_ n2_ n3_ n4_ n5_ n6_
         clear ho hb hg hat
         refine hK.out _ _ ⟨(blk_cell bf.out 0).trans rfl, (blk_cell bf.out 1).trans rfl, (blk_cell bf.out 2).trans rfl, (blk_cell bf.out 3).trans rfl⟩ (fun hHeld => ?_)
         clear hK K
         refine na_ 29 ?_
         exact norm_ zx26_4 (d2 (bV, b4, bJ, be) _ ⟨hHeld, (by (with_reducible repeat (first | apply Kd.V_alloc | apply Kd.V_drewN | apply Kd.V_drew)); exact Kd.V_mono bB.out (fun _ hk => ⟨hk.2, ⟨hk.1.1, ⟨hk.1.2.1, ⟨hk.1.2.2.1, hk.1.2.2.2⟩⟩⟩⟩)), zx26_10, zx26_12, zx26_0, zx26_2, zx26_5, bY.out, bH.out, bl.out, bA.out, bu.out, bx.out, zx26_3⟩)
       ·skip
        rintro ⟨bV, b4, be⟩ w25 ⟨hS_, h0_, h1_, h2_, h3_, h4_, h5_, h6_, h7_, h8_, h9_, dj, dt⟩
        have n0_ : Aside0 (Kd.V k37 37 w25 w.heap.size (fun k_ => some k_ ≠ (b4 : Value).ownBlock ∧ k_ ≠ ba ∧ k_ ≠ bc ∧ k_ ≠ be) (.slice bE bb.length bq) bb) := ⟨h0_⟩
        have n1_ : Aside0 (Kd.R k43 43 w25 w.heap.size (fun k_ => k_ ≠ ba) b4 b5) := ⟨h1_⟩
        have n2_ : Aside0 (w25.heap[ba]? = some (.cells #[.int .i64 bk, .int .i64 bj, .int .i64 bi, .int .i64 bh] 43 (0, 0))) := ⟨h2_⟩
        have n3_ : Aside0 (w25.heap[bc]? = some (.cells #[.int .u64 br, .int .u64 bp, .slice bE bb.length bq] 27 (0, 0))) := ⟨h3_⟩
        have n4_ : Aside0 (w25.heap[be]? = some (.cells #[.int .u64 0, .int .u64 0, .slice none 0 0] 27 (0, 0))) := ⟨h4_⟩
        have n5_ : Aside0 (w.heap.size ≤ be) := ⟨h5_⟩
        have n6_ : Aside0 (w.heap.size ≤ be) := ⟨h6_⟩
        have n7_ : Aside0 (ba ≠ be) := ⟨h7_⟩
        have n8_ : Aside0 (be ≠ ba) := ⟨h8_⟩
        have n9_ : Aside0 (bc ≠ be) := ⟨h9_⟩
        have n10_ : Aside0 (be ≠ bc) := ⟨dj⟩
        have n11_ : Aside0 (Below w.heap.size w w25) := ⟨dt⟩
        (try clear bB)
        clear bf
        clear bg
        clear HB
        clear h0_ h1_ h2_ h3_ h4_ h5_ h6_ h7_ h8_ h9_ dj dt
        have bB := n0_
        have b8 := n1_
        have bf := n2_
        have bg := n3_
        have bC := n4_
        have bY := n5_
        have bH := n6_
        have bl := n7_
        have bA := n8_
        have bu := n9_
        have bx := n10_
        have HB := n11_
        clear n0_ n1_ n2_ n3_ n4_ n5_ n6_ n7_ n8_ n9_ n10_ n11_
        have hHeld : w25.cell? ⟨ba, 0, none⟩ = some (.int .i64 bk) ∧ w25.cell? ⟨ba, 1, none⟩ = some (.int .i64 bj) ∧ w25.cell? ⟨ba, 2, none⟩ = some (.int .i64 bi) ∧ w25.cell? ⟨ba, 3, none⟩ = some (.int .i64 bh) := hS_
        refine nb_ ?_
        refine one_ (i := 4) (N := some 31) #[Tt,Tt,Tt,Tt,Tt,Ff,Ff,Tt,Ff] rfl rfl (one_of HT_.out (by kernel_rfl)) (by decide) (fun K hK => ?_)
        refine Kd.R_lit_step k43 _ 43 ?hg (N := 31) ?hd (xs := ([(⟨bk, bj, bi, bh⟩ : S43)] : List (S43))) (inner := [.int .i64 bk, .int .i64 bj, .int .i64 bi, .int .i64 bh]) (ok := fun _ => True) (okp := fun _ => True) ?hr ?hp (fun _ hk => hk) trivial (Below.refl _ _) (Nat.le_refl _) (by simp) ?_; (case hd => rfl); (case hg => rfl); (case hr => first | (go_simp; done) | (go_simp; rfl)); (case hp => exact (Reps.c4 (show Kd.M k43 _ _ _ (⟨bk, bj, bi, bh⟩ : S43) [.int .i64 bk, .int .i64 bj, .int .i64 bi, .int .i64 bh] from (k43_mkM _ _ _ (⟨bk, bj, bi, bh⟩ : S43) )) (Reps.none _ _)))
        intro bJ w26 gJ hb hg_ hnew_
        clear hg_ hnew_
        (first | rw [← dC.out] at gJ | (simp only [Int.reduceToNat] at gJ; rw [← dC.out] at gJ))
        replace bB := Aside0.mk (Kd.V_elder' zx26_8 (Kd.R_base gJ) hb)
        have bL := Aside0.mk (Kd.R_lower (Kd.R_newB (Kd.R_new' gJ (Kd.R_lt zx26_10)) (g := ba) (o := .cells #[.int .i64 bk, .int .i64 bj, .int .i64 bi, .int .i64 bh] 43 (0, 0)) zx26_0) (below_size zx26_3))
        replace b8 := Aside0.mk (Kd.R_elder' zx26_10 (Kd.R_base gJ) hb)
        replace bf := Aside0.mk (blk_below (g := ba) (o := .cells #[.int .i64 bk, .int .i64 bj, .int .i64 bi, .int .i64 bh] 43 (0, 0)) zx26_0 hb)
        replace bg := Aside0.mk (blk_below (g := bc) (o := .cells #[.int .u64 br, .int .u64 bp, .slice bE bb.length bq] 27 (0, 0)) zx26_2 hb)
        replace bC := Aside0.mk (blk_below (g := be) (o := .cells #[.int .u64 0, .int .u64 0, .slice none 0 0] 27 (0, 0)) zx26_5 hb)
        replace HB := Aside0.mk (below_step zx26_3 hb)
        clear hb gJ
        refine hK.out _ _ ⟨(blk_cell bf.out 0).trans rfl, (blk_cell bf.out 1).trans rfl, (blk_cell bf.out 2).trans rfl, (blk_cell bf.out 3).trans rfl⟩ (fun hHeld => ?_)
        clear hK K
        refine na_ 31 ?_
        exact norm_ zx26_4 (d2 (bV, b4, bJ, be) _ ⟨hHeld, zx26_31, (by (with_reducible repeat (first | apply Kd.R_alloc | apply Kd.R_drewN | apply Kd.R_drew)); exact Kd.R_mono b8.out (fun _ hk => ⟨hk.2, hk.1⟩)), zx26_30, zx26_0, zx26_2, zx26_5, bY.out, bH.out, bl.out, bA.out, bu.out, bx.out, zx26_3⟩)
      ·skip
       rintro ⟨bV, b4, bJ⟩ w26 ⟨hS_, h0_, h1_, h2_, h3_, h4_, h5_⟩
       have n0_ : Aside0 (Kd.V k37 37 w26 w.heap.size (fun k_ => some k_ ≠ (b4 : Value).ownBlock ∧ some k_ ≠ (bJ : Value).ownBlock ∧ k_ ≠ ba ∧ k_ ≠ bc) (.slice bE bb.length bq) bb) := ⟨h0_⟩
       have n1_ : Aside0 (Kd.R k43 43 w26 w.heap.size (fun k_ => some k_ ≠ (bJ : Value).ownBlock ∧ k_ ≠ ba) b4 b5) := ⟨h1_⟩
       have n2_ : Aside0 (Kd.R k43 43 w26 w.heap.size (fun k_ => some k_ ≠ (b4 : Value).ownBlock ∧ k_ ≠ ba) bJ bQ) := ⟨h2_⟩
       have n3_ : Aside0 (w26.heap[ba]? = some (.cells #[.int .i64 bk, .int .i64 bj, .int .i64 bi, .int .i64 bh] 43 (0, 0))) := ⟨h3_⟩
       have n4_ : Aside0 (w26.heap[bc]? = some (.cells #[.int .u64 br, .int .u64 bp, .slice bE bb.length bq] 27 (0, 0))) := ⟨h4_⟩
       have n5_ : Aside0 (Below w.heap.size w w26) := ⟨h5_⟩
       (try clear bB)
       clear bf
       clear bg
       clear HB
       clear h0_ h1_ h2_ h3_ h4_ h5_
       have bB := n0_
       have b8 := n1_
       have bL := n2_
       have bf := n3_
       have bg := n4_
       have HB := n5_
       clear n0_ n1_ n2_ n3_ n4_ n5_
       have hHeld : w26.cell? ⟨ba, 0, none⟩ = some (.int .i64 bk) ∧ w26.cell? ⟨ba, 1, none⟩ = some (.int .i64 bj) ∧ w26.cell? ⟨ba, 2, none⟩ = some (.int .i64 bi) ∧ w26.cell? ⟨ba, 3, none⟩ = some (.int .i64 bh) := hS_
       obtain ⟨mw, mr, oW⟩ := Kd.R_slice bL.out
       (first | subst oW | (injection oW with f1_ f2_ f3_; have f4_ := f1_.symm; have f5_ := f3_.symm; clear f1_ f2_ f3_; subst f4_; subst f5_))
       refine nb_ ?_
       refine two_ (i := 5) (j := 7) (Ni := some 32) (Nj := some 7) #[Tt,Tt,Tt,Tt,Tt,Tt,Ff,Ff,Ff] #[Tt,Tt,Tt,Tt,Tt,Ff,Ff,Tt,Ff] rfl rfl rfl rfl (two_of HT_.out (by kernel_rfl)) (by decide) (by decide) (fun K hK => ?_) (fun K hK => ?_)
       ·skip
        refine Kd.R_append_rows_step k43 (w0 := w) w.heap.size (by rfl) (.tmp 29) (.tmp 31) 22 43 (.agg #[(.int .i64 0), (.int .i64 0), (.int .i64 0), (.int .i64 0)]) 32 rfl Tryd.underlying22 info43 rfl (by decide) (by omega) b4 b5 bQ _ _ _ (fun k_ => some k_ ≠ (.slice mw bQ.length mr : Value).ownBlock ∧ k_ ≠ ba) (fun _ => False) rfl rfl ?aO ?aR (fun _ _ h => h) (fun _ h => h.elim) ?aF ?aB ?aS ?aL ?_
        (case aR => repeat (first | exact (Kd.R_reads' bL.out).2.2 | (with_reducible refine Kd.C_alloc ?_ _) | (with_reducible refine Kd.C_drewN ?_ _) | (with_reducible refine Kd.C_drew ?_)))
        (case aB => exact zx26_1)
        (case aF => exact (fun k_ hk => ⟨Kd.fresh' (Kd.R_lt zx26_7) k_ hk, Kd.freshB (g := ba) (o := .cells #[.int .i64 bk, .int .i64 bj, .int .i64 bi, .int .i64 bh] 43 (0, 0)) zx26_0 k_ hk⟩))
        (case aO => exact zx26_10)
        (case aS => exact (below_size zx26_1))
        (case aL => have := mG.out; omega)
        intro dq w27 ho hb hg hat
        rw [← mF.out] at ho
        have n0_ := Aside0.mk (blk_grown (g := ba) (o := .cells #[.int .i64 bk, .int .i64 bj, .int .i64 bi, .int .i64 bh] 43 (0, 0)) zx26_0 hg (Kd.R_away b8.out (fun _ hk => hk.2)))
        have n1_ := Aside0.mk (Kd.V_afterv (ok := (fun k_ => some k_ ≠ (.slice mw bQ.length mr : Value).ownBlock ∧ k_ ≠ ba ∧ k_ ≠ bc)) zx26_35 hg hat)
        have n2_ := Aside0.mk (blk_grown (g := bc) (o := .cells #[.int .u64 br, .int .u64 bp, .slice bE bb.length bq] 27 (0, 0)) zx26_2 hg (Kd.R_ne b8.out bg.out (by decide)))
        have n3_ := Aside0.mk (Kd.R_after (ok := (fun k_ => k_ ≠ ba)) zx26_12 hg hat)
        have n4_ := Aside0.mk (hb)
        have n5_ := Aside0.mk (ho)
        clear bf
        (try clear bB)
        clear bg
        (try clear bL)
        clear HB
        (try clear b8)
        have bf := n0_
        have bB := n1_
        have bg := n2_
        have bL := n3_
        have HB := n4_
        have dl := n5_
        clear n0_ n1_ n2_ n3_ n4_ n5_
        clear ho hb hg hat
        refine hK.out _ _ ⟨(blk_cell bf.out 0).trans rfl, (blk_cell bf.out 1).trans rfl, (blk_cell bf.out 2).trans rfl, (blk_cell bf.out 3).trans rfl⟩ (fun hHeld => ?_)
        clear hK K
        refine na_ 32 ?_
        exact norm_ zx26_4 (gV (bV, b4, .slice mw bQ.length mr, dq) _ ⟨hHeld, zx26_34, zx26_12, zx26_16, zx26_0, zx26_2, zx26_1⟩)
       ·skip
        refine box_step ?hg (N := 7) ?hd (cs := #[.int .u64 0, .int .u64 0, .slice none 0 0]) (t := 27) ?hr ?_; (case hd => rfl); (case hg => rfl); (case hr => first | (go_simp; done) | (go_simp; rfl))
        intro be hg w27 hbox hb
        replace bB := Aside0.mk (Kd.V_below (Kd.V_elderB zx26_8 be (Nat.le_of_eq hg.symm)) hb)
        replace b8 := Aside0.mk (Kd.R_below zx26_10 hb)
        replace bL := Aside0.mk (Kd.R_below zx26_7 hb)
        have bC := Aside0.mk (hbox)
        have bY := Aside0.mk ((by rw [hg]; exact (below_size zx26_1) : w.heap.size ≤ be))
        have bH := Aside0.mk ((by rw [hg]; exact (below_size zx26_1) : w.heap.size ≤ be))
        replace HB := Aside0.mk (below_step zx26_1 hb)
        have bl := Aside0.mk ((by rw [hg]; exact Nat.ne_of_lt (blk_lt (g := ba) (o := .cells #[.int .i64 bk, .int .i64 bj, .int .i64 bi, .int .i64 bh] 43 (0, 0)) zx26_0) : ba ≠ be))
        have bA := Aside0.mk ((by rw [hg]; exact Nat.ne_of_gt (blk_lt (g := ba) (o := .cells #[.int .i64 bk, .int .i64 bj, .int .i64 bi, .int .i64 bh] 43 (0, 0)) zx26_0) : be ≠ ba))
        replace bf := Aside0.mk (blk_below (g := ba) (o := .cells #[.int .i64 bk, .int .i64 bj, .int .i64 bi, .int .i64 bh] 43 (0, 0)) zx26_0 hb)
        have bu := Aside0.mk ((by rw [hg]; exact Nat.ne_of_lt (blk_lt (g := bc) (o := .cells #[.int .u64 br, .int .u64 bp, .slice bE bb.length bq] 27 (0, 0)) zx26_2) : bc ≠ be))
        have bx := Aside0.mk ((by rw [hg]; exact Nat.ne_of_gt (blk_lt (g := bc) (o := .cells #[.int .u64 br, .int .u64 bp, .slice bE bb.length bq] 27 (0, 0)) zx26_2) : be ≠ bc))
        replace bg := Aside0.mk (blk_below (g := bc) (o := .cells #[.int .u64 br, .int .u64 bp, .slice bE bb.length bq] 27 (0, 0)) zx26_2 hb)
        clear hb hbox hg
        refine hK.out _ _ ⟨(blk_cell bf.out 0).trans rfl, (blk_cell bf.out 1).trans rfl, (blk_cell bf.out 2).trans rfl, (blk_cell bf.out 3).trans rfl⟩ (fun hHeld => ?_)
        clear hK K
        refine na_ 7 ?_
        exact norm_ zx26_4 (d2 (bV, b4, .slice mw bQ.length mr, be) _ ⟨hHeld, zx26_29, zx26_10, zx26_7, zx26_0, zx26_2, zx26_5, bY.out, bH.out, bl.out, bA.out, bu.out, bx.out, zx26_3⟩)
     ·skip
      rintro ⟨bV, b4, bJ, be⟩ w27 ⟨hS_, h0_, h1_, h2_, h3_, h4_, h5_, h6_, h7_, h8_, h9_, dj, dt, gg⟩
      have n0_ : Aside0 (Kd.V k37 37 w27 w.heap.size (fun k_ => some k_ ≠ (b4 : Value).ownBlock ∧ some k_ ≠ (bJ : Value).ownBlock ∧ k_ ≠ ba ∧ k_ ≠ bc ∧ k_ ≠ be) (.slice bE bb.length bq) bb) := ⟨h0_⟩
      have n1_ : Aside0 (Kd.R k43 43 w27 w.heap.size (fun k_ => some k_ ≠ (bJ : Value).ownBlock ∧ k_ ≠ ba) b4 b5) := ⟨h1_⟩
      have n2_ : Aside0 (Kd.R k43 43 w27 w.heap.size (fun k_ => some k_ ≠ (b4 : Value).ownBlock ∧ k_ ≠ ba) bJ bQ) := ⟨h2_⟩
      have n3_ : Aside0 (w27.heap[ba]? = some (.cells #[.int .i64 bk, .int .i64 bj, .int .i64 bi, .int .i64 bh] 43 (0, 0))) := ⟨h3_⟩
      have n4_ : Aside0 (w27.heap[bc]? = some (.cells #[.int .u64 br, .int .u64 bp, .slice bE bb.length bq] 27 (0, 0))) := ⟨h4_⟩
      have n5_ : Aside0 (w27.heap[be]? = some (.cells #[.int .u64 0, .int .u64 0, .slice none 0 0] 27 (0, 0))) := ⟨h5_⟩
      have n6_ : Aside0 (w.heap.size ≤ be) := ⟨h6_⟩
      have n7_ : Aside0 (w.heap.size ≤ be) := ⟨h7_⟩
      have n8_ : Aside0 (ba ≠ be) := ⟨h8_⟩
      have n9_ : Aside0 (be ≠ ba) := ⟨h9_⟩
      have n10_ : Aside0 (bc ≠ be) := ⟨dj⟩
      have n11_ : Aside0 (be ≠ bc) := ⟨dt⟩
      have n12_ : Aside0 (Below w.heap.size w w27) := ⟨gg⟩
      (try clear bB)
      clear bf
      clear bg
      clear HB
      clear h0_ h1_ h2_ h3_ h4_ h5_ h6_ h7_ h8_ h9_ dj dt gg
      have bB := n0_
      have b8 := n1_
      have bL := n2_
      have bf := n3_
      have bg := n4_
      have bC := n5_
      have bY := n6_
      have bH := n7_
      have bl := n8_
      have bA := n9_
      have bu := n10_
      have bx := n11_
      have HB := n12_
      clear n0_ n1_ n2_ n3_ n4_ n5_ n6_ n7_ n8_ n9_ n10_ n11_ n12_
      have hHeld : w27.cell? ⟨ba, 0, none⟩ = some (.int .i64 bk) ∧ w27.cell? ⟨ba, 1, none⟩ = some (.int .i64 bj) ∧ w27.cell? ⟨ba, 2, none⟩ = some (.int .i64 bi) ∧ w27.cell? ⟨ba, 3, none⟩ = some (.int .i64 bh) := hS_
      obtain ⟨gF, gB, ha⟩ := Kd.R_slice bL.out
      (first | subst ha | (injection ha with f1_ f2_ f3_; have f4_ := f1_.symm; have f5_ := f3_.symm; clear f1_ f2_ f3_; subst f4_; subst f5_))
      refine nb_ ?_
      refine one_ (i := 5) (N := some 32) #[Tt,Tt,Tt,Tt,Tt,Tt,Ff,Tt,Ff] rfl rfl (one_of HT_.out (by kernel_rfl)) (by decide) (fun K hK => ?_)
      refine Kd.R_append_rows_step k43 (w0 := w) w.heap.size (by rfl) (.tmp 29) (.tmp 31) 22 43 (.agg #[(.int .i64 0), (.int .i64 0), (.int .i64 0), (.int .i64 0)]) 32 rfl Tryd.underlying22 info43 rfl (by decide) (by omega) b4 b5 bQ _ _ _ (fun k_ => some k_ ≠ (.slice gF bQ.length gB : Value).ownBlock ∧ k_ ≠ ba) (fun _ => False) rfl rfl ?aO ?aR (fun _ _ h => h) (fun _ h => h.elim) ?aF ?aB ?aS ?aL ?_
      (case aR => repeat (first | exact (Kd.R_reads' bL.out).2.2 | (with_reducible refine Kd.C_alloc ?_ _) | (with_reducible refine Kd.C_drewN ?_ _) | (with_reducible refine Kd.C_drew ?_)))
      (case aB => exact zx26_3)
      (case aF => exact (fun k_ hk => ⟨Kd.fresh' (Kd.R_lt zx26_7) k_ hk, Kd.freshB (g := ba) (o := .cells #[.int .i64 bk, .int .i64 bj, .int .i64 bi, .int .i64 bh] 43 (0, 0)) zx26_0 k_ hk⟩))
      (case aO => exact zx26_10)
      (case aS => exact (below_size zx26_3))
      (case aL => have := mG.out; omega)
      intro dq w28 ho hb hg hat
      rw [← mF.out] at ho
      have n0_ := Aside0.mk (blk_grown (g := ba) (o := .cells #[.int .i64 bk, .int .i64 bj, .int .i64 bi, .int .i64 bh] 43 (0, 0)) zx26_0 hg (Kd.R_away b8.out (fun _ hk => hk.2)))
      have n1_ := Aside0.mk (Kd.V_afterv (ok := (fun k_ => some k_ ≠ (.slice gF bQ.length gB : Value).ownBlock ∧ k_ ≠ ba ∧ k_ ≠ bc ∧ k_ ≠ be)) (by (with_reducible repeat (first | apply Kd.V_alloc | apply Kd.V_drewN | apply Kd.V_drew)); exact Kd.V_mono bB.out (fun _ hk => ⟨⟨hk.2.1, ⟨hk.2.2.1, ⟨hk.2.2.2.1, hk.2.2.2.2⟩⟩⟩, hk.1⟩)) hg hat)
      have n2_ := Aside0.mk (blk_grown (g := bc) (o := .cells #[.int .u64 br, .int .u64 bp, .slice bE bb.length bq] 27 (0, 0)) zx26_2 hg (Kd.R_ne b8.out bg.out (by decide)))
      have n3_ := Aside0.mk (Kd.R_after (ok := (fun k_ => k_ ≠ ba)) zx26_12 hg hat)
      have n4_ := Aside0.mk (blk_grown (g := be) (o := .cells #[.int .u64 0, .int .u64 0, .slice none 0 0] 27 (0, 0)) zx26_5 hg (Kd.R_ne b8.out bC.out (by decide)))
      have n5_ := Aside0.mk (hb)
      have n6_ := Aside0.mk (ho)
      clear bf
      (try clear bB)
      clear bg
      (try clear bL)
      clear bC
      clear HB
      (try clear b8)
      have bf := n0_
      have bB := n1_
      have bg := n2_
      have bL := n3_
      have bC := n4_
      have HB := n5_
      have dl := n6_
      clear n0_ n1_ n2_ n3_ n4_ n5_ n6_
      clear ho hb hg hat
      refine hK.out _ _ ⟨(blk_cell bf.out 0).trans rfl, (blk_cell bf.out 1).trans rfl, (blk_cell bf.out 2).trans rfl, (blk_cell bf.out 3).trans rfl⟩ (fun hHeld => ?_)
      clear hK K
      refine na_ 32 ?_
      exact norm_ zx26_4 (gb (bV, b4, .slice gF bQ.length gB, dq, be) _ ⟨hHeld, zx26_31, zx26_12, zx26_16, zx26_0, zx26_2, zx26_5, bY.out, bH.out, bl.out, bA.out, bu.out, bx.out, zx26_3⟩)
    ·skip
     rintro ⟨bV, b4, bJ, dq⟩ w28 ⟨hS_, h0_, h1_, h2_, h3_, h4_, h5_⟩
     have n0_ : Aside0 (Kd.V k37 37 w28 w.heap.size (fun k_ => some k_ ≠ (bJ : Value).ownBlock ∧ some k_ ≠ (dq : Value).ownBlock ∧ k_ ≠ ba ∧ k_ ≠ bc) (.slice bE bb.length bq) bb) := ⟨h0_⟩
     have n1_ : Aside0 (Kd.R k43 43 w28 w.heap.size (fun k_ => some k_ ≠ (dq : Value).ownBlock ∧ k_ ≠ ba) bJ bQ) := ⟨h1_⟩
     have n2_ : Aside0 (Kd.R k43 43 w28 w.heap.size (fun k_ => some k_ ≠ (bJ : Value).ownBlock ∧ k_ ≠ ba) dq dD) := ⟨h2_⟩
     have n3_ : Aside0 (w28.heap[ba]? = some (.cells #[.int .i64 bk, .int .i64 bj, .int .i64 bi, .int .i64 bh] 43 (0, 0))) := ⟨h3_⟩
     have n4_ : Aside0 (w28.heap[bc]? = some (.cells #[.int .u64 br, .int .u64 bp, .slice bE bb.length bq] 27 (0, 0))) := ⟨h4_⟩
     have n5_ : Aside0 (Below w.heap.size w w28) := ⟨h5_⟩
     (try clear bB)
     clear bf
     clear bg
     clear HB
     clear h0_ h1_ h2_ h3_ h4_ h5_
     have bB := n0_
     have bL := n1_
     have dl := n2_
     have bf := n3_
     have bg := n4_
     have HB := n5_
     clear n0_ n1_ n2_ n3_ n4_ n5_
     have hHeld : w28.cell? ⟨ba, 0, none⟩ = some (.int .i64 bk) ∧ w28.cell? ⟨ba, 1, none⟩ = some (.int .i64 bj) ∧ w28.cell? ⟨ba, 2, none⟩ = some (.int .i64 bi) ∧ w28.cell? ⟨ba, 3, none⟩ = some (.int .i64 bh) := hS_
     obtain ⟨gF, gB, ha⟩ := Kd.R_slice dl.out
     (first | subst ha | (injection ha with f1_ f2_ f3_; have f4_ := f1_.symm; have f5_ := f3_.symm; clear f1_ f2_ f3_; subst f4_; subst f5_))
     refine nb_ ?_
     refine two_ (i := 6) (j := 7) (Ni := some 33) (Nj := some 7) #[Tt,Tt,Tt,Tt,Tt,Tt,Tt,Ff,Ff] #[Tt,Tt,Tt,Tt,Tt,Tt,Ff,Tt,Ff] rfl rfl rfl rfl (two_of HT_.out (by kernel_rfl)) (by decide) (by decide) (fun K hK => ?_) (fun K hK => ?_)
     ·skip
      refine goes_ Tryd.func11 (by kernel_rfl) rfl #[.slice gF dD.length gB] (by rfl) rfl rfl zx26_9 ?_
      with_reducible refine (postroomlaw10_run.calls k _ _ dD bO bU bM _ ?side1 ?side2 A11.out).mono ?_
      (case side1 => repeat (first | exact (Kd.R_reads' dl.out).2.2 | (with_reducible refine Kd.C_alloc ?_ _) | (with_reducible refine Kd.C_drewN ?_ _) | (with_reducible refine Kd.C_drew ?_)))
      (case side2 => exact (Kd.R_reads' dl.out).2.1)
      rintro e w30 ⟨gp, rfl, ho0, hb⟩
      refine ⟨_, rfl, ?_⟩
      replace bB := Aside0.mk (Kd.V_below zx26_8 hb)
      have dS := Aside0.mk (Kd.V_lower (Kd.V_mono (ok' := fun k_ => some k_ ≠ (bJ : Value).ownBlock ∧ some k_ ≠ (.slice gF dD.length gB : Value).ownBlock ∧ k_ ≠ ba ∧ k_ ≠ bc) ho0 (fun k_ hk_ => ⟨(Kd.fresh' (Kd.R_lt zx26_7) k_ hk_), (Kd.fresh' (Kd.R_lt zx26_16) k_ hk_), (Kd.freshB (g := ba) (o := .cells #[.int .i64 bk, .int .i64 bj, .int .i64 bi, .int .i64 bh] 43 (0, 0)) zx26_0 k_ hk_), (Kd.freshB (g := bc) (o := .cells #[.int .u64 br, .int .u64 bp, .slice bE bb.length bq] 27 (0, 0)) zx26_2 k_ hk_)⟩)) (below_size zx26_1))
      replace bL := Aside0.mk (Kd.R_below zx26_7 hb)
      replace dl := Aside0.mk (Kd.R_below zx26_16 hb)
      replace bf := Aside0.mk (blk_below (g := ba) (o := .cells #[.int .i64 bk, .int .i64 bj, .int .i64 bi, .int .i64 bh] 43 (0, 0)) zx26_0 hb)
      replace bg := Aside0.mk (blk_below (g := bc) (o := .cells #[.int .u64 br, .int .u64 bp, .slice bE bb.length bq] 27 (0, 0)) zx26_2 hb)
      replace HB := Aside0.mk (below_step zx26_1 hb)
      (try clear hb)
      (try clear hb2)
      (try clear hk)
      (try clear hi)
      (try clear ho0)
      refine hK.out _ _ ⟨(blk_cell bf.out 0).trans rfl, (blk_cell bf.out 1).trans rfl, (blk_cell bf.out 2).trans rfl, (blk_cell bf.out 3).trans rfl⟩ (fun hHeld => ?_)
      clear hK K
      refine na_ 33 ?_
      exact norm_ zx26_4 (gA (bV, b4, bJ, .slice gF dD.length gB, gp) _ ⟨hHeld, zx26_8, zx26_7, zx26_16, (by (with_reducible repeat (first | apply Kd.V_alloc | apply Kd.V_drewN | apply Kd.V_drew)); exact dS.out), zx26_0, zx26_2, zx26_1⟩)
     skip
     refine box_step ?hg (N := 7) ?hd (cs := #[.int .u64 0, .int .u64 0, .slice none 0 0]) (t := 27) ?hr ?_; (case hd => rfl); (case hg => rfl); (case hr => first | (go_simp; done) | (go_simp; rfl))
     intro be hg w29 hbox hb
     replace bB := Aside0.mk (Kd.V_below (Kd.V_elderB zx26_8 be (Nat.le_of_eq hg.symm)) hb)
     replace bL := Aside0.mk (Kd.R_below zx26_7 hb)
     replace dl := Aside0.mk (Kd.R_below zx26_16 hb)
     have bC := Aside0.mk (hbox)
     have bY := Aside0.mk ((by rw [hg]; exact (below_size zx26_1) : w.heap.size ≤ be))
     have bH := Aside0.mk ((by rw [hg]; exact (below_size zx26_1) : w.heap.size ≤ be))
     replace HB := Aside0.mk (below_step zx26_1 hb)
     have bl := Aside0.mk ((by rw [hg]; exact Nat.ne_of_lt (blk_lt (g := ba) (o := .cells #[.int .i64 bk, .int .i64 bj, .int .i64 bi, .int .i64 bh] 43 (0, 0)) zx26_0) : ba ≠ be))
     have bA := Aside0.mk ((by rw [hg]; exact Nat.ne_of_gt (blk_lt (g := ba) (o := .cells #[.int .i64 bk, .int .i64 bj, .int .i64 bi, .int .i64 bh] 43 (0, 0)) zx26_0) : be ≠ ba))
     replace bf := Aside0.mk (blk_below (g := ba) (o := .cells #[.int .i64 bk, .int .i64 bj, .int .i64 bi, .int .i64 bh] 43 (0, 0)) zx26_0 hb)
     have bu := Aside0.mk ((by rw [hg]; exact Nat.ne_of_lt (blk_lt (g := bc) (o := .cells #[.int .u64 br, .int .u64 bp, .slice bE bb.length bq] 27 (0, 0)) zx26_2) : bc ≠ be))
     have bx := Aside0.mk ((by rw [hg]; exact Nat.ne_of_gt (blk_lt (g := bc) (o := .cells #[.int .u64 br, .int .u64 bp, .slice bE bb.length bq] 27 (0, 0)) zx26_2) : be ≠ bc))
     replace bg := Aside0.mk (blk_below (g := bc) (o := .cells #[.int .u64 br, .int .u64 bp, .slice bE bb.length bq] 27 (0, 0)) zx26_2 hb)
     clear hb hbox hg
     refine hK.out _ _ ⟨(blk_cell bf.out 0).trans rfl, (blk_cell bf.out 1).trans rfl, (blk_cell bf.out 2).trans rfl, (blk_cell bf.out 3).trans rfl⟩ (fun hHeld => ?_)
     clear hK K
     refine na_ 7 ?_
     exact norm_ zx26_4 (gb (bV, b4, bJ, .slice gF dD.length gB, be) _ ⟨hHeld, zx26_29, zx26_7, zx26_16, zx26_0, zx26_2, zx26_5, bY.out, bH.out, bl.out, bA.out, bu.out, bx.out, zx26_3⟩)
   ·skip
    rintro ⟨bV, b4, bJ, dq, be⟩ w29 ⟨hS_, h0_, h1_, h2_, h3_, h4_, h5_, h6_, h7_, h8_, h9_, dj, dt, gg⟩
    have n0_ : Aside0 (Kd.V k37 37 w29 w.heap.size (fun k_ => some k_ ≠ (bJ : Value).ownBlock ∧ some k_ ≠ (dq : Value).ownBlock ∧ k_ ≠ ba ∧ k_ ≠ bc ∧ k_ ≠ be) (.slice bE bb.length bq) bb) := ⟨h0_⟩
    have n1_ : Aside0 (Kd.R k43 43 w29 w.heap.size (fun k_ => some k_ ≠ (dq : Value).ownBlock ∧ k_ ≠ ba) bJ bQ) := ⟨h1_⟩
    have n2_ : Aside0 (Kd.R k43 43 w29 w.heap.size (fun k_ => some k_ ≠ (bJ : Value).ownBlock ∧ k_ ≠ ba) dq dD) := ⟨h2_⟩
    have n3_ : Aside0 (w29.heap[ba]? = some (.cells #[.int .i64 bk, .int .i64 bj, .int .i64 bi, .int .i64 bh] 43 (0, 0))) := ⟨h3_⟩
    have n4_ : Aside0 (w29.heap[bc]? = some (.cells #[.int .u64 br, .int .u64 bp, .slice bE bb.length bq] 27 (0, 0))) := ⟨h4_⟩
    have n5_ : Aside0 (w29.heap[be]? = some (.cells #[.int .u64 0, .int .u64 0, .slice none 0 0] 27 (0, 0))) := ⟨h5_⟩
    have n6_ : Aside0 (w.heap.size ≤ be) := ⟨h6_⟩
    have n7_ : Aside0 (w.heap.size ≤ be) := ⟨h7_⟩
    have n8_ : Aside0 (ba ≠ be) := ⟨h8_⟩
    have n9_ : Aside0 (be ≠ ba) := ⟨h9_⟩
    have n10_ : Aside0 (bc ≠ be) := ⟨dj⟩
    have n11_ : Aside0 (be ≠ bc) := ⟨dt⟩
    have n12_ : Aside0 (Below w.heap.size w w29) := ⟨gg⟩
    (try clear bB)
    clear bf
    clear bg
    clear HB
    clear h0_ h1_ h2_ h3_ h4_ h5_ h6_ h7_ h8_ h9_ dj dt gg
    have bB := n0_
    have bL := n1_
    have dl := n2_
    have bf := n3_
    have bg := n4_
    have bC := n5_
    have bY := n6_
    have bH := n7_
    have bl := n8_
    have bA := n9_
    have bu := n10_
    have bx := n11_
    have HB := n12_
    clear n0_ n1_ n2_ n3_ n4_ n5_ n6_ n7_ n8_ n9_ n10_ n11_ n12_
    have hHeld : w29.cell? ⟨ba, 0, none⟩ = some (.int .i64 bk) ∧ w29.cell? ⟨ba, 1, none⟩ = some (.int .i64 bj) ∧ w29.cell? ⟨ba, 2, none⟩ = some (.int .i64 bi) ∧ w29.cell? ⟨ba, 3, none⟩ = some (.int .i64 bh) := hS_
    obtain ⟨mZ, mY, oV⟩ := Kd.R_slice dl.out
    (first | subst oV | (injection oV with f1_ f2_ f3_; have f4_ := f1_.symm; have f5_ := f3_.symm; clear f1_ f2_ f3_; subst f4_; subst f5_))
    refine nb_ ?_
    refine one_ (i := 6) (N := some 33) #[Tt,Tt,Tt,Tt,Tt,Tt,Tt,Tt,Ff] rfl rfl (one_of HT_.out (by kernel_rfl)) (by decide) (fun K hK => ?_)
    refine goes_ Tryd.func11 (by kernel_rfl) rfl #[.slice mZ dD.length mY] (by rfl) rfl rfl zx26_9 ?_
    with_reducible refine (postroomlaw10_run.calls k _ _ dD bO bU bM _ ?side1 ?side2 A11.out).mono ?_
    (case side1 => repeat (first | exact (Kd.R_reads' dl.out).2.2 | (with_reducible refine Kd.C_alloc ?_ _) | (with_reducible refine Kd.C_drewN ?_ _) | (with_reducible refine Kd.C_drew ?_)))
    (case side2 => exact (Kd.R_reads' dl.out).2.1)
    rintro e w31 ⟨gp, rfl, ho0, hb⟩
    refine ⟨_, rfl, ?_⟩
    replace bB := Aside0.mk (Kd.V_below zx26_8 hb)
    have dS := Aside0.mk (Kd.V_lower (Kd.V_mono (ok' := fun k_ => some k_ ≠ (bJ : Value).ownBlock ∧ some k_ ≠ (.slice mZ dD.length mY : Value).ownBlock ∧ k_ ≠ ba ∧ k_ ≠ bc ∧ k_ ≠ be) ho0 (fun k_ hk_ => ⟨(Kd.fresh' (Kd.R_lt zx26_7) k_ hk_), (Kd.fresh' (Kd.R_lt zx26_16) k_ hk_), (Kd.freshB (g := ba) (o := .cells #[.int .i64 bk, .int .i64 bj, .int .i64 bi, .int .i64 bh] 43 (0, 0)) zx26_0 k_ hk_), (Kd.freshB (g := bc) (o := .cells #[.int .u64 br, .int .u64 bp, .slice bE bb.length bq] 27 (0, 0)) zx26_2 k_ hk_), (Kd.freshB (g := be) (o := .cells #[.int .u64 0, .int .u64 0, .slice none 0 0] 27 (0, 0)) zx26_5 k_ hk_)⟩)) (below_size zx26_3))
    replace bL := Aside0.mk (Kd.R_below zx26_7 hb)
    replace dl := Aside0.mk (Kd.R_below zx26_16 hb)
    replace bf := Aside0.mk (blk_below (g := ba) (o := .cells #[.int .i64 bk, .int .i64 bj, .int .i64 bi, .int .i64 bh] 43 (0, 0)) zx26_0 hb)
    replace bg := Aside0.mk (blk_below (g := bc) (o := .cells #[.int .u64 br, .int .u64 bp, .slice bE bb.length bq] 27 (0, 0)) zx26_2 hb)
    replace bC := Aside0.mk (blk_below (g := be) (o := .cells #[.int .u64 0, .int .u64 0, .slice none 0 0] 27 (0, 0)) zx26_5 hb)
    replace HB := Aside0.mk (below_step zx26_3 hb)
    (try clear hb)
    (try clear hb2)
    (try clear hk)
    (try clear hi)
    (try clear ho0)
    refine hK.out _ _ ⟨(blk_cell bf.out 0).trans rfl, (blk_cell bf.out 1).trans rfl, (blk_cell bf.out 2).trans rfl, (blk_cell bf.out 3).trans rfl⟩ (fun hHeld => ?_)
    clear hK K
    refine na_ 33 ?_
    exact norm_ zx26_4 (dQ (bV, b4, bJ, .slice mZ dD.length mY, gp, be) _ ⟨hHeld, zx26_8, zx26_7, zx26_16, (by (with_reducible repeat (first | apply Kd.V_alloc | apply Kd.V_drewN | apply Kd.V_drew)); exact dS.out), zx26_0, zx26_2, zx26_5, bY.out, bH.out, bl.out, bA.out, bu.out, bx.out, zx26_3⟩)
  ·skip
   rintro ⟨bV, b4, bJ, dq, gp⟩ w30 ⟨hS_, h0_, h1_, h2_, h3_, h4_, h5_, h6_⟩
   have n0_ : Aside0 (Kd.V k37 37 w30 w.heap.size (fun k_ => some k_ ≠ (bJ : Value).ownBlock ∧ some k_ ≠ (dq : Value).ownBlock ∧ k_ ≠ ba ∧ k_ ≠ bc) (.slice bE bb.length bq) bb) := ⟨h0_⟩
   have n1_ : Aside0 (Kd.R k43 43 w30 w.heap.size (fun k_ => some k_ ≠ (dq : Value).ownBlock ∧ k_ ≠ ba) bJ bQ) := ⟨h1_⟩
   have n2_ : Aside0 (Kd.R k43 43 w30 w.heap.size (fun k_ => some k_ ≠ (bJ : Value).ownBlock ∧ k_ ≠ ba) dq dD) := ⟨h2_⟩
   have n3_ : Aside0 (Kd.V k37 37 w30 w.heap.size (fun k_ => some k_ ≠ (bJ : Value).ownBlock ∧ some k_ ≠ (dq : Value).ownBlock ∧ k_ ≠ ba ∧ k_ ≠ bc) gp bM) := ⟨h3_⟩
   have n4_ : Aside0 (w30.heap[ba]? = some (.cells #[.int .i64 bk, .int .i64 bj, .int .i64 bi, .int .i64 bh] 43 (0, 0))) := ⟨h4_⟩
   have n5_ : Aside0 (w30.heap[bc]? = some (.cells #[.int .u64 br, .int .u64 bp, .slice bE bb.length bq] 27 (0, 0))) := ⟨h5_⟩
   have n6_ : Aside0 (Below w.heap.size w w30) := ⟨h6_⟩
   (try clear bB)
   clear bf
   clear bg
   clear HB
   clear h0_ h1_ h2_ h3_ h4_ h5_ h6_
   have bB := n0_
   have bL := n1_
   have dl := n2_
   have dS := n3_
   have bf := n4_
   have bg := n5_
   have HB := n6_
   clear n0_ n1_ n2_ n3_ n4_ n5_ n6_
   have hHeld : w30.cell? ⟨ba, 0, none⟩ = some (.int .i64 bk) ∧ w30.cell? ⟨ba, 1, none⟩ = some (.int .i64 bj) ∧ w30.cell? ⟨ba, 2, none⟩ = some (.int .i64 bi) ∧ w30.cell? ⟨ba, 3, none⟩ = some (.int .i64 bh) := hS_
   refine nb_ ?_
   refine one_ (i := 7) (N := some 7) #[Tt,Tt,Tt,Tt,Tt,Tt,Tt,Tt,Ff] rfl rfl (one_of HT_.out (by kernel_rfl)) (by decide) (fun K hK => ?_)
   refine box_step ?hg (N := 7) ?hd (cs := #[.int .u64 0, .int .u64 0, .slice none 0 0]) (t := 27) ?hr ?_; (case hd => rfl); (case hg => rfl); (case hr => first | (go_simp; done) | (go_simp; rfl))
   intro be hg w31 hbox hb
   replace bB := Aside0.mk (Kd.V_below (Kd.V_elderB zx26_8 be (Nat.le_of_eq hg.symm)) hb)
   replace bL := Aside0.mk (Kd.R_below zx26_7 hb)
   replace dl := Aside0.mk (Kd.R_below zx26_16 hb)
   replace dS := Aside0.mk (Kd.V_below (Kd.V_elderB (by (with_reducible repeat (first | apply Kd.V_alloc | apply Kd.V_drewN | apply Kd.V_drew)); exact dS.out) be (Nat.le_of_eq hg.symm)) hb)
   have bC := Aside0.mk (hbox)
   have bY := Aside0.mk ((by rw [hg]; exact (below_size zx26_1) : w.heap.size ≤ be))
   have bH := Aside0.mk ((by rw [hg]; exact (below_size zx26_1) : w.heap.size ≤ be))
   replace HB := Aside0.mk (below_step zx26_1 hb)
   have bl := Aside0.mk ((by rw [hg]; exact Nat.ne_of_lt (blk_lt (g := ba) (o := .cells #[.int .i64 bk, .int .i64 bj, .int .i64 bi, .int .i64 bh] 43 (0, 0)) zx26_0) : ba ≠ be))
   have bA := Aside0.mk ((by rw [hg]; exact Nat.ne_of_gt (blk_lt (g := ba) (o := .cells #[.int .i64 bk, .int .i64 bj, .int .i64 bi, .int .i64 bh] 43 (0, 0)) zx26_0) : be ≠ ba))
   replace bf := Aside0.mk (blk_below (g := ba) (o := .cells #[.int .i64 bk, .int .i64 bj, .int .i64 bi, .int .i64 bh] 43 (0, 0)) zx26_0 hb)
   have bu := Aside0.mk ((by rw [hg]; exact Nat.ne_of_lt (blk_lt (g := bc) (o := .cells #[.int .u64 br, .int .u64 bp, .slice bE bb.length bq] 27 (0, 0)) zx26_2) : bc ≠ be))
   have bx := Aside0.mk ((by rw [hg]; exact Nat.ne_of_gt (blk_lt (g := bc) (o := .cells #[.int .u64 br, .int .u64 bp, .slice bE bb.length bq] 27 (0, 0)) zx26_2) : be ≠ bc))
   replace bg := Aside0.mk (blk_below (g := bc) (o := .cells #[.int .u64 br, .int .u64 bp, .slice bE bb.length bq] 27 (0, 0)) zx26_2 hb)
   clear hb hbox hg
   refine hK.out _ _ ⟨(blk_cell bf.out 0).trans rfl, (blk_cell bf.out 1).trans rfl, (blk_cell bf.out 2).trans rfl, (blk_cell bf.out 3).trans rfl⟩ (fun hHeld => ?_)
   clear hK K
   refine na_ 7 ?_
   exact norm_ zx26_4 (dQ (bV, b4, bJ, dq, gp, be) _ ⟨hHeld, zx26_29, zx26_7, zx26_16, (by (with_reducible repeat (first | apply Kd.V_alloc | apply Kd.V_drewN | apply Kd.V_drew)); exact Kd.V_mono dS.out (fun _ hk => ⟨hk.1.1, ⟨hk.1.2.1, ⟨hk.1.2.2.1, ⟨hk.1.2.2.2, hk.2⟩⟩⟩⟩)), zx26_0, zx26_2, zx26_5, bY.out, bH.out, bl.out, bA.out, bu.out, bx.out, zx26_3⟩)
 rintro ⟨bV, b4, bJ, dq, gp, be⟩ w31 ⟨hS_, h0_, h1_, h2_, h3_, h4_, h5_, h6_, h7_, h8_, h9_, dj, dt, gg, oT⟩
 have n0_ : Aside0 (Kd.V k37 37 w31 w.heap.size (fun k_ => some k_ ≠ (bJ : Value).ownBlock ∧ some k_ ≠ (dq : Value).ownBlock ∧ k_ ≠ ba ∧ k_ ≠ bc ∧ k_ ≠ be) (.slice bE bb.length bq) bb) := ⟨h0_⟩
 have n3_ : Aside0 (Kd.V k37 37 w31 w.heap.size (fun k_ => some k_ ≠ (bJ : Value).ownBlock ∧ some k_ ≠ (dq : Value).ownBlock ∧ k_ ≠ ba ∧ k_ ≠ bc ∧ k_ ≠ be) gp bM) := ⟨h3_⟩
 have n4_ : Aside0 (w31.heap[ba]? = some (.cells #[.int .i64 bk, .int .i64 bj, .int .i64 bi, .int .i64 bh] 43 (0, 0))) := ⟨h4_⟩
 have n5_ : Aside0 (w31.heap[bc]? = some (.cells #[.int .u64 br, .int .u64 bp, .slice bE bb.length bq] 27 (0, 0))) := ⟨h5_⟩
 have n6_ : Aside0 (w31.heap[be]? = some (.cells #[.int .u64 0, .int .u64 0, .slice none 0 0] 27 (0, 0))) := ⟨h6_⟩
 have n7_ : Aside0 (w.heap.size ≤ be) := ⟨h7_⟩
 have n8_ : Aside0 (w.heap.size ≤ be) := ⟨h8_⟩
 have n9_ : Aside0 (ba ≠ be) := ⟨h9_⟩
 have n10_ : Aside0 (be ≠ ba) := ⟨dj⟩
 have n11_ : Aside0 (bc ≠ be) := ⟨dt⟩
 have n12_ : Aside0 (be ≠ bc) := ⟨gg⟩
 have n13_ : Aside0 (Below w.heap.size w w31) := ⟨oT⟩
 (try clear bB)
 clear bf
 clear bg
 clear HB
 clear h0_ h1_ h2_ h3_ h4_ h5_ h6_ h7_ h8_ h9_ dj dt gg oT
 have bB := n0_
 have dS := n3_
 have bf := n4_
 have bg := n5_
 have bC := n6_
 have bY := n7_
 have bH := n8_
 have bl := n9_
 have bA := n10_
 have bu := n11_
 have bx := n12_
 have HB := n13_
 clear n0_ n3_ n4_ n5_ n6_ n7_ n8_ n9_ n10_ n11_ n12_ n13_
 have hHeld : w31.cell? ⟨ba, 0, none⟩ = some (.int .i64 bk) ∧ w31.cell? ⟨ba, 1, none⟩ = some (.int .i64 bj) ∧ w31.cell? ⟨ba, 2, none⟩ = some (.int .i64 bi) ∧ w31.cell? ⟨ba, 3, none⟩ = some (.int .i64 bh) := hS_
 obtain ⟨de, dc, oU⟩ := Kd.V_slice dS.out
 (first | subst oU | (injection oU with f1_ f2_ f3_; have f4_ := f1_.symm; have f5_ := f3_.symm; clear f1_ f2_ f3_; subst f4_; subst f5_))
 refine nb_ ?_
 refine one_ (i := 8) (N := none) #[Tt,Tt,Tt,Tt,Tt,Tt,Tt,Tt,Tt] rfl rfl (one_of HT_.out (by kernel_rfl)) (by decide) (fun K hK => ?_)
 have vF : w31.cell? ⟨be, 0, none⟩ = some (.int .u64 0) := (blk_cell bC.out 0).trans rfl
 have vb := blk_frozen bC.out 0
 have qz := bl.out
 have qy := bu.out
 have qF := bA.out
 have qE := bx.out
 have vE : w31.cell? ⟨be, 1, none⟩ = some (.int .u64 0) := (blk_cell bC.out 1).trans rfl
 have va := blk_frozen bC.out 1
 have qx := bl.out
 have qw := bu.out
 have qD := bA.out
 have qC := bx.out
 have vD : w31.cell? ⟨be, 2, none⟩ = some (.slice none 0 0) := (blk_cell bC.out 2).trans rfl
 have sZ := blk_frozen bC.out 2
 have qv := bl.out
 have qu := bu.out
 have qB := bA.out
 have qA := bx.out
 refine skip_ (w1 := ?_) (by rfl) rfl ?_ ?_
 rotate_left
 ·go_simp
  rfl
 refine hK.out _ _ ⟨((cell_far (p := ⟨be, _, none⟩) bl.out _).trans (((cell_far (p := ⟨be, _, none⟩) bl.out _).trans (((cell_far (p := ⟨be, _, none⟩) bl.out _).trans (hHeld.1)))))), ((cell_far (p := ⟨be, _, none⟩) bl.out _).trans (((cell_far (p := ⟨be, _, none⟩) bl.out _).trans (((cell_far (p := ⟨be, _, none⟩) bl.out _).trans (hHeld.2.1)))))), ((cell_far (p := ⟨be, _, none⟩) bl.out _).trans (((cell_far (p := ⟨be, _, none⟩) bl.out _).trans (((cell_far (p := ⟨be, _, none⟩) bl.out _).trans (hHeld.2.2.1)))))), ((cell_far (p := ⟨be, _, none⟩) bl.out _).trans (((cell_far (p := ⟨be, _, none⟩) bl.out _).trans (((cell_far (p := ⟨be, _, none⟩) bl.out _).trans (hHeld.2.2.2))))))⟩ (fun hHeld => ?_)
 clear hK K
 refine done_ (done_of HT_.out (by kernel_rfl)) ?_
 try go_wp2
 go_loopg [8] k (fun kq v8 w' => ∃ (bd : Int), v8 = .int .i64 bd ∧ Aside0 (postroomlaw10_LedgerCounts.l0 kq bd br bp bb bO bU bM = some r) ∧ Aside0 (kq ≤ k) ∧ Aside0 (Kd.V k37 37 w' w.heap.size (fun k_ => k_ ≠ ba ∧ k_ ≠ bc ∧ k_ ≠ be) (.slice bE bb.length bq) bb) ∧ Aside0 (Kd.V k37 37 w' w.heap.size (fun k_ => k_ ≠ ba ∧ k_ ≠ bc ∧ k_ ≠ be) (.slice de bM.length dc) bM) ∧ Aside0 (w'.heap[ba]? = some (.cells #[.int .i64 bk, .int .i64 bj, .int .i64 bi, .int .i64 bh] 43 (0, 0))) ∧ Aside0 (w'.heap[bc]? = some (.cells #[.int .u64 br, .int .u64 bp, (.slice bE bb.length bq)] 27 (0, 0))) ∧ Aside0 (w'.heap[be]? = some (.cells #[.int .u64 bO, .int .u64 bU, (.slice de bM.length dc)] 27 (0, 0))) ∧ Aside0 (Below w.heap.size w w'))
 case atStart => exact ⟨(0), zx26_32, H', ⟨Nat.le_refl _⟩, ⟨by (with_reducible repeat (first | apply Kd.V_alloc | apply Kd.V_drewN | apply Kd.V_drew)); exact Kd.V_mono (Kd.V_far (p := ⟨be, 2, none⟩) (Kd.V_far (p := ⟨be, 1, none⟩) (Kd.V_far (p := ⟨be, 0, none⟩) (Kd.V_mono bB.out (fun k_ hk => (⟨hk, hk.2.2.2.2⟩ : _ ∧ k_ ≠ be))) (fun _ hk => hk.2) (.int .u64 bO)) (fun _ hk => hk.2) (.int .u64 bU)) (fun _ hk => hk.2) (.slice de bM.length dc)) (fun _ hk => ⟨hk.1.2.2.1, ⟨hk.1.2.2.2.1, hk.1.2.2.2.2⟩⟩)⟩, ⟨by (with_reducible repeat (first | apply Kd.V_alloc | apply Kd.V_drewN | apply Kd.V_drew)); exact Kd.V_mono (Kd.V_far (p := ⟨be, 2, none⟩) (Kd.V_far (p := ⟨be, 1, none⟩) (Kd.V_far (p := ⟨be, 0, none⟩) (Kd.V_mono dS.out (fun k_ hk => (⟨hk, hk.2.2.2.2⟩ : _ ∧ k_ ≠ be))) (fun _ hk => hk.2) (.int .u64 bO)) (fun _ hk => hk.2) (.int .u64 bU)) (fun _ hk => hk.2) (.slice de bM.length dc)) (fun _ hk => ⟨hk.1.2.2.1, ⟨hk.1.2.2.2.1, hk.1.2.2.2.2⟩⟩)⟩, ⟨by (iterate 3 ((with_reducible repeat (first | refine blk_drewN ?_ _ | refine blk_drew ?_ | refine blk_alloc ?_ _)); refine blk_far ?_ bl.out _)); (with_reducible repeat (first | refine blk_drewN ?_ _ | refine blk_drew ?_ | refine blk_alloc ?_ _)); exact bf.out⟩, ⟨by (iterate 3 ((with_reducible repeat (first | refine blk_drewN ?_ _ | refine blk_drew ?_ | refine blk_alloc ?_ _)); refine blk_far ?_ bu.out _)); (with_reducible repeat (first | refine blk_drewN ?_ _ | refine blk_drew ?_ | refine blk_alloc ?_ _)); exact bg.out⟩, ⟨by (with_reducible repeat (first | refine blk_drewN ?_ _ | refine blk_drew ?_ | refine blk_alloc ?_ _)); refine blk_put (cs := #[.int .u64 bO, .int .u64 bU, .slice none 0 0]) ?_ 2 _ rfl; (with_reducible repeat (first | refine blk_drewN ?_ _ | refine blk_drew ?_ | refine blk_alloc ?_ _)); refine blk_put (cs := #[.int .u64 bO, .int .u64 0, .slice none 0 0]) ?_ 1 _ rfl; (with_reducible repeat (first | refine blk_drewN ?_ _ | refine blk_drew ?_ | refine blk_alloc ?_ _)); refine blk_put (cs := #[.int .u64 0, .int .u64 0, .slice none 0 0]) ?_ 0 _ rfl; (with_reducible repeat (first | refine blk_drewN ?_ _ | refine blk_drew ?_ | refine blk_alloc ?_ _)); exact bC.out⟩, ⟨by repeat (first | (with_reducible first | exact HB.out | apply below_alloc | apply pw_below_drewN | apply below_drew1 | refine below_set ?_ df.out | refine below_set ?_ dm.out | refine below_set ?_ bH.out) | exact HB.out)⟩⟩
 case round =>
  clear H'
  (try clear c1); (try clear p2); (try clear c4); (try clear c10); (try clear c11)
  obtain ⟨bd, rfl, HA, HK1, bn, bw, bf, bg, bC, HB⟩ := hrel
  cases gk with
  | zero => exact absurd HA.out (by simp [postroomlaw10_LedgerCounts.l0])
  | succ k1 => ?_
  have H := HA.out
  clear HA
  simp only [postroomlaw10_LedgerCounts.l0] at H
  by_cases c36 : bd < (bb.length : Int)
  case neg =>
   rw [if_neg c36] at H
   have mE : decide (bd < (bb.length : Int)) = false := decide_eq_false c36
   clear c36
   by_cases ms : bO ≥ br
   case neg =>
    rw [if_neg ms] at H
    exact absurd H (by simp)
   rw [if_pos ms] at H
   have sr : decide (br ≤ bO) = true := decide_eq_true ms
   clear ms
   obtain rfl := Option.some.inj H
   have q5 := ga.out
   have qR := dO.out
   have q2 := bu.out
   have qQ := bx.out
   obtain ⟨oA, oz, oy, oa, m9, m8⟩ := cx26_bc3 bg.out
   have q1 := bA.out
   have qP := bl.out
   obtain ⟨ox, ow, ov, m7, m6, m5⟩ := cx26_bc3 bC.out
   go_wp2
   go_ret
   exact ⟨by first | rfl | (simp [errW_none, errW_some] <;> rfl) | (simp [*, errW_none, errW_some] <;> rfl), by repeat (first | (with_reducible first | exact HB.out | apply below_alloc | apply pw_below_drewN | apply below_drew1 | refine below_set ?_ df.out | refine below_set ?_ dm.out | refine below_set ?_ bH.out) | exact HB.out)⟩
  rw [if_pos c36] at H
  have mE : decide (bd < (bb.length : Int)) = true := decide_eq_true c36
  clear c36
  by_cases c37 : 0 ≤ bd
  case neg =>
   rw [if_neg c37] at H
   exact absurd H (by simp)
  rw [if_pos c37] at H
  have qb : decide (0 ≤ bd) = true := decide_eq_true c37
  clear c37
  replace H := Option.bind_eq_some_iff.mp H
  obtain ⟨bK, qq, H⟩ := H
  replace H : (if (IntKind.u64.wrap ((IntKind.u64.wrap ((IntKind.u64.wrap (((rd_T37 bb bd).f4) + ((rd_T37 bb bd).f5))) + ((rd_T37 bb bd).f6))) + (IntKind.u64.wrap ((bK.length : Int))))) = (IntKind.u64.wrap (bp - ((rd_T37 bb bd).f1))) then (postroomlaw10_LedgerCounts.l1 k1 bd bK 0 br bp bb bO bU bM ((rd_T37 bb bd).f0) ((rd_T37 bb bd).f1) ((rd_T37 bb bd).f2) ((rd_T37 bb bd).f3) ((rd_T37 bb bd).f4) ((rd_T37 bb bd).f5) ((rd_T37 bb bd).f6)) else (none)) = some r := H
  have A38 := Aside0.mk qq
  clear qq
  by_cases c39 : (IntKind.u64.wrap ((IntKind.u64.wrap ((IntKind.u64.wrap (((rd_T37 bb bd).f4) + ((rd_T37 bb bd).f5))) + ((rd_T37 bb bd).f6))) + (IntKind.u64.wrap ((bK.length : Int))))) = (IntKind.u64.wrap (bp - ((rd_T37 bb bd).f1)))
  case neg =>
   rw [if_neg c39] at H
   exact absurd H (by simp)
  rw [if_pos c39] at H
  have qa : ((IntKind.u64.wrap ((IntKind.u64.wrap ((IntKind.u64.wrap (((rd_T37 bb bd).f4) + ((rd_T37 bb bd).f5))) + ((rd_T37 bb bd).f6))) + (IntKind.u64.wrap ((bK.length : Int))))) == (IntKind.u64.wrap (bp - ((rd_T37 bb bd).f1)))) = true := beq_iff_eq.mpr c39
  have o9 : ((IntKind.u64.wrap ((IntKind.u64.wrap ((IntKind.u64.wrap (((rd_T37 bb bd).f4) + ((rd_T37 bb bd).f5))) + ((rd_T37 bb bd).f6))) + (IntKind.u64.wrap ((bK.length : Int))))) != (IntKind.u64.wrap (bp - ((rd_T37 bb bd).f1)))) = false := bne_eq_false_iff_eq.mpr c39
  clear c39
  have H' := Aside0.mk H
  clear H
  have sX := ga.out
  have sI := dO.out
  have sW := bu.out
  have sH := bx.out
  obtain ⟨mo, mm, ml, jw, jv, ju⟩ := cx26_bc3 bg.out
  have gX : 0 ≤ (bd : Int) := of_decide_eq_true zx26_11
  have gW : bd < (bb.length : Int) := of_decide_eq_true zx26_11
  obtain ⟨b0, bP, bR, so, hx, hw, hv, gO, hu, ht, hs, gP, gQ⟩ := at_T37 (Kd.V_reads' bn.out).2.2 bd gX gW
  cases so
  obtain ⟨vf, mS, mT, gZ⟩ := Kd.V_get bn.out z37 bd gX (by first | exact gW | exact of_decide_eq_true zx26_11 | (have e_ := (Kd.V_reads' bn.out).1; omega))
  obtain ⟨qt, qs, rfl, gj, go⟩ := k37_openF mT
  have ge := gZ 3 _ rfl
  rw [add_field _ _ 3 (by omega)] at ge
  replace ge := Option.some.inj (ge.symm.trans gO)
  injection ge with hva_ hvn_ hvc_
  rw [hva_] at go
  rw [hvc_] at gj
  have gf := Aside0.mk (show Kd.V (Kd.int .u64) 24 _ w.heap.size _ _ ((rd_T37 bb bd).f3) from Kd.V_mk gj go)
  clear hva_ hvn_ hvc_ go gj
  clear gZ mS
  have bN := Aside0.mk gQ
  have qM := Aside0.mk gP
  clear gQ gP
  replace gX := eq_true gX
  replace gW := eq_true gW
  go_wp2_with (first | ((with_reducible refine gate_dst (N := 9) rfl ?_); (try (refine gate_guard (by rfl) ?_; dsimp only)); refine box_event ?hg (N := 9) ?hd (cs := #[.string (⟨#[]⟩ : ByteArray), .int .u64 0, .int .u64 0, .slice none 0 0, .int .u64 0, .int .u64 0, .int .u64 0]) (t := 37) ?hr ?_; (case hd => rfl); (case hg => rfl); (case hr => first | (go_simp; done) | (go_simp; rfl)); intro bo hg w43 hbox hb; replace bn := Aside0.mk (Kd.V_below (Kd.V_elderB zx26_20 bo (Nat.le_of_eq hg.symm)) hb); replace bw := Aside0.mk (Kd.V_below (Kd.V_elderB zx26_21 bo (Nat.le_of_eq hg.symm)) hb); replace gf := Aside0.mk (Kd.V_below (Kd.V_elderB (by (with_reducible repeat (first | apply Kd.V_alloc | apply Kd.V_drewN | apply Kd.V_drew)); exact gf.out) bo (Nat.le_of_eq hg.symm)) hb); replace bN := Aside0.mk (Kd.C_below zx26_13 hb); have bm := Aside0.mk (hbox); have vo := Aside0.mk ((by rw [hg]; exact (below_size zx26_3) : w.heap.size ≤ bo)); have dT := Aside0.mk ((by rw [hg]; exact (below_size zx26_3) : w.heap.size ≤ bo)); replace HB := Aside0.mk (below_step zx26_3 hb); have dN := Aside0.mk ((by rw [hg]; exact Nat.ne_of_lt (blk_lt (g := ba) (o := .cells #[.int .i64 bk, .int .i64 bj, .int .i64 bi, .int .i64 bh] 43 (0, 0)) zx26_0) : ba ≠ bo)); have d9 := Aside0.mk ((by rw [hg]; exact Nat.ne_of_gt (blk_lt (g := ba) (o := .cells #[.int .i64 bk, .int .i64 bj, .int .i64 bi, .int .i64 bh] 43 (0, 0)) zx26_0) : bo ≠ ba)); replace bf := Aside0.mk (blk_below (g := ba) (o := .cells #[.int .i64 bk, .int .i64 bj, .int .i64 bi, .int .i64 bh] 43 (0, 0)) zx26_0 hb); have dM := Aside0.mk ((by rw [hg]; exact Nat.ne_of_lt (blk_lt (g := bc) (o := .cells #[.int .u64 br, .int .u64 bp, .slice (some b0) bb.length bq] 27 (0, 0)) zx26_2) : bc ≠ bo)); have d8 := Aside0.mk ((by rw [hg]; exact Nat.ne_of_gt (blk_lt (g := bc) (o := .cells #[.int .u64 br, .int .u64 bp, .slice (some b0) bb.length bq] 27 (0, 0)) zx26_2) : bo ≠ bc)); replace bg := Aside0.mk (blk_below (g := bc) (o := .cells #[.int .u64 br, .int .u64 bp, .slice (some b0) bb.length bq] 27 (0, 0)) zx26_2 hb); have dL := Aside0.mk ((by rw [hg]; exact Nat.ne_of_lt (blk_lt (g := be) (o := .cells #[.int .u64 bO, .int .u64 bU, .slice de bM.length dc] 27 (0, 0)) zx26_5) : be ≠ bo)); have d7 := Aside0.mk ((by rw [hg]; exact Nat.ne_of_gt (blk_lt (g := be) (o := .cells #[.int .u64 bO, .int .u64 bU, .slice de bM.length dc] 27 (0, 0)) zx26_5) : bo ≠ be)); replace bC := Aside0.mk (blk_below (g := be) (o := .cells #[.int .u64 bO, .int .u64 bU, .slice de bM.length dc] 27 (0, 0)) zx26_5 hb); clear hb hbox hg; have sV := d9.out; have sG := dN.out; have sU := d8.out; have sF := dM.out; have sT := d7.out; have sE := dL.out; have mj : w43.cell? ⟨bo, 0, none⟩ = some (.string (⟨#[]⟩ : ByteArray)) := (blk_cell bm.out 0).trans rfl; have mi : w43.cell? ⟨bo, 1, none⟩ = some (.int .u64 0) := (blk_cell bm.out 1).trans rfl; have mh : w43.cell? ⟨bo, 2, none⟩ = some (.int .u64 0) := (blk_cell bm.out 2).trans rfl; have mg : w43.cell? ⟨bo, 3, none⟩ = some (.slice none 0 0) := (blk_cell bm.out 3).trans rfl; have mf : w43.cell? ⟨bo, 4, none⟩ = some (.int .u64 0) := (blk_cell bm.out 4).trans rfl; have me : w43.cell? ⟨bo, 5, none⟩ = some (.int .u64 0) := (blk_cell bm.out 5).trans rfl; have md : w43.cell? ⟨bo, 6, none⟩ = some (.int .u64 0) := (blk_cell bm.out 6).trans rfl; have jt := blk_frozen bm.out 0; have js := blk_frozen bm.out 1; have jr := blk_frozen bm.out 2; have jq := blk_frozen bm.out 3; have jp := blk_frozen bm.out 4; have jo := blk_frozen bm.out 5; have jn := blk_frozen bm.out 6; have mc : w43.cell? ⟨bc, 0, none⟩ = some (.int .u64 br) := (blk_cell bg.out 0).trans rfl; have mb : w43.cell? ⟨bc, 1, none⟩ = some (.int .u64 bp) := (blk_cell bg.out 1).trans rfl; have ma : w43.cell? ⟨bc, 2, none⟩ = some (.slice (some b0) bb.length bq) := (blk_cell bg.out 2).trans rfl; have jm := blk_frozen bg.out 0; have jl := blk_frozen bg.out 1; have jk := blk_frozen bg.out 2) | ((with_reducible refine gate_callee (f := 18) rfl ?_); refine goesL_ (some 49) rfl rfl Tryd.func18 (by kernel_rfl) rfl #[.agg #[.int .u64 br, .int .u64 bp, .slice (some b0) bb.length bq], .string ((rd_T37 bb bd).f0)] rfl zx26_9 ?_; (with_reducible refine (ledger_Pending.calls k1 br bp _ _ bb ((rd_T37 bb bd).f0) bK _ ?side1 ?side2 A38.out).mono ?_); (case side1 => refine (Kd.V_reads' (e := 37) (base := w.heap.size) (ok := fun k_ => ((k_ ≠ ba ∧ (k_ ≠ bc ∧ k_ ≠ be)) ∧ k_ ≠ bo)) (n := bb.length) (c := bq) ?_).2.2; exact zx26_18); (case side2 => exact (Kd.V_reads' bn.out).2.1); rintro e w49 ⟨vx, rfl, ho0, hb⟩; refine ⟨_, rfl, ?_⟩; replace bn := Aside0.mk (Kd.V_elder' zx26_18 (Kd.R_base ho0) hb); replace bw := Aside0.mk (Kd.V_elder' (by (with_reducible repeat (first | apply Kd.V_alloc | apply Kd.V_drewN | apply Kd.V_drew)); exact (Kd.V_mono (Kd.V_far (p := ⟨bo, 6, none⟩) (Kd.V_far (p := ⟨bo, 5, none⟩) (Kd.V_far (p := ⟨bo, 4, none⟩) (Kd.V_far (p := ⟨bo, 3, none⟩) (Kd.V_far (p := ⟨bo, 2, none⟩) (Kd.V_far (p := ⟨bo, 1, none⟩) (Kd.V_far (p := ⟨bo, 0, none⟩) (Kd.V_mono bw.out (fun k_ hk => (⟨hk, hk.2⟩ : _ ∧ k_ ≠ bo))) (fun _ hk => hk.2) (.string ((rd_T37 bb bd).f0))) (fun _ hk => hk.2) (.int .u64 ((rd_T37 bb bd).f1))) (fun _ hk => hk.2) (.int .u64 ((rd_T37 bb bd).f2))) (fun _ hk => hk.2) (.slice bP ((rd_T37 bb bd).f3).length bR)) (fun _ hk => hk.2) (.int .u64 ((rd_T37 bb bd).f4))) (fun _ hk => hk.2) (.int .u64 ((rd_T37 bb bd).f5))) (fun _ hk => hk.2) (.int .u64 ((rd_T37 bb bd).f6))) (fun _ h_ => h_.1))) (Kd.R_base ho0) hb); have mH := Aside0.mk (Kd.R_lower ho0 (below_size zx26_6)); replace bf := Aside0.mk (blk_below (g := ba) (o := .cells #[.int .i64 bk, .int .i64 bj, .int .i64 bi, .int .i64 bh] 43 (0, 0)) (by (iterate 7 ((with_reducible repeat (first | refine blk_drewN ?_ _ | refine blk_drew ?_ | refine blk_alloc ?_ _)); refine blk_far ?_ dN.out _)); (with_reducible repeat (first | refine blk_drewN ?_ _ | refine blk_drew ?_ | refine blk_alloc ?_ _)); exact bf.out) hb); replace bg := Aside0.mk (blk_below (g := bc) (o := .cells #[.int .u64 br, .int .u64 bp, .slice (some b0) bb.length bq] 27 (0, 0)) (by (iterate 7 ((with_reducible repeat (first | refine blk_drewN ?_ _ | refine blk_drew ?_ | refine blk_alloc ?_ _)); refine blk_far ?_ dM.out _)); (with_reducible repeat (first | refine blk_drewN ?_ _ | refine blk_drew ?_ | refine blk_alloc ?_ _)); exact bg.out) hb); replace bC := Aside0.mk (blk_below (g := be) (o := .cells #[.int .u64 bO, .int .u64 bU, .slice de bM.length dc] 27 (0, 0)) (by (iterate 7 ((with_reducible repeat (first | refine blk_drewN ?_ _ | refine blk_drew ?_ | refine blk_alloc ?_ _)); refine blk_far ?_ dL.out _)); (with_reducible repeat (first | refine blk_drewN ?_ _ | refine blk_drew ?_ | refine blk_alloc ?_ _)); exact bC.out) hb); replace bN := Aside0.mk (Kd.C_below ((Kd.V_reads' zx26_19).2.2) hb); replace gf := Aside0.mk (Kd.V_elder' zx26_19 (Kd.R_base ho0) hb); replace bm := Aside0.mk (blk_below (g := bo) (o := .cells #[.string ((rd_T37 bb bd).f0), .int .u64 ((rd_T37 bb bd).f1), .int .u64 ((rd_T37 bb bd).f2), .slice bP ((rd_T37 bb bd).f3).length bR, .int .u64 ((rd_T37 bb bd).f4), .int .u64 ((rd_T37 bb bd).f5), .int .u64 ((rd_T37 bb bd).f6)] 37 (0, 0)) (by (with_reducible repeat (first | refine blk_drewN ?_ _ | refine blk_drew ?_ | refine blk_alloc ?_ _)); refine blk_put (cs := #[.string ((rd_T37 bb bd).f0), .int .u64 ((rd_T37 bb bd).f1), .int .u64 ((rd_T37 bb bd).f2), .slice bP ((rd_T37 bb bd).f3).length bR, .int .u64 ((rd_T37 bb bd).f4), .int .u64 ((rd_T37 bb bd).f5), .int .u64 0]) ?_ 6 _ rfl; (with_reducible repeat (first | refine blk_drewN ?_ _ | refine blk_drew ?_ | refine blk_alloc ?_ _)); refine blk_put (cs := #[.string ((rd_T37 bb bd).f0), .int .u64 ((rd_T37 bb bd).f1), .int .u64 ((rd_T37 bb bd).f2), .slice bP ((rd_T37 bb bd).f3).length bR, .int .u64 ((rd_T37 bb bd).f4), .int .u64 0, .int .u64 0]) ?_ 5 _ rfl; (with_reducible repeat (first | refine blk_drewN ?_ _ | refine blk_drew ?_ | refine blk_alloc ?_ _)); refine blk_put (cs := #[.string ((rd_T37 bb bd).f0), .int .u64 ((rd_T37 bb bd).f1), .int .u64 ((rd_T37 bb bd).f2), .slice bP ((rd_T37 bb bd).f3).length bR, .int .u64 0, .int .u64 0, .int .u64 0]) ?_ 4 _ rfl; (with_reducible repeat (first | refine blk_drewN ?_ _ | refine blk_drew ?_ | refine blk_alloc ?_ _)); refine blk_put (cs := #[.string ((rd_T37 bb bd).f0), .int .u64 ((rd_T37 bb bd).f1), .int .u64 ((rd_T37 bb bd).f2), .slice none 0 0, .int .u64 0, .int .u64 0, .int .u64 0]) ?_ 3 _ rfl; (with_reducible repeat (first | refine blk_drewN ?_ _ | refine blk_drew ?_ | refine blk_alloc ?_ _)); refine blk_put (cs := #[.string ((rd_T37 bb bd).f0), .int .u64 ((rd_T37 bb bd).f1), .int .u64 0, .slice none 0 0, .int .u64 0, .int .u64 0, .int .u64 0]) ?_ 2 _ rfl; (with_reducible repeat (first | refine blk_drewN ?_ _ | refine blk_drew ?_ | refine blk_alloc ?_ _)); refine blk_put (cs := #[.string ((rd_T37 bb bd).f0), .int .u64 0, .int .u64 0, .slice none 0 0, .int .u64 0, .int .u64 0, .int .u64 0]) ?_ 1 _ rfl; (with_reducible repeat (first | refine blk_drewN ?_ _ | refine blk_drew ?_ | refine blk_alloc ?_ _)); refine blk_put (cs := #[.string (⟨#[]⟩ : ByteArray), .int .u64 0, .int .u64 0, .slice none 0 0, .int .u64 0, .int .u64 0, .int .u64 0]) ?_ 0 _ rfl; (with_reducible repeat (first | refine blk_drewN ?_ _ | refine blk_drew ?_ | refine blk_alloc ?_ _)); exact bm.out) hb); replace HB := Aside0.mk (below_step zx26_6 hb); (try clear hb); (try clear hb2); (try clear hk); (try clear hi); (try clear ho0); have j9 : w49.cell? ⟨bo, 0, none⟩ = some (.string ((rd_T37 bb bd).f0)) := (blk_cell bm.out 0).trans rfl; have j8 : w49.cell? ⟨bo, 1, none⟩ = some (.int .u64 ((rd_T37 bb bd).f1)) := (blk_cell bm.out 1).trans rfl; have j7 : w49.cell? ⟨bo, 2, none⟩ = some (.int .u64 ((rd_T37 bb bd).f2)) := (blk_cell bm.out 2).trans rfl; have j6 : w49.cell? ⟨bo, 3, none⟩ = some (.slice bP ((rd_T37 bb bd).f3).length bR) := (blk_cell bm.out 3).trans rfl; have j5 : w49.cell? ⟨bo, 4, none⟩ = some (.int .u64 ((rd_T37 bb bd).f4)) := (blk_cell bm.out 4).trans rfl; have j4 : w49.cell? ⟨bo, 5, none⟩ = some (.int .u64 ((rd_T37 bb bd).f5)) := (blk_cell bm.out 5).trans rfl; have j3 : w49.cell? ⟨bo, 6, none⟩ = some (.int .u64 ((rd_T37 bb bd).f6)) := (blk_cell bm.out 6).trans rfl; have jj := blk_frozen bm.out 0; have ji := blk_frozen bm.out 1; have jh := blk_frozen bm.out 2; have jg := blk_frozen bm.out 3; have jf := blk_frozen bm.out 4; have je := blk_frozen bm.out 5; have jd := blk_frozen bm.out 6; obtain ⟨mv, mq, sg⟩ := Kd.R_slice mH.out; subst sg; have j2 : w49.cell? ⟨bc, 0, none⟩ = some (.int .u64 br) := (blk_cell bg.out 0).trans rfl; have jZ : w49.cell? ⟨bc, 1, none⟩ = some (.int .u64 bp) := (blk_cell bg.out 1).trans rfl; have jY : w49.cell? ⟨bc, 2, none⟩ = some (.slice (some b0) bb.length bq) := (blk_cell bg.out 2).trans rfl; have jc := blk_frozen bg.out 0; have jb := blk_frozen bg.out 1; have ja := blk_frozen bg.out 2))
  go_loopg [11] k1 (fun kq v11 w' => ∃ (bD : Int), v11 = .int .i64 bD ∧ Aside0 (postroomlaw10_LedgerCounts.l1 kq bd bK bD br bp bb bO bU bM ((rd_T37 bb bd).f0) ((rd_T37 bb bd).f1) ((rd_T37 bb bd).f2) ((rd_T37 bb bd).f3) ((rd_T37 bb bd).f4) ((rd_T37 bb bd).f5) ((rd_T37 bb bd).f6) = some r) ∧ Aside0 (kq ≤ k1) ∧ Aside0 (Kd.R (Kd.int .u64) 24 w' w.heap.size (fun _ => True) (.slice mv bK.length mq) bK) ∧ Aside0 (Kd.V k37 37 w' w.heap.size (fun k_ => some k_ ≠ ((.slice mv bK.length mq) : Value).ownBlock ∧ k_ ≠ ba ∧ k_ ≠ bc ∧ k_ ≠ be ∧ k_ ≠ bo) (.slice (some b0) bb.length bq) bb) ∧ Aside0 (Kd.V k37 37 w' w.heap.size (fun k_ => some k_ ≠ ((.slice mv bK.length mq) : Value).ownBlock ∧ k_ ≠ ba ∧ k_ ≠ bc ∧ k_ ≠ be ∧ k_ ≠ bo) (.slice de bM.length dc) bM) ∧ Aside0 (w'.heap[ba]? = some (.cells #[.int .i64 bk, .int .i64 bj, .int .i64 bi, .int .i64 bh] 43 (0, 0))) ∧ Aside0 (w'.heap[bc]? = some (.cells #[.int .u64 br, .int .u64 bp, (.slice (some b0) bb.length bq)] 27 (0, 0))) ∧ Aside0 (w'.heap[be]? = some (.cells #[.int .u64 bO, .int .u64 bU, (.slice de bM.length dc)] 27 (0, 0))) ∧ Aside0 (w'.heap[bo]? = some (.cells #[.string ((rd_T37 bb bd).f0), .int .u64 ((rd_T37 bb bd).f1), .int .u64 ((rd_T37 bb bd).f2), (.slice bP ((rd_T37 bb bd).f3).length bR), .int .u64 ((rd_T37 bb bd).f4), .int .u64 ((rd_T37 bb bd).f5), .int .u64 ((rd_T37 bb bd).f6)] 37 (0, 0))) ∧ Aside0 (Kd.C (Kd.int .u64) w' bP ((rd_T37 bb bd).f3).length ((rd_T37 bb bd).f3)) ∧ Aside0 (Below w.heap.size w w'))
  case atStart => exact ⟨(0), zx26_32, H', ⟨Nat.le_refl _⟩, ⟨by (with_reducible repeat (first | apply Kd.R_alloc | apply Kd.R_drewN | apply Kd.R_drew)); exact mH.out⟩, ⟨by (with_reducible repeat (first | apply Kd.V_alloc | apply Kd.V_drewN | apply Kd.V_drew)); exact Kd.V_mono bn.out (fun _ hk => ⟨hk.2, ⟨hk.1.1.1, ⟨hk.1.1.2.1, ⟨hk.1.1.2.2, hk.1.2⟩⟩⟩⟩)⟩, ⟨by (with_reducible repeat (first | apply Kd.V_alloc | apply Kd.V_drewN | apply Kd.V_drew)); exact Kd.V_mono bw.out (fun _ hk => ⟨hk.2, ⟨hk.1.1.1, ⟨hk.1.1.2.1, ⟨hk.1.1.2.2, hk.1.2⟩⟩⟩⟩)⟩, ⟨by (with_reducible repeat (first | refine blk_drewN ?_ _ | refine blk_drew ?_ | refine blk_alloc ?_ _)); exact bf.out⟩, ⟨by (with_reducible repeat (first | refine blk_drewN ?_ _ | refine blk_drew ?_ | refine blk_alloc ?_ _)); exact bg.out⟩, ⟨by (with_reducible repeat (first | refine blk_drewN ?_ _ | refine blk_drew ?_ | refine blk_alloc ?_ _)); exact bC.out⟩, ⟨by (with_reducible repeat (first | refine blk_drewN ?_ _ | refine blk_drew ?_ | refine blk_alloc ?_ _)); exact bm.out⟩, ⟨by repeat (first | (with_reducible exact bN.out) | (with_reducible refine Kd.C_alloc ?_ _) | (with_reducible refine Kd.C_drewN ?_ _) | (with_reducible refine Kd.C_drew ?_) | exact bN.out)⟩, ⟨by repeat (first | (with_reducible first | exact HB.out | apply below_alloc | apply pw_below_drewN | apply below_drew1 | refine below_set ?_ df.out | refine below_set ?_ dm.out | refine below_set ?_ bH.out | refine below_set ?_ dT.out) | exact HB.out)⟩⟩
  case round =>
   clear H'
   (try clear c1); (try clear p2); (try clear c3); (try clear p3); (try clear q3); (try clear hx3); (try clear c4); (try clear c10); (try clear c11); (try clear c18); (try clear c36); (try clear mE); (try clear c37); (try clear qb); (try clear c39); (try clear qa); (try clear o9); (try clear p39); (try clear q39); (try clear qO); (try clear c40); (try clear c41); (try clear c44); (try clear c45); (try clear c46); (try clear mo); (try clear mm); (try clear ml); (try clear mj); (try clear mi); (try clear mh); (try clear mg); (try clear mf); (try clear me); (try clear md); (try clear mc); (try clear mb); (try clear ma); (try clear j9); (try clear j8); (try clear j7); (try clear j6); (try clear j5); (try clear j4); (try clear j3); (try clear j2); (try clear jZ); (try clear jY); (try clear jw); (try clear jv); (try clear ju); (try clear jt); (try clear js); (try clear jr); (try clear jq); (try clear jp); (try clear jo); (try clear jn); (try clear jm); (try clear jl); (try clear jk); (try clear jj); (try clear ji); (try clear jh); (try clear jg); (try clear jf); (try clear je); (try clear jd); (try clear jc); (try clear jb); (try clear ja); (try clear hx); (try clear hw); (try clear hv); (try clear gO); (try clear hu); (try clear ht); (try clear hs); (try clear p2); (try clear gX); (try clear gW)
   obtain ⟨bD, rfl, HA, HK2, b2, bn, bw, bf, bg, bC, bm, bN, HB⟩ := hrel
   cases gk with
   | zero => exact absurd HA.out (by simp [postroomlaw10_LedgerCounts.l1])
   | succ k2 => ?_
   have H := HA.out
   clear HA
   simp only [postroomlaw10_LedgerCounts.l1] at H
   by_cases c53 : bD < (bK.length : Int)
   case neg =>
    rw [if_neg c53] at H
    have mD : decide (bD < (bK.length : Int)) = false := decide_eq_false c53
    clear c53
    replace H := Option.bind_eq_some_iff.mp H
    obtain ⟨⟨dF, dp, dB, dr, dE, dP, dU, m0⟩, qn, H⟩ := H
    replace H : (if m0 = true then (if dE < ((rd_T37 bb bd).f4) then (none) else (if dP < ((rd_T37 bb bd).f5) then (none) else (if dU < ((rd_T37 bb bd).f6) then (none) else (if dp = ((rd_T37 bb bd).f1) then (if dB < ((rd_T37 bb bd).f2) then (none) else ((ledger_Pending.f k2 bO bU bM ((rd_T37 bb bd).f0)).bind fun dg => (postroomlaw10_LedgerCounts.l2 k2 bd dg 0 br bp bb bO bU bM ((rd_T37 bb bd).f0) ((rd_T37 bb bd).f1) ((rd_T37 bb bd).f2) ((rd_T37 bb bd).f3) ((rd_T37 bb bd).f4) ((rd_T37 bb bd).f5) ((rd_T37 bb bd).f6)))) else (none))))) else (postroomlaw10_LedgerCounts.l0 k2 (wrap64 (bd + 1)) br bp bb bO bU bM)) = some r := H
    have A71 := Aside0.mk qn
    clear qn
    by_cases c72 : m0 = true
    case neg =>
     replace c72 := Bool.eq_false_iff.mpr c72
     subst c72
     have H1 : (postroomlaw10_LedgerCounts.l0 k2 (wrap64 (bd + 1)) br bp bb bO bU bM) = some r := by rw [if_neg (show ¬ (false = true) by decide)] at H; exact H
     clear H
     have H := H1
     clear H1
     have H' := Aside0.mk H
     clear H
     have se := bA.out
     have q0 := bl.out
     have sd := bx.out
     have qZ := bu.out
     have sc := dL.out
     have qY := d7.out
     obtain ⟨oR, oQ, oP, ou, ot, os⟩ := cx26_bc3 bC.out
     have sb := d9.out
     have qX := dN.out
     have sa := d8.out
     have qW := dM.out
     obtain ⟨oO, oN, oM, oL, oK, oJ, oI, oq, op, oo, on, om, ol, oj⟩ := cx26_bc7 bm.out
     go_wp2_with (first | ((with_reducible refine gate_callee (f := 17) rfl ?_); refine goesL_ (some 130) rfl rfl Tryd.func17 (by kernel_rfl) rfl #[.agg #[.int .u64 bO, .int .u64 bU, .slice de bM.length dc], .string ((rd_T37 bb bd).f0)] rfl zx26_9 ?_; (with_reducible refine (ledger_Find.calls bO bU _ _ bM ((rd_T37 bb bd).f0) dF dp dB dr dE dP dU false _ ?side1 ?side2 A71.out).mono ?_); (case side1 => repeat (first | exact (Kd.V_reads' bw.out).2.2 | (with_reducible refine Kd.C_alloc ?_ _) | (with_reducible refine Kd.C_drewN ?_ _) | (with_reducible refine Kd.C_drew ?_))); (case side2 => exact (Kd.V_reads' bw.out).2.1); rintro e vt ⟨qN, rfl, ho0, hb⟩; refine ⟨_, rfl, ?_⟩; replace bn := Aside0.mk (Kd.V_elder' zx26_20 (Kd.R_base ho0) hb); replace bw := Aside0.mk (Kd.V_elder' zx26_21 (Kd.R_base ho0) hb); have dR := Aside0.mk (Kd.R_lower (Kd.R_new' ho0 (Kd.R_lt zx26_22)) (below_size zx26_6)); replace b2 := Aside0.mk (Kd.R_elder' zx26_22 (Kd.R_base ho0) hb); replace bf := Aside0.mk (blk_below (g := ba) (o := .cells #[.int .i64 bk, .int .i64 bj, .int .i64 bi, .int .i64 bh] 43 (0, 0)) zx26_0 hb); replace bg := Aside0.mk (blk_below (g := bc) (o := .cells #[.int .u64 br, .int .u64 bp, .slice (some b0) bb.length bq] 27 (0, 0)) zx26_2 hb); replace bC := Aside0.mk (blk_below (g := be) (o := .cells #[.int .u64 bO, .int .u64 bU, .slice de bM.length dc] 27 (0, 0)) zx26_5 hb); replace bm := Aside0.mk (blk_below (g := bo) (o := .cells #[.string ((rd_T37 bb bd).f0), .int .u64 ((rd_T37 bb bd).f1), .int .u64 ((rd_T37 bb bd).f2), .slice bP ((rd_T37 bb bd).f3).length bR, .int .u64 ((rd_T37 bb bd).f4), .int .u64 ((rd_T37 bb bd).f5), .int .u64 ((rd_T37 bb bd).f6)] 37 (0, 0)) zx26_14 hb); replace bN := Aside0.mk (Kd.C_below zx26_13 hb); replace HB := Aside0.mk (below_step zx26_6 hb); (try clear hb); (try clear hb2); (try clear hk); (try clear hi); (try clear ho0)) | ((with_reducible refine gate_dst (N := 12) rfl ?_); (try (refine gate_guard (by rfl) ?_; dsimp only)); refine box_event ?hg (N := 12) ?hd (cs := #[.string (⟨#[]⟩ : ByteArray), .int .u64 0, .int .u64 0, .slice none 0 0, .int .u64 0, .int .u64 0, .int .u64 0]) (t := 37) ?hr ?_; (case hd => rfl); (case hg => rfl); (case hr => first | (go_simp; done) | (go_simp; rfl)); intro bz hg gG hbox hb; replace b2 := Aside0.mk (Kd.R_below zx26_22 hb); replace bn := Aside0.mk (Kd.V_below (Kd.V_elderB zx26_20 bz (Nat.le_of_eq hg.symm)) hb); replace bw := Aside0.mk (Kd.V_below (Kd.V_elderB zx26_21 bz (Nat.le_of_eq hg.symm)) hb); replace dR := Aside0.mk (Kd.R_below (by (with_reducible repeat (first | apply Kd.R_alloc | apply Kd.R_drewN | apply Kd.R_drew)); exact dR.out) hb); replace bN := Aside0.mk (Kd.C_below zx26_13 hb); have bI := Aside0.mk (hbox); have qk := Aside0.mk ((by rw [hg]; exact (below_size zx26_6) : w.heap.size ≤ bz)); have gh := Aside0.mk ((by rw [hg]; exact (below_size zx26_6) : w.heap.size ≤ bz)); replace HB := Aside0.mk (below_step zx26_6 hb); have dw := Aside0.mk ((by rw [hg]; exact Nat.ne_of_lt (blk_lt (g := ba) (o := .cells #[.int .i64 bk, .int .i64 bj, .int .i64 bi, .int .i64 bh] 43 (0, 0)) zx26_0) : ba ≠ bz)); have d6 := Aside0.mk ((by rw [hg]; exact Nat.ne_of_gt (blk_lt (g := ba) (o := .cells #[.int .i64 bk, .int .i64 bj, .int .i64 bi, .int .i64 bh] 43 (0, 0)) zx26_0) : bz ≠ ba)); replace bf := Aside0.mk (blk_below (g := ba) (o := .cells #[.int .i64 bk, .int .i64 bj, .int .i64 bi, .int .i64 bh] 43 (0, 0)) zx26_0 hb); have dv := Aside0.mk ((by rw [hg]; exact Nat.ne_of_lt (blk_lt (g := bc) (o := .cells #[.int .u64 br, .int .u64 bp, .slice (some b0) bb.length bq] 27 (0, 0)) zx26_2) : bc ≠ bz)); have d5 := Aside0.mk ((by rw [hg]; exact Nat.ne_of_gt (blk_lt (g := bc) (o := .cells #[.int .u64 br, .int .u64 bp, .slice (some b0) bb.length bq] 27 (0, 0)) zx26_2) : bz ≠ bc)); replace bg := Aside0.mk (blk_below (g := bc) (o := .cells #[.int .u64 br, .int .u64 bp, .slice (some b0) bb.length bq] 27 (0, 0)) zx26_2 hb); have du := Aside0.mk ((by rw [hg]; exact Nat.ne_of_lt (blk_lt (g := be) (o := .cells #[.int .u64 bO, .int .u64 bU, .slice de bM.length dc] 27 (0, 0)) zx26_5) : be ≠ bz)); have d4 := Aside0.mk ((by rw [hg]; exact Nat.ne_of_gt (blk_lt (g := be) (o := .cells #[.int .u64 bO, .int .u64 bU, .slice de bM.length dc] 27 (0, 0)) zx26_5) : bz ≠ be)); replace bC := Aside0.mk (blk_below (g := be) (o := .cells #[.int .u64 bO, .int .u64 bU, .slice de bM.length dc] 27 (0, 0)) zx26_5 hb); have dK := Aside0.mk ((by rw [hg]; exact Nat.ne_of_lt (blk_lt (g := bo) (o := .cells #[.string ((rd_T37 bb bd).f0), .int .u64 ((rd_T37 bb bd).f1), .int .u64 ((rd_T37 bb bd).f2), .slice bP ((rd_T37 bb bd).f3).length bR, .int .u64 ((rd_T37 bb bd).f4), .int .u64 ((rd_T37 bb bd).f5), .int .u64 ((rd_T37 bb bd).f6)] 37 (0, 0)) zx26_14) : bo ≠ bz)); have d3 := Aside0.mk ((by rw [hg]; exact Nat.ne_of_gt (blk_lt (g := bo) (o := .cells #[.string ((rd_T37 bb bd).f0), .int .u64 ((rd_T37 bb bd).f1), .int .u64 ((rd_T37 bb bd).f2), .slice bP ((rd_T37 bb bd).f3).length bR, .int .u64 ((rd_T37 bb bd).f4), .int .u64 ((rd_T37 bb bd).f5), .int .u64 ((rd_T37 bb bd).f6)] 37 (0, 0)) zx26_14) : bz ≠ bo)); replace bm := Aside0.mk (blk_below (g := bo) (o := .cells #[.string ((rd_T37 bb bd).f0), .int .u64 ((rd_T37 bb bd).f1), .int .u64 ((rd_T37 bb bd).f2), .slice bP ((rd_T37 bb bd).f3).length bR, .int .u64 ((rd_T37 bb bd).f4), .int .u64 ((rd_T37 bb bd).f5), .int .u64 ((rd_T37 bb bd).f6)] 37 (0, 0)) zx26_14 hb); clear hb hbox hg; have q9 := d6.out; have qV := dw.out; have q8 := d5.out; have qU := dv.out; have q7 := d4.out; have qT := du.out; have q6 := d3.out; have qS := dK.out; have oH : gG.cell? ⟨bz, 0, none⟩ = some (.string (⟨#[]⟩ : ByteArray)) := (blk_cell bI.out 0).trans rfl; have oG : gG.cell? ⟨bz, 1, none⟩ = some (.int .u64 0) := (blk_cell bI.out 1).trans rfl; have oF : gG.cell? ⟨bz, 2, none⟩ = some (.int .u64 0) := (blk_cell bI.out 2).trans rfl; have oE : gG.cell? ⟨bz, 3, none⟩ = some (.slice none 0 0) := (blk_cell bI.out 3).trans rfl; have oD : gG.cell? ⟨bz, 4, none⟩ = some (.int .u64 0) := (blk_cell bI.out 4).trans rfl; have oC : gG.cell? ⟨bz, 5, none⟩ = some (.int .u64 0) := (blk_cell bI.out 5).trans rfl; have oB : gG.cell? ⟨bz, 6, none⟩ = some (.int .u64 0) := (blk_cell bI.out 6).trans rfl; have oi := blk_frozen bI.out 0; have oh := blk_frozen bI.out 1; have og := blk_frozen bI.out 2; have oe := blk_frozen bI.out 3; have od := blk_frozen bI.out 4; have oc := blk_frozen bI.out 5; have ob := blk_frozen bI.out 6; obtain ⟨mI, mB, oX⟩ := Kd.R_slice dR.out; subst oX))
     go_roundg k2
     case measure => have := HK1.out; have := HK2.out; omega
     case rel => exact ⟨(wrap64 (bd + 1)), zx26_32, H', ⟨by have := HK1.out; have := HK2.out; omega⟩, ⟨by (with_reducible repeat (first | apply Kd.V_alloc | apply Kd.V_drewN | apply Kd.V_drew)); exact Kd.V_mono (Kd.V_far (p := ⟨bz, 6, none⟩) (Kd.V_far (p := ⟨bz, 5, none⟩) (Kd.V_far (p := ⟨bz, 4, none⟩) (Kd.V_far (p := ⟨bz, 3, none⟩) (Kd.V_far (p := ⟨bz, 2, none⟩) (Kd.V_far (p := ⟨bz, 1, none⟩) (Kd.V_far (p := ⟨bz, 0, none⟩) (Kd.V_mono bn.out (fun k_ hk => (⟨hk, hk.2⟩ : _ ∧ k_ ≠ bz))) (fun _ hk => hk.2) (.string dF)) (fun _ hk => hk.2) (.int .u64 dp)) (fun _ hk => hk.2) (.int .u64 dB)) (fun _ hk => hk.2) (.slice mI dr.length mB)) (fun _ hk => hk.2) (.int .u64 dE)) (fun _ hk => hk.2) (.int .u64 dP)) (fun _ hk => hk.2) (.int .u64 dU)) (fun _ hk => ⟨hk.1.1.1.2.1, ⟨hk.1.1.1.2.2.1, hk.1.1.1.2.2.2.1⟩⟩)⟩, ⟨by (with_reducible repeat (first | apply Kd.V_alloc | apply Kd.V_drewN | apply Kd.V_drew)); exact Kd.V_mono (Kd.V_far (p := ⟨bz, 6, none⟩) (Kd.V_far (p := ⟨bz, 5, none⟩) (Kd.V_far (p := ⟨bz, 4, none⟩) (Kd.V_far (p := ⟨bz, 3, none⟩) (Kd.V_far (p := ⟨bz, 2, none⟩) (Kd.V_far (p := ⟨bz, 1, none⟩) (Kd.V_far (p := ⟨bz, 0, none⟩) (Kd.V_mono bw.out (fun k_ hk => (⟨hk, hk.2⟩ : _ ∧ k_ ≠ bz))) (fun _ hk => hk.2) (.string dF)) (fun _ hk => hk.2) (.int .u64 dp)) (fun _ hk => hk.2) (.int .u64 dB)) (fun _ hk => hk.2) (.slice mI dr.length mB)) (fun _ hk => hk.2) (.int .u64 dE)) (fun _ hk => hk.2) (.int .u64 dP)) (fun _ hk => hk.2) (.int .u64 dU)) (fun _ hk => ⟨hk.1.1.1.2.1, ⟨hk.1.1.1.2.2.1, hk.1.1.1.2.2.2.1⟩⟩)⟩, ⟨by (iterate 7 ((with_reducible repeat (first | refine blk_drewN ?_ _ | refine blk_drew ?_ | refine blk_alloc ?_ _)); refine blk_far ?_ dw.out _)); (with_reducible repeat (first | refine blk_drewN ?_ _ | refine blk_drew ?_ | refine blk_alloc ?_ _)); exact bf.out⟩, ⟨by (iterate 7 ((with_reducible repeat (first | refine blk_drewN ?_ _ | refine blk_drew ?_ | refine blk_alloc ?_ _)); refine blk_far ?_ dv.out _)); (with_reducible repeat (first | refine blk_drewN ?_ _ | refine blk_drew ?_ | refine blk_alloc ?_ _)); exact bg.out⟩, ⟨by (iterate 7 ((with_reducible repeat (first | refine blk_drewN ?_ _ | refine blk_drew ?_ | refine blk_alloc ?_ _)); refine blk_far ?_ du.out _)); (with_reducible repeat (first | refine blk_drewN ?_ _ | refine blk_drew ?_ | refine blk_alloc ?_ _)); exact bC.out⟩, ⟨by repeat (first | (with_reducible first | exact HB.out | apply below_alloc | apply pw_below_drewN | apply below_drew1 | refine below_set ?_ df.out | refine below_set ?_ dm.out | refine below_set ?_ bH.out | refine below_set ?_ dT.out | refine below_set ?_ gh.out) | exact HB.out)⟩⟩
    subst c72
    have H1 : (if dE < ((rd_T37 bb bd).f4) then (none) else (if dP < ((rd_T37 bb bd).f5) then (none) else (if dU < ((rd_T37 bb bd).f6) then (none) else (if dp = ((rd_T37 bb bd).f1) then (if dB < ((rd_T37 bb bd).f2) then (none) else ((ledger_Pending.f k2 bO bU bM ((rd_T37 bb bd).f0)).bind fun dg => (postroomlaw10_LedgerCounts.l2 k2 bd dg 0 br bp bb bO bU bM ((rd_T37 bb bd).f0) ((rd_T37 bb bd).f1) ((rd_T37 bb bd).f2) ((rd_T37 bb bd).f3) ((rd_T37 bb bd).f4) ((rd_T37 bb bd).f5) ((rd_T37 bb bd).f6)))) else (none))))) = some r := by rw [if_pos rfl] at H; exact H
    clear H
    have H := H1
    clear H1
    by_cases c73 : dE < ((rd_T37 bb bd).f4)
    ·rw [if_pos c73] at H
     exact absurd H (by simp)
    rw [if_neg c73] at H
    have o8 : decide (dE < ((rd_T37 bb bd).f4)) = false := decide_eq_false c73
    clear c73
    by_cases c74 : dP < ((rd_T37 bb bd).f5)
    ·rw [if_pos c74] at H
     exact absurd H (by simp)
    rw [if_neg c74] at H
    have o7 : decide (dP < ((rd_T37 bb bd).f5)) = false := decide_eq_false c74
    clear c74
    by_cases c75 : dU < ((rd_T37 bb bd).f6)
    ·rw [if_pos c75] at H
     exact absurd H (by simp)
    rw [if_neg c75] at H
    have o6 : decide (dU < ((rd_T37 bb bd).f6)) = false := decide_eq_false c75
    clear c75
    by_cases c76 : dp = ((rd_T37 bb bd).f1)
    case neg =>
     rw [if_neg c76] at H
     exact absurd H (by simp)
    rw [if_pos c76] at H
    have o5 : (dp == ((rd_T37 bb bd).f1)) = true := beq_iff_eq.mpr c76
    have o4 : (dp != ((rd_T37 bb bd).f1)) = false := bne_eq_false_iff_eq.mpr c76
    clear c76
    by_cases c77 : dB < ((rd_T37 bb bd).f2)
    ·rw [if_pos c77] at H
     exact absurd H (by simp)
    rw [if_neg c77] at H
    have o3 : decide (dB < ((rd_T37 bb bd).f2)) = false := decide_eq_false c77
    clear c77
    replace H := Option.bind_eq_some_iff.mp H
    obtain ⟨dg, qm, H⟩ := H
    replace H : (postroomlaw10_LedgerCounts.l2 k2 bd dg 0 br bp bb bO bU bM ((rd_T37 bb bd).f0) ((rd_T37 bb bd).f1) ((rd_T37 bb bd).f2) ((rd_T37 bb bd).f3) ((rd_T37 bb bd).f4) ((rd_T37 bb bd).f5) ((rd_T37 bb bd).f6)) = some r := H
    have A78 := Aside0.mk qm
    clear qm
    have H' := Aside0.mk H
    clear H
    have sS := bA.out
    have sD := bl.out
    have sR := bx.out
    have sC := bu.out
    have sQ := dL.out
    have sB := d7.out
    obtain ⟨jX, jW, jV, hZ, hY, hX⟩ := cx26_bc3 bC.out
    have sP := d9.out
    have sz := dN.out
    have sO := d8.out
    have sy := dM.out
    obtain ⟨jU, jT, jS, jR, jQ, jP, jO, hW, hV, hU, hT, hS, hR, hQ⟩ := cx26_bc7 bm.out
    go_wp2_with (first | ((with_reducible refine gate_callee (f := 17) rfl ?_); refine goesL_ (some 130) rfl rfl Tryd.func17 (by kernel_rfl) rfl #[.agg #[.int .u64 bO, .int .u64 bU, .slice de bM.length dc], .string ((rd_T37 bb bd).f0)] rfl zx26_9 ?_; (with_reducible refine (ledger_Find.calls bO bU _ _ bM ((rd_T37 bb bd).f0) dF dp dB dr dE dP dU true _ ?side1 ?side2 A71.out).mono ?_); (case side1 => repeat (first | exact (Kd.V_reads' bw.out).2.2 | (with_reducible refine Kd.C_alloc ?_ _) | (with_reducible refine Kd.C_drewN ?_ _) | (with_reducible refine Kd.C_drew ?_))); (case side2 => exact (Kd.V_reads' bw.out).2.1); rintro e w86 ⟨qN, rfl, ho0, hb⟩; refine ⟨_, rfl, ?_⟩; replace bn := Aside0.mk (Kd.V_elder' zx26_20 (Kd.R_base ho0) hb); replace bw := Aside0.mk (Kd.V_elder' zx26_21 (Kd.R_base ho0) hb); have dR := Aside0.mk (Kd.R_lower (Kd.R_new' ho0 (Kd.R_lt zx26_22)) (below_size zx26_6)); replace b2 := Aside0.mk (Kd.R_elder' zx26_22 (Kd.R_base ho0) hb); replace bf := Aside0.mk (blk_below (g := ba) (o := .cells #[.int .i64 bk, .int .i64 bj, .int .i64 bi, .int .i64 bh] 43 (0, 0)) zx26_0 hb); replace bg := Aside0.mk (blk_below (g := bc) (o := .cells #[.int .u64 br, .int .u64 bp, .slice (some b0) bb.length bq] 27 (0, 0)) zx26_2 hb); replace bC := Aside0.mk (blk_below (g := be) (o := .cells #[.int .u64 bO, .int .u64 bU, .slice de bM.length dc] 27 (0, 0)) zx26_5 hb); replace bm := Aside0.mk (blk_below (g := bo) (o := .cells #[.string ((rd_T37 bb bd).f0), .int .u64 ((rd_T37 bb bd).f1), .int .u64 ((rd_T37 bb bd).f2), .slice bP ((rd_T37 bb bd).f3).length bR, .int .u64 ((rd_T37 bb bd).f4), .int .u64 ((rd_T37 bb bd).f5), .int .u64 ((rd_T37 bb bd).f6)] 37 (0, 0)) zx26_14 hb); replace bN := Aside0.mk (Kd.C_below zx26_13 hb); replace HB := Aside0.mk (below_step zx26_6 hb); (try clear hb); (try clear hb2); (try clear hk); (try clear hi); (try clear ho0)) | ((with_reducible refine gate_dst (N := 12) rfl ?_); (try (refine gate_guard (by rfl) ?_; dsimp only)); refine box_event ?hg (N := 12) ?hd (cs := #[.string (⟨#[]⟩ : ByteArray), .int .u64 0, .int .u64 0, .slice none 0 0, .int .u64 0, .int .u64 0, .int .u64 0]) (t := 37) ?hr ?_; (case hd => rfl); (case hg => rfl); (case hr => first | (go_simp; done) | (go_simp; rfl)); intro bz hg w87 hbox hb; replace b2 := Aside0.mk (Kd.R_below zx26_22 hb); replace bn := Aside0.mk (Kd.V_below (Kd.V_elderB zx26_20 bz (Nat.le_of_eq hg.symm)) hb); replace bw := Aside0.mk (Kd.V_below (Kd.V_elderB zx26_21 bz (Nat.le_of_eq hg.symm)) hb); replace dR := Aside0.mk (Kd.R_below (by (with_reducible repeat (first | apply Kd.R_alloc | apply Kd.R_drewN | apply Kd.R_drew)); exact dR.out) hb); replace bN := Aside0.mk (Kd.C_below zx26_13 hb); have bI := Aside0.mk (hbox); have qk := Aside0.mk ((by rw [hg]; exact (below_size zx26_6) : w.heap.size ≤ bz)); have gh := Aside0.mk ((by rw [hg]; exact (below_size zx26_6) : w.heap.size ≤ bz)); replace HB := Aside0.mk (below_step zx26_6 hb); have dw := Aside0.mk ((by rw [hg]; exact Nat.ne_of_lt (blk_lt (g := ba) (o := .cells #[.int .i64 bk, .int .i64 bj, .int .i64 bi, .int .i64 bh] 43 (0, 0)) zx26_0) : ba ≠ bz)); have d6 := Aside0.mk ((by rw [hg]; exact Nat.ne_of_gt (blk_lt (g := ba) (o := .cells #[.int .i64 bk, .int .i64 bj, .int .i64 bi, .int .i64 bh] 43 (0, 0)) zx26_0) : bz ≠ ba)); replace bf := Aside0.mk (blk_below (g := ba) (o := .cells #[.int .i64 bk, .int .i64 bj, .int .i64 bi, .int .i64 bh] 43 (0, 0)) zx26_0 hb); have dv := Aside0.mk ((by rw [hg]; exact Nat.ne_of_lt (blk_lt (g := bc) (o := .cells #[.int .u64 br, .int .u64 bp, .slice (some b0) bb.length bq] 27 (0, 0)) zx26_2) : bc ≠ bz)); have d5 := Aside0.mk ((by rw [hg]; exact Nat.ne_of_gt (blk_lt (g := bc) (o := .cells #[.int .u64 br, .int .u64 bp, .slice (some b0) bb.length bq] 27 (0, 0)) zx26_2) : bz ≠ bc)); replace bg := Aside0.mk (blk_below (g := bc) (o := .cells #[.int .u64 br, .int .u64 bp, .slice (some b0) bb.length bq] 27 (0, 0)) zx26_2 hb); have du := Aside0.mk ((by rw [hg]; exact Nat.ne_of_lt (blk_lt (g := be) (o := .cells #[.int .u64 bO, .int .u64 bU, .slice de bM.length dc] 27 (0, 0)) zx26_5) : be ≠ bz)); have d4 := Aside0.mk ((by rw [hg]; exact Nat.ne_of_gt (blk_lt (g := be) (o := .cells #[.int .u64 bO, .int .u64 bU, .slice de bM.length dc] 27 (0, 0)) zx26_5) : bz ≠ be)); replace bC := Aside0.mk (blk_below (g := be) (o := .cells #[.int .u64 bO, .int .u64 bU, .slice de bM.length dc] 27 (0, 0)) zx26_5 hb); have dK := Aside0.mk ((by rw [hg]; exact Nat.ne_of_lt (blk_lt (g := bo) (o := .cells #[.string ((rd_T37 bb bd).f0), .int .u64 ((rd_T37 bb bd).f1), .int .u64 ((rd_T37 bb bd).f2), .slice bP ((rd_T37 bb bd).f3).length bR, .int .u64 ((rd_T37 bb bd).f4), .int .u64 ((rd_T37 bb bd).f5), .int .u64 ((rd_T37 bb bd).f6)] 37 (0, 0)) zx26_14) : bo ≠ bz)); have d3 := Aside0.mk ((by rw [hg]; exact Nat.ne_of_gt (blk_lt (g := bo) (o := .cells #[.string ((rd_T37 bb bd).f0), .int .u64 ((rd_T37 bb bd).f1), .int .u64 ((rd_T37 bb bd).f2), .slice bP ((rd_T37 bb bd).f3).length bR, .int .u64 ((rd_T37 bb bd).f4), .int .u64 ((rd_T37 bb bd).f5), .int .u64 ((rd_T37 bb bd).f6)] 37 (0, 0)) zx26_14) : bz ≠ bo)); replace bm := Aside0.mk (blk_below (g := bo) (o := .cells #[.string ((rd_T37 bb bd).f0), .int .u64 ((rd_T37 bb bd).f1), .int .u64 ((rd_T37 bb bd).f2), .slice bP ((rd_T37 bb bd).f3).length bR, .int .u64 ((rd_T37 bb bd).f4), .int .u64 ((rd_T37 bb bd).f5), .int .u64 ((rd_T37 bb bd).f6)] 37 (0, 0)) zx26_14 hb); clear hb hbox hg; have sN := d6.out; have sx := dw.out; have sM := d5.out; have sw := dv.out; have sL := d4.out; have sv := du.out; have sK := d3.out; have su := dK.out; have jN : w87.cell? ⟨bz, 0, none⟩ = some (.string (⟨#[]⟩ : ByteArray)) := (blk_cell bI.out 0).trans rfl; have jM : w87.cell? ⟨bz, 1, none⟩ = some (.int .u64 0) := (blk_cell bI.out 1).trans rfl; have jL : w87.cell? ⟨bz, 2, none⟩ = some (.int .u64 0) := (blk_cell bI.out 2).trans rfl; have jK : w87.cell? ⟨bz, 3, none⟩ = some (.slice none 0 0) := (blk_cell bI.out 3).trans rfl; have jJ : w87.cell? ⟨bz, 4, none⟩ = some (.int .u64 0) := (blk_cell bI.out 4).trans rfl; have jI : w87.cell? ⟨bz, 5, none⟩ = some (.int .u64 0) := (blk_cell bI.out 5).trans rfl; have jH : w87.cell? ⟨bz, 6, none⟩ = some (.int .u64 0) := (blk_cell bI.out 6).trans rfl; have hP := blk_frozen bI.out 0; have hO := blk_frozen bI.out 1; have hN := blk_frozen bI.out 2; have hM := blk_frozen bI.out 3; have hL := blk_frozen bI.out 4; have hJ := blk_frozen bI.out 5; have hI := blk_frozen bI.out 6; obtain ⟨dY, dX, sf⟩ := Kd.R_slice dR.out; subst sf; have jG : w87.cell? ⟨bo, 0, none⟩ = some (.string ((rd_T37 bb bd).f0)) := (blk_cell bm.out 0).trans rfl; have jF : w87.cell? ⟨bo, 1, none⟩ = some (.int .u64 ((rd_T37 bb bd).f1)) := (blk_cell bm.out 1).trans rfl; have jE : w87.cell? ⟨bo, 2, none⟩ = some (.int .u64 ((rd_T37 bb bd).f2)) := (blk_cell bm.out 2).trans rfl; have jD : w87.cell? ⟨bo, 3, none⟩ = some (.slice bP ((rd_T37 bb bd).f3).length bR) := (blk_cell bm.out 3).trans rfl; have jC : w87.cell? ⟨bo, 4, none⟩ = some (.int .u64 ((rd_T37 bb bd).f4)) := (blk_cell bm.out 4).trans rfl; have jB : w87.cell? ⟨bo, 5, none⟩ = some (.int .u64 ((rd_T37 bb bd).f5)) := (blk_cell bm.out 5).trans rfl; have jA : w87.cell? ⟨bo, 6, none⟩ = some (.int .u64 ((rd_T37 bb bd).f6)) := (blk_cell bm.out 6).trans rfl; have hH := blk_frozen bm.out 0; have hG := blk_frozen bm.out 1; have hF := blk_frozen bm.out 2; have hE := blk_frozen bm.out 3; have hD := blk_frozen bm.out 4; have hC := blk_frozen bm.out 5; have hB := blk_frozen bm.out 6; have jz : w87.cell? ⟨be, 0, none⟩ = some (.int .u64 bO) := (blk_cell bC.out 0).trans rfl; have jy : w87.cell? ⟨be, 1, none⟩ = some (.int .u64 bU) := (blk_cell bC.out 1).trans rfl; have jx : w87.cell? ⟨be, 2, none⟩ = some (.slice de bM.length dc) := (blk_cell bC.out 2).trans rfl; have hA := blk_frozen bC.out 0; have hz := blk_frozen bC.out 1; have hy := blk_frozen bC.out 2) | ((with_reducible refine gate_callee (f := 18) rfl ?_); refine goesL_ (some 171) rfl rfl Tryd.func18 (by kernel_rfl) rfl #[.agg #[.int .u64 bO, .int .u64 bU, .slice de bM.length dc], .string ((rd_T37 bb bd).f0)] rfl zx26_9 ?_; (with_reducible refine (ledger_Pending.calls k2 bO bU _ _ bM ((rd_T37 bb bd).f0) dg _ ?side1 ?side2 A78.out).mono ?_); (case side1 => refine (Kd.V_reads' (e := 37) (base := w.heap.size) (ok := fun k_ => (((some k_ ≠ (.slice mv bK.length mq : Value).ownBlock ∧ (k_ ≠ ba ∧ (k_ ≠ bc ∧ (k_ ≠ be ∧ k_ ≠ bo)))) ∧ some k_ ≠ (.slice dY dr.length dX : Value).ownBlock) ∧ k_ ≠ bz)) (n := bM.length) (c := dc) ?_).2.2; exact zx26_23); (case side2 => exact (Kd.V_reads' bw.out).2.1); rintro e w96 ⟨hj, rfl, ho0, hb⟩; refine ⟨_, rfl, ?_⟩; replace bn := Aside0.mk (Kd.V_elder' (by (with_reducible repeat (first | apply Kd.V_alloc | apply Kd.V_drewN | apply Kd.V_drew)); exact (Kd.V_mono (Kd.V_far (p := ⟨bz, 6, none⟩) (Kd.V_far (p := ⟨bz, 5, none⟩) (Kd.V_far (p := ⟨bz, 4, none⟩) (Kd.V_far (p := ⟨bz, 3, none⟩) (Kd.V_far (p := ⟨bz, 2, none⟩) (Kd.V_far (p := ⟨bz, 1, none⟩) (Kd.V_far (p := ⟨bz, 0, none⟩) (Kd.V_mono bn.out (fun k_ hk => (⟨hk, hk.2⟩ : _ ∧ k_ ≠ bz))) (fun _ hk => hk.2) (.string dF)) (fun _ hk => hk.2) (.int .u64 dp)) (fun _ hk => hk.2) (.int .u64 dB)) (fun _ hk => hk.2) (.slice dY dr.length dX)) (fun _ hk => hk.2) (.int .u64 dE)) (fun _ hk => hk.2) (.int .u64 dP)) (fun _ hk => hk.2) (.int .u64 dU)) (fun _ h_ => h_.1))) (Kd.R_base ho0) hb); replace bw := Aside0.mk (Kd.V_elder' zx26_23 (Kd.R_base ho0) hb); have qj := Aside0.mk (Kd.R_lower (Kd.R_new' (Kd.R_new' ho0 (Kd.R_lt zx26_24)) (Kd.R_lt zx26_25)) (below_size zx26_28)); replace b2 := Aside0.mk (Kd.R_elder' zx26_24 (Kd.R_base ho0) hb); replace dR := Aside0.mk (Kd.R_elder' zx26_25 (Kd.R_base ho0) hb); replace bf := Aside0.mk (blk_below (g := ba) (o := .cells #[.int .i64 bk, .int .i64 bj, .int .i64 bi, .int .i64 bh] 43 (0, 0)) (by (iterate 7 ((with_reducible repeat (first | refine blk_drewN ?_ _ | refine blk_drew ?_ | refine blk_alloc ?_ _)); refine blk_far ?_ dw.out _)); (with_reducible repeat (first | refine blk_drewN ?_ _ | refine blk_drew ?_ | refine blk_alloc ?_ _)); exact bf.out) hb); replace bg := Aside0.mk (blk_below (g := bc) (o := .cells #[.int .u64 br, .int .u64 bp, .slice (some b0) bb.length bq] 27 (0, 0)) (by (iterate 7 ((with_reducible repeat (first | refine blk_drewN ?_ _ | refine blk_drew ?_ | refine blk_alloc ?_ _)); refine blk_far ?_ dv.out _)); (with_reducible repeat (first | refine blk_drewN ?_ _ | refine blk_drew ?_ | refine blk_alloc ?_ _)); exact bg.out) hb); replace bC := Aside0.mk (blk_below (g := be) (o := .cells #[.int .u64 bO, .int .u64 bU, .slice de bM.length dc] 27 (0, 0)) (by (iterate 7 ((with_reducible repeat (first | refine blk_drewN ?_ _ | refine blk_drew ?_ | refine blk_alloc ?_ _)); refine blk_far ?_ du.out _)); (with_reducible repeat (first | refine blk_drewN ?_ _ | refine blk_drew ?_ | refine blk_alloc ?_ _)); exact bC.out) hb); replace bm := Aside0.mk (blk_below (g := bo) (o := .cells #[.string ((rd_T37 bb bd).f0), .int .u64 ((rd_T37 bb bd).f1), .int .u64 ((rd_T37 bb bd).f2), .slice bP ((rd_T37 bb bd).f3).length bR, .int .u64 ((rd_T37 bb bd).f4), .int .u64 ((rd_T37 bb bd).f5), .int .u64 ((rd_T37 bb bd).f6)] 37 (0, 0)) (by (iterate 7 ((with_reducible repeat (first | refine blk_drewN ?_ _ | refine blk_drew ?_ | refine blk_alloc ?_ _)); refine blk_far ?_ dK.out _)); (with_reducible repeat (first | refine blk_drewN ?_ _ | refine blk_drew ?_ | refine blk_alloc ?_ _)); exact bm.out) hb); replace bI := Aside0.mk (blk_below (g := bz) (o := .cells #[.string dF, .int .u64 dp, .int .u64 dB, .slice dY dr.length dX, .int .u64 dE, .int .u64 dP, .int .u64 dU] 37 (0, 0)) (by (with_reducible repeat (first | refine blk_drewN ?_ _ | refine blk_drew ?_ | refine blk_alloc ?_ _)); refine blk_put (cs := #[.string dF, .int .u64 dp, .int .u64 dB, .slice dY dr.length dX, .int .u64 dE, .int .u64 dP, .int .u64 0]) ?_ 6 _ rfl; (with_reducible repeat (first | refine blk_drewN ?_ _ | refine blk_drew ?_ | refine blk_alloc ?_ _)); refine blk_put (cs := #[.string dF, .int .u64 dp, .int .u64 dB, .slice dY dr.length dX, .int .u64 dE, .int .u64 0, .int .u64 0]) ?_ 5 _ rfl; (with_reducible repeat (first | refine blk_drewN ?_ _ | refine blk_drew ?_ | refine blk_alloc ?_ _)); refine blk_put (cs := #[.string dF, .int .u64 dp, .int .u64 dB, .slice dY dr.length dX, .int .u64 0, .int .u64 0, .int .u64 0]) ?_ 4 _ rfl; (with_reducible repeat (first | refine blk_drewN ?_ _ | refine blk_drew ?_ | refine blk_alloc ?_ _)); refine blk_put (cs := #[.string dF, .int .u64 dp, .int .u64 dB, .slice none 0 0, .int .u64 0, .int .u64 0, .int .u64 0]) ?_ 3 _ rfl; (with_reducible repeat (first | refine blk_drewN ?_ _ | refine blk_drew ?_ | refine blk_alloc ?_ _)); refine blk_put (cs := #[.string dF, .int .u64 dp, .int .u64 0, .slice none 0 0, .int .u64 0, .int .u64 0, .int .u64 0]) ?_ 2 _ rfl; (with_reducible repeat (first | refine blk_drewN ?_ _ | refine blk_drew ?_ | refine blk_alloc ?_ _)); refine blk_put (cs := #[.string dF, .int .u64 0, .int .u64 0, .slice none 0 0, .int .u64 0, .int .u64 0, .int .u64 0]) ?_ 1 _ rfl; (with_reducible repeat (first | refine blk_drewN ?_ _ | refine blk_drew ?_ | refine blk_alloc ?_ _)); refine blk_put (cs := #[.string (⟨#[]⟩ : ByteArray), .int .u64 0, .int .u64 0, .slice none 0 0, .int .u64 0, .int .u64 0, .int .u64 0]) ?_ 0 _ rfl; (with_reducible repeat (first | refine blk_drewN ?_ _ | refine blk_drew ?_ | refine blk_alloc ?_ _)); exact bI.out) hb); replace HB := Aside0.mk (below_step zx26_28 hb); (try clear hb); (try clear hb2); (try clear hk); (try clear hi); (try clear ho0)))
    go_loopg [15] k2 (fun kq v15 w' => ∃ (bW : Int), v15 = .int .i64 bW ∧ Aside0 (postroomlaw10_LedgerCounts.l2 kq bd dg bW br bp bb bO bU bM ((rd_T37 bb bd).f0) ((rd_T37 bb bd).f1) ((rd_T37 bb bd).f2) ((rd_T37 bb bd).f3) ((rd_T37 bb bd).f4) ((rd_T37 bb bd).f5) ((rd_T37 bb bd).f6) = some r) ∧ Aside0 (kq ≤ k2) ∧ Aside0 (Kd.R (Kd.int .u64) 24 w' w.heap.size (fun k_ => some k_ ≠ ((.slice dY dr.length dX) : Value).ownBlock) hj dg) ∧ Aside0 (Kd.V k37 37 w' w.heap.size (fun k_ => some k_ ≠ (hj : Value).ownBlock ∧ some k_ ≠ ((.slice dY dr.length dX) : Value).ownBlock ∧ k_ ≠ ba ∧ k_ ≠ bc ∧ k_ ≠ be ∧ k_ ≠ bo ∧ k_ ≠ bz) (.slice (some b0) bb.length bq) bb) ∧ Aside0 (Kd.V k37 37 w' w.heap.size (fun k_ => some k_ ≠ (hj : Value).ownBlock ∧ some k_ ≠ ((.slice dY dr.length dX) : Value).ownBlock ∧ k_ ≠ ba ∧ k_ ≠ bc ∧ k_ ≠ be ∧ k_ ≠ bo ∧ k_ ≠ bz) (.slice de bM.length dc) bM) ∧ Aside0 (Kd.R (Kd.int .u64) 24 w' w.heap.size (fun k_ => some k_ ≠ (hj : Value).ownBlock) (.slice dY dr.length dX) dr) ∧ Aside0 (w'.heap[ba]? = some (.cells #[.int .i64 bk, .int .i64 bj, .int .i64 bi, .int .i64 bh] 43 (0, 0))) ∧ Aside0 (w'.heap[bc]? = some (.cells #[.int .u64 br, .int .u64 bp, (.slice (some b0) bb.length bq)] 27 (0, 0))) ∧ Aside0 (w'.heap[be]? = some (.cells #[.int .u64 bO, .int .u64 bU, (.slice de bM.length dc)] 27 (0, 0))) ∧ Aside0 (w'.heap[bo]? = some (.cells #[.string ((rd_T37 bb bd).f0), .int .u64 ((rd_T37 bb bd).f1), .int .u64 ((rd_T37 bb bd).f2), (.slice bP ((rd_T37 bb bd).f3).length bR), .int .u64 ((rd_T37 bb bd).f4), .int .u64 ((rd_T37 bb bd).f5), .int .u64 ((rd_T37 bb bd).f6)] 37 (0, 0))) ∧ Aside0 (w'.heap[bz]? = some (.cells #[.string dF, .int .u64 dp, .int .u64 dB, (.slice dY dr.length dX), .int .u64 dE, .int .u64 dP, .int .u64 dU] 37 (0, 0))) ∧ Aside0 (Below w.heap.size w w'))
    case atStart => exact ⟨(0), zx26_32, H', ⟨Nat.le_refl _⟩, ⟨by (with_reducible repeat (first | apply Kd.R_alloc | apply Kd.R_drewN | apply Kd.R_drew)); exact Kd.R_mono qj.out (fun _ hk => hk.2)⟩, ⟨by (with_reducible repeat (first | apply Kd.V_alloc | apply Kd.V_drewN | apply Kd.V_drew)); exact Kd.V_mono bn.out (fun _ hk => ⟨hk.2, ⟨hk.1.1.2, ⟨hk.1.1.1.2.1, ⟨hk.1.1.1.2.2.1, ⟨hk.1.1.1.2.2.2.1, ⟨hk.1.1.1.2.2.2.2, hk.1.2⟩⟩⟩⟩⟩⟩)⟩, ⟨by (with_reducible repeat (first | apply Kd.V_alloc | apply Kd.V_drewN | apply Kd.V_drew)); exact Kd.V_mono bw.out (fun _ hk => ⟨hk.2, ⟨hk.1.1.2, ⟨hk.1.1.1.2.1, ⟨hk.1.1.1.2.2.1, ⟨hk.1.1.1.2.2.2.1, ⟨hk.1.1.1.2.2.2.2, hk.1.2⟩⟩⟩⟩⟩⟩)⟩, ⟨by (with_reducible repeat (first | apply Kd.R_alloc | apply Kd.R_drewN | apply Kd.R_drew)); exact Kd.R_mono dR.out (fun _ hk => hk.2)⟩, ⟨by (with_reducible repeat (first | refine blk_drewN ?_ _ | refine blk_drew ?_ | refine blk_alloc ?_ _)); exact bf.out⟩, ⟨by (with_reducible repeat (first | refine blk_drewN ?_ _ | refine blk_drew ?_ | refine blk_alloc ?_ _)); exact bg.out⟩, ⟨by (with_reducible repeat (first | refine blk_drewN ?_ _ | refine blk_drew ?_ | refine blk_alloc ?_ _)); exact bC.out⟩, ⟨by (with_reducible repeat (first | refine blk_drewN ?_ _ | refine blk_drew ?_ | refine blk_alloc ?_ _)); exact bm.out⟩, ⟨by (with_reducible repeat (first | refine blk_drewN ?_ _ | refine blk_drew ?_ | refine blk_alloc ?_ _)); exact bI.out⟩, ⟨by repeat (first | (with_reducible first | exact HB.out | apply below_alloc | apply pw_below_drewN | apply below_drew1 | refine below_set ?_ df.out | refine below_set ?_ dm.out | refine below_set ?_ bH.out | refine below_set ?_ dT.out | refine below_set ?_ gh.out) | exact HB.out)⟩⟩
    case round =>
     clear H'
     (try clear c1); (try clear p2); (try clear c3); (try clear p3); (try clear q3); (try clear hx3); (try clear p4); (try clear q4); (try clear hx4); (try clear c5); (try clear c6); (try clear p6); (try clear c7); (try clear c8); (try clear c9); (try clear c17); (try clear c18); (try clear c19); (try clear c39); (try clear p39); (try clear q39); (try clear qO); (try clear p40); (try clear q40); (try clear vz); (try clear c53); (try clear mD); (try clear c54); (try clear c58); (try clear mC); (try clear c60); (try clear c61); (try clear c64); (try clear p64); (try clear c68); (try clear c72); (try clear c73); (try clear o8); (try clear c74); (try clear o7); (try clear c75); (try clear o6); (try clear c76); (try clear o5); (try clear o4); (try clear c77); (try clear o3); (try clear c79); (try clear c80); (try clear c81); (try clear c83); (try clear c84); (try clear c88); (try clear c89); (try clear c90); (try clear c91); (try clear jX); (try clear jW); (try clear jV); (try clear jU); (try clear jT); (try clear jS); (try clear jR); (try clear jQ); (try clear jP); (try clear jO); (try clear jN); (try clear jM); (try clear jL); (try clear jK); (try clear jJ); (try clear jI); (try clear jH); (try clear jG); (try clear jF); (try clear jE); (try clear jD); (try clear jC); (try clear jB); (try clear jA); (try clear jz); (try clear jy); (try clear jx); (try clear hZ); (try clear hY); (try clear hX); (try clear hW); (try clear hV); (try clear hU); (try clear hT); (try clear hS); (try clear hR); (try clear hQ); (try clear hP); (try clear hO); (try clear hN); (try clear hM); (try clear hL); (try clear hJ); (try clear hI); (try clear hH); (try clear hG); (try clear hF); (try clear hE); (try clear hD); (try clear hC); (try clear hB); (try clear hA); (try clear hz); (try clear hy); (try clear dJ); (try clear dI); (try clear dH); (try clear gm); (try clear gv); (try clear gu); (try clear gt); (try clear hq); (try clear gs); (try clear gr); (try clear gq); (try clear hn)
     obtain ⟨bW, rfl, HA, HK3, dh, bn, bw, b3, bf, bg, bC, bm, bI, HB⟩ := hrel
     cases gk with
     | zero => exact absurd HA.out (by simp [postroomlaw10_LedgerCounts.l2])
     | succ k3 => ?_
     have H := HA.out
     clear HA
     simp only [postroomlaw10_LedgerCounts.l2] at H
     by_cases c97 : bW < (dg.length : Int)
     case neg =>
      rw [if_neg c97] at H
      have o2 : decide (bW < (dg.length : Int)) = false := decide_eq_false c97
      clear c97
      have H' := Aside0.mk H
      clear H
      obtain ⟨vq, vc, oY⟩ := Kd.R_slice dh.out
      subst oY
      go_wp2
      go_roundg k3
      case measure => have := HK1.out; have := HK2.out; have := HK3.out; omega
      case rel => exact ⟨(wrap64 (bd + 1)), zx26_32, H', ⟨by have := HK1.out; have := HK2.out; have := HK3.out; omega⟩, ⟨by (with_reducible repeat (first | apply Kd.V_alloc | apply Kd.V_drewN | apply Kd.V_drew)); exact Kd.V_mono bn.out (fun _ hk => ⟨hk.2.2.1, ⟨hk.2.2.2.1, hk.2.2.2.2.1⟩⟩)⟩, ⟨by (with_reducible repeat (first | apply Kd.V_alloc | apply Kd.V_drewN | apply Kd.V_drew)); exact Kd.V_mono bw.out (fun _ hk => ⟨hk.2.2.1, ⟨hk.2.2.2.1, hk.2.2.2.2.1⟩⟩)⟩, ⟨by (with_reducible repeat (first | refine blk_drewN ?_ _ | refine blk_drew ?_ | refine blk_alloc ?_ _)); exact bf.out⟩, ⟨by (with_reducible repeat (first | refine blk_drewN ?_ _ | refine blk_drew ?_ | refine blk_alloc ?_ _)); exact bg.out⟩, ⟨by (with_reducible repeat (first | refine blk_drewN ?_ _ | refine blk_drew ?_ | refine blk_alloc ?_ _)); exact bC.out⟩, ⟨by repeat (first | (with_reducible first | exact HB.out | apply below_alloc | apply pw_below_drewN | apply below_drew1 | refine below_set ?_ df.out | refine below_set ?_ dm.out | refine below_set ?_ bH.out | refine below_set ?_ dT.out | refine below_set ?_ gh.out) | exact HB.out)⟩⟩
     rw [if_pos c97] at H
     have o2 : decide (bW < (dg.length : Int)) = true := decide_eq_true c97
     clear c97
     by_cases c98 : 0 ≤ bW
     case neg =>
      rw [if_neg c98] at H
      exact absurd H (by simp)
     rw [if_pos c98] at H
     have vg : decide (0 ≤ bW) = true := decide_eq_true c98
     clear c98
     by_cases c99 : (rd dg bW) < bp
     case neg =>
      rw [if_neg c99] at H
      have o1 : decide ((rd dg bW) < bp) = false := decide_eq_false c99
      clear c99
      have H' := Aside0.mk H
      clear H
      obtain ⟨vr, vd, oZ⟩ := Kd.R_slice dh.out
      subst oZ
      try go_wp2
      replace dh := Aside0.mk (Kd.R_drew dh.out)
      replace bn := Aside0.mk (Kd.V_drew bn.out)
      replace bw := Aside0.mk (Kd.V_drew bw.out)
      replace b3 := Aside0.mk (Kd.R_drew b3.out)
      replace bf := Aside0.mk (blk_drew bf.out)
      replace bg := Aside0.mk (blk_drew bg.out)
      replace bC := Aside0.mk (blk_drew bC.out)
      replace bm := Aside0.mk (blk_drew bm.out)
      replace bI := Aside0.mk (blk_drew bI.out)
      replace HB := Aside0.mk (below_drew1 HB.out)
      have gI : 0 ≤ (bW : Int) := of_decide_eq_true zx26_11
      have gH : bW < (dg.length : Int) := of_decide_eq_true zx26_11
      obtain ⟨gC, mU, dZ⟩ := Kd.at_int (Kd.R_reads' dh.out).2.2 bW gI gH
      cases mU
      replace gI := eq_true gI
      replace gH := eq_true gH
      refine start_ (n := 18) (S := fun w' => w'.cell? ⟨bc, 0, none⟩ = some (.int .u64 br) ∧ w'.cell? ⟨bc, 1, none⟩ = some (.int .u64 bp) ∧ w'.cell? ⟨bc, 2, none⟩ = some (.slice (some b0) bb.length bq) ∧ w'.cell? (gC.add (bW).toNat) = some (.int .u64 (rd dg bW))) (ds := []) #[Ff,Ff,Ff,Ff,Ff,Ff,Ff,Ff,Ff,Ff,Ff,Ff,Ff,Ff,Ff,Ff,Ff,Ff] (by kernel_rfl) rfl rfl ⟨(blk_cell bg.out 0).trans rfl, (blk_cell bg.out 1).trans rfl, (blk_cell bg.out 2).trans rfl, dZ⟩ (fun hHeld => ?_); refine with_tabW postroomlaw10_LedgerCounts.tab26 postroomlaw10_LedgerCounts.bits26 (fun HT_ HW_ => ?_)
      generalize wr.drew = vu at dh bn bw b3 bf bg bC bm bI HB dZ hHeld ⊢
      refine pp_ 0 (some 178) HT_.out ?_
      refine pp_ 1 (some 179) HT_.out ?_
      refine pp_ 2 (some 180) HT_.out ?_
      refine pp_ 4 (some 182) HT_.out ?_
      refine take_ (i := 3) (N := some 181) (v := ?_) (a' := ?_) #[Tt,Tt,Tt,Tt,Tt,Ff,Ff,Ff,Ff,Ff,Ff,Ff,Ff,Ff,Ff,Ff,Ff,Ff] rfl rfl (take_ofW HT_.out HW_.out (by kernel_rfl)) (fun _ _ _ h => h) (Or.inl ⟨by rfl, ?_⟩) hHeld ?_ ?_
      rotate_left
      ·rintro w' ⟨s0, s1, s2, s3⟩
       go_simp
       with_reducible rfl
      rotate_left
      ·simp only [Act.put, List.setIfInBounds_toArray, List.set_cons_zero, List.set_cons_succ, i64_w, i32_w]
       rfl
      refine take_ (i := 5) (N := some 183) (v := ?_) (a' := ?_) #[Tt,Tt,Tt,Tt,Tt,Tt,Ff,Ff,Ff,Ff,Ff,Ff,Ff,Ff,Ff,Ff,Ff,Ff] rfl rfl (take_ofW HT_.out HW_.out (by kernel_rfl)) (fun _ _ _ h => h) (Or.inl ⟨by rfl, ?_⟩) hHeld ?_ ?_
      rotate_left
      ·rintro w' ⟨s0, s1, s2, s3⟩
       go_simp
       with_reducible rfl
      rotate_left
      ·simp only [Act.put, List.setIfInBounds_toArray, List.set_cons_zero, List.set_cons_succ, i64_w, i32_w]
       rfl
      refine pp_ 6 (some 184) HT_.out ?_
      refine pp_ 7 (some 185) HT_.out ?_
      refine pu_ 8 (some 186) HT_.out ?_
      refine pu_ 9 (some 187) HT_.out ?_
      refine pu_ 10 (some 188) HT_.out ?_
      refine pu_ 11 (some 189) HT_.out ?_
      refine pu_ 12 (some 190) HT_.out ?_
      refine pu_ 13 (some 191) HT_.out ?_
      refine pu_ 14 (some 192) HT_.out ?_
      refine pu_ 15 (some 193) HT_.out ?_
      refine pu_ 16 (some 194) HT_.out ?_
      refine pp_ 17 (some 195) HT_.out ?_
      refine done_ (done_of HT_.out (by kernel_rfl)) ?_
      try go_wp2
      go_roundg k3
      case measure => have := HK1.out; have := HK2.out; have := HK3.out; omega
      case rel => exact ⟨(wrap64 (bW + 1)), zx26_32, H', ⟨by have := HK1.out; have := HK2.out; have := HK3.out; omega⟩, ⟨by (with_reducible repeat (first | apply Kd.R_alloc | apply Kd.R_drewN | apply Kd.R_drew)); exact dh.out⟩, ⟨by (with_reducible repeat (first | apply Kd.V_alloc | apply Kd.V_drewN | apply Kd.V_drew)); exact bn.out⟩, ⟨by (with_reducible repeat (first | apply Kd.V_alloc | apply Kd.V_drewN | apply Kd.V_drew)); exact bw.out⟩, ⟨by (with_reducible repeat (first | apply Kd.R_alloc | apply Kd.R_drewN | apply Kd.R_drew)); exact b3.out⟩, ⟨by (with_reducible repeat (first | refine blk_drewN ?_ _ | refine blk_drew ?_ | refine blk_alloc ?_ _)); exact bf.out⟩, ⟨by (with_reducible repeat (first | refine blk_drewN ?_ _ | refine blk_drew ?_ | refine blk_alloc ?_ _)); exact bg.out⟩, ⟨by (with_reducible repeat (first | refine blk_drewN ?_ _ | refine blk_drew ?_ | refine blk_alloc ?_ _)); exact bC.out⟩, ⟨by (with_reducible repeat (first | refine blk_drewN ?_ _ | refine blk_drew ?_ | refine blk_alloc ?_ _)); exact bm.out⟩, ⟨by (with_reducible repeat (first | refine blk_drewN ?_ _ | refine blk_drew ?_ | refine blk_alloc ?_ _)); exact bI.out⟩, ⟨by repeat (first | (with_reducible first | exact HB.out | apply below_alloc | apply pw_below_drewN | apply below_drew1 | refine below_set ?_ df.out | refine below_set ?_ dm.out | refine below_set ?_ bH.out | refine below_set ?_ dT.out | refine below_set ?_ gh.out) | exact HB.out)⟩⟩
     rw [if_pos c99] at H
     have o1 : decide ((rd dg bW) < bp) = true := decide_eq_true c99
     clear c99
     replace H := Option.bind_eq_some_iff.mp H
     obtain ⟨hl, mJ, H⟩ := H
     replace H : (if hl = true then (postroomlaw10_LedgerCounts.l2 k3 bd dg (wrap64 (bW + 1)) br bp bb bO bU bM ((rd_T37 bb bd).f0) ((rd_T37 bb bd).f1) ((rd_T37 bb bd).f2) ((rd_T37 bb bd).f3) ((rd_T37 bb bd).f4) ((rd_T37 bb bd).f5) ((rd_T37 bb bd).f6)) else (none)) = some r := H
     have ss := Aside0.mk mJ
     clear mJ
     by_cases mt : hl = true
     case neg =>
      replace mt := Bool.eq_false_iff.mpr mt
      subst mt
      have H1 : (none) = some r := by rw [if_neg (show ¬ (false = true) by decide)] at H; exact H
      clear H
      have H := H1
      clear H1
      exact absurd H (by simp)
     subst mt
     have H1 : (postroomlaw10_LedgerCounts.l2 k3 bd dg (wrap64 (bW + 1)) br bp bb bO bU bM ((rd_T37 bb bd).f0) ((rd_T37 bb bd).f1) ((rd_T37 bb bd).f2) ((rd_T37 bb bd).f3) ((rd_T37 bb bd).f4) ((rd_T37 bb bd).f5) ((rd_T37 bb bd).f6)) = some r := by rw [if_pos rfl] at H; exact H
     clear H
     have H := H1
     clear H1
     have H' := Aside0.mk H
     clear H
     obtain ⟨vs, ve, o0⟩ := Kd.R_slice dh.out
     subst o0
     try go_wp2
     replace dh := Aside0.mk (Kd.R_drew dh.out)
     replace bn := Aside0.mk (Kd.V_drew bn.out)
     replace bw := Aside0.mk (Kd.V_drew bw.out)
     replace b3 := Aside0.mk (Kd.R_drew b3.out)
     replace bf := Aside0.mk (blk_drew bf.out)
     replace bg := Aside0.mk (blk_drew bg.out)
     replace bC := Aside0.mk (blk_drew bC.out)
     replace bm := Aside0.mk (blk_drew bm.out)
     replace bI := Aside0.mk (blk_drew bI.out)
     replace HB := Aside0.mk (below_drew1 HB.out)
     have gI : 0 ≤ (bW : Int) := of_decide_eq_true zx26_11
     have gH : bW < (dg.length : Int) := of_decide_eq_true zx26_11
     obtain ⟨gC, mU, dZ⟩ := Kd.at_int (Kd.R_reads' dh.out).2.2 bW gI gH
     cases mU
     replace gI := eq_true gI
     replace gH := eq_true gH
     have mO : 0 ≤ (bW : Int) := of_decide_eq_true zx26_11
     have mK : bW < (dg.length : Int) := of_decide_eq_true zx26_11
     obtain ⟨qc, si, gK⟩ := Kd.at_int (Kd.R_reads' dh.out).2.2 bW mO mK
     obtain rfl : gC = qc := (by injection si)
     replace mO := eq_true mO
     replace mK := eq_true mK
     refine start_ (n := 18) (S := fun w' => w'.cell? ⟨bc, 0, none⟩ = some (.int .u64 br) ∧ w'.cell? ⟨bc, 1, none⟩ = some (.int .u64 bp) ∧ w'.cell? ⟨bc, 2, none⟩ = some (.slice (some b0) bb.length bq) ∧ w'.cell? ⟨bo, 0, none⟩ = some (.string ((rd_T37 bb bd).f0)) ∧ w'.cell? ⟨bo, 1, none⟩ = some (.int .u64 ((rd_T37 bb bd).f1)) ∧ w'.cell? ⟨bo, 2, none⟩ = some (.int .u64 ((rd_T37 bb bd).f2)) ∧ w'.cell? ⟨bo, 3, none⟩ = some (.slice bP ((rd_T37 bb bd).f3).length bR) ∧ w'.cell? ⟨bo, 4, none⟩ = some (.int .u64 ((rd_T37 bb bd).f4)) ∧ w'.cell? ⟨bo, 5, none⟩ = some (.int .u64 ((rd_T37 bb bd).f5)) ∧ w'.cell? ⟨bo, 6, none⟩ = some (.int .u64 ((rd_T37 bb bd).f6)) ∧ w'.cell? (gC.add (bW).toNat) = some (.int .u64 (rd dg bW)) ∧ w'.cell? (gC.add (bW).toNat) = some (.int .u64 (rd dg bW))) (ds := []) #[Ff,Ff,Ff,Ff,Ff,Ff,Ff,Ff,Ff,Ff,Ff,Ff,Ff,Ff,Ff,Ff,Ff,Ff] (by kernel_rfl) rfl rfl ⟨(blk_cell bg.out 0).trans rfl, (blk_cell bg.out 1).trans rfl, (blk_cell bg.out 2).trans rfl, (blk_cell bm.out 0).trans rfl, (blk_cell bm.out 1).trans rfl, (blk_cell bm.out 2).trans rfl, (blk_cell bm.out 3).trans rfl, (blk_cell bm.out 4).trans rfl, (blk_cell bm.out 5).trans rfl, (blk_cell bm.out 6).trans rfl, dZ, gK⟩ (fun hHeld => ?_); refine with_tabW postroomlaw10_LedgerCounts.tab26 postroomlaw10_LedgerCounts.bits26 (fun HT_ HW_ => ?_)
     generalize wr.drew = vw at dh bn bw b3 bf bg bC bm bI HB dZ gK hHeld ⊢
     refine pp_ 0 (some 178) HT_.out ?_
     refine pp_ 1 (some 179) HT_.out ?_
     refine pp_ 2 (some 180) HT_.out ?_
     refine pp_ 4 (some 182) HT_.out ?_
     refine take_ (i := 3) (N := some 181) (v := ?_) (a' := ?_) #[Tt,Tt,Tt,Tt,Tt,Ff,Ff,Ff,Ff,Ff,Ff,Ff,Ff,Ff,Ff,Ff,Ff,Ff] rfl rfl (take_ofW HT_.out HW_.out (by kernel_rfl)) (fun _ _ _ h => h) (Or.inl ⟨by rfl, ?_⟩) hHeld ?_ ?_
     rotate_left
     ·rintro w' ⟨s0, s1, s2, s3, s4, s5, s6, s7, s8, s9, s10, s11⟩
      go_simp
      with_reducible rfl
     rotate_left
     ·simp only [Act.put, List.setIfInBounds_toArray, List.set_cons_zero, List.set_cons_succ, i64_w, i32_w]
      rfl
     refine take_ (i := 5) (N := some 183) (v := ?_) (a' := ?_) #[Tt,Tt,Tt,Tt,Tt,Tt,Ff,Ff,Ff,Ff,Ff,Ff,Ff,Ff,Ff,Ff,Ff,Ff] rfl rfl (take_ofW HT_.out HW_.out (by kernel_rfl)) (fun _ _ _ h => h) (Or.inl ⟨by rfl, ?_⟩) hHeld ?_ ?_
     rotate_left
     ·rintro w' ⟨s0, s1, s2, s3, s4, s5, s6, s7, s8, s9, s10, s11⟩
      go_simp
      with_reducible rfl
     rotate_left
     ·simp only [Act.put, List.setIfInBounds_toArray, List.set_cons_zero, List.set_cons_succ, i64_w, i32_w]
      rfl
     refine pp_ 6 (some 184) HT_.out ?_
     refine pp_ 7 (some 185) HT_.out ?_
     refine pp_ 9 (some 187) HT_.out ?_
     refine pp_ 11 (some 189) HT_.out ?_
     refine pp_ 12 (some 190) HT_.out ?_
     refine pp_ 13 (some 191) HT_.out ?_
     refine take_ (i := 8) (N := some 186) (v := ?_) (a' := ?_) #[Tt,Tt,Tt,Tt,Tt,Tt,Tt,Tt,Tt,Tt,Ff,Tt,Tt,Tt,Ff,Ff,Ff,Ff] rfl rfl (take_ofW HT_.out HW_.out (by kernel_rfl)) (fun _ _ _ h => h) (Or.inl ⟨by rfl, ?_⟩) hHeld ?_ ?_
     rotate_left
     ·rintro w' ⟨s0, s1, s2, s3, s4, s5, s6, s7, s8, s9, s10, s11⟩
      go_simp
      with_reducible rfl
     rotate_left
     ·simp only [Act.put, List.setIfInBounds_toArray, List.set_cons_zero, List.set_cons_succ, i64_w, i32_w]
      rfl
     refine take_ (i := 10) (N := some 188) (v := ?_) (a' := ?_) #[Tt,Tt,Tt,Tt,Tt,Tt,Tt,Tt,Tt,Tt,Tt,Tt,Tt,Tt,Ff,Ff,Ff,Ff] rfl rfl (take_ofW HT_.out HW_.out (by kernel_rfl)) (fun _ _ _ h => h) (Or.inl ⟨by rfl, ?_⟩) hHeld ?_ ?_
     rotate_left
     ·rintro w' ⟨s0, s1, s2, s3, s4, s5, s6, s7, s8, s9, s10, s11⟩
      go_simp
      with_reducible rfl
     rotate_left
     ·simp only [Act.put, List.setIfInBounds_toArray, List.set_cons_zero, List.set_cons_succ, i64_w, i32_w]
      rfl
     refine take_ (i := 14) (N := some 192) (v := ?_) (a' := ?_) #[Tt,Tt,Tt,Tt,Tt,Tt,Tt,Tt,Tt,Tt,Tt,Tt,Tt,Tt,Tt,Ff,Ff,Ff] rfl rfl (take_ofW HT_.out HW_.out (by kernel_rfl)) (fun _ _ _ h => h) (Or.inl ⟨by rfl, ?_⟩) hHeld ?_ ?_
     rotate_left
     ·rintro w' ⟨s0, s1, s2, s3, s4, s5, s6, s7, s8, s9, s10, s11⟩
      go_simp
      with_reducible rfl
     rotate_left
     ·simp only [Act.put, List.setIfInBounds_toArray, List.set_cons_zero, List.set_cons_succ, i64_w, i32_w]
      rfl
     refine one_ (i := 15) (N := some 193) #[Tt,Tt,Tt,Tt,Tt,Tt,Tt,Tt,Tt,Tt,Tt,Tt,Tt,Tt,Tt,Tt,Ff,Ff] rfl rfl (one_of HT_.out (by kernel_rfl)) (by decide) (fun K hK => ?_)
     refine goes_ Tryd.func19 (by kernel_rfl) rfl #[.agg #[.int .u64 br, .int .u64 bp, .slice (some b0) bb.length bq], .string ((rd_T37 bb bd).f0), .int .u64 (rd dg bW)] (by rfl) rfl rfl zx26_9 ?_
     with_reducible refine (ledger_Waits.calls k3 br bp _ _ bb ((rd_T37 bb bd).f0) (rd dg bW) true _ ?side1 ?side2 ss.out).mono ?_
     (case side1 => repeat (first | exact (Kd.V_reads' bn.out).2.2 | (with_reducible refine Kd.C_alloc ?_ _) | (with_reducible refine Kd.C_drewN ?_ _) | (with_reducible refine Kd.C_drew ?_)))
     (case side2 => exact (Kd.V_reads' bn.out).2.1)
     rintro e vv ⟨rfl, hb⟩
     have gE := (hb.cell (World.block_lt_of_cell? _ _ (hHeld.2.2.2.2.2.2.2.2.2.2.1))).trans (hHeld.2.2.2.2.2.2.2.2.2.2.1)
     have gD := (hb.cell (World.block_lt_of_cell? _ _ (hHeld.2.2.2.2.2.2.2.2.2.2.2))).trans (hHeld.2.2.2.2.2.2.2.2.2.2.2)
     refine ⟨_, rfl, ?_⟩
     replace dh := Aside0.mk (Kd.R_below (by (with_reducible repeat (first | apply Kd.R_alloc | apply Kd.R_drewN | apply Kd.R_drew)); exact dh.out) hb)
     replace bn := Aside0.mk (Kd.V_below zx26_20 hb)
     replace bw := Aside0.mk (Kd.V_below zx26_21 hb)
     replace b3 := Aside0.mk (Kd.R_below (by (with_reducible repeat (first | apply Kd.R_alloc | apply Kd.R_drewN | apply Kd.R_drew)); exact b3.out) hb)
     replace bf := Aside0.mk (blk_below (g := ba) (o := .cells #[.int .i64 bk, .int .i64 bj, .int .i64 bi, .int .i64 bh] 43 (0, 0)) zx26_0 hb)
     replace bg := Aside0.mk (blk_below (g := bc) (o := .cells #[.int .u64 br, .int .u64 bp, .slice (some b0) bb.length bq] 27 (0, 0)) zx26_2 hb)
     replace bC := Aside0.mk (blk_below (g := be) (o := .cells #[.int .u64 bO, .int .u64 bU, .slice de bM.length dc] 27 (0, 0)) zx26_5 hb)
     replace bm := Aside0.mk (blk_below (g := bo) (o := .cells #[.string ((rd_T37 bb bd).f0), .int .u64 ((rd_T37 bb bd).f1), .int .u64 ((rd_T37 bb bd).f2), .slice bP ((rd_T37 bb bd).f3).length bR, .int .u64 ((rd_T37 bb bd).f4), .int .u64 ((rd_T37 bb bd).f5), .int .u64 ((rd_T37 bb bd).f6)] 37 (0, 0)) zx26_14 hb)
     replace bI := Aside0.mk (blk_below (g := bz) (o := .cells #[.string dF, .int .u64 dp, .int .u64 dB, .slice dY dr.length dX, .int .u64 dE, .int .u64 dP, .int .u64 dU] 37 (0, 0)) (by (with_reducible repeat (first | refine blk_drewN ?_ _ | refine blk_drew ?_ | refine blk_alloc ?_ _)); exact bI.out) hb)
     replace HB := Aside0.mk (below_step zx26_28 hb)
     (try clear hb)
     (try clear hb2)
     (try clear hk)
     (try clear hi)
     refine hK.out _ _ ⟨(blk_cell bg.out 0).trans rfl, (blk_cell bg.out 1).trans rfl, (blk_cell bg.out 2).trans rfl, (blk_cell bm.out 0).trans rfl, (blk_cell bm.out 1).trans rfl, (blk_cell bm.out 2).trans rfl, (blk_cell bm.out 3).trans rfl, (blk_cell bm.out 4).trans rfl, (blk_cell bm.out 5).trans rfl, (blk_cell bm.out 6).trans rfl, gE, gD⟩ (fun hHeld => ?_)
     clear hK K
     refine na_ 193 ?_
     refine pp_ 16 (some 194) HT_.out ?_
     refine pp_ 17 (some 195) HT_.out ?_
     refine done_ (done_of HT_.out (by kernel_rfl)) ?_
     try go_wp2
     go_roundg k3
     case measure => have := HK1.out; have := HK2.out; have := HK3.out; omega
     case rel => exact ⟨(wrap64 (bW + 1)), zx26_32, H', ⟨by have := HK1.out; have := HK2.out; have := HK3.out; omega⟩, ⟨by (with_reducible repeat (first | apply Kd.R_alloc | apply Kd.R_drewN | apply Kd.R_drew)); exact dh.out⟩, ⟨by (with_reducible repeat (first | apply Kd.V_alloc | apply Kd.V_drewN | apply Kd.V_drew)); exact bn.out⟩, ⟨by (with_reducible repeat (first | apply Kd.V_alloc | apply Kd.V_drewN | apply Kd.V_drew)); exact bw.out⟩, ⟨by (with_reducible repeat (first | apply Kd.R_alloc | apply Kd.R_drewN | apply Kd.R_drew)); exact b3.out⟩, ⟨by (with_reducible repeat (first | refine blk_drewN ?_ _ | refine blk_drew ?_ | refine blk_alloc ?_ _)); exact bf.out⟩, ⟨by (with_reducible repeat (first | refine blk_drewN ?_ _ | refine blk_drew ?_ | refine blk_alloc ?_ _)); exact bg.out⟩, ⟨by (with_reducible repeat (first | refine blk_drewN ?_ _ | refine blk_drew ?_ | refine blk_alloc ?_ _)); exact bC.out⟩, ⟨by (with_reducible repeat (first | refine blk_drewN ?_ _ | refine blk_drew ?_ | refine blk_alloc ?_ _)); exact bm.out⟩, ⟨by (with_reducible repeat (first | refine blk_drewN ?_ _ | refine blk_drew ?_ | refine blk_alloc ?_ _)); exact bI.out⟩, ⟨by repeat (first | (with_reducible first | exact HB.out | apply below_alloc | apply pw_below_drewN | apply below_drew1 | refine below_set ?_ df.out | refine below_set ?_ dm.out | refine below_set ?_ bH.out | refine below_set ?_ dT.out | refine below_set ?_ gh.out) | exact HB.out)⟩⟩
   rw [if_pos c53] at H
   have mD : decide (bD < (bK.length : Int)) = true := decide_eq_true c53
   clear c53
   by_cases c54 : 0 ≤ bD
   case neg =>
    rw [if_neg c54] at H
    exact absurd H (by simp)
   rw [if_pos c54] at H
   have vn : decide (0 ≤ bD) = true := decide_eq_true c54
   clear c54
   by_cases c55 : (rd bK bD) < ((rd_T37 bb bd).f1)
   ·rw [if_pos c55] at H
    exact absurd H (by simp)
   rw [if_neg c55] at H
   have vm : decide ((rd bK bD) < ((rd_T37 bb bd).f1)) = false := decide_eq_false c55
   clear c55
   by_cases c56 : (rd bK bD) < br
   ·rw [if_pos c56] at H
    exact absurd H (by simp)
   rw [if_neg c56] at H
   have vl : decide ((rd bK bD) < br) = false := decide_eq_false c56
   clear c56
   by_cases c57 : (rd bK bD) ≥ bp
   ·rw [if_pos c57] at H
    exact absurd H (by simp)
   rw [if_neg c57] at H
   have vk : decide (bp ≤ (rd bK bD)) = false := decide_eq_false c57
   clear c57
   by_cases c58 : bD > 0
   case neg =>
    rw [if_neg c58] at H
    have mC : decide (0 < bD) = false := decide_eq_false c58
    clear c58
    replace H := Option.bind_eq_some_iff.mp H
    obtain ⟨hm, qo, H⟩ := H
    replace H : (if hm = true then (postroomlaw10_LedgerCounts.l1 k2 bd bK (wrap64 (bD + 1)) br bp bb bO bU bM ((rd_T37 bb bd).f0) ((rd_T37 bb bd).f1) ((rd_T37 bb bd).f2) ((rd_T37 bb bd).f3) ((rd_T37 bb bd).f4) ((rd_T37 bb bd).f5) ((rd_T37 bb bd).f6)) else (none)) = some r := H
    have A67 := Aside0.mk qo
    clear qo
    by_cases c68 : hm = true
    case neg =>
     replace c68 := Bool.eq_false_iff.mpr c68
     subst c68
     have H1 : (none) = some r := by rw [if_neg (show ¬ (false = true) by decide)] at H; exact H
     clear H
     have H := H1
     clear H1
     exact absurd H (by simp)
    subst c68
    have H1 : (postroomlaw10_LedgerCounts.l1 k2 bd bK (wrap64 (bD + 1)) br bp bb bO bU bM ((rd_T37 bb bd).f0) ((rd_T37 bb bd).f1) ((rd_T37 bb bd).f2) ((rd_T37 bb bd).f3) ((rd_T37 bb bd).f4) ((rd_T37 bb bd).f5) ((rd_T37 bb bd).f6)) = some r := by rw [if_pos rfl] at H; exact H
    clear H
    have H := H1
    clear H1
    have H' := Aside0.mk H
    clear H
    try go_wp2
    replace b2 := Aside0.mk (Kd.R_drew b2.out)
    replace bn := Aside0.mk (Kd.V_drew bn.out)
    replace bw := Aside0.mk (Kd.V_drew bw.out)
    replace bf := Aside0.mk (blk_drew bf.out)
    replace bg := Aside0.mk (blk_drew bg.out)
    replace bC := Aside0.mk (blk_drew bC.out)
    replace bm := Aside0.mk (blk_drew bm.out)
    replace bN := Aside0.mk (Kd.C_drew bN.out)
    replace HB := Aside0.mk (below_drew1 HB.out)
    have gv : 0 ≤ (bD : Int) := of_decide_eq_true zx26_11
    have gs : bD < (bK.length : Int) := of_decide_eq_true zx26_11
    obtain ⟨dd, mX, dJ⟩ := Kd.at_int (Kd.R_reads' b2.out).2.2 bD gv gs
    cases mX
    replace gv := eq_true gv
    replace gs := eq_true gs
    have gu : 0 ≤ (bD : Int) := of_decide_eq_true zx26_11
    have gr : bD < (bK.length : Int) := of_decide_eq_true zx26_11
    obtain ⟨he, mW, dI⟩ := Kd.at_int (Kd.R_reads' b2.out).2.2 bD gu gr
    obtain rfl : dd = he := (by injection mW)
    replace gu := eq_true gu
    replace gr := eq_true gr
    have gt : 0 ≤ (bD : Int) := of_decide_eq_true zx26_11
    have gq : bD < (bK.length : Int) := of_decide_eq_true zx26_11
    obtain ⟨hc, mV, dH⟩ := Kd.at_int (Kd.R_reads' b2.out).2.2 bD gt gq
    obtain rfl : dd = hc := (by injection mV)
    replace gt := eq_true gt
    replace gq := eq_true gq
    have hq : 0 ≤ (bD : Int) := of_decide_eq_true zx26_11
    have hn : bD < (bK.length : Int) := of_decide_eq_true zx26_11
    obtain ⟨qd, sj, gm⟩ := Kd.at_int (Kd.R_reads' b2.out).2.2 bD hq hn
    obtain rfl : dd = qd := (by injection sj)
    replace hq := eq_true hq
    replace hn := eq_true hn
    refine start_ (n := 52) (S := fun w' => w'.cell? ⟨bo, 0, none⟩ = some (.string ((rd_T37 bb bd).f0)) ∧ w'.cell? ⟨bo, 1, none⟩ = some (.int .u64 ((rd_T37 bb bd).f1)) ∧ w'.cell? ⟨bo, 2, none⟩ = some (.int .u64 ((rd_T37 bb bd).f2)) ∧ w'.cell? ⟨bo, 3, none⟩ = some (.slice bP ((rd_T37 bb bd).f3).length bR) ∧ w'.cell? ⟨bo, 4, none⟩ = some (.int .u64 ((rd_T37 bb bd).f4)) ∧ w'.cell? ⟨bo, 5, none⟩ = some (.int .u64 ((rd_T37 bb bd).f5)) ∧ w'.cell? ⟨bo, 6, none⟩ = some (.int .u64 ((rd_T37 bb bd).f6)) ∧ w'.cell? ⟨bc, 0, none⟩ = some (.int .u64 br) ∧ w'.cell? ⟨bc, 1, none⟩ = some (.int .u64 bp) ∧ w'.cell? ⟨bc, 2, none⟩ = some (.slice (some b0) bb.length bq) ∧ w'.cell? (dd.add (bD).toNat) = some (.int .u64 (rd bK bD)) ∧ w'.cell? (dd.add (bD).toNat) = some (.int .u64 (rd bK bD)) ∧ w'.cell? (dd.add (bD).toNat) = some (.int .u64 (rd bK bD)) ∧ w'.cell? (dd.add (bD).toNat) = some (.int .u64 (rd bK bD))) (ds := []) #[Ff,Ff,Ff,Ff,Ff,Ff,Ff,Ff,Ff,Ff,Ff,Ff,Ff,Ff,Ff,Ff,Ff,Ff,Ff,Ff,Ff,Ff,Ff,Ff,Ff,Ff,Ff,Ff,Ff,Ff,Ff,Ff,Ff,Ff,Ff,Ff,Ff,Ff,Ff,Ff,Ff,Ff,Ff,Ff,Ff,Ff,Ff,Ff,Ff,Ff,Ff,Ff] (by kernel_rfl) rfl rfl ⟨(blk_cell bm.out 0).trans rfl, (blk_cell bm.out 1).trans rfl, (blk_cell bm.out 2).trans rfl, (blk_cell bm.out 3).trans rfl, (blk_cell bm.out 4).trans rfl, (blk_cell bm.out 5).trans rfl, (blk_cell bm.out 6).trans rfl, (blk_cell bg.out 0).trans rfl, (blk_cell bg.out 1).trans rfl, (blk_cell bg.out 2).trans rfl, dJ, dI, dH, gm⟩ (fun hHeld => ?_); refine with_tabW postroomlaw10_LedgerCounts.tab16 postroomlaw10_LedgerCounts.bits16 (fun HT_ HW_ => ?_)
    generalize wr.drew = w69 at b2 bn bw bf bg bC bm bN HB dJ dI dH gm hHeld ⊢
    refine pp_ 0 (some 74) HT_.out ?_
    refine pp_ 1 (some 75) HT_.out ?_
    refine pp_ 2 (some 76) HT_.out ?_
    refine pp_ 4 (some 78) HT_.out ?_
    refine take_ (i := 3) (N := some 77) (v := ?_) (a' := ?_) #[Tt,Tt,Tt,Tt,Tt,Ff,Ff,Ff,Ff,Ff,Ff,Ff,Ff,Ff,Ff,Ff,Ff,Ff,Ff,Ff,Ff,Ff,Ff,Ff,Ff,Ff,Ff,Ff,Ff,Ff,Ff,Ff,Ff,Ff,Ff,Ff,Ff,Ff,Ff,Ff,Ff,Ff,Ff,Ff,Ff,Ff,Ff,Ff,Ff,Ff,Ff,Ff] rfl rfl (take_ofW HT_.out HW_.out (by kernel_rfl)) (fun _ _ _ h => h) (Or.inl ⟨by rfl, ?_⟩) hHeld ?_ ?_
    rotate_left
    ·rintro w' ⟨s0, s1, s2, s3, s4, s5, s6, s7, s8, s9, s10, s11, s12, s13⟩
     go_simp
     with_reducible rfl
    rotate_left
    ·simp only [Act.put, List.setIfInBounds_toArray, List.set_cons_zero, List.set_cons_succ, i64_w, i32_w]
     rfl
    refine take_ (i := 5) (N := some 79) (v := ?_) (a' := ?_) #[Tt,Tt,Tt,Tt,Tt,Tt,Ff,Ff,Ff,Ff,Ff,Ff,Ff,Ff,Ff,Ff,Ff,Ff,Ff,Ff,Ff,Ff,Ff,Ff,Ff,Ff,Ff,Ff,Ff,Ff,Ff,Ff,Ff,Ff,Ff,Ff,Ff,Ff,Ff,Ff,Ff,Ff,Ff,Ff,Ff,Ff,Ff,Ff,Ff,Ff,Ff,Ff] rfl rfl (take_ofW HT_.out HW_.out (by kernel_rfl)) (fun _ _ _ h => h) (Or.inl ⟨by rfl, ?_⟩) hHeld ?_ ?_
    rotate_left
    ·rintro w' ⟨s0, s1, s2, s3, s4, s5, s6, s7, s8, s9, s10, s11, s12, s13⟩
     go_simp
     with_reducible rfl
    rotate_left
    ·simp only [Act.put, List.setIfInBounds_toArray, List.set_cons_zero, List.set_cons_succ, i64_w, i32_w]
     rfl
    refine pp_ 6 (some 80) HT_.out ?_
    refine pp_ 7 (some 81) HT_.out ?_
    refine pp_ 8 (some 82) HT_.out ?_
    refine pp_ 9 (some 83) HT_.out ?_
    refine pp_ 10 (some 84) HT_.out ?_
    refine pp_ 12 (some 86) HT_.out ?_
    refine take_ (i := 11) (N := some 85) (v := ?_) (a' := ?_) #[Tt,Tt,Tt,Tt,Tt,Tt,Tt,Tt,Tt,Tt,Tt,Tt,Tt,Ff,Ff,Ff,Ff,Ff,Ff,Ff,Ff,Ff,Ff,Ff,Ff,Ff,Ff,Ff,Ff,Ff,Ff,Ff,Ff,Ff,Ff,Ff,Ff,Ff,Ff,Ff,Ff,Ff,Ff,Ff,Ff,Ff,Ff,Ff,Ff,Ff,Ff,Ff] rfl rfl (take_ofW HT_.out HW_.out (by kernel_rfl)) (fun _ _ _ h => h) (Or.inl ⟨by rfl, ?_⟩) hHeld ?_ ?_
    rotate_left
    ·rintro w' ⟨s0, s1, s2, s3, s4, s5, s6, s7, s8, s9, s10, s11, s12, s13⟩
     go_simp
     with_reducible rfl
    rotate_left
    ·simp only [Act.put, List.setIfInBounds_toArray, List.set_cons_zero, List.set_cons_succ, i64_w, i32_w]
     rfl
    refine take_ (i := 13) (N := some 87) (v := ?_) (a' := ?_) #[Tt,Tt,Tt,Tt,Tt,Tt,Tt,Tt,Tt,Tt,Tt,Tt,Tt,Tt,Ff,Ff,Ff,Ff,Ff,Ff,Ff,Ff,Ff,Ff,Ff,Ff,Ff,Ff,Ff,Ff,Ff,Ff,Ff,Ff,Ff,Ff,Ff,Ff,Ff,Ff,Ff,Ff,Ff,Ff,Ff,Ff,Ff,Ff,Ff,Ff,Ff,Ff] rfl rfl (take_ofW HT_.out HW_.out (by kernel_rfl)) (fun _ _ _ h => h) (Or.inl ⟨by rfl, ?_⟩) hHeld ?_ ?_
    rotate_left
    ·rintro w' ⟨s0, s1, s2, s3, s4, s5, s6, s7, s8, s9, s10, s11, s12, s13⟩
     go_simp
     with_reducible rfl
    rotate_left
    ·simp only [Act.put, List.setIfInBounds_toArray, List.set_cons_zero, List.set_cons_succ, i64_w, i32_w]
     rfl
    refine pp_ 14 (some 88) HT_.out ?_
    refine pp_ 15 (some 89) HT_.out ?_
    refine pp_ 16 (some 90) HT_.out ?_
    refine pp_ 17 (some 91) HT_.out ?_
    refine pp_ 18 (some 92) HT_.out ?_
    refine pp_ 19 (some 93) HT_.out ?_
    refine pp_ 21 (some 95) HT_.out ?_
    refine take_ (i := 20) (N := some 94) (v := ?_) (a' := ?_) #[Tt,Tt,Tt,Tt,Tt,Tt,Tt,Tt,Tt,Tt,Tt,Tt,Tt,Tt,Tt,Tt,Tt,Tt,Tt,Tt,Tt,Tt,Ff,Ff,Ff,Ff,Ff,Ff,Ff,Ff,Ff,Ff,Ff,Ff,Ff,Ff,Ff,Ff,Ff,Ff,Ff,Ff,Ff,Ff,Ff,Ff,Ff,Ff,Ff,Ff,Ff,Ff] rfl rfl (take_ofW HT_.out HW_.out (by kernel_rfl)) (fun _ _ _ h => h) (Or.inl ⟨by rfl, ?_⟩) hHeld ?_ ?_
    rotate_left
    ·rintro w' ⟨s0, s1, s2, s3, s4, s5, s6, s7, s8, s9, s10, s11, s12, s13⟩
     go_simp
     with_reducible rfl
    rotate_left
    ·simp only [Act.put, List.setIfInBounds_toArray, List.set_cons_zero, List.set_cons_succ, i64_w, i32_w]
     rfl
    refine take_ (i := 22) (N := some 96) (v := ?_) (a' := ?_) #[Tt,Tt,Tt,Tt,Tt,Tt,Tt,Tt,Tt,Tt,Tt,Tt,Tt,Tt,Tt,Tt,Tt,Tt,Tt,Tt,Tt,Tt,Tt,Ff,Ff,Ff,Ff,Ff,Ff,Ff,Ff,Ff,Ff,Ff,Ff,Ff,Ff,Ff,Ff,Ff,Ff,Ff,Ff,Ff,Ff,Ff,Ff,Ff,Ff,Ff,Ff,Ff] rfl rfl (take_ofW HT_.out HW_.out (by kernel_rfl)) (fun _ _ _ h => h) (Or.inl ⟨by rfl, ?_⟩) hHeld ?_ ?_
    rotate_left
    ·rintro w' ⟨s0, s1, s2, s3, s4, s5, s6, s7, s8, s9, s10, s11, s12, s13⟩
     go_simp
     with_reducible rfl
    rotate_left
    ·simp only [Act.put, List.setIfInBounds_toArray, List.set_cons_zero, List.set_cons_succ, i64_w, i32_w]
     rfl
    refine pp_ 23 (some 97) HT_.out ?_
    refine pp_ 24 (some 98) HT_.out ?_
    refine pp_ 25 (some 99) HT_.out ?_
    refine pp_ 26 (some 100) HT_.out ?_
    refine pp_ 27 (some 101) HT_.out ?_
    refine pp_ 28 (some 102) HT_.out ?_
    refine pu_ 29 (some 103) HT_.out ?_
    refine pu_ 30 (some 104) HT_.out ?_
    refine pu_ 31 (some 105) HT_.out ?_
    refine pu_ 32 (some 106) HT_.out ?_
    refine pu_ 33 (some 107) HT_.out ?_
    refine pu_ 34 (some 108) HT_.out ?_
    refine pu_ 35 (some 109) HT_.out ?_
    refine pu_ 36 (some 110) HT_.out ?_
    refine pu_ 37 (some 111) HT_.out ?_
    refine pu_ 38 (some 112) HT_.out ?_
    refine pp_ 39 (some 113) HT_.out ?_
    refine pp_ 40 (some 114) HT_.out ?_
    refine pp_ 41 (some 115) HT_.out ?_
    refine pp_ 43 (some 117) HT_.out ?_
    refine pp_ 45 (some 119) HT_.out ?_
    refine pp_ 46 (some 120) HT_.out ?_
    refine pp_ 47 (some 121) HT_.out ?_
    refine take_ (i := 42) (N := some 116) (v := ?_) (a' := ?_) #[Tt,Tt,Tt,Tt,Tt,Tt,Tt,Tt,Tt,Tt,Tt,Tt,Tt,Tt,Tt,Tt,Tt,Tt,Tt,Tt,Tt,Tt,Tt,Tt,Tt,Tt,Tt,Tt,Tt,Tt,Tt,Tt,Tt,Tt,Tt,Tt,Tt,Tt,Tt,Tt,Tt,Tt,Tt,Tt,Ff,Tt,Tt,Tt,Ff,Ff,Ff,Ff] rfl rfl (take_ofW HT_.out HW_.out (by kernel_rfl)) (fun _ _ _ h => h) (Or.inl ⟨by rfl, ?_⟩) hHeld ?_ ?_
    rotate_left
    ·rintro w' ⟨s0, s1, s2, s3, s4, s5, s6, s7, s8, s9, s10, s11, s12, s13⟩
     go_simp
     with_reducible rfl
    rotate_left
    ·simp only [Act.put, List.setIfInBounds_toArray, List.set_cons_zero, List.set_cons_succ, i64_w, i32_w]
     rfl
    refine take_ (i := 44) (N := some 118) (v := ?_) (a' := ?_) #[Tt,Tt,Tt,Tt,Tt,Tt,Tt,Tt,Tt,Tt,Tt,Tt,Tt,Tt,Tt,Tt,Tt,Tt,Tt,Tt,Tt,Tt,Tt,Tt,Tt,Tt,Tt,Tt,Tt,Tt,Tt,Tt,Tt,Tt,Tt,Tt,Tt,Tt,Tt,Tt,Tt,Tt,Tt,Tt,Tt,Tt,Tt,Tt,Ff,Ff,Ff,Ff] rfl rfl (take_ofW HT_.out HW_.out (by kernel_rfl)) (fun _ _ _ h => h) (Or.inl ⟨by rfl, ?_⟩) hHeld ?_ ?_
    rotate_left
    ·rintro w' ⟨s0, s1, s2, s3, s4, s5, s6, s7, s8, s9, s10, s11, s12, s13⟩
     go_simp
     with_reducible rfl
    rotate_left
    ·simp only [Act.put, List.setIfInBounds_toArray, List.set_cons_zero, List.set_cons_succ, i64_w, i32_w]
     rfl
    refine take_ (i := 48) (N := some 122) (v := ?_) (a' := ?_) #[Tt,Tt,Tt,Tt,Tt,Tt,Tt,Tt,Tt,Tt,Tt,Tt,Tt,Tt,Tt,Tt,Tt,Tt,Tt,Tt,Tt,Tt,Tt,Tt,Tt,Tt,Tt,Tt,Tt,Tt,Tt,Tt,Tt,Tt,Tt,Tt,Tt,Tt,Tt,Tt,Tt,Tt,Tt,Tt,Tt,Tt,Tt,Tt,Tt,Ff,Ff,Ff] rfl rfl (take_ofW HT_.out HW_.out (by kernel_rfl)) (fun _ _ _ h => h) (Or.inl ⟨by rfl, ?_⟩) hHeld ?_ ?_
    rotate_left
    ·rintro w' ⟨s0, s1, s2, s3, s4, s5, s6, s7, s8, s9, s10, s11, s12, s13⟩
     go_simp
     with_reducible rfl
    rotate_left
    ·simp only [Act.put, List.setIfInBounds_toArray, List.set_cons_zero, List.set_cons_succ, i64_w, i32_w]
     rfl
    refine one_ (i := 49) (N := some 123) #[Tt,Tt,Tt,Tt,Tt,Tt,Tt,Tt,Tt,Tt,Tt,Tt,Tt,Tt,Tt,Tt,Tt,Tt,Tt,Tt,Tt,Tt,Tt,Tt,Tt,Tt,Tt,Tt,Tt,Tt,Tt,Tt,Tt,Tt,Tt,Tt,Tt,Tt,Tt,Tt,Tt,Tt,Tt,Tt,Tt,Tt,Tt,Tt,Tt,Tt,Ff,Ff] rfl rfl (one_of HT_.out (by kernel_rfl)) (by decide) (fun K hK => ?_)
    refine goes_ Tryd.func19 (by kernel_rfl) rfl #[.agg #[.int .u64 br, .int .u64 bp, .slice (some b0) bb.length bq], .string ((rd_T37 bb bd).f0), .int .u64 (rd bK bD)] (by rfl) rfl rfl zx26_9 ?_
    with_reducible refine (ledger_Waits.calls k2 br bp _ _ bb ((rd_T37 bb bd).f0) (rd bK bD) true _ ?side1 ?side2 A67.out).mono ?_
    (case side1 => repeat (first | exact (Kd.V_reads' bn.out).2.2 | (with_reducible refine Kd.C_alloc ?_ _) | (with_reducible refine Kd.C_drewN ?_ _) | (with_reducible refine Kd.C_drew ?_)))
    (case side2 => exact (Kd.V_reads' bn.out).2.1)
    rintro e w70 ⟨rfl, hb⟩
    have gE := (hb.cell (World.block_lt_of_cell? _ _ (hHeld.2.2.2.2.2.2.2.2.2.2.1))).trans (hHeld.2.2.2.2.2.2.2.2.2.2.1)
    have gD := (hb.cell (World.block_lt_of_cell? _ _ (hHeld.2.2.2.2.2.2.2.2.2.2.2.1))).trans (hHeld.2.2.2.2.2.2.2.2.2.2.2.1)
    have hh := (hb.cell (World.block_lt_of_cell? _ _ (hHeld.2.2.2.2.2.2.2.2.2.2.2.2.1))).trans (hHeld.2.2.2.2.2.2.2.2.2.2.2.2.1)
    have hf := (hb.cell (World.block_lt_of_cell? _ _ (hHeld.2.2.2.2.2.2.2.2.2.2.2.2.2))).trans (hHeld.2.2.2.2.2.2.2.2.2.2.2.2.2)
    refine ⟨_, rfl, ?_⟩
    replace b2 := Aside0.mk (Kd.R_below zx26_22 hb)
    replace bn := Aside0.mk (Kd.V_below zx26_20 hb)
    replace bw := Aside0.mk (Kd.V_below zx26_21 hb)
    replace bf := Aside0.mk (blk_below (g := ba) (o := .cells #[.int .i64 bk, .int .i64 bj, .int .i64 bi, .int .i64 bh] 43 (0, 0)) zx26_0 hb)
    replace bg := Aside0.mk (blk_below (g := bc) (o := .cells #[.int .u64 br, .int .u64 bp, .slice (some b0) bb.length bq] 27 (0, 0)) zx26_2 hb)
    replace bC := Aside0.mk (blk_below (g := be) (o := .cells #[.int .u64 bO, .int .u64 bU, .slice de bM.length dc] 27 (0, 0)) zx26_5 hb)
    replace bm := Aside0.mk (blk_below (g := bo) (o := .cells #[.string ((rd_T37 bb bd).f0), .int .u64 ((rd_T37 bb bd).f1), .int .u64 ((rd_T37 bb bd).f2), .slice bP ((rd_T37 bb bd).f3).length bR, .int .u64 ((rd_T37 bb bd).f4), .int .u64 ((rd_T37 bb bd).f5), .int .u64 ((rd_T37 bb bd).f6)] 37 (0, 0)) zx26_14 hb)
    replace bN := Aside0.mk (Kd.C_below zx26_13 hb)
    replace HB := Aside0.mk (below_step zx26_6 hb)
    (try clear hb)
    (try clear hb2)
    (try clear hk)
    (try clear hi)
    refine hK.out _ _ ⟨(blk_cell bm.out 0).trans rfl, (blk_cell bm.out 1).trans rfl, (blk_cell bm.out 2).trans rfl, (blk_cell bm.out 3).trans rfl, (blk_cell bm.out 4).trans rfl, (blk_cell bm.out 5).trans rfl, (blk_cell bm.out 6).trans rfl, (blk_cell bg.out 0).trans rfl, (blk_cell bg.out 1).trans rfl, (blk_cell bg.out 2).trans rfl, gE, gD, hh, hf⟩ (fun hHeld => ?_)
    clear hK K
    refine na_ 123 ?_
    refine pp_ 50 (some 124) HT_.out ?_
    refine pp_ 51 (some 125) HT_.out ?_
    refine done_ (done_of HT_.out (by kernel_rfl)) ?_
    try go_wp2
    go_roundg k2
    case measure => have := HK1.out; have := HK2.out; omega
    case rel => exact ⟨(wrap64 (bD + 1)), zx26_32, H', ⟨by have := HK1.out; have := HK2.out; omega⟩, ⟨by (with_reducible repeat (first | apply Kd.R_alloc | apply Kd.R_drewN | apply Kd.R_drew)); exact b2.out⟩, ⟨by (with_reducible repeat (first | apply Kd.V_alloc | apply Kd.V_drewN | apply Kd.V_drew)); exact bn.out⟩, ⟨by (with_reducible repeat (first | apply Kd.V_alloc | apply Kd.V_drewN | apply Kd.V_drew)); exact bw.out⟩, ⟨by (with_reducible repeat (first | refine blk_drewN ?_ _ | refine blk_drew ?_ | refine blk_alloc ?_ _)); exact bf.out⟩, ⟨by (with_reducible repeat (first | refine blk_drewN ?_ _ | refine blk_drew ?_ | refine blk_alloc ?_ _)); exact bg.out⟩, ⟨by (with_reducible repeat (first | refine blk_drewN ?_ _ | refine blk_drew ?_ | refine blk_alloc ?_ _)); exact bC.out⟩, ⟨by (with_reducible repeat (first | refine blk_drewN ?_ _ | refine blk_drew ?_ | refine blk_alloc ?_ _)); exact bm.out⟩, ⟨by repeat (first | (with_reducible exact bN.out) | (with_reducible refine Kd.C_alloc ?_ _) | (with_reducible refine Kd.C_drewN ?_ _) | (with_reducible refine Kd.C_drew ?_) | exact bN.out)⟩, ⟨by repeat (first | (with_reducible first | exact HB.out | apply below_alloc | apply pw_below_drewN | apply below_drew1 | refine below_set ?_ df.out | refine below_set ?_ dm.out | refine below_set ?_ bH.out | refine below_set ?_ dT.out) | exact HB.out)⟩⟩
   rw [if_pos c58] at H
   have mC : decide (0 < bD) = true := decide_eq_true c58
   clear c58
   obtain ⟨dV, gY⟩ : ∃ j_ : Int, (wrap64 (bD - 1)) = j_ := ⟨_, rfl⟩
   replace H : (if 0 ≤ (dV) then (if (dV) < (bK.length : Int) then (if (rd bK bD) ≤ (rd bK (dV)) then (none) else ((ledger_Waits.f k2 br bp bb ((rd_T37 bb bd).f0) (rd bK bD)).bind fun gU => (if gU = true then (postroomlaw10_LedgerCounts.l1 k2 bd bK (wrap64 (bD + 1)) br bp bb bO bU bM ((rd_T37 bb bd).f0) ((rd_T37 bb bd).f1) ((rd_T37 bb bd).f2) ((rd_T37 bb bd).f3) ((rd_T37 bb bd).f4) ((rd_T37 bb bd).f5) ((rd_T37 bb bd).f6)) else (none)))) else (none)) else (none)) = some r := by first | (rw [gY] at H; exact H) | (simp only [gY] at H ⊢; exact H)
   have hji59w : (IntKind.i64.wrap (bD - 1)) = dV := (i64_w _).trans gY
   by_cases c60 : 0 ≤ (dV)
   case neg =>
    rw [if_neg c60] at H
    exact absurd H (by simp)
   rw [if_pos c60] at H
   have vj : decide (0 ≤ (dV)) = true := decide_eq_true c60
   clear c60
   by_cases c61 : (dV) < (bK.length : Int)
   case neg =>
    rw [if_neg c61] at H
    exact absurd H (by simp)
   rw [if_pos c61] at H
   have vi : decide ((dV) < (bK.length : Int)) = true := decide_eq_true c61
   clear c61
   by_cases c62 : (rd bK bD) ≤ (rd bK (dV))
   ·rw [if_pos c62] at H
    exact absurd H (by simp)
   rw [if_neg c62] at H
   have vh : decide ((rd bK bD) ≤ (rd bK (dV))) = false := decide_eq_false c62
   clear c62
   replace H := Option.bind_eq_some_iff.mp H
   obtain ⟨gU, qp, H⟩ := H
   replace H : (if gU = true then (postroomlaw10_LedgerCounts.l1 k2 bd bK (wrap64 (bD + 1)) br bp bb bO bU bM ((rd_T37 bb bd).f0) ((rd_T37 bb bd).f1) ((rd_T37 bb bd).f2) ((rd_T37 bb bd).f3) ((rd_T37 bb bd).f4) ((rd_T37 bb bd).f5) ((rd_T37 bb bd).f6)) else (none)) = some r := H
   have A63 := Aside0.mk qp
   clear qp
   by_cases c64 : gU = true
   case neg =>
    replace c64 := Bool.eq_false_iff.mpr c64
    subst c64
    have H1 : (none) = some r := by rw [if_neg (show ¬ (false = true) by decide)] at H; exact H
    clear H
    have H := H1
    clear H1
    exact absurd H (by simp)
   subst c64
   have H1 : (postroomlaw10_LedgerCounts.l1 k2 bd bK (wrap64 (bD + 1)) br bp bb bO bU bM ((rd_T37 bb bd).f0) ((rd_T37 bb bd).f1) ((rd_T37 bb bd).f2) ((rd_T37 bb bd).f3) ((rd_T37 bb bd).f4) ((rd_T37 bb bd).f5) ((rd_T37 bb bd).f6)) = some r := by rw [if_pos rfl] at H; exact H
   clear H
   have H := H1
   clear H1
   have H' := Aside0.mk H
   clear H
   try go_wp2
   replace b2 := Aside0.mk (Kd.R_drew b2.out)
   replace bn := Aside0.mk (Kd.V_drew bn.out)
   replace bw := Aside0.mk (Kd.V_drew bw.out)
   replace bf := Aside0.mk (blk_drew bf.out)
   replace bg := Aside0.mk (blk_drew bg.out)
   replace bC := Aside0.mk (blk_drew bC.out)
   replace bm := Aside0.mk (blk_drew bm.out)
   replace bN := Aside0.mk (Kd.C_drew bN.out)
   replace HB := Aside0.mk (below_drew1 HB.out)
   have gv : 0 ≤ (bD : Int) := of_decide_eq_true zx26_11
   have gs : bD < (bK.length : Int) := of_decide_eq_true zx26_11
   obtain ⟨dd, mX, dJ⟩ := Kd.at_int (Kd.R_reads' b2.out).2.2 bD gv gs
   cases mX
   replace gv := eq_true gv
   replace gs := eq_true gs
   have gu : 0 ≤ (bD : Int) := of_decide_eq_true zx26_11
   have gr : bD < (bK.length : Int) := of_decide_eq_true zx26_11
   obtain ⟨he, mW, dI⟩ := Kd.at_int (Kd.R_reads' b2.out).2.2 bD gu gr
   obtain rfl : dd = he := (by injection mW)
   replace gu := eq_true gu
   replace gr := eq_true gr
   have gt : 0 ≤ (bD : Int) := of_decide_eq_true zx26_11
   have gq : bD < (bK.length : Int) := of_decide_eq_true zx26_11
   obtain ⟨hc, mV, dH⟩ := Kd.at_int (Kd.R_reads' b2.out).2.2 bD gt gq
   obtain rfl : dd = hc := (by injection mV)
   replace gt := eq_true gt
   replace gq := eq_true gq
   have mR : 0 ≤ (bD : Int) := of_decide_eq_true zx26_11
   have mN : bD < (bK.length : Int) := of_decide_eq_true zx26_11
   obtain ⟨qg, sn, gN⟩ := Kd.at_int (Kd.R_reads' b2.out).2.2 bD mR mN
   obtain rfl : dd = qg := (by injection sn)
   replace mR := eq_true mR
   replace mN := eq_true mN
   have mQ : 0 ≤ ((dV) : Int) := of_decide_eq_true zx26_11
   have mM : (dV) < (bK.length : Int) := of_decide_eq_true zx26_11
   obtain ⟨qf, sl, gM⟩ := Kd.at_int (Kd.R_reads' b2.out).2.2 (dV) mQ mM
   obtain rfl : dd = qf := (by injection sl)
   replace mQ := eq_true mQ
   replace mM := eq_true mM
   have mP : 0 ≤ (bD : Int) := of_decide_eq_true zx26_11
   have mL : bD < (bK.length : Int) := of_decide_eq_true zx26_11
   obtain ⟨qe, sk, gL⟩ := Kd.at_int (Kd.R_reads' b2.out).2.2 bD mP mL
   obtain rfl : dd = qe := (by injection sk)
   replace mP := eq_true mP
   replace mL := eq_true mL
   refine start_ (n := 52) (S := fun w' => w'.cell? ⟨bo, 0, none⟩ = some (.string ((rd_T37 bb bd).f0)) ∧ w'.cell? ⟨bo, 1, none⟩ = some (.int .u64 ((rd_T37 bb bd).f1)) ∧ w'.cell? ⟨bo, 2, none⟩ = some (.int .u64 ((rd_T37 bb bd).f2)) ∧ w'.cell? ⟨bo, 3, none⟩ = some (.slice bP ((rd_T37 bb bd).f3).length bR) ∧ w'.cell? ⟨bo, 4, none⟩ = some (.int .u64 ((rd_T37 bb bd).f4)) ∧ w'.cell? ⟨bo, 5, none⟩ = some (.int .u64 ((rd_T37 bb bd).f5)) ∧ w'.cell? ⟨bo, 6, none⟩ = some (.int .u64 ((rd_T37 bb bd).f6)) ∧ w'.cell? ⟨bc, 0, none⟩ = some (.int .u64 br) ∧ w'.cell? ⟨bc, 1, none⟩ = some (.int .u64 bp) ∧ w'.cell? ⟨bc, 2, none⟩ = some (.slice (some b0) bb.length bq) ∧ w'.cell? (dd.add (bD).toNat) = some (.int .u64 (rd bK bD)) ∧ w'.cell? (dd.add (bD).toNat) = some (.int .u64 (rd bK bD)) ∧ w'.cell? (dd.add (bD).toNat) = some (.int .u64 (rd bK bD)) ∧ w'.cell? (dd.add (bD).toNat) = some (.int .u64 (rd bK bD)) ∧ w'.cell? (dd.add ((dV)).toNat) = some (.int .u64 (rd bK (dV))) ∧ w'.cell? (dd.add (bD).toNat) = some (.int .u64 (rd bK bD))) (ds := []) #[Ff,Ff,Ff,Ff,Ff,Ff,Ff,Ff,Ff,Ff,Ff,Ff,Ff,Ff,Ff,Ff,Ff,Ff,Ff,Ff,Ff,Ff,Ff,Ff,Ff,Ff,Ff,Ff,Ff,Ff,Ff,Ff,Ff,Ff,Ff,Ff,Ff,Ff,Ff,Ff,Ff,Ff,Ff,Ff,Ff,Ff,Ff,Ff,Ff,Ff,Ff,Ff] (by kernel_rfl) rfl rfl ⟨(blk_cell bm.out 0).trans rfl, (blk_cell bm.out 1).trans rfl, (blk_cell bm.out 2).trans rfl, (blk_cell bm.out 3).trans rfl, (blk_cell bm.out 4).trans rfl, (blk_cell bm.out 5).trans rfl, (blk_cell bm.out 6).trans rfl, (blk_cell bg.out 0).trans rfl, (blk_cell bg.out 1).trans rfl, (blk_cell bg.out 2).trans rfl, dJ, dI, dH, gN, gM, gL⟩ (fun hHeld => ?_); refine with_tabW postroomlaw10_LedgerCounts.tab16 postroomlaw10_LedgerCounts.bits16 (fun HT_ HW_ => ?_)
   generalize wr.drew = w65 at b2 bn bw bf bg bC bm bN HB dJ dI dH gN gM gL hHeld ⊢
   refine pp_ 0 (some 74) HT_.out ?_
   refine pp_ 1 (some 75) HT_.out ?_
   refine pp_ 2 (some 76) HT_.out ?_
   refine pp_ 4 (some 78) HT_.out ?_
   refine take_ (i := 3) (N := some 77) (v := ?_) (a' := ?_) #[Tt,Tt,Tt,Tt,Tt,Ff,Ff,Ff,Ff,Ff,Ff,Ff,Ff,Ff,Ff,Ff,Ff,Ff,Ff,Ff,Ff,Ff,Ff,Ff,Ff,Ff,Ff,Ff,Ff,Ff,Ff,Ff,Ff,Ff,Ff,Ff,Ff,Ff,Ff,Ff,Ff,Ff,Ff,Ff,Ff,Ff,Ff,Ff,Ff,Ff,Ff,Ff] rfl rfl (take_ofW HT_.out HW_.out (by kernel_rfl)) (fun _ _ _ h => h) (Or.inl ⟨by rfl, ?_⟩) hHeld ?_ ?_
   rotate_left
   ·rintro w' ⟨s0, s1, s2, s3, s4, s5, s6, s7, s8, s9, s10, s11, s12, s13, s14, s15⟩
    go_simp
    with_reducible rfl
   rotate_left
   ·simp only [Act.put, List.setIfInBounds_toArray, List.set_cons_zero, List.set_cons_succ, i64_w, i32_w]
    rfl
   refine take_ (i := 5) (N := some 79) (v := ?_) (a' := ?_) #[Tt,Tt,Tt,Tt,Tt,Tt,Ff,Ff,Ff,Ff,Ff,Ff,Ff,Ff,Ff,Ff,Ff,Ff,Ff,Ff,Ff,Ff,Ff,Ff,Ff,Ff,Ff,Ff,Ff,Ff,Ff,Ff,Ff,Ff,Ff,Ff,Ff,Ff,Ff,Ff,Ff,Ff,Ff,Ff,Ff,Ff,Ff,Ff,Ff,Ff,Ff,Ff] rfl rfl (take_ofW HT_.out HW_.out (by kernel_rfl)) (fun _ _ _ h => h) (Or.inl ⟨by rfl, ?_⟩) hHeld ?_ ?_
   rotate_left
   ·rintro w' ⟨s0, s1, s2, s3, s4, s5, s6, s7, s8, s9, s10, s11, s12, s13, s14, s15⟩
    go_simp
    with_reducible rfl
   rotate_left
   ·simp only [Act.put, List.setIfInBounds_toArray, List.set_cons_zero, List.set_cons_succ, i64_w, i32_w]
    rfl
   refine pp_ 6 (some 80) HT_.out ?_
   refine pp_ 7 (some 81) HT_.out ?_
   refine pp_ 8 (some 82) HT_.out ?_
   refine pp_ 9 (some 83) HT_.out ?_
   refine pp_ 10 (some 84) HT_.out ?_
   refine pp_ 12 (some 86) HT_.out ?_
   refine take_ (i := 11) (N := some 85) (v := ?_) (a' := ?_) #[Tt,Tt,Tt,Tt,Tt,Tt,Tt,Tt,Tt,Tt,Tt,Tt,Tt,Ff,Ff,Ff,Ff,Ff,Ff,Ff,Ff,Ff,Ff,Ff,Ff,Ff,Ff,Ff,Ff,Ff,Ff,Ff,Ff,Ff,Ff,Ff,Ff,Ff,Ff,Ff,Ff,Ff,Ff,Ff,Ff,Ff,Ff,Ff,Ff,Ff,Ff,Ff] rfl rfl (take_ofW HT_.out HW_.out (by kernel_rfl)) (fun _ _ _ h => h) (Or.inl ⟨by rfl, ?_⟩) hHeld ?_ ?_
   rotate_left
   ·rintro w' ⟨s0, s1, s2, s3, s4, s5, s6, s7, s8, s9, s10, s11, s12, s13, s14, s15⟩
    go_simp
    with_reducible rfl
   rotate_left
   ·simp only [Act.put, List.setIfInBounds_toArray, List.set_cons_zero, List.set_cons_succ, i64_w, i32_w]
    rfl
   refine take_ (i := 13) (N := some 87) (v := ?_) (a' := ?_) #[Tt,Tt,Tt,Tt,Tt,Tt,Tt,Tt,Tt,Tt,Tt,Tt,Tt,Tt,Ff,Ff,Ff,Ff,Ff,Ff,Ff,Ff,Ff,Ff,Ff,Ff,Ff,Ff,Ff,Ff,Ff,Ff,Ff,Ff,Ff,Ff,Ff,Ff,Ff,Ff,Ff,Ff,Ff,Ff,Ff,Ff,Ff,Ff,Ff,Ff,Ff,Ff] rfl rfl (take_ofW HT_.out HW_.out (by kernel_rfl)) (fun _ _ _ h => h) (Or.inl ⟨by rfl, ?_⟩) hHeld ?_ ?_
   rotate_left
   ·rintro w' ⟨s0, s1, s2, s3, s4, s5, s6, s7, s8, s9, s10, s11, s12, s13, s14, s15⟩
    go_simp
    with_reducible rfl
   rotate_left
   ·simp only [Act.put, List.setIfInBounds_toArray, List.set_cons_zero, List.set_cons_succ, i64_w, i32_w]
    rfl
   refine pp_ 14 (some 88) HT_.out ?_
   refine pp_ 15 (some 89) HT_.out ?_
   refine pp_ 16 (some 90) HT_.out ?_
   refine pp_ 17 (some 91) HT_.out ?_
   refine pp_ 18 (some 92) HT_.out ?_
   refine pp_ 19 (some 93) HT_.out ?_
   refine pp_ 21 (some 95) HT_.out ?_
   refine take_ (i := 20) (N := some 94) (v := ?_) (a' := ?_) #[Tt,Tt,Tt,Tt,Tt,Tt,Tt,Tt,Tt,Tt,Tt,Tt,Tt,Tt,Tt,Tt,Tt,Tt,Tt,Tt,Tt,Tt,Ff,Ff,Ff,Ff,Ff,Ff,Ff,Ff,Ff,Ff,Ff,Ff,Ff,Ff,Ff,Ff,Ff,Ff,Ff,Ff,Ff,Ff,Ff,Ff,Ff,Ff,Ff,Ff,Ff,Ff] rfl rfl (take_ofW HT_.out HW_.out (by kernel_rfl)) (fun _ _ _ h => h) (Or.inl ⟨by rfl, ?_⟩) hHeld ?_ ?_
   rotate_left
   ·rintro w' ⟨s0, s1, s2, s3, s4, s5, s6, s7, s8, s9, s10, s11, s12, s13, s14, s15⟩
    go_simp
    with_reducible rfl
   rotate_left
   ·simp only [Act.put, List.setIfInBounds_toArray, List.set_cons_zero, List.set_cons_succ, i64_w, i32_w]
    rfl
   refine take_ (i := 22) (N := some 96) (v := ?_) (a' := ?_) #[Tt,Tt,Tt,Tt,Tt,Tt,Tt,Tt,Tt,Tt,Tt,Tt,Tt,Tt,Tt,Tt,Tt,Tt,Tt,Tt,Tt,Tt,Tt,Ff,Ff,Ff,Ff,Ff,Ff,Ff,Ff,Ff,Ff,Ff,Ff,Ff,Ff,Ff,Ff,Ff,Ff,Ff,Ff,Ff,Ff,Ff,Ff,Ff,Ff,Ff,Ff,Ff] rfl rfl (take_ofW HT_.out HW_.out (by kernel_rfl)) (fun _ _ _ h => h) (Or.inl ⟨by rfl, ?_⟩) hHeld ?_ ?_
   rotate_left
   ·rintro w' ⟨s0, s1, s2, s3, s4, s5, s6, s7, s8, s9, s10, s11, s12, s13, s14, s15⟩
    go_simp
    with_reducible rfl
   rotate_left
   ·simp only [Act.put, List.setIfInBounds_toArray, List.set_cons_zero, List.set_cons_succ, i64_w, i32_w]
    rfl
   refine pp_ 23 (some 97) HT_.out ?_
   refine pp_ 24 (some 98) HT_.out ?_
   refine pp_ 25 (some 99) HT_.out ?_
   refine pp_ 26 (some 100) HT_.out ?_
   refine pp_ 27 (some 101) HT_.out ?_
   refine pp_ 28 (some 102) HT_.out ?_
   refine pp_ 29 (some 103) HT_.out ?_
   refine pp_ 30 (some 104) HT_.out ?_
   refine pp_ 31 (some 105) HT_.out ?_
   refine pp_ 33 (some 107) HT_.out ?_
   refine pp_ 34 (some 108) HT_.out ?_
   refine pp_ 35 (some 109) HT_.out ?_
   refine pp_ 36 (some 110) HT_.out ?_
   refine take_ (i := 32) (N := some 106) (v := ?_) (a' := ?_) #[Tt,Tt,Tt,Tt,Tt,Tt,Tt,Tt,Tt,Tt,Tt,Tt,Tt,Tt,Tt,Tt,Tt,Tt,Tt,Tt,Tt,Tt,Tt,Tt,Tt,Tt,Tt,Tt,Tt,Tt,Tt,Tt,Tt,Tt,Tt,Tt,Tt,Ff,Ff,Ff,Ff,Ff,Ff,Ff,Ff,Ff,Ff,Ff,Ff,Ff,Ff,Ff] rfl rfl (take_ofW HT_.out HW_.out (by kernel_rfl)) (fun _ _ _ h => h) (Or.inl ⟨by rfl, ?_⟩) hHeld ?_ ?_
   rotate_left
   ·rintro w' ⟨s0, s1, s2, s3, s4, s5, s6, s7, s8, s9, s10, s11, s12, s13, s14, s15⟩
    go_simp
    with_reducible rfl
   rotate_left
   ·simp only [Act.put, List.setIfInBounds_toArray, List.set_cons_zero, List.set_cons_succ, i64_w, i32_w]
    rfl
   refine take_ (i := 37) (N := some 111) (v := ?_) (a' := ?_) #[Tt,Tt,Tt,Tt,Tt,Tt,Tt,Tt,Tt,Tt,Tt,Tt,Tt,Tt,Tt,Tt,Tt,Tt,Tt,Tt,Tt,Tt,Tt,Tt,Tt,Tt,Tt,Tt,Tt,Tt,Tt,Tt,Tt,Tt,Tt,Tt,Tt,Tt,Ff,Ff,Ff,Ff,Ff,Ff,Ff,Ff,Ff,Ff,Ff,Ff,Ff,Ff] rfl rfl (take_ofW HT_.out HW_.out (by kernel_rfl)) (fun _ _ _ h => h) (Or.inl ⟨by rfl, ?_⟩) hHeld ?_ ?_
   rotate_left
   ·rintro w' ⟨s0, s1, s2, s3, s4, s5, s6, s7, s8, s9, s10, s11, s12, s13, s14, s15⟩
    go_simp
    with_reducible rfl
   rotate_left
   ·simp only [Act.put, List.setIfInBounds_toArray, List.set_cons_zero, List.set_cons_succ, i64_w, i32_w]
    rfl
   refine pp_ 38 (some 112) HT_.out ?_
   refine pp_ 39 (some 113) HT_.out ?_
   refine pp_ 40 (some 114) HT_.out ?_
   refine pp_ 41 (some 115) HT_.out ?_
   refine pp_ 43 (some 117) HT_.out ?_
   refine pp_ 45 (some 119) HT_.out ?_
   refine pp_ 46 (some 120) HT_.out ?_
   refine pp_ 47 (some 121) HT_.out ?_
   refine take_ (i := 42) (N := some 116) (v := ?_) (a' := ?_) #[Tt,Tt,Tt,Tt,Tt,Tt,Tt,Tt,Tt,Tt,Tt,Tt,Tt,Tt,Tt,Tt,Tt,Tt,Tt,Tt,Tt,Tt,Tt,Tt,Tt,Tt,Tt,Tt,Tt,Tt,Tt,Tt,Tt,Tt,Tt,Tt,Tt,Tt,Tt,Tt,Tt,Tt,Tt,Tt,Ff,Tt,Tt,Tt,Ff,Ff,Ff,Ff] rfl rfl (take_ofW HT_.out HW_.out (by kernel_rfl)) (fun _ _ _ h => h) (Or.inl ⟨by rfl, ?_⟩) hHeld ?_ ?_
   rotate_left
   ·rintro w' ⟨s0, s1, s2, s3, s4, s5, s6, s7, s8, s9, s10, s11, s12, s13, s14, s15⟩
    go_simp
    with_reducible rfl
   rotate_left
   ·simp only [Act.put, List.setIfInBounds_toArray, List.set_cons_zero, List.set_cons_succ, i64_w, i32_w]
    rfl
   refine take_ (i := 44) (N := some 118) (v := ?_) (a' := ?_) #[Tt,Tt,Tt,Tt,Tt,Tt,Tt,Tt,Tt,Tt,Tt,Tt,Tt,Tt,Tt,Tt,Tt,Tt,Tt,Tt,Tt,Tt,Tt,Tt,Tt,Tt,Tt,Tt,Tt,Tt,Tt,Tt,Tt,Tt,Tt,Tt,Tt,Tt,Tt,Tt,Tt,Tt,Tt,Tt,Tt,Tt,Tt,Tt,Ff,Ff,Ff,Ff] rfl rfl (take_ofW HT_.out HW_.out (by kernel_rfl)) (fun _ _ _ h => h) (Or.inl ⟨by rfl, ?_⟩) hHeld ?_ ?_
   rotate_left
   ·rintro w' ⟨s0, s1, s2, s3, s4, s5, s6, s7, s8, s9, s10, s11, s12, s13, s14, s15⟩
    go_simp
    with_reducible rfl
   rotate_left
   ·simp only [Act.put, List.setIfInBounds_toArray, List.set_cons_zero, List.set_cons_succ, i64_w, i32_w]
    rfl
   refine take_ (i := 48) (N := some 122) (v := ?_) (a' := ?_) #[Tt,Tt,Tt,Tt,Tt,Tt,Tt,Tt,Tt,Tt,Tt,Tt,Tt,Tt,Tt,Tt,Tt,Tt,Tt,Tt,Tt,Tt,Tt,Tt,Tt,Tt,Tt,Tt,Tt,Tt,Tt,Tt,Tt,Tt,Tt,Tt,Tt,Tt,Tt,Tt,Tt,Tt,Tt,Tt,Tt,Tt,Tt,Tt,Tt,Ff,Ff,Ff] rfl rfl (take_ofW HT_.out HW_.out (by kernel_rfl)) (fun _ _ _ h => h) (Or.inl ⟨by rfl, ?_⟩) hHeld ?_ ?_
   rotate_left
   ·rintro w' ⟨s0, s1, s2, s3, s4, s5, s6, s7, s8, s9, s10, s11, s12, s13, s14, s15⟩
    go_simp
    with_reducible rfl
   rotate_left
   ·simp only [Act.put, List.setIfInBounds_toArray, List.set_cons_zero, List.set_cons_succ, i64_w, i32_w]
    rfl
   refine one_ (i := 49) (N := some 123) #[Tt,Tt,Tt,Tt,Tt,Tt,Tt,Tt,Tt,Tt,Tt,Tt,Tt,Tt,Tt,Tt,Tt,Tt,Tt,Tt,Tt,Tt,Tt,Tt,Tt,Tt,Tt,Tt,Tt,Tt,Tt,Tt,Tt,Tt,Tt,Tt,Tt,Tt,Tt,Tt,Tt,Tt,Tt,Tt,Tt,Tt,Tt,Tt,Tt,Tt,Ff,Ff] rfl rfl (one_of HT_.out (by kernel_rfl)) (by decide) (fun K hK => ?_)
   refine goes_ Tryd.func19 (by kernel_rfl) rfl #[.agg #[.int .u64 br, .int .u64 bp, .slice (some b0) bb.length bq], .string ((rd_T37 bb bd).f0), .int .u64 (rd bK bD)] (by rfl) rfl rfl zx26_9 ?_
   with_reducible refine (ledger_Waits.calls k2 br bp _ _ bb ((rd_T37 bb bd).f0) (rd bK bD) true _ ?side1 ?side2 A63.out).mono ?_
   (case side1 => repeat (first | exact (Kd.V_reads' bn.out).2.2 | (with_reducible refine Kd.C_alloc ?_ _) | (with_reducible refine Kd.C_drewN ?_ _) | (with_reducible refine Kd.C_drew ?_)))
   (case side2 => exact (Kd.V_reads' bn.out).2.1)
   rintro e w66 ⟨rfl, hb⟩
   have gE := (hb.cell (World.block_lt_of_cell? _ _ (hHeld.2.2.2.2.2.2.2.2.2.2.1))).trans (hHeld.2.2.2.2.2.2.2.2.2.2.1)
   have gD := (hb.cell (World.block_lt_of_cell? _ _ (hHeld.2.2.2.2.2.2.2.2.2.2.2.1))).trans (hHeld.2.2.2.2.2.2.2.2.2.2.2.1)
   have hh := (hb.cell (World.block_lt_of_cell? _ _ (hHeld.2.2.2.2.2.2.2.2.2.2.2.2.1))).trans (hHeld.2.2.2.2.2.2.2.2.2.2.2.2.1)
   have hf := (hb.cell (World.block_lt_of_cell? _ _ (hHeld.2.2.2.2.2.2.2.2.2.2.2.2.2.1))).trans (hHeld.2.2.2.2.2.2.2.2.2.2.2.2.2.1)
   have qi := (hb.cell (World.block_lt_of_cell? _ _ (hHeld.2.2.2.2.2.2.2.2.2.2.2.2.2.2.1))).trans (hHeld.2.2.2.2.2.2.2.2.2.2.2.2.2.2.1)
   have qh := (hb.cell (World.block_lt_of_cell? _ _ (hHeld.2.2.2.2.2.2.2.2.2.2.2.2.2.2.2))).trans (hHeld.2.2.2.2.2.2.2.2.2.2.2.2.2.2.2)
   refine ⟨_, rfl, ?_⟩
   replace b2 := Aside0.mk (Kd.R_below zx26_22 hb)
   replace bn := Aside0.mk (Kd.V_below zx26_20 hb)
   replace bw := Aside0.mk (Kd.V_below zx26_21 hb)
   replace bf := Aside0.mk (blk_below (g := ba) (o := .cells #[.int .i64 bk, .int .i64 bj, .int .i64 bi, .int .i64 bh] 43 (0, 0)) zx26_0 hb)
   replace bg := Aside0.mk (blk_below (g := bc) (o := .cells #[.int .u64 br, .int .u64 bp, .slice (some b0) bb.length bq] 27 (0, 0)) zx26_2 hb)
   replace bC := Aside0.mk (blk_below (g := be) (o := .cells #[.int .u64 bO, .int .u64 bU, .slice de bM.length dc] 27 (0, 0)) zx26_5 hb)
   replace bm := Aside0.mk (blk_below (g := bo) (o := .cells #[.string ((rd_T37 bb bd).f0), .int .u64 ((rd_T37 bb bd).f1), .int .u64 ((rd_T37 bb bd).f2), .slice bP ((rd_T37 bb bd).f3).length bR, .int .u64 ((rd_T37 bb bd).f4), .int .u64 ((rd_T37 bb bd).f5), .int .u64 ((rd_T37 bb bd).f6)] 37 (0, 0)) zx26_14 hb)
   replace bN := Aside0.mk (Kd.C_below zx26_13 hb)
   replace HB := Aside0.mk (below_step zx26_6 hb)
   (try clear hb)
   (try clear hb2)
   (try clear hk)
   (try clear hi)
   refine hK.out _ _ ⟨(blk_cell bm.out 0).trans rfl, (blk_cell bm.out 1).trans rfl, (blk_cell bm.out 2).trans rfl, (blk_cell bm.out 3).trans rfl, (blk_cell bm.out 4).trans rfl, (blk_cell bm.out 5).trans rfl, (blk_cell bm.out 6).trans rfl, (blk_cell bg.out 0).trans rfl, (blk_cell bg.out 1).trans rfl, (blk_cell bg.out 2).trans rfl, gE, gD, hh, hf, qi, qh⟩ (fun hHeld => ?_)
   clear hK K
   refine na_ 123 ?_
   refine pp_ 50 (some 124) HT_.out ?_
   refine pp_ 51 (some 125) HT_.out ?_
   refine done_ (done_of HT_.out (by kernel_rfl)) ?_
   try go_wp2
   go_roundg k2
   case measure => have := HK1.out; have := HK2.out; omega
   case rel => exact ⟨(wrap64 (bD + 1)), zx26_32, H', ⟨by have := HK1.out; have := HK2.out; omega⟩, ⟨by (with_reducible repeat (first | apply Kd.R_alloc | apply Kd.R_drewN | apply Kd.R_drew)); exact b2.out⟩, ⟨by (with_reducible repeat (first | apply Kd.V_alloc | apply Kd.V_drewN | apply Kd.V_drew)); exact bn.out⟩, ⟨by (with_reducible repeat (first | apply Kd.V_alloc | apply Kd.V_drewN | apply Kd.V_drew)); exact bw.out⟩, ⟨by (with_reducible repeat (first | refine blk_drewN ?_ _ | refine blk_drew ?_ | refine blk_alloc ?_ _)); exact bf.out⟩, ⟨by (with_reducible repeat (first | refine blk_drewN ?_ _ | refine blk_drew ?_ | refine blk_alloc ?_ _)); exact bg.out⟩, ⟨by (with_reducible repeat (first | refine blk_drewN ?_ _ | refine blk_drew ?_ | refine blk_alloc ?_ _)); exact bC.out⟩, ⟨by (with_reducible repeat (first | refine blk_drewN ?_ _ | refine blk_drew ?_ | refine blk_alloc ?_ _)); exact bm.out⟩, ⟨by repeat (first | (with_reducible exact bN.out) | (with_reducible refine Kd.C_alloc ?_ _) | (with_reducible refine Kd.C_drewN ?_ _) | (with_reducible refine Kd.C_drew ?_) | exact bN.out)⟩, ⟨by repeat (first | (with_reducible first | exact HB.out | apply below_alloc | apply pw_below_drewN | apply below_drew1 | refine below_set ?_ df.out | refine below_set ?_ dm.out | refine below_set ?_ bH.out | refine below_set ?_ dT.out) | exact HB.out)⟩⟩
/-- THE ONE PURE STATEMENT of postroomlaw10_LedgerCounts. -/
def postroomlaw10_LedgerCounts.Pure : Prop := ∀ (l0 : List (S43)) (bk : Int) (bj : Int) (bi : Int) (bh : Int), l0.length ≤ maxLen → l0.length * 32 ≤ 140737488351232 → (∀ x ∈ l0, ((Lit.int .i64 x.f0).wf = true ∧ (Lit.int .i64 x.f1).wf = true ∧ (Lit.int .i64 x.f2).wf = true ∧ (Lit.int .i64 x.f3).wf = true)) → (Lit.int .i64 bk).wf = true → (Lit.int .i64 bj).wf = true → (Lit.int .i64 bi).wf = true → (Lit.int .i64 bh).wf = true → ∃ k, postroomlaw10_LedgerCounts.f k l0 bk bj bi bh = some true
theorem postroomlaw10_LedgerCounts.walk (P : postroomlaw10_LedgerCounts.Pure) (A0 : Option Addr) (c0 : Nat) (l0 : List (S43)) (bk : Int) (bj : Int) (bi : Int) (bh : Int) (w : World) (hr0 : Kd.C k43 w A0 l0.length l0) (hc0 : l0.length ≤ c0) (hm0 : l0.length ≤ maxLen) (hy0 : l0.length * 32 ≤ 140737488351232) (hw0 : (∀ x ∈ l0, ((Lit.int .i64 x.f0).wf = true ∧ (Lit.int .i64 x.f1).wf = true ∧ (Lit.int .i64 x.f2).wf = true ∧ (Lit.int .i64 x.f3).wf = true))) (m4 : (Lit.int .i64 bk).wf = true) (m3 : (Lit.int .i64 bj).wf = true) (m2 : (Lit.int .i64 bi).wf = true) (m1 : (Lit.int .i64 bh).wf = true) :
  Calls Tryd.prog 4 #[.slice A0 l0.length c0, .agg #[.int .i64 bk, .int .i64 bj, .int .i64 bi, .int .i64 bh]] w fun e w' => e = .returned (.bool true) ∧ Below w.heap.size w w' := by
 obtain ⟨k, h⟩ := P l0 bk bj bi bh hm0 hy0 hw0 m4 m3 m2 m1
 refine (postroomlaw10_LedgerCounts.calls k A0 c0 l0 bk bj bi bh true w hr0 hc0 h).mono ?_
 rintro e w' ⟨rfl, hd⟩
 exact ⟨rfl, hd⟩

end Go.Proofs.YthhmpjapnkilcaaDoor.XLdg
