/- What the functions of the translation answer, each as a plain Lean function, and that the code comes to it; for a law: its row. Conditions: none but those that each theorem names. Written by a program of this session (wip/xp). -/
import Derived.Test.YthhmpjapnkilcaaDoorXLdgP1
import Derived.Test.YthhmpjapnkilcaaDoorXLdgP2
import Derived.Test.YthhmpjapnkilcaaDoorXLdgP5
import Derived.Test.YthhmpjapnkilcaaDoorXLdgP4
import Derived.Test.YthhmpjapnkilcaaDoorGMono
import Derived.Test.YthhmpjapnkilcaaDoorGShown
namespace Go.Proofs.YthhmpjapnkilcaaDoor.XLdg
open Go.RowKit Go.Proofs.YthhmpjapnkilcaaDoorW.PrintWords Go.Proofs.YthhmpjapnkilcaaDoorW.PrintLast Go.Proofs.YthhmpjapnkilcaaDoorW.PrintMore
attribute [local go_sem] max2_int min2_int max_two min_two max_three min_three max_four min_four   -- for this text's walks alone
theorem cx28_bc3 {w : World} {g : Nat} {t : TypeId} {x0 x1 x2 : Value} (h : w.heap[g]? = some (.cells #[x0, x1, x2] t (0, 0))) : w.cell? ⟨g, 0, none⟩ = some x0 ∧ w.cell? ⟨g, 1, none⟩ = some x1 ∧ w.cell? ⟨g, 2, none⟩ = some x2 ∧ w.frozen? ⟨g, 0, none⟩ = false ∧ w.frozen? ⟨g, 1, none⟩ = false ∧ w.frozen? ⟨g, 2, none⟩ = false :=
 ⟨(blk_cell h 0).trans rfl, (blk_cell h 1).trans rfl, (blk_cell h 2).trans rfl, blk_frozen h 0, blk_frozen h 1, blk_frozen h 2⟩
theorem zx28_33 {p : Prop} (h : p := by first | (with_reducible assumption) | assumption) : p := h
theorem zx28_26 {p : Prop} (h : p := by simp only [putAll, Act.put, List.setIfInBounds_toArray, List.set_cons_zero, List.set_cons_succ]) : p := h
theorem zx28_4 {p : Prop} (h : p := by (with_reducible repeat (first | apply Kd.R_alloc | apply Kd.R_drewN | apply Kd.R_drew)); exact bm.out) : p := h
theorem zx28_13 {p : Prop} (h : p := by (with_reducible repeat (first | apply Kd.V_alloc | apply Kd.V_drewN | apply Kd.V_drew)); exact br.out) : p := h
theorem zx28_17 {p : Prop} (h : p := by (with_reducible repeat (first | apply Kd.V_alloc | apply Kd.V_drewN | apply Kd.V_drew)); exact bI.out) : p := h
theorem zx28_18 {p : Prop} (h : p := by (with_reducible repeat (first | apply Kd.V_alloc | apply Kd.V_drewN | apply Kd.V_drew)); exact b2.out) : p := h
theorem zx28_27 {p : Prop} (h : p := by (with_reducible repeat (first | apply Kd.V_alloc | apply Kd.V_drewN | apply Kd.V_drew)); exact dh.out) : p := h
theorem zx28_30 {p : Prop} (h : p := by (with_reducible repeat (first | apply Kd.V_alloc | apply Kd.V_drewN | apply Kd.V_drew)); exact dk.out) : p := h
theorem zx28_12 {p : Prop} (h : p := by (with_reducible repeat (first | apply Kd.V_alloc | apply Kd.V_drewN | apply Kd.V_drew)); exact bf.out) : p := h
theorem zx28_0 {p : Prop} (h : p := by (with_reducible repeat (first | refine blk_drewN ?_ _ | refine blk_drew ?_ | refine blk_alloc ?_ _)); exact bg.out) : p := h
theorem zx28_1 {p : Prop} (h : p := by (with_reducible repeat (first | refine blk_drewN ?_ _ | refine blk_drew ?_ | refine blk_alloc ?_ _)); exact bn.out) : p := h
theorem zx28_2 {p : Prop} (h : p := by (with_reducible repeat (first | refine blk_drewN ?_ _ | refine blk_drew ?_ | refine blk_alloc ?_ _)); exact bq.out) : p := h
theorem zx28_6 {p : Prop} (h : p := by (with_reducible repeat (first | refine blk_drewN ?_ _ | refine blk_drew ?_ | refine blk_alloc ?_ _)); exact bA.out) : p := h
theorem zx28_16 {p : Prop} (h : p := by (with_reducible repeat (first | refine blk_drewN ?_ _ | refine blk_drew ?_ | refine blk_alloc ?_ _)); exact bO.out) : p := h
theorem zx28_28 {p : Prop} (h : p := by (with_reducible repeat (first | refine blk_drewN ?_ _ | refine blk_drew ?_ | refine blk_alloc ?_ _)); exact bz.out) : p := h
theorem zx28_9 {p : Prop} (h : p := by repeat (first | (with_reducible first | exact HB.out | apply below_alloc | apply pw_below_drewN | apply below_drew1) | exact HB.out)) : p := h
theorem zx28_3 {p : Prop} (h : p := by (try simp only [List.map_toArray, List.map_cons, List.map_nil]); first | done | rfl | (simp only [List.length_drop, List.length_take]; rfl)) : p := h
theorem zx28_7 {p : Prop} (h : p := by repeat (first | (with_reducible first | exact HB.out | apply below_alloc | apply pw_below_drewN | apply below_drew1 | refine below_set ?_ dI.out) | exact HB.out)) : p := h
theorem zx28_11 {p : Prop} (h : p := by repeat (first | (with_reducible first | exact HB.out | apply below_alloc | apply pw_below_drewN | apply below_drew1 | refine below_set ?_ dI.out | refine below_set ?_ dV.out) | exact HB.out)) : p := h
theorem zx28_8 {p : Prop} (h : p := by repeat (first | (with_reducible first | exact HB.out | apply below_alloc | apply pw_below_drewN | apply below_drew1 | refine below_set ?_ dI.out | refine below_set ?_ dV.out | refine below_set ?_ d1.out) | exact HB.out)) : p := h
theorem zx28_5 {p : Prop} (h : p := by repeat (first | (with_reducible first | exact HB.out | apply below_alloc | apply pw_below_drewN | apply below_drew1 | refine below_set ?_ dI.out | refine below_set ?_ dV.out | refine below_set ?_ d1.out | refine below_set ?_ d4.out) | exact HB.out)) : p := h
theorem zx28_10 {p : Prop} (h : p := by repeat (first | (with_reducible first | exact HB.out | apply below_alloc | apply pw_below_drewN | apply below_drew1 | refine below_set ?_ dI.out | refine below_set ?_ dV.out | refine below_set ?_ d1.out | refine below_set ?_ d4.out | refine below_set ?_ d9.out) | exact HB.out)) : p := h
theorem zx28_15 {p : Prop} (h : p := by repeat (first | (with_reducible first | exact HB.out | apply below_alloc | apply pw_below_drewN | apply below_drew1 | refine below_set ?_ dI.out | refine below_set ?_ dV.out | refine below_set ?_ d1.out | refine below_set ?_ d4.out | refine below_set ?_ d9.out | refine below_set ?_ hv.out) | exact HB.out)) : p := h
theorem zx28_22 {p : Prop} (h : p := by first | exact Kd.own_blk (Kd.R_ne bm.out bn.out (by decide)) | (rw [add_block]; exact Kd.own_blk (Kd.R_ne bm.out bn.out (by decide))) | (show (Addr.add _ _).block ≠ _; rw [add_block]; exact Kd.own_blk (Kd.R_ne bm.out bn.out (by decide))) | (dsimp only; exact Kd.own_blk (Kd.R_ne bm.out bn.out (by decide)))) : p := h
theorem zx28_23 {p : Prop} (h : p := by first | exact Kd.own_blk (Kd.R_ne bm.out bq.out (by decide)) | (rw [add_block]; exact Kd.own_blk (Kd.R_ne bm.out bq.out (by decide))) | (show (Addr.add _ _).block ≠ _; rw [add_block]; exact Kd.own_blk (Kd.R_ne bm.out bq.out (by decide))) | (dsimp only; exact Kd.own_blk (Kd.R_ne bm.out bq.out (by decide)))) : p := h
theorem zx28_24 {p : Prop} (h : p := by first | exact Kd.own_blk (Kd.R_ne bm.out bA.out (by decide)) | (rw [add_block]; exact Kd.own_blk (Kd.R_ne bm.out bA.out (by decide))) | (show (Addr.add _ _).block ≠ _; rw [add_block]; exact Kd.own_blk (Kd.R_ne bm.out bA.out (by decide))) | (dsimp only; exact Kd.own_blk (Kd.R_ne bm.out bA.out (by decide)))) : p := h
theorem zx28_25 {p : Prop} (h : p := by first | exact Kd.own_blk (Kd.R_ne bm.out bO.out (by decide)) | (rw [add_block]; exact Kd.own_blk (Kd.R_ne bm.out bO.out (by decide))) | (show (Addr.add _ _).block ≠ _; rw [add_block]; exact Kd.own_blk (Kd.R_ne bm.out bO.out (by decide))) | (dsimp only; exact Kd.own_blk (Kd.R_ne bm.out bO.out (by decide)))) : p := h
theorem zx28_32 {p : Prop} (h : p := by repeat (first | (with_reducible first | exact HB.out | apply below_alloc | apply pw_below_drewN | apply below_drew1 | refine below_set ?_ dI.out | refine below_set ?_ dV.out | refine below_set ?_ d1.out | refine below_set ?_ d4.out | refine below_set ?_ d9.out | refine below_set ?_ hv.out | refine below_set ?_ hW.out) | exact HB.out)) : p := h
theorem zx28_31 {p : Prop} (h : p := by (with_reducible repeat (first | apply Kd.R_alloc | apply Kd.R_drewN | apply Kd.R_drew)); exact (Kd.R_mono (Kd.R_far (p := ⟨bi, 2, none⟩) (Kd.R_far (p := ⟨bi, 1, none⟩) (Kd.R_far (p := ⟨bi, 0, none⟩) (Kd.R_types bm.out bO.out (by decide)) (fun _ hk => hk.2) (.int .u64 dg)) (fun _ hk => hk.2) (.int .u64 di)) (fun _ hk => hk.2) (.slice dx df.length dq)) (fun _ h_ => h_.1))) : p := h
theorem zx28_29 {p : Prop} (h : p := by (with_reducible repeat (first | apply Kd.V_alloc | apply Kd.V_drewN | apply Kd.V_drew)); exact (Kd.V_mono (Kd.V_far (p := ⟨bi, 2, none⟩) (Kd.V_far (p := ⟨bi, 1, none⟩) (Kd.V_far (p := ⟨bi, 0, none⟩) (Kd.V_mono bI.out (fun k_ hk => (⟨hk, hk.2.2.2.2.2⟩ : _ ∧ k_ ≠ bi))) (fun _ hk => hk.2) (.int .u64 dg)) (fun _ hk => hk.2) (.int .u64 di)) (fun _ hk => hk.2) (.slice dx df.length dq)) (fun _ h_ => h_.1))) : p := h
theorem zx28_14 {p : Prop} (h : p := by (with_reducible repeat (first | refine blk_drewN ?_ _ | refine blk_drew ?_ | refine blk_alloc ?_ _)); refine blk_put (cs := #[.int .u64 bo, .int .u64 bp, .slice none 0 0]) ?_ 2 _ rfl; (with_reducible repeat (first | refine blk_drewN ?_ _ | refine blk_drew ?_ | refine blk_alloc ?_ _)); refine blk_put (cs := #[.int .u64 bo, .int .u64 0, .slice none 0 0]) ?_ 1 _ rfl; (with_reducible repeat (first | refine blk_drewN ?_ _ | refine blk_drew ?_ | refine blk_alloc ?_ _)); refine blk_put (cs := #[.int .u64 0, .int .u64 0, .slice none 0 0]) ?_ 0 _ rfl; (with_reducible repeat (first | refine blk_drewN ?_ _ | refine blk_drew ?_ | refine blk_alloc ?_ _)); exact bg.out) : p := h
theorem zx28_20 {p : Prop} (h : p := by (with_reducible repeat (first | apply Kd.R_alloc | apply Kd.R_drewN | apply Kd.R_drew)); exact (Kd.R_mono (Kd.R_far (p := ⟨bj, 6, none⟩) (Kd.R_far (p := ⟨bj, 5, none⟩) (Kd.R_far (p := ⟨bj, 4, none⟩) (Kd.R_far (p := ⟨bj, 3, none⟩) (Kd.R_far (p := ⟨bj, 2, none⟩) (Kd.R_far (p := ⟨bj, 1, none⟩) (Kd.R_far (p := ⟨bj, 0, none⟩) (Kd.R_types bm.out bz.out (by decide)) (fun _ hk => hk.2) (.string dW)) (fun _ hk => hk.2) (.int .u64 dY)) (fun _ hk => hk.2) (.int .u64 dL)) (fun _ hk => hk.2) (.slice dc dp.length db)) (fun _ hk => hk.2) (.int .u64 dK)) (fun _ hk => hk.2) (.int .u64 d3)) (fun _ hk => hk.2) (.int .u64 dS)) (fun _ h_ => h_.1))) : p := h
theorem zx28_21 {p : Prop} (h : p := by (with_reducible repeat (first | apply Kd.R_alloc | apply Kd.R_drewN | apply Kd.R_drew)); exact (Kd.R_mono (Kd.R_far (p := ⟨bj, 6, none⟩) (Kd.R_far (p := ⟨bj, 5, none⟩) (Kd.R_far (p := ⟨bj, 4, none⟩) (Kd.R_far (p := ⟨bj, 3, none⟩) (Kd.R_far (p := ⟨bj, 2, none⟩) (Kd.R_far (p := ⟨bj, 1, none⟩) (Kd.R_far (p := ⟨bj, 0, none⟩) (Kd.R_types dQ.out bz.out (by decide)) (fun _ hk => hk.2) (.string dW)) (fun _ hk => hk.2) (.int .u64 dY)) (fun _ hk => hk.2) (.int .u64 dL)) (fun _ hk => hk.2) (.slice dc dp.length db)) (fun _ hk => hk.2) (.int .u64 dK)) (fun _ hk => hk.2) (.int .u64 d3)) (fun _ hk => hk.2) (.int .u64 dS)) (fun _ h_ => h_.1))) : p := h
theorem zx28_19 {p : Prop} (h : p := by (with_reducible repeat (first | apply Kd.V_alloc | apply Kd.V_drewN | apply Kd.V_drew)); exact (Kd.V_mono (Kd.V_far (p := ⟨bj, 6, none⟩) (Kd.V_far (p := ⟨bj, 5, none⟩) (Kd.V_far (p := ⟨bj, 4, none⟩) (Kd.V_far (p := ⟨bj, 3, none⟩) (Kd.V_far (p := ⟨bj, 2, none⟩) (Kd.V_far (p := ⟨bj, 1, none⟩) (Kd.V_far (p := ⟨bj, 0, none⟩) (Kd.V_mono dk.out (fun k_ hk => (⟨hk, hk.2⟩ : _ ∧ k_ ≠ bj))) (fun _ hk => hk.2) (.string dW)) (fun _ hk => hk.2) (.int .u64 dY)) (fun _ hk => hk.2) (.int .u64 dL)) (fun _ hk => hk.2) (.slice dc dp.length db)) (fun _ hk => hk.2) (.int .u64 dK)) (fun _ hk => hk.2) (.int .u64 d3)) (fun _ hk => hk.2) (.int .u64 dS)) (fun _ h_ => h_.1))) : p := h
set_option linter.unusedVariables false
set_option linter.unusedSimpArgs false

/-! ### postroomlaw10_LedgerOrder: function 6 -/
mutual
def postroomlaw10_LedgerOrder.j0 : Nat → Bool → ByteArray → List Int → Int → Int → Int → Int → Int → Int → List (S37) → Option (Bool)
 | 0, _, _, _, _, _, _, _, _, _, _ => none
 | k + 1, x5, x15, x16, x17, x18, x19, x20, d7, d6, d5 => if x5 = true then (postroomlaw10_LedgerOrder.j1 k x15 x16 x17 x18 x19 114 d7 d6 d5) else (postroomlaw10_LedgerOrder.j1 k x15 x16 x17 x18 x19 x20 d7 d6 d5)
def postroomlaw10_LedgerOrder.j1 : Nat → ByteArray → List Int → Int → Int → Int → Int → Int → Int → List (S37) → Option (Bool)
 | 0, _, _, _, _, _, _, _, _, _ => none
 | k + 1, x15, x16, x17, x18, x19, x20, d7, d6, d5 => if 0 ≤ x17 then (if x17 < (x16.length : Int) then ((ledger_Done.f k d7 d6 d5 x15 (rd x16 x17) x19).bind fun hp => (if 0 ≤ x18 then (if x18 < (x16.length : Int) then ((ledger_Done.f k hp.1 hp.2.1 hp.2.2.1 x15 (rd x16 x18) x20).bind fun dU => ((ledger_Done.f k d7 d6 d5 x15 (rd x16 x18) x20).bind fun dX => ((ledger_Done.f k dX.1 dX.2.1 dX.2.2.1 x15 (rd x16 x17) x19).bind fun b8 => ((ledger_Find.f dU.1 dU.2.1 dU.2.2.1 x15).bind fun da => ((ledger_Find.f b8.1 b8.2.1 b8.2.2.1 x15).bind fun b4 => (if hp.2.2.2 = 0 then (if dU.2.2.2 = 0 then (if dX.2.2.2 = 0 then (if b8.2.2.2 = 0 then (if da.2.2.2.2.2.2.2 = true then (if b4.2.2.2.2.2.2.2 = true then (if da.2.2.1 = b4.2.2.1 then ((postroomref10_Same.f k da.2.2.2.1 b4.2.2.2.1).bind fun dZ => (if dZ = true then (if da.2.2.2.2.1 = b4.2.2.2.2.1 then (if da.2.2.2.2.2.2.1 = b4.2.2.2.2.2.2.1 then ((ledger_Free.f k dU.1 dU.2.1 dU.2.2.1).bind fun dR => ((ledger_Free.f k b8.1 b8.2.1 b8.2.2.1).bind fun dP => (some (dR == dP)))) else (none)) else (none)) else (none))) else (none)) else (none)) else (none)) else (none)) else (none)) else (none)) else (none))))))) else (none)) else (none))) else (none)) else (none)
end
def postroomlaw10_LedgerOrder.f (k : Nat) (l0 : List (S43)) (a1 : Int) (a2 : Int) (a3 : Int) (a4 : Bool) (a5 : Bool) : Option (Bool) := (postroomlaw10_shown.f k).bind fun gr => (if gr = true then (if (l0.length : Int) > 100 then (some gr) else ((postroomlaw10_run.f k l0).bind fun b0 => ((postroomlaw10_name.f a1).bind fun bG => ((ledger_Pending.f k b0.1 b0.2.1 b0.2.2 bG).bind fun bh => (if (bh.length : Int) < 2 then (some true) else ((postroomlaw10_pick.f a2 (bh.length : Int)).bind fun bE => ((postroomlaw10_pick.f a3 (bh.length : Int)).bind fun bD => (if bE = bD then (some true) else (if a4 = true then (postroomlaw10_LedgerOrder.j0 k a5 bG bh bE bD 114 97 b0.1 b0.2.1 b0.2.2) else (postroomlaw10_LedgerOrder.j0 k a5 bG bh bE bD 97 97 b0.1 b0.2.1 b0.2.2)))))))))) else (none))
def postroomlaw10_LedgerOrder.T18 : Bool × List (List Nat × List Nat) := (true, [([], []), ([], []), ([], []), ([], []), ([2, 3], [2, 3]), ([4], [4]), ([], []), ([0, 1, 5, 6], [0, 1, 5, 6]), ([7], [7]), ([8], [8]), ([8], [8]), ([], []), ([11, 9, 7, 0, 1, 2, 3, 4, 5, 6, 7, 8, 9, 11], [9, 11]), ([10, 12, 0, 1, 2, 3, 4, 5, 6, 7, 8, 9, 10, 11, 12], [10])])
def postroomlaw10_LedgerOrder.B18 : List Nat := [0, 0, 0, 0, 12, 28, 0, 127, 255, 511, 511, 0, 3071, 8191]
theorem postroomlaw10_LedgerOrder.tab18 : rtab .any (opsOf Tryd.f6 18) = postroomlaw10_LedgerOrder.T18 := by kernel_rfl
theorem postroomlaw10_LedgerOrder.bits18 : waitsOk postroomlaw10_LedgerOrder.T18.2 postroomlaw10_LedgerOrder.B18 = true := by kernel_rfl
def postroomlaw10_LedgerOrder.T19 : Bool × List (List Nat × List Nat) := (true, [([], []), ([], []), ([], []), ([], []), ([2, 3], [2, 3]), ([4], [4]), ([], []), ([0, 1, 5, 6], [0, 1, 5, 6]), ([7], [7]), ([8], [8]), ([8], [8]), ([], []), ([11, 9, 7, 0, 1, 2, 3, 4, 5, 6, 7, 8, 9, 11], [9, 11]), ([10, 12, 0, 1, 2, 3, 4, 5, 6, 7, 8, 9, 10, 11, 12], [10])])
def postroomlaw10_LedgerOrder.B19 : List Nat := [0, 0, 0, 0, 12, 28, 0, 127, 255, 511, 511, 0, 3071, 8191]
theorem postroomlaw10_LedgerOrder.tab19 : rtab .any (opsOf Tryd.f6 19) = postroomlaw10_LedgerOrder.T19 := by kernel_rfl
theorem postroomlaw10_LedgerOrder.bits19 : waitsOk postroomlaw10_LedgerOrder.T19.2 postroomlaw10_LedgerOrder.B19 = true := by kernel_rfl
def postroomlaw10_LedgerOrder.T20 : Bool × List (List Nat × List Nat) := (true, [([], []), ([], []), ([], []), ([], []), ([2, 3], [2, 3]), ([4], [4]), ([], []), ([0, 1, 5, 6], [0, 1, 5, 6]), ([7], [7]), ([8], [8]), ([8], [8]), ([], []), ([11, 9, 7, 0, 1, 2, 3, 4, 5, 6, 7, 8, 9, 11], [9, 11]), ([10, 12, 0, 1, 2, 3, 4, 5, 6, 7, 8, 9, 10, 11, 12], [10])])
def postroomlaw10_LedgerOrder.B20 : List Nat := [0, 0, 0, 0, 12, 28, 0, 127, 255, 511, 511, 0, 3071, 8191]
theorem postroomlaw10_LedgerOrder.tab20 : rtab .any (opsOf Tryd.f6 20) = postroomlaw10_LedgerOrder.T20 := by kernel_rfl
theorem postroomlaw10_LedgerOrder.bits20 : waitsOk postroomlaw10_LedgerOrder.T20.2 postroomlaw10_LedgerOrder.B20 = true := by kernel_rfl
def postroomlaw10_LedgerOrder.T21 : Bool × List (List Nat × List Nat) := (true, [([], []), ([], []), ([], []), ([], []), ([2, 3], [2, 3]), ([4], [4]), ([], []), ([0, 1, 5, 6], [0, 1, 5, 6]), ([7], [7]), ([8], [8]), ([8], [8]), ([], []), ([11, 9, 7, 0, 1, 2, 3, 4, 5, 6, 7, 8, 9, 11], [9, 11]), ([10, 12, 0, 1, 2, 3, 4, 5, 6, 7, 8, 9, 10, 11, 12], [10])])
def postroomlaw10_LedgerOrder.B21 : List Nat := [0, 0, 0, 0, 12, 28, 0, 127, 255, 511, 511, 0, 3071, 8191]
theorem postroomlaw10_LedgerOrder.tab21 : rtab .any (opsOf Tryd.f6 21) = postroomlaw10_LedgerOrder.T21 := by kernel_rfl
theorem postroomlaw10_LedgerOrder.bits21 : waitsOk postroomlaw10_LedgerOrder.T21.2 postroomlaw10_LedgerOrder.B21 = true := by kernel_rfl
def postroomlaw10_LedgerOrder.T24 : Bool × List (List Nat × List Nat) := (true, [([], []), ([0], [0]), ([1], [1]), ([2], [2]), ([3, 2], [2, 3]), ([2, 4], [2, 4]), ([5, 2], [5]), ([6], [6]), ([7, 6], [6, 7]), ([6, 8], [6, 8]), ([9, 6], [9]), ([10], [10]), ([11, 10], [10, 11]), ([10, 12], [10, 12]), ([13, 10], [13]), ([14], [14]), ([14, 15], [14, 15]), ([16, 14], [16]), ([17], [17]), ([17, 18], [17, 18]), ([19, 17], [19]), ([20], [20]), ([21, 20], [20, 21]), ([20], [20]), ([23, 20], [20, 23]), ([22, 24, 20], [20, 22, 24]), ([20, 25], [20, 25]), ([26, 20], [26]), ([27], [27]), ([28, 27], [27, 28]), ([27], [27]), ([30, 27], [27, 30]), ([29, 31, 27, 27], [27, 29, 31]), ([27, 32], [27, 32]), ([33, 32], [33]), ([34], [34]), ([35, 34], [34, 35]), ([34], [34]), ([37, 34], [34, 37]), ([36, 38, 34], [34, 36, 38]), ([34, 39], [34, 39]), ([40, 34], [40]), ([41], [41]), ([42, 41], [41, 42]), ([41], [41]), ([44, 41], [41, 44]), ([43, 45, 41], [41, 43, 45]), ([41, 46], [41, 46]), ([47, 41], [47]), ([48], [48]), ([49, 48, 48], [48, 49]), ([48], [48]), ([51, 50, 48], [48, 51]), ([50, 52, 48], [48, 50, 52]), ([48, 53], [48, 53]), ([54, 52, 0, 1, 2, 3, 4, 5, 6, 7, 8, 9, 10, 11, 12, 13, 14, 15, 16, 17, 18, 19, 20, 21, 22, 23, 24, 25, 26, 27, 28, 29, 30, 31, 32, 33, 34, 35, 36, 37, 38, 39, 40, 41, 42, 43, 44, 45, 46, 47, 48, 49, 50, 51, 52, 53, 54], [54])])
def postroomlaw10_LedgerOrder.B24 : List Nat := [0, 1, 3, 7, 15, 31, 63, 127, 255, 511, 1023, 2047, 4095, 8191, 16383, 32767, 65535, 131071, 262143, 524287, 1048575, 2097151, 4194303, 2097151, 10485759, 33554431, 67108863, 134217727, 268435455, 536870911, 268435455, 1342177279, 4294967295, 8589934591, 17179869183, 34359738367, 68719476735, 34359738367, 171798691839, 549755813887, 1099511627775, 2199023255551, 4398046511103, 8796093022207, 4398046511103, 21990232555519, 70368744177663, 140737488355327, 281474976710655, 562949953421311, 1125899906842623, 562949953421311, 4503599627370495, 9007199254740991, 18014398509481983, 36028797018963967]
theorem postroomlaw10_LedgerOrder.tab24 : rtab .any (opsOf Tryd.f6 24) = postroomlaw10_LedgerOrder.T24 := by kernel_rfl
theorem postroomlaw10_LedgerOrder.bits24 : waitsOk postroomlaw10_LedgerOrder.T24.2 postroomlaw10_LedgerOrder.B24 = true := by kernel_rfl
set_option maxHeartbeats 8000000 in
set_option maxRecDepth 100000 in
theorem postroomlaw10_LedgerOrder.calls (k : Nat) (A0 : Option Addr) (c0 : Nat) (l0 : List (S43)) (a1 : Int) (a2 : Int) (a3 : Int) (a4 : Bool) (a5 : Bool) (r : Bool) (w : World) (hr0 : Kd.C k43 w A0 l0.length l0) (hc0 : l0.length ≤ c0) (h : postroomlaw10_LedgerOrder.f k l0 a1 a2 a3 a4 a5 = some r) :
  Calls Tryd.prog 6 #[.slice A0 l0.length c0, .int .i64 a1, .int .i64 a2, .int .i64 a3, .bool a4, .bool a5] w fun e w' => e = .returned (.bool r) ∧ Below w.heap.size w w' := by
 have q9 := Tryd.underlying27
 have q8 := Tryd.underlying37
 have HR0 := Aside0.mk hr0
 have HC0 := Aside0.mk hc0
 clear hr0 hc0
 have HB := Aside0.mk (Below.refl w.heap.size w)
 have H : ((postroomlaw10_shown.f k).bind fun gr => (if gr = true then (if (l0.length : Int) > 100 then (some gr) else ((postroomlaw10_run.f k l0).bind fun b0 => ((postroomlaw10_name.f a1).bind fun bG => ((ledger_Pending.f k b0.1 b0.2.1 b0.2.2 bG).bind fun bh => (if (bh.length : Int) < 2 then (some true) else ((postroomlaw10_pick.f a2 (bh.length : Int)).bind fun bE => ((postroomlaw10_pick.f a3 (bh.length : Int)).bind fun bD => (if bE = bD then (some true) else (if a4 = true then (postroomlaw10_LedgerOrder.j0 k a5 bG bh bE bD 114 97 b0.1 b0.2.1 b0.2.2) else (postroomlaw10_LedgerOrder.j0 k a5 bG bh bE bD 97 97 b0.1 b0.2.1 b0.2.2)))))))))) else (none))) = some r := h
 clear h
 replace H := Option.bind_eq_some_iff.mp H
 obtain ⟨gr, A70, H⟩ := H
 replace H : (if gr = true then (if (l0.length : Int) > 100 then (some gr) else ((postroomlaw10_run.f k l0).bind fun b0 => ((postroomlaw10_name.f a1).bind fun bG => ((ledger_Pending.f k b0.1 b0.2.1 b0.2.2 bG).bind fun bh => (if (bh.length : Int) < 2 then (some true) else ((postroomlaw10_pick.f a2 (bh.length : Int)).bind fun bE => ((postroomlaw10_pick.f a3 (bh.length : Int)).bind fun bD => (if bE = bD then (some true) else (if a4 = true then (postroomlaw10_LedgerOrder.j0 k a5 bG bh bE bD 114 97 b0.1 b0.2.1 b0.2.2) else (postroomlaw10_LedgerOrder.j0 k a5 bG bh bE bD 97 97 b0.1 b0.2.1 b0.2.2)))))))))) else (none)) = some r := H
 have A7 := Aside0.mk A70
 clear A70
 by_cases c8 : gr = true
 case neg =>
  replace c8 := Bool.eq_false_iff.mpr c8
  subst c8
  have H1 : (none) = some r := by rw [if_neg (show ¬ (false = true) by decide)] at H; exact H
  clear H
  have H := H1
  clear H1
  exact absurd H (by simp)

 subst c8
 have H1 : (if (l0.length : Int) > 100 then (some true) else ((postroomlaw10_run.f k l0).bind fun b0 => ((postroomlaw10_name.f a1).bind fun bG => ((ledger_Pending.f k b0.1 b0.2.1 b0.2.2 bG).bind fun bh => (if (bh.length : Int) < 2 then (some true) else ((postroomlaw10_pick.f a2 (bh.length : Int)).bind fun bE => ((postroomlaw10_pick.f a3 (bh.length : Int)).bind fun bD => (if bE = bD then (some true) else (if a4 = true then (postroomlaw10_LedgerOrder.j0 k a5 bG bh bE bD 114 97 b0.1 b0.2.1 b0.2.2) else (postroomlaw10_LedgerOrder.j0 k a5 bG bh bE bD 97 97 b0.1 b0.2.1 b0.2.2)))))))))) = some r := by rw [if_pos rfl] at H; exact H
 clear H
 have H := H1
 clear H1
 by_cases c9 : (l0.length : Int) > 100
 ·rw [if_pos c9] at H
  have jo : decide (100 < (l0.length : Int)) = true := decide_eq_true c9
  have jn : decide (100 < l0.length) = true := decide_eq_true (by omega)
  clear c9
  obtain rfl := Option.some.inj H
  go_enter Tryd.func6, Tryd.ntmps6
  go_wp2_with (first | ((with_reducible refine gate_callee (f := 10) rfl ?_); refine goesL_ (some 33) rfl rfl Tryd.func10 (by kernel_rfl) rfl #[] rfl zx28_3 ?_; (with_reducible refine (postroomlaw10_shown.calls k  true _ A7.out).mono ?_); rintro e w10 ⟨rfl, hb⟩; refine ⟨_, rfl, ?_⟩; replace HB := Aside0.mk (below_step zx28_9 hb); (try clear hb); (try clear hb2); (try clear hk); (try clear hi)))
  go_ret
  exact ⟨by first | rfl | (simp [errW_none, errW_some] <;> rfl) | (simp [*, errW_none, errW_some] <;> rfl), by repeat (first | (with_reducible first | exact HB.out | apply below_alloc | apply pw_below_drewN | apply below_drew1) | exact HB.out)⟩
 rw [if_neg c9] at H
 have jo : decide (100 < (l0.length : Int)) = false := decide_eq_false c9
 have jn : decide (100 < l0.length) = false := decide_eq_false (by omega)
 clear c9
 replace H := Option.bind_eq_some_iff.mp H
 obtain ⟨⟨bo, bp, bk⟩, m1, H⟩ := H
 replace H : ((postroomlaw10_name.f a1).bind fun bG => ((ledger_Pending.f k bo bp bk bG).bind fun bh => (if (bh.length : Int) < 2 then (some true) else ((postroomlaw10_pick.f a2 (bh.length : Int)).bind fun bE => ((postroomlaw10_pick.f a3 (bh.length : Int)).bind fun bD => (if bE = bD then (some true) else (if a4 = true then (postroomlaw10_LedgerOrder.j0 k a5 bG bh bE bD 114 97 bo bp bk) else (postroomlaw10_LedgerOrder.j0 k a5 bG bh bE bD 97 97 bo bp bk)))))))) = some r := H
 have A11 := Aside0.mk m1
 clear m1
 replace H := Option.bind_eq_some_iff.mp H
 obtain ⟨bG, m0, H⟩ := H
 replace H : ((ledger_Pending.f k bo bp bk bG).bind fun bh => (if (bh.length : Int) < 2 then (some true) else ((postroomlaw10_pick.f a2 (bh.length : Int)).bind fun bE => ((postroomlaw10_pick.f a3 (bh.length : Int)).bind fun bD => (if bE = bD then (some true) else (if a4 = true then (postroomlaw10_LedgerOrder.j0 k a5 bG bh bE bD 114 97 bo bp bk) else (postroomlaw10_LedgerOrder.j0 k a5 bG bh bE bD 97 97 bo bp bk))))))) = some r := H
 have A12 := Aside0.mk m0
 clear m0
 replace H := Option.bind_eq_some_iff.mp H
 obtain ⟨bh, mZ, H⟩ := H
 replace H : (if (bh.length : Int) < 2 then (some true) else ((postroomlaw10_pick.f a2 (bh.length : Int)).bind fun bE => ((postroomlaw10_pick.f a3 (bh.length : Int)).bind fun bD => (if bE = bD then (some true) else (if a4 = true then (postroomlaw10_LedgerOrder.j0 k a5 bG bh bE bD 114 97 bo bp bk) else (postroomlaw10_LedgerOrder.j0 k a5 bG bh bE bD 97 97 bo bp bk)))))) = some r := H
 have A13 := Aside0.mk mZ
 clear mZ
 by_cases c14 : (bh.length : Int) < 2
 ·rw [if_pos c14] at H
  have hV : decide ((bh.length : Int) < 2) = true := decide_eq_true c14
  have hU : decide (bh.length < 2) = true := decide_eq_true (by omega)
  clear c14
  obtain rfl := Option.some.inj H
  go_enter Tryd.func6, Tryd.ntmps6
  go_wp2_with (first | ((with_reducible refine gate_callee (f := 10) rfl ?_); refine goesL_ (some 33) rfl rfl Tryd.func10 (by kernel_rfl) rfl #[] rfl zx28_3 ?_; (with_reducible refine (postroomlaw10_shown.calls k  true _ A7.out).mono ?_); rintro e w15 ⟨rfl, hb⟩; refine ⟨_, rfl, ?_⟩; replace HB := Aside0.mk (below_step zx28_9 hb); (try clear hb); (try clear hb2); (try clear hk); (try clear hi)) | ((with_reducible refine gate_callee (f := 11) rfl ?_); refine goesL_ (some 43) rfl rfl Tryd.func11 (by kernel_rfl) rfl #[.slice A0 l0.length c0] rfl zx28_3 ?_; (with_reducible refine (postroomlaw10_run.calls k _ _ l0 bo bp bk _ ?side1 ?side2 A11.out).mono ?_); (case side1 => repeat (first | exact (Kd.C_below HR0.out HB.out) | (with_reducible refine Kd.C_alloc ?_ _) | (with_reducible refine Kd.C_drewN ?_ _) | (with_reducible refine Kd.C_drew ?_))); (case side2 => exact HC0.out); rintro e w16 ⟨js, rfl, ho0, hb⟩; refine ⟨_, rfl, ?_⟩; have dh := Aside0.mk (Kd.V_lower (Kd.V_mono (ok' := fun k_ => True) ho0 (fun k_ hk_ => trivial)) (below_size zx28_9)); replace HB := Aside0.mk (below_step zx28_9 hb); (try clear hb); (try clear hb2); (try clear hk); (try clear hi); (try clear ho0)) | ((with_reducible refine gate_dst (N := 14) rfl ?_); (try (refine gate_guard (by rfl) ?_; dsimp only)); refine box_event ?hg (N := 14) ?hd (cs := #[.int .u64 0, .int .u64 0, .slice none 0 0]) (t := 27) ?hr ?_; (case hd => rfl); (case hg => rfl); (case hr => first | (go_simp; done) | (go_simp; rfl)); intro ba hg w17 hbox hb; replace dh := Aside0.mk (Kd.V_below (Kd.V_elderB zx28_27 ba (Nat.le_of_eq hg.symm)) hb); have bg := Aside0.mk (hbox); have jb := Aside0.mk ((by rw [hg]; exact (below_size zx28_9) : w.heap.size ≤ ba)); have dI := Aside0.mk ((by rw [hg]; exact (below_size zx28_9) : w.heap.size ≤ ba)); replace HB := Aside0.mk (below_step zx28_9 hb); clear hb hbox hg; have ho : w17.cell? ⟨ba, 0, none⟩ = some (.int .u64 0) := (blk_cell bg.out 0).trans rfl; have hn : w17.cell? ⟨ba, 1, none⟩ = some (.int .u64 0) := (blk_cell bg.out 1).trans rfl; have hm : w17.cell? ⟨ba, 2, none⟩ = some (.slice none 0 0) := (blk_cell bg.out 2).trans rfl; have gR := blk_frozen bg.out 0; have gQ := blk_frozen bg.out 1; have gP := blk_frozen bg.out 2; obtain ⟨hY, hR, qq⟩ := Kd.V_slice dh.out; subst qq) | ((with_reducible refine gate_callee (f := 12) rfl ?_); refine goesL_ (some 45) rfl rfl Tryd.func12 (by kernel_rfl) rfl #[.int .i64 a1] rfl zx28_3 ?_; (with_reducible refine (postroomlaw10_name.calls a1 bG _ A12.out).mono ?_); rintro e w20 ⟨rfl, hb⟩; refine ⟨_, rfl, ?_⟩; replace dh := Aside0.mk (Kd.V_below (by (with_reducible repeat (first | apply Kd.V_alloc | apply Kd.V_drewN | apply Kd.V_drew)); exact (Kd.V_mono (Kd.V_far (p := ⟨ba, 2, none⟩) (Kd.V_far (p := ⟨ba, 1, none⟩) (Kd.V_far (p := ⟨ba, 0, none⟩) (Kd.V_mono dh.out (fun k_ hk => (⟨hk, hk.2⟩ : _ ∧ k_ ≠ ba))) (fun _ hk => hk.2) (.int .u64 bo)) (fun _ hk => hk.2) (.int .u64 bp)) (fun _ hk => hk.2) (.slice hY bk.length hR)) (fun _ h_ => h_.1))) hb); replace bg := Aside0.mk (blk_below (g := ba) (o := .cells #[.int .u64 bo, .int .u64 bp, .slice hY bk.length hR] 27 (0, 0)) zx28_14 hb); replace HB := Aside0.mk (below_step zx28_7 hb); (try clear hb); (try clear hb2); (try clear hk); (try clear hi); have hl : w20.cell? ⟨ba, 0, none⟩ = some (.int .u64 bo) := (blk_cell bg.out 0).trans rfl; have hj : w20.cell? ⟨ba, 1, none⟩ = some (.int .u64 bp) := (blk_cell bg.out 1).trans rfl; have hh : w20.cell? ⟨ba, 2, none⟩ = some (.slice hY bk.length hR) := (blk_cell bg.out 2).trans rfl; have gO := blk_frozen bg.out 0; have gN := blk_frozen bg.out 1; have gM := blk_frozen bg.out 2) | ((with_reducible refine gate_callee (f := 18) rfl ?_); refine goesL_ (some 48) rfl rfl Tryd.func18 (by kernel_rfl) rfl #[.agg #[.int .u64 bo, .int .u64 bp, .slice hY bk.length hR], .string bG] rfl zx28_3 ?_; (with_reducible refine (ledger_Pending.calls k bo bp _ _ bk bG bh _ ?side1 ?side2 A13.out).mono ?_); (case side1 => repeat (first | exact (Kd.V_reads' dh.out).2.2 | (with_reducible refine Kd.C_alloc ?_ _) | (with_reducible refine Kd.C_drewN ?_ _) | (with_reducible refine Kd.C_drew ?_))); (case side2 => exact (Kd.V_reads' dh.out).2.1); rintro e w22 ⟨jr, rfl, ho0, hb⟩; refine ⟨_, rfl, ?_⟩; replace dh := Aside0.mk (Kd.V_elder' zx28_27 (Kd.R_base ho0) hb); have ge := Aside0.mk (Kd.R_lower ho0 (below_size zx28_7)); replace bg := Aside0.mk (blk_below (g := ba) (o := .cells #[.int .u64 bo, .int .u64 bp, .slice hY bk.length hR] 27 (0, 0)) zx28_0 hb); replace HB := Aside0.mk (below_step zx28_7 hb); (try clear hb); (try clear hb2); (try clear hk); (try clear hi); (try clear ho0); obtain ⟨so, sk, qp⟩ := Kd.R_slice ge.out; subst qp))
  go_ret
  exact ⟨by first | rfl | (simp [errW_none, errW_some] <;> rfl) | (simp [*, errW_none, errW_some] <;> rfl), by repeat (first | (with_reducible first | exact HB.out | apply below_alloc | apply pw_below_drewN | apply below_drew1 | refine below_set ?_ dI.out) | exact HB.out)⟩
 rw [if_neg c14] at H
 have hV : decide ((bh.length : Int) < 2) = false := decide_eq_false c14
 have hU : decide (bh.length < 2) = false := decide_eq_false (by omega)
 clear c14
 replace H := Option.bind_eq_some_iff.mp H
 obtain ⟨bE, mY, H⟩ := H
 replace H : ((postroomlaw10_pick.f a3 (bh.length : Int)).bind fun bD => (if bE = bD then (some true) else (if a4 = true then (postroomlaw10_LedgerOrder.j0 k a5 bG bh bE bD 114 97 bo bp bk) else (postroomlaw10_LedgerOrder.j0 k a5 bG bh bE bD 97 97 bo bp bk)))) = some r := H
 have A24 := Aside0.mk mY
 clear mY
 replace H := Option.bind_eq_some_iff.mp H
 obtain ⟨bD, mX, H⟩ := H
 replace H : (if bE = bD then (some true) else (if a4 = true then (postroomlaw10_LedgerOrder.j0 k a5 bG bh bE bD 114 97 bo bp bk) else (postroomlaw10_LedgerOrder.j0 k a5 bG bh bE bD 97 97 bo bp bk))) = some r := H
 have A25 := Aside0.mk mX
 clear mX
 by_cases c26 : bE = bD
 ·rw [if_pos c26] at H
  have hT : (bE == bD) = true := beq_iff_eq.mpr c26
  have hS : (bE != bD) = false := bne_eq_false_iff_eq.mpr c26
  clear c26
  obtain rfl := Option.some.inj H
  go_enter Tryd.func6, Tryd.ntmps6
  go_wp2_with (first | ((with_reducible refine gate_callee (f := 10) rfl ?_); refine goesL_ (some 33) rfl rfl Tryd.func10 (by kernel_rfl) rfl #[] rfl zx28_3 ?_; (with_reducible refine (postroomlaw10_shown.calls k  true _ A7.out).mono ?_); rintro e w27 ⟨rfl, hb⟩; refine ⟨_, rfl, ?_⟩; replace HB := Aside0.mk (below_step zx28_9 hb); (try clear hb); (try clear hb2); (try clear hk); (try clear hi)) | ((with_reducible refine gate_callee (f := 11) rfl ?_); refine goesL_ (some 43) rfl rfl Tryd.func11 (by kernel_rfl) rfl #[.slice A0 l0.length c0] rfl zx28_3 ?_; (with_reducible refine (postroomlaw10_run.calls k _ _ l0 bo bp bk _ ?side1 ?side2 A11.out).mono ?_); (case side1 => repeat (first | exact (Kd.C_below HR0.out HB.out) | (with_reducible refine Kd.C_alloc ?_ _) | (with_reducible refine Kd.C_drewN ?_ _) | (with_reducible refine Kd.C_drew ?_))); (case side2 => exact HC0.out); rintro e w28 ⟨js, rfl, ho0, hb⟩; refine ⟨_, rfl, ?_⟩; have dh := Aside0.mk (Kd.V_lower (Kd.V_mono (ok' := fun k_ => True) ho0 (fun k_ hk_ => trivial)) (below_size zx28_9)); replace HB := Aside0.mk (below_step zx28_9 hb); (try clear hb); (try clear hb2); (try clear hk); (try clear hi); (try clear ho0)) | ((with_reducible refine gate_dst (N := 14) rfl ?_); (try (refine gate_guard (by rfl) ?_; dsimp only)); refine box_event ?hg (N := 14) ?hd (cs := #[.int .u64 0, .int .u64 0, .slice none 0 0]) (t := 27) ?hr ?_; (case hd => rfl); (case hg => rfl); (case hr => first | (go_simp; done) | (go_simp; rfl)); intro ba hg w29 hbox hb; replace dh := Aside0.mk (Kd.V_below (Kd.V_elderB zx28_27 ba (Nat.le_of_eq hg.symm)) hb); have bg := Aside0.mk (hbox); have jb := Aside0.mk ((by rw [hg]; exact (below_size zx28_9) : w.heap.size ≤ ba)); have dI := Aside0.mk ((by rw [hg]; exact (below_size zx28_9) : w.heap.size ≤ ba)); replace HB := Aside0.mk (below_step zx28_9 hb); clear hb hbox hg; have hf : w29.cell? ⟨ba, 0, none⟩ = some (.int .u64 0) := (blk_cell bg.out 0).trans rfl; have he : w29.cell? ⟨ba, 1, none⟩ = some (.int .u64 0) := (blk_cell bg.out 1).trans rfl; have hc : w29.cell? ⟨ba, 2, none⟩ = some (.slice none 0 0) := (blk_cell bg.out 2).trans rfl; have gL := blk_frozen bg.out 0; have gK := blk_frozen bg.out 1; have gJ := blk_frozen bg.out 2; obtain ⟨hX, hQ, qo⟩ := Kd.V_slice dh.out; subst qo) | ((with_reducible refine gate_callee (f := 12) rfl ?_); refine goesL_ (some 45) rfl rfl Tryd.func12 (by kernel_rfl) rfl #[.int .i64 a1] rfl zx28_3 ?_; (with_reducible refine (postroomlaw10_name.calls a1 bG _ A12.out).mono ?_); rintro e w32 ⟨rfl, hb⟩; refine ⟨_, rfl, ?_⟩; replace dh := Aside0.mk (Kd.V_below (by (with_reducible repeat (first | apply Kd.V_alloc | apply Kd.V_drewN | apply Kd.V_drew)); exact (Kd.V_mono (Kd.V_far (p := ⟨ba, 2, none⟩) (Kd.V_far (p := ⟨ba, 1, none⟩) (Kd.V_far (p := ⟨ba, 0, none⟩) (Kd.V_mono dh.out (fun k_ hk => (⟨hk, hk.2⟩ : _ ∧ k_ ≠ ba))) (fun _ hk => hk.2) (.int .u64 bo)) (fun _ hk => hk.2) (.int .u64 bp)) (fun _ hk => hk.2) (.slice hX bk.length hQ)) (fun _ h_ => h_.1))) hb); replace bg := Aside0.mk (blk_below (g := ba) (o := .cells #[.int .u64 bo, .int .u64 bp, .slice hX bk.length hQ] 27 (0, 0)) zx28_14 hb); replace HB := Aside0.mk (below_step zx28_7 hb); (try clear hb); (try clear hb2); (try clear hk); (try clear hi); have ha : w32.cell? ⟨ba, 0, none⟩ = some (.int .u64 bo) := (blk_cell bg.out 0).trans rfl; have gZ : w32.cell? ⟨ba, 1, none⟩ = some (.int .u64 bp) := (blk_cell bg.out 1).trans rfl; have gY : w32.cell? ⟨ba, 2, none⟩ = some (.slice hX bk.length hQ) := (blk_cell bg.out 2).trans rfl; have gI := blk_frozen bg.out 0; have gH := blk_frozen bg.out 1; have gG := blk_frozen bg.out 2) | ((with_reducible refine gate_callee (f := 18) rfl ?_); refine goesL_ (some 48) rfl rfl Tryd.func18 (by kernel_rfl) rfl #[.agg #[.int .u64 bo, .int .u64 bp, .slice hX bk.length hQ], .string bG] rfl zx28_3 ?_; (with_reducible refine (ledger_Pending.calls k bo bp _ _ bk bG bh _ ?side1 ?side2 A13.out).mono ?_); (case side1 => repeat (first | exact (Kd.V_reads' dh.out).2.2 | (with_reducible refine Kd.C_alloc ?_ _) | (with_reducible refine Kd.C_drewN ?_ _) | (with_reducible refine Kd.C_drew ?_))); (case side2 => exact (Kd.V_reads' dh.out).2.1); rintro e w34 ⟨jr, rfl, ho0, hb⟩; refine ⟨_, rfl, ?_⟩; replace dh := Aside0.mk (Kd.V_elder' zx28_27 (Kd.R_base ho0) hb); have ge := Aside0.mk (Kd.R_lower ho0 (below_size zx28_7)); replace bg := Aside0.mk (blk_below (g := ba) (o := .cells #[.int .u64 bo, .int .u64 bp, .slice hX bk.length hQ] 27 (0, 0)) zx28_0 hb); replace HB := Aside0.mk (below_step zx28_7 hb); (try clear hb); (try clear hb2); (try clear hk); (try clear hi); (try clear ho0); obtain ⟨sn, sj, qn⟩ := Kd.R_slice ge.out; subst qn) | ((with_reducible refine gate_callee (f := 15) rfl ?_); refine goesL_ (some 55) rfl rfl Tryd.func15 (by kernel_rfl) rfl #[.int .i64 a2, .int .i64 (bh.length : Int)] rfl zx28_3 ?_; (with_reducible refine (postroomlaw10_pick.calls a2 (bh.length : Int) bE _ A24.out).mono ?_); rintro e w' ⟨rfl, ⟨nd, rfl⟩⟩; refine ⟨_, rfl, ?_⟩) | ((with_reducible refine gate_callee (f := 15) rfl ?_); refine goesL_ (some 59) rfl rfl Tryd.func15 (by kernel_rfl) rfl #[.int .i64 a3, .int .i64 (bh.length : Int)] rfl zx28_3 ?_; (with_reducible refine (postroomlaw10_pick.calls a3 (bh.length : Int) bD _ A25.out).mono ?_); rintro e w' ⟨rfl, ⟨nd, rfl⟩⟩; refine ⟨_, rfl, ?_⟩))
  go_ret
  exact ⟨by first | rfl | (simp [errW_none, errW_some] <;> rfl) | (simp [*, errW_none, errW_some] <;> rfl), by repeat (first | (with_reducible first | exact HB.out | apply below_alloc | apply pw_below_drewN | apply below_drew1 | refine below_set ?_ dI.out) | exact HB.out)⟩
 rw [if_neg c26] at H
 have hT : (bE == bD) = false := beq_eq_false_iff_ne.mpr c26
 have hS : (bE != bD) = true := bne_iff_ne.mpr c26
 have jq := Aside0.mk H
 clear H
 go_enter Tryd.func6, Tryd.ntmps6
 go_upto_if 63 with (first | ((with_reducible refine gate_callee (f := 10) rfl ?_); refine goesL_ (some 33) rfl rfl Tryd.func10 (by kernel_rfl) rfl #[] rfl zx28_3 ?_; (with_reducible refine (postroomlaw10_shown.calls k  true _ A7.out).mono ?_); rintro e w37 ⟨rfl, hb⟩; refine ⟨_, rfl, ?_⟩; replace HB := Aside0.mk (below_step zx28_9 hb); (try clear hb); (try clear hb2); (try clear hk); (try clear hi)) | ((with_reducible refine gate_callee (f := 11) rfl ?_); refine goesL_ (some 43) rfl rfl Tryd.func11 (by kernel_rfl) rfl #[.slice A0 l0.length c0] rfl zx28_3 ?_; (with_reducible refine (postroomlaw10_run.calls k _ _ l0 bo bp bk _ ?side1 ?side2 A11.out).mono ?_); (case side1 => repeat (first | exact (Kd.C_below HR0.out HB.out) | (with_reducible refine Kd.C_alloc ?_ _) | (with_reducible refine Kd.C_drewN ?_ _) | (with_reducible refine Kd.C_drew ?_))); (case side2 => exact HC0.out); rintro e w38 ⟨js, rfl, ho0, hb⟩; refine ⟨_, rfl, ?_⟩; have dh := Aside0.mk (Kd.V_lower (Kd.V_mono (ok' := fun k_ => True) ho0 (fun k_ hk_ => trivial)) (below_size zx28_9)); replace HB := Aside0.mk (below_step zx28_9 hb); (try clear hb); (try clear hb2); (try clear hk); (try clear hi); (try clear ho0)) | ((with_reducible refine gate_dst (N := 14) rfl ?_); (try (refine gate_guard (by rfl) ?_; dsimp only)); refine box_event ?hg (N := 14) ?hd (cs := #[.int .u64 0, .int .u64 0, .slice none 0 0]) (t := 27) ?hr ?_; (case hd => rfl); (case hg => rfl); (case hr => first | (go_simp; done) | (go_simp; rfl)); intro ba hg w39 hbox hb; replace dh := Aside0.mk (Kd.V_below (Kd.V_elderB zx28_27 ba (Nat.le_of_eq hg.symm)) hb); have bg := Aside0.mk (hbox); have jb := Aside0.mk ((by rw [hg]; exact (below_size zx28_9) : w.heap.size ≤ ba)); have dI := Aside0.mk ((by rw [hg]; exact (below_size zx28_9) : w.heap.size ≤ ba)); replace HB := Aside0.mk (below_step zx28_9 hb); clear hb hbox hg; have gX : w39.cell? ⟨ba, 0, none⟩ = some (.int .u64 0) := (blk_cell bg.out 0).trans rfl; have gW : w39.cell? ⟨ba, 1, none⟩ = some (.int .u64 0) := (blk_cell bg.out 1).trans rfl; have gV : w39.cell? ⟨ba, 2, none⟩ = some (.slice none 0 0) := (blk_cell bg.out 2).trans rfl; have gF := blk_frozen bg.out 0; have gE := blk_frozen bg.out 1; have gD := blk_frozen bg.out 2; obtain ⟨bw, bu, qm⟩ := Kd.V_slice dh.out; subst qm) | ((with_reducible refine gate_callee (f := 12) rfl ?_); refine goesL_ (some 45) rfl rfl Tryd.func12 (by kernel_rfl) rfl #[.int .i64 a1] rfl zx28_3 ?_; (with_reducible refine (postroomlaw10_name.calls a1 bG _ A12.out).mono ?_); rintro e w42 ⟨rfl, hb⟩; refine ⟨_, rfl, ?_⟩; replace dh := Aside0.mk (Kd.V_below (by (with_reducible repeat (first | apply Kd.V_alloc | apply Kd.V_drewN | apply Kd.V_drew)); exact (Kd.V_mono (Kd.V_far (p := ⟨ba, 2, none⟩) (Kd.V_far (p := ⟨ba, 1, none⟩) (Kd.V_far (p := ⟨ba, 0, none⟩) (Kd.V_mono dh.out (fun k_ hk => (⟨hk, hk.2⟩ : _ ∧ k_ ≠ ba))) (fun _ hk => hk.2) (.int .u64 bo)) (fun _ hk => hk.2) (.int .u64 bp)) (fun _ hk => hk.2) (.slice bw bk.length bu)) (fun _ h_ => h_.1))) hb); replace bg := Aside0.mk (blk_below (g := ba) (o := .cells #[.int .u64 bo, .int .u64 bp, .slice bw bk.length bu] 27 (0, 0)) zx28_14 hb); replace HB := Aside0.mk (below_step zx28_7 hb); (try clear hb); (try clear hb2); (try clear hk); (try clear hi); have gU : w42.cell? ⟨ba, 0, none⟩ = some (.int .u64 bo) := (blk_cell bg.out 0).trans rfl; have gT : w42.cell? ⟨ba, 1, none⟩ = some (.int .u64 bp) := (blk_cell bg.out 1).trans rfl; have gS : w42.cell? ⟨ba, 2, none⟩ = some (.slice bw bk.length bu) := (blk_cell bg.out 2).trans rfl; have gC := blk_frozen bg.out 0; have gB := blk_frozen bg.out 1; have gA := blk_frozen bg.out 2) | ((with_reducible refine gate_callee (f := 18) rfl ?_); refine goesL_ (some 48) rfl rfl Tryd.func18 (by kernel_rfl) rfl #[.agg #[.int .u64 bo, .int .u64 bp, .slice bw bk.length bu], .string bG] rfl zx28_3 ?_; (with_reducible refine (ledger_Pending.calls k bo bp _ _ bk bG bh _ ?side1 ?side2 A13.out).mono ?_); (case side1 => repeat (first | exact (Kd.V_reads' dh.out).2.2 | (with_reducible refine Kd.C_alloc ?_ _) | (with_reducible refine Kd.C_drewN ?_ _) | (with_reducible refine Kd.C_drew ?_))); (case side2 => exact (Kd.V_reads' dh.out).2.1); rintro e w44 ⟨jr, rfl, ho0, hb⟩; refine ⟨_, rfl, ?_⟩; replace dh := Aside0.mk (Kd.V_elder' zx28_27 (Kd.R_base ho0) hb); have ge := Aside0.mk (Kd.R_lower ho0 (below_size zx28_7)); replace bg := Aside0.mk (blk_below (g := ba) (o := .cells #[.int .u64 bo, .int .u64 bp, .slice bw bk.length bu] 27 (0, 0)) zx28_0 hb); replace HB := Aside0.mk (below_step zx28_7 hb); (try clear hb); (try clear hb2); (try clear hk); (try clear hi); (try clear ho0); obtain ⟨hZ, bH, ql⟩ := Kd.R_slice ge.out; subst ql) | ((with_reducible refine gate_callee (f := 15) rfl ?_); refine goesL_ (some 55) rfl rfl Tryd.func15 (by kernel_rfl) rfl #[.int .i64 a2, .int .i64 (bh.length : Int)] rfl zx28_3 ?_; (with_reducible refine (postroomlaw10_pick.calls a2 (bh.length : Int) bE _ A24.out).mono ?_); rintro e w' ⟨rfl, ⟨nd, rfl⟩⟩; refine ⟨_, rfl, ?_⟩) | ((with_reducible refine gate_callee (f := 15) rfl ?_); refine goesL_ (some 59) rfl rfl Tryd.func15 (by kernel_rfl) rfl #[.int .i64 a3, .int .i64 (bh.length : Int)] rfl zx28_3 ?_; (with_reducible refine (postroomlaw10_pick.calls a3 (bh.length : Int) bD _ A25.out).mono ?_); rintro e w' ⟨rfl, ⟨nd, rfl⟩⟩; refine ⟨_, rfl, ?_⟩))
 (try simp only [Act.put, List.setIfInBounds_toArray, List.set_cons_zero, List.set_cons_succ])
 go_cut [19] (fun v19 wc => ∃ (kq : Nat) (dm : Int), v19 = .int .u8 dm ∧ Aside0 (postroomlaw10_LedgerOrder.j0 kq a5 bG bh bE bD dm 97 bo bp bk = some r) ∧ Aside0 (kq ≤ k) ∧ Aside0 (Kd.R (Kd.int .u64) 24 wc w.heap.size (fun _ => True) (.slice hZ bh.length bH) bh) ∧ Aside0 (Kd.V k37 37 wc w.heap.size (fun k_ => some k_ ≠ ((.slice hZ bh.length bH) : Value).ownBlock ∧ k_ ≠ ba) (.slice bw bk.length bu) bk) ∧ Aside0 (wc.heap[ba]? = some (.cells #[.int .u64 bo, .int .u64 bp, (.slice bw bk.length bu)] 27 (0, 0))) ∧ Aside0 (Below w.heap.size w wc))
 case first =>
  have H := jq.out
  clear jq
  by_cases c46 : a4 = true
  ·subst c46
   have H1 : (postroomlaw10_LedgerOrder.j0 k a5 bG bh bE bD 114 97 bo bp bk) = some r := by rw [if_pos rfl] at H; exact H
   clear H
   have H := H1
   clear H1
   have H' := Aside0.mk H
   clear H
   go_wp2
   go_meet
   case rel => exact ⟨_, (114), (by first | rfl | (simp; done) | (simp [*]; done)), H', ⟨by first | omega | exact Nat.le_refl _⟩, ⟨by (with_reducible repeat (first | apply Kd.R_alloc | apply Kd.R_drewN | apply Kd.R_drew)); exact ge.out⟩, ⟨by (with_reducible repeat (first | apply Kd.V_alloc | apply Kd.V_drewN | apply Kd.V_drew)); exact Kd.V_mono dh.out (fun _ hk => ⟨hk.2, hk.1.2⟩)⟩, ⟨by (with_reducible repeat (first | refine blk_drewN ?_ _ | refine blk_drew ?_ | refine blk_alloc ?_ _)); exact bg.out⟩, ⟨by repeat (first | (with_reducible first | exact HB.out | apply below_alloc | apply pw_below_drewN | apply below_drew1 | refine below_set ?_ dI.out) | exact HB.out)⟩⟩
  replace c46 := Bool.eq_false_iff.mpr c46
  subst c46
  have H1 : (postroomlaw10_LedgerOrder.j0 k a5 bG bh bE bD 97 97 bo bp bk) = some r := by rw [if_neg (show ¬ (false = true) by decide)] at H; exact H
  clear H
  have H := H1
  clear H1
  have H' := Aside0.mk H
  clear H
  go_wp2
  go_meet
  case rel => exact ⟨_, (97), (by first | rfl | (simp; done) | (simp [*]; done)), H', ⟨by first | omega | exact Nat.le_refl _⟩, ⟨by (with_reducible repeat (first | apply Kd.R_alloc | apply Kd.R_drewN | apply Kd.R_drew)); exact ge.out⟩, ⟨by (with_reducible repeat (first | apply Kd.V_alloc | apply Kd.V_drewN | apply Kd.V_drew)); exact Kd.V_mono dh.out (fun _ hk => ⟨hk.2, hk.1.2⟩)⟩, ⟨by (with_reducible repeat (first | refine blk_drewN ?_ _ | refine blk_drew ?_ | refine blk_alloc ?_ _)); exact bg.out⟩, ⟨by repeat (first | (with_reducible first | exact HB.out | apply below_alloc | apply pw_below_drewN | apply below_drew1 | refine below_set ?_ dI.out) | exact HB.out)⟩⟩
 case rest =>
  clear jq
  (try clear c1); (try clear c2); (try clear p2); (try clear c4); (try clear c6); (try clear c8); (try clear c9); (try clear jo); (try clear jn); (try clear c10); (try clear c11); (try clear c12); (try clear c14); (try clear hV); (try clear hU); (try clear c15); (try clear c18); (try clear c26); (try clear hT); (try clear hS); (try clear c46); (try clear ho); (try clear hn); (try clear hm); (try clear hl); (try clear hj); (try clear hh); (try clear hf); (try clear he); (try clear hc); (try clear ha); (try clear gZ); (try clear gY); (try clear gX); (try clear gW); (try clear gV); (try clear gU); (try clear gT); (try clear gS); (try clear gR); (try clear gQ); (try clear gP); (try clear gO); (try clear gN); (try clear gM); (try clear gL); (try clear gK); (try clear gJ); (try clear gI); (try clear gH); (try clear gG); (try clear gF); (try clear gE); (try clear gD); (try clear gC); (try clear gB); (try clear gA)
  obtain ⟨kq, dm, rfl, HA, mN, bm, bf, bg, HB⟩ := hcut
  cases kq with
  | zero => exact absurd HA.out (by simp [postroomlaw10_LedgerOrder.j0])
  | succ jm => ?_
  have H := HA.out
  clear HA
  simp only [postroomlaw10_LedgerOrder.j0] at H
  have jp := Aside0.mk H
  clear H
  go_upto_if 64 with (fail)
  go_cut [20] (fun v20 wc => ∃ (kq : Nat) (dJ : Int), v20 = .int .u8 dJ ∧ Aside0 (postroomlaw10_LedgerOrder.j1 kq bG bh bE bD dm dJ bo bp bk = some r) ∧ Aside0 (kq ≤ jm) ∧ Aside0 (Kd.R (Kd.int .u64) 24 wc w.heap.size (fun _ => True) (.slice hZ bh.length bH) bh) ∧ Aside0 (Kd.V k37 37 wc w.heap.size (fun k_ => some k_ ≠ ((.slice hZ bh.length bH) : Value).ownBlock ∧ k_ ≠ ba) (.slice bw bk.length bu) bk) ∧ Aside0 (wc.heap[ba]? = some (.cells #[.int .u64 bo, .int .u64 bp, (.slice bw bk.length bu)] 27 (0, 0))) ∧ Aside0 (Below w.heap.size w wc))
  case first =>
   have H := jp.out
   clear jp
   by_cases c48 : a5 = true
   ·subst c48
    have H1 : (postroomlaw10_LedgerOrder.j1 jm bG bh bE bD dm 114 bo bp bk) = some r := by rw [if_pos rfl] at H; exact H
    clear H
    have H := H1
    clear H1
    have H' := Aside0.mk H
    clear H
    go_wp2
    go_meet
    case rel => exact ⟨_, (114), (by first | rfl | (simp; done) | (simp [*]; done)), H', ⟨by have := mN.out; first | omega | exact Nat.le_refl _⟩, ⟨by (with_reducible repeat (first | apply Kd.R_alloc | apply Kd.R_drewN | apply Kd.R_drew)); exact bm.out⟩, ⟨by (with_reducible repeat (first | apply Kd.V_alloc | apply Kd.V_drewN | apply Kd.V_drew)); exact bf.out⟩, ⟨by (with_reducible repeat (first | refine blk_drewN ?_ _ | refine blk_drew ?_ | refine blk_alloc ?_ _)); exact bg.out⟩, ⟨by repeat (first | (with_reducible first | exact HB.out | apply below_alloc | apply pw_below_drewN | apply below_drew1 | refine below_set ?_ dI.out) | exact HB.out)⟩⟩
   replace c48 := Bool.eq_false_iff.mpr c48
   subst c48
   have H1 : (postroomlaw10_LedgerOrder.j1 jm bG bh bE bD dm 97 bo bp bk) = some r := by rw [if_neg (show ¬ (false = true) by decide)] at H; exact H
   clear H
   have H := H1
   clear H1
   have H' := Aside0.mk H
   clear H
   go_wp2
   go_meet
   case rel => exact ⟨_, (97), (by first | rfl | (simp; done) | (simp [*]; done)), H', ⟨by have := mN.out; first | omega | exact Nat.le_refl _⟩, ⟨by (with_reducible repeat (first | apply Kd.R_alloc | apply Kd.R_drewN | apply Kd.R_drew)); exact bm.out⟩, ⟨by (with_reducible repeat (first | apply Kd.V_alloc | apply Kd.V_drewN | apply Kd.V_drew)); exact bf.out⟩, ⟨by (with_reducible repeat (first | refine blk_drewN ?_ _ | refine blk_drew ?_ | refine blk_alloc ?_ _)); exact bg.out⟩, ⟨by repeat (first | (with_reducible first | exact HB.out | apply below_alloc | apply pw_below_drewN | apply below_drew1 | refine below_set ?_ dI.out) | exact HB.out)⟩⟩
  case rest =>
   clear jp
   (try clear c1); (try clear c2); (try clear p2); (try clear c4); (try clear c6); (try clear c8); (try clear c9); (try clear jo); (try clear jn); (try clear c10); (try clear c11); (try clear c12); (try clear c14); (try clear hV); (try clear hU); (try clear c15); (try clear c18); (try clear c26); (try clear hT); (try clear hS); (try clear c46); (try clear c48); (try clear ho); (try clear hn); (try clear hm); (try clear hl); (try clear hj); (try clear hh); (try clear hf); (try clear he); (try clear hc); (try clear ha); (try clear gZ); (try clear gY); (try clear gX); (try clear gW); (try clear gV); (try clear gU); (try clear gT); (try clear gS); (try clear gR); (try clear gQ); (try clear gP); (try clear gO); (try clear gN); (try clear gM); (try clear gL); (try clear gK); (try clear gJ); (try clear gI); (try clear gH); (try clear gG); (try clear gF); (try clear gE); (try clear gD); (try clear gC); (try clear gB); (try clear gA); (try clear p2)
   obtain ⟨kq, dJ, rfl, HA, sl, bm, bf, bg, HB⟩ := hcut
   cases kq with
   | zero => exact absurd HA.out (by simp [postroomlaw10_LedgerOrder.j1])
   | succ b9 => ?_
   have H := HA.out
   clear HA
   simp only [postroomlaw10_LedgerOrder.j1] at H
   by_cases c49 : 0 ≤ bE
   case neg =>
    rw [if_neg c49] at H
    exact absurd H (by simp)
   rw [if_pos c49] at H
   have qY : decide (0 ≤ bE) = true := decide_eq_true c49
   clear c49
   by_cases c50 : bE < (bh.length : Int)
   case neg =>
    rw [if_neg c50] at H
    exact absurd H (by simp)
   rw [if_pos c50] at H
   have qX : decide (bE < (bh.length : Int)) = true := decide_eq_true c50
   clear c50
   replace H := Option.bind_eq_some_iff.mp H
   obtain ⟨⟨bJ, bN, bx, d8⟩, mW, H⟩ := H
   replace H : (if 0 ≤ bD then (if bD < (bh.length : Int) then ((ledger_Done.f b9 bJ bN bx bG (rd bh bD) dJ).bind fun dU => ((ledger_Done.f b9 bo bp bk bG (rd bh bD) dJ).bind fun dX => ((ledger_Done.f b9 dX.1 dX.2.1 dX.2.2.1 bG (rd bh bE) dm).bind fun b8 => ((ledger_Find.f dU.1 dU.2.1 dU.2.2.1 bG).bind fun da => ((ledger_Find.f b8.1 b8.2.1 b8.2.2.1 bG).bind fun b4 => (if d8 = 0 then (if dU.2.2.2 = 0 then (if dX.2.2.2 = 0 then (if b8.2.2.2 = 0 then (if da.2.2.2.2.2.2.2 = true then (if b4.2.2.2.2.2.2.2 = true then (if da.2.2.1 = b4.2.2.1 then ((postroomref10_Same.f b9 da.2.2.2.1 b4.2.2.2.1).bind fun dZ => (if dZ = true then (if da.2.2.2.2.1 = b4.2.2.2.2.1 then (if da.2.2.2.2.2.2.1 = b4.2.2.2.2.2.2.1 then ((ledger_Free.f b9 dU.1 dU.2.1 dU.2.2.1).bind fun dR => ((ledger_Free.f b9 b8.1 b8.2.1 b8.2.2.1).bind fun dP => (some (dR == dP)))) else (none)) else (none)) else (none))) else (none)) else (none)) else (none)) else (none)) else (none)) else (none)) else (none))))))) else (none)) else (none)) = some r := H
   have A51 := Aside0.mk mW
   clear mW
   by_cases c52 : 0 ≤ bD
   case neg =>
    rw [if_neg c52] at H
    exact absurd H (by simp)
   rw [if_pos c52] at H
   have qW : decide (0 ≤ bD) = true := decide_eq_true c52
   clear c52
   by_cases c53 : bD < (bh.length : Int)
   case neg =>
    rw [if_neg c53] at H
    exact absurd H (by simp)
   rw [if_pos c53] at H
   have qV : decide (bD < (bh.length : Int)) = true := decide_eq_true c53
   clear c53
   replace H := Option.bind_eq_some_iff.mp H
   obtain ⟨⟨bM, bP, bB, ga⟩, mV, H⟩ := H
   replace H : ((ledger_Done.f b9 bo bp bk bG (rd bh bD) dJ).bind fun dX => ((ledger_Done.f b9 dX.1 dX.2.1 dX.2.2.1 bG (rd bh bE) dm).bind fun b8 => ((ledger_Find.f bM bP bB bG).bind fun da => ((ledger_Find.f b8.1 b8.2.1 b8.2.2.1 bG).bind fun b4 => (if d8 = 0 then (if ga = 0 then (if dX.2.2.2 = 0 then (if b8.2.2.2 = 0 then (if da.2.2.2.2.2.2.2 = true then (if b4.2.2.2.2.2.2.2 = true then (if da.2.2.1 = b4.2.2.1 then ((postroomref10_Same.f b9 da.2.2.2.1 b4.2.2.2.1).bind fun dZ => (if dZ = true then (if da.2.2.2.2.1 = b4.2.2.2.2.1 then (if da.2.2.2.2.2.2.1 = b4.2.2.2.2.2.2.1 then ((ledger_Free.f b9 bM bP bB).bind fun dR => ((ledger_Free.f b9 b8.1 b8.2.1 b8.2.2.1).bind fun dP => (some (dR == dP)))) else (none)) else (none)) else (none))) else (none)) else (none)) else (none)) else (none)) else (none)) else (none)) else (none)))))) = some r := H
   have A54 := Aside0.mk mV
   clear mV
   replace H := Option.bind_eq_some_iff.mp H
   obtain ⟨⟨b1, b3, bY, gb⟩, mU, H⟩ := H
   replace H : ((ledger_Done.f b9 b1 b3 bY bG (rd bh bE) dm).bind fun b8 => ((ledger_Find.f bM bP bB bG).bind fun da => ((ledger_Find.f b8.1 b8.2.1 b8.2.2.1 bG).bind fun b4 => (if d8 = 0 then (if ga = 0 then (if gb = 0 then (if b8.2.2.2 = 0 then (if da.2.2.2.2.2.2.2 = true then (if b4.2.2.2.2.2.2.2 = true then (if da.2.2.1 = b4.2.2.1 then ((postroomref10_Same.f b9 da.2.2.2.1 b4.2.2.2.1).bind fun dZ => (if dZ = true then (if da.2.2.2.2.1 = b4.2.2.2.2.1 then (if da.2.2.2.2.2.2.1 = b4.2.2.2.2.2.2.1 then ((ledger_Free.f b9 bM bP bB).bind fun dR => ((ledger_Free.f b9 b8.1 b8.2.1 b8.2.2.1).bind fun dP => (some (dR == dP)))) else (none)) else (none)) else (none))) else (none)) else (none)) else (none)) else (none)) else (none)) else (none)) else (none))))) = some r := H
   have A55 := Aside0.mk mU
   clear mU
   replace H := Option.bind_eq_some_iff.mp H
   obtain ⟨⟨dg, di, df, gc⟩, mT, H⟩ := H
   replace H : ((ledger_Find.f bM bP bB bG).bind fun da => ((ledger_Find.f dg di df bG).bind fun b4 => (if d8 = 0 then (if ga = 0 then (if gb = 0 then (if gc = 0 then (if da.2.2.2.2.2.2.2 = true then (if b4.2.2.2.2.2.2.2 = true then (if da.2.2.1 = b4.2.2.1 then ((postroomref10_Same.f b9 da.2.2.2.1 b4.2.2.2.1).bind fun dZ => (if dZ = true then (if da.2.2.2.2.1 = b4.2.2.2.2.1 then (if da.2.2.2.2.2.2.1 = b4.2.2.2.2.2.2.1 then ((ledger_Free.f b9 bM bP bB).bind fun dR => ((ledger_Free.f b9 dg di df).bind fun dP => (some (dR == dP)))) else (none)) else (none)) else (none))) else (none)) else (none)) else (none)) else (none)) else (none)) else (none)) else (none)))) = some r := H
   have A56 := Aside0.mk mT
   clear mT
   replace H := Option.bind_eq_some_iff.mp H
   obtain ⟨⟨dW, dY, dL, dp, dK, d3, dS, jd⟩, mS, H⟩ := H
   replace H : ((ledger_Find.f dg di df bG).bind fun b4 => (if d8 = 0 then (if ga = 0 then (if gb = 0 then (if gc = 0 then (if jd = true then (if b4.2.2.2.2.2.2.2 = true then (if dL = b4.2.2.1 then ((postroomref10_Same.f b9 dp b4.2.2.2.1).bind fun dZ => (if dZ = true then (if dK = b4.2.2.2.2.1 then (if dS = b4.2.2.2.2.2.2.1 then ((ledger_Free.f b9 bM bP bB).bind fun dR => ((ledger_Free.f b9 dg di df).bind fun dP => (some (dR == dP)))) else (none)) else (none)) else (none))) else (none)) else (none)) else (none)) else (none)) else (none)) else (none)) else (none))) = some r := H
   have A57 := Aside0.mk mS
   clear mS
   replace H := Option.bind_eq_some_iff.mp H
   obtain ⟨⟨dl, dn, de, b7, dd, dy, dj, jc⟩, mR, H⟩ := H
   replace H : (if d8 = 0 then (if ga = 0 then (if gb = 0 then (if gc = 0 then (if jd = true then (if jc = true then (if dL = de then ((postroomref10_Same.f b9 dp b7).bind fun dZ => (if dZ = true then (if dK = dd then (if dS = dj then ((ledger_Free.f b9 bM bP bB).bind fun dR => ((ledger_Free.f b9 dg di df).bind fun dP => (some (dR == dP)))) else (none)) else (none)) else (none))) else (none)) else (none)) else (none)) else (none)) else (none)) else (none)) else (none)) = some r := H
   have A58 := Aside0.mk mR
   clear mR
   by_cases c59 : d8 = 0
   case neg =>
    rw [if_neg c59] at H
    exact absurd H (by simp)
   rw [if_pos c59] at H
   have qU : (d8 == 0) = true := beq_iff_eq.mpr c59
   have qT : (d8 != 0) = false := bne_eq_false_iff_eq.mpr c59
   clear c59
   by_cases c60 : ga = 0
   case neg =>
    rw [if_neg c60] at H
    exact absurd H (by simp)
   rw [if_pos c60] at H
   have qS : (ga == 0) = true := beq_iff_eq.mpr c60
   have qR : (ga != 0) = false := bne_eq_false_iff_eq.mpr c60
   clear c60
   by_cases c61 : gb = 0
   case neg =>
    rw [if_neg c61] at H
    exact absurd H (by simp)
   rw [if_pos c61] at H
   have qQ : (gb == 0) = true := beq_iff_eq.mpr c61
   have qP : (gb != 0) = false := bne_eq_false_iff_eq.mpr c61
   clear c61
   by_cases c62 : gc = 0
   case neg =>
    rw [if_neg c62] at H
    exact absurd H (by simp)
   rw [if_pos c62] at H
   have qO : (gc == 0) = true := beq_iff_eq.mpr c62
   have qN : (gc != 0) = false := bne_eq_false_iff_eq.mpr c62
   clear c62
   by_cases c63 : jd = true
   case neg =>
    replace c63 := Bool.eq_false_iff.mpr c63
    subst c63
    have H1 : (none) = some r := by rw [if_neg (show ¬ (false = true) by decide)] at H; exact H
    clear H
    have H := H1
    clear H1
    exact absurd H (by simp)
   subst c63
   have H1 : (if jc = true then (if dL = de then ((postroomref10_Same.f b9 dp b7).bind fun dZ => (if dZ = true then (if dK = dd then (if dS = dj then ((ledger_Free.f b9 bM bP bB).bind fun dR => ((ledger_Free.f b9 dg di df).bind fun dP => (some (dR == dP)))) else (none)) else (none)) else (none))) else (none)) else (none)) = some r := by rw [if_pos rfl] at H; exact H
   clear H
   have H := H1
   clear H1
   by_cases c64 : jc = true
   case neg =>
    replace c64 := Bool.eq_false_iff.mpr c64
    subst c64
    have H1 : (none) = some r := by rw [if_neg (show ¬ (false = true) by decide)] at H; exact H
    clear H
    have H := H1
    clear H1
    exact absurd H (by simp)
   subst c64
   have H1 : (if dL = de then ((postroomref10_Same.f b9 dp b7).bind fun dZ => (if dZ = true then (if dK = dd then (if dS = dj then ((ledger_Free.f b9 bM bP bB).bind fun dR => ((ledger_Free.f b9 dg di df).bind fun dP => (some (dR == dP)))) else (none)) else (none)) else (none))) else (none)) = some r := by rw [if_pos rfl] at H; exact H
   clear H
   have H := H1
   clear H1
   by_cases c65 : dL = de
   case neg =>
    rw [if_neg c65] at H
    exact absurd H (by simp)
   rw [if_pos c65] at H
   have qM : (dL == de) = true := beq_iff_eq.mpr c65
   have qL : (dL != de) = false := bne_eq_false_iff_eq.mpr c65
   clear c65
   replace H := Option.bind_eq_some_iff.mp H
   obtain ⟨dZ, mQ, H⟩ := H
   replace H : (if dZ = true then (if dK = dd then (if dS = dj then ((ledger_Free.f b9 bM bP bB).bind fun dR => ((ledger_Free.f b9 dg di df).bind fun dP => (some (dR == dP)))) else (none)) else (none)) else (none)) = some r := H
   have A66 := Aside0.mk mQ
   clear mQ
   by_cases c67 : dZ = true
   case neg =>
    replace c67 := Bool.eq_false_iff.mpr c67
    subst c67
    have H1 : (none) = some r := by rw [if_neg (show ¬ (false = true) by decide)] at H; exact H
    clear H
    have H := H1
    clear H1
    exact absurd H (by simp)
   subst c67
   have H1 : (if dK = dd then (if dS = dj then ((ledger_Free.f b9 bM bP bB).bind fun dR => ((ledger_Free.f b9 dg di df).bind fun dP => (some (dR == dP)))) else (none)) else (none)) = some r := by rw [if_pos rfl] at H; exact H
   clear H
   have H := H1
   clear H1
   by_cases c68 : dK = dd
   case neg =>
    rw [if_neg c68] at H
    exact absurd H (by simp)
   rw [if_pos c68] at H
   have qK : (dK == dd) = true := beq_iff_eq.mpr c68
   have qJ : (dK != dd) = false := bne_eq_false_iff_eq.mpr c68
   clear c68
   by_cases c69 : dS = dj
   case neg =>
    rw [if_neg c69] at H
    exact absurd H (by simp)
   rw [if_pos c69] at H
   have qI : (dS == dj) = true := beq_iff_eq.mpr c69
   have qH : (dS != dj) = false := bne_eq_false_iff_eq.mpr c69
   clear c69
   replace H := Option.bind_eq_some_iff.mp H
   obtain ⟨dR, mP, H⟩ := H
   replace H : ((ledger_Free.f b9 dg di df).bind fun dP => (some (dR == dP))) = some r := H
   have A70 := Aside0.mk mP
   clear mP
   replace H := Option.bind_eq_some_iff.mp H
   obtain ⟨dP, mO, H⟩ := H
   replace H : (some (dR == dP)) = some r := H
   have A71 := Aside0.mk mO
   clear mO
   obtain rfl := Option.some.inj H
   try go_wp2
   replace bm := Aside0.mk (Kd.R_drew bm.out)
   replace bf := Aside0.mk (Kd.V_drew bf.out)
   replace bg := Aside0.mk (blk_drew bg.out)
   replace HB := Aside0.mk (below_drew1 HB.out)
   have jl : 0 ≤ (bE : Int) := of_decide_eq_true zx28_33
   have jh : bE < (bh.length : Int) := of_decide_eq_true zx28_33
   obtain ⟨bl, qu, gz⟩ := Kd.at_int (Kd.R_reads' bm.out).2.2 bE jl jh
   cases qu
   replace jl := eq_true jl
   replace jh := eq_true jh
   refine start_ (n := 14) (S := fun w' => w'.cell? ⟨ba, 0, none⟩ = some (.int .u64 bo) ∧ w'.cell? ⟨ba, 1, none⟩ = some (.int .u64 bp) ∧ w'.cell? ⟨ba, 2, none⟩ = some (.slice bw bk.length bu) ∧ w'.cell? (bl.add (bE).toNat) = some (.int .u64 (rd bh bE))) (ds := []) #[Ff,Ff,Ff,Ff,Ff,Ff,Ff,Ff,Ff,Ff,Ff,Ff,Ff,Ff] (by kernel_rfl) rfl rfl ⟨(blk_cell bg.out 0).trans rfl, (blk_cell bg.out 1).trans rfl, (blk_cell bg.out 2).trans rfl, gz⟩ (fun hHeld => ?_); refine with_tabW postroomlaw10_LedgerOrder.tab18 postroomlaw10_LedgerOrder.bits18 (fun HT_ HW_ => ?_)
   generalize wc.drew = w72 at bm bf bg HB gz hHeld ⊢
   refine pp_ 1 (some 67) HT_.out ?_
   refine pp_ 2 (some 68) HT_.out ?_
   refine pp_ 3 (some 69) HT_.out ?_
   refine pp_ 4 (some 70) HT_.out ?_
   refine pp_ 6 (some 72) HT_.out ?_
   refine take_ (i := 0) (N := some 66) (v := ?_) (a' := ?_) #[Tt,Tt,Tt,Tt,Tt,Ff,Tt,Ff,Ff,Ff,Ff,Ff,Ff,Ff] rfl rfl (take_ofW HT_.out HW_.out (by kernel_rfl)) (fun _ _ _ h => h) (Or.inl ⟨by rfl, ?_⟩) hHeld ?_ ?_
   rotate_left
   ·rintro w' ⟨s0, s1, s2, s3⟩
    go_simp
    with_reducible rfl
   rotate_left
   ·simp only [Act.put, List.setIfInBounds_toArray, List.set_cons_zero, List.set_cons_succ, i64_w, i32_w]
    rfl
   refine take_ (i := 5) (N := some 71) (v := ?_) (a' := ?_) #[Tt,Tt,Tt,Tt,Tt,Tt,Tt,Ff,Ff,Ff,Ff,Ff,Ff,Ff] rfl rfl (take_ofW HT_.out HW_.out (by kernel_rfl)) (fun _ _ _ h => h) (Or.inl ⟨by rfl, ?_⟩) hHeld ?_ ?_
   rotate_left
   ·rintro w' ⟨s0, s1, s2, s3⟩
    go_simp
    with_reducible rfl
   rotate_left
   ·simp only [Act.put, List.setIfInBounds_toArray, List.set_cons_zero, List.set_cons_succ, i64_w, i32_w]
    rfl
   refine join_ (σ := Value × Nat) 2 #[Tt,Tt,Tt,Tt,Tt,Tt,Tt,Tt,Tt,Tt,Tt,Tt,Ff,Ff] (fun s_ => [(73, .tuple #[.agg #[.int .u64 bJ, .int .u64 bN, s_.1], .int .i64 d8]), (21, .pointer (some ⟨s_.2, 0, none⟩)), (65, .tuple #[.agg #[.int .u64 bJ, .int .u64 bN, s_.1], .int .i64 d8]), (74, .agg #[.int .u64 bJ, .int .u64 bN, s_.1]), (75, .int .i64 d8)]) (fun s_ w' => (w'.cell? ⟨ba, 0, none⟩ = some (.int .u64 bo) ∧ w'.cell? ⟨ba, 1, none⟩ = some (.int .u64 bp) ∧ w'.cell? ⟨ba, 2, none⟩ = some (.slice bw bk.length bu) ∧ w'.cell? (bl.add (bE).toNat) = some (.int .u64 (rd bh bE))) ∧ (Kd.V k37 37 w' w.heap.size (fun k_ => some k_ ≠ (.slice (some bl) bh.length bH : Value).ownBlock ∧ k_ ≠ ba ∧ k_ ≠ s_.2) s_.1 bx) ∧ (Kd.R (Kd.int .u64) 24 w' w.heap.size (fun _ => True) (.slice (some bl) bh.length bH) bh) ∧ (Kd.V k37 37 w' w.heap.size (fun k_ => some k_ ≠ (.slice (some bl) bh.length bH : Value).ownBlock ∧ k_ ≠ ba ∧ k_ ≠ s_.2) (.slice bw bk.length bu) bk) ∧ (w'.heap[ba]? = some (.cells #[.int .u64 bo, .int .u64 bp, .slice bw bk.length bu] 27 (0, 0))) ∧ (w'.heap[s_.2]? = some (.cells #[.int .u64 0, .int .u64 0, .slice none 0 0] 27 (0, 0))) ∧ (w.heap.size ≤ s_.2) ∧ (w.heap.size ≤ s_.2) ∧ (ba ≠ s_.2) ∧ (s_.2 ≠ ba) ∧ (Below w.heap.size w w')) ?_ ?_
   rotate_left
   ·intro hCont
    refine two_ (i := 7) (j := 11) (Ni := some 73) (Nj := some 21) #[Tt,Tt,Tt,Tt,Tt,Tt,Tt,Tt,Ff,Ff,Ff,Ff,Ff,Ff] #[Tt,Tt,Tt,Tt,Tt,Tt,Tt,Ff,Ff,Ff,Ff,Tt,Ff,Ff] rfl rfl rfl rfl (two_of HT_.out (by kernel_rfl)) (by decide) (by decide) (fun K hK => ?_) (fun K hK => ?_)
    ·skip
     refine goes_ Tryd.func20 (by kernel_rfl) rfl #[.agg #[.int .u64 bo, .int .u64 bp, .slice bw bk.length bu], .string bG, .int .u64 (rd bh bE), .int .u8 dm] (by rfl) rfl rfl zx28_3 ?_
     with_reducible refine (ledger_Done.calls b9 bo bp (fun k_ => (some k_ ≠ (.slice (some bl) bh.length bH : Value).ownBlock ∧ k_ ≠ ba)) _ _ bk bG (rd bh bE) dm bJ bN bx d8 _ ?side1 A51.out).mono ?_
     (case side1 => exact bf.out)
     rintro e w73 ⟨hL, rfl, ho0, hb⟩
     have dz := (hb.cell (World.block_lt_of_cell? _ _ (hHeld.2.2.2))).trans (hHeld.2.2.2)
     refine ⟨_, rfl, ?_⟩
     replace bf := Aside0.mk (Kd.V_below zx28_12 hb)
     have br := Aside0.mk (Kd.V_lower (Kd.V_mono (ok' := fun k_ => some k_ ≠ (.slice (some bl) bh.length bH : Value).ownBlock ∧ k_ ≠ ba) ho0 (fun k_ hk_ => ⟨Or.elim hk_ (fun hs_ => hs_.1) (fun hn_ => (Kd.fresh' (Kd.R_lt zx28_4) k_ hn_)), Or.elim hk_ (fun hs_ => hs_.2) (fun hn_ => (Kd.freshB (g := ba) (o := .cells #[.int .u64 bo, .int .u64 bp, .slice bw bk.length bu] 27 (0, 0)) zx28_0 k_ hn_))⟩)) (below_size zx28_7))
     replace bm := Aside0.mk (Kd.R_below zx28_4 hb)
     replace bg := Aside0.mk (blk_below (g := ba) (o := .cells #[.int .u64 bo, .int .u64 bp, .slice bw bk.length bu] 27 (0, 0)) zx28_0 hb)
     replace HB := Aside0.mk (below_step zx28_7 hb)
     (try clear hb)
     (try clear hb2)
     (try clear hk)
     (try clear hi)
     (try clear ho0)
     refine hK.out _ _ ⟨(blk_cell bg.out 0).trans rfl, (blk_cell bg.out 1).trans rfl, (blk_cell bg.out 2).trans rfl, dz⟩ (fun hHeld => ?_)
     clear hK K
     refine norm_ (a' := ?_) ?_ ?_
     rotate_left
     ·show Act.put _ (some 73) _ = _
      simp only [Act.put, List.setIfInBounds_toArray, List.set_cons_zero, List.set_cons_succ, i64_w, i32_w]
      rfl
     refine pp_ 8 (some 65) HT_.out ?_
     refine pp_ 9 (some 74) HT_.out ?_
     refine pp_ 10 (some 75) HT_.out ?_
     refine one_ (i := 11) (N := some 21) #[Tt,Tt,Tt,Tt,Tt,Tt,Tt,Tt,Tt,Tt,Tt,Tt,Ff,Ff] rfl rfl (one_of HT_.out (by kernel_rfl)) (by decide) (fun K hK => ?_)
     refine box_step ?hg (N := 21) ?hd (cs := #[.int .u64 0, .int .u64 0, .slice none 0 0]) (t := 27) ?hr ?_; (case hd => rfl); (case hg => rfl); (case hr => first | (go_simp; done) | (go_simp; rfl))
     intro bc hg w74 hbox hb
     have dz := (hb.cell (World.block_lt_of_cell? _ _ (hHeld.2.2.2))).trans (hHeld.2.2.2)
     replace bm := Aside0.mk (Kd.R_below zx28_4 hb)
     replace bf := Aside0.mk (Kd.V_below (Kd.V_elderB zx28_12 bc (Nat.le_of_eq hg.symm)) hb)
     replace br := Aside0.mk (Kd.V_below (Kd.V_elderB zx28_13 bc (Nat.le_of_eq hg.symm)) hb)
     have bn := Aside0.mk (hbox)
     have hu := Aside0.mk ((by rw [hg]; exact (below_size zx28_7) : w.heap.size ≤ bc))
     have dV := Aside0.mk ((by rw [hg]; exact (below_size zx28_7) : w.heap.size ≤ bc))
     replace HB := Aside0.mk (below_step zx28_7 hb)
     have bV := Aside0.mk ((by rw [hg]; exact Nat.ne_of_lt (blk_lt (g := ba) (o := .cells #[.int .u64 bo, .int .u64 bp, .slice bw bk.length bu] 27 (0, 0)) zx28_0) : ba ≠ bc))
     have dO := Aside0.mk ((by rw [hg]; exact Nat.ne_of_gt (blk_lt (g := ba) (o := .cells #[.int .u64 bo, .int .u64 bp, .slice bw bk.length bu] 27 (0, 0)) zx28_0) : bc ≠ ba))
     replace bg := Aside0.mk (blk_below (g := ba) (o := .cells #[.int .u64 bo, .int .u64 bp, .slice bw bk.length bu] 27 (0, 0)) zx28_0 hb)
     clear hb hbox hg
     refine hK.out _ _ ⟨(blk_cell bg.out 0).trans rfl, (blk_cell bg.out 1).trans rfl, (blk_cell bg.out 2).trans rfl, dz⟩ (fun hHeld => ?_)
     clear hK K
     refine norm_ (a' := ?_) ?_ ?_
     rotate_left
     ·show Act.put _ (some 21) _ = _
      simp only [Act.put, List.setIfInBounds_toArray, List.set_cons_zero, List.set_cons_succ, i64_w, i32_w]
      rfl
     exact norm_ zx28_26 (hCont (hL, bc) _ ⟨hHeld, (by (with_reducible repeat (first | apply Kd.V_alloc | apply Kd.V_drewN | apply Kd.V_drew)); exact Kd.V_mono br.out (fun _ hk => ⟨hk.1.1, ⟨hk.1.2, hk.2⟩⟩)), zx28_4, (by (with_reducible repeat (first | apply Kd.V_alloc | apply Kd.V_drewN | apply Kd.V_drew)); exact Kd.V_mono bf.out (fun _ hk => ⟨hk.1.1, ⟨hk.1.2, hk.2⟩⟩)), zx28_0, zx28_1, hu.out, dV.out, bV.out, dO.out, zx28_11⟩)
    skip
    refine box_step ?hg (N := 21) ?hd (cs := #[.int .u64 0, .int .u64 0, .slice none 0 0]) (t := 27) ?hr ?_; (case hd => rfl); (case hg => rfl); (case hr => first | (go_simp; done) | (go_simp; rfl))
    intro bc hg w73 hbox hb
    have dz := (hb.cell (World.block_lt_of_cell? _ _ (hHeld.2.2.2))).trans (hHeld.2.2.2)
    replace bm := Aside0.mk (Kd.R_below zx28_4 hb)
    replace bf := Aside0.mk (Kd.V_below (Kd.V_elderB zx28_12 bc (Nat.le_of_eq hg.symm)) hb)
    have bn := Aside0.mk (hbox)
    have hu := Aside0.mk ((by rw [hg]; exact (below_size zx28_7) : w.heap.size ≤ bc))
    have dV := Aside0.mk ((by rw [hg]; exact (below_size zx28_7) : w.heap.size ≤ bc))
    replace HB := Aside0.mk (below_step zx28_7 hb)
    have bV := Aside0.mk ((by rw [hg]; exact Nat.ne_of_lt (blk_lt (g := ba) (o := .cells #[.int .u64 bo, .int .u64 bp, .slice bw bk.length bu] 27 (0, 0)) zx28_0) : ba ≠ bc))
    have dO := Aside0.mk ((by rw [hg]; exact Nat.ne_of_gt (blk_lt (g := ba) (o := .cells #[.int .u64 bo, .int .u64 bp, .slice bw bk.length bu] 27 (0, 0)) zx28_0) : bc ≠ ba))
    replace bg := Aside0.mk (blk_below (g := ba) (o := .cells #[.int .u64 bo, .int .u64 bp, .slice bw bk.length bu] 27 (0, 0)) zx28_0 hb)
    clear hb hbox hg
    refine hK.out _ _ ⟨(blk_cell bg.out 0).trans rfl, (blk_cell bg.out 1).trans rfl, (blk_cell bg.out 2).trans rfl, dz⟩ (fun hHeld => ?_)
    clear hK K
    refine norm_ (a' := ?_) ?_ ?_
    rotate_left
    ·show Act.put _ (some 21) _ = _
     simp only [Act.put, List.setIfInBounds_toArray, List.set_cons_zero, List.set_cons_succ, i64_w, i32_w]
     rfl
    refine one_ (i := 7) (N := some 73) #[Tt,Tt,Tt,Tt,Tt,Tt,Tt,Tt,Ff,Ff,Ff,Tt,Ff,Ff] rfl rfl (one_of HT_.out (by kernel_rfl)) (by decide) (fun K hK => ?_)
    refine goes_ Tryd.func20 (by kernel_rfl) rfl #[.agg #[.int .u64 bo, .int .u64 bp, .slice bw bk.length bu], .string bG, .int .u64 (rd bh bE), .int .u8 dm] (by rfl) rfl rfl zx28_3 ?_
    with_reducible refine (ledger_Done.calls b9 bo bp (fun k_ => ((some k_ ≠ (.slice (some bl) bh.length bH : Value).ownBlock ∧ k_ ≠ ba) ∧ k_ ≠ bc)) _ _ bk bG (rd bh bE) dm bJ bN bx d8 _ ?side1 A51.out).mono ?_
    (case side1 => exact bf.out)
    rintro e w74 ⟨hL, rfl, ho0, hb⟩
    have dz := (hb.cell (World.block_lt_of_cell? _ _ (hHeld.2.2.2))).trans (hHeld.2.2.2)
    refine ⟨_, rfl, ?_⟩
    replace bf := Aside0.mk (Kd.V_below zx28_12 hb)
    have br := Aside0.mk (Kd.V_lower (Kd.V_mono (ok' := fun k_ => some k_ ≠ (.slice (some bl) bh.length bH : Value).ownBlock ∧ k_ ≠ ba ∧ k_ ≠ bc) ho0 (fun k_ hk_ => ⟨Or.elim hk_ (fun hs_ => hs_.1.1) (fun hn_ => (Kd.fresh' (Kd.R_lt zx28_4) k_ hn_)), Or.elim hk_ (fun hs_ => hs_.1.2) (fun hn_ => (Kd.freshB (g := ba) (o := .cells #[.int .u64 bo, .int .u64 bp, .slice bw bk.length bu] 27 (0, 0)) zx28_0 k_ hn_)), Or.elim hk_ (fun hs_ => hs_.2) (fun hn_ => (Kd.freshB (g := bc) (o := .cells #[.int .u64 0, .int .u64 0, .slice none 0 0] 27 (0, 0)) zx28_1 k_ hn_))⟩)) (below_size zx28_11))
    replace bm := Aside0.mk (Kd.R_below zx28_4 hb)
    replace bg := Aside0.mk (blk_below (g := ba) (o := .cells #[.int .u64 bo, .int .u64 bp, .slice bw bk.length bu] 27 (0, 0)) zx28_0 hb)
    replace bn := Aside0.mk (blk_below (g := bc) (o := .cells #[.int .u64 0, .int .u64 0, .slice none 0 0] 27 (0, 0)) zx28_1 hb)
    replace HB := Aside0.mk (below_step zx28_11 hb)
    (try clear hb)
    (try clear hb2)
    (try clear hk)
    (try clear hi)
    (try clear ho0)
    refine hK.out _ _ ⟨(blk_cell bg.out 0).trans rfl, (blk_cell bg.out 1).trans rfl, (blk_cell bg.out 2).trans rfl, dz⟩ (fun hHeld => ?_)
    clear hK K
    refine norm_ (a' := ?_) ?_ ?_
    rotate_left
    ·show Act.put _ (some 73) _ = _
     simp only [Act.put, List.setIfInBounds_toArray, List.set_cons_zero, List.set_cons_succ, i64_w, i32_w]
     rfl
    refine pp_ 8 (some 65) HT_.out ?_
    refine pp_ 9 (some 74) HT_.out ?_
    refine pp_ 10 (some 75) HT_.out ?_
    exact norm_ zx28_26 (hCont (hL, bc) _ ⟨hHeld, zx28_13, zx28_4, (by (with_reducible repeat (first | apply Kd.V_alloc | apply Kd.V_drewN | apply Kd.V_drew)); exact Kd.V_mono bf.out (fun _ hk => ⟨hk.1.1, ⟨hk.1.2, hk.2⟩⟩)), zx28_0, zx28_1, hu.out, dV.out, bV.out, dO.out, zx28_11⟩)
   rintro ⟨hL, bc⟩ w75 ⟨hS_, h0_, h1_, h2_, h3_, h4_, h5_, h6_, h7_, h8_, h9_⟩
   have n0_ : Aside0 (Kd.V k37 37 w75 w.heap.size (fun k_ => some k_ ≠ (.slice (some bl) bh.length bH : Value).ownBlock ∧ k_ ≠ ba ∧ k_ ≠ bc) hL bx) := ⟨h0_⟩
   have n1_ : Aside0 (Kd.R (Kd.int .u64) 24 w75 w.heap.size (fun _ => True) (.slice (some bl) bh.length bH) bh) := ⟨h1_⟩
   have n2_ : Aside0 (Kd.V k37 37 w75 w.heap.size (fun k_ => some k_ ≠ (.slice (some bl) bh.length bH : Value).ownBlock ∧ k_ ≠ ba ∧ k_ ≠ bc) (.slice bw bk.length bu) bk) := ⟨h2_⟩
   have n3_ : Aside0 (w75.heap[ba]? = some (.cells #[.int .u64 bo, .int .u64 bp, .slice bw bk.length bu] 27 (0, 0))) := ⟨h3_⟩
   have n4_ : Aside0 (w75.heap[bc]? = some (.cells #[.int .u64 0, .int .u64 0, .slice none 0 0] 27 (0, 0))) := ⟨h4_⟩
   have n5_ : Aside0 (w.heap.size ≤ bc) := ⟨h5_⟩
   have n6_ : Aside0 (w.heap.size ≤ bc) := ⟨h6_⟩
   have n7_ : Aside0 (ba ≠ bc) := ⟨h7_⟩
   have n8_ : Aside0 (bc ≠ ba) := ⟨h8_⟩
   have n9_ : Aside0 (Below w.heap.size w w75) := ⟨h9_⟩
   clear bm
   clear bf
   clear bg
   clear HB
   clear h0_ h1_ h2_ h3_ h4_ h5_ h6_ h7_ h8_ h9_
   have br := n0_
   have bm := n1_
   have bf := n2_
   have bg := n3_
   have bn := n4_
   have hu := n5_
   have dV := n6_
   have bV := n7_
   have dO := n8_
   have HB := n9_
   clear n0_ n1_ n2_ n3_ n4_ n5_ n6_ n7_ n8_ n9_
   have hHeld : w75.cell? ⟨ba, 0, none⟩ = some (.int .u64 bo) ∧ w75.cell? ⟨ba, 1, none⟩ = some (.int .u64 bp) ∧ w75.cell? ⟨ba, 2, none⟩ = some (.slice bw bk.length bu) ∧ w75.cell? (bl.add (bE).toNat) = some (.int .u64 (rd bh bE)) := hS_
   obtain ⟨bL, bK, mH⟩ := Kd.V_slice br.out
   (first | subst mH | (injection mH with f1_ f2_ f3_; have f4_ := f1_.symm; have f5_ := f3_.symm; clear f1_ f2_ f3_; subst f4_; subst f5_))
   refine norm_ (a' := ?_) ?_ ?_
   rotate_left
   ·simp only [putAll, Act.put, List.setIfInBounds_toArray, List.set_cons_zero, List.set_cons_succ]
    rfl
   refine one_ (i := 12) (N := none) #[Tt,Tt,Tt,Tt,Tt,Tt,Tt,Tt,Tt,Tt,Tt,Tt,Tt,Ff] rfl rfl (one_of HT_.out (by kernel_rfl)) (by decide) (fun K hK => ?_)
   have si : w75.cell? ⟨bc, 0, none⟩ = some (.int .u64 0) := (blk_cell bn.out 0).trans rfl
   have qG := blk_frozen bn.out 0
   have ol := bV.out
   have oE := dO.out
   have sh : w75.cell? ⟨bc, 1, none⟩ = some (.int .u64 0) := (blk_cell bn.out 1).trans rfl
   have qF := blk_frozen bn.out 1
   have oj := bV.out
   have oD := dO.out
   have sg : w75.cell? ⟨bc, 2, none⟩ = some (.slice none 0 0) := (blk_cell bn.out 2).trans rfl
   have qE := blk_frozen bn.out 2
   have oi := bV.out
   have oC := dO.out
   refine skip_ (w1 := ?_) (by rfl) rfl ?_ ?_
   rotate_left
   ·go_simp
    rfl
   refine hK.out _ _ ⟨((cell_far (p := ⟨bc, _, none⟩) bV.out _).trans (((cell_far (p := ⟨bc, _, none⟩) bV.out _).trans (((cell_far (p := ⟨bc, _, none⟩) bV.out _).trans (hHeld.1)))))), ((cell_far (p := ⟨bc, _, none⟩) bV.out _).trans (((cell_far (p := ⟨bc, _, none⟩) bV.out _).trans (((cell_far (p := ⟨bc, _, none⟩) bV.out _).trans (hHeld.2.1)))))), ((cell_far (p := ⟨bc, _, none⟩) bV.out _).trans (((cell_far (p := ⟨bc, _, none⟩) bV.out _).trans (((cell_far (p := ⟨bc, _, none⟩) bV.out _).trans (hHeld.2.2.1)))))), ((cell_far (p := ⟨bc, _, none⟩) zx28_22 _).trans (((cell_far (p := ⟨bc, _, none⟩) zx28_22 _).trans (((cell_far (p := ⟨bc, _, none⟩) zx28_22 _).trans (hHeld.2.2.2))))))⟩ (fun hHeld => ?_)
   clear hK K
   refine pp_ 13 (some 22) HT_.out ?_
   refine done_ (done_of HT_.out (by kernel_rfl)) ?_
   try go_wp2
   have n0_ : Aside0 (Kd.R (Kd.int .u64) 24 (((w75.setCell ⟨bc, 0, none⟩ (.int .u64 bJ)).setCell ⟨bc, 1, none⟩ (.int .u64 bN)).setCell ⟨bc, 2, none⟩ (.slice bL bx.length bK)) w.heap.size (fun _ => True) (.slice (some bl) bh.length bH) bh) := ⟨by (with_reducible repeat (first | apply Kd.R_alloc | apply Kd.R_drewN | apply Kd.R_drew)); exact Kd.R_mono (Kd.R_far (p := ⟨bc, 2, none⟩) (Kd.R_far (p := ⟨bc, 1, none⟩) (Kd.R_far (p := ⟨bc, 0, none⟩) (Kd.R_types bm.out bn.out (by decide)) (fun _ hk => hk.2) (.int .u64 bJ)) (fun _ hk => hk.2) (.int .u64 bN)) (fun _ hk => hk.2) (.slice bL bx.length bK)) (fun _ hk => trivial)⟩
   have n1_ : Aside0 (Kd.V k37 37 (((w75.setCell ⟨bc, 0, none⟩ (.int .u64 bJ)).setCell ⟨bc, 1, none⟩ (.int .u64 bN)).setCell ⟨bc, 2, none⟩ (.slice bL bx.length bK)) w.heap.size (fun k_ => some k_ ≠ (.slice (some bl) bh.length bH : Value).ownBlock ∧ k_ ≠ ba ∧ k_ ≠ bc) (.slice bw bk.length bu) bk) := ⟨by (with_reducible repeat (first | apply Kd.V_alloc | apply Kd.V_drewN | apply Kd.V_drew)); exact Kd.V_mono (Kd.V_far (p := ⟨bc, 2, none⟩) (Kd.V_far (p := ⟨bc, 1, none⟩) (Kd.V_far (p := ⟨bc, 0, none⟩) (Kd.V_mono bf.out (fun k_ hk => (⟨hk, hk.2.2⟩ : _ ∧ k_ ≠ bc))) (fun _ hk => hk.2) (.int .u64 bJ)) (fun _ hk => hk.2) (.int .u64 bN)) (fun _ hk => hk.2) (.slice bL bx.length bK)) (fun _ hk => ⟨hk.1.1, ⟨hk.1.2.1, hk.1.2.2⟩⟩)⟩
   have n2_ : Aside0 (Kd.V k37 37 (((w75.setCell ⟨bc, 0, none⟩ (.int .u64 bJ)).setCell ⟨bc, 1, none⟩ (.int .u64 bN)).setCell ⟨bc, 2, none⟩ (.slice bL bx.length bK)) w.heap.size (fun k_ => some k_ ≠ (.slice (some bl) bh.length bH : Value).ownBlock ∧ k_ ≠ ba ∧ k_ ≠ bc) (.slice bL bx.length bK) bx) := ⟨by (with_reducible repeat (first | apply Kd.V_alloc | apply Kd.V_drewN | apply Kd.V_drew)); exact Kd.V_mono (Kd.V_far (p := ⟨bc, 2, none⟩) (Kd.V_far (p := ⟨bc, 1, none⟩) (Kd.V_far (p := ⟨bc, 0, none⟩) (Kd.V_mono br.out (fun k_ hk => (⟨hk, hk.2.2⟩ : _ ∧ k_ ≠ bc))) (fun _ hk => hk.2) (.int .u64 bJ)) (fun _ hk => hk.2) (.int .u64 bN)) (fun _ hk => hk.2) (.slice bL bx.length bK)) (fun _ hk => ⟨hk.1.1, ⟨hk.1.2.1, hk.1.2.2⟩⟩)⟩
   have n3_ : Aside0 ((((w75.setCell ⟨bc, 0, none⟩ (.int .u64 bJ)).setCell ⟨bc, 1, none⟩ (.int .u64 bN)).setCell ⟨bc, 2, none⟩ (.slice bL bx.length bK)).heap[ba]? = some (.cells #[.int .u64 bo, .int .u64 bp, .slice bw bk.length bu] 27 (0, 0))) := ⟨by (iterate 3 ((with_reducible repeat (first | refine blk_drewN ?_ _ | refine blk_drew ?_ | refine blk_alloc ?_ _)); refine blk_far ?_ bV.out _)); (with_reducible repeat (first | refine blk_drewN ?_ _ | refine blk_drew ?_ | refine blk_alloc ?_ _)); exact bg.out⟩
   have n4_ : Aside0 ((((w75.setCell ⟨bc, 0, none⟩ (.int .u64 bJ)).setCell ⟨bc, 1, none⟩ (.int .u64 bN)).setCell ⟨bc, 2, none⟩ (.slice bL bx.length bK)).heap[bc]? = some (.cells #[.int .u64 bJ, .int .u64 bN, .slice bL bx.length bK] 27 (0, 0))) := ⟨by (with_reducible repeat (first | refine blk_drewN ?_ _ | refine blk_drew ?_ | refine blk_alloc ?_ _)); refine blk_put (cs := #[.int .u64 bJ, .int .u64 bN, .slice none 0 0]) ?_ 2 _ rfl; (with_reducible repeat (first | refine blk_drewN ?_ _ | refine blk_drew ?_ | refine blk_alloc ?_ _)); refine blk_put (cs := #[.int .u64 bJ, .int .u64 0, .slice none 0 0]) ?_ 1 _ rfl; (with_reducible repeat (first | refine blk_drewN ?_ _ | refine blk_drew ?_ | refine blk_alloc ?_ _)); refine blk_put (cs := #[.int .u64 0, .int .u64 0, .slice none 0 0]) ?_ 0 _ rfl; (with_reducible repeat (first | refine blk_drewN ?_ _ | refine blk_drew ?_ | refine blk_alloc ?_ _)); exact bn.out⟩
   have n5_ : Aside0 (Below w.heap.size w (((w75.setCell ⟨bc, 0, none⟩ (.int .u64 bJ)).setCell ⟨bc, 1, none⟩ (.int .u64 bN)).setCell ⟨bc, 2, none⟩ (.slice bL bx.length bK))) := ⟨by repeat (first | (with_reducible first | exact HB.out | apply below_alloc | apply pw_below_drewN | apply below_drew1 | refine below_set ?_ dI.out | refine below_set ?_ dV.out) | exact HB.out)⟩
   (try clear bm)
   (try clear bf)
   (try clear br)
   (try clear bg)
   (try clear bn)
   (try clear HB)
   generalize (((w75.setCell ⟨bc, 0, none⟩ (.int .u64 bJ)).setCell ⟨bc, 1, none⟩ (.int .u64 bN)).setCell ⟨bc, 2, none⟩ (.slice bL bx.length bK)) = w80 at n0_ n1_ n2_ n3_ n4_ n5_ ⊢
   have bm := n0_
   have bf := n1_
   have br := n2_
   have bg := n3_
   have bn := n4_
   have HB := n5_
   clear n0_ n1_ n2_ n3_ n4_ n5_
   replace bm := Aside0.mk (Kd.R_drew bm.out)
   replace bf := Aside0.mk (Kd.V_drew bf.out)
   replace br := Aside0.mk (Kd.V_drew br.out)
   replace bg := Aside0.mk (blk_drew bg.out)
   replace bn := Aside0.mk (blk_drew bn.out)
   replace HB := Aside0.mk (below_drew1 HB.out)
   have jk : 0 ≤ (bD : Int) := of_decide_eq_true zx28_33
   have jg : bD < (bh.length : Int) := of_decide_eq_true zx28_33
   obtain ⟨mM, qt, gy⟩ := Kd.at_int (Kd.R_reads' bm.out).2.2 bD jk jg
   obtain rfl : bl = mM := (by injection qt)
   replace jk := eq_true jk
   replace jg := eq_true jg
   refine start_ (n := 14) (S := fun w' => w'.cell? ⟨bc, 0, none⟩ = some (.int .u64 bJ) ∧ w'.cell? ⟨bc, 1, none⟩ = some (.int .u64 bN) ∧ w'.cell? ⟨bc, 2, none⟩ = some (.slice bL bx.length bK) ∧ w'.cell? (bl.add (bD).toNat) = some (.int .u64 (rd bh bD))) (ds := []) #[Ff,Ff,Ff,Ff,Ff,Ff,Ff,Ff,Ff,Ff,Ff,Ff,Ff,Ff] (by kernel_rfl) rfl rfl ⟨(blk_cell bn.out 0).trans rfl, (blk_cell bn.out 1).trans rfl, (blk_cell bn.out 2).trans rfl, gy⟩ (fun hHeld => ?_); refine with_tabW postroomlaw10_LedgerOrder.tab19 postroomlaw10_LedgerOrder.bits19 (fun HT_ HW_ => ?_)
   generalize w80.drew = w81 at bm bf br bg bn HB gy hHeld ⊢
   refine pp_ 1 (some 78) HT_.out ?_
   refine pp_ 2 (some 79) HT_.out ?_
   refine pp_ 3 (some 80) HT_.out ?_
   refine pp_ 4 (some 81) HT_.out ?_
   refine pp_ 6 (some 83) HT_.out ?_
   refine take_ (i := 0) (N := some 77) (v := ?_) (a' := ?_) #[Tt,Tt,Tt,Tt,Tt,Ff,Tt,Ff,Ff,Ff,Ff,Ff,Ff,Ff] rfl rfl (take_ofW HT_.out HW_.out (by kernel_rfl)) (fun _ _ _ h => h) (Or.inl ⟨by rfl, ?_⟩) hHeld ?_ ?_
   rotate_left
   ·rintro w' ⟨s0, s1, s2, s3⟩
    go_simp
    with_reducible rfl
   rotate_left
   ·simp only [Act.put, List.setIfInBounds_toArray, List.set_cons_zero, List.set_cons_succ, i64_w, i32_w]
    rfl
   refine take_ (i := 5) (N := some 82) (v := ?_) (a' := ?_) #[Tt,Tt,Tt,Tt,Tt,Tt,Tt,Ff,Ff,Ff,Ff,Ff,Ff,Ff] rfl rfl (take_ofW HT_.out HW_.out (by kernel_rfl)) (fun _ _ _ h => h) (Or.inl ⟨by rfl, ?_⟩) hHeld ?_ ?_
   rotate_left
   ·rintro w' ⟨s0, s1, s2, s3⟩
    go_simp
    with_reducible rfl
   rotate_left
   ·simp only [Act.put, List.setIfInBounds_toArray, List.set_cons_zero, List.set_cons_succ, i64_w, i32_w]
    rfl
   refine join_ (σ := Value × Nat) 2 #[Tt,Tt,Tt,Tt,Tt,Tt,Tt,Tt,Tt,Tt,Tt,Tt,Ff,Ff] (fun s_ => [(84, .tuple #[.agg #[.int .u64 bM, .int .u64 bP, s_.1], .int .i64 ga]), (23, .pointer (some ⟨s_.2, 0, none⟩)), (76, .tuple #[.agg #[.int .u64 bM, .int .u64 bP, s_.1], .int .i64 ga]), (85, .agg #[.int .u64 bM, .int .u64 bP, s_.1]), (86, .int .i64 ga)]) (fun s_ w' => (w'.cell? ⟨bc, 0, none⟩ = some (.int .u64 bJ) ∧ w'.cell? ⟨bc, 1, none⟩ = some (.int .u64 bN) ∧ w'.cell? ⟨bc, 2, none⟩ = some (.slice bL bx.length bK) ∧ w'.cell? (bl.add (bD).toNat) = some (.int .u64 (rd bh bD))) ∧ (Kd.V k37 37 w' w.heap.size (fun k_ => some k_ ≠ (.slice (some bl) bh.length bH : Value).ownBlock ∧ k_ ≠ ba ∧ k_ ≠ bc ∧ k_ ≠ s_.2) (.slice bL bx.length bK) bx) ∧ (Kd.V k37 37 w' w.heap.size (fun k_ => some k_ ≠ (.slice (some bl) bh.length bH : Value).ownBlock ∧ k_ ≠ ba ∧ k_ ≠ bc ∧ k_ ≠ s_.2) s_.1 bB) ∧ (Kd.R (Kd.int .u64) 24 w' w.heap.size (fun _ => True) (.slice (some bl) bh.length bH) bh) ∧ (Kd.V k37 37 w' w.heap.size (fun k_ => some k_ ≠ (.slice (some bl) bh.length bH : Value).ownBlock ∧ k_ ≠ ba ∧ k_ ≠ bc ∧ k_ ≠ s_.2) (.slice bw bk.length bu) bk) ∧ (w'.heap[ba]? = some (.cells #[.int .u64 bo, .int .u64 bp, .slice bw bk.length bu] 27 (0, 0))) ∧ (w'.heap[bc]? = some (.cells #[.int .u64 bJ, .int .u64 bN, .slice bL bx.length bK] 27 (0, 0))) ∧ (w'.heap[s_.2]? = some (.cells #[.int .u64 0, .int .u64 0, .slice none 0 0] 27 (0, 0))) ∧ (w.heap.size ≤ s_.2) ∧ (w.heap.size ≤ s_.2) ∧ (ba ≠ s_.2) ∧ (s_.2 ≠ ba) ∧ (bc ≠ s_.2) ∧ (s_.2 ≠ bc) ∧ (Below w.heap.size w w')) ?_ ?_
   rotate_left
   ·intro hCont
    refine two_ (i := 7) (j := 11) (Ni := some 84) (Nj := some 23) #[Tt,Tt,Tt,Tt,Tt,Tt,Tt,Tt,Ff,Ff,Ff,Ff,Ff,Ff] #[Tt,Tt,Tt,Tt,Tt,Tt,Tt,Ff,Ff,Ff,Ff,Tt,Ff,Ff] rfl rfl rfl rfl (two_of HT_.out (by kernel_rfl)) (by decide) (by decide) (fun K hK => ?_) (fun K hK => ?_)
    ·skip
     refine goes_ Tryd.func20 (by kernel_rfl) rfl #[.agg #[.int .u64 bJ, .int .u64 bN, .slice bL bx.length bK], .string bG, .int .u64 (rd bh bD), .int .u8 dJ] (by rfl) rfl rfl zx28_3 ?_
     with_reducible refine (ledger_Done.calls b9 bJ bN (fun k_ => (some k_ ≠ (.slice (some bl) bh.length bH : Value).ownBlock ∧ (k_ ≠ ba ∧ k_ ≠ bc))) _ _ bx bG (rd bh bD) dJ bM bP bB ga _ ?side1 A54.out).mono ?_
     (case side1 => exact br.out)
     rintro e w82 ⟨hJ, rfl, ho0, hb⟩
     have dz := (hb.cell (World.block_lt_of_cell? _ _ (hHeld.2.2.2))).trans (hHeld.2.2.2)
     refine ⟨_, rfl, ?_⟩
     replace bf := Aside0.mk (Kd.V_below zx28_12 hb)
     replace br := Aside0.mk (Kd.V_below zx28_13 hb)
     have bI := Aside0.mk (Kd.V_lower (Kd.V_mono (ok' := fun k_ => some k_ ≠ (.slice (some bl) bh.length bH : Value).ownBlock ∧ k_ ≠ ba ∧ k_ ≠ bc) ho0 (fun k_ hk_ => ⟨Or.elim hk_ (fun hs_ => hs_.1) (fun hn_ => (Kd.fresh' (Kd.R_lt zx28_4) k_ hn_)), Or.elim hk_ (fun hs_ => hs_.2.1) (fun hn_ => (Kd.freshB (g := ba) (o := .cells #[.int .u64 bo, .int .u64 bp, .slice bw bk.length bu] 27 (0, 0)) zx28_0 k_ hn_)), Or.elim hk_ (fun hs_ => hs_.2.2) (fun hn_ => (Kd.freshB (g := bc) (o := .cells #[.int .u64 bJ, .int .u64 bN, .slice bL bx.length bK] 27 (0, 0)) zx28_1 k_ hn_))⟩)) (below_size zx28_11))
     replace bm := Aside0.mk (Kd.R_below zx28_4 hb)
     replace bg := Aside0.mk (blk_below (g := ba) (o := .cells #[.int .u64 bo, .int .u64 bp, .slice bw bk.length bu] 27 (0, 0)) zx28_0 hb)
     replace bn := Aside0.mk (blk_below (g := bc) (o := .cells #[.int .u64 bJ, .int .u64 bN, .slice bL bx.length bK] 27 (0, 0)) zx28_1 hb)
     replace HB := Aside0.mk (below_step zx28_11 hb)
     (try clear hb)
     (try clear hb2)
     (try clear hk)
     (try clear hi)
     (try clear ho0)
     refine hK.out _ _ ⟨(blk_cell bn.out 0).trans rfl, (blk_cell bn.out 1).trans rfl, (blk_cell bn.out 2).trans rfl, dz⟩ (fun hHeld => ?_)
     clear hK K
     refine norm_ (a' := ?_) ?_ ?_
     rotate_left
     ·show Act.put _ (some 84) _ = _
      simp only [Act.put, List.setIfInBounds_toArray, List.set_cons_zero, List.set_cons_succ, i64_w, i32_w]
      rfl
     refine pp_ 8 (some 76) HT_.out ?_
     refine pp_ 9 (some 85) HT_.out ?_
     refine pp_ 10 (some 86) HT_.out ?_
     refine one_ (i := 11) (N := some 23) #[Tt,Tt,Tt,Tt,Tt,Tt,Tt,Tt,Tt,Tt,Tt,Tt,Ff,Ff] rfl rfl (one_of HT_.out (by kernel_rfl)) (by decide) (fun K hK => ?_)
     refine box_step ?hg (N := 23) ?hd (cs := #[.int .u64 0, .int .u64 0, .slice none 0 0]) (t := 27) ?hr ?_; (case hd => rfl); (case hg => rfl); (case hr => first | (go_simp; done) | (go_simp; rfl))
     intro bd hg w83 hbox hb
     have dz := (hb.cell (World.block_lt_of_cell? _ _ (hHeld.2.2.2))).trans (hHeld.2.2.2)
     replace bm := Aside0.mk (Kd.R_below zx28_4 hb)
     replace bf := Aside0.mk (Kd.V_below (Kd.V_elderB zx28_12 bd (Nat.le_of_eq hg.symm)) hb)
     replace br := Aside0.mk (Kd.V_below (Kd.V_elderB zx28_13 bd (Nat.le_of_eq hg.symm)) hb)
     replace bI := Aside0.mk (Kd.V_below (Kd.V_elderB zx28_17 bd (Nat.le_of_eq hg.symm)) hb)
     have bq := Aside0.mk (hbox)
     have ht := Aside0.mk ((by rw [hg]; exact (below_size zx28_11) : w.heap.size ≤ bd))
     have d1 := Aside0.mk ((by rw [hg]; exact (below_size zx28_11) : w.heap.size ≤ bd))
     replace HB := Aside0.mk (below_step zx28_11 hb)
     have dw := Aside0.mk ((by rw [hg]; exact Nat.ne_of_lt (blk_lt (g := ba) (o := .cells #[.int .u64 bo, .int .u64 bp, .slice bw bk.length bu] 27 (0, 0)) zx28_0) : ba ≠ bd))
     have dG := Aside0.mk ((by rw [hg]; exact Nat.ne_of_gt (blk_lt (g := ba) (o := .cells #[.int .u64 bo, .int .u64 bp, .slice bw bk.length bu] 27 (0, 0)) zx28_0) : bd ≠ ba))
     replace bg := Aside0.mk (blk_below (g := ba) (o := .cells #[.int .u64 bo, .int .u64 bp, .slice bw bk.length bu] 27 (0, 0)) zx28_0 hb)
     have bR := Aside0.mk ((by rw [hg]; exact Nat.ne_of_lt (blk_lt (g := bc) (o := .cells #[.int .u64 bJ, .int .u64 bN, .slice bL bx.length bK] 27 (0, 0)) zx28_1) : bc ≠ bd))
     have dF := Aside0.mk ((by rw [hg]; exact Nat.ne_of_gt (blk_lt (g := bc) (o := .cells #[.int .u64 bJ, .int .u64 bN, .slice bL bx.length bK] 27 (0, 0)) zx28_1) : bd ≠ bc))
     replace bn := Aside0.mk (blk_below (g := bc) (o := .cells #[.int .u64 bJ, .int .u64 bN, .slice bL bx.length bK] 27 (0, 0)) zx28_1 hb)
     clear hb hbox hg
     refine hK.out _ _ ⟨(blk_cell bn.out 0).trans rfl, (blk_cell bn.out 1).trans rfl, (blk_cell bn.out 2).trans rfl, dz⟩ (fun hHeld => ?_)
     clear hK K
     refine norm_ (a' := ?_) ?_ ?_
     rotate_left
     ·show Act.put _ (some 23) _ = _
      simp only [Act.put, List.setIfInBounds_toArray, List.set_cons_zero, List.set_cons_succ, i64_w, i32_w]
      rfl
     exact norm_ zx28_26 (hCont (hJ, bd) _ ⟨hHeld, (by (with_reducible repeat (first | apply Kd.V_alloc | apply Kd.V_drewN | apply Kd.V_drew)); exact Kd.V_mono br.out (fun _ hk => ⟨hk.1.1, ⟨hk.1.2.1, ⟨hk.1.2.2, hk.2⟩⟩⟩)), (by (with_reducible repeat (first | apply Kd.V_alloc | apply Kd.V_drewN | apply Kd.V_drew)); exact Kd.V_mono bI.out (fun _ hk => ⟨hk.1.1, ⟨hk.1.2.1, ⟨hk.1.2.2, hk.2⟩⟩⟩)), zx28_4, (by (with_reducible repeat (first | apply Kd.V_alloc | apply Kd.V_drewN | apply Kd.V_drew)); exact Kd.V_mono bf.out (fun _ hk => ⟨hk.1.1, ⟨hk.1.2.1, ⟨hk.1.2.2, hk.2⟩⟩⟩)), zx28_0, zx28_1, zx28_2, ht.out, d1.out, dw.out, dG.out, bR.out, dF.out, zx28_8⟩)
    skip
    refine box_step ?hg (N := 23) ?hd (cs := #[.int .u64 0, .int .u64 0, .slice none 0 0]) (t := 27) ?hr ?_; (case hd => rfl); (case hg => rfl); (case hr => first | (go_simp; done) | (go_simp; rfl))
    intro bd hg w82 hbox hb
    have dz := (hb.cell (World.block_lt_of_cell? _ _ (hHeld.2.2.2))).trans (hHeld.2.2.2)
    replace bm := Aside0.mk (Kd.R_below zx28_4 hb)
    replace bf := Aside0.mk (Kd.V_below (Kd.V_elderB zx28_12 bd (Nat.le_of_eq hg.symm)) hb)
    replace br := Aside0.mk (Kd.V_below (Kd.V_elderB zx28_13 bd (Nat.le_of_eq hg.symm)) hb)
    have bq := Aside0.mk (hbox)
    have ht := Aside0.mk ((by rw [hg]; exact (below_size zx28_11) : w.heap.size ≤ bd))
    have d1 := Aside0.mk ((by rw [hg]; exact (below_size zx28_11) : w.heap.size ≤ bd))
    replace HB := Aside0.mk (below_step zx28_11 hb)
    have dw := Aside0.mk ((by rw [hg]; exact Nat.ne_of_lt (blk_lt (g := ba) (o := .cells #[.int .u64 bo, .int .u64 bp, .slice bw bk.length bu] 27 (0, 0)) zx28_0) : ba ≠ bd))
    have dG := Aside0.mk ((by rw [hg]; exact Nat.ne_of_gt (blk_lt (g := ba) (o := .cells #[.int .u64 bo, .int .u64 bp, .slice bw bk.length bu] 27 (0, 0)) zx28_0) : bd ≠ ba))
    replace bg := Aside0.mk (blk_below (g := ba) (o := .cells #[.int .u64 bo, .int .u64 bp, .slice bw bk.length bu] 27 (0, 0)) zx28_0 hb)
    have bR := Aside0.mk ((by rw [hg]; exact Nat.ne_of_lt (blk_lt (g := bc) (o := .cells #[.int .u64 bJ, .int .u64 bN, .slice bL bx.length bK] 27 (0, 0)) zx28_1) : bc ≠ bd))
    have dF := Aside0.mk ((by rw [hg]; exact Nat.ne_of_gt (blk_lt (g := bc) (o := .cells #[.int .u64 bJ, .int .u64 bN, .slice bL bx.length bK] 27 (0, 0)) zx28_1) : bd ≠ bc))
    replace bn := Aside0.mk (blk_below (g := bc) (o := .cells #[.int .u64 bJ, .int .u64 bN, .slice bL bx.length bK] 27 (0, 0)) zx28_1 hb)
    clear hb hbox hg
    refine hK.out _ _ ⟨(blk_cell bn.out 0).trans rfl, (blk_cell bn.out 1).trans rfl, (blk_cell bn.out 2).trans rfl, dz⟩ (fun hHeld => ?_)
    clear hK K
    refine norm_ (a' := ?_) ?_ ?_
    rotate_left
    ·show Act.put _ (some 23) _ = _
     simp only [Act.put, List.setIfInBounds_toArray, List.set_cons_zero, List.set_cons_succ, i64_w, i32_w]
     rfl
    refine one_ (i := 7) (N := some 84) #[Tt,Tt,Tt,Tt,Tt,Tt,Tt,Tt,Ff,Ff,Ff,Tt,Ff,Ff] rfl rfl (one_of HT_.out (by kernel_rfl)) (by decide) (fun K hK => ?_)
    refine goes_ Tryd.func20 (by kernel_rfl) rfl #[.agg #[.int .u64 bJ, .int .u64 bN, .slice bL bx.length bK], .string bG, .int .u64 (rd bh bD), .int .u8 dJ] (by rfl) rfl rfl zx28_3 ?_
    with_reducible refine (ledger_Done.calls b9 bJ bN (fun k_ => ((some k_ ≠ (.slice (some bl) bh.length bH : Value).ownBlock ∧ (k_ ≠ ba ∧ k_ ≠ bc)) ∧ k_ ≠ bd)) _ _ bx bG (rd bh bD) dJ bM bP bB ga _ ?side1 A54.out).mono ?_
    (case side1 => exact br.out)
    rintro e w83 ⟨hJ, rfl, ho0, hb⟩
    have dz := (hb.cell (World.block_lt_of_cell? _ _ (hHeld.2.2.2))).trans (hHeld.2.2.2)
    refine ⟨_, rfl, ?_⟩
    replace bf := Aside0.mk (Kd.V_below zx28_12 hb)
    replace br := Aside0.mk (Kd.V_below zx28_13 hb)
    have bI := Aside0.mk (Kd.V_lower (Kd.V_mono (ok' := fun k_ => some k_ ≠ (.slice (some bl) bh.length bH : Value).ownBlock ∧ k_ ≠ ba ∧ k_ ≠ bc ∧ k_ ≠ bd) ho0 (fun k_ hk_ => ⟨Or.elim hk_ (fun hs_ => hs_.1.1) (fun hn_ => (Kd.fresh' (Kd.R_lt zx28_4) k_ hn_)), Or.elim hk_ (fun hs_ => hs_.1.2.1) (fun hn_ => (Kd.freshB (g := ba) (o := .cells #[.int .u64 bo, .int .u64 bp, .slice bw bk.length bu] 27 (0, 0)) zx28_0 k_ hn_)), Or.elim hk_ (fun hs_ => hs_.1.2.2) (fun hn_ => (Kd.freshB (g := bc) (o := .cells #[.int .u64 bJ, .int .u64 bN, .slice bL bx.length bK] 27 (0, 0)) zx28_1 k_ hn_)), Or.elim hk_ (fun hs_ => hs_.2) (fun hn_ => (Kd.freshB (g := bd) (o := .cells #[.int .u64 0, .int .u64 0, .slice none 0 0] 27 (0, 0)) zx28_2 k_ hn_))⟩)) (below_size zx28_8))
    replace bm := Aside0.mk (Kd.R_below zx28_4 hb)
    replace bg := Aside0.mk (blk_below (g := ba) (o := .cells #[.int .u64 bo, .int .u64 bp, .slice bw bk.length bu] 27 (0, 0)) zx28_0 hb)
    replace bn := Aside0.mk (blk_below (g := bc) (o := .cells #[.int .u64 bJ, .int .u64 bN, .slice bL bx.length bK] 27 (0, 0)) zx28_1 hb)
    replace bq := Aside0.mk (blk_below (g := bd) (o := .cells #[.int .u64 0, .int .u64 0, .slice none 0 0] 27 (0, 0)) zx28_2 hb)
    replace HB := Aside0.mk (below_step zx28_8 hb)
    (try clear hb)
    (try clear hb2)
    (try clear hk)
    (try clear hi)
    (try clear ho0)
    refine hK.out _ _ ⟨(blk_cell bn.out 0).trans rfl, (blk_cell bn.out 1).trans rfl, (blk_cell bn.out 2).trans rfl, dz⟩ (fun hHeld => ?_)
    clear hK K
    refine norm_ (a' := ?_) ?_ ?_
    rotate_left
    ·show Act.put _ (some 84) _ = _
     simp only [Act.put, List.setIfInBounds_toArray, List.set_cons_zero, List.set_cons_succ, i64_w, i32_w]
     rfl
    refine pp_ 8 (some 76) HT_.out ?_
    refine pp_ 9 (some 85) HT_.out ?_
    refine pp_ 10 (some 86) HT_.out ?_
    exact norm_ zx28_26 (hCont (hJ, bd) _ ⟨hHeld, (by (with_reducible repeat (first | apply Kd.V_alloc | apply Kd.V_drewN | apply Kd.V_drew)); exact Kd.V_mono br.out (fun _ hk => ⟨hk.1.1, ⟨hk.1.2.1, ⟨hk.1.2.2, hk.2⟩⟩⟩)), zx28_17, zx28_4, (by (with_reducible repeat (first | apply Kd.V_alloc | apply Kd.V_drewN | apply Kd.V_drew)); exact Kd.V_mono bf.out (fun _ hk => ⟨hk.1.1, ⟨hk.1.2.1, ⟨hk.1.2.2, hk.2⟩⟩⟩)), zx28_0, zx28_1, zx28_2, ht.out, d1.out, dw.out, dG.out, bR.out, dF.out, zx28_8⟩)
   rintro ⟨hJ, bd⟩ w84 ⟨hS_, h0_, h1_, h2_, h3_, h4_, h5_, h6_, h7_, h8_, h9_, gv, gu, gt, gs⟩
   have n0_ : Aside0 (Kd.V k37 37 w84 w.heap.size (fun k_ => some k_ ≠ (.slice (some bl) bh.length bH : Value).ownBlock ∧ k_ ≠ ba ∧ k_ ≠ bc ∧ k_ ≠ bd) (.slice bL bx.length bK) bx) := ⟨h0_⟩
   have n1_ : Aside0 (Kd.V k37 37 w84 w.heap.size (fun k_ => some k_ ≠ (.slice (some bl) bh.length bH : Value).ownBlock ∧ k_ ≠ ba ∧ k_ ≠ bc ∧ k_ ≠ bd) hJ bB) := ⟨h1_⟩
   have n2_ : Aside0 (Kd.R (Kd.int .u64) 24 w84 w.heap.size (fun _ => True) (.slice (some bl) bh.length bH) bh) := ⟨h2_⟩
   have n3_ : Aside0 (Kd.V k37 37 w84 w.heap.size (fun k_ => some k_ ≠ (.slice (some bl) bh.length bH : Value).ownBlock ∧ k_ ≠ ba ∧ k_ ≠ bc ∧ k_ ≠ bd) (.slice bw bk.length bu) bk) := ⟨h3_⟩
   have n4_ : Aside0 (w84.heap[ba]? = some (.cells #[.int .u64 bo, .int .u64 bp, .slice bw bk.length bu] 27 (0, 0))) := ⟨h4_⟩
   have n5_ : Aside0 (w84.heap[bc]? = some (.cells #[.int .u64 bJ, .int .u64 bN, .slice bL bx.length bK] 27 (0, 0))) := ⟨h5_⟩
   have n6_ : Aside0 (w84.heap[bd]? = some (.cells #[.int .u64 0, .int .u64 0, .slice none 0 0] 27 (0, 0))) := ⟨h6_⟩
   have n7_ : Aside0 (w.heap.size ≤ bd) := ⟨h7_⟩
   have n8_ : Aside0 (w.heap.size ≤ bd) := ⟨h8_⟩
   have n9_ : Aside0 (ba ≠ bd) := ⟨h9_⟩
   have n10_ : Aside0 (bd ≠ ba) := ⟨gv⟩
   have n11_ : Aside0 (bc ≠ bd) := ⟨gu⟩
   have n12_ : Aside0 (bd ≠ bc) := ⟨gt⟩
   have n13_ : Aside0 (Below w.heap.size w w84) := ⟨gs⟩
   clear bm
   clear bf
   (try clear br)
   clear bg
   clear bn
   clear HB
   clear h0_ h1_ h2_ h3_ h4_ h5_ h6_ h7_ h8_ h9_ gv gu gt gs
   have br := n0_
   have bI := n1_
   have bm := n2_
   have bf := n3_
   have bg := n4_
   have bn := n5_
   have bq := n6_
   have ht := n7_
   have d1 := n8_
   have dw := n9_
   have dG := n10_
   have bR := n11_
   have dF := n12_
   have HB := n13_
   clear n0_ n1_ n2_ n3_ n4_ n5_ n6_ n7_ n8_ n9_ n10_ n11_ n12_ n13_
   have hHeld : w84.cell? ⟨bc, 0, none⟩ = some (.int .u64 bJ) ∧ w84.cell? ⟨bc, 1, none⟩ = some (.int .u64 bN) ∧ w84.cell? ⟨bc, 2, none⟩ = some (.slice bL bx.length bK) ∧ w84.cell? (bl.add (bD).toNat) = some (.int .u64 (rd bh bD)) := hS_
   obtain ⟨bZ, bX, mG⟩ := Kd.V_slice bI.out
   (first | subst mG | (injection mG with f1_ f2_ f3_; have f4_ := f1_.symm; have f5_ := f3_.symm; clear f1_ f2_ f3_; subst f4_; subst f5_))
   refine norm_ (a' := ?_) ?_ ?_
   rotate_left
   ·simp only [putAll, Act.put, List.setIfInBounds_toArray, List.set_cons_zero, List.set_cons_succ]
    rfl
   refine one_ (i := 12) (N := none) #[Tt,Tt,Tt,Tt,Tt,Tt,Tt,Tt,Tt,Tt,Tt,Tt,Tt,Ff] rfl rfl (one_of HT_.out (by kernel_rfl)) (by decide) (fun K hK => ?_)
   have sf : w84.cell? ⟨bd, 0, none⟩ = some (.int .u64 0) := (blk_cell bq.out 0).trans rfl
   have qD := blk_frozen bq.out 0
   have oh := dw.out
   have og := bR.out
   have oB := dG.out
   have oA := dF.out
   have se : w84.cell? ⟨bd, 1, none⟩ = some (.int .u64 0) := (blk_cell bq.out 1).trans rfl
   have qC := blk_frozen bq.out 1
   have oe := dw.out
   have od := bR.out
   have oz := dG.out
   have oy := dF.out
   have sd : w84.cell? ⟨bd, 2, none⟩ = some (.slice none 0 0) := (blk_cell bq.out 2).trans rfl
   have qB := blk_frozen bq.out 2
   have oc := dw.out
   have ob := bR.out
   have ox := dG.out
   have ow := dF.out
   refine skip_ (w1 := ?_) (by rfl) rfl ?_ ?_
   rotate_left
   ·go_simp
    rfl
   refine hK.out _ _ ⟨((cell_far (p := ⟨bd, _, none⟩) bR.out _).trans (((cell_far (p := ⟨bd, _, none⟩) bR.out _).trans (((cell_far (p := ⟨bd, _, none⟩) bR.out _).trans (hHeld.1)))))), ((cell_far (p := ⟨bd, _, none⟩) bR.out _).trans (((cell_far (p := ⟨bd, _, none⟩) bR.out _).trans (((cell_far (p := ⟨bd, _, none⟩) bR.out _).trans (hHeld.2.1)))))), ((cell_far (p := ⟨bd, _, none⟩) bR.out _).trans (((cell_far (p := ⟨bd, _, none⟩) bR.out _).trans (((cell_far (p := ⟨bd, _, none⟩) bR.out _).trans (hHeld.2.2.1)))))), ((cell_far (p := ⟨bd, _, none⟩) zx28_23 _).trans (((cell_far (p := ⟨bd, _, none⟩) zx28_23 _).trans (((cell_far (p := ⟨bd, _, none⟩) zx28_23 _).trans (hHeld.2.2.2))))))⟩ (fun hHeld => ?_)
   clear hK K
   refine pp_ 13 (some 24) HT_.out ?_
   refine done_ (done_of HT_.out (by kernel_rfl)) ?_
   try go_wp2
   have n0_ : Aside0 (Kd.R (Kd.int .u64) 24 (((w84.setCell ⟨bd, 0, none⟩ (.int .u64 bM)).setCell ⟨bd, 1, none⟩ (.int .u64 bP)).setCell ⟨bd, 2, none⟩ (.slice bZ bB.length bX)) w.heap.size (fun _ => True) (.slice (some bl) bh.length bH) bh) := ⟨by (with_reducible repeat (first | apply Kd.R_alloc | apply Kd.R_drewN | apply Kd.R_drew)); exact Kd.R_mono (Kd.R_far (p := ⟨bd, 2, none⟩) (Kd.R_far (p := ⟨bd, 1, none⟩) (Kd.R_far (p := ⟨bd, 0, none⟩) (Kd.R_types bm.out bq.out (by decide)) (fun _ hk => hk.2) (.int .u64 bM)) (fun _ hk => hk.2) (.int .u64 bP)) (fun _ hk => hk.2) (.slice bZ bB.length bX)) (fun _ hk => trivial)⟩
   have n1_ : Aside0 (Kd.V k37 37 (((w84.setCell ⟨bd, 0, none⟩ (.int .u64 bM)).setCell ⟨bd, 1, none⟩ (.int .u64 bP)).setCell ⟨bd, 2, none⟩ (.slice bZ bB.length bX)) w.heap.size (fun k_ => some k_ ≠ (.slice (some bl) bh.length bH : Value).ownBlock ∧ k_ ≠ ba ∧ k_ ≠ bc ∧ k_ ≠ bd) (.slice bw bk.length bu) bk) := ⟨by (with_reducible repeat (first | apply Kd.V_alloc | apply Kd.V_drewN | apply Kd.V_drew)); exact Kd.V_mono (Kd.V_far (p := ⟨bd, 2, none⟩) (Kd.V_far (p := ⟨bd, 1, none⟩) (Kd.V_far (p := ⟨bd, 0, none⟩) (Kd.V_mono bf.out (fun k_ hk => (⟨hk, hk.2.2.2⟩ : _ ∧ k_ ≠ bd))) (fun _ hk => hk.2) (.int .u64 bM)) (fun _ hk => hk.2) (.int .u64 bP)) (fun _ hk => hk.2) (.slice bZ bB.length bX)) (fun _ hk => ⟨hk.1.1, ⟨hk.1.2.1, ⟨hk.1.2.2.1, hk.1.2.2.2⟩⟩⟩)⟩
   have n2_ : Aside0 (Kd.V k37 37 (((w84.setCell ⟨bd, 0, none⟩ (.int .u64 bM)).setCell ⟨bd, 1, none⟩ (.int .u64 bP)).setCell ⟨bd, 2, none⟩ (.slice bZ bB.length bX)) w.heap.size (fun k_ => some k_ ≠ (.slice (some bl) bh.length bH : Value).ownBlock ∧ k_ ≠ ba ∧ k_ ≠ bc ∧ k_ ≠ bd) (.slice bL bx.length bK) bx) := ⟨by (with_reducible repeat (first | apply Kd.V_alloc | apply Kd.V_drewN | apply Kd.V_drew)); exact Kd.V_mono (Kd.V_far (p := ⟨bd, 2, none⟩) (Kd.V_far (p := ⟨bd, 1, none⟩) (Kd.V_far (p := ⟨bd, 0, none⟩) (Kd.V_mono br.out (fun k_ hk => (⟨hk, hk.2.2.2⟩ : _ ∧ k_ ≠ bd))) (fun _ hk => hk.2) (.int .u64 bM)) (fun _ hk => hk.2) (.int .u64 bP)) (fun _ hk => hk.2) (.slice bZ bB.length bX)) (fun _ hk => ⟨hk.1.1, ⟨hk.1.2.1, ⟨hk.1.2.2.1, hk.1.2.2.2⟩⟩⟩)⟩
   have n3_ : Aside0 (Kd.V k37 37 (((w84.setCell ⟨bd, 0, none⟩ (.int .u64 bM)).setCell ⟨bd, 1, none⟩ (.int .u64 bP)).setCell ⟨bd, 2, none⟩ (.slice bZ bB.length bX)) w.heap.size (fun k_ => some k_ ≠ (.slice (some bl) bh.length bH : Value).ownBlock ∧ k_ ≠ ba ∧ k_ ≠ bc ∧ k_ ≠ bd) (.slice bZ bB.length bX) bB) := ⟨by (with_reducible repeat (first | apply Kd.V_alloc | apply Kd.V_drewN | apply Kd.V_drew)); exact Kd.V_mono (Kd.V_far (p := ⟨bd, 2, none⟩) (Kd.V_far (p := ⟨bd, 1, none⟩) (Kd.V_far (p := ⟨bd, 0, none⟩) (Kd.V_mono bI.out (fun k_ hk => (⟨hk, hk.2.2.2⟩ : _ ∧ k_ ≠ bd))) (fun _ hk => hk.2) (.int .u64 bM)) (fun _ hk => hk.2) (.int .u64 bP)) (fun _ hk => hk.2) (.slice bZ bB.length bX)) (fun _ hk => ⟨hk.1.1, ⟨hk.1.2.1, ⟨hk.1.2.2.1, hk.1.2.2.2⟩⟩⟩)⟩
   have n4_ : Aside0 ((((w84.setCell ⟨bd, 0, none⟩ (.int .u64 bM)).setCell ⟨bd, 1, none⟩ (.int .u64 bP)).setCell ⟨bd, 2, none⟩ (.slice bZ bB.length bX)).heap[ba]? = some (.cells #[.int .u64 bo, .int .u64 bp, .slice bw bk.length bu] 27 (0, 0))) := ⟨by (iterate 3 ((with_reducible repeat (first | refine blk_drewN ?_ _ | refine blk_drew ?_ | refine blk_alloc ?_ _)); refine blk_far ?_ dw.out _)); (with_reducible repeat (first | refine blk_drewN ?_ _ | refine blk_drew ?_ | refine blk_alloc ?_ _)); exact bg.out⟩
   have n5_ : Aside0 ((((w84.setCell ⟨bd, 0, none⟩ (.int .u64 bM)).setCell ⟨bd, 1, none⟩ (.int .u64 bP)).setCell ⟨bd, 2, none⟩ (.slice bZ bB.length bX)).heap[bc]? = some (.cells #[.int .u64 bJ, .int .u64 bN, .slice bL bx.length bK] 27 (0, 0))) := ⟨by (iterate 3 ((with_reducible repeat (first | refine blk_drewN ?_ _ | refine blk_drew ?_ | refine blk_alloc ?_ _)); refine blk_far ?_ bR.out _)); (with_reducible repeat (first | refine blk_drewN ?_ _ | refine blk_drew ?_ | refine blk_alloc ?_ _)); exact bn.out⟩
   have n6_ : Aside0 ((((w84.setCell ⟨bd, 0, none⟩ (.int .u64 bM)).setCell ⟨bd, 1, none⟩ (.int .u64 bP)).setCell ⟨bd, 2, none⟩ (.slice bZ bB.length bX)).heap[bd]? = some (.cells #[.int .u64 bM, .int .u64 bP, .slice bZ bB.length bX] 27 (0, 0))) := ⟨by (with_reducible repeat (first | refine blk_drewN ?_ _ | refine blk_drew ?_ | refine blk_alloc ?_ _)); refine blk_put (cs := #[.int .u64 bM, .int .u64 bP, .slice none 0 0]) ?_ 2 _ rfl; (with_reducible repeat (first | refine blk_drewN ?_ _ | refine blk_drew ?_ | refine blk_alloc ?_ _)); refine blk_put (cs := #[.int .u64 bM, .int .u64 0, .slice none 0 0]) ?_ 1 _ rfl; (with_reducible repeat (first | refine blk_drewN ?_ _ | refine blk_drew ?_ | refine blk_alloc ?_ _)); refine blk_put (cs := #[.int .u64 0, .int .u64 0, .slice none 0 0]) ?_ 0 _ rfl; (with_reducible repeat (first | refine blk_drewN ?_ _ | refine blk_drew ?_ | refine blk_alloc ?_ _)); exact bq.out⟩
   have n7_ : Aside0 (Below w.heap.size w (((w84.setCell ⟨bd, 0, none⟩ (.int .u64 bM)).setCell ⟨bd, 1, none⟩ (.int .u64 bP)).setCell ⟨bd, 2, none⟩ (.slice bZ bB.length bX))) := ⟨by repeat (first | (with_reducible first | exact HB.out | apply below_alloc | apply pw_below_drewN | apply below_drew1 | refine below_set ?_ dI.out | refine below_set ?_ dV.out | refine below_set ?_ d1.out) | exact HB.out)⟩
   (try clear bm)
   (try clear bf)
   (try clear br)
   (try clear bI)
   (try clear bg)
   (try clear bn)
   (try clear bq)
   (try clear HB)
   generalize (((w84.setCell ⟨bd, 0, none⟩ (.int .u64 bM)).setCell ⟨bd, 1, none⟩ (.int .u64 bP)).setCell ⟨bd, 2, none⟩ (.slice bZ bB.length bX)) = w89 at n0_ n1_ n2_ n3_ n4_ n5_ n6_ n7_ ⊢
   have bm := n0_
   have bf := n1_
   have br := n2_
   have bI := n3_
   have bg := n4_
   have bn := n5_
   have bq := n6_
   have HB := n7_
   clear n0_ n1_ n2_ n3_ n4_ n5_ n6_ n7_
   replace bm := Aside0.mk (Kd.R_drew bm.out)
   replace bf := Aside0.mk (Kd.V_drew bf.out)
   replace br := Aside0.mk (Kd.V_drew br.out)
   replace bI := Aside0.mk (Kd.V_drew bI.out)
   replace bg := Aside0.mk (blk_drew bg.out)
   replace bn := Aside0.mk (blk_drew bn.out)
   replace bq := Aside0.mk (blk_drew bq.out)
   replace HB := Aside0.mk (below_drew1 HB.out)
   have jj : 0 ≤ (bD : Int) := of_decide_eq_true zx28_33
   have jf : bD < (bh.length : Int) := of_decide_eq_true zx28_33
   obtain ⟨mL, qs, gx⟩ := Kd.at_int (Kd.R_reads' bm.out).2.2 bD jj jf
   obtain rfl : bl = mL := (by injection qs)
   replace jj := eq_true jj
   replace jf := eq_true jf
   refine start_ (n := 14) (S := fun w' => w'.cell? ⟨ba, 0, none⟩ = some (.int .u64 bo) ∧ w'.cell? ⟨ba, 1, none⟩ = some (.int .u64 bp) ∧ w'.cell? ⟨ba, 2, none⟩ = some (.slice bw bk.length bu) ∧ w'.cell? (bl.add (bD).toNat) = some (.int .u64 (rd bh bD))) (ds := []) #[Ff,Ff,Ff,Ff,Ff,Ff,Ff,Ff,Ff,Ff,Ff,Ff,Ff,Ff] (by kernel_rfl) rfl rfl ⟨(blk_cell bg.out 0).trans rfl, (blk_cell bg.out 1).trans rfl, (blk_cell bg.out 2).trans rfl, gx⟩ (fun hHeld => ?_); refine with_tabW postroomlaw10_LedgerOrder.tab20 postroomlaw10_LedgerOrder.bits20 (fun HT_ HW_ => ?_)
   generalize w89.drew = w90 at bm bf br bI bg bn bq HB gx hHeld ⊢
   refine pp_ 1 (some 89) HT_.out ?_
   refine pp_ 2 (some 90) HT_.out ?_
   refine pp_ 3 (some 91) HT_.out ?_
   refine pp_ 4 (some 92) HT_.out ?_
   refine pp_ 6 (some 94) HT_.out ?_
   refine take_ (i := 0) (N := some 88) (v := ?_) (a' := ?_) #[Tt,Tt,Tt,Tt,Tt,Ff,Tt,Ff,Ff,Ff,Ff,Ff,Ff,Ff] rfl rfl (take_ofW HT_.out HW_.out (by kernel_rfl)) (fun _ _ _ h => h) (Or.inl ⟨by rfl, ?_⟩) hHeld ?_ ?_
   rotate_left
   ·rintro w' ⟨s0, s1, s2, s3⟩
    go_simp
    with_reducible rfl
   rotate_left
   ·simp only [Act.put, List.setIfInBounds_toArray, List.set_cons_zero, List.set_cons_succ, i64_w, i32_w]
    rfl
   refine take_ (i := 5) (N := some 93) (v := ?_) (a' := ?_) #[Tt,Tt,Tt,Tt,Tt,Tt,Tt,Ff,Ff,Ff,Ff,Ff,Ff,Ff] rfl rfl (take_ofW HT_.out HW_.out (by kernel_rfl)) (fun _ _ _ h => h) (Or.inl ⟨by rfl, ?_⟩) hHeld ?_ ?_
   rotate_left
   ·rintro w' ⟨s0, s1, s2, s3⟩
    go_simp
    with_reducible rfl
   rotate_left
   ·simp only [Act.put, List.setIfInBounds_toArray, List.set_cons_zero, List.set_cons_succ, i64_w, i32_w]
    rfl
   refine join_ (σ := Value × Nat) 2 #[Tt,Tt,Tt,Tt,Tt,Tt,Tt,Tt,Tt,Tt,Tt,Tt,Ff,Ff] (fun s_ => [(95, .tuple #[.agg #[.int .u64 b1, .int .u64 b3, s_.1], .int .i64 gb]), (25, .pointer (some ⟨s_.2, 0, none⟩)), (87, .tuple #[.agg #[.int .u64 b1, .int .u64 b3, s_.1], .int .i64 gb]), (96, .agg #[.int .u64 b1, .int .u64 b3, s_.1]), (97, .int .i64 gb)]) (fun s_ w' => (w'.cell? ⟨ba, 0, none⟩ = some (.int .u64 bo) ∧ w'.cell? ⟨ba, 1, none⟩ = some (.int .u64 bp) ∧ w'.cell? ⟨ba, 2, none⟩ = some (.slice bw bk.length bu) ∧ w'.cell? (bl.add (bD).toNat) = some (.int .u64 (rd bh bD))) ∧ (Kd.V k37 37 w' w.heap.size (fun k_ => some k_ ≠ (.slice (some bl) bh.length bH : Value).ownBlock ∧ k_ ≠ ba ∧ k_ ≠ bc ∧ k_ ≠ bd ∧ k_ ≠ s_.2) (.slice bL bx.length bK) bx) ∧ (Kd.V k37 37 w' w.heap.size (fun k_ => some k_ ≠ (.slice (some bl) bh.length bH : Value).ownBlock ∧ k_ ≠ ba ∧ k_ ≠ bc ∧ k_ ≠ bd ∧ k_ ≠ s_.2) (.slice bZ bB.length bX) bB) ∧ (Kd.V k37 37 w' w.heap.size (fun k_ => some k_ ≠ (.slice (some bl) bh.length bH : Value).ownBlock ∧ k_ ≠ ba ∧ k_ ≠ bc ∧ k_ ≠ bd ∧ k_ ≠ s_.2) s_.1 bY) ∧ (Kd.R (Kd.int .u64) 24 w' w.heap.size (fun _ => True) (.slice (some bl) bh.length bH) bh) ∧ (Kd.V k37 37 w' w.heap.size (fun k_ => some k_ ≠ (.slice (some bl) bh.length bH : Value).ownBlock ∧ k_ ≠ ba ∧ k_ ≠ bc ∧ k_ ≠ bd ∧ k_ ≠ s_.2) (.slice bw bk.length bu) bk) ∧ (w'.heap[ba]? = some (.cells #[.int .u64 bo, .int .u64 bp, .slice bw bk.length bu] 27 (0, 0))) ∧ (w'.heap[bc]? = some (.cells #[.int .u64 bJ, .int .u64 bN, .slice bL bx.length bK] 27 (0, 0))) ∧ (w'.heap[bd]? = some (.cells #[.int .u64 bM, .int .u64 bP, .slice bZ bB.length bX] 27 (0, 0))) ∧ (w'.heap[s_.2]? = some (.cells #[.int .u64 0, .int .u64 0, .slice none 0 0] 27 (0, 0))) ∧ (w.heap.size ≤ s_.2) ∧ (w.heap.size ≤ s_.2) ∧ (ba ≠ s_.2) ∧ (s_.2 ≠ ba) ∧ (bc ≠ s_.2) ∧ (s_.2 ≠ bc) ∧ (bd ≠ s_.2) ∧ (s_.2 ≠ bd) ∧ (Below w.heap.size w w')) ?_ ?_
   rotate_left
   ·intro hCont
    refine two_ (i := 7) (j := 11) (Ni := some 95) (Nj := some 25) #[Tt,Tt,Tt,Tt,Tt,Tt,Tt,Tt,Ff,Ff,Ff,Ff,Ff,Ff] #[Tt,Tt,Tt,Tt,Tt,Tt,Tt,Ff,Ff,Ff,Ff,Tt,Ff,Ff] rfl rfl rfl rfl (two_of HT_.out (by kernel_rfl)) (by decide) (by decide) (fun K hK => ?_) (fun K hK => ?_)
    ·skip
     refine goes_ Tryd.func20 (by kernel_rfl) rfl #[.agg #[.int .u64 bo, .int .u64 bp, .slice bw bk.length bu], .string bG, .int .u64 (rd bh bD), .int .u8 dJ] (by rfl) rfl rfl zx28_3 ?_
     with_reducible refine (ledger_Done.calls b9 bo bp (fun k_ => (some k_ ≠ (.slice (some bl) bh.length bH : Value).ownBlock ∧ (k_ ≠ ba ∧ (k_ ≠ bc ∧ k_ ≠ bd)))) _ _ bk bG (rd bh bD) dJ b1 b3 bY gb _ ?side1 A55.out).mono ?_
     (case side1 => exact bf.out)
     rintro e w91 ⟨hI, rfl, ho0, hb⟩
     have dz := (hb.cell (World.block_lt_of_cell? _ _ (hHeld.2.2.2))).trans (hHeld.2.2.2)
     refine ⟨_, rfl, ?_⟩
     replace bf := Aside0.mk (Kd.V_below zx28_12 hb)
     replace br := Aside0.mk (Kd.V_below zx28_13 hb)
     replace bI := Aside0.mk (Kd.V_below zx28_17 hb)
     have b2 := Aside0.mk (Kd.V_lower (Kd.V_mono (ok' := fun k_ => some k_ ≠ (.slice (some bl) bh.length bH : Value).ownBlock ∧ k_ ≠ ba ∧ k_ ≠ bc ∧ k_ ≠ bd) ho0 (fun k_ hk_ => ⟨Or.elim hk_ (fun hs_ => hs_.1) (fun hn_ => (Kd.fresh' (Kd.R_lt zx28_4) k_ hn_)), Or.elim hk_ (fun hs_ => hs_.2.1) (fun hn_ => (Kd.freshB (g := ba) (o := .cells #[.int .u64 bo, .int .u64 bp, .slice bw bk.length bu] 27 (0, 0)) zx28_0 k_ hn_)), Or.elim hk_ (fun hs_ => hs_.2.2.1) (fun hn_ => (Kd.freshB (g := bc) (o := .cells #[.int .u64 bJ, .int .u64 bN, .slice bL bx.length bK] 27 (0, 0)) zx28_1 k_ hn_)), Or.elim hk_ (fun hs_ => hs_.2.2.2) (fun hn_ => (Kd.freshB (g := bd) (o := .cells #[.int .u64 bM, .int .u64 bP, .slice bZ bB.length bX] 27 (0, 0)) zx28_2 k_ hn_))⟩)) (below_size zx28_8))
     replace bm := Aside0.mk (Kd.R_below zx28_4 hb)
     replace bg := Aside0.mk (blk_below (g := ba) (o := .cells #[.int .u64 bo, .int .u64 bp, .slice bw bk.length bu] 27 (0, 0)) zx28_0 hb)
     replace bn := Aside0.mk (blk_below (g := bc) (o := .cells #[.int .u64 bJ, .int .u64 bN, .slice bL bx.length bK] 27 (0, 0)) zx28_1 hb)
     replace bq := Aside0.mk (blk_below (g := bd) (o := .cells #[.int .u64 bM, .int .u64 bP, .slice bZ bB.length bX] 27 (0, 0)) zx28_2 hb)
     replace HB := Aside0.mk (below_step zx28_8 hb)
     (try clear hb)
     (try clear hb2)
     (try clear hk)
     (try clear hi)
     (try clear ho0)
     refine hK.out _ _ ⟨(blk_cell bg.out 0).trans rfl, (blk_cell bg.out 1).trans rfl, (blk_cell bg.out 2).trans rfl, dz⟩ (fun hHeld => ?_)
     clear hK K
     refine norm_ (a' := ?_) ?_ ?_
     rotate_left
     ·show Act.put _ (some 95) _ = _
      simp only [Act.put, List.setIfInBounds_toArray, List.set_cons_zero, List.set_cons_succ, i64_w, i32_w]
      rfl
     refine pp_ 8 (some 87) HT_.out ?_
     refine pp_ 9 (some 96) HT_.out ?_
     refine pp_ 10 (some 97) HT_.out ?_
     refine one_ (i := 11) (N := some 25) #[Tt,Tt,Tt,Tt,Tt,Tt,Tt,Tt,Tt,Tt,Tt,Tt,Ff,Ff] rfl rfl (one_of HT_.out (by kernel_rfl)) (by decide) (fun K hK => ?_)
     refine box_step ?hg (N := 25) ?hd (cs := #[.int .u64 0, .int .u64 0, .slice none 0 0]) (t := 27) ?hr ?_; (case hd => rfl); (case hg => rfl); (case hr => first | (go_simp; done) | (go_simp; rfl))
     intro be hg w92 hbox hb
     have dz := (hb.cell (World.block_lt_of_cell? _ _ (hHeld.2.2.2))).trans (hHeld.2.2.2)
     replace bm := Aside0.mk (Kd.R_below zx28_4 hb)
     replace bf := Aside0.mk (Kd.V_below (Kd.V_elderB zx28_12 be (Nat.le_of_eq hg.symm)) hb)
     replace br := Aside0.mk (Kd.V_below (Kd.V_elderB zx28_13 be (Nat.le_of_eq hg.symm)) hb)
     replace bI := Aside0.mk (Kd.V_below (Kd.V_elderB zx28_17 be (Nat.le_of_eq hg.symm)) hb)
     replace b2 := Aside0.mk (Kd.V_below (Kd.V_elderB zx28_18 be (Nat.le_of_eq hg.symm)) hb)
     have bA := Aside0.mk (hbox)
     have hs := Aside0.mk ((by rw [hg]; exact (below_size zx28_8) : w.heap.size ≤ be))
     have d4 := Aside0.mk ((by rw [hg]; exact (below_size zx28_8) : w.heap.size ≤ be))
     replace HB := Aside0.mk (below_step zx28_8 hb)
     have bU := Aside0.mk ((by rw [hg]; exact Nat.ne_of_lt (blk_lt (g := ba) (o := .cells #[.int .u64 bo, .int .u64 bp, .slice bw bk.length bu] 27 (0, 0)) zx28_0) : ba ≠ be))
     have dN := Aside0.mk ((by rw [hg]; exact Nat.ne_of_gt (blk_lt (g := ba) (o := .cells #[.int .u64 bo, .int .u64 bp, .slice bw bk.length bu] 27 (0, 0)) zx28_0) : be ≠ ba))
     replace bg := Aside0.mk (blk_below (g := ba) (o := .cells #[.int .u64 bo, .int .u64 bp, .slice bw bk.length bu] 27 (0, 0)) zx28_0 hb)
     have dH := Aside0.mk ((by rw [hg]; exact Nat.ne_of_lt (blk_lt (g := bc) (o := .cells #[.int .u64 bJ, .int .u64 bN, .slice bL bx.length bK] 27 (0, 0)) zx28_1) : bc ≠ be))
     have dM := Aside0.mk ((by rw [hg]; exact Nat.ne_of_gt (blk_lt (g := bc) (o := .cells #[.int .u64 bJ, .int .u64 bN, .slice bL bx.length bK] 27 (0, 0)) zx28_1) : be ≠ bc))
     replace bn := Aside0.mk (blk_below (g := bc) (o := .cells #[.int .u64 bJ, .int .u64 bN, .slice bL bx.length bK] 27 (0, 0)) zx28_1 hb)
     have dt := Aside0.mk ((by rw [hg]; exact Nat.ne_of_lt (blk_lt (g := bd) (o := .cells #[.int .u64 bM, .int .u64 bP, .slice bZ bB.length bX] 27 (0, 0)) zx28_2) : bd ≠ be))
     have dE := Aside0.mk ((by rw [hg]; exact Nat.ne_of_gt (blk_lt (g := bd) (o := .cells #[.int .u64 bM, .int .u64 bP, .slice bZ bB.length bX] 27 (0, 0)) zx28_2) : be ≠ bd))
     replace bq := Aside0.mk (blk_below (g := bd) (o := .cells #[.int .u64 bM, .int .u64 bP, .slice bZ bB.length bX] 27 (0, 0)) zx28_2 hb)
     clear hb hbox hg
     refine hK.out _ _ ⟨(blk_cell bg.out 0).trans rfl, (blk_cell bg.out 1).trans rfl, (blk_cell bg.out 2).trans rfl, dz⟩ (fun hHeld => ?_)
     clear hK K
     refine norm_ (a' := ?_) ?_ ?_
     rotate_left
     ·show Act.put _ (some 25) _ = _
      simp only [Act.put, List.setIfInBounds_toArray, List.set_cons_zero, List.set_cons_succ, i64_w, i32_w]
      rfl
     exact norm_ zx28_26 (hCont (hI, be) _ ⟨hHeld, (by (with_reducible repeat (first | apply Kd.V_alloc | apply Kd.V_drewN | apply Kd.V_drew)); exact Kd.V_mono br.out (fun _ hk => ⟨hk.1.1, ⟨hk.1.2.1, ⟨hk.1.2.2.1, ⟨hk.1.2.2.2, hk.2⟩⟩⟩⟩)), (by (with_reducible repeat (first | apply Kd.V_alloc | apply Kd.V_drewN | apply Kd.V_drew)); exact Kd.V_mono bI.out (fun _ hk => ⟨hk.1.1, ⟨hk.1.2.1, ⟨hk.1.2.2.1, ⟨hk.1.2.2.2, hk.2⟩⟩⟩⟩)), (by (with_reducible repeat (first | apply Kd.V_alloc | apply Kd.V_drewN | apply Kd.V_drew)); exact Kd.V_mono b2.out (fun _ hk => ⟨hk.1.1, ⟨hk.1.2.1, ⟨hk.1.2.2.1, ⟨hk.1.2.2.2, hk.2⟩⟩⟩⟩)), zx28_4, (by (with_reducible repeat (first | apply Kd.V_alloc | apply Kd.V_drewN | apply Kd.V_drew)); exact Kd.V_mono bf.out (fun _ hk => ⟨hk.1.1, ⟨hk.1.2.1, ⟨hk.1.2.2.1, ⟨hk.1.2.2.2, hk.2⟩⟩⟩⟩)), zx28_0, zx28_1, zx28_2, zx28_6, hs.out, d4.out, bU.out, dN.out, dH.out, dM.out, dt.out, dE.out, zx28_5⟩)
    skip
    refine box_step ?hg (N := 25) ?hd (cs := #[.int .u64 0, .int .u64 0, .slice none 0 0]) (t := 27) ?hr ?_; (case hd => rfl); (case hg => rfl); (case hr => first | (go_simp; done) | (go_simp; rfl))
    intro be hg w91 hbox hb
    have dz := (hb.cell (World.block_lt_of_cell? _ _ (hHeld.2.2.2))).trans (hHeld.2.2.2)
    replace bm := Aside0.mk (Kd.R_below zx28_4 hb)
    replace bf := Aside0.mk (Kd.V_below (Kd.V_elderB zx28_12 be (Nat.le_of_eq hg.symm)) hb)
    replace br := Aside0.mk (Kd.V_below (Kd.V_elderB zx28_13 be (Nat.le_of_eq hg.symm)) hb)
    replace bI := Aside0.mk (Kd.V_below (Kd.V_elderB zx28_17 be (Nat.le_of_eq hg.symm)) hb)
    have bA := Aside0.mk (hbox)
    have hs := Aside0.mk ((by rw [hg]; exact (below_size zx28_8) : w.heap.size ≤ be))
    have d4 := Aside0.mk ((by rw [hg]; exact (below_size zx28_8) : w.heap.size ≤ be))
    replace HB := Aside0.mk (below_step zx28_8 hb)
    have bU := Aside0.mk ((by rw [hg]; exact Nat.ne_of_lt (blk_lt (g := ba) (o := .cells #[.int .u64 bo, .int .u64 bp, .slice bw bk.length bu] 27 (0, 0)) zx28_0) : ba ≠ be))
    have dN := Aside0.mk ((by rw [hg]; exact Nat.ne_of_gt (blk_lt (g := ba) (o := .cells #[.int .u64 bo, .int .u64 bp, .slice bw bk.length bu] 27 (0, 0)) zx28_0) : be ≠ ba))
    replace bg := Aside0.mk (blk_below (g := ba) (o := .cells #[.int .u64 bo, .int .u64 bp, .slice bw bk.length bu] 27 (0, 0)) zx28_0 hb)
    have dH := Aside0.mk ((by rw [hg]; exact Nat.ne_of_lt (blk_lt (g := bc) (o := .cells #[.int .u64 bJ, .int .u64 bN, .slice bL bx.length bK] 27 (0, 0)) zx28_1) : bc ≠ be))
    have dM := Aside0.mk ((by rw [hg]; exact Nat.ne_of_gt (blk_lt (g := bc) (o := .cells #[.int .u64 bJ, .int .u64 bN, .slice bL bx.length bK] 27 (0, 0)) zx28_1) : be ≠ bc))
    replace bn := Aside0.mk (blk_below (g := bc) (o := .cells #[.int .u64 bJ, .int .u64 bN, .slice bL bx.length bK] 27 (0, 0)) zx28_1 hb)
    have dt := Aside0.mk ((by rw [hg]; exact Nat.ne_of_lt (blk_lt (g := bd) (o := .cells #[.int .u64 bM, .int .u64 bP, .slice bZ bB.length bX] 27 (0, 0)) zx28_2) : bd ≠ be))
    have dE := Aside0.mk ((by rw [hg]; exact Nat.ne_of_gt (blk_lt (g := bd) (o := .cells #[.int .u64 bM, .int .u64 bP, .slice bZ bB.length bX] 27 (0, 0)) zx28_2) : be ≠ bd))
    replace bq := Aside0.mk (blk_below (g := bd) (o := .cells #[.int .u64 bM, .int .u64 bP, .slice bZ bB.length bX] 27 (0, 0)) zx28_2 hb)
    clear hb hbox hg
    refine hK.out _ _ ⟨(blk_cell bg.out 0).trans rfl, (blk_cell bg.out 1).trans rfl, (blk_cell bg.out 2).trans rfl, dz⟩ (fun hHeld => ?_)
    clear hK K
    refine norm_ (a' := ?_) ?_ ?_
    rotate_left
    ·show Act.put _ (some 25) _ = _
     simp only [Act.put, List.setIfInBounds_toArray, List.set_cons_zero, List.set_cons_succ, i64_w, i32_w]
     rfl
    refine one_ (i := 7) (N := some 95) #[Tt,Tt,Tt,Tt,Tt,Tt,Tt,Tt,Ff,Ff,Ff,Tt,Ff,Ff] rfl rfl (one_of HT_.out (by kernel_rfl)) (by decide) (fun K hK => ?_)
    refine goes_ Tryd.func20 (by kernel_rfl) rfl #[.agg #[.int .u64 bo, .int .u64 bp, .slice bw bk.length bu], .string bG, .int .u64 (rd bh bD), .int .u8 dJ] (by rfl) rfl rfl zx28_3 ?_
    with_reducible refine (ledger_Done.calls b9 bo bp (fun k_ => ((some k_ ≠ (.slice (some bl) bh.length bH : Value).ownBlock ∧ (k_ ≠ ba ∧ (k_ ≠ bc ∧ k_ ≠ bd))) ∧ k_ ≠ be)) _ _ bk bG (rd bh bD) dJ b1 b3 bY gb _ ?side1 A55.out).mono ?_
    (case side1 => exact bf.out)
    rintro e w92 ⟨hI, rfl, ho0, hb⟩
    have dz := (hb.cell (World.block_lt_of_cell? _ _ (hHeld.2.2.2))).trans (hHeld.2.2.2)
    refine ⟨_, rfl, ?_⟩
    replace bf := Aside0.mk (Kd.V_below zx28_12 hb)
    replace br := Aside0.mk (Kd.V_below zx28_13 hb)
    replace bI := Aside0.mk (Kd.V_below zx28_17 hb)
    have b2 := Aside0.mk (Kd.V_lower (Kd.V_mono (ok' := fun k_ => some k_ ≠ (.slice (some bl) bh.length bH : Value).ownBlock ∧ k_ ≠ ba ∧ k_ ≠ bc ∧ k_ ≠ bd ∧ k_ ≠ be) ho0 (fun k_ hk_ => ⟨Or.elim hk_ (fun hs_ => hs_.1.1) (fun hn_ => (Kd.fresh' (Kd.R_lt zx28_4) k_ hn_)), Or.elim hk_ (fun hs_ => hs_.1.2.1) (fun hn_ => (Kd.freshB (g := ba) (o := .cells #[.int .u64 bo, .int .u64 bp, .slice bw bk.length bu] 27 (0, 0)) zx28_0 k_ hn_)), Or.elim hk_ (fun hs_ => hs_.1.2.2.1) (fun hn_ => (Kd.freshB (g := bc) (o := .cells #[.int .u64 bJ, .int .u64 bN, .slice bL bx.length bK] 27 (0, 0)) zx28_1 k_ hn_)), Or.elim hk_ (fun hs_ => hs_.1.2.2.2) (fun hn_ => (Kd.freshB (g := bd) (o := .cells #[.int .u64 bM, .int .u64 bP, .slice bZ bB.length bX] 27 (0, 0)) zx28_2 k_ hn_)), Or.elim hk_ (fun hs_ => hs_.2) (fun hn_ => (Kd.freshB (g := be) (o := .cells #[.int .u64 0, .int .u64 0, .slice none 0 0] 27 (0, 0)) zx28_6 k_ hn_))⟩)) (below_size zx28_5))
    replace bm := Aside0.mk (Kd.R_below zx28_4 hb)
    replace bg := Aside0.mk (blk_below (g := ba) (o := .cells #[.int .u64 bo, .int .u64 bp, .slice bw bk.length bu] 27 (0, 0)) zx28_0 hb)
    replace bn := Aside0.mk (blk_below (g := bc) (o := .cells #[.int .u64 bJ, .int .u64 bN, .slice bL bx.length bK] 27 (0, 0)) zx28_1 hb)
    replace bq := Aside0.mk (blk_below (g := bd) (o := .cells #[.int .u64 bM, .int .u64 bP, .slice bZ bB.length bX] 27 (0, 0)) zx28_2 hb)
    replace bA := Aside0.mk (blk_below (g := be) (o := .cells #[.int .u64 0, .int .u64 0, .slice none 0 0] 27 (0, 0)) zx28_6 hb)
    replace HB := Aside0.mk (below_step zx28_5 hb)
    (try clear hb)
    (try clear hb2)
    (try clear hk)
    (try clear hi)
    (try clear ho0)
    refine hK.out _ _ ⟨(blk_cell bg.out 0).trans rfl, (blk_cell bg.out 1).trans rfl, (blk_cell bg.out 2).trans rfl, dz⟩ (fun hHeld => ?_)
    clear hK K
    refine norm_ (a' := ?_) ?_ ?_
    rotate_left
    ·show Act.put _ (some 95) _ = _
     simp only [Act.put, List.setIfInBounds_toArray, List.set_cons_zero, List.set_cons_succ, i64_w, i32_w]
     rfl
    refine pp_ 8 (some 87) HT_.out ?_
    refine pp_ 9 (some 96) HT_.out ?_
    refine pp_ 10 (some 97) HT_.out ?_
    exact norm_ zx28_26 (hCont (hI, be) _ ⟨hHeld, (by (with_reducible repeat (first | apply Kd.V_alloc | apply Kd.V_drewN | apply Kd.V_drew)); exact Kd.V_mono br.out (fun _ hk => ⟨hk.1.1, ⟨hk.1.2.1, ⟨hk.1.2.2.1, ⟨hk.1.2.2.2, hk.2⟩⟩⟩⟩)), (by (with_reducible repeat (first | apply Kd.V_alloc | apply Kd.V_drewN | apply Kd.V_drew)); exact Kd.V_mono bI.out (fun _ hk => ⟨hk.1.1, ⟨hk.1.2.1, ⟨hk.1.2.2.1, ⟨hk.1.2.2.2, hk.2⟩⟩⟩⟩)), zx28_18, zx28_4, (by (with_reducible repeat (first | apply Kd.V_alloc | apply Kd.V_drewN | apply Kd.V_drew)); exact Kd.V_mono bf.out (fun _ hk => ⟨hk.1.1, ⟨hk.1.2.1, ⟨hk.1.2.2.1, ⟨hk.1.2.2.2, hk.2⟩⟩⟩⟩)), zx28_0, zx28_1, zx28_2, zx28_6, hs.out, d4.out, bU.out, dN.out, dH.out, dM.out, dt.out, dE.out, zx28_5⟩)
   rintro ⟨hI, be⟩ w93 ⟨hS_, h0_, h1_, h2_, h3_, h4_, h5_, h6_, h7_, h8_, h9_, gv, gu, gt, gs, hP, hO, hN, hM⟩
   have n0_ : Aside0 (Kd.V k37 37 w93 w.heap.size (fun k_ => some k_ ≠ (.slice (some bl) bh.length bH : Value).ownBlock ∧ k_ ≠ ba ∧ k_ ≠ bc ∧ k_ ≠ bd ∧ k_ ≠ be) (.slice bL bx.length bK) bx) := ⟨h0_⟩
   have n1_ : Aside0 (Kd.V k37 37 w93 w.heap.size (fun k_ => some k_ ≠ (.slice (some bl) bh.length bH : Value).ownBlock ∧ k_ ≠ ba ∧ k_ ≠ bc ∧ k_ ≠ bd ∧ k_ ≠ be) (.slice bZ bB.length bX) bB) := ⟨h1_⟩
   have n2_ : Aside0 (Kd.V k37 37 w93 w.heap.size (fun k_ => some k_ ≠ (.slice (some bl) bh.length bH : Value).ownBlock ∧ k_ ≠ ba ∧ k_ ≠ bc ∧ k_ ≠ bd ∧ k_ ≠ be) hI bY) := ⟨h2_⟩
   have n3_ : Aside0 (Kd.R (Kd.int .u64) 24 w93 w.heap.size (fun _ => True) (.slice (some bl) bh.length bH) bh) := ⟨h3_⟩
   have n4_ : Aside0 (Kd.V k37 37 w93 w.heap.size (fun k_ => some k_ ≠ (.slice (some bl) bh.length bH : Value).ownBlock ∧ k_ ≠ ba ∧ k_ ≠ bc ∧ k_ ≠ bd ∧ k_ ≠ be) (.slice bw bk.length bu) bk) := ⟨h4_⟩
   have n5_ : Aside0 (w93.heap[ba]? = some (.cells #[.int .u64 bo, .int .u64 bp, .slice bw bk.length bu] 27 (0, 0))) := ⟨h5_⟩
   have n6_ : Aside0 (w93.heap[bc]? = some (.cells #[.int .u64 bJ, .int .u64 bN, .slice bL bx.length bK] 27 (0, 0))) := ⟨h6_⟩
   have n7_ : Aside0 (w93.heap[bd]? = some (.cells #[.int .u64 bM, .int .u64 bP, .slice bZ bB.length bX] 27 (0, 0))) := ⟨h7_⟩
   have n8_ : Aside0 (w93.heap[be]? = some (.cells #[.int .u64 0, .int .u64 0, .slice none 0 0] 27 (0, 0))) := ⟨h8_⟩
   have n9_ : Aside0 (w.heap.size ≤ be) := ⟨h9_⟩
   have n10_ : Aside0 (w.heap.size ≤ be) := ⟨gv⟩
   have n11_ : Aside0 (ba ≠ be) := ⟨gu⟩
   have n12_ : Aside0 (be ≠ ba) := ⟨gt⟩
   have n13_ : Aside0 (bc ≠ be) := ⟨gs⟩
   have n14_ : Aside0 (be ≠ bc) := ⟨hP⟩
   have n15_ : Aside0 (bd ≠ be) := ⟨hO⟩
   have n16_ : Aside0 (be ≠ bd) := ⟨hN⟩
   have n17_ : Aside0 (Below w.heap.size w w93) := ⟨hM⟩
   clear bm
   clear bf
   (try clear br)
   (try clear bI)
   clear bg
   clear bn
   clear bq
   clear HB
   clear h0_ h1_ h2_ h3_ h4_ h5_ h6_ h7_ h8_ h9_ gv gu gt gs hP hO hN hM
   have br := n0_
   have bI := n1_
   have b2 := n2_
   have bm := n3_
   have bf := n4_
   have bg := n5_
   have bn := n6_
   have bq := n7_
   have bA := n8_
   have hs := n9_
   have d4 := n10_
   have bU := n11_
   have dN := n12_
   have dH := n13_
   have dM := n14_
   have dt := n15_
   have dE := n16_
   have HB := n17_
   clear n0_ n1_ n2_ n3_ n4_ n5_ n6_ n7_ n8_ n9_ n10_ n11_ n12_ n13_ n14_ n15_ n16_ n17_
   have hHeld : w93.cell? ⟨ba, 0, none⟩ = some (.int .u64 bo) ∧ w93.cell? ⟨ba, 1, none⟩ = some (.int .u64 bp) ∧ w93.cell? ⟨ba, 2, none⟩ = some (.slice bw bk.length bu) ∧ w93.cell? (bl.add (bD).toNat) = some (.int .u64 (rd bh bD)) := hS_
   obtain ⟨b6, b5, mF⟩ := Kd.V_slice b2.out
   (first | subst mF | (injection mF with f1_ f2_ f3_; have f4_ := f1_.symm; have f5_ := f3_.symm; clear f1_ f2_ f3_; subst f4_; subst f5_))
   refine norm_ (a' := ?_) ?_ ?_
   rotate_left
   ·simp only [putAll, Act.put, List.setIfInBounds_toArray, List.set_cons_zero, List.set_cons_succ]
    rfl
   refine one_ (i := 12) (N := none) #[Tt,Tt,Tt,Tt,Tt,Tt,Tt,Tt,Tt,Tt,Tt,Tt,Tt,Ff] rfl rfl (one_of HT_.out (by kernel_rfl)) (by decide) (fun K hK => ?_)
   have sc : w93.cell? ⟨be, 0, none⟩ = some (.int .u64 0) := (blk_cell bA.out 0).trans rfl
   have qA := blk_frozen bA.out 0
   have oa := bU.out
   have m9 := dH.out
   have m8 := dt.out
   have ov := dN.out
   have ou := dM.out
   have ot := dE.out
   have sb : w93.cell? ⟨be, 1, none⟩ = some (.int .u64 0) := (blk_cell bA.out 1).trans rfl
   have qz := blk_frozen bA.out 1
   have m7 := bU.out
   have m6 := dH.out
   have m5 := dt.out
   have os := dN.out
   have oq := dM.out
   have op := dE.out
   have sa : w93.cell? ⟨be, 2, none⟩ = some (.slice none 0 0) := (blk_cell bA.out 2).trans rfl
   have qy := blk_frozen bA.out 2
   have m4 := bU.out
   have m3 := dH.out
   have m2 := dt.out
   have oo := dN.out
   have on := dM.out
   have om := dE.out
   refine skip_ (w1 := ?_) (by rfl) rfl ?_ ?_
   rotate_left
   ·go_simp
    rfl
   refine hK.out _ _ ⟨((cell_far (p := ⟨be, _, none⟩) bU.out _).trans (((cell_far (p := ⟨be, _, none⟩) bU.out _).trans (((cell_far (p := ⟨be, _, none⟩) bU.out _).trans (hHeld.1)))))), ((cell_far (p := ⟨be, _, none⟩) bU.out _).trans (((cell_far (p := ⟨be, _, none⟩) bU.out _).trans (((cell_far (p := ⟨be, _, none⟩) bU.out _).trans (hHeld.2.1)))))), ((cell_far (p := ⟨be, _, none⟩) bU.out _).trans (((cell_far (p := ⟨be, _, none⟩) bU.out _).trans (((cell_far (p := ⟨be, _, none⟩) bU.out _).trans (hHeld.2.2.1)))))), ((cell_far (p := ⟨be, _, none⟩) zx28_24 _).trans (((cell_far (p := ⟨be, _, none⟩) zx28_24 _).trans (((cell_far (p := ⟨be, _, none⟩) zx28_24 _).trans (hHeld.2.2.2))))))⟩ (fun hHeld => ?_)
   clear hK K
   refine pp_ 13 (some 26) HT_.out ?_
   refine done_ (done_of HT_.out (by kernel_rfl)) ?_
   try go_wp2
   have n0_ : Aside0 (Kd.R (Kd.int .u64) 24 (((w93.setCell ⟨be, 0, none⟩ (.int .u64 b1)).setCell ⟨be, 1, none⟩ (.int .u64 b3)).setCell ⟨be, 2, none⟩ (.slice b6 bY.length b5)) w.heap.size (fun _ => True) (.slice (some bl) bh.length bH) bh) := ⟨by (with_reducible repeat (first | apply Kd.R_alloc | apply Kd.R_drewN | apply Kd.R_drew)); exact Kd.R_mono (Kd.R_far (p := ⟨be, 2, none⟩) (Kd.R_far (p := ⟨be, 1, none⟩) (Kd.R_far (p := ⟨be, 0, none⟩) (Kd.R_types bm.out bA.out (by decide)) (fun _ hk => hk.2) (.int .u64 b1)) (fun _ hk => hk.2) (.int .u64 b3)) (fun _ hk => hk.2) (.slice b6 bY.length b5)) (fun _ hk => trivial)⟩
   have n1_ : Aside0 (Kd.V k37 37 (((w93.setCell ⟨be, 0, none⟩ (.int .u64 b1)).setCell ⟨be, 1, none⟩ (.int .u64 b3)).setCell ⟨be, 2, none⟩ (.slice b6 bY.length b5)) w.heap.size (fun k_ => some k_ ≠ (.slice (some bl) bh.length bH : Value).ownBlock ∧ k_ ≠ ba ∧ k_ ≠ bc ∧ k_ ≠ bd ∧ k_ ≠ be) (.slice bw bk.length bu) bk) := ⟨by (with_reducible repeat (first | apply Kd.V_alloc | apply Kd.V_drewN | apply Kd.V_drew)); exact Kd.V_mono (Kd.V_far (p := ⟨be, 2, none⟩) (Kd.V_far (p := ⟨be, 1, none⟩) (Kd.V_far (p := ⟨be, 0, none⟩) (Kd.V_mono bf.out (fun k_ hk => (⟨hk, hk.2.2.2.2⟩ : _ ∧ k_ ≠ be))) (fun _ hk => hk.2) (.int .u64 b1)) (fun _ hk => hk.2) (.int .u64 b3)) (fun _ hk => hk.2) (.slice b6 bY.length b5)) (fun _ hk => ⟨hk.1.1, ⟨hk.1.2.1, ⟨hk.1.2.2.1, ⟨hk.1.2.2.2.1, hk.1.2.2.2.2⟩⟩⟩⟩)⟩
   have n2_ : Aside0 (Kd.V k37 37 (((w93.setCell ⟨be, 0, none⟩ (.int .u64 b1)).setCell ⟨be, 1, none⟩ (.int .u64 b3)).setCell ⟨be, 2, none⟩ (.slice b6 bY.length b5)) w.heap.size (fun k_ => some k_ ≠ (.slice (some bl) bh.length bH : Value).ownBlock ∧ k_ ≠ ba ∧ k_ ≠ bc ∧ k_ ≠ bd ∧ k_ ≠ be) (.slice bL bx.length bK) bx) := ⟨by (with_reducible repeat (first | apply Kd.V_alloc | apply Kd.V_drewN | apply Kd.V_drew)); exact Kd.V_mono (Kd.V_far (p := ⟨be, 2, none⟩) (Kd.V_far (p := ⟨be, 1, none⟩) (Kd.V_far (p := ⟨be, 0, none⟩) (Kd.V_mono br.out (fun k_ hk => (⟨hk, hk.2.2.2.2⟩ : _ ∧ k_ ≠ be))) (fun _ hk => hk.2) (.int .u64 b1)) (fun _ hk => hk.2) (.int .u64 b3)) (fun _ hk => hk.2) (.slice b6 bY.length b5)) (fun _ hk => ⟨hk.1.1, ⟨hk.1.2.1, ⟨hk.1.2.2.1, ⟨hk.1.2.2.2.1, hk.1.2.2.2.2⟩⟩⟩⟩)⟩
   have n3_ : Aside0 (Kd.V k37 37 (((w93.setCell ⟨be, 0, none⟩ (.int .u64 b1)).setCell ⟨be, 1, none⟩ (.int .u64 b3)).setCell ⟨be, 2, none⟩ (.slice b6 bY.length b5)) w.heap.size (fun k_ => some k_ ≠ (.slice (some bl) bh.length bH : Value).ownBlock ∧ k_ ≠ ba ∧ k_ ≠ bc ∧ k_ ≠ bd ∧ k_ ≠ be) (.slice bZ bB.length bX) bB) := ⟨by (with_reducible repeat (first | apply Kd.V_alloc | apply Kd.V_drewN | apply Kd.V_drew)); exact Kd.V_mono (Kd.V_far (p := ⟨be, 2, none⟩) (Kd.V_far (p := ⟨be, 1, none⟩) (Kd.V_far (p := ⟨be, 0, none⟩) (Kd.V_mono bI.out (fun k_ hk => (⟨hk, hk.2.2.2.2⟩ : _ ∧ k_ ≠ be))) (fun _ hk => hk.2) (.int .u64 b1)) (fun _ hk => hk.2) (.int .u64 b3)) (fun _ hk => hk.2) (.slice b6 bY.length b5)) (fun _ hk => ⟨hk.1.1, ⟨hk.1.2.1, ⟨hk.1.2.2.1, ⟨hk.1.2.2.2.1, hk.1.2.2.2.2⟩⟩⟩⟩)⟩
   have n4_ : Aside0 (Kd.V k37 37 (((w93.setCell ⟨be, 0, none⟩ (.int .u64 b1)).setCell ⟨be, 1, none⟩ (.int .u64 b3)).setCell ⟨be, 2, none⟩ (.slice b6 bY.length b5)) w.heap.size (fun k_ => some k_ ≠ (.slice (some bl) bh.length bH : Value).ownBlock ∧ k_ ≠ ba ∧ k_ ≠ bc ∧ k_ ≠ bd ∧ k_ ≠ be) (.slice b6 bY.length b5) bY) := ⟨by (with_reducible repeat (first | apply Kd.V_alloc | apply Kd.V_drewN | apply Kd.V_drew)); exact Kd.V_mono (Kd.V_far (p := ⟨be, 2, none⟩) (Kd.V_far (p := ⟨be, 1, none⟩) (Kd.V_far (p := ⟨be, 0, none⟩) (Kd.V_mono b2.out (fun k_ hk => (⟨hk, hk.2.2.2.2⟩ : _ ∧ k_ ≠ be))) (fun _ hk => hk.2) (.int .u64 b1)) (fun _ hk => hk.2) (.int .u64 b3)) (fun _ hk => hk.2) (.slice b6 bY.length b5)) (fun _ hk => ⟨hk.1.1, ⟨hk.1.2.1, ⟨hk.1.2.2.1, ⟨hk.1.2.2.2.1, hk.1.2.2.2.2⟩⟩⟩⟩)⟩
   have n5_ : Aside0 ((((w93.setCell ⟨be, 0, none⟩ (.int .u64 b1)).setCell ⟨be, 1, none⟩ (.int .u64 b3)).setCell ⟨be, 2, none⟩ (.slice b6 bY.length b5)).heap[ba]? = some (.cells #[.int .u64 bo, .int .u64 bp, .slice bw bk.length bu] 27 (0, 0))) := ⟨by (iterate 3 ((with_reducible repeat (first | refine blk_drewN ?_ _ | refine blk_drew ?_ | refine blk_alloc ?_ _)); refine blk_far ?_ bU.out _)); (with_reducible repeat (first | refine blk_drewN ?_ _ | refine blk_drew ?_ | refine blk_alloc ?_ _)); exact bg.out⟩
   have n6_ : Aside0 ((((w93.setCell ⟨be, 0, none⟩ (.int .u64 b1)).setCell ⟨be, 1, none⟩ (.int .u64 b3)).setCell ⟨be, 2, none⟩ (.slice b6 bY.length b5)).heap[bc]? = some (.cells #[.int .u64 bJ, .int .u64 bN, .slice bL bx.length bK] 27 (0, 0))) := ⟨by (iterate 3 ((with_reducible repeat (first | refine blk_drewN ?_ _ | refine blk_drew ?_ | refine blk_alloc ?_ _)); refine blk_far ?_ dH.out _)); (with_reducible repeat (first | refine blk_drewN ?_ _ | refine blk_drew ?_ | refine blk_alloc ?_ _)); exact bn.out⟩
   have n7_ : Aside0 ((((w93.setCell ⟨be, 0, none⟩ (.int .u64 b1)).setCell ⟨be, 1, none⟩ (.int .u64 b3)).setCell ⟨be, 2, none⟩ (.slice b6 bY.length b5)).heap[bd]? = some (.cells #[.int .u64 bM, .int .u64 bP, .slice bZ bB.length bX] 27 (0, 0))) := ⟨by (iterate 3 ((with_reducible repeat (first | refine blk_drewN ?_ _ | refine blk_drew ?_ | refine blk_alloc ?_ _)); refine blk_far ?_ dt.out _)); (with_reducible repeat (first | refine blk_drewN ?_ _ | refine blk_drew ?_ | refine blk_alloc ?_ _)); exact bq.out⟩
   have n8_ : Aside0 ((((w93.setCell ⟨be, 0, none⟩ (.int .u64 b1)).setCell ⟨be, 1, none⟩ (.int .u64 b3)).setCell ⟨be, 2, none⟩ (.slice b6 bY.length b5)).heap[be]? = some (.cells #[.int .u64 b1, .int .u64 b3, .slice b6 bY.length b5] 27 (0, 0))) := ⟨by (with_reducible repeat (first | refine blk_drewN ?_ _ | refine blk_drew ?_ | refine blk_alloc ?_ _)); refine blk_put (cs := #[.int .u64 b1, .int .u64 b3, .slice none 0 0]) ?_ 2 _ rfl; (with_reducible repeat (first | refine blk_drewN ?_ _ | refine blk_drew ?_ | refine blk_alloc ?_ _)); refine blk_put (cs := #[.int .u64 b1, .int .u64 0, .slice none 0 0]) ?_ 1 _ rfl; (with_reducible repeat (first | refine blk_drewN ?_ _ | refine blk_drew ?_ | refine blk_alloc ?_ _)); refine blk_put (cs := #[.int .u64 0, .int .u64 0, .slice none 0 0]) ?_ 0 _ rfl; (with_reducible repeat (first | refine blk_drewN ?_ _ | refine blk_drew ?_ | refine blk_alloc ?_ _)); exact bA.out⟩
   have n9_ : Aside0 (Below w.heap.size w (((w93.setCell ⟨be, 0, none⟩ (.int .u64 b1)).setCell ⟨be, 1, none⟩ (.int .u64 b3)).setCell ⟨be, 2, none⟩ (.slice b6 bY.length b5))) := ⟨by repeat (first | (with_reducible first | exact HB.out | apply below_alloc | apply pw_below_drewN | apply below_drew1 | refine below_set ?_ dI.out | refine below_set ?_ dV.out | refine below_set ?_ d1.out | refine below_set ?_ d4.out) | exact HB.out)⟩
   (try clear bm)
   (try clear bf)
   (try clear br)
   (try clear bI)
   (try clear b2)
   (try clear bg)
   (try clear bn)
   (try clear bq)
   (try clear bA)
   (try clear HB)
   generalize (((w93.setCell ⟨be, 0, none⟩ (.int .u64 b1)).setCell ⟨be, 1, none⟩ (.int .u64 b3)).setCell ⟨be, 2, none⟩ (.slice b6 bY.length b5)) = w98 at n0_ n1_ n2_ n3_ n4_ n5_ n6_ n7_ n8_ n9_ ⊢
   have bm := n0_
   have bf := n1_
   have br := n2_
   have bI := n3_
   have b2 := n4_
   have bg := n5_
   have bn := n6_
   have bq := n7_
   have bA := n8_
   have HB := n9_
   clear n0_ n1_ n2_ n3_ n4_ n5_ n6_ n7_ n8_ n9_
   replace bm := Aside0.mk (Kd.R_drew bm.out)
   replace bf := Aside0.mk (Kd.V_drew bf.out)
   replace br := Aside0.mk (Kd.V_drew br.out)
   replace bI := Aside0.mk (Kd.V_drew bI.out)
   replace b2 := Aside0.mk (Kd.V_drew b2.out)
   replace bg := Aside0.mk (blk_drew bg.out)
   replace bn := Aside0.mk (blk_drew bn.out)
   replace bq := Aside0.mk (blk_drew bq.out)
   replace bA := Aside0.mk (blk_drew bA.out)
   replace HB := Aside0.mk (below_drew1 HB.out)
   have ji : 0 ≤ (bE : Int) := of_decide_eq_true zx28_33
   have je : bE < (bh.length : Int) := of_decide_eq_true zx28_33
   obtain ⟨mK, qr, gw⟩ := Kd.at_int (Kd.R_reads' bm.out).2.2 bE ji je
   obtain rfl : bl = mK := (by injection qr)
   replace ji := eq_true ji
   replace je := eq_true je
   refine start_ (n := 14) (S := fun w' => w'.cell? ⟨be, 0, none⟩ = some (.int .u64 b1) ∧ w'.cell? ⟨be, 1, none⟩ = some (.int .u64 b3) ∧ w'.cell? ⟨be, 2, none⟩ = some (.slice b6 bY.length b5) ∧ w'.cell? (bl.add (bE).toNat) = some (.int .u64 (rd bh bE))) (ds := []) #[Ff,Ff,Ff,Ff,Ff,Ff,Ff,Ff,Ff,Ff,Ff,Ff,Ff,Ff] (by kernel_rfl) rfl rfl ⟨(blk_cell bA.out 0).trans rfl, (blk_cell bA.out 1).trans rfl, (blk_cell bA.out 2).trans rfl, gw⟩ (fun hHeld => ?_); refine with_tabW postroomlaw10_LedgerOrder.tab21 postroomlaw10_LedgerOrder.bits21 (fun HT_ HW_ => ?_)
   generalize w98.drew = w99 at bm bf br bI b2 bg bn bq bA HB gw hHeld ⊢
   refine pp_ 1 (some 100) HT_.out ?_
   refine pp_ 2 (some 101) HT_.out ?_
   refine pp_ 3 (some 102) HT_.out ?_
   refine pp_ 4 (some 103) HT_.out ?_
   refine pp_ 6 (some 105) HT_.out ?_
   refine take_ (i := 0) (N := some 99) (v := ?_) (a' := ?_) #[Tt,Tt,Tt,Tt,Tt,Ff,Tt,Ff,Ff,Ff,Ff,Ff,Ff,Ff] rfl rfl (take_ofW HT_.out HW_.out (by kernel_rfl)) (fun _ _ _ h => h) (Or.inl ⟨by rfl, ?_⟩) hHeld ?_ ?_
   rotate_left
   ·rintro w' ⟨s0, s1, s2, s3⟩
    go_simp
    with_reducible rfl
   rotate_left
   ·simp only [Act.put, List.setIfInBounds_toArray, List.set_cons_zero, List.set_cons_succ, i64_w, i32_w]
    rfl
   refine take_ (i := 5) (N := some 104) (v := ?_) (a' := ?_) #[Tt,Tt,Tt,Tt,Tt,Tt,Tt,Ff,Ff,Ff,Ff,Ff,Ff,Ff] rfl rfl (take_ofW HT_.out HW_.out (by kernel_rfl)) (fun _ _ _ h => h) (Or.inl ⟨by rfl, ?_⟩) hHeld ?_ ?_
   rotate_left
   ·rintro w' ⟨s0, s1, s2, s3⟩
    go_simp
    with_reducible rfl
   rotate_left
   ·simp only [Act.put, List.setIfInBounds_toArray, List.set_cons_zero, List.set_cons_succ, i64_w, i32_w]
    rfl
   refine join_ (σ := Value × Nat) 2 #[Tt,Tt,Tt,Tt,Tt,Tt,Tt,Tt,Tt,Tt,Tt,Tt,Ff,Ff] (fun s_ => [(106, .tuple #[.agg #[.int .u64 dg, .int .u64 di, s_.1], .int .i64 gc]), (27, .pointer (some ⟨s_.2, 0, none⟩)), (98, .tuple #[.agg #[.int .u64 dg, .int .u64 di, s_.1], .int .i64 gc]), (107, .agg #[.int .u64 dg, .int .u64 di, s_.1]), (108, .int .i64 gc)]) (fun s_ w' => (w'.cell? ⟨be, 0, none⟩ = some (.int .u64 b1) ∧ w'.cell? ⟨be, 1, none⟩ = some (.int .u64 b3) ∧ w'.cell? ⟨be, 2, none⟩ = some (.slice b6 bY.length b5) ∧ w'.cell? (bl.add (bE).toNat) = some (.int .u64 (rd bh bE))) ∧ (Kd.V k37 37 w' w.heap.size (fun k_ => some k_ ≠ (.slice (some bl) bh.length bH : Value).ownBlock ∧ k_ ≠ ba ∧ k_ ≠ bc ∧ k_ ≠ bd ∧ k_ ≠ be ∧ k_ ≠ s_.2) (.slice bL bx.length bK) bx) ∧ (Kd.V k37 37 w' w.heap.size (fun k_ => some k_ ≠ (.slice (some bl) bh.length bH : Value).ownBlock ∧ k_ ≠ ba ∧ k_ ≠ bc ∧ k_ ≠ bd ∧ k_ ≠ be ∧ k_ ≠ s_.2) (.slice bZ bB.length bX) bB) ∧ (Kd.V k37 37 w' w.heap.size (fun k_ => some k_ ≠ (.slice (some bl) bh.length bH : Value).ownBlock ∧ k_ ≠ ba ∧ k_ ≠ bc ∧ k_ ≠ bd ∧ k_ ≠ be ∧ k_ ≠ s_.2) (.slice b6 bY.length b5) bY) ∧ (Kd.V k37 37 w' w.heap.size (fun k_ => some k_ ≠ (.slice (some bl) bh.length bH : Value).ownBlock ∧ k_ ≠ ba ∧ k_ ≠ bc ∧ k_ ≠ bd ∧ k_ ≠ be ∧ k_ ≠ s_.2) s_.1 df) ∧ (Kd.R (Kd.int .u64) 24 w' w.heap.size (fun _ => True) (.slice (some bl) bh.length bH) bh) ∧ (Kd.V k37 37 w' w.heap.size (fun k_ => some k_ ≠ (.slice (some bl) bh.length bH : Value).ownBlock ∧ k_ ≠ ba ∧ k_ ≠ bc ∧ k_ ≠ bd ∧ k_ ≠ be ∧ k_ ≠ s_.2) (.slice bw bk.length bu) bk) ∧ (w'.heap[ba]? = some (.cells #[.int .u64 bo, .int .u64 bp, .slice bw bk.length bu] 27 (0, 0))) ∧ (w'.heap[bc]? = some (.cells #[.int .u64 bJ, .int .u64 bN, .slice bL bx.length bK] 27 (0, 0))) ∧ (w'.heap[bd]? = some (.cells #[.int .u64 bM, .int .u64 bP, .slice bZ bB.length bX] 27 (0, 0))) ∧ (w'.heap[be]? = some (.cells #[.int .u64 b1, .int .u64 b3, .slice b6 bY.length b5] 27 (0, 0))) ∧ (w'.heap[s_.2]? = some (.cells #[.int .u64 0, .int .u64 0, .slice none 0 0] 27 (0, 0))) ∧ (w.heap.size ≤ s_.2) ∧ (w.heap.size ≤ s_.2) ∧ (ba ≠ s_.2) ∧ (s_.2 ≠ ba) ∧ (bc ≠ s_.2) ∧ (s_.2 ≠ bc) ∧ (bd ≠ s_.2) ∧ (s_.2 ≠ bd) ∧ (be ≠ s_.2) ∧ (s_.2 ≠ be) ∧ (Below w.heap.size w w')) ?_ ?_
   rotate_left
   ·intro hCont
    refine two_ (i := 7) (j := 11) (Ni := some 106) (Nj := some 27) #[Tt,Tt,Tt,Tt,Tt,Tt,Tt,Tt,Ff,Ff,Ff,Ff,Ff,Ff] #[Tt,Tt,Tt,Tt,Tt,Tt,Tt,Ff,Ff,Ff,Ff,Tt,Ff,Ff] rfl rfl rfl rfl (two_of HT_.out (by kernel_rfl)) (by decide) (by decide) (fun K hK => ?_) (fun K hK => ?_)
    ·skip
     refine goes_ Tryd.func20 (by kernel_rfl) rfl #[.agg #[.int .u64 b1, .int .u64 b3, .slice b6 bY.length b5], .string bG, .int .u64 (rd bh bE), .int .u8 dm] (by rfl) rfl rfl zx28_3 ?_
     with_reducible refine (ledger_Done.calls b9 b1 b3 (fun k_ => (some k_ ≠ (.slice (some bl) bh.length bH : Value).ownBlock ∧ (k_ ≠ ba ∧ (k_ ≠ bc ∧ (k_ ≠ bd ∧ k_ ≠ be))))) _ _ bY bG (rd bh bE) dm dg di df gc _ ?side1 A56.out).mono ?_
     (case side1 => exact b2.out)
     rintro e oH ⟨hH, rfl, ho0, hb⟩
     have dz := (hb.cell (World.block_lt_of_cell? _ _ (hHeld.2.2.2))).trans (hHeld.2.2.2)
     refine ⟨_, rfl, ?_⟩
     replace bf := Aside0.mk (Kd.V_below zx28_12 hb)
     replace br := Aside0.mk (Kd.V_below zx28_13 hb)
     replace bI := Aside0.mk (Kd.V_below zx28_17 hb)
     replace b2 := Aside0.mk (Kd.V_below zx28_18 hb)
     have dk := Aside0.mk (Kd.V_lower (Kd.V_mono (ok' := fun k_ => some k_ ≠ (.slice (some bl) bh.length bH : Value).ownBlock ∧ k_ ≠ ba ∧ k_ ≠ bc ∧ k_ ≠ bd ∧ k_ ≠ be) ho0 (fun k_ hk_ => ⟨Or.elim hk_ (fun hs_ => hs_.1) (fun hn_ => (Kd.fresh' (Kd.R_lt zx28_4) k_ hn_)), Or.elim hk_ (fun hs_ => hs_.2.1) (fun hn_ => (Kd.freshB (g := ba) (o := .cells #[.int .u64 bo, .int .u64 bp, .slice bw bk.length bu] 27 (0, 0)) zx28_0 k_ hn_)), Or.elim hk_ (fun hs_ => hs_.2.2.1) (fun hn_ => (Kd.freshB (g := bc) (o := .cells #[.int .u64 bJ, .int .u64 bN, .slice bL bx.length bK] 27 (0, 0)) zx28_1 k_ hn_)), Or.elim hk_ (fun hs_ => hs_.2.2.2.1) (fun hn_ => (Kd.freshB (g := bd) (o := .cells #[.int .u64 bM, .int .u64 bP, .slice bZ bB.length bX] 27 (0, 0)) zx28_2 k_ hn_)), Or.elim hk_ (fun hs_ => hs_.2.2.2.2) (fun hn_ => (Kd.freshB (g := be) (o := .cells #[.int .u64 b1, .int .u64 b3, .slice b6 bY.length b5] 27 (0, 0)) zx28_6 k_ hn_))⟩)) (below_size zx28_5))
     replace bm := Aside0.mk (Kd.R_below zx28_4 hb)
     replace bg := Aside0.mk (blk_below (g := ba) (o := .cells #[.int .u64 bo, .int .u64 bp, .slice bw bk.length bu] 27 (0, 0)) zx28_0 hb)
     replace bn := Aside0.mk (blk_below (g := bc) (o := .cells #[.int .u64 bJ, .int .u64 bN, .slice bL bx.length bK] 27 (0, 0)) zx28_1 hb)
     replace bq := Aside0.mk (blk_below (g := bd) (o := .cells #[.int .u64 bM, .int .u64 bP, .slice bZ bB.length bX] 27 (0, 0)) zx28_2 hb)
     replace bA := Aside0.mk (blk_below (g := be) (o := .cells #[.int .u64 b1, .int .u64 b3, .slice b6 bY.length b5] 27 (0, 0)) zx28_6 hb)
     replace HB := Aside0.mk (below_step zx28_5 hb)
     (try clear hb)
     (try clear hb2)
     (try clear hk)
     (try clear hi)
     (try clear ho0)
     refine hK.out _ _ ⟨(blk_cell bA.out 0).trans rfl, (blk_cell bA.out 1).trans rfl, (blk_cell bA.out 2).trans rfl, dz⟩ (fun hHeld => ?_)
     clear hK K
     refine norm_ (a' := ?_) ?_ ?_
     rotate_left
     ·show Act.put _ (some 106) _ = _
      simp only [Act.put, List.setIfInBounds_toArray, List.set_cons_zero, List.set_cons_succ, i64_w, i32_w]
      rfl
     refine pp_ 8 (some 98) HT_.out ?_
     refine pp_ 9 (some 107) HT_.out ?_
     refine pp_ 10 (some 108) HT_.out ?_
     refine one_ (i := 11) (N := some 27) #[Tt,Tt,Tt,Tt,Tt,Tt,Tt,Tt,Tt,Tt,Tt,Tt,Ff,Ff] rfl rfl (one_of HT_.out (by kernel_rfl)) (by decide) (fun K hK => ?_)
     refine box_step ?hg (N := 27) ?hd (cs := #[.int .u64 0, .int .u64 0, .slice none 0 0]) (t := 27) ?hr ?_; (case hd => rfl); (case hg => rfl); (case hr => first | (go_simp; done) | (go_simp; rfl))
     intro bi hg oG hbox hb
     have dz := (hb.cell (World.block_lt_of_cell? _ _ (hHeld.2.2.2))).trans (hHeld.2.2.2)
     replace bm := Aside0.mk (Kd.R_below zx28_4 hb)
     replace bf := Aside0.mk (Kd.V_below (Kd.V_elderB zx28_12 bi (Nat.le_of_eq hg.symm)) hb)
     replace br := Aside0.mk (Kd.V_below (Kd.V_elderB zx28_13 bi (Nat.le_of_eq hg.symm)) hb)
     replace bI := Aside0.mk (Kd.V_below (Kd.V_elderB zx28_17 bi (Nat.le_of_eq hg.symm)) hb)
     replace b2 := Aside0.mk (Kd.V_below (Kd.V_elderB zx28_18 bi (Nat.le_of_eq hg.symm)) hb)
     replace dk := Aside0.mk (Kd.V_below (Kd.V_elderB zx28_30 bi (Nat.le_of_eq hg.symm)) hb)
     have bO := Aside0.mk (hbox)
     have hq := Aside0.mk ((by rw [hg]; exact (below_size zx28_5) : w.heap.size ≤ bi))
     have d9 := Aside0.mk ((by rw [hg]; exact (below_size zx28_5) : w.heap.size ≤ bi))
     replace HB := Aside0.mk (below_step zx28_5 hb)
     have dv := Aside0.mk ((by rw [hg]; exact Nat.ne_of_lt (blk_lt (g := ba) (o := .cells #[.int .u64 bo, .int .u64 bp, .slice bw bk.length bu] 27 (0, 0)) zx28_0) : ba ≠ bi))
     have dD := Aside0.mk ((by rw [hg]; exact Nat.ne_of_gt (blk_lt (g := ba) (o := .cells #[.int .u64 bo, .int .u64 bp, .slice bw bk.length bu] 27 (0, 0)) zx28_0) : bi ≠ ba))
     replace bg := Aside0.mk (blk_below (g := ba) (o := .cells #[.int .u64 bo, .int .u64 bp, .slice bw bk.length bu] 27 (0, 0)) zx28_0 hb)
     have du := Aside0.mk ((by rw [hg]; exact Nat.ne_of_lt (blk_lt (g := bc) (o := .cells #[.int .u64 bJ, .int .u64 bN, .slice bL bx.length bK] 27 (0, 0)) zx28_1) : bc ≠ bi))
     have dC := Aside0.mk ((by rw [hg]; exact Nat.ne_of_gt (blk_lt (g := bc) (o := .cells #[.int .u64 bJ, .int .u64 bN, .slice bL bx.length bK] 27 (0, 0)) zx28_1) : bi ≠ bc))
     replace bn := Aside0.mk (blk_below (g := bc) (o := .cells #[.int .u64 bJ, .int .u64 bN, .slice bL bx.length bK] 27 (0, 0)) zx28_1 hb)
     have dr := Aside0.mk ((by rw [hg]; exact Nat.ne_of_lt (blk_lt (g := bd) (o := .cells #[.int .u64 bM, .int .u64 bP, .slice bZ bB.length bX] 27 (0, 0)) zx28_2) : bd ≠ bi))
     have dB := Aside0.mk ((by rw [hg]; exact Nat.ne_of_gt (blk_lt (g := bd) (o := .cells #[.int .u64 bM, .int .u64 bP, .slice bZ bB.length bX] 27 (0, 0)) zx28_2) : bi ≠ bd))
     replace bq := Aside0.mk (blk_below (g := bd) (o := .cells #[.int .u64 bM, .int .u64 bP, .slice bZ bB.length bX] 27 (0, 0)) zx28_2 hb)
     have bQ := Aside0.mk ((by rw [hg]; exact Nat.ne_of_lt (blk_lt (g := be) (o := .cells #[.int .u64 b1, .int .u64 b3, .slice b6 bY.length b5] 27 (0, 0)) zx28_6) : be ≠ bi))
     have dA := Aside0.mk ((by rw [hg]; exact Nat.ne_of_gt (blk_lt (g := be) (o := .cells #[.int .u64 b1, .int .u64 b3, .slice b6 bY.length b5] 27 (0, 0)) zx28_6) : bi ≠ be))
     replace bA := Aside0.mk (blk_below (g := be) (o := .cells #[.int .u64 b1, .int .u64 b3, .slice b6 bY.length b5] 27 (0, 0)) zx28_6 hb)
     clear hb hbox hg
     refine hK.out _ _ ⟨(blk_cell bA.out 0).trans rfl, (blk_cell bA.out 1).trans rfl, (blk_cell bA.out 2).trans rfl, dz⟩ (fun hHeld => ?_)
     clear hK K
     refine norm_ (a' := ?_) ?_ ?_
     rotate_left
     ·show Act.put _ (some 27) _ = _
      simp only [Act.put, List.setIfInBounds_toArray, List.set_cons_zero, List.set_cons_succ, i64_w, i32_w]
      rfl
     exact norm_ zx28_26 (hCont (hH, bi) _ ⟨hHeld, (by (with_reducible repeat (first | apply Kd.V_alloc | apply Kd.V_drewN | apply Kd.V_drew)); exact Kd.V_mono br.out (fun _ hk => ⟨hk.1.1, ⟨hk.1.2.1, ⟨hk.1.2.2.1, ⟨hk.1.2.2.2.1, ⟨hk.1.2.2.2.2, hk.2⟩⟩⟩⟩⟩)), (by (with_reducible repeat (first | apply Kd.V_alloc | apply Kd.V_drewN | apply Kd.V_drew)); exact Kd.V_mono bI.out (fun _ hk => ⟨hk.1.1, ⟨hk.1.2.1, ⟨hk.1.2.2.1, ⟨hk.1.2.2.2.1, ⟨hk.1.2.2.2.2, hk.2⟩⟩⟩⟩⟩)), (by (with_reducible repeat (first | apply Kd.V_alloc | apply Kd.V_drewN | apply Kd.V_drew)); exact Kd.V_mono b2.out (fun _ hk => ⟨hk.1.1, ⟨hk.1.2.1, ⟨hk.1.2.2.1, ⟨hk.1.2.2.2.1, ⟨hk.1.2.2.2.2, hk.2⟩⟩⟩⟩⟩)), (by (with_reducible repeat (first | apply Kd.V_alloc | apply Kd.V_drewN | apply Kd.V_drew)); exact Kd.V_mono dk.out (fun _ hk => ⟨hk.1.1, ⟨hk.1.2.1, ⟨hk.1.2.2.1, ⟨hk.1.2.2.2.1, ⟨hk.1.2.2.2.2, hk.2⟩⟩⟩⟩⟩)), zx28_4, (by (with_reducible repeat (first | apply Kd.V_alloc | apply Kd.V_drewN | apply Kd.V_drew)); exact Kd.V_mono bf.out (fun _ hk => ⟨hk.1.1, ⟨hk.1.2.1, ⟨hk.1.2.2.1, ⟨hk.1.2.2.2.1, ⟨hk.1.2.2.2.2, hk.2⟩⟩⟩⟩⟩)), zx28_0, zx28_1, zx28_2, zx28_6, zx28_16, hq.out, d9.out, dv.out, dD.out, du.out, dC.out, dr.out, dB.out, bQ.out, dA.out, zx28_10⟩)
    skip
    refine box_step ?hg (N := 27) ?hd (cs := #[.int .u64 0, .int .u64 0, .slice none 0 0]) (t := 27) ?hr ?_; (case hd => rfl); (case hg => rfl); (case hr => first | (go_simp; done) | (go_simp; rfl))
    intro bi hg oH hbox hb
    have dz := (hb.cell (World.block_lt_of_cell? _ _ (hHeld.2.2.2))).trans (hHeld.2.2.2)
    replace bm := Aside0.mk (Kd.R_below zx28_4 hb)
    replace bf := Aside0.mk (Kd.V_below (Kd.V_elderB zx28_12 bi (Nat.le_of_eq hg.symm)) hb)
    replace br := Aside0.mk (Kd.V_below (Kd.V_elderB zx28_13 bi (Nat.le_of_eq hg.symm)) hb)
    replace bI := Aside0.mk (Kd.V_below (Kd.V_elderB zx28_17 bi (Nat.le_of_eq hg.symm)) hb)
    replace b2 := Aside0.mk (Kd.V_below (Kd.V_elderB zx28_18 bi (Nat.le_of_eq hg.symm)) hb)
    have bO := Aside0.mk (hbox)
    have hq := Aside0.mk ((by rw [hg]; exact (below_size zx28_5) : w.heap.size ≤ bi))
    have d9 := Aside0.mk ((by rw [hg]; exact (below_size zx28_5) : w.heap.size ≤ bi))
    replace HB := Aside0.mk (below_step zx28_5 hb)
    have dv := Aside0.mk ((by rw [hg]; exact Nat.ne_of_lt (blk_lt (g := ba) (o := .cells #[.int .u64 bo, .int .u64 bp, .slice bw bk.length bu] 27 (0, 0)) zx28_0) : ba ≠ bi))
    have dD := Aside0.mk ((by rw [hg]; exact Nat.ne_of_gt (blk_lt (g := ba) (o := .cells #[.int .u64 bo, .int .u64 bp, .slice bw bk.length bu] 27 (0, 0)) zx28_0) : bi ≠ ba))
    replace bg := Aside0.mk (blk_below (g := ba) (o := .cells #[.int .u64 bo, .int .u64 bp, .slice bw bk.length bu] 27 (0, 0)) zx28_0 hb)
    have du := Aside0.mk ((by rw [hg]; exact Nat.ne_of_lt (blk_lt (g := bc) (o := .cells #[.int .u64 bJ, .int .u64 bN, .slice bL bx.length bK] 27 (0, 0)) zx28_1) : bc ≠ bi))
    have dC := Aside0.mk ((by rw [hg]; exact Nat.ne_of_gt (blk_lt (g := bc) (o := .cells #[.int .u64 bJ, .int .u64 bN, .slice bL bx.length bK] 27 (0, 0)) zx28_1) : bi ≠ bc))
    replace bn := Aside0.mk (blk_below (g := bc) (o := .cells #[.int .u64 bJ, .int .u64 bN, .slice bL bx.length bK] 27 (0, 0)) zx28_1 hb)
    have dr := Aside0.mk ((by rw [hg]; exact Nat.ne_of_lt (blk_lt (g := bd) (o := .cells #[.int .u64 bM, .int .u64 bP, .slice bZ bB.length bX] 27 (0, 0)) zx28_2) : bd ≠ bi))
    have dB := Aside0.mk ((by rw [hg]; exact Nat.ne_of_gt (blk_lt (g := bd) (o := .cells #[.int .u64 bM, .int .u64 bP, .slice bZ bB.length bX] 27 (0, 0)) zx28_2) : bi ≠ bd))
    replace bq := Aside0.mk (blk_below (g := bd) (o := .cells #[.int .u64 bM, .int .u64 bP, .slice bZ bB.length bX] 27 (0, 0)) zx28_2 hb)
    have bQ := Aside0.mk ((by rw [hg]; exact Nat.ne_of_lt (blk_lt (g := be) (o := .cells #[.int .u64 b1, .int .u64 b3, .slice b6 bY.length b5] 27 (0, 0)) zx28_6) : be ≠ bi))
    have dA := Aside0.mk ((by rw [hg]; exact Nat.ne_of_gt (blk_lt (g := be) (o := .cells #[.int .u64 b1, .int .u64 b3, .slice b6 bY.length b5] 27 (0, 0)) zx28_6) : bi ≠ be))
    replace bA := Aside0.mk (blk_below (g := be) (o := .cells #[.int .u64 b1, .int .u64 b3, .slice b6 bY.length b5] 27 (0, 0)) zx28_6 hb)
    clear hb hbox hg
    refine hK.out _ _ ⟨(blk_cell bA.out 0).trans rfl, (blk_cell bA.out 1).trans rfl, (blk_cell bA.out 2).trans rfl, dz⟩ (fun hHeld => ?_)
    clear hK K
    refine norm_ (a' := ?_) ?_ ?_
    rotate_left
    ·show Act.put _ (some 27) _ = _
     simp only [Act.put, List.setIfInBounds_toArray, List.set_cons_zero, List.set_cons_succ, i64_w, i32_w]
     rfl
    refine one_ (i := 7) (N := some 106) #[Tt,Tt,Tt,Tt,Tt,Tt,Tt,Tt,Ff,Ff,Ff,Tt,Ff,Ff] rfl rfl (one_of HT_.out (by kernel_rfl)) (by decide) (fun K hK => ?_)
    refine goes_ Tryd.func20 (by kernel_rfl) rfl #[.agg #[.int .u64 b1, .int .u64 b3, .slice b6 bY.length b5], .string bG, .int .u64 (rd bh bE), .int .u8 dm] (by rfl) rfl rfl zx28_3 ?_
    with_reducible refine (ledger_Done.calls b9 b1 b3 (fun k_ => ((some k_ ≠ (.slice (some bl) bh.length bH : Value).ownBlock ∧ (k_ ≠ ba ∧ (k_ ≠ bc ∧ (k_ ≠ bd ∧ k_ ≠ be)))) ∧ k_ ≠ bi)) _ _ bY bG (rd bh bE) dm dg di df gc _ ?side1 A56.out).mono ?_
    (case side1 => exact b2.out)
    rintro e oG ⟨hH, rfl, ho0, hb⟩
    have dz := (hb.cell (World.block_lt_of_cell? _ _ (hHeld.2.2.2))).trans (hHeld.2.2.2)
    refine ⟨_, rfl, ?_⟩
    replace bf := Aside0.mk (Kd.V_below zx28_12 hb)
    replace br := Aside0.mk (Kd.V_below zx28_13 hb)
    replace bI := Aside0.mk (Kd.V_below zx28_17 hb)
    replace b2 := Aside0.mk (Kd.V_below zx28_18 hb)
    have dk := Aside0.mk (Kd.V_lower (Kd.V_mono (ok' := fun k_ => some k_ ≠ (.slice (some bl) bh.length bH : Value).ownBlock ∧ k_ ≠ ba ∧ k_ ≠ bc ∧ k_ ≠ bd ∧ k_ ≠ be ∧ k_ ≠ bi) ho0 (fun k_ hk_ => ⟨Or.elim hk_ (fun hs_ => hs_.1.1) (fun hn_ => (Kd.fresh' (Kd.R_lt zx28_4) k_ hn_)), Or.elim hk_ (fun hs_ => hs_.1.2.1) (fun hn_ => (Kd.freshB (g := ba) (o := .cells #[.int .u64 bo, .int .u64 bp, .slice bw bk.length bu] 27 (0, 0)) zx28_0 k_ hn_)), Or.elim hk_ (fun hs_ => hs_.1.2.2.1) (fun hn_ => (Kd.freshB (g := bc) (o := .cells #[.int .u64 bJ, .int .u64 bN, .slice bL bx.length bK] 27 (0, 0)) zx28_1 k_ hn_)), Or.elim hk_ (fun hs_ => hs_.1.2.2.2.1) (fun hn_ => (Kd.freshB (g := bd) (o := .cells #[.int .u64 bM, .int .u64 bP, .slice bZ bB.length bX] 27 (0, 0)) zx28_2 k_ hn_)), Or.elim hk_ (fun hs_ => hs_.1.2.2.2.2) (fun hn_ => (Kd.freshB (g := be) (o := .cells #[.int .u64 b1, .int .u64 b3, .slice b6 bY.length b5] 27 (0, 0)) zx28_6 k_ hn_)), Or.elim hk_ (fun hs_ => hs_.2) (fun hn_ => (Kd.freshB (g := bi) (o := .cells #[.int .u64 0, .int .u64 0, .slice none 0 0] 27 (0, 0)) zx28_16 k_ hn_))⟩)) (below_size zx28_10))
    replace bm := Aside0.mk (Kd.R_below zx28_4 hb)
    replace bg := Aside0.mk (blk_below (g := ba) (o := .cells #[.int .u64 bo, .int .u64 bp, .slice bw bk.length bu] 27 (0, 0)) zx28_0 hb)
    replace bn := Aside0.mk (blk_below (g := bc) (o := .cells #[.int .u64 bJ, .int .u64 bN, .slice bL bx.length bK] 27 (0, 0)) zx28_1 hb)
    replace bq := Aside0.mk (blk_below (g := bd) (o := .cells #[.int .u64 bM, .int .u64 bP, .slice bZ bB.length bX] 27 (0, 0)) zx28_2 hb)
    replace bA := Aside0.mk (blk_below (g := be) (o := .cells #[.int .u64 b1, .int .u64 b3, .slice b6 bY.length b5] 27 (0, 0)) zx28_6 hb)
    replace bO := Aside0.mk (blk_below (g := bi) (o := .cells #[.int .u64 0, .int .u64 0, .slice none 0 0] 27 (0, 0)) zx28_16 hb)
    replace HB := Aside0.mk (below_step zx28_10 hb)
    (try clear hb)
    (try clear hb2)
    (try clear hk)
    (try clear hi)
    (try clear ho0)
    refine hK.out _ _ ⟨(blk_cell bA.out 0).trans rfl, (blk_cell bA.out 1).trans rfl, (blk_cell bA.out 2).trans rfl, dz⟩ (fun hHeld => ?_)
    clear hK K
    refine norm_ (a' := ?_) ?_ ?_
    rotate_left
    ·show Act.put _ (some 106) _ = _
     simp only [Act.put, List.setIfInBounds_toArray, List.set_cons_zero, List.set_cons_succ, i64_w, i32_w]
     rfl
    refine pp_ 8 (some 98) HT_.out ?_
    refine pp_ 9 (some 107) HT_.out ?_
    refine pp_ 10 (some 108) HT_.out ?_
    exact norm_ zx28_26 (hCont (hH, bi) _ ⟨hHeld, (by (with_reducible repeat (first | apply Kd.V_alloc | apply Kd.V_drewN | apply Kd.V_drew)); exact Kd.V_mono br.out (fun _ hk => ⟨hk.1.1, ⟨hk.1.2.1, ⟨hk.1.2.2.1, ⟨hk.1.2.2.2.1, ⟨hk.1.2.2.2.2, hk.2⟩⟩⟩⟩⟩)), (by (with_reducible repeat (first | apply Kd.V_alloc | apply Kd.V_drewN | apply Kd.V_drew)); exact Kd.V_mono bI.out (fun _ hk => ⟨hk.1.1, ⟨hk.1.2.1, ⟨hk.1.2.2.1, ⟨hk.1.2.2.2.1, ⟨hk.1.2.2.2.2, hk.2⟩⟩⟩⟩⟩)), (by (with_reducible repeat (first | apply Kd.V_alloc | apply Kd.V_drewN | apply Kd.V_drew)); exact Kd.V_mono b2.out (fun _ hk => ⟨hk.1.1, ⟨hk.1.2.1, ⟨hk.1.2.2.1, ⟨hk.1.2.2.2.1, ⟨hk.1.2.2.2.2, hk.2⟩⟩⟩⟩⟩)), zx28_30, zx28_4, (by (with_reducible repeat (first | apply Kd.V_alloc | apply Kd.V_drewN | apply Kd.V_drew)); exact Kd.V_mono bf.out (fun _ hk => ⟨hk.1.1, ⟨hk.1.2.1, ⟨hk.1.2.2.1, ⟨hk.1.2.2.2.1, ⟨hk.1.2.2.2.2, hk.2⟩⟩⟩⟩⟩)), zx28_0, zx28_1, zx28_2, zx28_6, zx28_16, hq.out, d9.out, dv.out, dD.out, du.out, dC.out, dr.out, dB.out, bQ.out, dA.out, zx28_10⟩)
   rintro ⟨hH, bi⟩ d2 ⟨hS_, h0_, h1_, h2_, h3_, h4_, h5_, h6_, h7_, h8_, h9_, gv, gu, gt, gs, hP, hO, hN, hM, mE, mD, mC, mB⟩
   have n0_ : Aside0 (Kd.V k37 37 d2 w.heap.size (fun k_ => some k_ ≠ (.slice (some bl) bh.length bH : Value).ownBlock ∧ k_ ≠ ba ∧ k_ ≠ bc ∧ k_ ≠ bd ∧ k_ ≠ be ∧ k_ ≠ bi) (.slice bL bx.length bK) bx) := ⟨h0_⟩
   have n1_ : Aside0 (Kd.V k37 37 d2 w.heap.size (fun k_ => some k_ ≠ (.slice (some bl) bh.length bH : Value).ownBlock ∧ k_ ≠ ba ∧ k_ ≠ bc ∧ k_ ≠ bd ∧ k_ ≠ be ∧ k_ ≠ bi) (.slice bZ bB.length bX) bB) := ⟨h1_⟩
   have n2_ : Aside0 (Kd.V k37 37 d2 w.heap.size (fun k_ => some k_ ≠ (.slice (some bl) bh.length bH : Value).ownBlock ∧ k_ ≠ ba ∧ k_ ≠ bc ∧ k_ ≠ bd ∧ k_ ≠ be ∧ k_ ≠ bi) (.slice b6 bY.length b5) bY) := ⟨h2_⟩
   have n3_ : Aside0 (Kd.V k37 37 d2 w.heap.size (fun k_ => some k_ ≠ (.slice (some bl) bh.length bH : Value).ownBlock ∧ k_ ≠ ba ∧ k_ ≠ bc ∧ k_ ≠ bd ∧ k_ ≠ be ∧ k_ ≠ bi) hH df) := ⟨h3_⟩
   have n4_ : Aside0 (Kd.R (Kd.int .u64) 24 d2 w.heap.size (fun _ => True) (.slice (some bl) bh.length bH) bh) := ⟨h4_⟩
   have n5_ : Aside0 (Kd.V k37 37 d2 w.heap.size (fun k_ => some k_ ≠ (.slice (some bl) bh.length bH : Value).ownBlock ∧ k_ ≠ ba ∧ k_ ≠ bc ∧ k_ ≠ bd ∧ k_ ≠ be ∧ k_ ≠ bi) (.slice bw bk.length bu) bk) := ⟨h5_⟩
   have n6_ : Aside0 (d2.heap[ba]? = some (.cells #[.int .u64 bo, .int .u64 bp, .slice bw bk.length bu] 27 (0, 0))) := ⟨h6_⟩
   have n7_ : Aside0 (d2.heap[bc]? = some (.cells #[.int .u64 bJ, .int .u64 bN, .slice bL bx.length bK] 27 (0, 0))) := ⟨h7_⟩
   have n8_ : Aside0 (d2.heap[bd]? = some (.cells #[.int .u64 bM, .int .u64 bP, .slice bZ bB.length bX] 27 (0, 0))) := ⟨h8_⟩
   have n9_ : Aside0 (d2.heap[be]? = some (.cells #[.int .u64 b1, .int .u64 b3, .slice b6 bY.length b5] 27 (0, 0))) := ⟨h9_⟩
   have n10_ : Aside0 (d2.heap[bi]? = some (.cells #[.int .u64 0, .int .u64 0, .slice none 0 0] 27 (0, 0))) := ⟨gv⟩
   have n11_ : Aside0 (w.heap.size ≤ bi) := ⟨gu⟩
   have n12_ : Aside0 (w.heap.size ≤ bi) := ⟨gt⟩
   have n13_ : Aside0 (ba ≠ bi) := ⟨gs⟩
   have n14_ : Aside0 (bi ≠ ba) := ⟨hP⟩
   have n15_ : Aside0 (bc ≠ bi) := ⟨hO⟩
   have n16_ : Aside0 (bi ≠ bc) := ⟨hN⟩
   have n17_ : Aside0 (bd ≠ bi) := ⟨hM⟩
   have n18_ : Aside0 (bi ≠ bd) := ⟨mE⟩
   have n19_ : Aside0 (be ≠ bi) := ⟨mD⟩
   have n20_ : Aside0 (bi ≠ be) := ⟨mC⟩
   have n21_ : Aside0 (Below w.heap.size w d2) := ⟨mB⟩
   clear bm
   clear bf
   (try clear br)
   (try clear bI)
   (try clear b2)
   clear bg
   clear bn
   clear bq
   clear bA
   clear HB
   clear h0_ h1_ h2_ h3_ h4_ h5_ h6_ h7_ h8_ h9_ gv gu gt gs hP hO hN hM mE mD mC mB
   have br := n0_
   have bI := n1_
   have b2 := n2_
   have dk := n3_
   have bm := n4_
   have bf := n5_
   have bg := n6_
   have bn := n7_
   have bq := n8_
   have bA := n9_
   have bO := n10_
   have hq := n11_
   have d9 := n12_
   have dv := n13_
   have dD := n14_
   have du := n15_
   have dC := n16_
   have dr := n17_
   have dB := n18_
   have bQ := n19_
   have dA := n20_
   have HB := n21_
   clear n0_ n1_ n2_ n3_ n4_ n5_ n6_ n7_ n8_ n9_ n10_ n11_ n12_ n13_ n14_ n15_ n16_ n17_ n18_ n19_ n20_ n21_
   have hHeld : d2.cell? ⟨be, 0, none⟩ = some (.int .u64 b1) ∧ d2.cell? ⟨be, 1, none⟩ = some (.int .u64 b3) ∧ d2.cell? ⟨be, 2, none⟩ = some (.slice b6 bY.length b5) ∧ d2.cell? (bl.add (bE).toNat) = some (.int .u64 (rd bh bE)) := hS_
   obtain ⟨dx, dq, ja⟩ := Kd.V_slice dk.out
   (first | subst ja | (injection ja with f1_ f2_ f3_; have f4_ := f1_.symm; have f5_ := f3_.symm; clear f1_ f2_ f3_; subst f4_; subst f5_))
   refine norm_ (a' := ?_) ?_ ?_
   rotate_left
   ·simp only [putAll, Act.put, List.setIfInBounds_toArray, List.set_cons_zero, List.set_cons_succ]
    rfl
   refine one_ (i := 12) (N := none) #[Tt,Tt,Tt,Tt,Tt,Tt,Tt,Tt,Tt,Tt,Tt,Tt,Tt,Ff] rfl rfl (one_of HT_.out (by kernel_rfl)) (by decide) (fun K hK => ?_)
   have qx : d2.cell? ⟨bi, 0, none⟩ = some (.int .u64 0) := (blk_cell bO.out 0).trans rfl
   have qk := blk_frozen bO.out 0
   have jE := dv.out
   have jD := du.out
   have jC := dr.out
   have jB := bQ.out
   have jQ := dD.out
   have jP := dC.out
   have jO := dB.out
   have jN := dA.out
   have qw : d2.cell? ⟨bi, 1, none⟩ = some (.int .u64 0) := (blk_cell bO.out 1).trans rfl
   have qj := blk_frozen bO.out 1
   have jA := dv.out
   have jz := du.out
   have jy := dr.out
   have jx := bQ.out
   have jM := dD.out
   have jL := dC.out
   have jK := dB.out
   have jJ := dA.out
   have qv : d2.cell? ⟨bi, 2, none⟩ = some (.slice none 0 0) := (blk_cell bO.out 2).trans rfl
   have qi := blk_frozen bO.out 2
   have jw := dv.out
   have jv := du.out
   have ju := dr.out
   have jt := bQ.out
   have jI := dD.out
   have jH := dC.out
   have jG := dB.out
   have jF := dA.out
   refine skip_ (w1 := ?_) (by rfl) rfl ?_ ?_
   rotate_left
   ·go_simp
    rfl
   refine hK.out _ _ ⟨((cell_far (p := ⟨bi, _, none⟩) bQ.out _).trans (((cell_far (p := ⟨bi, _, none⟩) bQ.out _).trans (((cell_far (p := ⟨bi, _, none⟩) bQ.out _).trans (hHeld.1)))))), ((cell_far (p := ⟨bi, _, none⟩) bQ.out _).trans (((cell_far (p := ⟨bi, _, none⟩) bQ.out _).trans (((cell_far (p := ⟨bi, _, none⟩) bQ.out _).trans (hHeld.2.1)))))), ((cell_far (p := ⟨bi, _, none⟩) bQ.out _).trans (((cell_far (p := ⟨bi, _, none⟩) bQ.out _).trans (((cell_far (p := ⟨bi, _, none⟩) bQ.out _).trans (hHeld.2.2.1)))))), ((cell_far (p := ⟨bi, _, none⟩) zx28_25 _).trans (((cell_far (p := ⟨bi, _, none⟩) zx28_25 _).trans (((cell_far (p := ⟨bi, _, none⟩) zx28_25 _).trans (hHeld.2.2.2))))))⟩ (fun hHeld => ?_)
   clear hK K
   refine pp_ 13 (some 28) HT_.out ?_
   refine done_ (done_of HT_.out (by kernel_rfl)) ?_
   have qh := dG.out
   have oZ := dw.out
   have qg := dF.out
   have oY := bR.out
   have qf := dt.out
   have oX := dE.out
   have qe := dr.out
   have oW := dB.out
   obtain ⟨mA, mz, my, mc, mb, ma⟩ := cx28_bc3 bq.out
   try go_wp2_with (first | ((with_reducible refine gate_callee (f := 17) rfl ?_); refine goesL_ (some 112) rfl rfl Tryd.func17 (by kernel_rfl) rfl #[.agg #[.int .u64 bM, .int .u64 bP, .slice bZ bB.length bX], .string bG] rfl zx28_3 ?_; (with_reducible refine (ledger_Find.calls bM bP _ _ bB bG dW dY dL dp dK d3 dS true _ ?side1 ?side2 A57.out).mono ?_); (case side1 => refine (Kd.V_reads' (e := 37) (base := w.heap.size) (ok := fun k_ => (some k_ ≠ (.slice (some bl) bh.length bH : Value).ownBlock ∧ (k_ ≠ ba ∧ (k_ ≠ bc ∧ (k_ ≠ bd ∧ (k_ ≠ be ∧ k_ ≠ bi)))))) (n := bB.length) (c := bX) ?_).2.2; exact zx28_29); (case side2 => exact (Kd.V_reads' bI.out).2.1); rintro e q5 ⟨q7, rfl, ho0, hb⟩; refine ⟨_, rfl, ?_⟩; replace bf := Aside0.mk (Kd.V_elder' (by (with_reducible repeat (first | apply Kd.V_alloc | apply Kd.V_drewN | apply Kd.V_drew)); exact (Kd.V_mono (Kd.V_far (p := ⟨bi, 2, none⟩) (Kd.V_far (p := ⟨bi, 1, none⟩) (Kd.V_far (p := ⟨bi, 0, none⟩) (Kd.V_mono bf.out (fun k_ hk => (⟨hk, hk.2.2.2.2.2⟩ : _ ∧ k_ ≠ bi))) (fun _ hk => hk.2) (.int .u64 dg)) (fun _ hk => hk.2) (.int .u64 di)) (fun _ hk => hk.2) (.slice dx df.length dq)) (fun _ h_ => h_.1))) (Kd.R_base ho0) hb); replace br := Aside0.mk (Kd.V_elder' (by (with_reducible repeat (first | apply Kd.V_alloc | apply Kd.V_drewN | apply Kd.V_drew)); exact (Kd.V_mono (Kd.V_far (p := ⟨bi, 2, none⟩) (Kd.V_far (p := ⟨bi, 1, none⟩) (Kd.V_far (p := ⟨bi, 0, none⟩) (Kd.V_mono br.out (fun k_ hk => (⟨hk, hk.2.2.2.2.2⟩ : _ ∧ k_ ≠ bi))) (fun _ hk => hk.2) (.int .u64 dg)) (fun _ hk => hk.2) (.int .u64 di)) (fun _ hk => hk.2) (.slice dx df.length dq)) (fun _ h_ => h_.1))) (Kd.R_base ho0) hb); replace bI := Aside0.mk (Kd.V_elder' zx28_29 (Kd.R_base ho0) hb); replace b2 := Aside0.mk (Kd.V_elder' (by (with_reducible repeat (first | apply Kd.V_alloc | apply Kd.V_drewN | apply Kd.V_drew)); exact (Kd.V_mono (Kd.V_far (p := ⟨bi, 2, none⟩) (Kd.V_far (p := ⟨bi, 1, none⟩) (Kd.V_far (p := ⟨bi, 0, none⟩) (Kd.V_mono b2.out (fun k_ hk => (⟨hk, hk.2.2.2.2.2⟩ : _ ∧ k_ ≠ bi))) (fun _ hk => hk.2) (.int .u64 dg)) (fun _ hk => hk.2) (.int .u64 di)) (fun _ hk => hk.2) (.slice dx df.length dq)) (fun _ h_ => h_.1))) (Kd.R_base ho0) hb); replace dk := Aside0.mk (Kd.V_elder' (by (with_reducible repeat (first | apply Kd.V_alloc | apply Kd.V_drewN | apply Kd.V_drew)); exact (Kd.V_mono (Kd.V_far (p := ⟨bi, 2, none⟩) (Kd.V_far (p := ⟨bi, 1, none⟩) (Kd.V_far (p := ⟨bi, 0, none⟩) (Kd.V_mono dk.out (fun k_ hk => (⟨hk, hk.2.2.2.2.2⟩ : _ ∧ k_ ≠ bi))) (fun _ hk => hk.2) (.int .u64 dg)) (fun _ hk => hk.2) (.int .u64 di)) (fun _ hk => hk.2) (.slice dx df.length dq)) (fun _ h_ => h_.1))) (Kd.R_base ho0) hb); have dQ := Aside0.mk (Kd.R_lower (Kd.R_new' ho0 (Kd.R_lt zx28_31)) (below_size zx28_10)); replace bm := Aside0.mk (Kd.R_elder' zx28_31 (Kd.R_base ho0) hb); replace bg := Aside0.mk (blk_below (g := ba) (o := .cells #[.int .u64 bo, .int .u64 bp, .slice bw bk.length bu] 27 (0, 0)) (by (iterate 3 ((with_reducible repeat (first | refine blk_drewN ?_ _ | refine blk_drew ?_ | refine blk_alloc ?_ _)); refine blk_far ?_ dv.out _)); (with_reducible repeat (first | refine blk_drewN ?_ _ | refine blk_drew ?_ | refine blk_alloc ?_ _)); exact bg.out) hb); replace bn := Aside0.mk (blk_below (g := bc) (o := .cells #[.int .u64 bJ, .int .u64 bN, .slice bL bx.length bK] 27 (0, 0)) (by (iterate 3 ((with_reducible repeat (first | refine blk_drewN ?_ _ | refine blk_drew ?_ | refine blk_alloc ?_ _)); refine blk_far ?_ du.out _)); (with_reducible repeat (first | refine blk_drewN ?_ _ | refine blk_drew ?_ | refine blk_alloc ?_ _)); exact bn.out) hb); replace bq := Aside0.mk (blk_below (g := bd) (o := .cells #[.int .u64 bM, .int .u64 bP, .slice bZ bB.length bX] 27 (0, 0)) (by (iterate 3 ((with_reducible repeat (first | refine blk_drewN ?_ _ | refine blk_drew ?_ | refine blk_alloc ?_ _)); refine blk_far ?_ dr.out _)); (with_reducible repeat (first | refine blk_drewN ?_ _ | refine blk_drew ?_ | refine blk_alloc ?_ _)); exact bq.out) hb); replace bA := Aside0.mk (blk_below (g := be) (o := .cells #[.int .u64 b1, .int .u64 b3, .slice b6 bY.length b5] 27 (0, 0)) (by (iterate 3 ((with_reducible repeat (first | refine blk_drewN ?_ _ | refine blk_drew ?_ | refine blk_alloc ?_ _)); refine blk_far ?_ bQ.out _)); (with_reducible repeat (first | refine blk_drewN ?_ _ | refine blk_drew ?_ | refine blk_alloc ?_ _)); exact bA.out) hb); replace bO := Aside0.mk (blk_below (g := bi) (o := .cells #[.int .u64 dg, .int .u64 di, .slice dx df.length dq] 27 (0, 0)) (by (with_reducible repeat (first | refine blk_drewN ?_ _ | refine blk_drew ?_ | refine blk_alloc ?_ _)); refine blk_put (cs := #[.int .u64 dg, .int .u64 di, .slice none 0 0]) ?_ 2 _ rfl; (with_reducible repeat (first | refine blk_drewN ?_ _ | refine blk_drew ?_ | refine blk_alloc ?_ _)); refine blk_put (cs := #[.int .u64 dg, .int .u64 0, .slice none 0 0]) ?_ 1 _ rfl; (with_reducible repeat (first | refine blk_drewN ?_ _ | refine blk_drew ?_ | refine blk_alloc ?_ _)); refine blk_put (cs := #[.int .u64 0, .int .u64 0, .slice none 0 0]) ?_ 0 _ rfl; (with_reducible repeat (first | refine blk_drewN ?_ _ | refine blk_drew ?_ | refine blk_alloc ?_ _)); exact bO.out) hb); replace HB := Aside0.mk (below_step zx28_10 hb); (try clear hb); (try clear hb2); (try clear hk); (try clear hi); (try clear ho0)) | ((with_reducible refine gate_dst (N := 29) rfl ?_); (try (refine gate_guard (by rfl) ?_; dsimp only)); refine box_event ?hg (N := 29) ?hd (cs := #[.string (⟨#[]⟩ : ByteArray), .int .u64 0, .int .u64 0, .slice none 0 0, .int .u64 0, .int .u64 0, .int .u64 0]) (t := 37) ?hr ?_; (case hd => rfl); (case hg => rfl); (case hr => first | (go_simp; done) | (go_simp; rfl)); intro bj hg gf hbox hb; replace bm := Aside0.mk (Kd.R_below zx28_4 hb); replace bf := Aside0.mk (Kd.V_below (Kd.V_elderB zx28_12 bj (Nat.le_of_eq hg.symm)) hb); replace br := Aside0.mk (Kd.V_below (Kd.V_elderB zx28_13 bj (Nat.le_of_eq hg.symm)) hb); replace bI := Aside0.mk (Kd.V_below (Kd.V_elderB zx28_17 bj (Nat.le_of_eq hg.symm)) hb); replace b2 := Aside0.mk (Kd.V_below (Kd.V_elderB zx28_18 bj (Nat.le_of_eq hg.symm)) hb); replace dk := Aside0.mk (Kd.V_below (Kd.V_elderB zx28_30 bj (Nat.le_of_eq hg.symm)) hb); replace dQ := Aside0.mk (Kd.R_below (by (with_reducible repeat (first | apply Kd.R_alloc | apply Kd.R_drewN | apply Kd.R_drew)); exact dQ.out) hb); have bz := Aside0.mk (hbox); have q0 := Aside0.mk ((by rw [hg]; exact (below_size zx28_10) : w.heap.size ≤ bj)); have hv := Aside0.mk ((by rw [hg]; exact (below_size zx28_10) : w.heap.size ≤ bj)); replace HB := Aside0.mk (below_step zx28_10 hb); have gq := Aside0.mk ((by rw [hg]; exact Nat.ne_of_lt (blk_lt (g := ba) (o := .cells #[.int .u64 bo, .int .u64 bp, .slice bw bk.length bu] 27 (0, 0)) zx28_0) : ba ≠ bj)); have hG := Aside0.mk ((by rw [hg]; exact Nat.ne_of_gt (blk_lt (g := ba) (o := .cells #[.int .u64 bo, .int .u64 bp, .slice bw bk.length bu] 27 (0, 0)) zx28_0) : bj ≠ ba)); replace bg := Aside0.mk (blk_below (g := ba) (o := .cells #[.int .u64 bo, .int .u64 bp, .slice bw bk.length bu] 27 (0, 0)) zx28_0 hb); have go := Aside0.mk ((by rw [hg]; exact Nat.ne_of_lt (blk_lt (g := bc) (o := .cells #[.int .u64 bJ, .int .u64 bN, .slice bL bx.length bK] 27 (0, 0)) zx28_1) : bc ≠ bj)); have hF := Aside0.mk ((by rw [hg]; exact Nat.ne_of_gt (blk_lt (g := bc) (o := .cells #[.int .u64 bJ, .int .u64 bN, .slice bL bx.length bK] 27 (0, 0)) zx28_1) : bj ≠ bc)); replace bn := Aside0.mk (blk_below (g := bc) (o := .cells #[.int .u64 bJ, .int .u64 bN, .slice bL bx.length bK] 27 (0, 0)) zx28_1 hb); have gm := Aside0.mk ((by rw [hg]; exact Nat.ne_of_lt (blk_lt (g := bd) (o := .cells #[.int .u64 bM, .int .u64 bP, .slice bZ bB.length bX] 27 (0, 0)) zx28_2) : bd ≠ bj)); have hE := Aside0.mk ((by rw [hg]; exact Nat.ne_of_gt (blk_lt (g := bd) (o := .cells #[.int .u64 bM, .int .u64 bP, .slice bZ bB.length bX] 27 (0, 0)) zx28_2) : bj ≠ bd)); replace bq := Aside0.mk (blk_below (g := bd) (o := .cells #[.int .u64 bM, .int .u64 bP, .slice bZ bB.length bX] 27 (0, 0)) zx28_2 hb); have gk := Aside0.mk ((by rw [hg]; exact Nat.ne_of_lt (blk_lt (g := be) (o := .cells #[.int .u64 b1, .int .u64 b3, .slice b6 bY.length b5] 27 (0, 0)) zx28_6) : be ≠ bj)); have hD := Aside0.mk ((by rw [hg]; exact Nat.ne_of_gt (blk_lt (g := be) (o := .cells #[.int .u64 b1, .int .u64 b3, .slice b6 bY.length b5] 27 (0, 0)) zx28_6) : bj ≠ be)); replace bA := Aside0.mk (blk_below (g := be) (o := .cells #[.int .u64 b1, .int .u64 b3, .slice b6 bY.length b5] 27 (0, 0)) zx28_6 hb); have gi := Aside0.mk ((by rw [hg]; exact Nat.ne_of_lt (blk_lt (g := bi) (o := .cells #[.int .u64 dg, .int .u64 di, .slice dx df.length dq] 27 (0, 0)) zx28_16) : bi ≠ bj)); have hC := Aside0.mk ((by rw [hg]; exact Nat.ne_of_gt (blk_lt (g := bi) (o := .cells #[.int .u64 dg, .int .u64 di, .slice dx df.length dq] 27 (0, 0)) zx28_16) : bj ≠ bi)); replace bO := Aside0.mk (blk_below (g := bi) (o := .cells #[.int .u64 dg, .int .u64 di, .slice dx df.length dq] 27 (0, 0)) zx28_16 hb); clear hb hbox hg; have qd := hG.out; have oV := gq.out; have qc := hF.out; have oU := go.out; have qb := hE.out; have oT := gm.out; have qa := hD.out; have oS := gk.out; have o9 := hC.out; have oR := gi.out; have mw : gf.cell? ⟨bj, 0, none⟩ = some (.string (⟨#[]⟩ : ByteArray)) := (blk_cell bz.out 0).trans rfl; have mv : gf.cell? ⟨bj, 1, none⟩ = some (.int .u64 0) := (blk_cell bz.out 1).trans rfl; have mu : gf.cell? ⟨bj, 2, none⟩ = some (.int .u64 0) := (blk_cell bz.out 2).trans rfl; have mt : gf.cell? ⟨bj, 3, none⟩ = some (.slice none 0 0) := (blk_cell bz.out 3).trans rfl; have ms : gf.cell? ⟨bj, 4, none⟩ = some (.int .u64 0) := (blk_cell bz.out 4).trans rfl; have mr : gf.cell? ⟨bj, 5, none⟩ = some (.int .u64 0) := (blk_cell bz.out 5).trans rfl; have mq : gf.cell? ⟨bj, 6, none⟩ = some (.int .u64 0) := (blk_cell bz.out 6).trans rfl; have j9 := blk_frozen bz.out 0; have j8 := blk_frozen bz.out 1; have j7 := blk_frozen bz.out 2; have j6 := blk_frozen bz.out 3; have j5 := blk_frozen bz.out 4; have j4 := blk_frozen bz.out 5; have j3 := blk_frozen bz.out 6; obtain ⟨dc, db, mJ⟩ := Kd.R_slice dQ.out; subst mJ; have o8 := dD.out; have oQ := dv.out; have o7 := dC.out; have oP := du.out; have o6 := dA.out; have oO := bQ.out; have mo : gf.cell? ⟨bi, 0, none⟩ = some (.int .u64 dg) := (blk_cell bO.out 0).trans rfl; have mm : gf.cell? ⟨bi, 1, none⟩ = some (.int .u64 di) := (blk_cell bO.out 1).trans rfl; have ml : gf.cell? ⟨bi, 2, none⟩ = some (.slice dx df.length dq) := (blk_cell bO.out 2).trans rfl; have j2 := blk_frozen bO.out 0; have jZ := blk_frozen bO.out 1; have jY := blk_frozen bO.out 2) | ((with_reducible refine gate_callee (f := 17) rfl ?_); refine goesL_ (some 118) rfl rfl Tryd.func17 (by kernel_rfl) rfl #[.agg #[.int .u64 dg, .int .u64 di, .slice dx df.length dq], .string bG] rfl zx28_3 ?_; (with_reducible refine (ledger_Find.calls dg di _ _ df bG dl dn de b7 dd dy dj true _ ?side1 ?side2 A58.out).mono ?_); (case side1 => refine (Kd.V_reads' (e := 37) (base := w.heap.size) (ok := fun k_ => (((some k_ ≠ (.slice (some bl) bh.length bH : Value).ownBlock ∧ (k_ ≠ ba ∧ (k_ ≠ bc ∧ (k_ ≠ bd ∧ (k_ ≠ be ∧ k_ ≠ bi))))) ∧ some k_ ≠ (.slice dc dp.length db : Value).ownBlock) ∧ k_ ≠ bj)) (n := df.length) (c := dq) ?_).2.2; exact zx28_19); (case side2 => exact (Kd.V_reads' dk.out).2.1); rintro e q4 ⟨q6, rfl, ho0, hb⟩; refine ⟨_, rfl, ?_⟩; replace bf := Aside0.mk (Kd.V_elder' (by (with_reducible repeat (first | apply Kd.V_alloc | apply Kd.V_drewN | apply Kd.V_drew)); exact (Kd.V_mono (Kd.V_far (p := ⟨bj, 6, none⟩) (Kd.V_far (p := ⟨bj, 5, none⟩) (Kd.V_far (p := ⟨bj, 4, none⟩) (Kd.V_far (p := ⟨bj, 3, none⟩) (Kd.V_far (p := ⟨bj, 2, none⟩) (Kd.V_far (p := ⟨bj, 1, none⟩) (Kd.V_far (p := ⟨bj, 0, none⟩) (Kd.V_mono bf.out (fun k_ hk => (⟨hk, hk.2⟩ : _ ∧ k_ ≠ bj))) (fun _ hk => hk.2) (.string dW)) (fun _ hk => hk.2) (.int .u64 dY)) (fun _ hk => hk.2) (.int .u64 dL)) (fun _ hk => hk.2) (.slice dc dp.length db)) (fun _ hk => hk.2) (.int .u64 dK)) (fun _ hk => hk.2) (.int .u64 d3)) (fun _ hk => hk.2) (.int .u64 dS)) (fun _ h_ => h_.1))) (Kd.R_base ho0) hb); replace br := Aside0.mk (Kd.V_elder' (by (with_reducible repeat (first | apply Kd.V_alloc | apply Kd.V_drewN | apply Kd.V_drew)); exact (Kd.V_mono (Kd.V_far (p := ⟨bj, 6, none⟩) (Kd.V_far (p := ⟨bj, 5, none⟩) (Kd.V_far (p := ⟨bj, 4, none⟩) (Kd.V_far (p := ⟨bj, 3, none⟩) (Kd.V_far (p := ⟨bj, 2, none⟩) (Kd.V_far (p := ⟨bj, 1, none⟩) (Kd.V_far (p := ⟨bj, 0, none⟩) (Kd.V_mono br.out (fun k_ hk => (⟨hk, hk.2⟩ : _ ∧ k_ ≠ bj))) (fun _ hk => hk.2) (.string dW)) (fun _ hk => hk.2) (.int .u64 dY)) (fun _ hk => hk.2) (.int .u64 dL)) (fun _ hk => hk.2) (.slice dc dp.length db)) (fun _ hk => hk.2) (.int .u64 dK)) (fun _ hk => hk.2) (.int .u64 d3)) (fun _ hk => hk.2) (.int .u64 dS)) (fun _ h_ => h_.1))) (Kd.R_base ho0) hb); replace bI := Aside0.mk (Kd.V_elder' (by (with_reducible repeat (first | apply Kd.V_alloc | apply Kd.V_drewN | apply Kd.V_drew)); exact (Kd.V_mono (Kd.V_far (p := ⟨bj, 6, none⟩) (Kd.V_far (p := ⟨bj, 5, none⟩) (Kd.V_far (p := ⟨bj, 4, none⟩) (Kd.V_far (p := ⟨bj, 3, none⟩) (Kd.V_far (p := ⟨bj, 2, none⟩) (Kd.V_far (p := ⟨bj, 1, none⟩) (Kd.V_far (p := ⟨bj, 0, none⟩) (Kd.V_mono bI.out (fun k_ hk => (⟨hk, hk.2⟩ : _ ∧ k_ ≠ bj))) (fun _ hk => hk.2) (.string dW)) (fun _ hk => hk.2) (.int .u64 dY)) (fun _ hk => hk.2) (.int .u64 dL)) (fun _ hk => hk.2) (.slice dc dp.length db)) (fun _ hk => hk.2) (.int .u64 dK)) (fun _ hk => hk.2) (.int .u64 d3)) (fun _ hk => hk.2) (.int .u64 dS)) (fun _ h_ => h_.1))) (Kd.R_base ho0) hb); replace b2 := Aside0.mk (Kd.V_elder' (by (with_reducible repeat (first | apply Kd.V_alloc | apply Kd.V_drewN | apply Kd.V_drew)); exact (Kd.V_mono (Kd.V_far (p := ⟨bj, 6, none⟩) (Kd.V_far (p := ⟨bj, 5, none⟩) (Kd.V_far (p := ⟨bj, 4, none⟩) (Kd.V_far (p := ⟨bj, 3, none⟩) (Kd.V_far (p := ⟨bj, 2, none⟩) (Kd.V_far (p := ⟨bj, 1, none⟩) (Kd.V_far (p := ⟨bj, 0, none⟩) (Kd.V_mono b2.out (fun k_ hk => (⟨hk, hk.2⟩ : _ ∧ k_ ≠ bj))) (fun _ hk => hk.2) (.string dW)) (fun _ hk => hk.2) (.int .u64 dY)) (fun _ hk => hk.2) (.int .u64 dL)) (fun _ hk => hk.2) (.slice dc dp.length db)) (fun _ hk => hk.2) (.int .u64 dK)) (fun _ hk => hk.2) (.int .u64 d3)) (fun _ hk => hk.2) (.int .u64 dS)) (fun _ h_ => h_.1))) (Kd.R_base ho0) hb); replace dk := Aside0.mk (Kd.V_elder' zx28_19 (Kd.R_base ho0) hb); have d0 := Aside0.mk (Kd.R_lower (Kd.R_new' (Kd.R_new' ho0 (Kd.R_lt zx28_20)) (Kd.R_lt zx28_21)) (below_size zx28_15)); replace bm := Aside0.mk (Kd.R_elder' zx28_20 (Kd.R_base ho0) hb); replace dQ := Aside0.mk (Kd.R_elder' zx28_21 (Kd.R_base ho0) hb); replace bg := Aside0.mk (blk_below (g := ba) (o := .cells #[.int .u64 bo, .int .u64 bp, .slice bw bk.length bu] 27 (0, 0)) (by (iterate 7 ((with_reducible repeat (first | refine blk_drewN ?_ _ | refine blk_drew ?_ | refine blk_alloc ?_ _)); refine blk_far ?_ gq.out _)); (with_reducible repeat (first | refine blk_drewN ?_ _ | refine blk_drew ?_ | refine blk_alloc ?_ _)); exact bg.out) hb); replace bn := Aside0.mk (blk_below (g := bc) (o := .cells #[.int .u64 bJ, .int .u64 bN, .slice bL bx.length bK] 27 (0, 0)) (by (iterate 7 ((with_reducible repeat (first | refine blk_drewN ?_ _ | refine blk_drew ?_ | refine blk_alloc ?_ _)); refine blk_far ?_ go.out _)); (with_reducible repeat (first | refine blk_drewN ?_ _ | refine blk_drew ?_ | refine blk_alloc ?_ _)); exact bn.out) hb); replace bq := Aside0.mk (blk_below (g := bd) (o := .cells #[.int .u64 bM, .int .u64 bP, .slice bZ bB.length bX] 27 (0, 0)) (by (iterate 7 ((with_reducible repeat (first | refine blk_drewN ?_ _ | refine blk_drew ?_ | refine blk_alloc ?_ _)); refine blk_far ?_ gm.out _)); (with_reducible repeat (first | refine blk_drewN ?_ _ | refine blk_drew ?_ | refine blk_alloc ?_ _)); exact bq.out) hb); replace bA := Aside0.mk (blk_below (g := be) (o := .cells #[.int .u64 b1, .int .u64 b3, .slice b6 bY.length b5] 27 (0, 0)) (by (iterate 7 ((with_reducible repeat (first | refine blk_drewN ?_ _ | refine blk_drew ?_ | refine blk_alloc ?_ _)); refine blk_far ?_ gk.out _)); (with_reducible repeat (first | refine blk_drewN ?_ _ | refine blk_drew ?_ | refine blk_alloc ?_ _)); exact bA.out) hb); replace bO := Aside0.mk (blk_below (g := bi) (o := .cells #[.int .u64 dg, .int .u64 di, .slice dx df.length dq] 27 (0, 0)) (by (iterate 7 ((with_reducible repeat (first | refine blk_drewN ?_ _ | refine blk_drew ?_ | refine blk_alloc ?_ _)); refine blk_far ?_ gi.out _)); (with_reducible repeat (first | refine blk_drewN ?_ _ | refine blk_drew ?_ | refine blk_alloc ?_ _)); exact bO.out) hb); replace bz := Aside0.mk (blk_below (g := bj) (o := .cells #[.string dW, .int .u64 dY, .int .u64 dL, .slice dc dp.length db, .int .u64 dK, .int .u64 d3, .int .u64 dS] 37 (0, 0)) (by (with_reducible repeat (first | refine blk_drewN ?_ _ | refine blk_drew ?_ | refine blk_alloc ?_ _)); refine blk_put (cs := #[.string dW, .int .u64 dY, .int .u64 dL, .slice dc dp.length db, .int .u64 dK, .int .u64 d3, .int .u64 0]) ?_ 6 _ rfl; (with_reducible repeat (first | refine blk_drewN ?_ _ | refine blk_drew ?_ | refine blk_alloc ?_ _)); refine blk_put (cs := #[.string dW, .int .u64 dY, .int .u64 dL, .slice dc dp.length db, .int .u64 dK, .int .u64 0, .int .u64 0]) ?_ 5 _ rfl; (with_reducible repeat (first | refine blk_drewN ?_ _ | refine blk_drew ?_ | refine blk_alloc ?_ _)); refine blk_put (cs := #[.string dW, .int .u64 dY, .int .u64 dL, .slice dc dp.length db, .int .u64 0, .int .u64 0, .int .u64 0]) ?_ 4 _ rfl; (with_reducible repeat (first | refine blk_drewN ?_ _ | refine blk_drew ?_ | refine blk_alloc ?_ _)); refine blk_put (cs := #[.string dW, .int .u64 dY, .int .u64 dL, .slice none 0 0, .int .u64 0, .int .u64 0, .int .u64 0]) ?_ 3 _ rfl; (with_reducible repeat (first | refine blk_drewN ?_ _ | refine blk_drew ?_ | refine blk_alloc ?_ _)); refine blk_put (cs := #[.string dW, .int .u64 dY, .int .u64 0, .slice none 0 0, .int .u64 0, .int .u64 0, .int .u64 0]) ?_ 2 _ rfl; (with_reducible repeat (first | refine blk_drewN ?_ _ | refine blk_drew ?_ | refine blk_alloc ?_ _)); refine blk_put (cs := #[.string dW, .int .u64 0, .int .u64 0, .slice none 0 0, .int .u64 0, .int .u64 0, .int .u64 0]) ?_ 1 _ rfl; (with_reducible repeat (first | refine blk_drewN ?_ _ | refine blk_drew ?_ | refine blk_alloc ?_ _)); refine blk_put (cs := #[.string (⟨#[]⟩ : ByteArray), .int .u64 0, .int .u64 0, .slice none 0 0, .int .u64 0, .int .u64 0, .int .u64 0]) ?_ 0 _ rfl; (with_reducible repeat (first | refine blk_drewN ?_ _ | refine blk_drew ?_ | refine blk_alloc ?_ _)); exact bz.out) hb); replace HB := Aside0.mk (below_step zx28_15 hb); (try clear hb); (try clear hb2); (try clear hk); (try clear hi); (try clear ho0)) | ((with_reducible refine gate_dst (N := 31) rfl ?_); (try (refine gate_guard (by rfl) ?_; dsimp only)); refine box_event ?hg (N := 31) ?hd (cs := #[.string (⟨#[]⟩ : ByteArray), .int .u64 0, .int .u64 0, .slice none 0 0, .int .u64 0, .int .u64 0, .int .u64 0]) (t := 37) ?hr ?_; (case hd => rfl); (case hg => rfl); (case hr => first | (go_simp; done) | (go_simp; rfl)); intro bb hg dT hbox hb; replace bm := Aside0.mk (Kd.R_below zx28_4 hb); replace bf := Aside0.mk (Kd.V_below (Kd.V_elderB zx28_12 bb (Nat.le_of_eq hg.symm)) hb); replace br := Aside0.mk (Kd.V_below (Kd.V_elderB zx28_13 bb (Nat.le_of_eq hg.symm)) hb); replace bI := Aside0.mk (Kd.V_below (Kd.V_elderB zx28_17 bb (Nat.le_of_eq hg.symm)) hb); replace b2 := Aside0.mk (Kd.V_below (Kd.V_elderB zx28_18 bb (Nat.le_of_eq hg.symm)) hb); replace dk := Aside0.mk (Kd.V_below (Kd.V_elderB zx28_30 bb (Nat.le_of_eq hg.symm)) hb); replace dQ := Aside0.mk (Kd.R_below (by (with_reducible repeat (first | apply Kd.R_alloc | apply Kd.R_drewN | apply Kd.R_drew)); exact dQ.out) hb); replace d0 := Aside0.mk (Kd.R_below (by (with_reducible repeat (first | apply Kd.R_alloc | apply Kd.R_drewN | apply Kd.R_drew)); exact d0.out) hb); have bC := Aside0.mk (hbox); have qZ := Aside0.mk ((by rw [hg]; exact (below_size zx28_15) : w.heap.size ≤ bb)); have hW := Aside0.mk ((by rw [hg]; exact (below_size zx28_15) : w.heap.size ≤ bb)); replace HB := Aside0.mk (below_step zx28_15 hb); have gp := Aside0.mk ((by rw [hg]; exact Nat.ne_of_lt (blk_lt (g := ba) (o := .cells #[.int .u64 bo, .int .u64 bp, .slice bw bk.length bu] 27 (0, 0)) zx28_0) : ba ≠ bb)); have hB := Aside0.mk ((by rw [hg]; exact Nat.ne_of_gt (blk_lt (g := ba) (o := .cells #[.int .u64 bo, .int .u64 bp, .slice bw bk.length bu] 27 (0, 0)) zx28_0) : bb ≠ ba)); replace bg := Aside0.mk (blk_below (g := ba) (o := .cells #[.int .u64 bo, .int .u64 bp, .slice bw bk.length bu] 27 (0, 0)) zx28_0 hb); have gn := Aside0.mk ((by rw [hg]; exact Nat.ne_of_lt (blk_lt (g := bc) (o := .cells #[.int .u64 bJ, .int .u64 bN, .slice bL bx.length bK] 27 (0, 0)) zx28_1) : bc ≠ bb)); have hA := Aside0.mk ((by rw [hg]; exact Nat.ne_of_gt (blk_lt (g := bc) (o := .cells #[.int .u64 bJ, .int .u64 bN, .slice bL bx.length bK] 27 (0, 0)) zx28_1) : bb ≠ bc)); replace bn := Aside0.mk (blk_below (g := bc) (o := .cells #[.int .u64 bJ, .int .u64 bN, .slice bL bx.length bK] 27 (0, 0)) zx28_1 hb); have gl := Aside0.mk ((by rw [hg]; exact Nat.ne_of_lt (blk_lt (g := bd) (o := .cells #[.int .u64 bM, .int .u64 bP, .slice bZ bB.length bX] 27 (0, 0)) zx28_2) : bd ≠ bb)); have hz := Aside0.mk ((by rw [hg]; exact Nat.ne_of_gt (blk_lt (g := bd) (o := .cells #[.int .u64 bM, .int .u64 bP, .slice bZ bB.length bX] 27 (0, 0)) zx28_2) : bb ≠ bd)); replace bq := Aside0.mk (blk_below (g := bd) (o := .cells #[.int .u64 bM, .int .u64 bP, .slice bZ bB.length bX] 27 (0, 0)) zx28_2 hb); have gj := Aside0.mk ((by rw [hg]; exact Nat.ne_of_lt (blk_lt (g := be) (o := .cells #[.int .u64 b1, .int .u64 b3, .slice b6 bY.length b5] 27 (0, 0)) zx28_6) : be ≠ bb)); have hy := Aside0.mk ((by rw [hg]; exact Nat.ne_of_gt (blk_lt (g := be) (o := .cells #[.int .u64 b1, .int .u64 b3, .slice b6 bY.length b5] 27 (0, 0)) zx28_6) : bb ≠ be)); replace bA := Aside0.mk (blk_below (g := be) (o := .cells #[.int .u64 b1, .int .u64 b3, .slice b6 bY.length b5] 27 (0, 0)) zx28_6 hb); have gh := Aside0.mk ((by rw [hg]; exact Nat.ne_of_lt (blk_lt (g := bi) (o := .cells #[.int .u64 dg, .int .u64 di, .slice dx df.length dq] 27 (0, 0)) zx28_16) : bi ≠ bb)); have hx := Aside0.mk ((by rw [hg]; exact Nat.ne_of_gt (blk_lt (g := bi) (o := .cells #[.int .u64 dg, .int .u64 di, .slice dx df.length dq] 27 (0, 0)) zx28_16) : bb ≠ bi)); replace bO := Aside0.mk (blk_below (g := bi) (o := .cells #[.int .u64 dg, .int .u64 di, .slice dx df.length dq] 27 (0, 0)) zx28_16 hb); have gg := Aside0.mk ((by rw [hg]; exact Nat.ne_of_lt (blk_lt (g := bj) (o := .cells #[.string dW, .int .u64 dY, .int .u64 dL, .slice dc dp.length db, .int .u64 dK, .int .u64 d3, .int .u64 dS] 37 (0, 0)) zx28_28) : bj ≠ bb)); have hw := Aside0.mk ((by rw [hg]; exact Nat.ne_of_gt (blk_lt (g := bj) (o := .cells #[.string dW, .int .u64 dY, .int .u64 dL, .slice dc dp.length db, .int .u64 dK, .int .u64 d3, .int .u64 dS] 37 (0, 0)) zx28_28) : bb ≠ bj)); replace bz := Aside0.mk (blk_below (g := bj) (o := .cells #[.string dW, .int .u64 dY, .int .u64 dL, .slice dc dp.length db, .int .u64 dK, .int .u64 d3, .int .u64 dS] 37 (0, 0)) zx28_28 hb); clear hb hbox hg; have o5 := hB.out; have oN := gp.out; have o4 := hA.out; have oM := gn.out; have o3 := hz.out; have oL := gl.out; have o2 := hy.out; have oK := gj.out; have o1 := hx.out; have oJ := gh.out; have o0 := hw.out; have oI := gg.out; have mj : dT.cell? ⟨bb, 0, none⟩ = some (.string (⟨#[]⟩ : ByteArray)) := (blk_cell bC.out 0).trans rfl; have mi : dT.cell? ⟨bb, 1, none⟩ = some (.int .u64 0) := (blk_cell bC.out 1).trans rfl; have mh : dT.cell? ⟨bb, 2, none⟩ = some (.int .u64 0) := (blk_cell bC.out 2).trans rfl; have mg : dT.cell? ⟨bb, 3, none⟩ = some (.slice none 0 0) := (blk_cell bC.out 3).trans rfl; have mf : dT.cell? ⟨bb, 4, none⟩ = some (.int .u64 0) := (blk_cell bC.out 4).trans rfl; have me : dT.cell? ⟨bb, 5, none⟩ = some (.int .u64 0) := (blk_cell bC.out 5).trans rfl; have md : dT.cell? ⟨bb, 6, none⟩ = some (.int .u64 0) := (blk_cell bC.out 6).trans rfl; have jX := blk_frozen bC.out 0; have jW := blk_frozen bC.out 1; have jV := blk_frozen bC.out 2; have jU := blk_frozen bC.out 3; have jT := blk_frozen bC.out 4; have jS := blk_frozen bC.out 5; have jR := blk_frozen bC.out 6; obtain ⟨bW, bS, mI⟩ := Kd.R_slice d0.out; subst mI))
   have n0_ : Aside0 (Kd.R (Kd.int .u64) 24 (((((((dT.setCell ⟨bb, 0, none⟩ (.string dl)).setCell ⟨bb, 1, none⟩ (.int .u64 dn)).setCell ⟨bb, 2, none⟩ (.int .u64 de)).setCell ⟨bb, 3, none⟩ (.slice bW b7.length bS)).setCell ⟨bb, 4, none⟩ (.int .u64 dd)).setCell ⟨bb, 5, none⟩ (.int .u64 dy)).setCell ⟨bb, 6, none⟩ (.int .u64 dj)) w.heap.size (fun k_ => some k_ ≠ (.slice dc dp.length db : Value).ownBlock ∧ some k_ ≠ (.slice bW b7.length bS : Value).ownBlock) (.slice (some bl) bh.length bH) bh) := ⟨by (with_reducible repeat (first | apply Kd.R_alloc | apply Kd.R_drewN | apply Kd.R_drew)); exact Kd.R_mono (Kd.R_far (p := ⟨bb, 6, none⟩) (Kd.R_far (p := ⟨bb, 5, none⟩) (Kd.R_far (p := ⟨bb, 4, none⟩) (Kd.R_far (p := ⟨bb, 3, none⟩) (Kd.R_far (p := ⟨bb, 2, none⟩) (Kd.R_far (p := ⟨bb, 1, none⟩) (Kd.R_far (p := ⟨bb, 0, none⟩) (Kd.R_types bm.out bC.out (by decide)) (fun _ hk => hk.2) (.string dl)) (fun _ hk => hk.2) (.int .u64 dn)) (fun _ hk => hk.2) (.int .u64 de)) (fun _ hk => hk.2) (.slice bW b7.length bS)) (fun _ hk => hk.2) (.int .u64 dd)) (fun _ hk => hk.2) (.int .u64 dy)) (fun _ hk => hk.2) (.int .u64 dj)) (fun _ hk => ⟨hk.1.1.2, hk.1.2⟩)⟩
   have n1_ : Aside0 (Kd.V k37 37 (((((((dT.setCell ⟨bb, 0, none⟩ (.string dl)).setCell ⟨bb, 1, none⟩ (.int .u64 dn)).setCell ⟨bb, 2, none⟩ (.int .u64 de)).setCell ⟨bb, 3, none⟩ (.slice bW b7.length bS)).setCell ⟨bb, 4, none⟩ (.int .u64 dd)).setCell ⟨bb, 5, none⟩ (.int .u64 dy)).setCell ⟨bb, 6, none⟩ (.int .u64 dj)) w.heap.size (fun k_ => some k_ ≠ (.slice (some bl) bh.length bH : Value).ownBlock ∧ some k_ ≠ (.slice dc dp.length db : Value).ownBlock ∧ some k_ ≠ (.slice bW b7.length bS : Value).ownBlock ∧ k_ ≠ ba ∧ k_ ≠ bc ∧ k_ ≠ bd ∧ k_ ≠ be ∧ k_ ≠ bi ∧ k_ ≠ bj ∧ k_ ≠ bb) (.slice bw bk.length bu) bk) := ⟨by (with_reducible repeat (first | apply Kd.V_alloc | apply Kd.V_drewN | apply Kd.V_drew)); exact Kd.V_mono (Kd.V_far (p := ⟨bb, 6, none⟩) (Kd.V_far (p := ⟨bb, 5, none⟩) (Kd.V_far (p := ⟨bb, 4, none⟩) (Kd.V_far (p := ⟨bb, 3, none⟩) (Kd.V_far (p := ⟨bb, 2, none⟩) (Kd.V_far (p := ⟨bb, 1, none⟩) (Kd.V_far (p := ⟨bb, 0, none⟩) (Kd.V_mono bf.out (fun k_ hk => (⟨hk, hk.2⟩ : _ ∧ k_ ≠ bb))) (fun _ hk => hk.2) (.string dl)) (fun _ hk => hk.2) (.int .u64 dn)) (fun _ hk => hk.2) (.int .u64 de)) (fun _ hk => hk.2) (.slice bW b7.length bS)) (fun _ hk => hk.2) (.int .u64 dd)) (fun _ hk => hk.2) (.int .u64 dy)) (fun _ hk => hk.2) (.int .u64 dj)) (fun _ hk => ⟨hk.1.1.1.1.1.1, ⟨hk.1.1.1.1.2, ⟨hk.1.1.2, ⟨hk.1.1.1.1.1.2.1, ⟨hk.1.1.1.1.1.2.2.1, ⟨hk.1.1.1.1.1.2.2.2.1, ⟨hk.1.1.1.1.1.2.2.2.2.1, ⟨hk.1.1.1.1.1.2.2.2.2.2, ⟨hk.1.1.1.2, hk.1.2⟩⟩⟩⟩⟩⟩⟩⟩⟩)⟩
   have n2_ : Aside0 (Kd.V k37 37 (((((((dT.setCell ⟨bb, 0, none⟩ (.string dl)).setCell ⟨bb, 1, none⟩ (.int .u64 dn)).setCell ⟨bb, 2, none⟩ (.int .u64 de)).setCell ⟨bb, 3, none⟩ (.slice bW b7.length bS)).setCell ⟨bb, 4, none⟩ (.int .u64 dd)).setCell ⟨bb, 5, none⟩ (.int .u64 dy)).setCell ⟨bb, 6, none⟩ (.int .u64 dj)) w.heap.size (fun k_ => some k_ ≠ (.slice (some bl) bh.length bH : Value).ownBlock ∧ some k_ ≠ (.slice dc dp.length db : Value).ownBlock ∧ some k_ ≠ (.slice bW b7.length bS : Value).ownBlock ∧ k_ ≠ ba ∧ k_ ≠ bc ∧ k_ ≠ bd ∧ k_ ≠ be ∧ k_ ≠ bi ∧ k_ ≠ bj ∧ k_ ≠ bb) (.slice bL bx.length bK) bx) := ⟨by (with_reducible repeat (first | apply Kd.V_alloc | apply Kd.V_drewN | apply Kd.V_drew)); exact Kd.V_mono (Kd.V_far (p := ⟨bb, 6, none⟩) (Kd.V_far (p := ⟨bb, 5, none⟩) (Kd.V_far (p := ⟨bb, 4, none⟩) (Kd.V_far (p := ⟨bb, 3, none⟩) (Kd.V_far (p := ⟨bb, 2, none⟩) (Kd.V_far (p := ⟨bb, 1, none⟩) (Kd.V_far (p := ⟨bb, 0, none⟩) (Kd.V_mono br.out (fun k_ hk => (⟨hk, hk.2⟩ : _ ∧ k_ ≠ bb))) (fun _ hk => hk.2) (.string dl)) (fun _ hk => hk.2) (.int .u64 dn)) (fun _ hk => hk.2) (.int .u64 de)) (fun _ hk => hk.2) (.slice bW b7.length bS)) (fun _ hk => hk.2) (.int .u64 dd)) (fun _ hk => hk.2) (.int .u64 dy)) (fun _ hk => hk.2) (.int .u64 dj)) (fun _ hk => ⟨hk.1.1.1.1.1.1, ⟨hk.1.1.1.1.2, ⟨hk.1.1.2, ⟨hk.1.1.1.1.1.2.1, ⟨hk.1.1.1.1.1.2.2.1, ⟨hk.1.1.1.1.1.2.2.2.1, ⟨hk.1.1.1.1.1.2.2.2.2.1, ⟨hk.1.1.1.1.1.2.2.2.2.2, ⟨hk.1.1.1.2, hk.1.2⟩⟩⟩⟩⟩⟩⟩⟩⟩)⟩
   have n3_ : Aside0 (Kd.V k37 37 (((((((dT.setCell ⟨bb, 0, none⟩ (.string dl)).setCell ⟨bb, 1, none⟩ (.int .u64 dn)).setCell ⟨bb, 2, none⟩ (.int .u64 de)).setCell ⟨bb, 3, none⟩ (.slice bW b7.length bS)).setCell ⟨bb, 4, none⟩ (.int .u64 dd)).setCell ⟨bb, 5, none⟩ (.int .u64 dy)).setCell ⟨bb, 6, none⟩ (.int .u64 dj)) w.heap.size (fun k_ => some k_ ≠ (.slice (some bl) bh.length bH : Value).ownBlock ∧ some k_ ≠ (.slice dc dp.length db : Value).ownBlock ∧ some k_ ≠ (.slice bW b7.length bS : Value).ownBlock ∧ k_ ≠ ba ∧ k_ ≠ bc ∧ k_ ≠ bd ∧ k_ ≠ be ∧ k_ ≠ bi ∧ k_ ≠ bj ∧ k_ ≠ bb) (.slice bZ bB.length bX) bB) := ⟨by (with_reducible repeat (first | apply Kd.V_alloc | apply Kd.V_drewN | apply Kd.V_drew)); exact Kd.V_mono (Kd.V_far (p := ⟨bb, 6, none⟩) (Kd.V_far (p := ⟨bb, 5, none⟩) (Kd.V_far (p := ⟨bb, 4, none⟩) (Kd.V_far (p := ⟨bb, 3, none⟩) (Kd.V_far (p := ⟨bb, 2, none⟩) (Kd.V_far (p := ⟨bb, 1, none⟩) (Kd.V_far (p := ⟨bb, 0, none⟩) (Kd.V_mono bI.out (fun k_ hk => (⟨hk, hk.2⟩ : _ ∧ k_ ≠ bb))) (fun _ hk => hk.2) (.string dl)) (fun _ hk => hk.2) (.int .u64 dn)) (fun _ hk => hk.2) (.int .u64 de)) (fun _ hk => hk.2) (.slice bW b7.length bS)) (fun _ hk => hk.2) (.int .u64 dd)) (fun _ hk => hk.2) (.int .u64 dy)) (fun _ hk => hk.2) (.int .u64 dj)) (fun _ hk => ⟨hk.1.1.1.1.1.1, ⟨hk.1.1.1.1.2, ⟨hk.1.1.2, ⟨hk.1.1.1.1.1.2.1, ⟨hk.1.1.1.1.1.2.2.1, ⟨hk.1.1.1.1.1.2.2.2.1, ⟨hk.1.1.1.1.1.2.2.2.2.1, ⟨hk.1.1.1.1.1.2.2.2.2.2, ⟨hk.1.1.1.2, hk.1.2⟩⟩⟩⟩⟩⟩⟩⟩⟩)⟩
   have n4_ : Aside0 (Kd.V k37 37 (((((((dT.setCell ⟨bb, 0, none⟩ (.string dl)).setCell ⟨bb, 1, none⟩ (.int .u64 dn)).setCell ⟨bb, 2, none⟩ (.int .u64 de)).setCell ⟨bb, 3, none⟩ (.slice bW b7.length bS)).setCell ⟨bb, 4, none⟩ (.int .u64 dd)).setCell ⟨bb, 5, none⟩ (.int .u64 dy)).setCell ⟨bb, 6, none⟩ (.int .u64 dj)) w.heap.size (fun k_ => some k_ ≠ (.slice (some bl) bh.length bH : Value).ownBlock ∧ some k_ ≠ (.slice dc dp.length db : Value).ownBlock ∧ some k_ ≠ (.slice bW b7.length bS : Value).ownBlock ∧ k_ ≠ ba ∧ k_ ≠ bc ∧ k_ ≠ bd ∧ k_ ≠ be ∧ k_ ≠ bi ∧ k_ ≠ bj ∧ k_ ≠ bb) (.slice b6 bY.length b5) bY) := ⟨by (with_reducible repeat (first | apply Kd.V_alloc | apply Kd.V_drewN | apply Kd.V_drew)); exact Kd.V_mono (Kd.V_far (p := ⟨bb, 6, none⟩) (Kd.V_far (p := ⟨bb, 5, none⟩) (Kd.V_far (p := ⟨bb, 4, none⟩) (Kd.V_far (p := ⟨bb, 3, none⟩) (Kd.V_far (p := ⟨bb, 2, none⟩) (Kd.V_far (p := ⟨bb, 1, none⟩) (Kd.V_far (p := ⟨bb, 0, none⟩) (Kd.V_mono b2.out (fun k_ hk => (⟨hk, hk.2⟩ : _ ∧ k_ ≠ bb))) (fun _ hk => hk.2) (.string dl)) (fun _ hk => hk.2) (.int .u64 dn)) (fun _ hk => hk.2) (.int .u64 de)) (fun _ hk => hk.2) (.slice bW b7.length bS)) (fun _ hk => hk.2) (.int .u64 dd)) (fun _ hk => hk.2) (.int .u64 dy)) (fun _ hk => hk.2) (.int .u64 dj)) (fun _ hk => ⟨hk.1.1.1.1.1.1, ⟨hk.1.1.1.1.2, ⟨hk.1.1.2, ⟨hk.1.1.1.1.1.2.1, ⟨hk.1.1.1.1.1.2.2.1, ⟨hk.1.1.1.1.1.2.2.2.1, ⟨hk.1.1.1.1.1.2.2.2.2.1, ⟨hk.1.1.1.1.1.2.2.2.2.2, ⟨hk.1.1.1.2, hk.1.2⟩⟩⟩⟩⟩⟩⟩⟩⟩)⟩
   have n5_ : Aside0 (Kd.V k37 37 (((((((dT.setCell ⟨bb, 0, none⟩ (.string dl)).setCell ⟨bb, 1, none⟩ (.int .u64 dn)).setCell ⟨bb, 2, none⟩ (.int .u64 de)).setCell ⟨bb, 3, none⟩ (.slice bW b7.length bS)).setCell ⟨bb, 4, none⟩ (.int .u64 dd)).setCell ⟨bb, 5, none⟩ (.int .u64 dy)).setCell ⟨bb, 6, none⟩ (.int .u64 dj)) w.heap.size (fun k_ => some k_ ≠ (.slice (some bl) bh.length bH : Value).ownBlock ∧ some k_ ≠ (.slice dc dp.length db : Value).ownBlock ∧ some k_ ≠ (.slice bW b7.length bS : Value).ownBlock ∧ k_ ≠ ba ∧ k_ ≠ bc ∧ k_ ≠ bd ∧ k_ ≠ be ∧ k_ ≠ bi ∧ k_ ≠ bj ∧ k_ ≠ bb) (.slice dx df.length dq) df) := ⟨by (with_reducible repeat (first | apply Kd.V_alloc | apply Kd.V_drewN | apply Kd.V_drew)); exact Kd.V_mono (Kd.V_far (p := ⟨bb, 6, none⟩) (Kd.V_far (p := ⟨bb, 5, none⟩) (Kd.V_far (p := ⟨bb, 4, none⟩) (Kd.V_far (p := ⟨bb, 3, none⟩) (Kd.V_far (p := ⟨bb, 2, none⟩) (Kd.V_far (p := ⟨bb, 1, none⟩) (Kd.V_far (p := ⟨bb, 0, none⟩) (Kd.V_mono dk.out (fun k_ hk => (⟨hk, hk.2⟩ : _ ∧ k_ ≠ bb))) (fun _ hk => hk.2) (.string dl)) (fun _ hk => hk.2) (.int .u64 dn)) (fun _ hk => hk.2) (.int .u64 de)) (fun _ hk => hk.2) (.slice bW b7.length bS)) (fun _ hk => hk.2) (.int .u64 dd)) (fun _ hk => hk.2) (.int .u64 dy)) (fun _ hk => hk.2) (.int .u64 dj)) (fun _ hk => ⟨hk.1.1.1.1.1.1, ⟨hk.1.1.1.1.2, ⟨hk.1.1.2, ⟨hk.1.1.1.1.1.2.1, ⟨hk.1.1.1.1.1.2.2.1, ⟨hk.1.1.1.1.1.2.2.2.1, ⟨hk.1.1.1.1.1.2.2.2.2.1, ⟨hk.1.1.1.1.1.2.2.2.2.2, ⟨hk.1.1.1.2, hk.1.2⟩⟩⟩⟩⟩⟩⟩⟩⟩)⟩
   have n6_ : Aside0 (Kd.R (Kd.int .u64) 24 (((((((dT.setCell ⟨bb, 0, none⟩ (.string dl)).setCell ⟨bb, 1, none⟩ (.int .u64 dn)).setCell ⟨bb, 2, none⟩ (.int .u64 de)).setCell ⟨bb, 3, none⟩ (.slice bW b7.length bS)).setCell ⟨bb, 4, none⟩ (.int .u64 dd)).setCell ⟨bb, 5, none⟩ (.int .u64 dy)).setCell ⟨bb, 6, none⟩ (.int .u64 dj)) w.heap.size (fun k_ => some k_ ≠ (.slice (some bl) bh.length bH : Value).ownBlock ∧ some k_ ≠ (.slice bW b7.length bS : Value).ownBlock) (.slice dc dp.length db) dp) := ⟨by (with_reducible repeat (first | apply Kd.R_alloc | apply Kd.R_drewN | apply Kd.R_drew)); exact Kd.R_mono (Kd.R_far (p := ⟨bb, 6, none⟩) (Kd.R_far (p := ⟨bb, 5, none⟩) (Kd.R_far (p := ⟨bb, 4, none⟩) (Kd.R_far (p := ⟨bb, 3, none⟩) (Kd.R_far (p := ⟨bb, 2, none⟩) (Kd.R_far (p := ⟨bb, 1, none⟩) (Kd.R_far (p := ⟨bb, 0, none⟩) (Kd.R_types dQ.out bC.out (by decide)) (fun _ hk => hk.2) (.string dl)) (fun _ hk => hk.2) (.int .u64 dn)) (fun _ hk => hk.2) (.int .u64 de)) (fun _ hk => hk.2) (.slice bW b7.length bS)) (fun _ hk => hk.2) (.int .u64 dd)) (fun _ hk => hk.2) (.int .u64 dy)) (fun _ hk => hk.2) (.int .u64 dj)) (fun _ hk => ⟨hk.1.1.2, hk.1.2⟩)⟩
   have n7_ : Aside0 (Kd.R (Kd.int .u64) 24 (((((((dT.setCell ⟨bb, 0, none⟩ (.string dl)).setCell ⟨bb, 1, none⟩ (.int .u64 dn)).setCell ⟨bb, 2, none⟩ (.int .u64 de)).setCell ⟨bb, 3, none⟩ (.slice bW b7.length bS)).setCell ⟨bb, 4, none⟩ (.int .u64 dd)).setCell ⟨bb, 5, none⟩ (.int .u64 dy)).setCell ⟨bb, 6, none⟩ (.int .u64 dj)) w.heap.size (fun k_ => some k_ ≠ (.slice (some bl) bh.length bH : Value).ownBlock ∧ some k_ ≠ (.slice dc dp.length db : Value).ownBlock) (.slice bW b7.length bS) b7) := ⟨by (with_reducible repeat (first | apply Kd.R_alloc | apply Kd.R_drewN | apply Kd.R_drew)); exact Kd.R_mono (Kd.R_far (p := ⟨bb, 6, none⟩) (Kd.R_far (p := ⟨bb, 5, none⟩) (Kd.R_far (p := ⟨bb, 4, none⟩) (Kd.R_far (p := ⟨bb, 3, none⟩) (Kd.R_far (p := ⟨bb, 2, none⟩) (Kd.R_far (p := ⟨bb, 1, none⟩) (Kd.R_far (p := ⟨bb, 0, none⟩) (Kd.R_types d0.out bC.out (by decide)) (fun _ hk => hk.2) (.string dl)) (fun _ hk => hk.2) (.int .u64 dn)) (fun _ hk => hk.2) (.int .u64 de)) (fun _ hk => hk.2) (.slice bW b7.length bS)) (fun _ hk => hk.2) (.int .u64 dd)) (fun _ hk => hk.2) (.int .u64 dy)) (fun _ hk => hk.2) (.int .u64 dj)) (fun _ hk => ⟨hk.1.1.2, hk.1.2⟩)⟩
   have n8_ : Aside0 ((((((((dT.setCell ⟨bb, 0, none⟩ (.string dl)).setCell ⟨bb, 1, none⟩ (.int .u64 dn)).setCell ⟨bb, 2, none⟩ (.int .u64 de)).setCell ⟨bb, 3, none⟩ (.slice bW b7.length bS)).setCell ⟨bb, 4, none⟩ (.int .u64 dd)).setCell ⟨bb, 5, none⟩ (.int .u64 dy)).setCell ⟨bb, 6, none⟩ (.int .u64 dj)).heap[ba]? = some (.cells #[.int .u64 bo, .int .u64 bp, .slice bw bk.length bu] 27 (0, 0))) := ⟨by (iterate 7 ((with_reducible repeat (first | refine blk_drewN ?_ _ | refine blk_drew ?_ | refine blk_alloc ?_ _)); refine blk_far ?_ gp.out _)); (with_reducible repeat (first | refine blk_drewN ?_ _ | refine blk_drew ?_ | refine blk_alloc ?_ _)); exact bg.out⟩
   have n9_ : Aside0 ((((((((dT.setCell ⟨bb, 0, none⟩ (.string dl)).setCell ⟨bb, 1, none⟩ (.int .u64 dn)).setCell ⟨bb, 2, none⟩ (.int .u64 de)).setCell ⟨bb, 3, none⟩ (.slice bW b7.length bS)).setCell ⟨bb, 4, none⟩ (.int .u64 dd)).setCell ⟨bb, 5, none⟩ (.int .u64 dy)).setCell ⟨bb, 6, none⟩ (.int .u64 dj)).heap[bc]? = some (.cells #[.int .u64 bJ, .int .u64 bN, .slice bL bx.length bK] 27 (0, 0))) := ⟨by (iterate 7 ((with_reducible repeat (first | refine blk_drewN ?_ _ | refine blk_drew ?_ | refine blk_alloc ?_ _)); refine blk_far ?_ gn.out _)); (with_reducible repeat (first | refine blk_drewN ?_ _ | refine blk_drew ?_ | refine blk_alloc ?_ _)); exact bn.out⟩
   have n10_ : Aside0 ((((((((dT.setCell ⟨bb, 0, none⟩ (.string dl)).setCell ⟨bb, 1, none⟩ (.int .u64 dn)).setCell ⟨bb, 2, none⟩ (.int .u64 de)).setCell ⟨bb, 3, none⟩ (.slice bW b7.length bS)).setCell ⟨bb, 4, none⟩ (.int .u64 dd)).setCell ⟨bb, 5, none⟩ (.int .u64 dy)).setCell ⟨bb, 6, none⟩ (.int .u64 dj)).heap[bd]? = some (.cells #[.int .u64 bM, .int .u64 bP, .slice bZ bB.length bX] 27 (0, 0))) := ⟨by (iterate 7 ((with_reducible repeat (first | refine blk_drewN ?_ _ | refine blk_drew ?_ | refine blk_alloc ?_ _)); refine blk_far ?_ gl.out _)); (with_reducible repeat (first | refine blk_drewN ?_ _ | refine blk_drew ?_ | refine blk_alloc ?_ _)); exact bq.out⟩
   have n11_ : Aside0 ((((((((dT.setCell ⟨bb, 0, none⟩ (.string dl)).setCell ⟨bb, 1, none⟩ (.int .u64 dn)).setCell ⟨bb, 2, none⟩ (.int .u64 de)).setCell ⟨bb, 3, none⟩ (.slice bW b7.length bS)).setCell ⟨bb, 4, none⟩ (.int .u64 dd)).setCell ⟨bb, 5, none⟩ (.int .u64 dy)).setCell ⟨bb, 6, none⟩ (.int .u64 dj)).heap[be]? = some (.cells #[.int .u64 b1, .int .u64 b3, .slice b6 bY.length b5] 27 (0, 0))) := ⟨by (iterate 7 ((with_reducible repeat (first | refine blk_drewN ?_ _ | refine blk_drew ?_ | refine blk_alloc ?_ _)); refine blk_far ?_ gj.out _)); (with_reducible repeat (first | refine blk_drewN ?_ _ | refine blk_drew ?_ | refine blk_alloc ?_ _)); exact bA.out⟩
   have n12_ : Aside0 ((((((((dT.setCell ⟨bb, 0, none⟩ (.string dl)).setCell ⟨bb, 1, none⟩ (.int .u64 dn)).setCell ⟨bb, 2, none⟩ (.int .u64 de)).setCell ⟨bb, 3, none⟩ (.slice bW b7.length bS)).setCell ⟨bb, 4, none⟩ (.int .u64 dd)).setCell ⟨bb, 5, none⟩ (.int .u64 dy)).setCell ⟨bb, 6, none⟩ (.int .u64 dj)).heap[bi]? = some (.cells #[.int .u64 dg, .int .u64 di, .slice dx df.length dq] 27 (0, 0))) := ⟨by (iterate 7 ((with_reducible repeat (first | refine blk_drewN ?_ _ | refine blk_drew ?_ | refine blk_alloc ?_ _)); refine blk_far ?_ gh.out _)); (with_reducible repeat (first | refine blk_drewN ?_ _ | refine blk_drew ?_ | refine blk_alloc ?_ _)); exact bO.out⟩
   have n13_ : Aside0 ((((((((dT.setCell ⟨bb, 0, none⟩ (.string dl)).setCell ⟨bb, 1, none⟩ (.int .u64 dn)).setCell ⟨bb, 2, none⟩ (.int .u64 de)).setCell ⟨bb, 3, none⟩ (.slice bW b7.length bS)).setCell ⟨bb, 4, none⟩ (.int .u64 dd)).setCell ⟨bb, 5, none⟩ (.int .u64 dy)).setCell ⟨bb, 6, none⟩ (.int .u64 dj)).heap[bj]? = some (.cells #[.string dW, .int .u64 dY, .int .u64 dL, .slice dc dp.length db, .int .u64 dK, .int .u64 d3, .int .u64 dS] 37 (0, 0))) := ⟨by (iterate 7 ((with_reducible repeat (first | refine blk_drewN ?_ _ | refine blk_drew ?_ | refine blk_alloc ?_ _)); refine blk_far ?_ gg.out _)); (with_reducible repeat (first | refine blk_drewN ?_ _ | refine blk_drew ?_ | refine blk_alloc ?_ _)); exact bz.out⟩
   have n14_ : Aside0 ((((((((dT.setCell ⟨bb, 0, none⟩ (.string dl)).setCell ⟨bb, 1, none⟩ (.int .u64 dn)).setCell ⟨bb, 2, none⟩ (.int .u64 de)).setCell ⟨bb, 3, none⟩ (.slice bW b7.length bS)).setCell ⟨bb, 4, none⟩ (.int .u64 dd)).setCell ⟨bb, 5, none⟩ (.int .u64 dy)).setCell ⟨bb, 6, none⟩ (.int .u64 dj)).heap[bb]? = some (.cells #[.string dl, .int .u64 dn, .int .u64 de, .slice bW b7.length bS, .int .u64 dd, .int .u64 dy, .int .u64 dj] 37 (0, 0))) := ⟨by (with_reducible repeat (first | refine blk_drewN ?_ _ | refine blk_drew ?_ | refine blk_alloc ?_ _)); refine blk_put (cs := #[.string dl, .int .u64 dn, .int .u64 de, .slice bW b7.length bS, .int .u64 dd, .int .u64 dy, .int .u64 0]) ?_ 6 _ rfl; (with_reducible repeat (first | refine blk_drewN ?_ _ | refine blk_drew ?_ | refine blk_alloc ?_ _)); refine blk_put (cs := #[.string dl, .int .u64 dn, .int .u64 de, .slice bW b7.length bS, .int .u64 dd, .int .u64 0, .int .u64 0]) ?_ 5 _ rfl; (with_reducible repeat (first | refine blk_drewN ?_ _ | refine blk_drew ?_ | refine blk_alloc ?_ _)); refine blk_put (cs := #[.string dl, .int .u64 dn, .int .u64 de, .slice bW b7.length bS, .int .u64 0, .int .u64 0, .int .u64 0]) ?_ 4 _ rfl; (with_reducible repeat (first | refine blk_drewN ?_ _ | refine blk_drew ?_ | refine blk_alloc ?_ _)); refine blk_put (cs := #[.string dl, .int .u64 dn, .int .u64 de, .slice none 0 0, .int .u64 0, .int .u64 0, .int .u64 0]) ?_ 3 _ rfl; (with_reducible repeat (first | refine blk_drewN ?_ _ | refine blk_drew ?_ | refine blk_alloc ?_ _)); refine blk_put (cs := #[.string dl, .int .u64 dn, .int .u64 0, .slice none 0 0, .int .u64 0, .int .u64 0, .int .u64 0]) ?_ 2 _ rfl; (with_reducible repeat (first | refine blk_drewN ?_ _ | refine blk_drew ?_ | refine blk_alloc ?_ _)); refine blk_put (cs := #[.string dl, .int .u64 0, .int .u64 0, .slice none 0 0, .int .u64 0, .int .u64 0, .int .u64 0]) ?_ 1 _ rfl; (with_reducible repeat (first | refine blk_drewN ?_ _ | refine blk_drew ?_ | refine blk_alloc ?_ _)); refine blk_put (cs := #[.string (⟨#[]⟩ : ByteArray), .int .u64 0, .int .u64 0, .slice none 0 0, .int .u64 0, .int .u64 0, .int .u64 0]) ?_ 0 _ rfl; (with_reducible repeat (first | refine blk_drewN ?_ _ | refine blk_drew ?_ | refine blk_alloc ?_ _)); exact bC.out⟩
   have n15_ : Aside0 (Below w.heap.size w (((((((dT.setCell ⟨bb, 0, none⟩ (.string dl)).setCell ⟨bb, 1, none⟩ (.int .u64 dn)).setCell ⟨bb, 2, none⟩ (.int .u64 de)).setCell ⟨bb, 3, none⟩ (.slice bW b7.length bS)).setCell ⟨bb, 4, none⟩ (.int .u64 dd)).setCell ⟨bb, 5, none⟩ (.int .u64 dy)).setCell ⟨bb, 6, none⟩ (.int .u64 dj))) := ⟨by repeat (first | (with_reducible first | exact HB.out | apply below_alloc | apply pw_below_drewN | apply below_drew1 | refine below_set ?_ dI.out | refine below_set ?_ dV.out | refine below_set ?_ d1.out | refine below_set ?_ d4.out | refine below_set ?_ d9.out | refine below_set ?_ hv.out | refine below_set ?_ hW.out) | exact HB.out)⟩
   (try clear bm)
   (try clear bf)
   (try clear br)
   (try clear bI)
   (try clear b2)
   (try clear dk)
   (try clear dQ)
   (try clear d0)
   (try clear bg)
   (try clear bn)
   (try clear bq)
   (try clear bA)
   (try clear bO)
   (try clear bz)
   (try clear bC)
   (try clear HB)
   generalize (((((((dT.setCell ⟨bb, 0, none⟩ (.string dl)).setCell ⟨bb, 1, none⟩ (.int .u64 dn)).setCell ⟨bb, 2, none⟩ (.int .u64 de)).setCell ⟨bb, 3, none⟩ (.slice bW b7.length bS)).setCell ⟨bb, 4, none⟩ (.int .u64 dd)).setCell ⟨bb, 5, none⟩ (.int .u64 dy)).setCell ⟨bb, 6, none⟩ (.int .u64 dj)) = oF at n0_ n1_ n2_ n3_ n4_ n5_ n6_ n7_ n8_ n9_ n10_ n11_ n12_ n13_ n14_ n15_ ⊢
   have bm := n0_
   have bf := n1_
   have br := n2_
   have bI := n3_
   have b2 := n4_
   have dk := n5_
   have dQ := n6_
   have d0 := n7_
   have bg := n8_
   have bn := n9_
   have bq := n10_
   have bA := n11_
   have bO := n12_
   have bz := n13_
   have bC := n14_
   have HB := n15_
   clear n0_ n1_ n2_ n3_ n4_ n5_ n6_ n7_ n8_ n9_ n10_ n11_ n12_ n13_ n14_ n15_
   replace bm := Aside0.mk (Kd.R_drew bm.out)
   replace bf := Aside0.mk (Kd.V_drew bf.out)
   replace br := Aside0.mk (Kd.V_drew br.out)
   replace bI := Aside0.mk (Kd.V_drew bI.out)
   replace b2 := Aside0.mk (Kd.V_drew b2.out)
   replace dk := Aside0.mk (Kd.V_drew dk.out)
   replace dQ := Aside0.mk (Kd.R_drew dQ.out)
   replace d0 := Aside0.mk (Kd.R_drew d0.out)
   replace bg := Aside0.mk (blk_drew bg.out)
   replace bn := Aside0.mk (blk_drew bn.out)
   replace bq := Aside0.mk (blk_drew bq.out)
   replace bA := Aside0.mk (blk_drew bA.out)
   replace bO := Aside0.mk (blk_drew bO.out)
   replace bz := Aside0.mk (blk_drew bz.out)
   replace bC := Aside0.mk (blk_drew bC.out)
   replace HB := Aside0.mk (below_drew1 HB.out)
   refine start_ (n := 56) (S := fun w' => w'.cell? ⟨bj, 0, none⟩ = some (.string dW) ∧ w'.cell? ⟨bj, 1, none⟩ = some (.int .u64 dY) ∧ w'.cell? ⟨bj, 2, none⟩ = some (.int .u64 dL) ∧ w'.cell? ⟨bj, 3, none⟩ = some (.slice dc dp.length db) ∧ w'.cell? ⟨bj, 4, none⟩ = some (.int .u64 dK) ∧ w'.cell? ⟨bj, 5, none⟩ = some (.int .u64 d3) ∧ w'.cell? ⟨bj, 6, none⟩ = some (.int .u64 dS) ∧ w'.cell? ⟨bb, 0, none⟩ = some (.string dl) ∧ w'.cell? ⟨bb, 1, none⟩ = some (.int .u64 dn) ∧ w'.cell? ⟨bb, 2, none⟩ = some (.int .u64 de) ∧ w'.cell? ⟨bb, 3, none⟩ = some (.slice bW b7.length bS) ∧ w'.cell? ⟨bb, 4, none⟩ = some (.int .u64 dd) ∧ w'.cell? ⟨bb, 5, none⟩ = some (.int .u64 dy) ∧ w'.cell? ⟨bb, 6, none⟩ = some (.int .u64 dj) ∧ w'.cell? ⟨bd, 0, none⟩ = some (.int .u64 bM) ∧ w'.cell? ⟨bd, 1, none⟩ = some (.int .u64 bP) ∧ w'.cell? ⟨bd, 2, none⟩ = some (.slice bZ bB.length bX) ∧ w'.cell? ⟨bi, 0, none⟩ = some (.int .u64 dg) ∧ w'.cell? ⟨bi, 1, none⟩ = some (.int .u64 di) ∧ w'.cell? ⟨bi, 2, none⟩ = some (.slice dx df.length dq)) (ds := []) #[Ff,Ff,Ff,Ff,Ff,Ff,Ff,Ff,Ff,Ff,Ff,Ff,Ff,Ff,Ff,Ff,Ff,Ff,Ff,Ff,Ff,Ff,Ff,Ff,Ff,Ff,Ff,Ff,Ff,Ff,Ff,Ff,Ff,Ff,Ff,Ff,Ff,Ff,Ff,Ff,Ff,Ff,Ff,Ff,Ff,Ff,Ff,Ff,Ff,Ff,Ff,Ff,Ff,Ff,Ff,Ff] (by kernel_rfl) rfl rfl ⟨(blk_cell bz.out 0).trans rfl, (blk_cell bz.out 1).trans rfl, (blk_cell bz.out 2).trans rfl, (blk_cell bz.out 3).trans rfl, (blk_cell bz.out 4).trans rfl, (blk_cell bz.out 5).trans rfl, (blk_cell bz.out 6).trans rfl, (blk_cell bC.out 0).trans rfl, (blk_cell bC.out 1).trans rfl, (blk_cell bC.out 2).trans rfl, (blk_cell bC.out 3).trans rfl, (blk_cell bC.out 4).trans rfl, (blk_cell bC.out 5).trans rfl, (blk_cell bC.out 6).trans rfl, (blk_cell bq.out 0).trans rfl, (blk_cell bq.out 1).trans rfl, (blk_cell bq.out 2).trans rfl, (blk_cell bO.out 0).trans rfl, (blk_cell bO.out 1).trans rfl, (blk_cell bO.out 2).trans rfl⟩ (fun hHeld => ?_); refine with_tabW postroomlaw10_LedgerOrder.tab24 postroomlaw10_LedgerOrder.bits24 (fun HT_ HW_ => ?_)
   generalize oF.drew = q3 at bm bf br bI b2 dk dQ d0 bg bn bq bA bO bz bC HB hHeld ⊢
   refine pp_ 0 (some 121) HT_.out ?_
   refine pp_ 1 (some 122) HT_.out ?_
   refine pp_ 2 (some 123) HT_.out ?_
   refine pp_ 3 (some 124) HT_.out ?_
   refine pp_ 4 (some 125) HT_.out ?_
   refine pp_ 5 (some 126) HT_.out ?_
   refine pp_ 6 (some 127) HT_.out ?_
   refine pp_ 7 (some 128) HT_.out ?_
   refine pp_ 8 (some 129) HT_.out ?_
   refine pp_ 9 (some 130) HT_.out ?_
   refine pp_ 10 (some 131) HT_.out ?_
   refine pp_ 11 (some 132) HT_.out ?_
   refine pp_ 12 (some 133) HT_.out ?_
   refine pp_ 13 (some 134) HT_.out ?_
   refine pp_ 14 (some 135) HT_.out ?_
   refine pp_ 15 (some 136) HT_.out ?_
   refine pp_ 16 (some 137) HT_.out ?_
   refine pp_ 17 (some 138) HT_.out ?_
   refine pp_ 18 (some 139) HT_.out ?_
   refine pp_ 19 (some 140) HT_.out ?_
   refine pp_ 20 (some 141) HT_.out ?_
   refine pp_ 21 (some 142) HT_.out ?_
   refine pp_ 23 (some 144) HT_.out ?_
   refine take_ (i := 22) (N := some 143) (v := ?_) (a' := ?_) #[Tt,Tt,Tt,Tt,Tt,Tt,Tt,Tt,Tt,Tt,Tt,Tt,Tt,Tt,Tt,Tt,Tt,Tt,Tt,Tt,Tt,Tt,Tt,Tt,Ff,Ff,Ff,Ff,Ff,Ff,Ff,Ff,Ff,Ff,Ff,Ff,Ff,Ff,Ff,Ff,Ff,Ff,Ff,Ff,Ff,Ff,Ff,Ff,Ff,Ff,Ff,Ff,Ff,Ff,Ff,Ff] rfl rfl (take_ofW HT_.out HW_.out (by kernel_rfl)) (fun _ _ _ h => h) (Or.inl ⟨by rfl, ?_⟩) hHeld ?_ ?_
   rotate_left
   ·rintro w' ⟨s0, s1, s2, s3, s4, s5, s6, s7, s8, s9, s10, s11, s12, s13, s14, s15, s16, s17, s18, s19⟩
    go_simp
    with_reducible rfl
   rotate_left
   ·simp only [Act.put, List.setIfInBounds_toArray, List.set_cons_zero, List.set_cons_succ, i64_w, i32_w]
    rfl
   refine take_ (i := 24) (N := some 145) (v := ?_) (a' := ?_) #[Tt,Tt,Tt,Tt,Tt,Tt,Tt,Tt,Tt,Tt,Tt,Tt,Tt,Tt,Tt,Tt,Tt,Tt,Tt,Tt,Tt,Tt,Tt,Tt,Tt,Ff,Ff,Ff,Ff,Ff,Ff,Ff,Ff,Ff,Ff,Ff,Ff,Ff,Ff,Ff,Ff,Ff,Ff,Ff,Ff,Ff,Ff,Ff,Ff,Ff,Ff,Ff,Ff,Ff,Ff,Ff] rfl rfl (take_ofW HT_.out HW_.out (by kernel_rfl)) (fun _ _ _ h => h) (Or.inl ⟨by rfl, ?_⟩) hHeld ?_ ?_
   rotate_left
   ·rintro w' ⟨s0, s1, s2, s3, s4, s5, s6, s7, s8, s9, s10, s11, s12, s13, s14, s15, s16, s17, s18, s19⟩
    go_simp
    with_reducible rfl
   rotate_left
   ·simp only [Act.put, List.setIfInBounds_toArray, List.set_cons_zero, List.set_cons_succ, i64_w, i32_w]
    rfl
   refine pp_ 25 (some 146) HT_.out ?_
   refine pp_ 26 (some 147) HT_.out ?_
   refine pp_ 27 (some 148) HT_.out ?_
   refine pp_ 28 (some 149) HT_.out ?_
   refine pp_ 30 (some 151) HT_.out ?_
   refine take_ (i := 29) (N := some 150) (v := ?_) (a' := ?_) #[Tt,Tt,Tt,Tt,Tt,Tt,Tt,Tt,Tt,Tt,Tt,Tt,Tt,Tt,Tt,Tt,Tt,Tt,Tt,Tt,Tt,Tt,Tt,Tt,Tt,Tt,Tt,Tt,Tt,Tt,Tt,Ff,Ff,Ff,Ff,Ff,Ff,Ff,Ff,Ff,Ff,Ff,Ff,Ff,Ff,Ff,Ff,Ff,Ff,Ff,Ff,Ff,Ff,Ff,Ff,Ff] rfl rfl (take_ofW HT_.out HW_.out (by kernel_rfl)) (fun _ _ _ h => h) (Or.inl ⟨by rfl, ?_⟩) hHeld ?_ ?_
   rotate_left
   ·rintro w' ⟨s0, s1, s2, s3, s4, s5, s6, s7, s8, s9, s10, s11, s12, s13, s14, s15, s16, s17, s18, s19⟩
    go_simp
    with_reducible rfl
   rotate_left
   ·simp only [Act.put, List.setIfInBounds_toArray, List.set_cons_zero, List.set_cons_succ, i64_w, i32_w]
    rfl
   refine take_ (i := 31) (N := some 152) (v := ?_) (a' := ?_) #[Tt,Tt,Tt,Tt,Tt,Tt,Tt,Tt,Tt,Tt,Tt,Tt,Tt,Tt,Tt,Tt,Tt,Tt,Tt,Tt,Tt,Tt,Tt,Tt,Tt,Tt,Tt,Tt,Tt,Tt,Tt,Tt,Ff,Ff,Ff,Ff,Ff,Ff,Ff,Ff,Ff,Ff,Ff,Ff,Ff,Ff,Ff,Ff,Ff,Ff,Ff,Ff,Ff,Ff,Ff,Ff] rfl rfl (take_ofW HT_.out HW_.out (by kernel_rfl)) (fun _ _ _ h => h) (Or.inl ⟨by rfl, ?_⟩) hHeld ?_ ?_
   rotate_left
   ·rintro w' ⟨s0, s1, s2, s3, s4, s5, s6, s7, s8, s9, s10, s11, s12, s13, s14, s15, s16, s17, s18, s19⟩
    go_simp
    with_reducible rfl
   rotate_left
   ·simp only [Act.put, List.setIfInBounds_toArray, List.set_cons_zero, List.set_cons_succ, i64_w, i32_w]
    rfl
   refine one_ (i := 32) (N := some 153) #[Tt,Tt,Tt,Tt,Tt,Tt,Tt,Tt,Tt,Tt,Tt,Tt,Tt,Tt,Tt,Tt,Tt,Tt,Tt,Tt,Tt,Tt,Tt,Tt,Tt,Tt,Tt,Tt,Tt,Tt,Tt,Tt,Tt,Ff,Ff,Ff,Ff,Ff,Ff,Ff,Ff,Ff,Ff,Ff,Ff,Ff,Ff,Ff,Ff,Ff,Ff,Ff,Ff,Ff,Ff,Ff] rfl rfl (one_of HT_.out (by kernel_rfl)) (by decide) (fun K hK => ?_)
   refine goes_ Tryd.func21 (by kernel_rfl) rfl #[.slice dc dp.length db, .slice bW b7.length bS] (by rfl) rfl rfl zx28_3 ?_
   with_reducible refine (postroomref10_Same.calls b9 _ _ dp _ _ b7 true _ ?side1 ?side2 ?side3 ?side4 A66.out).mono ?_
   (case side1 => repeat (first | exact (Kd.R_reads' dQ.out).2.2 | (with_reducible refine Kd.C_alloc ?_ _) | (with_reducible refine Kd.C_drewN ?_ _) | (with_reducible refine Kd.C_drew ?_)))
   (case side2 => exact (Kd.R_reads' dQ.out).2.1)
   (case side3 => repeat (first | exact (Kd.R_reads' d0.out).2.2 | (with_reducible refine Kd.C_alloc ?_ _) | (with_reducible refine Kd.C_drewN ?_ _) | (with_reducible refine Kd.C_drew ?_)))
   (case side4 => exact (Kd.R_reads' d0.out).2.1)
   rintro e w' ⟨rfl, ⟨nd, rfl⟩⟩
   refine ⟨_, rfl, ?_⟩
   refine hK.out _ _ ⟨(blk_cell bz.out 0).trans rfl, (blk_cell bz.out 1).trans rfl, (blk_cell bz.out 2).trans rfl, (blk_cell bz.out 3).trans rfl, (blk_cell bz.out 4).trans rfl, (blk_cell bz.out 5).trans rfl, (blk_cell bz.out 6).trans rfl, (blk_cell bC.out 0).trans rfl, (blk_cell bC.out 1).trans rfl, (blk_cell bC.out 2).trans rfl, (blk_cell bC.out 3).trans rfl, (blk_cell bC.out 4).trans rfl, (blk_cell bC.out 5).trans rfl, (blk_cell bC.out 6).trans rfl, (blk_cell bq.out 0).trans rfl, (blk_cell bq.out 1).trans rfl, (blk_cell bq.out 2).trans rfl, (blk_cell bO.out 0).trans rfl, (blk_cell bO.out 1).trans rfl, (blk_cell bO.out 2).trans rfl⟩ (fun hHeld => ?_)
   clear hK K
   refine norm_ (a' := ?_) ?_ ?_
   rotate_left
   ·show Act.put _ (some 153) _ = _
    simp only [Act.put, List.setIfInBounds_toArray, List.set_cons_zero, List.set_cons_succ, i64_w, i32_w]
    rfl
   refine pp_ 33 (some 154) HT_.out ?_
   refine pp_ 34 (some 155) HT_.out ?_
   refine pp_ 35 (some 156) HT_.out ?_
   refine pp_ 37 (some 158) HT_.out ?_
   refine take_ (i := 36) (N := some 157) (v := ?_) (a' := ?_) #[Tt,Tt,Tt,Tt,Tt,Tt,Tt,Tt,Tt,Tt,Tt,Tt,Tt,Tt,Tt,Tt,Tt,Tt,Tt,Tt,Tt,Tt,Tt,Tt,Tt,Tt,Tt,Tt,Tt,Tt,Tt,Tt,Tt,Tt,Tt,Tt,Tt,Tt,Ff,Ff,Ff,Ff,Ff,Ff,Ff,Ff,Ff,Ff,Ff,Ff,Ff,Ff,Ff,Ff,Ff,Ff] rfl rfl (take_ofW HT_.out HW_.out (by kernel_rfl)) (fun _ _ _ h => h) (Or.inl ⟨by rfl, ?_⟩) hHeld ?_ ?_
   rotate_left
   ·rintro w' ⟨s0, s1, s2, s3, s4, s5, s6, s7, s8, s9, s10, s11, s12, s13, s14, s15, s16, s17, s18, s19⟩
    go_simp
    with_reducible rfl
   rotate_left
   ·simp only [Act.put, List.setIfInBounds_toArray, List.set_cons_zero, List.set_cons_succ, i64_w, i32_w]
    rfl
   refine take_ (i := 38) (N := some 159) (v := ?_) (a' := ?_) #[Tt,Tt,Tt,Tt,Tt,Tt,Tt,Tt,Tt,Tt,Tt,Tt,Tt,Tt,Tt,Tt,Tt,Tt,Tt,Tt,Tt,Tt,Tt,Tt,Tt,Tt,Tt,Tt,Tt,Tt,Tt,Tt,Tt,Tt,Tt,Tt,Tt,Tt,Tt,Ff,Ff,Ff,Ff,Ff,Ff,Ff,Ff,Ff,Ff,Ff,Ff,Ff,Ff,Ff,Ff,Ff] rfl rfl (take_ofW HT_.out HW_.out (by kernel_rfl)) (fun _ _ _ h => h) (Or.inl ⟨by rfl, ?_⟩) hHeld ?_ ?_
   rotate_left
   ·rintro w' ⟨s0, s1, s2, s3, s4, s5, s6, s7, s8, s9, s10, s11, s12, s13, s14, s15, s16, s17, s18, s19⟩
    go_simp
    with_reducible rfl
   rotate_left
   ·simp only [Act.put, List.setIfInBounds_toArray, List.set_cons_zero, List.set_cons_succ, i64_w, i32_w]
    rfl
   refine pp_ 39 (some 160) HT_.out ?_
   refine pp_ 40 (some 161) HT_.out ?_
   refine pp_ 41 (some 162) HT_.out ?_
   refine pp_ 42 (some 163) HT_.out ?_
   refine pp_ 44 (some 165) HT_.out ?_
   refine take_ (i := 43) (N := some 164) (v := ?_) (a' := ?_) #[Tt,Tt,Tt,Tt,Tt,Tt,Tt,Tt,Tt,Tt,Tt,Tt,Tt,Tt,Tt,Tt,Tt,Tt,Tt,Tt,Tt,Tt,Tt,Tt,Tt,Tt,Tt,Tt,Tt,Tt,Tt,Tt,Tt,Tt,Tt,Tt,Tt,Tt,Tt,Tt,Tt,Tt,Tt,Tt,Tt,Ff,Ff,Ff,Ff,Ff,Ff,Ff,Ff,Ff,Ff,Ff] rfl rfl (take_ofW HT_.out HW_.out (by kernel_rfl)) (fun _ _ _ h => h) (Or.inl ⟨by rfl, ?_⟩) hHeld ?_ ?_
   rotate_left
   ·rintro w' ⟨s0, s1, s2, s3, s4, s5, s6, s7, s8, s9, s10, s11, s12, s13, s14, s15, s16, s17, s18, s19⟩
    go_simp
    with_reducible rfl
   rotate_left
   ·simp only [Act.put, List.setIfInBounds_toArray, List.set_cons_zero, List.set_cons_succ, i64_w, i32_w]
    rfl
   refine take_ (i := 45) (N := some 166) (v := ?_) (a' := ?_) #[Tt,Tt,Tt,Tt,Tt,Tt,Tt,Tt,Tt,Tt,Tt,Tt,Tt,Tt,Tt,Tt,Tt,Tt,Tt,Tt,Tt,Tt,Tt,Tt,Tt,Tt,Tt,Tt,Tt,Tt,Tt,Tt,Tt,Tt,Tt,Tt,Tt,Tt,Tt,Tt,Tt,Tt,Tt,Tt,Tt,Tt,Ff,Ff,Ff,Ff,Ff,Ff,Ff,Ff,Ff,Ff] rfl rfl (take_ofW HT_.out HW_.out (by kernel_rfl)) (fun _ _ _ h => h) (Or.inl ⟨by rfl, ?_⟩) hHeld ?_ ?_
   rotate_left
   ·rintro w' ⟨s0, s1, s2, s3, s4, s5, s6, s7, s8, s9, s10, s11, s12, s13, s14, s15, s16, s17, s18, s19⟩
    go_simp
    with_reducible rfl
   rotate_left
   ·simp only [Act.put, List.setIfInBounds_toArray, List.set_cons_zero, List.set_cons_succ, i64_w, i32_w]
    rfl
   refine pp_ 46 (some 167) HT_.out ?_
   refine pp_ 47 (some 168) HT_.out ?_
   refine pp_ 48 (some 169) HT_.out ?_
   refine take_ (i := 49) (N := some 170) (v := ?_) (a' := ?_) #[Tt,Tt,Tt,Tt,Tt,Tt,Tt,Tt,Tt,Tt,Tt,Tt,Tt,Tt,Tt,Tt,Tt,Tt,Tt,Tt,Tt,Tt,Tt,Tt,Tt,Tt,Tt,Tt,Tt,Tt,Tt,Tt,Tt,Tt,Tt,Tt,Tt,Tt,Tt,Tt,Tt,Tt,Tt,Tt,Tt,Tt,Tt,Tt,Tt,Tt,Ff,Ff,Ff,Ff,Ff,Ff] rfl rfl (take_ofW HT_.out HW_.out (by kernel_rfl)) (fun _ _ _ h => h) (Or.inl ⟨by rfl, ?_⟩) hHeld ?_ ?_
   rotate_left
   ·rintro w' ⟨s0, s1, s2, s3, s4, s5, s6, s7, s8, s9, s10, s11, s12, s13, s14, s15, s16, s17, s18, s19⟩
    go_simp
    with_reducible rfl
   rotate_left
   ·simp only [Act.put, List.setIfInBounds_toArray, List.set_cons_zero, List.set_cons_succ, i64_w, i32_w]
    rfl
   refine take_ (i := 51) (N := some 172) (v := ?_) (a' := ?_) #[Tt,Tt,Tt,Tt,Tt,Tt,Tt,Tt,Tt,Tt,Tt,Tt,Tt,Tt,Tt,Tt,Tt,Tt,Tt,Tt,Tt,Tt,Tt,Tt,Tt,Tt,Tt,Tt,Tt,Tt,Tt,Tt,Tt,Tt,Tt,Tt,Tt,Tt,Tt,Tt,Tt,Tt,Tt,Tt,Tt,Tt,Tt,Tt,Tt,Tt,Ff,Tt,Ff,Ff,Ff,Ff] rfl rfl (take_ofW HT_.out HW_.out (by kernel_rfl)) (fun _ _ _ h => h) (Or.inl ⟨by rfl, ?_⟩) hHeld ?_ ?_
   rotate_left
   ·rintro w' ⟨s0, s1, s2, s3, s4, s5, s6, s7, s8, s9, s10, s11, s12, s13, s14, s15, s16, s17, s18, s19⟩
    go_simp
    with_reducible rfl
   rotate_left
   ·simp only [Act.put, List.setIfInBounds_toArray, List.set_cons_zero, List.set_cons_succ, i64_w, i32_w]
    rfl
   refine one_ (i := 50) (N := some 171) #[Tt,Tt,Tt,Tt,Tt,Tt,Tt,Tt,Tt,Tt,Tt,Tt,Tt,Tt,Tt,Tt,Tt,Tt,Tt,Tt,Tt,Tt,Tt,Tt,Tt,Tt,Tt,Tt,Tt,Tt,Tt,Tt,Tt,Tt,Tt,Tt,Tt,Tt,Tt,Tt,Tt,Tt,Tt,Tt,Tt,Tt,Tt,Tt,Tt,Tt,Tt,Tt,Ff,Ff,Ff,Ff] rfl rfl (one_of HT_.out (by kernel_rfl)) (by decide) (fun K hK => ?_)
   refine goes_ Tryd.func22 (by kernel_rfl) rfl #[.agg #[.int .u64 bM, .int .u64 bP, .slice bZ bB.length bX]] (by rfl) rfl rfl zx28_3 ?_
   with_reducible refine (ledger_Free.calls b9 bM bP _ _ bB dR _ ?side1 ?side2 A70.out).mono ?_
   (case side1 => repeat (first | exact (Kd.V_reads' bI.out).2.2 | (with_reducible refine Kd.C_alloc ?_ _) | (with_reducible refine Kd.C_drewN ?_ _) | (with_reducible refine Kd.C_drew ?_)))
   (case side2 => exact (Kd.V_reads' bI.out).2.1)
   rintro e q2 ⟨rfl, hb⟩
   refine ⟨_, rfl, ?_⟩
   have n0_ := Aside0.mk (Kd.R_below zx28_4 hb)
   have n1_ := Aside0.mk (Kd.V_below zx28_12 hb)
   have n5_ := Aside0.mk (Kd.V_below zx28_30 hb)
   have n8_ := Aside0.mk (blk_below (g := ba) (o := .cells #[.int .u64 bo, .int .u64 bp, .slice bw bk.length bu] 27 (0, 0)) zx28_0 hb)
   have n9_ := Aside0.mk (blk_below (g := bc) (o := .cells #[.int .u64 bJ, .int .u64 bN, .slice bL bx.length bK] 27 (0, 0)) zx28_1 hb)
   have n10_ := Aside0.mk (blk_below (g := bd) (o := .cells #[.int .u64 bM, .int .u64 bP, .slice bZ bB.length bX] 27 (0, 0)) zx28_2 hb)
   have n11_ := Aside0.mk (blk_below (g := be) (o := .cells #[.int .u64 b1, .int .u64 b3, .slice b6 bY.length b5] 27 (0, 0)) zx28_6 hb)
   have n12_ := Aside0.mk (blk_below (g := bi) (o := .cells #[.int .u64 dg, .int .u64 di, .slice dx df.length dq] 27 (0, 0)) zx28_16 hb)
   have n13_ := Aside0.mk (blk_below (g := bj) (o := .cells #[.string dW, .int .u64 dY, .int .u64 dL, .slice dc dp.length db, .int .u64 dK, .int .u64 d3, .int .u64 dS] 37 (0, 0)) zx28_28 hb)
   have n14_ := Aside0.mk (blk_below (g := bb) (o := .cells #[.string dl, .int .u64 dn, .int .u64 de, .slice bW b7.length bS, .int .u64 dd, .int .u64 dy, .int .u64 dj] 37 (0, 0)) (by (with_reducible repeat (first | refine blk_drewN ?_ _ | refine blk_drew ?_ | refine blk_alloc ?_ _)); exact bC.out) hb)
   have n15_ := Aside0.mk (below_step zx28_32 hb)
   clear bm
   clear bf
   (try clear br)
   (try clear bI)
   (try clear b2)
   (try clear dk)
   (try clear dQ)
   (try clear d0)
   clear bg
   clear bn
   clear bq
   clear bA
   clear bO
   clear bz
   clear bC
   clear HB
   have bm := n0_
   have bf := n1_
   have dk := n5_
   have bg := n8_
   have bn := n9_
   have bq := n10_
   have bA := n11_
   have bO := n12_
   have bz := n13_
   have bC := n14_
   have HB := n15_
   clear n0_ n1_ n5_ n8_ n9_ n10_ n11_ n12_ n13_ n14_ n15_
   (try clear hb)
   (try clear hb2)
   (try clear hk)
   (try clear hi)
   refine hK.out _ _ ⟨(blk_cell bz.out 0).trans rfl, (blk_cell bz.out 1).trans rfl, (blk_cell bz.out 2).trans rfl, (blk_cell bz.out 3).trans rfl, (blk_cell bz.out 4).trans rfl, (blk_cell bz.out 5).trans rfl, (blk_cell bz.out 6).trans rfl, (blk_cell bC.out 0).trans rfl, (blk_cell bC.out 1).trans rfl, (blk_cell bC.out 2).trans rfl, (blk_cell bC.out 3).trans rfl, (blk_cell bC.out 4).trans rfl, (blk_cell bC.out 5).trans rfl, (blk_cell bC.out 6).trans rfl, (blk_cell bq.out 0).trans rfl, (blk_cell bq.out 1).trans rfl, (blk_cell bq.out 2).trans rfl, (blk_cell bO.out 0).trans rfl, (blk_cell bO.out 1).trans rfl, (blk_cell bO.out 2).trans rfl⟩ (fun hHeld => ?_)
   clear hK K
   refine norm_ (a' := ?_) ?_ ?_
   rotate_left
   ·show Act.put _ (some 171) _ = _
    simp only [Act.put, List.setIfInBounds_toArray, List.set_cons_zero, List.set_cons_succ, i64_w, i32_w]
    rfl
   refine one_ (i := 52) (N := some 173) #[Tt,Tt,Tt,Tt,Tt,Tt,Tt,Tt,Tt,Tt,Tt,Tt,Tt,Tt,Tt,Tt,Tt,Tt,Tt,Tt,Tt,Tt,Tt,Tt,Tt,Tt,Tt,Tt,Tt,Tt,Tt,Tt,Tt,Tt,Tt,Tt,Tt,Tt,Tt,Tt,Tt,Tt,Tt,Tt,Tt,Tt,Tt,Tt,Tt,Tt,Tt,Tt,Tt,Ff,Ff,Ff] rfl rfl (one_of HT_.out (by kernel_rfl)) (by decide) (fun K hK => ?_)
   refine goes_ Tryd.func22 (by kernel_rfl) rfl #[.agg #[.int .u64 dg, .int .u64 di, .slice dx df.length dq]] (by rfl) rfl rfl zx28_3 ?_
   with_reducible refine (ledger_Free.calls b9 dg di _ _ df dP _ ?side1 ?side2 A71.out).mono ?_
   (case side1 => repeat (first | exact (Kd.V_reads' dk.out).2.2 | (with_reducible refine Kd.C_alloc ?_ _) | (with_reducible refine Kd.C_drewN ?_ _) | (with_reducible refine Kd.C_drew ?_)))
   (case side2 => exact (Kd.V_reads' dk.out).2.1)
   rintro e q1 ⟨rfl, hb⟩
   refine ⟨_, rfl, ?_⟩
   have n0_ := Aside0.mk (Kd.R_below zx28_4 hb)
   have n1_ := Aside0.mk (Kd.V_below zx28_12 hb)
   have n8_ := Aside0.mk (blk_below (g := ba) (o := .cells #[.int .u64 bo, .int .u64 bp, .slice bw bk.length bu] 27 (0, 0)) zx28_0 hb)
   have n9_ := Aside0.mk (blk_below (g := bc) (o := .cells #[.int .u64 bJ, .int .u64 bN, .slice bL bx.length bK] 27 (0, 0)) zx28_1 hb)
   have n10_ := Aside0.mk (blk_below (g := bd) (o := .cells #[.int .u64 bM, .int .u64 bP, .slice bZ bB.length bX] 27 (0, 0)) zx28_2 hb)
   have n11_ := Aside0.mk (blk_below (g := be) (o := .cells #[.int .u64 b1, .int .u64 b3, .slice b6 bY.length b5] 27 (0, 0)) zx28_6 hb)
   have n12_ := Aside0.mk (blk_below (g := bi) (o := .cells #[.int .u64 dg, .int .u64 di, .slice dx df.length dq] 27 (0, 0)) zx28_16 hb)
   have n13_ := Aside0.mk (blk_below (g := bj) (o := .cells #[.string dW, .int .u64 dY, .int .u64 dL, .slice dc dp.length db, .int .u64 dK, .int .u64 d3, .int .u64 dS] 37 (0, 0)) zx28_28 hb)
   have n14_ := Aside0.mk (blk_below (g := bb) (o := .cells #[.string dl, .int .u64 dn, .int .u64 de, .slice bW b7.length bS, .int .u64 dd, .int .u64 dy, .int .u64 dj] 37 (0, 0)) (by (with_reducible repeat (first | refine blk_drewN ?_ _ | refine blk_drew ?_ | refine blk_alloc ?_ _)); exact bC.out) hb)
   have n15_ := Aside0.mk (below_step zx28_32 hb)
   clear bm
   clear bf
   (try clear br)
   (try clear bI)
   (try clear b2)
   (try clear dk)
   (try clear dQ)
   (try clear d0)
   clear bg
   clear bn
   clear bq
   clear bA
   clear bO
   clear bz
   clear bC
   clear HB
   have bm := n0_
   have bf := n1_
   have bg := n8_
   have bn := n9_
   have bq := n10_
   have bA := n11_
   have bO := n12_
   have bz := n13_
   have bC := n14_
   have HB := n15_
   clear n0_ n1_ n8_ n9_ n10_ n11_ n12_ n13_ n14_ n15_
   (try clear hb)
   (try clear hb2)
   (try clear hk)
   (try clear hi)
   refine hK.out _ _ ⟨(blk_cell bz.out 0).trans rfl, (blk_cell bz.out 1).trans rfl, (blk_cell bz.out 2).trans rfl, (blk_cell bz.out 3).trans rfl, (blk_cell bz.out 4).trans rfl, (blk_cell bz.out 5).trans rfl, (blk_cell bz.out 6).trans rfl, (blk_cell bC.out 0).trans rfl, (blk_cell bC.out 1).trans rfl, (blk_cell bC.out 2).trans rfl, (blk_cell bC.out 3).trans rfl, (blk_cell bC.out 4).trans rfl, (blk_cell bC.out 5).trans rfl, (blk_cell bC.out 6).trans rfl, (blk_cell bq.out 0).trans rfl, (blk_cell bq.out 1).trans rfl, (blk_cell bq.out 2).trans rfl, (blk_cell bO.out 0).trans rfl, (blk_cell bO.out 1).trans rfl, (blk_cell bO.out 2).trans rfl⟩ (fun hHeld => ?_)
   clear hK K
   refine norm_ (a' := ?_) ?_ ?_
   rotate_left
   ·show Act.put _ (some 173) _ = _
    simp only [Act.put, List.setIfInBounds_toArray, List.set_cons_zero, List.set_cons_succ, i64_w, i32_w]
    rfl
   refine pp_ 53 (some 174) HT_.out ?_
   refine pp_ 54 (some 175) HT_.out ?_
   refine pp_ 55 (some 12) HT_.out ?_
   refine done_ (done_of HT_.out (by kernel_rfl)) ?_
   try go_wp2
   go_ret
   exact ⟨by first | rfl | (simp [errW_none, errW_some] <;> rfl) | (simp [*, errW_none, errW_some] <;> rfl), by repeat (first | (with_reducible first | exact HB.out | apply below_alloc | apply pw_below_drewN | apply below_drew1 | refine below_set ?_ dI.out | refine below_set ?_ dV.out | refine below_set ?_ d1.out | refine below_set ?_ d4.out | refine below_set ?_ d9.out | refine below_set ?_ hv.out | refine below_set ?_ hW.out) | exact HB.out)⟩
/-- THE ONE PURE STATEMENT of postroomlaw10_LedgerOrder. -/
def postroomlaw10_LedgerOrder.Pure : Prop := ∀ (l0 : List (S43)) (a1 : Int) (a2 : Int) (a3 : Int) (a4 : Bool) (a5 : Bool), l0.length ≤ maxLen → l0.length * 32 ≤ 140737488351232 → (∀ x ∈ l0, ((Lit.int .i64 x.f0).wf = true ∧ (Lit.int .i64 x.f1).wf = true ∧ (Lit.int .i64 x.f2).wf = true ∧ (Lit.int .i64 x.f3).wf = true)) → (Lit.int .i64 a1).wf = true → (Lit.int .i64 a2).wf = true → (Lit.int .i64 a3).wf = true → ∃ k, postroomlaw10_LedgerOrder.f k l0 a1 a2 a3 a4 a5 = some true
theorem postroomlaw10_LedgerOrder.walk (P : postroomlaw10_LedgerOrder.Pure) (A0 : Option Addr) (c0 : Nat) (l0 : List (S43)) (a1 : Int) (a2 : Int) (a3 : Int) (a4 : Bool) (a5 : Bool) (w : World) (hr0 : Kd.C k43 w A0 l0.length l0) (hc0 : l0.length ≤ c0) (hm0 : l0.length ≤ maxLen) (hy0 : l0.length * 32 ≤ 140737488351232) (hw0 : (∀ x ∈ l0, ((Lit.int .i64 x.f0).wf = true ∧ (Lit.int .i64 x.f1).wf = true ∧ (Lit.int .i64 x.f2).wf = true ∧ (Lit.int .i64 x.f3).wf = true))) (hw1 : (Lit.int .i64 a1).wf = true) (hw2 : (Lit.int .i64 a2).wf = true) (hw3 : (Lit.int .i64 a3).wf = true) :
  Calls Tryd.prog 6 #[.slice A0 l0.length c0, .int .i64 a1, .int .i64 a2, .int .i64 a3, .bool a4, .bool a5] w fun e w' => e = .returned (.bool true) ∧ Below w.heap.size w w' := by
 obtain ⟨k, h⟩ := P l0 a1 a2 a3 a4 a5 hm0 hy0 hw0 hw1 hw2 hw3
 refine (postroomlaw10_LedgerOrder.calls k A0 c0 l0 a1 a2 a3 a4 a5 true w hr0 hc0 h).mono ?_
 rintro e w' ⟨rfl, hd⟩
 exact ⟨rfl, hd⟩

end Go.Proofs.YthhmpjapnkilcaaDoor.XLdg
