/- What the functions of the translation answer, each as a plain Lean function, and that the code comes to it; for a law: its row. Conditions: none but those that each theorem names. Written by a program of this session (wip/xp). -/
import Derived.Test.YthhmpjapnkilcaaDoorXLdgP1
import Derived.Test.YthhmpjapnkilcaaDoorXLdgP4
import Derived.Test.YthhmpjapnkilcaaDoorXLdgP5
import Derived.Test.YthhmpjapnkilcaaDoorXLdgx32
import Derived.Test.YthhmpjapnkilcaaDoorGShown
namespace Go.Proofs.YthhmpjapnkilcaaDoor.XLdg
open Go.RowKit Go.Proofs.YthhmpjapnkilcaaDoorW.PrintWords Go.Proofs.YthhmpjapnkilcaaDoorW.PrintLast Go.Proofs.YthhmpjapnkilcaaDoorW.PrintMore
attribute [local go_sem] max2_int min2_int max_two min_two max_three min_three max_four min_four   -- for this text's walks alone
theorem cx33_bc3 {w : World} {g : Nat} {t : TypeId} {x0 x1 x2 : Value} (h : w.heap[g]? = some (.cells #[x0, x1, x2] t (0, 0))) : w.cell? ⟨g, 0, none⟩ = some x0 ∧ w.cell? ⟨g, 1, none⟩ = some x1 ∧ w.cell? ⟨g, 2, none⟩ = some x2 ∧ w.frozen? ⟨g, 0, none⟩ = false ∧ w.frozen? ⟨g, 1, none⟩ = false ∧ w.frozen? ⟨g, 2, none⟩ = false :=
 ⟨(blk_cell h 0).trans rfl, (blk_cell h 1).trans rfl, (blk_cell h 2).trans rfl, blk_frozen h 0, blk_frozen h 1, blk_frozen h 2⟩
theorem zx33_6 {p : Prop} (h : p := by first | (with_reducible assumption) | assumption) : p := h
theorem zx33_7 {p : Prop} (h : p := by (with_reducible repeat (first | apply Kd.N_alloc | apply Kd.N_drewN | apply Kd.N_drew)); exact bk.out) : p := h
theorem zx33_9 {p : Prop} (h : p := by (with_reducible repeat (first | apply Kd.N_alloc | apply Kd.N_drewN | apply Kd.N_drew)); exact bo.out) : p := h
theorem zx33_5 {p : Prop} (h : p := by (with_reducible repeat (first | apply Kd.V_alloc | apply Kd.V_drewN | apply Kd.V_drew)); exact be.out) : p := h
theorem zx33_1 {p : Prop} (h : p := by (with_reducible repeat (first | refine blk_drewN ?_ _ | refine blk_drew ?_ | refine blk_alloc ?_ _)); exact bn.out) : p := h
theorem zx33_2 {p : Prop} (h : p := by (with_reducible repeat (first | refine blk_drewN ?_ _ | refine blk_drew ?_ | refine blk_alloc ?_ _)); exact bl.out) : p := h
theorem zx33_3 {p : Prop} (h : p := by (with_reducible repeat (first | refine blk_drewN ?_ _ | refine blk_drew ?_ | refine blk_alloc ?_ _)); exact bf.out) : p := h
theorem zx33_12 {p : Prop} (h : p := by repeat (first | (with_reducible first | exact HB.out | apply below_alloc | apply pw_below_drewN | apply below_drew1) | exact HB.out)) : p := h
theorem zx33_4 {p : Prop} (h : p := by (try simp only [List.map_toArray, List.map_cons, List.map_nil]); first | done | rfl | (simp only [List.length_drop, List.length_take]; rfl)) : p := h
theorem zx33_10 {p : Prop} (h : p := by repeat (first | (with_reducible first | exact HB.out | apply below_alloc | apply pw_below_drewN | apply below_drew1 | refine below_set ?_ bN.out) | exact HB.out)) : p := h
theorem zx33_19 {p : Prop} (h : p := by (with_reducible repeat (first | apply Kd.N_alloc | apply Kd.N_drewN | apply Kd.N_drew)); exact Kd.N_mono bo.out (fun _ hk => ⟨⟨hk.2.1, ⟨hk.2.2.1, hk.2.2.2⟩⟩, hk.1⟩)) : p := h
theorem zx33_16 {p : Prop} (h : p := by (with_reducible repeat (first | apply Kd.V_alloc | apply Kd.V_drewN | apply Kd.V_drew)); exact Kd.V_mono be.out (fun _ hk => ⟨⟨hk.1, ⟨hk.2.2.1, ⟨hk.2.2.2.1, hk.2.2.2.2⟩⟩⟩, hk.2.1⟩)) : p := h
theorem zx33_22 {p : Prop} (h : p := by repeat (first | (with_reducible first | exact HB.out | apply below_alloc | apply pw_below_drewN | apply below_drew1 | refine below_set ?_ bN.out | refine below_set ?_ b8.out) | exact HB.out)) : p := h
theorem zx33_0 {p : Prop} (h : p := by repeat (first | (with_reducible first | exact HB.out | apply below_alloc | apply pw_below_drewN | apply below_drew1 | refine below_set ?_ bN.out | refine below_set ?_ b8.out | refine below_set ?_ de.out) | exact HB.out)) : p := h
theorem zx33_13 {p : Prop} (h : p := by (with_reducible repeat (first | refine blk_drewN ?_ _ | refine blk_drew ?_ | refine blk_alloc ?_ _)); refine blk_far ?_ da.out _; (with_reducible repeat (first | refine blk_drewN ?_ _ | refine blk_drew ?_ | refine blk_alloc ?_ _)); exact bn.out) : p := h
theorem zx33_14 {p : Prop} (h : p := by (with_reducible repeat (first | refine blk_drewN ?_ _ | refine blk_drew ?_ | refine blk_alloc ?_ _)); refine blk_far ?_ b9.out _; (with_reducible repeat (first | refine blk_drewN ?_ _ | refine blk_drew ?_ | refine blk_alloc ?_ _)); exact bl.out) : p := h
theorem zx33_28 {p : Prop} (h : p := by (with_reducible repeat (first | apply Kd.N_alloc | apply Kd.N_drewN | apply Kd.N_drew)); exact (Kd.N_mono (Kd.N_far (p := ⟨bc, 0, none⟩) (Kd.N_mono bo.out (fun k_ hk => (⟨hk, hk.2.2.2⟩ : _ ∧ k_ ≠ bc))) (fun _ hk => hk.2) (.int .u64 0)) (fun _ h_ => h_.1))) : p := h
theorem zx33_27 {p : Prop} (h : p := by (with_reducible repeat (first | apply Kd.N_alloc | apply Kd.N_drewN | apply Kd.N_drew)); exact (Kd.N_mono (Kd.N_far (p := ⟨bc, 2, none⟩) (Kd.N_mono bo.out (fun k_ hk => (⟨hk, hk.1.2.2⟩ : _ ∧ k_ ≠ bc))) (fun _ hk => hk.2) (.slice dt du.length dq)) (fun _ h_ => h_.1))) : p := h
theorem zx33_26 {p : Prop} (h : p := by (with_reducible repeat (first | apply Kd.N_alloc | apply Kd.N_drewN | apply Kd.N_drew)); exact (Kd.N_mono (Kd.N_far (p := ⟨bc, 0, none⟩) (Kd.N_mono bo.out (fun k_ hk => (⟨hk, hk.2.2.2⟩ : _ ∧ k_ ≠ bc))) (fun _ hk => hk.2) (.int .u64 (IntKind.u64.wrap (bd + 1)))) (fun _ h_ => h_.1))) : p := h
theorem zx33_25 {p : Prop} (h : p := by (with_reducible repeat (first | refine blk_drewN ?_ _ | refine blk_drew ?_ | refine blk_alloc ?_ _)); refine blk_put (cs := #[.int .u64 bg, .int .u64 bd, .slice bM bb.length bq]) ?_ 0 _ rfl; (with_reducible repeat (first | refine blk_drewN ?_ _ | refine blk_drew ?_ | refine blk_alloc ?_ _)); exact bf.out) : p := h
theorem zx33_24 {p : Prop} (h : p := by (with_reducible repeat (first | apply Kd.N_alloc | apply Kd.N_drewN | apply Kd.N_drew)); exact (Kd.N_mono (Kd.N_far (p := ⟨bG, (ba : Int).toNat * 7 + 2, none⟩) (Kd.N_mono bo.out (fun k_ hk => (⟨hk, fun e_ => hk.1 (by rw [e_]; rfl)⟩ : _ ∧ k_ ≠ bG))) (fun _ hk => hk.2) (.int .u64 (IntKind.u64.wrap (((rd_T37 bb ba).f1) - 1)))) (fun _ h_ => h_.1))) : p := h
theorem zx33_23 {p : Prop} (h : p := by (with_reducible repeat (first | apply Kd.V_alloc | apply Kd.V_drewN | apply Kd.V_drew)); exact (Kd.V_mono (Kd.V_far (p := ⟨bG, (ba : Int).toNat * 7 + 2, none⟩) (Kd.V_mono dg.out (fun k_ hk => (⟨hk, fun e_ => hk.2 (by rw [e_]; rfl)⟩ : _ ∧ k_ ≠ bG))) (fun _ hk => hk.2) (.int .u64 (IntKind.u64.wrap (((rd_T37 bb ba).f1) - 1)))) (fun _ h_ => h_.1))) : p := h
theorem zx33_20 {p : Prop} (h : p := by (with_reducible repeat (first | apply Kd.V_alloc | apply Kd.V_drewN | apply Kd.V_drew)); exact (Kd.V_mono (Kd.V_far (p := ⟨bi, 2, none⟩) (Kd.V_far (p := ⟨bi, 1, none⟩) (Kd.V_far (p := ⟨bi, 0, none⟩) (Kd.V_mono dr.out (fun k_ hk => (⟨hk, hk.2⟩ : _ ∧ k_ ≠ bi))) (fun _ hk => hk.2) (.int .u64 bz)) (fun _ hk => hk.2) (.int .u64 bA)) (fun _ hk => hk.2) (.slice bC br.length bB)) (fun _ h_ => h_.1))) : p := h
theorem zx33_21 {p : Prop} (h : p := by (with_reducible repeat (first | apply Kd.N_alloc | apply Kd.N_drewN | apply Kd.N_drew)); exact (Kd.N_mono (Kd.N_far (p := ⟨bc, 2, none⟩) (Kd.N_far (p := ⟨bc, 1, none⟩) (Kd.N_far (p := ⟨bc, 0, none⟩) (Kd.N_mono bo.out (fun k_ hk => (⟨hk, hk.2⟩ : _ ∧ k_ ≠ bc))) (fun _ hk => hk.2) (.int .u64 bg)) (fun _ hk => hk.2) (.int .u64 bd)) (fun _ hk => hk.2) (.slice bw bm.length bu)) (fun _ h_ => h_.1))) : p := h
theorem zx33_11 {p : Prop} (h : p := by (iterate 3 ((with_reducible repeat (first | refine blk_drewN ?_ _ | refine blk_drew ?_ | refine blk_alloc ?_ _)); refine blk_far ?_ dC.out _)); (with_reducible repeat (first | refine blk_drewN ?_ _ | refine blk_drew ?_ | refine blk_alloc ?_ _)); exact bn.out) : p := h
theorem zx33_17 {p : Prop} (h : p := by (iterate 3 ((with_reducible repeat (first | refine blk_drewN ?_ _ | refine blk_drew ?_ | refine blk_alloc ?_ _)); refine blk_far ?_ da.out _)); (with_reducible repeat (first | refine blk_drewN ?_ _ | refine blk_drew ?_ | refine blk_alloc ?_ _)); exact bn.out) : p := h
theorem zx33_18 {p : Prop} (h : p := by (iterate 3 ((with_reducible repeat (first | refine blk_drewN ?_ _ | refine blk_drew ?_ | refine blk_alloc ?_ _)); refine blk_far ?_ b9.out _)); (with_reducible repeat (first | refine blk_drewN ?_ _ | refine blk_drew ?_ | refine blk_alloc ?_ _)); exact bl.out) : p := h
theorem zx33_8 {p : Prop} (h : p := by (with_reducible repeat (first | refine blk_drewN ?_ _ | refine blk_drew ?_ | refine blk_alloc ?_ _)); refine blk_put (cs := #[.int .u64 bg, .int .u64 bd, .slice none 0 0]) ?_ 2 _ rfl; (with_reducible repeat (first | refine blk_drewN ?_ _ | refine blk_drew ?_ | refine blk_alloc ?_ _)); refine blk_put (cs := #[.int .u64 bg, .int .u64 0, .slice none 0 0]) ?_ 1 _ rfl; (with_reducible repeat (first | refine blk_drewN ?_ _ | refine blk_drew ?_ | refine blk_alloc ?_ _)); refine blk_put (cs := #[.int .u64 0, .int .u64 0, .slice none 0 0]) ?_ 0 _ rfl; (with_reducible repeat (first | refine blk_drewN ?_ _ | refine blk_drew ?_ | refine blk_alloc ?_ _)); exact bl.out) : p := h
theorem zx33_15 {p : Prop} (h : p := by (with_reducible repeat (first | refine blk_drewN ?_ _ | refine blk_drew ?_ | refine blk_alloc ?_ _)); refine blk_put (cs := #[.int .u64 bg, .int .u64 bd, .slice none 0 0]) ?_ 2 _ rfl; (with_reducible repeat (first | refine blk_drewN ?_ _ | refine blk_drew ?_ | refine blk_alloc ?_ _)); refine blk_put (cs := #[.int .u64 bg, .int .u64 0, .slice none 0 0]) ?_ 1 _ rfl; (with_reducible repeat (first | refine blk_drewN ?_ _ | refine blk_drew ?_ | refine blk_alloc ?_ _)); refine blk_put (cs := #[.int .u64 0, .int .u64 0, .slice none 0 0]) ?_ 0 _ rfl; (with_reducible repeat (first | refine blk_drewN ?_ _ | refine blk_drew ?_ | refine blk_alloc ?_ _)); exact bf.out) : p := h
set_option linter.unusedVariables false
set_option linter.unusedSimpArgs false

/-! ### postroomlaw10_LedgerRight: function 8 -/
def postroomlaw10_LedgerRight.j0 : Nat → Int → Int → Bool → Int → Int → List (S37) → Option (Bool)
 | 0, _, _, _, _, _, _ => none
 | k + 1, x1, x2, x31, go, gn, dE => if x31 = true then ((ledger_Right.f k go gn dE).bind fun gG => (some gG)) else ((postroomlaw10_pick.f x1 (dE.length : Int)).bind fun ba => ((ledger_Add.f go gn dE).bind fun bh => ((some (([] : List (S37)) : List (S37))).bind fun b2 => (if b2.length + bh.2.2.length < 1759218604441 then ((some (b2 ++ bh.2.2 : List (S37))).bind fun bb => ((postroomlaw10_pick.f x2 8).bind fun bp => (if bp = 0 then (if 0 ≤ ba then (if ba < (bb.length : Int) then ((ledger_Right.f k bh.1 bh.2.1 bh.2.2).bind fun b1 => (if b1 = true then ((ledger_Right.f k bh.1 bh.2.1 (bb.set (ba : Int).toNat (⟨(rd_T37 bb ba).f0, (rd_T37 bb ba).f1, (rd_T37 bb ba).f2, (rd_T37 bb ba).f3, IntKind.u64.wrap (((rd_T37 bb ba).f4) + 1), (rd_T37 bb ba).f5, (rd_T37 bb ba).f6⟩ : S37))).bind fun bS => (some (!bS))) else (none))) else (none)) else (none)) else (if bp = 1 then (if 0 ≤ ba then (if ba < (bb.length : Int) then ((ledger_Right.f k bh.1 bh.2.1 bh.2.2).bind fun b0 => (if b0 = true then ((ledger_Right.f k bh.1 bh.2.1 (bb.set (ba : Int).toNat (⟨(rd_T37 bb ba).f0, (rd_T37 bb ba).f1, IntKind.u64.wrap (((rd_T37 bb ba).f1) - 1), (rd_T37 bb ba).f3, (rd_T37 bb ba).f4, (rd_T37 bb ba).f5, (rd_T37 bb ba).f6⟩ : S37))).bind fun bR => (some (!bR))) else (none))) else (none)) else (none)) else (if bp = 2 then (if 0 ≤ ba then (if ba < (bb.length : Int) then ((ledger_Right.f k bh.1 bh.2.1 bh.2.2).bind fun bZ => (if bZ = true then ((ledger_Right.f k bh.1 bh.2.1 (bb.set (ba : Int).toNat (⟨(⟨#[49]⟩ : ByteArray), (rd_T37 bb ba).f1, (rd_T37 bb ba).f2, (rd_T37 bb ba).f3, (rd_T37 bb ba).f4, (rd_T37 bb ba).f5, (rd_T37 bb ba).f6⟩ : S37))).bind fun bQ => (some (!bQ))) else (none))) else (none)) else (none)) else (if bp = 3 then (if 0 ≤ ba then (if ba < (bb.length : Int) then ((ledger_Right.f k bh.1 bh.2.1 bh.2.2).bind fun bW => (if bW = true then ((ledger_Right.f k bh.1 bh.2.1 (bb.set (ba : Int).toNat (⟨(rd_T37 bb ba).f0, (rd_T37 bb ba).f1, (rd_T37 bb ba).f2, (([bh.2.1] : List Int)), (rd_T37 bb ba).f4, (rd_T37 bb ba).f5, (rd_T37 bb ba).f6⟩ : S37))).bind fun bL => (some (!bL))) else (none))) else (none)) else (none)) else (if bp = 4 then ((ledger_Right.f k bh.1 bh.2.1 bh.2.2).bind fun dd => (if dd = true then ((ledger_Right.f k 0 bh.2.1 bb).bind fun bV => (some (!bV))) else (none))) else (if bp = 5 then ((ledger_Right.f k bh.1 bh.2.1 bh.2.2).bind fun dc => (if dc = true then ((ledger_Right.f k (IntKind.u64.wrap (bh.2.1 + 1)) bh.2.1 bb).bind fun bU => (some (!bU))) else (none))) else (if bp = 6 then (if 0 ≤ ba then (if ba < (bb.length : Int) then (if bb.length < 1759218604441 then ((ledger_Right.f k bh.1 bh.2.1 bh.2.2).bind fun bY => (if bY = true then ((ledger_Right.f k bh.1 bh.2.1 (bb ++ [(⟨(rd_T37 bb ba).f0, (rd_T37 bb ba).f1, (rd_T37 bb ba).f2, (rd_T37 bb ba).f3, (rd_T37 bb ba).f4, (rd_T37 bb ba).f5, (rd_T37 bb ba).f6⟩ : S37)])).bind fun bP => (some (!bP))) else (none))) else (none)) else (none)) else (none)) else (if 0 ≤ ba then (if ba < (bb.length : Int) then ((ledger_Right.f k bh.1 bh.2.1 bh.2.2).bind fun bX => (if bX = true then ((ledger_Right.f k bh.1 bh.2.1 (bb.set (ba : Int).toNat (⟨(rd_T37 bb ba).f0, 0, (rd_T37 bb ba).f2, (rd_T37 bb ba).f3, (rd_T37 bb ba).f4, (rd_T37 bb ba).f5, (rd_T37 bb ba).f6⟩ : S37))).bind fun bO => (some (!bO))) else (none))) else (none)) else (none))))))))))) else (none)))))
def postroomlaw10_LedgerRight.f (k : Nat) (l0 : List (S43)) (a1 : Int) (a2 : Int) : Option (Bool) := (postroomlaw10_shown.f k).bind fun dI => (if dI = true then (if (l0.length : Int) > 100 then (some dI) else ((postroomlaw10_run.f k l0).bind fun bx => (if (bx.2.2.length : Int) = 0 then (postroomlaw10_LedgerRight.j0 k a1 a2 true bx.1 bx.2.1 bx.2.2) else ((ledger_Right.f k bx.1 bx.2.1 bx.2.2).bind fun dh => (postroomlaw10_LedgerRight.j0 k a1 a2 (!dh) bx.1 bx.2.1 bx.2.2))))) else (none))
def postroomlaw10_LedgerRight.T16 : Bool × List (List Nat × List Nat) := (true, [([], []), ([0], [0]), ([], []), ([], []), ([3], [3]), ([], []), ([4, 5], [4, 5]), ([6], [6]), ([7], [7]), ([8], [8]), ([1, 2, 0, 1, 2, 3, 4, 5, 6, 7, 8, 9], [1, 2]), ([10, 0, 1, 2, 3, 4, 5, 6, 7, 8, 9], [10]), ([11, 9, 0, 1, 2, 3, 4, 5, 6, 7, 8, 9], [9, 11])])
def postroomlaw10_LedgerRight.B16 : List Nat := [0, 1, 0, 0, 8, 0, 56, 120, 248, 504, 1023, 2047, 4095]
theorem postroomlaw10_LedgerRight.tab16 : rtab .any (opsOf Tryd.f8 16) = postroomlaw10_LedgerRight.T16 := by kernel_rfl
theorem postroomlaw10_LedgerRight.bits16 : waitsOk postroomlaw10_LedgerRight.T16.2 postroomlaw10_LedgerRight.B16 = true := by kernel_rfl
def postroomlaw10_LedgerRight.T26 : Bool × List (List Nat × List Nat) := (true, [([], []), ([0], [0]), ([], []), ([2], [2]), ([], []), ([3, 4], [3, 4]), ([5], [5]), ([6], [6]), ([1, 7], [1, 7]), ([0, 1, 2, 3, 4, 5, 6, 7, 8], []), ([9, 8, 8, 0, 1, 2, 3, 4, 5, 6, 7, 8], [8, 9])])
def postroomlaw10_LedgerRight.B26 : List Nat := [0, 1, 0, 4, 0, 28, 60, 124, 255, 511, 1023]
theorem postroomlaw10_LedgerRight.tab26 : rtab .any (opsOf Tryd.f8 26) = postroomlaw10_LedgerRight.T26 := by kernel_rfl
theorem postroomlaw10_LedgerRight.bits26 : waitsOk postroomlaw10_LedgerRight.T26.2 postroomlaw10_LedgerRight.B26 = true := by kernel_rfl
set_option maxHeartbeats 8000000 in
set_option maxRecDepth 100000 in
theorem postroomlaw10_LedgerRight.calls (k : Nat) (A0 : Option Addr) (c0 : Nat) (l0 : List (S43)) (a1 : Int) (a2 : Int) (r : Bool) (w : World) (hr0 : Kd.C k43 w A0 l0.length l0) (hc0 : l0.length ≤ c0) (h : postroomlaw10_LedgerRight.f k l0 a1 a2 = some r) :
  Calls Tryd.prog 8 #[.slice A0 l0.length c0, .int .i64 a1, .int .i64 a2] w fun e w' => e = .returned (.bool r) ∧ Below w.heap.size w w' := by
 have bb0 := Tryd.underlying27
 have baZ := Tryd.underlying37
 have HR0 := Aside0.mk hr0
 have HC0 := Aside0.mk hc0
 clear hr0 hc0
 have HB := Aside0.mk (Below.refl w.heap.size w)
 have H : ((postroomlaw10_shown.f k).bind fun dI => (if dI = true then (if (l0.length : Int) > 100 then (some dI) else ((postroomlaw10_run.f k l0).bind fun bx => (if (bx.2.2.length : Int) = 0 then (postroomlaw10_LedgerRight.j0 k a1 a2 true bx.1 bx.2.1 bx.2.2) else ((ledger_Right.f k bx.1 bx.2.1 bx.2.2).bind fun dh => (postroomlaw10_LedgerRight.j0 k a1 a2 (!dh) bx.1 bx.2.1 bx.2.2))))) else (none))) = some r := h
 clear h
 replace H := Option.bind_eq_some_iff.mp H
 obtain ⟨dI, A40, H⟩ := H
 replace H : (if dI = true then (if (l0.length : Int) > 100 then (some dI) else ((postroomlaw10_run.f k l0).bind fun bx => (if (bx.2.2.length : Int) = 0 then (postroomlaw10_LedgerRight.j0 k a1 a2 true bx.1 bx.2.1 bx.2.2) else ((ledger_Right.f k bx.1 bx.2.1 bx.2.2).bind fun dh => (postroomlaw10_LedgerRight.j0 k a1 a2 (!dh) bx.1 bx.2.1 bx.2.2))))) else (none)) = some r := H
 have A4 := Aside0.mk A40
 clear A40
 by_cases c5 : dI = true
 case neg =>
  replace c5 := Bool.eq_false_iff.mpr c5
  subst c5
  have H1 : (none) = some r := by rw [if_neg (show ¬ (false = true) by decide)] at H; exact H
  clear H
  have H := H1
  clear H1
  exact absurd H (by simp)

 subst c5
 have H1 : (if (l0.length : Int) > 100 then (some true) else ((postroomlaw10_run.f k l0).bind fun bx => (if (bx.2.2.length : Int) = 0 then (postroomlaw10_LedgerRight.j0 k a1 a2 true bx.1 bx.2.1 bx.2.2) else ((ledger_Right.f k bx.1 bx.2.1 bx.2.2).bind fun dh => (postroomlaw10_LedgerRight.j0 k a1 a2 (!dh) bx.1 bx.2.1 bx.2.2))))) = some r := by rw [if_pos rfl] at H; exact H
 clear H
 have H := H1
 clear H1
 by_cases c6 : (l0.length : Int) > 100
 ·rw [if_pos c6] at H
  have qD : decide (100 < (l0.length : Int)) = true := decide_eq_true c6
  have qC : decide (100 < l0.length) = true := decide_eq_true (by omega)
  clear c6
  obtain rfl := Option.some.inj H
  go_enter Tryd.func8, Tryd.ntmps8
  go_wp2_with (first | ((with_reducible refine gate_callee (f := 10) rfl ?_); refine goesL_ (some 12) rfl rfl Tryd.func10 (by kernel_rfl) rfl #[] rfl zx33_4 ?_; (with_reducible refine (postroomlaw10_shown.calls k  true _ A4.out).mono ?_); rintro e w7 ⟨rfl, hb⟩; refine ⟨_, rfl, ?_⟩; replace HB := Aside0.mk (below_step zx33_12 hb); (try clear hb); (try clear hb2); (try clear hk); (try clear hi)))
  go_ret
  exact ⟨by first | rfl | (simp [errW_none, errW_some] <;> rfl) | (simp [*, errW_none, errW_some] <;> rfl), by repeat (first | (with_reducible first | exact HB.out | apply below_alloc | apply pw_below_drewN | apply below_drew1) | exact HB.out)⟩
 rw [if_neg c6] at H
 have qD : decide (100 < (l0.length : Int)) = false := decide_eq_false c6
 have qC : decide (100 < l0.length) = false := decide_eq_false (by omega)
 clear c6
 replace H := Option.bind_eq_some_iff.mp H
 obtain ⟨⟨bz, bA, br⟩, A80, H⟩ := H
 replace H : (if (br.length : Int) = 0 then (postroomlaw10_LedgerRight.j0 k a1 a2 true bz bA br) else ((ledger_Right.f k bz bA br).bind fun dh => (postroomlaw10_LedgerRight.j0 k a1 a2 (!dh) bz bA br))) = some r := H
 have A8 := Aside0.mk A80
 clear A80
 have HC9 := Aside0.mk H
 clear H
 go_enter Tryd.func8, Tryd.ntmps8
 go_upto_region 5 with (first | ((with_reducible refine gate_callee (f := 10) rfl ?_); refine goesL_ (some 12) rfl rfl Tryd.func10 (by kernel_rfl) rfl #[] rfl zx33_4 ?_; (with_reducible refine (postroomlaw10_shown.calls k  true _ A4.out).mono ?_); rintro e w10 ⟨rfl, hb⟩; refine ⟨_, rfl, ?_⟩; replace HB := Aside0.mk (below_step zx33_12 hb); (try clear hb); (try clear hb2); (try clear hk); (try clear hi)) | ((with_reducible refine gate_callee (f := 11) rfl ?_); refine goesL_ (some 22) rfl rfl Tryd.func11 (by kernel_rfl) rfl #[.slice A0 l0.length c0] rfl zx33_4 ?_; (with_reducible refine (postroomlaw10_run.calls k _ _ l0 bz bA br _ ?side1 ?side2 A8.out).mono ?_); (case side1 => repeat (first | exact (Kd.C_below HR0.out HB.out) | (with_reducible refine Kd.C_alloc ?_ _) | (with_reducible refine Kd.C_drewN ?_ _) | (with_reducible refine Kd.C_drew ?_))); (case side2 => exact HC0.out); rintro e w11 ⟨baY, rfl, ho0, hb⟩; refine ⟨_, rfl, ?_⟩; have dr := Aside0.mk (Kd.V_lower (Kd.V_mono (ok' := fun k_ => True) ho0 (fun k_ hk_ => trivial)) (below_size zx33_12)); replace HB := Aside0.mk (below_step zx33_12 hb); (try clear hb); (try clear hb2); (try clear hk); (try clear hi); (try clear ho0)) | ((with_reducible refine gate_dst (N := 8) rfl ?_); (try (refine gate_guard (by rfl) ?_; dsimp only)); refine box_event ?hg (N := 8) ?hd (cs := #[.int .u64 0, .int .u64 0, .slice none 0 0]) (t := 27) ?hr ?_; (case hd => rfl); (case hg => rfl); (case hr => first | (go_simp; done) | (go_simp; rfl)); intro bi hg w12 hbox hb; replace dr := Aside0.mk (Kd.V_below (Kd.V_elderB (by (with_reducible repeat (first | apply Kd.V_alloc | apply Kd.V_drewN | apply Kd.V_drew)); exact dr.out) bi (Nat.le_of_eq hg.symm)) hb); have bn := Aside0.mk (hbox); have baL := Aside0.mk ((by rw [hg]; exact (below_size zx33_12) : w.heap.size ≤ bi)); have bN := Aside0.mk ((by rw [hg]; exact (below_size zx33_12) : w.heap.size ≤ bi)); replace HB := Aside0.mk (below_step zx33_12 hb); clear hb hbox hg; have jd : w12.cell? ⟨bi, 0, none⟩ = some (.int .u64 0) := (blk_cell bn.out 0).trans rfl; have jc : w12.cell? ⟨bi, 1, none⟩ = some (.int .u64 0) := (blk_cell bn.out 1).trans rfl; have jb : w12.cell? ⟨bi, 2, none⟩ = some (.slice none 0 0) := (blk_cell bn.out 2).trans rfl; have hR := blk_frozen bn.out 0; have hQ := blk_frozen bn.out 1; have hP := blk_frozen bn.out 2; obtain ⟨bC, bB, z3⟩ := Kd.V_slice dr.out; subst z3))
 (try simp only [Act.put, List.setIfInBounds_toArray, List.set_cons_zero, List.set_cons_succ])
 go_cut [31] (fun v31 wc => ∃ (kq : Nat) (gp : Bool), v31 = .bool gp ∧ Aside0 (postroomlaw10_LedgerRight.j0 kq a1 a2 gp bz bA br = some r) ∧ Aside0 (kq ≤ k) ∧ Aside0 (Kd.V k37 37 wc w.heap.size (fun k_ => k_ ≠ bi) (.slice bC br.length bB) br) ∧ Aside0 (wc.heap[bi]? = some (.cells #[.int .u64 bz, .int .u64 bA, (.slice bC br.length bB)] 27 (0, 0))) ∧ Aside0 (Below w.heap.size w wc))
 case first =>
  have H := HC9.out
  clear HC9
  by_cases c15 : (br.length : Int) = 0
  ·rw [if_pos c15] at H
   have dz : ((br.length : Int) == 0) = true := beq_iff_eq.mpr c15
   have jI : ((br.length : Int) != 0) = false := bne_eq_false_iff_eq.mpr c15
   clear c15
   (first | rw [dz] | (simp only [i64_w, i32_w]; rw [dz]) | skip)
   have H' := Aside0.mk H
   clear H
   obtain ⟨ja, hZ, hY, hO, hN, hM⟩ := cx33_bc3 bn.out
   go_wp2
   go_meet
   case rel => exact ⟨_, (true), (by first | rfl | (simp; done) | (simp [*]; done)), H', ⟨by first | omega | exact Nat.le_refl _⟩, ⟨by (with_reducible repeat (first | apply Kd.V_alloc | apply Kd.V_drewN | apply Kd.V_drew)); exact Kd.V_mono (Kd.V_far (p := ⟨bi, 2, none⟩) (Kd.V_far (p := ⟨bi, 1, none⟩) (Kd.V_far (p := ⟨bi, 0, none⟩) (Kd.V_mono dr.out (fun k_ hk => (⟨hk, hk.2⟩ : _ ∧ k_ ≠ bi))) (fun _ hk => hk.2) (.int .u64 bz)) (fun _ hk => hk.2) (.int .u64 bA)) (fun _ hk => hk.2) (.slice bC br.length bB)) (fun _ hk => hk.1.2)⟩, ⟨by (with_reducible repeat (first | refine blk_drewN ?_ _ | refine blk_drew ?_ | refine blk_alloc ?_ _)); refine blk_put (cs := #[.int .u64 bz, .int .u64 bA, .slice none 0 0]) ?_ 2 _ rfl; (with_reducible repeat (first | refine blk_drewN ?_ _ | refine blk_drew ?_ | refine blk_alloc ?_ _)); refine blk_put (cs := #[.int .u64 bz, .int .u64 0, .slice none 0 0]) ?_ 1 _ rfl; (with_reducible repeat (first | refine blk_drewN ?_ _ | refine blk_drew ?_ | refine blk_alloc ?_ _)); refine blk_put (cs := #[.int .u64 0, .int .u64 0, .slice none 0 0]) ?_ 0 _ rfl; (with_reducible repeat (first | refine blk_drewN ?_ _ | refine blk_drew ?_ | refine blk_alloc ?_ _)); exact bn.out⟩, ⟨by repeat (first | (with_reducible first | exact HB.out | apply below_alloc | apply pw_below_drewN | apply below_drew1 | refine below_set ?_ bN.out) | exact HB.out)⟩⟩
  rw [if_neg c15] at H
  have dz : ((br.length : Int) == 0) = false := beq_eq_false_iff_ne.mpr c15
  have jI : ((br.length : Int) != 0) = true := bne_iff_ne.mpr c15
  have qI : ¬ (br = []) := fun h_ => c15 (by rw [h_]; rfl)
  (first | rw [dz] | (simp only [i64_w, i32_w]; rw [dz]) | skip)
  replace H := Option.bind_eq_some_iff.mp H
  obtain ⟨dh, q9, H⟩ := H
  replace H : (postroomlaw10_LedgerRight.j0 k a1 a2 (!dh) bz bA br) = some r := H
  have A17 := Aside0.mk q9
  clear q9
  have H' := Aside0.mk H
  clear H
  obtain ⟨hX, hW, hV, hL, hJ, hI⟩ := cx33_bc3 bn.out
  go_wp2_with (first | (go_at_call 24; (with_reducible refine (ledger_Right.calls k bz bA _ _ br dh _ ?side1 ?side2 A17.out).mono ?_); (case side1 => refine (Kd.V_reads' (e := 37) (base := w.heap.size) (ok := fun k_ => (True ∧ k_ ≠ bi)) (n := br.length) (c := bB) ?_).2.2; exact zx33_20); (case side2 => exact (Kd.V_reads' dr.out).2.1); rintro e w19 ⟨rfl, hb⟩; replace dr := Aside0.mk (Kd.V_below zx33_20 hb); replace bn := Aside0.mk (blk_below (g := bi) (o := .cells #[.int .u64 bz, .int .u64 bA, .slice bC br.length bB] 27 (0, 0)) (by (with_reducible repeat (first | refine blk_drewN ?_ _ | refine blk_drew ?_ | refine blk_alloc ?_ _)); refine blk_put (cs := #[.int .u64 bz, .int .u64 bA, .slice none 0 0]) ?_ 2 _ rfl; (with_reducible repeat (first | refine blk_drewN ?_ _ | refine blk_drew ?_ | refine blk_alloc ?_ _)); refine blk_put (cs := #[.int .u64 bz, .int .u64 0, .slice none 0 0]) ?_ 1 _ rfl; (with_reducible repeat (first | refine blk_drewN ?_ _ | refine blk_drew ?_ | refine blk_alloc ?_ _)); refine blk_put (cs := #[.int .u64 0, .int .u64 0, .slice none 0 0]) ?_ 0 _ rfl; (with_reducible repeat (first | refine blk_drewN ?_ _ | refine blk_drew ?_ | refine blk_alloc ?_ _)); exact bn.out) hb); replace HB := Aside0.mk (below_step zx33_10 hb); (try clear hb); (try clear hb2); (try clear hk); (try clear hi)))
  go_meet
  case rel => exact ⟨_, (!dh), (by first | rfl | (simp; done) | (simp [*]; done)), H', ⟨by first | omega | exact Nat.le_refl _⟩, ⟨by (with_reducible repeat (first | apply Kd.V_alloc | apply Kd.V_drewN | apply Kd.V_drew)); exact Kd.V_mono dr.out (fun _ hk => hk.2)⟩, ⟨by (with_reducible repeat (first | refine blk_drewN ?_ _ | refine blk_drew ?_ | refine blk_alloc ?_ _)); exact bn.out⟩, ⟨by repeat (first | (with_reducible first | exact HB.out | apply below_alloc | apply pw_below_drewN | apply below_drew1 | refine below_set ?_ bN.out) | exact HB.out)⟩⟩
 case rest =>
  clear HC9
  (try clear c1); (try clear p2); (try clear c5); (try clear c6); (try clear qD); (try clear qC); (try clear c8); (try clear c10); (try clear c11); (try clear c15); (try clear dz); (try clear jI); (try clear qI); (try clear jd); (try clear jc); (try clear jb); (try clear ja); (try clear hZ); (try clear hY); (try clear hX); (try clear hW); (try clear hV); (try clear hR); (try clear hQ); (try clear hP); (try clear hO); (try clear hN); (try clear hM); (try clear hL); (try clear hJ); (try clear hI)
  obtain ⟨kq, gp, rfl, HA, HJ8, be, bn, HB⟩ := hcut
  cases kq with
  | zero => exact absurd HA.out (by simp [postroomlaw10_LedgerRight.j0])
  | succ kj8 => ?_
  have H := HA.out
  clear HA
  simp only [postroomlaw10_LedgerRight.j0] at H
  by_cases c20 : gp = true
  ·subst c20
   have H1 : ((ledger_Right.f kj8 bz bA br).bind fun gG => (some gG)) = some r := by rw [if_pos rfl] at H; exact H
   clear H
   have H := H1
   clear H1
   replace H := Option.bind_eq_some_iff.mp H
   obtain ⟨gG, q8, H⟩ := H
   replace H : (some gG) = some r := H
   have A21 := Aside0.mk q8
   clear q8
   obtain rfl := Option.some.inj H
   obtain ⟨zc, zb, za, vq, vp, vo⟩ := cx33_bc3 bn.out
   go_wp2_with (first | ((with_reducible refine gate_callee (f := 24) rfl ?_); refine goesL_ (some 33) rfl rfl Tryd.func24 (by kernel_rfl) rfl #[.agg #[.int .u64 bz, .int .u64 bA, .slice bC br.length bB]] rfl zx33_4 ?_; (with_reducible refine (ledger_Right.calls kj8 bz bA _ _ br gG _ ?side1 ?side2 A21.out).mono ?_); (case side1 => repeat (first | exact (Kd.V_reads' be.out).2.2 | (with_reducible refine Kd.C_alloc ?_ _) | (with_reducible refine Kd.C_drewN ?_ _) | (with_reducible refine Kd.C_drew ?_))); (case side2 => exact (Kd.V_reads' be.out).2.1); rintro e w23 ⟨rfl, hb⟩; refine ⟨_, rfl, ?_⟩; replace be := Aside0.mk (Kd.V_below zx33_5 hb); replace bn := Aside0.mk (blk_below (g := bi) (o := .cells #[.int .u64 bz, .int .u64 bA, .slice bC br.length bB] 27 (0, 0)) zx33_1 hb); replace HB := Aside0.mk (below_step zx33_10 hb); (try clear hb); (try clear hb2); (try clear hk); (try clear hi)))
   go_ret
   exact ⟨by first | rfl | (simp [errW_none, errW_some] <;> rfl) | (simp [*, errW_none, errW_some] <;> rfl), by repeat (first | (with_reducible first | exact HB.out | apply below_alloc | apply pw_below_drewN | apply below_drew1 | refine below_set ?_ bN.out) | exact HB.out)⟩
  replace c20 := Bool.eq_false_iff.mpr c20
  subst c20
  have H1 : ((postroomlaw10_pick.f a1 (br.length : Int)).bind fun ba => ((ledger_Add.f bz bA br).bind fun bh => ((some (([] : List (S37)) : List (S37))).bind fun b2 => (if b2.length + bh.2.2.length < 1759218604441 then ((some (b2 ++ bh.2.2 : List (S37))).bind fun bb => ((postroomlaw10_pick.f a2 8).bind fun bp => (if bp = 0 then (if 0 ≤ ba then (if ba < (bb.length : Int) then ((ledger_Right.f kj8 bh.1 bh.2.1 bh.2.2).bind fun b1 => (if b1 = true then ((ledger_Right.f kj8 bh.1 bh.2.1 (bb.set (ba : Int).toNat (⟨(rd_T37 bb ba).f0, (rd_T37 bb ba).f1, (rd_T37 bb ba).f2, (rd_T37 bb ba).f3, IntKind.u64.wrap (((rd_T37 bb ba).f4) + 1), (rd_T37 bb ba).f5, (rd_T37 bb ba).f6⟩ : S37))).bind fun bS => (some (!bS))) else (none))) else (none)) else (none)) else (if bp = 1 then (if 0 ≤ ba then (if ba < (bb.length : Int) then ((ledger_Right.f kj8 bh.1 bh.2.1 bh.2.2).bind fun b0 => (if b0 = true then ((ledger_Right.f kj8 bh.1 bh.2.1 (bb.set (ba : Int).toNat (⟨(rd_T37 bb ba).f0, (rd_T37 bb ba).f1, IntKind.u64.wrap (((rd_T37 bb ba).f1) - 1), (rd_T37 bb ba).f3, (rd_T37 bb ba).f4, (rd_T37 bb ba).f5, (rd_T37 bb ba).f6⟩ : S37))).bind fun bR => (some (!bR))) else (none))) else (none)) else (none)) else (if bp = 2 then (if 0 ≤ ba then (if ba < (bb.length : Int) then ((ledger_Right.f kj8 bh.1 bh.2.1 bh.2.2).bind fun bZ => (if bZ = true then ((ledger_Right.f kj8 bh.1 bh.2.1 (bb.set (ba : Int).toNat (⟨(⟨#[49]⟩ : ByteArray), (rd_T37 bb ba).f1, (rd_T37 bb ba).f2, (rd_T37 bb ba).f3, (rd_T37 bb ba).f4, (rd_T37 bb ba).f5, (rd_T37 bb ba).f6⟩ : S37))).bind fun bQ => (some (!bQ))) else (none))) else (none)) else (none)) else (if bp = 3 then (if 0 ≤ ba then (if ba < (bb.length : Int) then ((ledger_Right.f kj8 bh.1 bh.2.1 bh.2.2).bind fun bW => (if bW = true then ((ledger_Right.f kj8 bh.1 bh.2.1 (bb.set (ba : Int).toNat (⟨(rd_T37 bb ba).f0, (rd_T37 bb ba).f1, (rd_T37 bb ba).f2, (([bh.2.1] : List Int)), (rd_T37 bb ba).f4, (rd_T37 bb ba).f5, (rd_T37 bb ba).f6⟩ : S37))).bind fun bL => (some (!bL))) else (none))) else (none)) else (none)) else (if bp = 4 then ((ledger_Right.f kj8 bh.1 bh.2.1 bh.2.2).bind fun dd => (if dd = true then ((ledger_Right.f kj8 0 bh.2.1 bb).bind fun bV => (some (!bV))) else (none))) else (if bp = 5 then ((ledger_Right.f kj8 bh.1 bh.2.1 bh.2.2).bind fun dc => (if dc = true then ((ledger_Right.f kj8 (IntKind.u64.wrap (bh.2.1 + 1)) bh.2.1 bb).bind fun bU => (some (!bU))) else (none))) else (if bp = 6 then (if 0 ≤ ba then (if ba < (bb.length : Int) then (if bb.length < 1759218604441 then ((ledger_Right.f kj8 bh.1 bh.2.1 bh.2.2).bind fun bY => (if bY = true then ((ledger_Right.f kj8 bh.1 bh.2.1 (bb ++ [(⟨(rd_T37 bb ba).f0, (rd_T37 bb ba).f1, (rd_T37 bb ba).f2, (rd_T37 bb ba).f3, (rd_T37 bb ba).f4, (rd_T37 bb ba).f5, (rd_T37 bb ba).f6⟩ : S37)])).bind fun bP => (some (!bP))) else (none))) else (none)) else (none)) else (none)) else (if 0 ≤ ba then (if ba < (bb.length : Int) then ((ledger_Right.f kj8 bh.1 bh.2.1 bh.2.2).bind fun bX => (if bX = true then ((ledger_Right.f kj8 bh.1 bh.2.1 (bb.set (ba : Int).toNat (⟨(rd_T37 bb ba).f0, 0, (rd_T37 bb ba).f2, (rd_T37 bb ba).f3, (rd_T37 bb ba).f4, (rd_T37 bb ba).f5, (rd_T37 bb ba).f6⟩ : S37))).bind fun bO => (some (!bO))) else (none))) else (none)) else (none))))))))))) else (none))))) = some r := by rw [if_neg (show ¬ (false = true) by decide)] at H; exact H
  clear H
  have H := H1
  clear H1
  replace H := Option.bind_eq_some_iff.mp H
  obtain ⟨ba, q7, H⟩ := H
  replace H : ((ledger_Add.f bz bA br).bind fun bh => ((some (([] : List (S37)) : List (S37))).bind fun b2 => (if b2.length + bh.2.2.length < 1759218604441 then ((some (b2 ++ bh.2.2 : List (S37))).bind fun bb => ((postroomlaw10_pick.f a2 8).bind fun bp => (if bp = 0 then (if 0 ≤ ba then (if ba < (bb.length : Int) then ((ledger_Right.f kj8 bh.1 bh.2.1 bh.2.2).bind fun b1 => (if b1 = true then ((ledger_Right.f kj8 bh.1 bh.2.1 (bb.set (ba : Int).toNat (⟨(rd_T37 bb ba).f0, (rd_T37 bb ba).f1, (rd_T37 bb ba).f2, (rd_T37 bb ba).f3, IntKind.u64.wrap (((rd_T37 bb ba).f4) + 1), (rd_T37 bb ba).f5, (rd_T37 bb ba).f6⟩ : S37))).bind fun bS => (some (!bS))) else (none))) else (none)) else (none)) else (if bp = 1 then (if 0 ≤ ba then (if ba < (bb.length : Int) then ((ledger_Right.f kj8 bh.1 bh.2.1 bh.2.2).bind fun b0 => (if b0 = true then ((ledger_Right.f kj8 bh.1 bh.2.1 (bb.set (ba : Int).toNat (⟨(rd_T37 bb ba).f0, (rd_T37 bb ba).f1, IntKind.u64.wrap (((rd_T37 bb ba).f1) - 1), (rd_T37 bb ba).f3, (rd_T37 bb ba).f4, (rd_T37 bb ba).f5, (rd_T37 bb ba).f6⟩ : S37))).bind fun bR => (some (!bR))) else (none))) else (none)) else (none)) else (if bp = 2 then (if 0 ≤ ba then (if ba < (bb.length : Int) then ((ledger_Right.f kj8 bh.1 bh.2.1 bh.2.2).bind fun bZ => (if bZ = true then ((ledger_Right.f kj8 bh.1 bh.2.1 (bb.set (ba : Int).toNat (⟨(⟨#[49]⟩ : ByteArray), (rd_T37 bb ba).f1, (rd_T37 bb ba).f2, (rd_T37 bb ba).f3, (rd_T37 bb ba).f4, (rd_T37 bb ba).f5, (rd_T37 bb ba).f6⟩ : S37))).bind fun bQ => (some (!bQ))) else (none))) else (none)) else (none)) else (if bp = 3 then (if 0 ≤ ba then (if ba < (bb.length : Int) then ((ledger_Right.f kj8 bh.1 bh.2.1 bh.2.2).bind fun bW => (if bW = true then ((ledger_Right.f kj8 bh.1 bh.2.1 (bb.set (ba : Int).toNat (⟨(rd_T37 bb ba).f0, (rd_T37 bb ba).f1, (rd_T37 bb ba).f2, (([bh.2.1] : List Int)), (rd_T37 bb ba).f4, (rd_T37 bb ba).f5, (rd_T37 bb ba).f6⟩ : S37))).bind fun bL => (some (!bL))) else (none))) else (none)) else (none)) else (if bp = 4 then ((ledger_Right.f kj8 bh.1 bh.2.1 bh.2.2).bind fun dd => (if dd = true then ((ledger_Right.f kj8 0 bh.2.1 bb).bind fun bV => (some (!bV))) else (none))) else (if bp = 5 then ((ledger_Right.f kj8 bh.1 bh.2.1 bh.2.2).bind fun dc => (if dc = true then ((ledger_Right.f kj8 (IntKind.u64.wrap (bh.2.1 + 1)) bh.2.1 bb).bind fun bU => (some (!bU))) else (none))) else (if bp = 6 then (if 0 ≤ ba then (if ba < (bb.length : Int) then (if bb.length < 1759218604441 then ((ledger_Right.f kj8 bh.1 bh.2.1 bh.2.2).bind fun bY => (if bY = true then ((ledger_Right.f kj8 bh.1 bh.2.1 (bb ++ [(⟨(rd_T37 bb ba).f0, (rd_T37 bb ba).f1, (rd_T37 bb ba).f2, (rd_T37 bb ba).f3, (rd_T37 bb ba).f4, (rd_T37 bb ba).f5, (rd_T37 bb ba).f6⟩ : S37)])).bind fun bP => (some (!bP))) else (none))) else (none)) else (none)) else (none)) else (if 0 ≤ ba then (if ba < (bb.length : Int) then ((ledger_Right.f kj8 bh.1 bh.2.1 bh.2.2).bind fun bX => (if bX = true then ((ledger_Right.f kj8 bh.1 bh.2.1 (bb.set (ba : Int).toNat (⟨(rd_T37 bb ba).f0, 0, (rd_T37 bb ba).f2, (rd_T37 bb ba).f3, (rd_T37 bb ba).f4, (rd_T37 bb ba).f5, (rd_T37 bb ba).f6⟩ : S37))).bind fun bO => (some (!bO))) else (none))) else (none)) else (none))))))))))) else (none)))) = some r := H
  have A24 := Aside0.mk q7
  clear q7
  replace H := Option.bind_eq_some_iff.mp H
  obtain ⟨⟨bg, bd, bm⟩, q6, H⟩ := H
  replace H : ((some (([] : List (S37)) : List (S37))).bind fun b2 => (if b2.length + bm.length < 1759218604441 then ((some (b2 ++ bm : List (S37))).bind fun bb => ((postroomlaw10_pick.f a2 8).bind fun bp => (if bp = 0 then (if 0 ≤ ba then (if ba < (bb.length : Int) then ((ledger_Right.f kj8 bg bd bm).bind fun b1 => (if b1 = true then ((ledger_Right.f kj8 bg bd (bb.set (ba : Int).toNat (⟨(rd_T37 bb ba).f0, (rd_T37 bb ba).f1, (rd_T37 bb ba).f2, (rd_T37 bb ba).f3, IntKind.u64.wrap (((rd_T37 bb ba).f4) + 1), (rd_T37 bb ba).f5, (rd_T37 bb ba).f6⟩ : S37))).bind fun bS => (some (!bS))) else (none))) else (none)) else (none)) else (if bp = 1 then (if 0 ≤ ba then (if ba < (bb.length : Int) then ((ledger_Right.f kj8 bg bd bm).bind fun b0 => (if b0 = true then ((ledger_Right.f kj8 bg bd (bb.set (ba : Int).toNat (⟨(rd_T37 bb ba).f0, (rd_T37 bb ba).f1, IntKind.u64.wrap (((rd_T37 bb ba).f1) - 1), (rd_T37 bb ba).f3, (rd_T37 bb ba).f4, (rd_T37 bb ba).f5, (rd_T37 bb ba).f6⟩ : S37))).bind fun bR => (some (!bR))) else (none))) else (none)) else (none)) else (if bp = 2 then (if 0 ≤ ba then (if ba < (bb.length : Int) then ((ledger_Right.f kj8 bg bd bm).bind fun bZ => (if bZ = true then ((ledger_Right.f kj8 bg bd (bb.set (ba : Int).toNat (⟨(⟨#[49]⟩ : ByteArray), (rd_T37 bb ba).f1, (rd_T37 bb ba).f2, (rd_T37 bb ba).f3, (rd_T37 bb ba).f4, (rd_T37 bb ba).f5, (rd_T37 bb ba).f6⟩ : S37))).bind fun bQ => (some (!bQ))) else (none))) else (none)) else (none)) else (if bp = 3 then (if 0 ≤ ba then (if ba < (bb.length : Int) then ((ledger_Right.f kj8 bg bd bm).bind fun bW => (if bW = true then ((ledger_Right.f kj8 bg bd (bb.set (ba : Int).toNat (⟨(rd_T37 bb ba).f0, (rd_T37 bb ba).f1, (rd_T37 bb ba).f2, (([bd] : List Int)), (rd_T37 bb ba).f4, (rd_T37 bb ba).f5, (rd_T37 bb ba).f6⟩ : S37))).bind fun bL => (some (!bL))) else (none))) else (none)) else (none)) else (if bp = 4 then ((ledger_Right.f kj8 bg bd bm).bind fun dd => (if dd = true then ((ledger_Right.f kj8 0 bd bb).bind fun bV => (some (!bV))) else (none))) else (if bp = 5 then ((ledger_Right.f kj8 bg bd bm).bind fun dc => (if dc = true then ((ledger_Right.f kj8 (IntKind.u64.wrap (bd + 1)) bd bb).bind fun bU => (some (!bU))) else (none))) else (if bp = 6 then (if 0 ≤ ba then (if ba < (bb.length : Int) then (if bb.length < 1759218604441 then ((ledger_Right.f kj8 bg bd bm).bind fun bY => (if bY = true then ((ledger_Right.f kj8 bg bd (bb ++ [(⟨(rd_T37 bb ba).f0, (rd_T37 bb ba).f1, (rd_T37 bb ba).f2, (rd_T37 bb ba).f3, (rd_T37 bb ba).f4, (rd_T37 bb ba).f5, (rd_T37 bb ba).f6⟩ : S37)])).bind fun bP => (some (!bP))) else (none))) else (none)) else (none)) else (none)) else (if 0 ≤ ba then (if ba < (bb.length : Int) then ((ledger_Right.f kj8 bg bd bm).bind fun bX => (if bX = true then ((ledger_Right.f kj8 bg bd (bb.set (ba : Int).toNat (⟨(rd_T37 bb ba).f0, 0, (rd_T37 bb ba).f2, (rd_T37 bb ba).f3, (rd_T37 bb ba).f4, (rd_T37 bb ba).f5, (rd_T37 bb ba).f6⟩ : S37))).bind fun bO => (some (!bO))) else (none))) else (none)) else (none))))))))))) else (none))) = some r := H
  have A25 := Aside0.mk q6
  clear q6
  obtain ⟨b2, d5⟩ : ∃ y_ : List (S37), y_ = (([] : List (S37))) := ⟨_, rfl⟩
  replace H : (if b2.length + bm.length < 1759218604441 then ((some (b2 ++ bm : List (S37))).bind fun bb => ((postroomlaw10_pick.f a2 8).bind fun bp => (if bp = 0 then (if 0 ≤ ba then (if ba < (bb.length : Int) then ((ledger_Right.f kj8 bg bd bm).bind fun b1 => (if b1 = true then ((ledger_Right.f kj8 bg bd (bb.set (ba : Int).toNat (⟨(rd_T37 bb ba).f0, (rd_T37 bb ba).f1, (rd_T37 bb ba).f2, (rd_T37 bb ba).f3, IntKind.u64.wrap (((rd_T37 bb ba).f4) + 1), (rd_T37 bb ba).f5, (rd_T37 bb ba).f6⟩ : S37))).bind fun bS => (some (!bS))) else (none))) else (none)) else (none)) else (if bp = 1 then (if 0 ≤ ba then (if ba < (bb.length : Int) then ((ledger_Right.f kj8 bg bd bm).bind fun b0 => (if b0 = true then ((ledger_Right.f kj8 bg bd (bb.set (ba : Int).toNat (⟨(rd_T37 bb ba).f0, (rd_T37 bb ba).f1, IntKind.u64.wrap (((rd_T37 bb ba).f1) - 1), (rd_T37 bb ba).f3, (rd_T37 bb ba).f4, (rd_T37 bb ba).f5, (rd_T37 bb ba).f6⟩ : S37))).bind fun bR => (some (!bR))) else (none))) else (none)) else (none)) else (if bp = 2 then (if 0 ≤ ba then (if ba < (bb.length : Int) then ((ledger_Right.f kj8 bg bd bm).bind fun bZ => (if bZ = true then ((ledger_Right.f kj8 bg bd (bb.set (ba : Int).toNat (⟨(⟨#[49]⟩ : ByteArray), (rd_T37 bb ba).f1, (rd_T37 bb ba).f2, (rd_T37 bb ba).f3, (rd_T37 bb ba).f4, (rd_T37 bb ba).f5, (rd_T37 bb ba).f6⟩ : S37))).bind fun bQ => (some (!bQ))) else (none))) else (none)) else (none)) else (if bp = 3 then (if 0 ≤ ba then (if ba < (bb.length : Int) then ((ledger_Right.f kj8 bg bd bm).bind fun bW => (if bW = true then ((ledger_Right.f kj8 bg bd (bb.set (ba : Int).toNat (⟨(rd_T37 bb ba).f0, (rd_T37 bb ba).f1, (rd_T37 bb ba).f2, (([bd] : List Int)), (rd_T37 bb ba).f4, (rd_T37 bb ba).f5, (rd_T37 bb ba).f6⟩ : S37))).bind fun bL => (some (!bL))) else (none))) else (none)) else (none)) else (if bp = 4 then ((ledger_Right.f kj8 bg bd bm).bind fun dd => (if dd = true then ((ledger_Right.f kj8 0 bd bb).bind fun bV => (some (!bV))) else (none))) else (if bp = 5 then ((ledger_Right.f kj8 bg bd bm).bind fun dc => (if dc = true then ((ledger_Right.f kj8 (IntKind.u64.wrap (bd + 1)) bd bb).bind fun bU => (some (!bU))) else (none))) else (if bp = 6 then (if 0 ≤ ba then (if ba < (bb.length : Int) then (if bb.length < 1759218604441 then ((ledger_Right.f kj8 bg bd bm).bind fun bY => (if bY = true then ((ledger_Right.f kj8 bg bd (bb ++ [(⟨(rd_T37 bb ba).f0, (rd_T37 bb ba).f1, (rd_T37 bb ba).f2, (rd_T37 bb ba).f3, (rd_T37 bb ba).f4, (rd_T37 bb ba).f5, (rd_T37 bb ba).f6⟩ : S37)])).bind fun bP => (some (!bP))) else (none))) else (none)) else (none)) else (none)) else (if 0 ≤ ba then (if ba < (bb.length : Int) then ((ledger_Right.f kj8 bg bd bm).bind fun bX => (if bX = true then ((ledger_Right.f kj8 bg bd (bb.set (ba : Int).toNat (⟨(rd_T37 bb ba).f0, 0, (rd_T37 bb ba).f2, (rd_T37 bb ba).f3, (rd_T37 bb ba).f4, (rd_T37 bb ba).f5, (rd_T37 bb ba).f6⟩ : S37))).bind fun bO => (some (!bO))) else (none))) else (none)) else (none))))))))))) else (none)) = some r := by first | (rw [d5]; with_reducible exact H) | (have H2_ := (Option.bind_some _ _).symm.trans H; rw [d5]; with_reducible exact H2_) | (have H2_ := (Option.bind_some _ _).symm.trans H; with_reducible exact H2_) | with_reducible exact H | (rw [d5]; exact H) | exact H
  have jK := Aside0.mk d5
  clear d5
  by_cases c26 : b2.length + bm.length < 1759218604441
  case neg =>
   rw [if_neg c26] at H
   exact absurd H (by simp)
  rw [if_pos c26] at H
  have qQ := Aside0.mk c26
  clear c26
  obtain ⟨bb, d4⟩ : ∃ y_ : List (S37), y_ = (b2 ++ bm) := ⟨_, rfl⟩
  replace H : ((postroomlaw10_pick.f a2 8).bind fun bp => (if bp = 0 then (if 0 ≤ ba then (if ba < (bb.length : Int) then ((ledger_Right.f kj8 bg bd bm).bind fun b1 => (if b1 = true then ((ledger_Right.f kj8 bg bd (bb.set (ba : Int).toNat (⟨(rd_T37 bb ba).f0, (rd_T37 bb ba).f1, (rd_T37 bb ba).f2, (rd_T37 bb ba).f3, IntKind.u64.wrap (((rd_T37 bb ba).f4) + 1), (rd_T37 bb ba).f5, (rd_T37 bb ba).f6⟩ : S37))).bind fun bS => (some (!bS))) else (none))) else (none)) else (none)) else (if bp = 1 then (if 0 ≤ ba then (if ba < (bb.length : Int) then ((ledger_Right.f kj8 bg bd bm).bind fun b0 => (if b0 = true then ((ledger_Right.f kj8 bg bd (bb.set (ba : Int).toNat (⟨(rd_T37 bb ba).f0, (rd_T37 bb ba).f1, IntKind.u64.wrap (((rd_T37 bb ba).f1) - 1), (rd_T37 bb ba).f3, (rd_T37 bb ba).f4, (rd_T37 bb ba).f5, (rd_T37 bb ba).f6⟩ : S37))).bind fun bR => (some (!bR))) else (none))) else (none)) else (none)) else (if bp = 2 then (if 0 ≤ ba then (if ba < (bb.length : Int) then ((ledger_Right.f kj8 bg bd bm).bind fun bZ => (if bZ = true then ((ledger_Right.f kj8 bg bd (bb.set (ba : Int).toNat (⟨(⟨#[49]⟩ : ByteArray), (rd_T37 bb ba).f1, (rd_T37 bb ba).f2, (rd_T37 bb ba).f3, (rd_T37 bb ba).f4, (rd_T37 bb ba).f5, (rd_T37 bb ba).f6⟩ : S37))).bind fun bQ => (some (!bQ))) else (none))) else (none)) else (none)) else (if bp = 3 then (if 0 ≤ ba then (if ba < (bb.length : Int) then ((ledger_Right.f kj8 bg bd bm).bind fun bW => (if bW = true then ((ledger_Right.f kj8 bg bd (bb.set (ba : Int).toNat (⟨(rd_T37 bb ba).f0, (rd_T37 bb ba).f1, (rd_T37 bb ba).f2, (([bd] : List Int)), (rd_T37 bb ba).f4, (rd_T37 bb ba).f5, (rd_T37 bb ba).f6⟩ : S37))).bind fun bL => (some (!bL))) else (none))) else (none)) else (none)) else (if bp = 4 then ((ledger_Right.f kj8 bg bd bm).bind fun dd => (if dd = true then ((ledger_Right.f kj8 0 bd bb).bind fun bV => (some (!bV))) else (none))) else (if bp = 5 then ((ledger_Right.f kj8 bg bd bm).bind fun dc => (if dc = true then ((ledger_Right.f kj8 (IntKind.u64.wrap (bd + 1)) bd bb).bind fun bU => (some (!bU))) else (none))) else (if bp = 6 then (if 0 ≤ ba then (if ba < (bb.length : Int) then (if bb.length < 1759218604441 then ((ledger_Right.f kj8 bg bd bm).bind fun bY => (if bY = true then ((ledger_Right.f kj8 bg bd (bb ++ [(⟨(rd_T37 bb ba).f0, (rd_T37 bb ba).f1, (rd_T37 bb ba).f2, (rd_T37 bb ba).f3, (rd_T37 bb ba).f4, (rd_T37 bb ba).f5, (rd_T37 bb ba).f6⟩ : S37)])).bind fun bP => (some (!bP))) else (none))) else (none)) else (none)) else (none)) else (if 0 ≤ ba then (if ba < (bb.length : Int) then ((ledger_Right.f kj8 bg bd bm).bind fun bX => (if bX = true then ((ledger_Right.f kj8 bg bd (bb.set (ba : Int).toNat (⟨(rd_T37 bb ba).f0, 0, (rd_T37 bb ba).f2, (rd_T37 bb ba).f3, (rd_T37 bb ba).f4, (rd_T37 bb ba).f5, (rd_T37 bb ba).f6⟩ : S37))).bind fun bO => (some (!bO))) else (none))) else (none)) else (none)))))))))) = some r := by first | (rw [d4]; with_reducible exact H) | (have H2_ := (Option.bind_some _ _).symm.trans H; rw [d4]; with_reducible exact H2_) | (have H2_ := (Option.bind_some _ _).symm.trans H; with_reducible exact H2_) | with_reducible exact H | (rw [d4]; exact H) | exact H
  have qP := Aside0.mk d4
  clear d4
  replace H := Option.bind_eq_some_iff.mp H
  obtain ⟨bp, q5, H⟩ := H
  replace H : (if bp = 0 then (if 0 ≤ ba then (if ba < (bb.length : Int) then ((ledger_Right.f kj8 bg bd bm).bind fun b1 => (if b1 = true then ((ledger_Right.f kj8 bg bd (bb.set (ba : Int).toNat (⟨(rd_T37 bb ba).f0, (rd_T37 bb ba).f1, (rd_T37 bb ba).f2, (rd_T37 bb ba).f3, IntKind.u64.wrap (((rd_T37 bb ba).f4) + 1), (rd_T37 bb ba).f5, (rd_T37 bb ba).f6⟩ : S37))).bind fun bS => (some (!bS))) else (none))) else (none)) else (none)) else (if bp = 1 then (if 0 ≤ ba then (if ba < (bb.length : Int) then ((ledger_Right.f kj8 bg bd bm).bind fun b0 => (if b0 = true then ((ledger_Right.f kj8 bg bd (bb.set (ba : Int).toNat (⟨(rd_T37 bb ba).f0, (rd_T37 bb ba).f1, IntKind.u64.wrap (((rd_T37 bb ba).f1) - 1), (rd_T37 bb ba).f3, (rd_T37 bb ba).f4, (rd_T37 bb ba).f5, (rd_T37 bb ba).f6⟩ : S37))).bind fun bR => (some (!bR))) else (none))) else (none)) else (none)) else (if bp = 2 then (if 0 ≤ ba then (if ba < (bb.length : Int) then ((ledger_Right.f kj8 bg bd bm).bind fun bZ => (if bZ = true then ((ledger_Right.f kj8 bg bd (bb.set (ba : Int).toNat (⟨(⟨#[49]⟩ : ByteArray), (rd_T37 bb ba).f1, (rd_T37 bb ba).f2, (rd_T37 bb ba).f3, (rd_T37 bb ba).f4, (rd_T37 bb ba).f5, (rd_T37 bb ba).f6⟩ : S37))).bind fun bQ => (some (!bQ))) else (none))) else (none)) else (none)) else (if bp = 3 then (if 0 ≤ ba then (if ba < (bb.length : Int) then ((ledger_Right.f kj8 bg bd bm).bind fun bW => (if bW = true then ((ledger_Right.f kj8 bg bd (bb.set (ba : Int).toNat (⟨(rd_T37 bb ba).f0, (rd_T37 bb ba).f1, (rd_T37 bb ba).f2, (([bd] : List Int)), (rd_T37 bb ba).f4, (rd_T37 bb ba).f5, (rd_T37 bb ba).f6⟩ : S37))).bind fun bL => (some (!bL))) else (none))) else (none)) else (none)) else (if bp = 4 then ((ledger_Right.f kj8 bg bd bm).bind fun dd => (if dd = true then ((ledger_Right.f kj8 0 bd bb).bind fun bV => (some (!bV))) else (none))) else (if bp = 5 then ((ledger_Right.f kj8 bg bd bm).bind fun dc => (if dc = true then ((ledger_Right.f kj8 (IntKind.u64.wrap (bd + 1)) bd bb).bind fun bU => (some (!bU))) else (none))) else (if bp = 6 then (if 0 ≤ ba then (if ba < (bb.length : Int) then (if bb.length < 1759218604441 then ((ledger_Right.f kj8 bg bd bm).bind fun bY => (if bY = true then ((ledger_Right.f kj8 bg bd (bb ++ [(⟨(rd_T37 bb ba).f0, (rd_T37 bb ba).f1, (rd_T37 bb ba).f2, (rd_T37 bb ba).f3, (rd_T37 bb ba).f4, (rd_T37 bb ba).f5, (rd_T37 bb ba).f6⟩ : S37)])).bind fun bP => (some (!bP))) else (none))) else (none)) else (none)) else (none)) else (if 0 ≤ ba then (if ba < (bb.length : Int) then ((ledger_Right.f kj8 bg bd bm).bind fun bX => (if bX = true then ((ledger_Right.f kj8 bg bd (bb.set (ba : Int).toNat (⟨(rd_T37 bb ba).f0, 0, (rd_T37 bb ba).f2, (rd_T37 bb ba).f3, (rd_T37 bb ba).f4, (rd_T37 bb ba).f5, (rd_T37 bb ba).f6⟩ : S37))).bind fun bO => (some (!bO))) else (none))) else (none)) else (none))))))))) = some r := H
  have A27 := Aside0.mk q5
  clear q5
  obtain ⟨v9, v8, v7, vn, vm, vl⟩ := cx33_bc3 bn.out
  go_upto_region 13 with (first | ((with_reducible refine gate_callee (f := 15) rfl ?_); refine goesL_ (some 38) rfl rfl Tryd.func15 (by kernel_rfl) rfl #[.int .i64 a1, .int .i64 (br.length : Int)] rfl zx33_4 ?_; (with_reducible refine (postroomlaw10_pick.calls a1 (br.length : Int) ba _ A24.out).mono ?_); rintro e w' ⟨rfl, ⟨nd, rfl⟩⟩; refine ⟨_, rfl, ?_⟩; (try (rw [drewN_self wc]; generalize hq_ : World.drewN wc _ = wc; have n0_ : Aside0 (Kd.V k37 37 wc w.heap.size (fun k_ => k_ ≠ bi) (.slice bC br.length bB) br) := ⟨by rw [← hq_]; exact zx33_5⟩; have n1_ : Aside0 (wc.heap[bi]? = some (.cells #[.int .u64 bz, .int .u64 bA, .slice bC br.length bB] 27 (0, 0))) := ⟨by rw [← hq_]; exact zx33_1⟩; have n2_ : Aside0 (Below w.heap.size w wc) := ⟨by rw [← hq_]; exact zx33_10⟩; clear be bn HB hq_; have be := n0_; have bn := n1_; have HB := n2_; clear n0_ n1_ n2_; have gf : wc.cell? ⟨bi, 0, none⟩ = some (.int .u64 bz) := (blk_cell bn.out 0).trans rfl; have gb := blk_frozen bn.out 0; have ge : wc.cell? ⟨bi, 1, none⟩ = some (.int .u64 bA) := (blk_cell bn.out 1).trans rfl; have ga := blk_frozen bn.out 1; have gc : wc.cell? ⟨bi, 2, none⟩ = some (.slice bC br.length bB) := (blk_cell bn.out 2).trans rfl; have d9 := blk_frozen bn.out 2))) | ((with_reducible refine gate_callee (f := 16) rfl ?_); refine goesL_ (some 40) rfl rfl Tryd.func16 (by kernel_rfl) rfl #[.agg #[.int .u64 bz, .int .u64 bA, .slice bC br.length bB]] rfl zx33_4 ?_; (with_reducible refine (ledger_Add.calls bz bA (fun k_ => k_ ≠ bi) _ _ br bg bd bm _ ?side1 A25.out).mono ?_); (case side1 => exact be.out); rintro e w36 ⟨baX, rfl, ho0, hb⟩; refine ⟨_, rfl, ?_⟩; replace be := Aside0.mk (Kd.V_elder' zx33_5 (Kd.N_base ho0) hb); have bo := Aside0.mk (Kd.N_lower (Kd.N_mono (ok' := fun k_ => k_ ≠ bi) ho0 (fun k_ hk_ => Or.elim hk_ (fun hs_ => hs_) (fun hn_ => (Kd.freshB (g := bi) (o := .cells #[.int .u64 bz, .int .u64 bA, .slice bC br.length bB] 27 (0, 0)) zx33_1 k_ hn_)))) (below_size zx33_10)); replace bn := Aside0.mk (blk_below (g := bi) (o := .cells #[.int .u64 bz, .int .u64 bA, .slice bC br.length bB] 27 (0, 0)) zx33_1 hb); replace HB := Aside0.mk (below_step zx33_10 hb); (try clear hb); (try clear hb2); (try clear hk); (try clear hi); (try clear ho0)) | ((with_reducible refine gate_dst (N := 10) rfl ?_); (try (refine gate_guard (by rfl) ?_; dsimp only)); refine box_event ?hg (N := 10) ?hd (cs := #[.int .u64 0, .int .u64 0, .slice none 0 0]) (t := 27) ?hr ?_; (case hd => rfl); (case hg => rfl); (case hr => first | (go_simp; done) | (go_simp; rfl)); intro bj hg w37 hbox hb; replace be := Aside0.mk (Kd.V_below (Kd.V_elderB zx33_5 bj (Nat.le_of_eq hg.symm)) hb); replace bo := Aside0.mk (Kd.N_below (Kd.N_elderB zx33_9 bj (Nat.le_of_eq hg.symm)) hb); have bl := Aside0.mk (hbox); have baK := Aside0.mk ((by rw [hg]; exact (below_size zx33_10) : w.heap.size ≤ bj)); have b8 := Aside0.mk ((by rw [hg]; exact (below_size zx33_10) : w.heap.size ≤ bj)); replace HB := Aside0.mk (below_step zx33_10 hb); have dC := Aside0.mk ((by rw [hg]; exact Nat.ne_of_lt (blk_lt (g := bi) (o := .cells #[.int .u64 bz, .int .u64 bA, .slice bC br.length bB] 27 (0, 0)) zx33_1) : bi ≠ bj)); have gH := Aside0.mk ((by rw [hg]; exact Nat.ne_of_gt (blk_lt (g := bi) (o := .cells #[.int .u64 bz, .int .u64 bA, .slice bC br.length bB] 27 (0, 0)) zx33_1) : bj ≠ bi)); replace bn := Aside0.mk (blk_below (g := bi) (o := .cells #[.int .u64 bz, .int .u64 bA, .slice bC br.length bB] 27 (0, 0)) zx33_1 hb); clear hb hbox hg; have bao := gH.out; have bal := dC.out; have v6 : w37.cell? ⟨bj, 0, none⟩ = some (.int .u64 0) := (blk_cell bl.out 0).trans rfl; have v5 : w37.cell? ⟨bj, 1, none⟩ = some (.int .u64 0) := (blk_cell bl.out 1).trans rfl; have v4 : w37.cell? ⟨bj, 2, none⟩ = some (.slice none 0 0) := (blk_cell bl.out 2).trans rfl; have vk := blk_frozen bl.out 0; have vj := blk_frozen bl.out 1; have vi := blk_frozen bl.out 2; obtain ⟨bw, bu, z2⟩ := Kd.N_slice bo.out; subst z2) | ((with_reducible refine gate_dst (N := 11) rfl ?_); (try (refine gate_guard (by rfl) ?_; dsimp only)); refine box_event ?hg (N := 11) ?hd (cs := #[.int .u64 0, .int .u64 0, .slice none 0 0]) (t := 27) ?hr ?_; (case hd => rfl); (case hg => rfl); (case hr => first | (go_simp; done) | (go_simp; rfl)); intro bc hg w41 hbox hb; replace be := Aside0.mk (Kd.V_below (Kd.V_elderB (by (with_reducible repeat (first | apply Kd.V_alloc | apply Kd.V_drewN | apply Kd.V_drew)); exact (Kd.V_mono (Kd.V_far (p := ⟨bj, 2, none⟩) (Kd.V_far (p := ⟨bj, 1, none⟩) (Kd.V_far (p := ⟨bj, 0, none⟩) (Kd.V_mono be.out (fun k_ hk => (⟨hk, hk.2⟩ : _ ∧ k_ ≠ bj))) (fun _ hk => hk.2) (.int .u64 bg)) (fun _ hk => hk.2) (.int .u64 bd)) (fun _ hk => hk.2) (.slice bw bm.length bu)) (fun _ h_ => h_.1))) bc (Nat.le_of_eq hg.symm)) hb); replace bo := Aside0.mk (Kd.N_below (Kd.N_elderB (by (with_reducible repeat (first | apply Kd.N_alloc | apply Kd.N_drewN | apply Kd.N_drew)); exact (Kd.N_mono (Kd.N_far (p := ⟨bj, 2, none⟩) (Kd.N_far (p := ⟨bj, 1, none⟩) (Kd.N_far (p := ⟨bj, 0, none⟩) (Kd.N_mono bo.out (fun k_ hk => (⟨hk, hk.2⟩ : _ ∧ k_ ≠ bj))) (fun _ hk => hk.2) (.int .u64 bg)) (fun _ hk => hk.2) (.int .u64 bd)) (fun _ hk => hk.2) (.slice bw bm.length bu)) (fun _ h_ => h_.1))) bc (Nat.le_of_eq hg.symm)) hb); have bf := Aside0.mk (hbox); have baJ := Aside0.mk ((by rw [hg]; exact (below_size zx33_22) : w.heap.size ≤ bc)); have de := Aside0.mk ((by rw [hg]; exact (below_size zx33_22) : w.heap.size ≤ bc)); replace HB := Aside0.mk (below_step zx33_22 hb); have da := Aside0.mk ((by rw [hg]; exact Nat.ne_of_lt (blk_lt (g := bi) (o := .cells #[.int .u64 bz, .int .u64 bA, .slice bC br.length bB] 27 (0, 0)) zx33_11) : bi ≠ bc)); have dB := Aside0.mk ((by rw [hg]; exact Nat.ne_of_gt (blk_lt (g := bi) (o := .cells #[.int .u64 bz, .int .u64 bA, .slice bC br.length bB] 27 (0, 0)) zx33_11) : bc ≠ bi)); replace bn := Aside0.mk (blk_below (g := bi) (o := .cells #[.int .u64 bz, .int .u64 bA, .slice bC br.length bB] 27 (0, 0)) zx33_11 hb); have b9 := Aside0.mk ((by rw [hg]; exact Nat.ne_of_lt (blk_lt (g := bj) (o := .cells #[.int .u64 bg, .int .u64 bd, .slice bw bm.length bu] 27 (0, 0)) zx33_8) : bj ≠ bc)); have dA := Aside0.mk ((by rw [hg]; exact Nat.ne_of_gt (blk_lt (g := bj) (o := .cells #[.int .u64 bg, .int .u64 bd, .slice bw bm.length bu] 27 (0, 0)) zx33_8) : bc ≠ bj)); replace bl := Aside0.mk (blk_below (g := bj) (o := .cells #[.int .u64 bg, .int .u64 bd, .slice bw bm.length bu] 27 (0, 0)) zx33_8 hb); clear hb hbox hg; have ban := dB.out; have bak := da.out; have bam := dA.out; have baj := b9.out; have v3 : w41.cell? ⟨bc, 0, none⟩ = some (.int .u64 0) := (blk_cell bf.out 0).trans rfl; have v2 : w41.cell? ⟨bc, 1, none⟩ = some (.int .u64 0) := (blk_cell bf.out 1).trans rfl; have v0 : w41.cell? ⟨bc, 2, none⟩ = some (.slice none 0 0) := (blk_cell bf.out 2).trans rfl; have vh := blk_frozen bf.out 0; have vg := blk_frozen bf.out 1; have vf := blk_frozen bf.out 2) | ((with_reducible refine gate_dst (N := 42) rfl ?_); (try (refine gate_guard (by rfl) ?_; dsimp only)); refine Kd.N_lit k37 _ 37 ?hg (N' := 42) ?hd (xs := ([] : List (S37))) (inner := []) (ok := (fun k_ => some k_ ≠ (.slice bw bm.length bu : Value).ownBlock ∧ k_ ≠ bi ∧ k_ ≠ bj ∧ k_ ≠ bc)) (okp := (fun k_ => some k_ ≠ (.slice bw bm.length bu : Value).ownBlock ∧ k_ ≠ bi ∧ k_ ≠ bj ∧ k_ ≠ bc)) ?hr ?hp (fun _ hk => hk) ((show ∀ k_, _ ≤ k_ → (fun k_ => some k_ ≠ (.slice bw bm.length bu : Value).ownBlock ∧ k_ ≠ bi ∧ k_ ≠ bj ∧ k_ ≠ bc) k_ from fun k_ hk => ⟨Kd.fresh' (Kd.N_lt zx33_21) k_ hk, Kd.freshB (g := bi) (o := .cells #[.int .u64 bz, .int .u64 bA, .slice bC br.length bB] 27 (0, 0)) zx33_17 k_ hk, Kd.freshB (g := bj) (o := .cells #[.int .u64 bg, .int .u64 bd, .slice bw bm.length bu] 27 (0, 0)) zx33_18 k_ hk, Kd.freshB (g := bc) (o := .cells #[.int .u64 bg, .int .u64 bd, .slice bw bm.length bu] 27 (0, 0)) zx33_15 k_ hk⟩) _ (Nat.le_refl _)) (Below.refl _ _) (Nat.le_refl _) (by simp) ?_; (case hd => rfl); (case hg => rfl); (case hr => first | (go_simp; done) | (go_simp; rfl)); (case hp => exact (Reps.none _ _)); intro j8 w45 d8 hb hg_ hnew_; clear hg_ hnew_; (first | rw [← jK.out] at d8 | (simp only [Int.reduceToNat] at d8; rw [← jK.out] at d8)); replace be := Aside0.mk (Kd.V_elder' (by (with_reducible repeat (first | apply Kd.V_alloc | apply Kd.V_drewN | apply Kd.V_drew)); exact (Kd.V_mono (Kd.V_far (p := ⟨bc, 2, none⟩) (Kd.V_far (p := ⟨bc, 1, none⟩) (Kd.V_far (p := ⟨bc, 0, none⟩) (Kd.V_mono be.out (fun k_ hk => (⟨hk, hk.2⟩ : _ ∧ k_ ≠ bc))) (fun _ hk => hk.2) (.int .u64 bg)) (fun _ hk => hk.2) (.int .u64 bd)) (fun _ hk => hk.2) (.slice bw bm.length bu)) (fun _ h_ => h_.1))) (Kd.N_base d8) hb); replace bo := Aside0.mk (Kd.N_elder' zx33_21 (Kd.N_base d8) hb); have d6 := Aside0.mk (Kd.N_lower d8 (below_size zx33_0)); replace bn := Aside0.mk (blk_below (g := bi) (o := .cells #[.int .u64 bz, .int .u64 bA, .slice bC br.length bB] 27 (0, 0)) zx33_17 hb); replace bl := Aside0.mk (blk_below (g := bj) (o := .cells #[.int .u64 bg, .int .u64 bd, .slice bw bm.length bu] 27 (0, 0)) zx33_18 hb); replace bf := Aside0.mk (blk_below (g := bc) (o := .cells #[.int .u64 bg, .int .u64 bd, .slice bw bm.length bu] 27 (0, 0)) zx33_15 hb); replace HB := Aside0.mk (below_step zx33_0 hb); clear hb d8; have vZ : w45.cell? ⟨bj, 0, none⟩ = some (.int .u64 bg) := (blk_cell bl.out 0).trans rfl; have vY : w45.cell? ⟨bj, 1, none⟩ = some (.int .u64 bd) := (blk_cell bl.out 1).trans rfl; have vX : w45.cell? ⟨bj, 2, none⟩ = some (.slice bw bm.length bu) := (blk_cell bl.out 2).trans rfl; have ve := blk_frozen bl.out 0; have vd := blk_frozen bl.out 1; have vc := blk_frozen bl.out 2) | ((with_reducible refine gate_builtin (b := .append) (xs := #[.tmp 42, .tmp 44]) rfl ?_); (try (refine gate_guard (by rfl) ?_; dsimp only)); at_builtin; refine Kd.N_append_rows k37 (w0 := w) w.heap.size rfl (.tmp 42) (.tmp 44) 25 37 (.agg #[(.string ⟨#[]⟩), (.int .u64 0), (.int .u64 0), (.slice none 0 0), (.int .u64 0), (.int .u64 0), (.int .u64 0)]) 80 rfl Tryd.underlying25 info37 rfl (by decide) (by omega) j8 b2 bm _ _ _ (fun k_ => k_ ≠ bi ∧ k_ ≠ bj ∧ k_ ≠ bc) (fun k_ => ((fun k_ => k_ ≠ bi ∧ k_ ≠ bj ∧ k_ ≠ bc)) k_ ∧ some k_ ≠ (j8 : Value).ownBlock) rfl rfl ?aO ?aR (fun _ hk => hk) ?aF ?aB ?aS ?aL ?_; (case aR => exact (by skip; exact Kd.N_F (Kd.N_mono (ok' := (fun k_ => ((fun k_ => k_ ≠ bi ∧ k_ ≠ bj ∧ k_ ≠ bc)) k_ ∧ some k_ ≠ (j8 : Value).ownBlock)) (bo.out) (fun k_ hk => ⟨⟨hk.1.1.1, ⟨hk.1.1.2, hk.1.2⟩⟩, hk.2⟩)))); (case aB => exact zx33_0); (case aF => exact (fun k_ hk => ⟨Kd.freshB (g := bi) (o := .cells #[.int .u64 bz, .int .u64 bA, .slice bC br.length bB] 27 (0, 0)) zx33_1 k_ hk, Kd.freshB (g := bj) (o := .cells #[.int .u64 bg, .int .u64 bd, .slice bw bm.length bu] 27 (0, 0)) zx33_2 k_ hk, Kd.freshB (g := bc) (o := .cells #[.int .u64 bg, .int .u64 bd, .slice bw bm.length bu] 27 (0, 0)) zx33_3 k_ hk⟩)); (case aO => exact (by (with_reducible repeat (first | apply Kd.N_alloc | apply Kd.N_drewN | apply Kd.N_drew)); exact Kd.N_mono d6.out (fun _ hk => ⟨hk.2.1, ⟨hk.2.2.1, hk.2.2.2⟩⟩))); (case aS => exact (below_size zx33_0)); (case aL => have := qQ.out; omega); intro baW w48 ho hb hg hat; rw [← qP.out] at ho; have n0_ := Aside0.mk (Kd.V_afterv (ok := (fun k_ => some k_ ≠ (.slice bw bm.length bu : Value).ownBlock ∧ k_ ≠ bi ∧ k_ ≠ bj ∧ k_ ≠ bc)) (by (with_reducible repeat (first | apply Kd.V_alloc | apply Kd.V_drewN | apply Kd.V_drew)); exact Kd.V_mono be.out (fun _ hk => ⟨⟨hk.1.1.1.2, ⟨hk.1.1.1.1, ⟨hk.1.1.2, hk.1.2⟩⟩⟩, hk.2⟩)) hg hat); have n1_ := Aside0.mk (blk_grown (g := bi) (o := .cells #[.int .u64 bz, .int .u64 bA, .slice bC br.length bB] 27 (0, 0)) zx33_1 hg (Kd.N_ne d6.out bn.out (by decide))); have n2_ := Aside0.mk (Kd.N_afterv (ok := (fun k_ => k_ ≠ bi ∧ k_ ≠ bj ∧ k_ ≠ bc)) (by (with_reducible repeat (first | apply Kd.N_alloc | apply Kd.N_drewN | apply Kd.N_drew)); exact Kd.N_mono bo.out (fun _ hk => ⟨⟨hk.1.1.1, ⟨hk.1.1.2, hk.1.2⟩⟩, hk.2⟩)) hg hat); have n3_ := Aside0.mk (blk_grown (g := bj) (o := .cells #[.int .u64 bg, .int .u64 bd, .slice bw bm.length bu] 27 (0, 0)) zx33_2 hg (Kd.N_ne d6.out bl.out (by decide))); have n4_ := Aside0.mk (blk_grown (g := bc) (o := .cells #[.int .u64 bg, .int .u64 bd, .slice bw bm.length bu] 27 (0, 0)) zx33_3 hg (Kd.N_ne d6.out bf.out (by decide))); have n5_ := Aside0.mk (hb); have n6_ := Aside0.mk (ho); clear be; clear bn; (try clear bo); clear bl; clear bf; clear HB; (try clear d6); have be := n0_; have bn := n1_; have bo := n2_; have bl := n3_; have bf := n4_; have HB := n5_; have bk := n6_; clear n0_ n1_ n2_ n3_ n4_ n5_ n6_; clear ho hb hg hat; obtain ⟨bM, bq, z1⟩ := Kd.N_slice bk.out; subst z1; have vW : w48.cell? ⟨bc, 0, none⟩ = some (.int .u64 bg) := (blk_cell bf.out 0).trans rfl; have vV : w48.cell? ⟨bc, 1, none⟩ = some (.int .u64 bd) := (blk_cell bf.out 1).trans rfl; have vU : w48.cell? ⟨bc, 2, none⟩ = some (.slice bw bm.length bu) := (blk_cell bf.out 2).trans rfl; have vb := blk_frozen bf.out 0; have va := blk_frozen bf.out 1; have sZ := blk_frozen bf.out 2) | ((with_reducible refine gate_store (t := 25) (p := 46) rfl ?_); refine store_event (t := 25) (p := 46) (v := ?vo_w51) (w1 := (w48.setCell ⟨bc, 2, none⟩ (.slice bM bb.length bq))) ?hg ?ho ?hn ?hr ?_; (case ho => rfl); (case hg => rfl); (case hn => rfl); (case hr => first | (go_simp; done) | (go_simp; rfl)); intro w51 hw; have n0_ : Aside0 (Kd.V k37 37 w51 w.heap.size (fun k_ => some k_ ≠ (.slice bw bm.length bu : Value).ownBlock ∧ some k_ ≠ (.slice bM bb.length bq : Value).ownBlock ∧ k_ ≠ bi ∧ k_ ≠ bj ∧ k_ ≠ bc) (.slice bC br.length bB) br) := ⟨(by rw [hw]; exact (by (with_reducible repeat (first | apply Kd.V_alloc | apply Kd.V_drewN | apply Kd.V_drew)); exact Kd.V_mono (Kd.V_far (p := ⟨bc, 2, none⟩) (Kd.V_mono be.out (fun k_ hk => (⟨hk, hk.1.2.2.2⟩ : _ ∧ k_ ≠ bc))) (fun _ hk => hk.2) (.slice bM bb.length bq)) (fun _ hk => ⟨hk.1.1.1, ⟨hk.1.2, ⟨hk.1.1.2.1, ⟨hk.1.1.2.2.1, hk.1.1.2.2.2⟩⟩⟩⟩)))⟩; have n1_ : Aside0 (Kd.N k37 37 w51 w.heap.size (fun k_ => some k_ ≠ (.slice bM bb.length bq : Value).ownBlock ∧ k_ ≠ bi ∧ k_ ≠ bj ∧ k_ ≠ bc) (.slice bw bm.length bu) bm) := ⟨(by rw [hw]; exact (by (with_reducible repeat (first | apply Kd.N_alloc | apply Kd.N_drewN | apply Kd.N_drew)); exact Kd.N_mono (Kd.N_far (p := ⟨bc, 2, none⟩) (Kd.N_mono bo.out (fun k_ hk => (⟨hk, hk.1.2.2⟩ : _ ∧ k_ ≠ bc))) (fun _ hk => hk.2) (.slice bM bb.length bq)) (fun _ hk => ⟨hk.1.2, ⟨hk.1.1.1, ⟨hk.1.1.2.1, hk.1.1.2.2⟩⟩⟩)))⟩; have n2_ : Aside0 (Kd.N k37 37 w51 w.heap.size (fun k_ => k_ ≠ bi ∧ k_ ≠ bj ∧ k_ ≠ bc) (.slice bM bb.length bq) bb) := ⟨(by rw [hw]; exact (by (with_reducible repeat (first | apply Kd.N_alloc | apply Kd.N_drewN | apply Kd.N_drew)); exact Kd.N_mono (Kd.N_far (p := ⟨bc, 2, none⟩) (Kd.N_mono bk.out (fun k_ hk => (⟨hk, hk.2.2⟩ : _ ∧ k_ ≠ bc))) (fun _ hk => hk.2) (.slice bM bb.length bq)) (fun _ hk => ⟨hk.1.1, ⟨hk.1.2.1, hk.1.2.2⟩⟩)))⟩; have n3_ : Aside0 (w51.heap[bi]? = some (.cells #[.int .u64 bz, .int .u64 bA, .slice bC br.length bB] 27 (0, 0))) := ⟨(by rw [hw]; exact zx33_13)⟩; have n4_ : Aside0 (w51.heap[bj]? = some (.cells #[.int .u64 bg, .int .u64 bd, .slice bw bm.length bu] 27 (0, 0))) := ⟨(by rw [hw]; exact zx33_14)⟩; have n5_ : Aside0 (w51.heap[bc]? = some (.cells #[.int .u64 bg, .int .u64 bd, .slice bM bb.length bq] 27 (0, 0))) := ⟨(by rw [hw]; exact (by (with_reducible repeat (first | refine blk_drewN ?_ _ | refine blk_drew ?_ | refine blk_alloc ?_ _)); refine blk_put (cs := #[.int .u64 bg, .int .u64 bd, .slice bw bm.length bu]) ?_ 2 _ rfl; (with_reducible repeat (first | refine blk_drewN ?_ _ | refine blk_drew ?_ | refine blk_alloc ?_ _)); exact bf.out))⟩; have n6_ : Aside0 (Below w.heap.size w w51) := ⟨(by rw [hw]; exact zx33_0)⟩; clear hw; clear be; (try clear bo); (try clear bk); clear bn; clear bl; clear bf; clear HB; have be := n0_; have bo := n1_; have bk := n2_; have bn := n3_; have bl := n4_; have bf := n5_; have HB := n6_; clear n0_ n1_ n2_ n3_ n4_ n5_ n6_) | ((with_reducible refine gate_callee (f := 15) rfl ?_); refine goesL_ (some 48) rfl rfl Tryd.func15 (by kernel_rfl) rfl #[.int .i64 a2, .int .i64 8] rfl zx33_4 ?_; (with_reducible refine (postroomlaw10_pick.calls a2 8 bp _ A27.out).mono ?_); rintro e w' ⟨rfl, ⟨nd, rfl⟩⟩; refine ⟨_, rfl, ?_⟩; (try (rw [drewN_self w51]; generalize hq_ : World.drewN w51 _ = w51; have n0_ : Aside0 (Kd.N k37 37 w51 w.heap.size (fun k_ => some k_ ≠ (.slice bM bb.length bq : Value).ownBlock ∧ k_ ≠ bi ∧ k_ ≠ bj ∧ k_ ≠ bc) (.slice bw bm.length bu) bm) := ⟨by rw [← hq_]; exact zx33_9⟩; have n1_ : Aside0 (Kd.N k37 37 w51 w.heap.size (fun k_ => k_ ≠ bi ∧ k_ ≠ bj ∧ k_ ≠ bc) (.slice bM bb.length bq) bb) := ⟨by rw [← hq_]; exact zx33_7⟩; have n2_ : Aside0 (Kd.V k37 37 w51 w.heap.size (fun k_ => some k_ ≠ (.slice bw bm.length bu : Value).ownBlock ∧ some k_ ≠ (.slice bM bb.length bq : Value).ownBlock ∧ k_ ≠ bi ∧ k_ ≠ bj ∧ k_ ≠ bc) (.slice bC br.length bB) br) := ⟨by rw [← hq_]; exact zx33_5⟩; have n3_ : Aside0 (w51.heap[bi]? = some (.cells #[.int .u64 bz, .int .u64 bA, .slice bC br.length bB] 27 (0, 0))) := ⟨by rw [← hq_]; exact zx33_1⟩; have n4_ : Aside0 (w51.heap[bj]? = some (.cells #[.int .u64 bg, .int .u64 bd, .slice bw bm.length bu] 27 (0, 0))) := ⟨by rw [← hq_]; exact zx33_2⟩; have n5_ : Aside0 (w51.heap[bc]? = some (.cells #[.int .u64 bg, .int .u64 bd, .slice bM bb.length bq] 27 (0, 0))) := ⟨by rw [← hq_]; exact zx33_3⟩; have n6_ : Aside0 (Below w.heap.size w w51) := ⟨by rw [← hq_]; exact zx33_0⟩; (try clear bo); clear bk be bn bl bf HB hq_; have bo := n0_; have bk := n1_; have be := n2_; have bn := n3_; have bl := n4_; have bf := n5_; have HB := n6_; clear n0_ n1_ n2_ n3_ n4_ n5_ n6_; have gf : w51.cell? ⟨bi, 0, none⟩ = some (.int .u64 bz) := (blk_cell bn.out 0).trans rfl; have gb := blk_frozen bn.out 0; have ge : w51.cell? ⟨bi, 1, none⟩ = some (.int .u64 bA) := (blk_cell bn.out 1).trans rfl; have ga := blk_frozen bn.out 1; have gc : w51.cell? ⟨bi, 2, none⟩ = some (.slice bC br.length bB) := (blk_cell bn.out 2).trans rfl; have d9 := blk_frozen bn.out 2; have mQ : w51.cell? ⟨bj, 0, none⟩ = some (.int .u64 bg) := (blk_cell bl.out 0).trans rfl; have mC := blk_frozen bl.out 0; have mP : w51.cell? ⟨bj, 1, none⟩ = some (.int .u64 bd) := (blk_cell bl.out 1).trans rfl; have mB := blk_frozen bl.out 1; have mO : w51.cell? ⟨bj, 2, none⟩ = some (.slice bw bm.length bu) := (blk_cell bl.out 2).trans rfl; have mA := blk_frozen bl.out 2; have mN : w51.cell? ⟨bc, 0, none⟩ = some (.int .u64 bg) := (blk_cell bf.out 0).trans rfl; have mz := blk_frozen bf.out 0; have mM : w51.cell? ⟨bc, 1, none⟩ = some (.int .u64 bd) := (blk_cell bf.out 1).trans rfl; have my := blk_frozen bf.out 1; have mL : w51.cell? ⟨bc, 2, none⟩ = some (.slice bM bb.length bq) := (blk_cell bf.out 2).trans rfl; have mw := blk_frozen bf.out 2)); have vT : w51.cell? ⟨bc, 0, none⟩ = some (.int .u64 bg) := (blk_cell bf.out 0).trans rfl; have vS : w51.cell? ⟨bc, 1, none⟩ = some (.int .u64 bd) := (blk_cell bf.out 1).trans rfl; have vR : w51.cell? ⟨bc, 2, none⟩ = some (.slice bM bb.length bq) := (blk_cell bf.out 2).trans rfl; have sY := blk_frozen bf.out 0; have sX := blk_frozen bf.out 1; have sW := blk_frozen bf.out 2))
  by_cases c28 : bp = 0
  ·rw [if_pos c28] at H
   have qH : (bp == 0) = true := beq_iff_eq.mpr c28
   have qG : (bp != 0) = false := bne_eq_false_iff_eq.mpr c28
   clear c28
   by_cases c29 : 0 ≤ ba
   case neg =>
    rw [if_neg c29] at H
    exact absurd H (by simp)
   rw [if_pos c29] at H
   have baG : decide (0 ≤ ba) = true := decide_eq_true c29
   clear c29
   by_cases c30 : ba < (bb.length : Int)
   case neg =>
    rw [if_neg c30] at H
    exact absurd H (by simp)
   rw [if_pos c30] at H
   have baF : decide (ba < (bb.length : Int)) = true := decide_eq_true c30
   clear c30
   obtain ⟨dW, d3⟩ : ∃ y_ : List (S37), y_ = (bb.set (ba : Int).toNat (⟨(rd_T37 bb ba).f0, (rd_T37 bb ba).f1, (rd_T37 bb ba).f2, (rd_T37 bb ba).f3, IntKind.u64.wrap (((rd_T37 bb ba).f4) + 1), (rd_T37 bb ba).f5, (rd_T37 bb ba).f6⟩ : S37)) := ⟨_, rfl⟩
   replace H : ((ledger_Right.f kj8 bg bd bm).bind fun b1 => (if b1 = true then ((ledger_Right.f kj8 bg bd dW).bind fun bS => (some (!bS))) else (none))) = some r := by first | (rw [d3]; with_reducible exact H) | (have H2_ := (Option.bind_some _ _).symm.trans H; rw [d3]; with_reducible exact H2_) | (have H2_ := (Option.bind_some _ _).symm.trans H; with_reducible exact H2_) | with_reducible exact H | (rw [d3]; exact H) | exact H
   have qO := Aside0.mk d3
   clear d3
   replace H := Option.bind_eq_some_iff.mp H
   obtain ⟨b1, q4, H⟩ := H
   replace H : (if b1 = true then ((ledger_Right.f kj8 bg bd dW).bind fun bS => (some (!bS))) else (none)) = some r := H
   have A32 := Aside0.mk q4
   clear q4
   by_cases c33 : b1 = true
   case neg =>
    replace c33 := Bool.eq_false_iff.mpr c33
    subst c33
    have H1 : (none) = some r := by rw [if_neg (show ¬ (false = true) by decide)] at H; exact H
    clear H
    have H := H1
    clear H1
    exact absurd H (by simp)
   subst c33
   have H1 : ((ledger_Right.f kj8 bg bd dW).bind fun bS => (some (!bS))) = some r := by rw [if_pos rfl] at H; exact H
   clear H
   have H := H1
   clear H1
   replace H := Option.bind_eq_some_iff.mp H
   obtain ⟨bS, q3, H⟩ := H
   replace H : (some (!bS)) = some r := H
   have A34 := Aside0.mk q3
   clear q3
   obtain rfl := Option.some.inj H
   have hu : 0 ≤ (ba : Int) := of_decide_eq_true zx33_6
   have hq : ba < (bb.length : Int) := of_decide_eq_true zx33_6
   obtain ⟨baI, ba7, z7, z6, hB, hA, hz, gw, hy, hx, hv, gz, gC⟩ := at_T37 (Kd.N_reads' bk.out).2.2 ba hu hq
   cases z6
   obtain ⟨bav, mV, mY, gR⟩ := Kd.N_get bk.out z37 ba hu (by first | exact hq | exact of_decide_eq_true zx33_6 | (have e_ := (Kd.N_reads' bk.out).1; omega))
   obtain ⟨sl, sf, rfl, dH, dS⟩ := k37_openF mY
   have dy := gR 3 _ rfl
   rw [add_field _ _ 3 (by omega)] at dy
   replace dy := Option.some.inj (dy.symm.trans gw)
   injection dy with hva_ hvn_ hvc_
   rw [hva_] at dS
   rw [hvc_] at dH
   have db := Aside0.mk (show Kd.V (Kd.int .u64) 24 _ w.heap.size _ _ ((rd_T37 bb ba).f3) from Kd.V_mk dH dS)
   clear hva_ hvn_ hvc_ dS dH
   clear gR mV
   have zg := Aside0.mk gC
   have zj := Aside0.mk gz
   clear gC gz
   replace hu := eq_true hu
   replace hq := eq_true hq
   have p31 : 0 ≤ (ba : Int) := of_decide_eq_true zx33_6
   have q31 : (ba : Int) < ((bb.length : Int) : Int) := of_decide_eq_true zx33_6
   obtain ⟨bI, bb3, qz, qw, zX, bb6, qW⟩ := Kd.N_form bk.out (by omega)
   (first | cases qz | (injection qz with ea_ en_ ec_; (first | subst ea_ | (injection ea_ with ea_; subst ea_)); subst ec_; clear en_))
   have ba6 := Aside0.mk qw
   have bbd := Aside0.mk qW
   clear qw zX qW
   (first | simp only [add_plain] at hB | skip)
   (first | simp only [add_plain] at hA | skip)
   (first | simp only [add_plain] at hz | skip)
   (first | simp only [add_plain] at gw | skip)
   (first | simp only [add_plain] at hy | skip)
   (first | simp only [add_plain] at hx | skip)
   (first | simp only [add_plain] at hv | skip)
   obtain ⟨bbb, qm, qr, dp, dl⟩ := Kd.N_elem bk.out z37 (ba : Int) p31 q31
   obtain ⟨mg, md, rfl, zn, z0⟩ := k37_openF qr
   have zF : w51.cell? ⟨bI, (ba : Int).toNat * 7, none⟩ = some (.string ((rd_T37 bb ba).f0)) := dp 0 _ rfl
   have zE : w51.cell? ⟨bI, (ba : Int).toNat * 7 + 1, none⟩ = some (.int .u64 ((rd_T37 bb ba).f1)) := dp 1 _ rfl
   have zD : w51.cell? ⟨bI, (ba : Int).toNat * 7 + 2, none⟩ = some (.int .u64 ((rd_T37 bb ba).f2)) := dp 2 _ rfl
   have zC : w51.cell? ⟨bI, (ba : Int).toNat * 7 + 3, none⟩ = some (.slice mg ((rd_T37 bb ba).f3).length md) := dp 3 _ rfl
   have zB : w51.cell? ⟨bI, (ba : Int).toNat * 7 + 4, none⟩ = some (.int .u64 ((rd_T37 bb ba).f4)) := dp 4 _ rfl
   have zA : w51.cell? ⟨bI, (ba : Int).toNat * 7 + 5, none⟩ = some (.int .u64 ((rd_T37 bb ba).f5)) := dp 5 _ rfl
   have zz : w51.cell? ⟨bI, (ba : Int).toNat * 7 + 6, none⟩ = some (.int .u64 ((rd_T37 bb ba).f6)) := dp 6 _ rfl
   have zU : w51.frozen? ⟨bI, (ba : Int).toNat * 7, none⟩ = false := dl 0
   have zT : w51.frozen? ⟨bI, (ba : Int).toNat * 7 + 1, none⟩ = false := dl 1
   have zS : w51.frozen? ⟨bI, (ba : Int).toNat * 7 + 2, none⟩ = false := dl 2
   have zR : w51.frozen? ⟨bI, (ba : Int).toNat * 7 + 3, none⟩ = false := dl 3
   have zQ : w51.frozen? ⟨bI, (ba : Int).toNat * 7 + 4, none⟩ = false := dl 4
   have zP : w51.frozen? ⟨bI, (ba : Int).toNat * 7 + 5, none⟩ = false := dl 5
   have zO : w51.frozen? ⟨bI, (ba : Int).toNat * 7 + 6, none⟩ = false := dl 6
   clear qm dp dl qr
   replace p31 := eq_true p31
   replace q31 := eq_true q31
   have qS := Aside0.mk (show Kd.N k37 37 w51 w.heap.size (fun k_ => k_ ≠ bi ∧ k_ ≠ bj ∧ k_ ≠ bc) (.slice (some ⟨bI, 0, none⟩) bb.length bq) bb from zx33_7)
   obtain ⟨bba, jw, qq, gS, ju⟩ := Kd.N_elem qS.out z37 (ba : Int) (of_decide_eq_true zx33_6) (by have h_ : (ba : Int) < ((bb.length : Int) : Int) := of_decide_eq_true zx33_6; first | exact h_ | (have e_ := (Kd.N_reads' bk.out).1; omega) | simpa using h_)
   obtain ⟨zr, zp, rfl, ma, m0⟩ := k37_openF qq
   have oc := Kd.N_seg qS.out (ba : Int) (of_decide_eq_true zx33_6) (by have h_ : (ba : Int) < ((bb.length : Int) : Int) := of_decide_eq_true zx33_6; first | exact h_ | (have e_ := (Kd.N_reads' bk.out).1; omega) | simpa using h_) (seg := [.int .u64 (IntKind.u64.wrap (((rd_T37 bb ba).f4) + 1))]) (j := 4) jw gS (show 5 ≤ 7 from by decide) (x' := (⟨(rd_T37 bb ba).f0, (rd_T37 bb ba).f1, (rd_T37 bb ba).f2, (rd_T37 bb ba).f3, IntKind.u64.wrap (((rd_T37 bb ba).f4) + 1), (rd_T37 bb ba).f5, (rd_T37 bb ba).f6⟩ : S37)) (k37_mkF _ _ (⟨(rd_T37 bb ba).f0, (rd_T37 bb ba).f1, (rd_T37 bb ba).f2, (rd_T37 bb ba).f3, IntKind.u64.wrap (((rd_T37 bb ba).f4) + 1), (rd_T37 bb ba).f5, (rd_T37 bb ba).f6⟩ : S37) ma m0) (fun _ hk => hk)
   have mv := gS 4 _ rfl
   (try simp only [show (k37).sz = 7 from rfl, Nat.mul_one, Nat.add_zero] at mv)
   have mK := ju 4
   (try simp only [show (k37).sz = 7 from rfl, Nat.mul_one, Nat.add_zero] at mK)
   clear jw gS ju qq
   go_wp2_with (first | ((with_reducible refine gate_store (t := 24) (p := 64) rfl ?_); refine store_event (t := 24) (p := 64) (v := ?vo_w54) (w1 := (w51.setCell ⟨bI, (ba : Int).toNat * 7 + 4, none⟩ (.int .u64 (IntKind.u64.wrap (((rd_T37 bb ba).f4) + 1))))) ?hg ?ho ?hn ?hr ?_; (case ho => rfl); (case hg => rfl); (case hn => rfl); (case hr => first | (go_simp; done) | (go_simp; rfl)); intro w54 hw; have hg : w51.grownBy w54 (some bI) := (by rw [hw]; exact oc.2); have hp_ : Kd.N k37 37 w54 w.heap.size (fun k_ => k_ ≠ bi ∧ k_ ≠ bj ∧ k_ ≠ bc) (.slice (some ⟨bI, 0, none⟩) bb.length bq) dW := (by rw [hw, qO.out]; exact oc.1); clear oc; replace be := Aside0.mk (Kd.V_afterv (v := (.slice (some ⟨bI, 0, none⟩) bb.length bq)) (v1 := (.slice (some ⟨bI, 0, none⟩) bb.length bq)) (ok := (fun k_ => some k_ ≠ (.slice bw bm.length bu : Value).ownBlock ∧ k_ ≠ bi ∧ k_ ≠ bj ∧ k_ ≠ bc)) zx33_16 hg (.inl rfl)); replace bn := Aside0.mk (blk_grown (g := bi) (o := .cells #[.int .u64 bz, .int .u64 bA, .slice bC br.length bB] 27 (0, 0)) zx33_1 hg (Kd.N_ne bk.out bn.out (by decide))); replace bo := Aside0.mk (Kd.N_afterv (v := (.slice (some ⟨bI, 0, none⟩) bb.length bq)) (v1 := (.slice (some ⟨bI, 0, none⟩) bb.length bq)) (ok := (fun k_ => k_ ≠ bi ∧ k_ ≠ bj ∧ k_ ≠ bc)) zx33_19 hg (.inl rfl)); replace bl := Aside0.mk (blk_grown (g := bj) (o := .cells #[.int .u64 bg, .int .u64 bd, .slice bw bm.length bu] 27 (0, 0)) zx33_2 hg (Kd.N_ne bk.out bl.out (by decide))); replace bf := Aside0.mk (blk_grown (g := bc) (o := .cells #[.int .u64 bg, .int .u64 bd, .slice (some ⟨bI, 0, none⟩) bb.length bq] 27 (0, 0)) zx33_3 hg (Kd.N_ne bk.out bf.out (by decide))); replace bk := Aside0.mk (hp_); replace db := Aside0.mk (Kd.V_afterv (v := (.slice (some ⟨bI, 0, none⟩) bb.length bq)) (v1 := (.slice (some ⟨bI, 0, none⟩) bb.length bq)) (ok := (fun k_ => k_ ≠ bi ∧ k_ ≠ bj ∧ k_ ≠ bc)) (by (with_reducible repeat (first | apply Kd.V_alloc | apply Kd.V_drewN | apply Kd.V_drew)); exact db.out) hg (.inl rfl)); replace HB := Aside0.mk ((by rw [hw]; exact below_set (HB.out) ba6.out : Below w.heap.size w w54)); clear hg hw hp_; have vQ : w54.cell? ⟨bj, 0, none⟩ = some (.int .u64 bg) := (blk_cell bl.out 0).trans rfl; have vP : w54.cell? ⟨bj, 1, none⟩ = some (.int .u64 bd) := (blk_cell bl.out 1).trans rfl; have vO : w54.cell? ⟨bj, 2, none⟩ = some (.slice bw bm.length bu) := (blk_cell bl.out 2).trans rfl; have sV := blk_frozen bl.out 0; have sU := blk_frozen bl.out 1; have sT := blk_frozen bl.out 2) | ((with_reducible refine gate_callee (f := 24) rfl ?_); refine goesL_ (some 118) rfl rfl Tryd.func24 (by kernel_rfl) rfl #[.agg #[.int .u64 bg, .int .u64 bd, .slice bw bm.length bu]] rfl zx33_4 ?_; (with_reducible refine (ledger_Right.calls kj8 bg bd _ _ bm true _ ?side1 ?side2 A32.out).mono ?_); (case side1 => repeat (first | exact (Kd.N_reads' bo.out).2.2 | (with_reducible refine Kd.C_alloc ?_ _) | (with_reducible refine Kd.C_drewN ?_ _) | (with_reducible refine Kd.C_drew ?_))); (case side2 => exact (Kd.N_reads' bo.out).2.1); rintro e w56 ⟨rfl, hb⟩; refine ⟨_, rfl, ?_⟩; replace be := Aside0.mk (Kd.V_below zx33_5 hb); replace bo := Aside0.mk (Kd.N_below zx33_9 hb); replace bk := Aside0.mk (Kd.N_below zx33_7 hb); replace db := Aside0.mk (Kd.V_below (by (with_reducible repeat (first | apply Kd.V_alloc | apply Kd.V_drewN | apply Kd.V_drew)); exact db.out) hb); replace bn := Aside0.mk (blk_below (g := bi) (o := .cells #[.int .u64 bz, .int .u64 bA, .slice bC br.length bB] 27 (0, 0)) zx33_1 hb); replace bl := Aside0.mk (blk_below (g := bj) (o := .cells #[.int .u64 bg, .int .u64 bd, .slice bw bm.length bu] 27 (0, 0)) zx33_2 hb); replace bf := Aside0.mk (blk_below (g := bc) (o := .cells #[.int .u64 bg, .int .u64 bd, .slice (some ⟨bI, 0, none⟩) bb.length bq] 27 (0, 0)) zx33_3 hb); replace HB := Aside0.mk (below_step zx33_0 hb); (try clear hb); (try clear hb2); (try clear hk); (try clear hi); have vN : w56.cell? ⟨bc, 0, none⟩ = some (.int .u64 bg) := (blk_cell bf.out 0).trans rfl; have vM : w56.cell? ⟨bc, 1, none⟩ = some (.int .u64 bd) := (blk_cell bf.out 1).trans rfl; have vL : w56.cell? ⟨bc, 2, none⟩ = some (.slice (some ⟨bI, 0, none⟩) bb.length bq) := (blk_cell bf.out 2).trans rfl; have sS := blk_frozen bf.out 0; have sR := blk_frozen bf.out 1; have sQ := blk_frozen bf.out 2) | (go_at_call 24; refine calls_of_args (args' := #[.agg #[.int .u64 bg, .int .u64 bd, .slice (some ⟨bI, 0, none⟩) dW.length bq]]) (by first | (rw [show dW.length = bb.length from (Kd.N_reads' bk.out).1.symm] <;> rfl) | rfl) ?_; (with_reducible refine (ledger_Right.calls kj8 bg bd _ _ dW bS _ ?side1 ?side2 A34.out).mono ?_); (case side1 => repeat (first | exact (Kd.N_reads' bk.out).2.2 | (with_reducible refine Kd.C_alloc ?_ _) | (with_reducible refine Kd.C_drewN ?_ _) | (with_reducible refine Kd.C_drew ?_))); (case side2 => rw [show dW.length = bb.length from (Kd.N_reads' bk.out).1.symm]; exact (Kd.N_reads' bk.out).2.1); rintro e w58 ⟨rfl, hb⟩; replace be := Aside0.mk (Kd.V_below zx33_5 hb); replace bo := Aside0.mk (Kd.N_below zx33_9 hb); replace bk := Aside0.mk (Kd.N_below zx33_7 hb); replace db := Aside0.mk (Kd.V_below (by (with_reducible repeat (first | apply Kd.V_alloc | apply Kd.V_drewN | apply Kd.V_drew)); exact db.out) hb); replace bn := Aside0.mk (blk_below (g := bi) (o := .cells #[.int .u64 bz, .int .u64 bA, .slice bC br.length bB] 27 (0, 0)) zx33_1 hb); replace bl := Aside0.mk (blk_below (g := bj) (o := .cells #[.int .u64 bg, .int .u64 bd, .slice bw bm.length bu] 27 (0, 0)) zx33_2 hb); replace bf := Aside0.mk (blk_below (g := bc) (o := .cells #[.int .u64 bg, .int .u64 bd, .slice (some ⟨bI, 0, none⟩) bb.length bq] 27 (0, 0)) zx33_3 hb); replace HB := Aside0.mk (below_step zx33_0 hb); (try clear hb); (try clear hb2); (try clear hk); (try clear hi)))
   go_ret
   exact ⟨by first | rfl | (simp [errW_none, errW_some] <;> rfl) | (simp [*, errW_none, errW_some] <;> rfl), by repeat (first | (with_reducible first | exact HB.out | apply below_alloc | apply pw_below_drewN | apply below_drew1 | refine below_set ?_ bN.out | refine below_set ?_ b8.out | refine below_set ?_ de.out) | exact HB.out)⟩
  rw [if_neg c28] at H
  have qH : (bp == 0) = false := beq_eq_false_iff_ne.mpr c28
  have qG : (bp != 0) = true := bne_iff_ne.mpr c28
  by_cases c59 : bp = 1
  ·rw [if_pos c59] at H
   have qF : (bp == 1) = true := beq_iff_eq.mpr c59
   have qE : (bp != 1) = false := bne_eq_false_iff_eq.mpr c59
   clear c59
   by_cases c60 : 0 ≤ ba
   case neg =>
    rw [if_neg c60] at H
    exact absurd H (by simp)
   rw [if_pos c60] at H
   have baE : decide (0 ≤ ba) = true := decide_eq_true c60
   clear c60
   by_cases c61 : ba < (bb.length : Int)
   case neg =>
    rw [if_neg c61] at H
    exact absurd H (by simp)
   rw [if_pos c61] at H
   have baD : decide (ba < (bb.length : Int)) = true := decide_eq_true c61
   clear c61
   obtain ⟨d7, d2⟩ : ∃ y_ : List (S37), y_ = (bb.set (ba : Int).toNat (⟨(rd_T37 bb ba).f0, (rd_T37 bb ba).f1, IntKind.u64.wrap (((rd_T37 bb ba).f1) - 1), (rd_T37 bb ba).f3, (rd_T37 bb ba).f4, (rd_T37 bb ba).f5, (rd_T37 bb ba).f6⟩ : S37)) := ⟨_, rfl⟩
   replace H : ((ledger_Right.f kj8 bg bd bm).bind fun b0 => (if b0 = true then ((ledger_Right.f kj8 bg bd d7).bind fun bR => (some (!bR))) else (none))) = some r := by first | (rw [d2]; with_reducible exact H) | (have H2_ := (Option.bind_some _ _).symm.trans H; rw [d2]; with_reducible exact H2_) | (have H2_ := (Option.bind_some _ _).symm.trans H; with_reducible exact H2_) | with_reducible exact H | (rw [d2]; exact H) | exact H
   have qN := Aside0.mk d2
   clear d2
   replace H := Option.bind_eq_some_iff.mp H
   obtain ⟨b0, q2, H⟩ := H
   replace H : (if b0 = true then ((ledger_Right.f kj8 bg bd d7).bind fun bR => (some (!bR))) else (none)) = some r := H
   have A63 := Aside0.mk q2
   clear q2
   by_cases c64 : b0 = true
   case neg =>
    replace c64 := Bool.eq_false_iff.mpr c64
    subst c64
    have H1 : (none) = some r := by rw [if_neg (show ¬ (false = true) by decide)] at H; exact H
    clear H
    have H := H1
    clear H1
    exact absurd H (by simp)
   subst c64
   have H1 : ((ledger_Right.f kj8 bg bd d7).bind fun bR => (some (!bR))) = some r := by rw [if_pos rfl] at H; exact H
   clear H
   have H := H1
   clear H1
   replace H := Option.bind_eq_some_iff.mp H
   obtain ⟨bR, q1, H⟩ := H
   replace H : (some (!bR)) = some r := H
   have A65 := Aside0.mk q1
   clear q1
   obtain rfl := Option.some.inj H
   try go_wp2
   replace be := Aside0.mk (Kd.V_drew be.out)
   replace bo := Aside0.mk (Kd.N_drew bo.out)
   replace bk := Aside0.mk (Kd.N_drew bk.out)
   replace bn := Aside0.mk (blk_drew bn.out)
   replace bl := Aside0.mk (blk_drew bl.out)
   replace bf := Aside0.mk (blk_drew bf.out)
   replace HB := Aside0.mk (below_drew1 HB.out)
   have ht : 0 ≤ (ba : Int) := of_decide_eq_true zx33_6
   have hm : ba < (bb.length : Int) := of_decide_eq_true zx33_6
   obtain ⟨baH, od, m1, z5, dP, dO, dN, dv, dM, dL, dK, gy, gB⟩ := at_T37 (Kd.N_reads' bk.out).2.2 ba ht hm
   cases z5
   obtain ⟨bau, mU, mX, gQ⟩ := Kd.N_get bk.out z37 ba ht (by first | exact hm | exact of_decide_eq_true zx33_6 | (have e_ := (Kd.N_reads' bk.out).1; omega))
   obtain ⟨sk, se, rfl, dG, dR⟩ := k37_openF mX
   have dx := gQ 3 _ rfl
   rw [add_field _ _ 3 (by omega)] at dx
   replace dx := Option.some.inj (dx.symm.trans dv)
   injection dx with hva_ hvn_ hvc_
   rw [hva_] at dR
   rw [hvc_] at dG
   have dg := Aside0.mk (show Kd.V (Kd.int .u64) 24 _ w.heap.size _ _ ((rd_T37 bb ba).f3) from Kd.V_mk dG dR)
   clear hva_ hvn_ hvc_ dR dG
   clear gQ mU
   have df := Aside0.mk gB
   have zi := Aside0.mk gy
   clear gB gy
   replace ht := eq_true ht
   replace hm := eq_true hm
   have p62 : 0 ≤ (ba : Int) := of_decide_eq_true zx33_6
   have q62 : (ba : Int) < ((bb.length : Int) : Int) := of_decide_eq_true zx33_6
   obtain ⟨bG, bb2, qy, qv, zW, bb5, qV⟩ := Kd.N_form bk.out (by omega)
   (first | cases qy | (injection qy with ea_ en_ ec_; (first | subst ea_ | (injection ea_ with ea_; subst ea_)); subst ec_; clear en_))
   have ba5 := Aside0.mk qv
   have jt := Aside0.mk qV
   clear qv zW qV
   (first | simp only [add_plain] at dP | skip)
   (first | simp only [add_plain] at dO | skip)
   (first | simp only [add_plain] at dN | skip)
   (first | simp only [add_plain] at dv | skip)
   (first | simp only [add_plain] at dM | skip)
   (first | simp only [add_plain] at dL | skip)
   (first | simp only [add_plain] at dK | skip)
   obtain ⟨bb9, ql, qp, dn, dk⟩ := Kd.N_elem bk.out z37 (ba : Int) p62 q62
   obtain ⟨mf, mc, rfl, zm, zZ⟩ := k37_openF qp
   have mu : World.cell? _ ⟨bG, (ba : Int).toNat * 7, none⟩ = some (.string ((rd_T37 bb ba).f0)) := dn 0 _ rfl
   have mt : World.cell? _ ⟨bG, (ba : Int).toNat * 7 + 1, none⟩ = some (.int .u64 ((rd_T37 bb ba).f1)) := dn 1 _ rfl
   have ms : World.cell? _ ⟨bG, (ba : Int).toNat * 7 + 2, none⟩ = some (.int .u64 ((rd_T37 bb ba).f2)) := dn 2 _ rfl
   have mr : World.cell? _ ⟨bG, (ba : Int).toNat * 7 + 3, none⟩ = some (.slice mf ((rd_T37 bb ba).f3).length mc) := dn 3 _ rfl
   have mq : World.cell? _ ⟨bG, (ba : Int).toNat * 7 + 4, none⟩ = some (.int .u64 ((rd_T37 bb ba).f4)) := dn 4 _ rfl
   have mo : World.cell? _ ⟨bG, (ba : Int).toNat * 7 + 5, none⟩ = some (.int .u64 ((rd_T37 bb ba).f5)) := dn 5 _ rfl
   have mm : World.cell? _ ⟨bG, (ba : Int).toNat * 7 + 6, none⟩ = some (.int .u64 ((rd_T37 bb ba).f6)) := dn 6 _ rfl
   have mJ : World.frozen? _ ⟨bG, (ba : Int).toNat * 7, none⟩ = false := dk 0
   have mI : World.frozen? _ ⟨bG, (ba : Int).toNat * 7 + 1, none⟩ = false := dk 1
   have mH : World.frozen? _ ⟨bG, (ba : Int).toNat * 7 + 2, none⟩ = false := dk 2
   have mG : World.frozen? _ ⟨bG, (ba : Int).toNat * 7 + 3, none⟩ = false := dk 3
   have mF : World.frozen? _ ⟨bG, (ba : Int).toNat * 7 + 4, none⟩ = false := dk 4
   have mE : World.frozen? _ ⟨bG, (ba : Int).toNat * 7 + 5, none⟩ = false := dk 5
   have mD : World.frozen? _ ⟨bG, (ba : Int).toNat * 7 + 6, none⟩ = false := dk 6
   clear ql dn dk qp
   replace p62 := eq_true p62
   replace q62 := eq_true q62
   have qR := Aside0.mk (show Kd.N k37 37 _ w.heap.size (fun k_ => k_ ≠ bi ∧ k_ ≠ bj ∧ k_ ≠ bc) (.slice (some ⟨bG, 0, none⟩) bb.length bq) bb from (Kd.N_mono (bk.out) (fun k_ hk => ⟨hk.1, ⟨hk.2.1, hk.2.2⟩⟩)))
   obtain ⟨bb8, jv, qo, jx, oP⟩ := Kd.N_elem qR.out z37 (ba : Int) (of_decide_eq_true zx33_6) (by have h_ : (ba : Int) < ((bb.length : Int) : Int) := of_decide_eq_true zx33_6; first | exact h_ | (have e_ := (Kd.N_reads' bk.out).1; omega) | simpa using h_)
   obtain ⟨zq, zo, rfl, j9, mZ⟩ := k37_openF qo
   have ob := (Kd.N_seg qR.out (ba : Int) (of_decide_eq_true zx33_6) (by have h_ : (ba : Int) < ((bb.length : Int) : Int) := of_decide_eq_true zx33_6; first | exact h_ | (have e_ := (Kd.N_reads' bk.out).1; omega) | simpa using h_) (seg := [.int .u64 (IntKind.u64.wrap (((rd_T37 bb ba).f1) - 1))]) (j := 2) jv jx (show 3 ≤ 7 from by decide) (x' := (⟨(rd_T37 bb ba).f0, (rd_T37 bb ba).f1, IntKind.u64.wrap (((rd_T37 bb ba).f1) - 1), (rd_T37 bb ba).f3, (rd_T37 bb ba).f4, (rd_T37 bb ba).f5, (rd_T37 bb ba).f6⟩ : S37)) (k37_mkF _ _ (⟨(rd_T37 bb ba).f0, (rd_T37 bb ba).f1, IntKind.u64.wrap (((rd_T37 bb ba).f1) - 1), (rd_T37 bb ba).f3, (rd_T37 bb ba).f4, (rd_T37 bb ba).f5, (rd_T37 bb ba).f6⟩ : S37) j9 mZ) (fun _ hk => hk)).1
   rw [← qN.out] at ob
   have qT := Aside0.mk ob
   clear jv jx oP qo ob
   refine start_ (n := 13) (S := fun w' => w'.cell? ⟨bc, 0, none⟩ = some (.int .u64 bg) ∧ w'.cell? ⟨bc, 1, none⟩ = some (.int .u64 bd) ∧ w'.cell? ⟨bc, 2, none⟩ = some (.slice (some ⟨bG, 0, none⟩) bb.length bq) ∧ w'.cell? ⟨bG, ((ba).toNat * 7), none⟩ = some (.string ((rd_T37 bb ba).f0)) ∧ w'.cell? ⟨bG, ((ba).toNat * 7) + 1, none⟩ = some (.int .u64 ((rd_T37 bb ba).f1)) ∧ w'.cell? ⟨bG, ((ba).toNat * 7) + 2, none⟩ = some (.int .u64 ((rd_T37 bb ba).f2)) ∧ w'.cell? ⟨bG, ((ba).toNat * 7) + 3, none⟩ = some (.slice od ((rd_T37 bb ba).f3).length m1) ∧ w'.cell? ⟨bG, ((ba).toNat * 7) + 4, none⟩ = some (.int .u64 ((rd_T37 bb ba).f4)) ∧ w'.cell? ⟨bG, ((ba).toNat * 7) + 5, none⟩ = some (.int .u64 ((rd_T37 bb ba).f5)) ∧ w'.cell? ⟨bG, ((ba).toNat * 7) + 6, none⟩ = some (.int .u64 ((rd_T37 bb ba).f6))) (ds := [12]) #[Ff,Ff,Ff,Ff,Ff,Ff,Ff,Ff,Ff,Ff,Ff,Ff,Ff] (by kernel_rfl) rfl rfl ⟨(blk_cell bf.out 0).trans rfl, (blk_cell bf.out 1).trans rfl, (blk_cell bf.out 2).trans rfl, dP, dO, dN, dv, dM, dL, dK⟩ (fun hHeld => ?_); refine with_tabW postroomlaw10_LedgerRight.tab16 postroomlaw10_LedgerRight.bits16 (fun HT_ HW_ => ?_)
   generalize w51.drew = w83 at be bo bk bn bl bf HB jt dg qT df mJ mI mH mG mF mE mD mu mt ms mr mq mo mm dP dO dN dv dM dL dK hHeld ⊢
   refine pp_ 0 (some 67) HT_.out ?_
   refine pp_ 2 (some 69) HT_.out ?_
   refine pp_ 3 (some 70) HT_.out ?_
   refine pp_ 5 (some 72) HT_.out ?_
   refine take_ (i := 1) (N := some 68) (v := ?_) (a' := ?_) #[Tt,Tt,Tt,Tt,Ff,Tt,Ff,Ff,Ff,Ff,Ff,Ff,Ff] rfl rfl (take_ofW HT_.out HW_.out (by kernel_rfl)) (fun _ _ _ h => h) (Or.inl ⟨by rfl, ?_⟩) hHeld ?_ ?_
   rotate_left
   ·rintro w' ⟨s0, s1, s2, s3, s4, s5, s6, s7, s8, s9⟩
    go_simp
    with_reducible rfl
   rotate_left
   ·simp only [Act.put, List.setIfInBounds_toArray, List.set_cons_zero, List.set_cons_succ, i64_w, i32_w]
    rfl
   refine take_ (i := 4) (N := some 71) (v := ?_) (a' := ?_) #[Tt,Tt,Tt,Tt,Tt,Tt,Ff,Ff,Ff,Ff,Ff,Ff,Ff] rfl rfl (take_ofW HT_.out HW_.out (by kernel_rfl)) (fun _ _ _ h => h) (Or.inl ⟨by rfl, ?_⟩) hHeld ?_ ?_
   rotate_left
   ·rintro w' ⟨s0, s1, s2, s3, s4, s5, s6, s7, s8, s9⟩
    go_simp
    with_reducible rfl
   rotate_left
   ·simp only [Act.put, List.setIfInBounds_toArray, List.set_cons_zero, List.set_cons_succ, i64_w, i32_w]
    rfl
   refine pp_ 6 (some 73) HT_.out ?_
   refine pp_ 7 (some 74) HT_.out ?_
   refine take_ (i := 8) (N := some 75) (v := ?_) (a' := ?_) #[Tt,Tt,Tt,Tt,Tt,Tt,Tt,Tt,Tt,Ff,Ff,Ff,Ff] rfl rfl (take_ofW HT_.out HW_.out (by kernel_rfl)) (fun _ _ _ h => h) (Or.inl ⟨by rfl, ?_⟩) hHeld ?_ ?_
   rotate_left
   ·rintro w' ⟨s0, s1, s2, s3, s4, s5, s6, s7, s8, s9⟩
    go_simp
    with_reducible rfl
   rotate_left
   ·simp only [Act.put, List.setIfInBounds_toArray, List.set_cons_zero, List.set_cons_succ, i64_w, i32_w]
    rfl
   refine pp_ 9 (some 76) HT_.out ?_
   refine pp_ 10 (some 77) HT_.out ?_
   refine pp_ 11 (some 78) HT_.out ?_
   refine last_ (i := 12) (N := none) #[Tt,Tt,Tt,Tt,Tt,Tt,Tt,Tt,Tt,Tt,Tt,Tt,Tt] rfl rfl (one_of HT_.out (by kernel_rfl)) (by decide) (fun K hK => ?_)
   refine skip_ (w1 := ?_) (by rfl) rfl ?_ ?_
   rotate_left
   ·go_simp
    rfl
   refine hK.out _ _ ?_
   clear hK K
   refine done_ (done_of HT_.out (by kernel_rfl)) ?_
   obtain ⟨vK, vJ, vI, sP, sO, sN⟩ := cx33_bc3 bl.out
   simp only [Exit.inBlock, Exit.then]
   apply_assumption
   have hH : bi ≠ bG := fun e_ => by have h_ := jt.out; rw [← e_, bn.out] at h_; exact absurd (congrArg (fun o => match o with | some (Obj.cells _ t _) => t | _ => 0) h_) (show ¬ ((27 : Nat) = 37) by decide)
   have sJ : bG ≠ bi := fun e_ => hH e_.symm
   have hG : bj ≠ bG := fun e_ => by have h_ := jt.out; rw [← e_, bl.out] at h_; exact absurd (congrArg (fun o => match o with | some (Obj.cells _ t _) => t | _ => 0) h_) (show ¬ ((27 : Nat) = 37) by decide)
   have sI : bG ≠ bj := fun e_ => hG e_.symm
   have hF : bc ≠ bG := fun e_ => by have h_ := jt.out; rw [← e_, bf.out] at h_; exact absurd (congrArg (fun o => match o with | some (Obj.cells _ t _) => t | _ => 0) h_) (show ¬ ((27 : Nat) = 37) by decide)
   have sH : bG ≠ bc := fun e_ => hF e_.symm
   try go_wp2_with (first | ((with_reducible refine gate_callee (f := 24) rfl ?_); refine goesL_ (some 118) rfl rfl Tryd.func24 (by kernel_rfl) rfl #[.agg #[.int .u64 bg, .int .u64 bd, .slice bw bm.length bu]] rfl zx33_4 ?_; (with_reducible refine (ledger_Right.calls kj8 bg bd _ _ bm true _ ?side1 ?side2 A63.out).mono ?_); (case side1 => refine (Kd.N_reads' (e := 37) (base := w.heap.size) (ok := fun k_ => (some k_ ≠ (.slice (some ⟨bG, 0, none⟩) bb.length bq : Value).ownBlock ∧ (k_ ≠ bi ∧ (k_ ≠ bj ∧ k_ ≠ bc)))) (n := bm.length) (c := bu) ?_).2.2; exact zx33_24); (case side2 => exact (Kd.N_reads' bo.out).2.1); rintro e w86 ⟨rfl, hb⟩; refine ⟨_, rfl, ?_⟩; replace be := Aside0.mk (Kd.V_below (by (with_reducible repeat (first | apply Kd.V_alloc | apply Kd.V_drewN | apply Kd.V_drew)); exact (Kd.V_mono (Kd.V_far (p := ⟨bG, (ba : Int).toNat * 7 + 2, none⟩) (Kd.V_mono be.out (fun k_ hk => (⟨hk, fun e_ => hk.2.1 (by rw [e_]; rfl)⟩ : _ ∧ k_ ≠ bG))) (fun _ hk => hk.2) (.int .u64 (IntKind.u64.wrap (((rd_T37 bb ba).f1) - 1)))) (fun _ h_ => h_.1))) hb); replace bo := Aside0.mk (Kd.N_below zx33_24 hb); replace bn := Aside0.mk (blk_below (g := bi) (o := .cells #[.int .u64 bz, .int .u64 bA, .slice bC br.length bB] 27 (0, 0)) (by (with_reducible repeat (first | refine blk_drewN ?_ _ | refine blk_drew ?_ | refine blk_alloc ?_ _)); refine blk_far ?_ (by have h_ := Kd.N_away bk.out (fun _ hk => hk.1); intro e_; exact h_ (by rw [e_]; rfl)) _; (with_reducible repeat (first | refine blk_drewN ?_ _ | refine blk_drew ?_ | refine blk_alloc ?_ _)); exact bn.out) hb); replace bl := Aside0.mk (blk_below (g := bj) (o := .cells #[.int .u64 bg, .int .u64 bd, .slice bw bm.length bu] 27 (0, 0)) (by (with_reducible repeat (first | refine blk_drewN ?_ _ | refine blk_drew ?_ | refine blk_alloc ?_ _)); refine blk_far ?_ (by have h_ := Kd.N_away bk.out (fun _ hk => hk.2.1); intro e_; exact h_ (by rw [e_]; rfl)) _; (with_reducible repeat (first | refine blk_drewN ?_ _ | refine blk_drew ?_ | refine blk_alloc ?_ _)); exact bl.out) hb); replace bf := Aside0.mk (blk_below (g := bc) (o := .cells #[.int .u64 bg, .int .u64 bd, .slice (some ⟨bG, 0, none⟩) bb.length bq] 27 (0, 0)) (by (with_reducible repeat (first | refine blk_drewN ?_ _ | refine blk_drew ?_ | refine blk_alloc ?_ _)); refine blk_far ?_ (by have h_ := Kd.N_away bk.out (fun _ hk => hk.2.2); intro e_; exact h_ (by rw [e_]; rfl)) _; (with_reducible repeat (first | refine blk_drewN ?_ _ | refine blk_drew ?_ | refine blk_alloc ?_ _)); exact bf.out) hb); replace bk := Aside0.mk (Kd.N_below (by (with_reducible repeat (first | apply Kd.N_alloc | apply Kd.N_drewN | apply Kd.N_drew)); exact qT.out) hb); replace df := Aside0.mk (Kd.C_below ((Kd.V_reads' zx33_23).2.2) hb); replace dg := Aside0.mk (Kd.V_below zx33_23 hb); replace HB := Aside0.mk (below_step (by repeat (first | (with_reducible first | exact HB.out | apply below_alloc | apply pw_below_drewN | apply below_drew1 | refine below_set ?_ ba5.out | refine below_set ?_ bN.out | refine below_set ?_ b8.out | refine below_set ?_ de.out) | exact HB.out)) hb); (try clear hb); (try clear hb2); (try clear hk); (try clear hi); have vH : w86.cell? ⟨bc, 0, none⟩ = some (.int .u64 bg) := (blk_cell bf.out 0).trans rfl; have vG : w86.cell? ⟨bc, 1, none⟩ = some (.int .u64 bd) := (blk_cell bf.out 1).trans rfl; have vF : w86.cell? ⟨bc, 2, none⟩ = some (.slice (some ⟨bG, 0, none⟩) bb.length bq) := (blk_cell bf.out 2).trans rfl; have sM := blk_frozen bf.out 0; have sL := blk_frozen bf.out 1; have sK := blk_frozen bf.out 2) | (go_at_call 24; refine calls_of_args (args' := #[.agg #[.int .u64 bg, .int .u64 bd, .slice (some ⟨bG, 0, none⟩) d7.length bq]]) (by first | (rw [show d7.length = bb.length from (Kd.N_reads' bk.out).1.symm] <;> rfl) | rfl) ?_; (with_reducible refine (ledger_Right.calls kj8 bg bd _ _ d7 bR _ ?side1 ?side2 A65.out).mono ?_); (case side1 => repeat (first | exact (Kd.N_reads' bk.out).2.2 | (with_reducible refine Kd.C_alloc ?_ _) | (with_reducible refine Kd.C_drewN ?_ _) | (with_reducible refine Kd.C_drew ?_))); (case side2 => rw [show d7.length = bb.length from (Kd.N_reads' bk.out).1.symm]; exact (Kd.N_reads' bk.out).2.1); rintro e w88 ⟨rfl, hb⟩; replace be := Aside0.mk (Kd.V_below zx33_5 hb); replace bo := Aside0.mk (Kd.N_below zx33_9 hb); replace bk := Aside0.mk (Kd.N_below zx33_7 hb); replace dg := Aside0.mk (Kd.V_below (by (with_reducible repeat (first | apply Kd.V_alloc | apply Kd.V_drewN | apply Kd.V_drew)); exact dg.out) hb); replace bn := Aside0.mk (blk_below (g := bi) (o := .cells #[.int .u64 bz, .int .u64 bA, .slice bC br.length bB] 27 (0, 0)) zx33_1 hb); replace bl := Aside0.mk (blk_below (g := bj) (o := .cells #[.int .u64 bg, .int .u64 bd, .slice bw bm.length bu] 27 (0, 0)) zx33_2 hb); replace bf := Aside0.mk (blk_below (g := bc) (o := .cells #[.int .u64 bg, .int .u64 bd, .slice (some ⟨bG, 0, none⟩) bb.length bq] 27 (0, 0)) zx33_3 hb); replace df := Aside0.mk (Kd.C_below (by repeat (first | (with_reducible exact df.out) | (with_reducible refine Kd.C_alloc ?_ _) | (with_reducible refine Kd.C_drewN ?_ _) | (with_reducible refine Kd.C_drew ?_) | exact df.out)) hb); replace HB := Aside0.mk (below_step zx33_0 hb); (try clear hb); (try clear hb2); (try clear hk); (try clear hi)))
   go_ret
   exact ⟨by first | rfl | (simp [errW_none, errW_some] <;> rfl) | (simp [*, errW_none, errW_some] <;> rfl), by repeat (first | (with_reducible first | exact HB.out | apply below_alloc | apply pw_below_drewN | apply below_drew1 | refine below_set ?_ bN.out | refine below_set ?_ b8.out | refine below_set ?_ de.out) | exact HB.out)⟩
  rw [if_neg c59] at H
  have qF : (bp == 1) = false := beq_eq_false_iff_ne.mpr c59
  have qE : (bp != 1) = true := bne_iff_ne.mpr c59
  by_cases c89 : bp = 2
  ·rw [if_pos c89] at H
   have qB : (bp == 2) = true := beq_iff_eq.mpr c89
   have qA : (bp != 2) = false := bne_eq_false_iff_eq.mpr c89
   clear c89
   by_cases c90 : 0 ≤ ba
   case neg =>
    rw [if_neg c90] at H
    exact absurd H (by simp)
   rw [if_pos c90] at H
   have baC : decide (0 ≤ ba) = true := decide_eq_true c90
   clear c90
   by_cases c91 : ba < (bb.length : Int)
   case neg =>
    rw [if_neg c91] at H
    exact absurd H (by simp)
   rw [if_pos c91] at H
   have baB : decide (ba < (bb.length : Int)) = true := decide_eq_true c91
   clear c91
   obtain ⟨dV, d1⟩ : ∃ y_ : List (S37), y_ = (bb.set (ba : Int).toNat (⟨(⟨#[49]⟩ : ByteArray), (rd_T37 bb ba).f1, (rd_T37 bb ba).f2, (rd_T37 bb ba).f3, (rd_T37 bb ba).f4, (rd_T37 bb ba).f5, (rd_T37 bb ba).f6⟩ : S37)) := ⟨_, rfl⟩
   replace H : ((ledger_Right.f kj8 bg bd bm).bind fun bZ => (if bZ = true then ((ledger_Right.f kj8 bg bd dV).bind fun bQ => (some (!bQ))) else (none))) = some r := by first | (rw [d1]; with_reducible exact H) | (have H2_ := (Option.bind_some _ _).symm.trans H; rw [d1]; with_reducible exact H2_) | (have H2_ := (Option.bind_some _ _).symm.trans H; with_reducible exact H2_) | with_reducible exact H | (rw [d1]; exact H) | exact H
   have qM := Aside0.mk d1
   clear d1
   replace H := Option.bind_eq_some_iff.mp H
   obtain ⟨bZ, q0, H⟩ := H
   replace H : (if bZ = true then ((ledger_Right.f kj8 bg bd dV).bind fun bQ => (some (!bQ))) else (none)) = some r := H
   have A93 := Aside0.mk q0
   clear q0
   by_cases c94 : bZ = true
   case neg =>
    replace c94 := Bool.eq_false_iff.mpr c94
    subst c94
    have H1 : (none) = some r := by rw [if_neg (show ¬ (false = true) by decide)] at H; exact H
    clear H
    have H := H1
    clear H1
    exact absurd H (by simp)
   subst c94
   have H1 : ((ledger_Right.f kj8 bg bd dV).bind fun bQ => (some (!bQ))) = some r := by rw [if_pos rfl] at H; exact H
   clear H
   have H := H1
   clear H1
   replace H := Option.bind_eq_some_iff.mp H
   obtain ⟨bQ, qZ, H⟩ := H
   replace H : (some (!bQ)) = some r := H
   have A95 := Aside0.mk qZ
   clear qZ
   obtain rfl := Option.some.inj H
   have p92 : 0 ≤ (ba : Int) := of_decide_eq_true zx33_6
   have q92 : (ba : Int) < ((bb.length : Int) : Int) := of_decide_eq_true zx33_6
   obtain ⟨bK, bb1, qx, qu, zV, bb4, qU⟩ := Kd.N_form bk.out (by omega)
   (first | cases qx | (injection qx with ea_ en_ ec_; (first | subst ea_ | (injection ea_ with ea_; subst ea_)); subst ec_; clear en_))
   have ba4 := Aside0.mk qu
   have bbc := Aside0.mk qU
   clear qu zV qU
   obtain ⟨bb7, qk, qn, dm, dj⟩ := Kd.N_elem bk.out z37 (ba : Int) p92 q92
   obtain ⟨me, mb, rfl, zl, zY⟩ := k37_openF qn
   have zy : w51.cell? ⟨bK, (ba : Int).toNat * 7, none⟩ = some (.string ((rd_T37 bb ba).f0)) := dm 0 _ rfl
   have zx : w51.cell? ⟨bK, (ba : Int).toNat * 7 + 1, none⟩ = some (.int .u64 ((rd_T37 bb ba).f1)) := dm 1 _ rfl
   have zw : w51.cell? ⟨bK, (ba : Int).toNat * 7 + 2, none⟩ = some (.int .u64 ((rd_T37 bb ba).f2)) := dm 2 _ rfl
   have zv : w51.cell? ⟨bK, (ba : Int).toNat * 7 + 3, none⟩ = some (.slice me ((rd_T37 bb ba).f3).length mb) := dm 3 _ rfl
   have zu : w51.cell? ⟨bK, (ba : Int).toNat * 7 + 4, none⟩ = some (.int .u64 ((rd_T37 bb ba).f4)) := dm 4 _ rfl
   have zt : w51.cell? ⟨bK, (ba : Int).toNat * 7 + 5, none⟩ = some (.int .u64 ((rd_T37 bb ba).f5)) := dm 5 _ rfl
   have zs : w51.cell? ⟨bK, (ba : Int).toNat * 7 + 6, none⟩ = some (.int .u64 ((rd_T37 bb ba).f6)) := dm 6 _ rfl
   have zN : w51.frozen? ⟨bK, (ba : Int).toNat * 7, none⟩ = false := dj 0
   have zM : w51.frozen? ⟨bK, (ba : Int).toNat * 7 + 1, none⟩ = false := dj 1
   have zL : w51.frozen? ⟨bK, (ba : Int).toNat * 7 + 2, none⟩ = false := dj 2
   have zK : w51.frozen? ⟨bK, (ba : Int).toNat * 7 + 3, none⟩ = false := dj 3
   have zJ : w51.frozen? ⟨bK, (ba : Int).toNat * 7 + 4, none⟩ = false := dj 4
   have zI : w51.frozen? ⟨bK, (ba : Int).toNat * 7 + 5, none⟩ = false := dj 5
   have zH : w51.frozen? ⟨bK, (ba : Int).toNat * 7 + 6, none⟩ = false := dj 6
   clear qk dm dj qn
   replace p92 := eq_true p92
   replace q92 := eq_true q92
   have jN := Aside0.mk (show Kd.N k37 37 w51 w.heap.size (fun k_ => k_ ≠ bi ∧ k_ ≠ bj ∧ k_ ≠ bc) (.slice (some ⟨bK, 0, none⟩) bb.length bq) bb from zx33_7)
   obtain ⟨baA, gO, jC, gi, gL⟩ := Kd.N_elem jN.out z37 (ba : Int) (of_decide_eq_true zx33_6) (by have h_ : (ba : Int) < ((bb.length : Int) : Int) := of_decide_eq_true zx33_6; first | exact h_ | (have e_ := (Kd.N_reads' bk.out).1; omega) | simpa using h_)
   obtain ⟨sp, si, rfl, hc, jf⟩ := k37_openF jC
   have gW := Kd.N_seg jN.out (ba : Int) (of_decide_eq_true zx33_6) (by have h_ : (ba : Int) < ((bb.length : Int) : Int) := of_decide_eq_true zx33_6; first | exact h_ | (have e_ := (Kd.N_reads' bk.out).1; omega) | simpa using h_) (seg := [.string (⟨#[49]⟩ : ByteArray)]) (j := 0) gO gi (show 1 ≤ 7 from by decide) (x' := (⟨(⟨#[49]⟩ : ByteArray), (rd_T37 bb ba).f1, (rd_T37 bb ba).f2, (rd_T37 bb ba).f3, (rd_T37 bb ba).f4, (rd_T37 bb ba).f5, (rd_T37 bb ba).f6⟩ : S37)) (k37_mkF _ _ (⟨(⟨#[49]⟩ : ByteArray), (rd_T37 bb ba).f1, (rd_T37 bb ba).f2, (rd_T37 bb ba).f3, (rd_T37 bb ba).f4, (rd_T37 bb ba).f5, (rd_T37 bb ba).f6⟩ : S37) hc jf) (fun _ hk => hk)
   have hE := gi 0 _ rfl
   (try simp only [show (k37).sz = 7 from rfl, Nat.mul_one, Nat.add_zero] at hE)
   have hU := gL 0
   (try simp only [show (k37).sz = 7 from rfl, Nat.mul_one, Nat.add_zero] at hU)
   clear gO gi gL jC
   go_wp2_with (first | ((with_reducible refine gate_store (t := 9) (p := 85) rfl ?_); refine store_event (t := 9) (p := 85) (v := ?vo_w115) (w1 := (w51.setCell ⟨bK, (ba : Int).toNat * 7, none⟩ (.string (⟨#[49]⟩ : ByteArray)))) ?hg ?ho ?hn ?hr ?_; (case ho => rfl); (case hg => rfl); (case hn => rfl); (case hr => first | (go_simp; done) | (go_simp; rfl)); intro gF hw; have hg : w51.grownBy gF (some bK) := (by rw [hw]; exact gW.2); have hp_ : Kd.N k37 37 gF w.heap.size (fun k_ => k_ ≠ bi ∧ k_ ≠ bj ∧ k_ ≠ bc) (.slice (some ⟨bK, 0, none⟩) bb.length bq) dV := (by rw [hw, qM.out]; exact gW.1); clear gW; replace be := Aside0.mk (Kd.V_afterv (v := (.slice (some ⟨bK, 0, none⟩) bb.length bq)) (v1 := (.slice (some ⟨bK, 0, none⟩) bb.length bq)) (ok := (fun k_ => some k_ ≠ (.slice bw bm.length bu : Value).ownBlock ∧ k_ ≠ bi ∧ k_ ≠ bj ∧ k_ ≠ bc)) zx33_16 hg (.inl rfl)); replace bn := Aside0.mk (blk_grown (g := bi) (o := .cells #[.int .u64 bz, .int .u64 bA, .slice bC br.length bB] 27 (0, 0)) zx33_1 hg (Kd.N_ne bk.out bn.out (by decide))); replace bo := Aside0.mk (Kd.N_afterv (v := (.slice (some ⟨bK, 0, none⟩) bb.length bq)) (v1 := (.slice (some ⟨bK, 0, none⟩) bb.length bq)) (ok := (fun k_ => k_ ≠ bi ∧ k_ ≠ bj ∧ k_ ≠ bc)) zx33_19 hg (.inl rfl)); replace bl := Aside0.mk (blk_grown (g := bj) (o := .cells #[.int .u64 bg, .int .u64 bd, .slice bw bm.length bu] 27 (0, 0)) zx33_2 hg (Kd.N_ne bk.out bl.out (by decide))); replace bf := Aside0.mk (blk_grown (g := bc) (o := .cells #[.int .u64 bg, .int .u64 bd, .slice (some ⟨bK, 0, none⟩) bb.length bq] 27 (0, 0)) zx33_3 hg (Kd.N_ne bk.out bf.out (by decide))); replace bk := Aside0.mk (hp_); replace HB := Aside0.mk ((by rw [hw]; exact below_set (HB.out) ba4.out : Below w.heap.size w gF)); clear hg hw hp_; have qj : gF.cell? ⟨bj, 0, none⟩ = some (.int .u64 bg) := (blk_cell bl.out 0).trans rfl; have qi : gF.cell? ⟨bj, 1, none⟩ = some (.int .u64 bd) := (blk_cell bl.out 1).trans rfl; have qh : gF.cell? ⟨bj, 2, none⟩ = some (.slice bw bm.length bu) := (blk_cell bl.out 2).trans rfl; have oO := blk_frozen bl.out 0; have oN := blk_frozen bl.out 1; have oM := blk_frozen bl.out 2) | ((with_reducible refine gate_callee (f := 24) rfl ?_); refine goesL_ (some 118) rfl rfl Tryd.func24 (by kernel_rfl) rfl #[.agg #[.int .u64 bg, .int .u64 bd, .slice bw bm.length bu]] rfl zx33_4 ?_; (with_reducible refine (ledger_Right.calls kj8 bg bd _ _ bm true _ ?side1 ?side2 A93.out).mono ?_); (case side1 => repeat (first | exact (Kd.N_reads' bo.out).2.2 | (with_reducible refine Kd.C_alloc ?_ _) | (with_reducible refine Kd.C_drewN ?_ _) | (with_reducible refine Kd.C_drew ?_))); (case side2 => exact (Kd.N_reads' bo.out).2.1); rintro e j7 ⟨rfl, hb⟩; refine ⟨_, rfl, ?_⟩; replace be := Aside0.mk (Kd.V_below zx33_5 hb); replace bo := Aside0.mk (Kd.N_below zx33_9 hb); replace bk := Aside0.mk (Kd.N_below zx33_7 hb); replace bn := Aside0.mk (blk_below (g := bi) (o := .cells #[.int .u64 bz, .int .u64 bA, .slice bC br.length bB] 27 (0, 0)) zx33_1 hb); replace bl := Aside0.mk (blk_below (g := bj) (o := .cells #[.int .u64 bg, .int .u64 bd, .slice bw bm.length bu] 27 (0, 0)) zx33_2 hb); replace bf := Aside0.mk (blk_below (g := bc) (o := .cells #[.int .u64 bg, .int .u64 bd, .slice (some ⟨bK, 0, none⟩) bb.length bq] 27 (0, 0)) zx33_3 hb); replace HB := Aside0.mk (below_step zx33_0 hb); (try clear hb); (try clear hb2); (try clear hk); (try clear hi); have qg : j7.cell? ⟨bc, 0, none⟩ = some (.int .u64 bg) := (blk_cell bf.out 0).trans rfl; have qf : j7.cell? ⟨bc, 1, none⟩ = some (.int .u64 bd) := (blk_cell bf.out 1).trans rfl; have qe : j7.cell? ⟨bc, 2, none⟩ = some (.slice (some ⟨bK, 0, none⟩) bb.length bq) := (blk_cell bf.out 2).trans rfl; have oL := blk_frozen bf.out 0; have oK := blk_frozen bf.out 1; have oJ := blk_frozen bf.out 2) | (go_at_call 24; refine calls_of_args (args' := #[.agg #[.int .u64 bg, .int .u64 bd, .slice (some ⟨bK, 0, none⟩) dV.length bq]]) (by first | (rw [show dV.length = bb.length from (Kd.N_reads' bk.out).1.symm] <;> rfl) | rfl) ?_; (with_reducible refine (ledger_Right.calls kj8 bg bd _ _ dV bQ _ ?side1 ?side2 A95.out).mono ?_); (case side1 => repeat (first | exact (Kd.N_reads' bk.out).2.2 | (with_reducible refine Kd.C_alloc ?_ _) | (with_reducible refine Kd.C_drewN ?_ _) | (with_reducible refine Kd.C_drew ?_))); (case side2 => rw [show dV.length = bb.length from (Kd.N_reads' bk.out).1.symm]; exact (Kd.N_reads' bk.out).2.1); rintro e baU ⟨rfl, hb⟩; replace be := Aside0.mk (Kd.V_below zx33_5 hb); replace bo := Aside0.mk (Kd.N_below zx33_9 hb); replace bk := Aside0.mk (Kd.N_below zx33_7 hb); replace bn := Aside0.mk (blk_below (g := bi) (o := .cells #[.int .u64 bz, .int .u64 bA, .slice bC br.length bB] 27 (0, 0)) zx33_1 hb); replace bl := Aside0.mk (blk_below (g := bj) (o := .cells #[.int .u64 bg, .int .u64 bd, .slice bw bm.length bu] 27 (0, 0)) zx33_2 hb); replace bf := Aside0.mk (blk_below (g := bc) (o := .cells #[.int .u64 bg, .int .u64 bd, .slice (some ⟨bK, 0, none⟩) bb.length bq] 27 (0, 0)) zx33_3 hb); replace HB := Aside0.mk (below_step zx33_0 hb); (try clear hb); (try clear hb2); (try clear hk); (try clear hi)))
   go_ret
   exact ⟨by first | rfl | (simp [errW_none, errW_some] <;> rfl) | (simp [*, errW_none, errW_some] <;> rfl), by repeat (first | (with_reducible first | exact HB.out | apply below_alloc | apply pw_below_drewN | apply below_drew1 | refine below_set ?_ bN.out | refine below_set ?_ b8.out | refine below_set ?_ de.out) | exact HB.out)⟩
  rw [if_neg c89] at H
  have qB : (bp == 2) = false := beq_eq_false_iff_ne.mpr c89
  have qA : (bp != 2) = true := bne_iff_ne.mpr c89
  by_cases gm : bp = 3
  ·rw [if_pos gm] at H
   have m9 : (bp == 3) = true := beq_iff_eq.mpr gm
   have m8 : (bp != 3) = false := bne_eq_false_iff_eq.mpr gm
   clear gm
   obtain ⟨gZ, d0⟩ : ∃ y_ : List Int, y_ = (([bd] : List Int)) := ⟨_, rfl⟩
   replace H : (if 0 ≤ ba then (if ba < (bb.length : Int) then ((ledger_Right.f kj8 bg bd bm).bind fun bW => (if bW = true then ((ledger_Right.f kj8 bg bd (bb.set (ba : Int).toNat (⟨(rd_T37 bb ba).f0, (rd_T37 bb ba).f1, (rd_T37 bb ba).f2, gZ, (rd_T37 bb ba).f4, (rd_T37 bb ba).f5, (rd_T37 bb ba).f6⟩ : S37))).bind fun bL => (some (!bL))) else (none))) else (none)) else (none)) = some r := by first | (rw [d0]; with_reducible exact H) | (have H2_ := (Option.bind_some _ _).symm.trans H; rw [d0]; with_reducible exact H2_) | (have H2_ := (Option.bind_some _ _).symm.trans H; with_reducible exact H2_) | with_reducible exact H | (rw [d0]; exact H) | exact H
   have jJ := Aside0.mk d0
   clear d0
   by_cases jr : 0 ≤ ba
   case neg =>
    rw [if_neg jr] at H
    exact absurd H (by simp)
   rw [if_pos jr] at H
   have ba3 : decide (0 ≤ ba) = true := decide_eq_true jr
   clear jr
   by_cases jq : ba < (bb.length : Int)
   case neg =>
    rw [if_neg jq] at H
    exact absurd H (by simp)
   rw [if_pos jq] at H
   have ba2 : decide (ba < (bb.length : Int)) = true := decide_eq_true jq
   clear jq
   obtain ⟨dU, dZ⟩ : ∃ y_ : List (S37), y_ = (bb.set (ba : Int).toNat (⟨(rd_T37 bb ba).f0, (rd_T37 bb ba).f1, (rd_T37 bb ba).f2, gZ, (rd_T37 bb ba).f4, (rd_T37 bb ba).f5, (rd_T37 bb ba).f6⟩ : S37)) := ⟨_, rfl⟩
   replace H : ((ledger_Right.f kj8 bg bd bm).bind fun bW => (if bW = true then ((ledger_Right.f kj8 bg bd dU).bind fun bL => (some (!bL))) else (none))) = some r := by first | (rw [dZ]; with_reducible exact H) | (have H2_ := (Option.bind_some _ _).symm.trans H; rw [dZ]; with_reducible exact H2_) | (have H2_ := (Option.bind_some _ _).symm.trans H; with_reducible exact H2_) | with_reducible exact H | (rw [dZ]; exact H) | exact H
   have qL := Aside0.mk dZ
   clear dZ
   replace H := Option.bind_eq_some_iff.mp H
   obtain ⟨bW, jZ, H⟩ := H
   replace H : (if bW = true then ((ledger_Right.f kj8 bg bd dU).bind fun bL => (some (!bL))) else (none)) = some r := H
   have bah := Aside0.mk jZ
   clear jZ
   by_cases jp : bW = true
   case neg =>
    replace jp := Bool.eq_false_iff.mpr jp
    subst jp
    have H1 : (none) = some r := by rw [if_neg (show ¬ (false = true) by decide)] at H; exact H
    clear H
    have H := H1
    clear H1
    exact absurd H (by simp)
   subst jp
   have H1 : ((ledger_Right.f kj8 bg bd dU).bind fun bL => (some (!bL))) = some r := by rw [if_pos rfl] at H; exact H
   clear H
   have H := H1
   clear H1
   replace H := Option.bind_eq_some_iff.mp H
   obtain ⟨bL, jY, H⟩ := H
   replace H : (some (!bL)) = some r := H
   have bag := Aside0.mk jY
   clear jY
   obtain rfl := Option.some.inj H
   go_wp2_with (first | ((with_reducible refine gate_dst (N := 93) rfl ?_); (try (refine gate_guard (by rfl) ?_; dsimp only)); refine Kd.R_lit (Kd.int .u64) _ 24 ?hg (N := 93) ?hd (xs := ([bd] : List Int)) (inner := [.int .u64 bd]) (ok := fun _ => True) (okp := fun _ => True) ?hr ?hp (fun _ hk => hk) trivial (Below.refl _ _) (Nat.le_refl _) (by simp) ?_; (case hd => rfl); (case hg => rfl); (case hr => first | (go_simp; done) | (go_simp; rfl)); (case hp => exact (Reps.one (show Kd.M (Kd.int .u64) _ _ _ bd [.int .u64 bd] from rfl) (Reps.none _ _))); intro gI b3 di hb hg_ hnew_; clear hg_ hnew_; (first | rw [← jJ.out] at di | (simp only [Int.reduceToNat] at di; rw [← jJ.out] at di)); replace be := Aside0.mk (Kd.V_elder' zx33_5 (Kd.R_base di) hb); replace bo := Aside0.mk (Kd.N_elder' zx33_9 (Kd.R_base di) hb); replace bk := Aside0.mk (Kd.N_elder' zx33_7 (Kd.R_base di) hb); have gX := Aside0.mk (Kd.R_lower di (below_size zx33_0)); replace bn := Aside0.mk (blk_below (g := bi) (o := .cells #[.int .u64 bz, .int .u64 bA, .slice bC br.length bB] 27 (0, 0)) zx33_1 hb); replace bl := Aside0.mk (blk_below (g := bj) (o := .cells #[.int .u64 bg, .int .u64 bd, .slice bw bm.length bu] 27 (0, 0)) zx33_2 hb); replace bf := Aside0.mk (blk_below (g := bc) (o := .cells #[.int .u64 bg, .int .u64 bd, .slice bM bb.length bq] 27 (0, 0)) zx33_3 hb); replace HB := Aside0.mk (below_step zx33_0 hb); clear hb di; have ml : 0 ≤ (ba : Int) := of_decide_eq_true zx33_6; have mi : (ba : Int) < ((bb.length : Int) : Int) := of_decide_eq_true zx33_6; obtain ⟨bD, baq, jH, jE, qt, bas, jP⟩ := Kd.N_form bk.out (by omega); (first | cases jH | (injection jH with ea_ en_ ec_; (first | subst ea_ | (injection ea_ with ea_; subst ea_)); subst ec_; clear en_)); have qY := Aside0.mk jE; have baN := Aside0.mk jP; clear jE qt jP; obtain ⟨baz, mS, jB, b7, b5⟩ := Kd.N_elem bk.out z37 (ba : Int) ml mi; obtain ⟨hj, hf, rfl, sc, zf⟩ := k37_openF jB; have sG : b3.cell? ⟨bD, (ba : Int).toNat * 7, none⟩ = some (.string ((rd_T37 bb ba).f0)) := b7 0 _ rfl; have sF : b3.cell? ⟨bD, (ba : Int).toNat * 7 + 1, none⟩ = some (.int .u64 ((rd_T37 bb ba).f1)) := b7 1 _ rfl; have sE : b3.cell? ⟨bD, (ba : Int).toNat * 7 + 2, none⟩ = some (.int .u64 ((rd_T37 bb ba).f2)) := b7 2 _ rfl; have sD : b3.cell? ⟨bD, (ba : Int).toNat * 7 + 3, none⟩ = some (.slice hj ((rd_T37 bb ba).f3).length hf) := b7 3 _ rfl; have sC : b3.cell? ⟨bD, (ba : Int).toNat * 7 + 4, none⟩ = some (.int .u64 ((rd_T37 bb ba).f4)) := b7 4 _ rfl; have sB : b3.cell? ⟨bD, (ba : Int).toNat * 7 + 5, none⟩ = some (.int .u64 ((rd_T37 bb ba).f5)) := b7 5 _ rfl; have sy : b3.cell? ⟨bD, (ba : Int).toNat * 7 + 6, none⟩ = some (.int .u64 ((rd_T37 bb ba).f6)) := b7 6 _ rfl; have vE : b3.frozen? ⟨bD, (ba : Int).toNat * 7, none⟩ = false := b5 0; have vD : b3.frozen? ⟨bD, (ba : Int).toNat * 7 + 1, none⟩ = false := b5 1; have vC : b3.frozen? ⟨bD, (ba : Int).toNat * 7 + 2, none⟩ = false := b5 2; have vB : b3.frozen? ⟨bD, (ba : Int).toNat * 7 + 3, none⟩ = false := b5 3; have vA : b3.frozen? ⟨bD, (ba : Int).toNat * 7 + 4, none⟩ = false := b5 4; have vz : b3.frozen? ⟨bD, (ba : Int).toNat * 7 + 5, none⟩ = false := b5 5; have vy : b3.frozen? ⟨bD, (ba : Int).toNat * 7 + 6, none⟩ = false := b5 6; clear mS b7 b5 jB; replace ml := eq_true ml; replace mi := eq_true mi; have n_ := Aside0.mk (Kd.N_mono (ok' := (fun k_ => some k_ ≠ (gI : Value).ownBlock ∧ k_ ≠ bi ∧ k_ ≠ bj ∧ k_ ≠ bc)) bk.out (fun k_ hk => ⟨hk.2, ⟨hk.1.1, ⟨hk.1.2.1, hk.1.2.2⟩⟩⟩)); (try clear bk); have bk := n_; clear n_; have jM := Aside0.mk (show Kd.N k37 37 b3 w.heap.size (fun k_ => k_ ≠ bi ∧ k_ ≠ bj ∧ k_ ≠ bc) (.slice (some ⟨bD, 0, none⟩) bb.length bq) bb from (by (with_reducible repeat (first | apply Kd.N_alloc | apply Kd.N_drewN | apply Kd.N_drew)); exact Kd.N_mono bk.out (fun _ hk => ⟨hk.2.1, ⟨hk.2.2.1, hk.2.2.2⟩⟩))); obtain ⟨bay, gN, jA, gh, gK⟩ := Kd.N_elem jM.out z37 (ba : Int) (of_decide_eq_true zx33_6) (by have h_ : (ba : Int) < ((bb.length : Int) : Int) := of_decide_eq_true zx33_6; first | exact h_ | (have e_ := (Kd.N_reads' bk.out).1; omega) | simpa using h_); obtain ⟨so, sh, rfl, sb, ze⟩ := k37_openF jA; obtain ⟨Aq_, cq_, eq_⟩ := Kd.R_slice gX.out; have hrt_ := (Kd.R_types (Kd.R_types (Kd.R_types (Kd.R_apart' (gX.out) (Kd.N_typed bk.out) (by decide)) bn.out (by decide)) bl.out (by decide)) bf.out (by decide)); have hrm_ := Kd.R_mono (ok' := (fun k_ => ((fun k_ => k_ ≠ bi ∧ k_ ≠ bj ∧ k_ ≠ bc)) k_ ∧ k_ ≠ bD)) hrt_ (fun k_ hk => ⟨⟨hk.1.1.2, ⟨hk.1.2, hk.2⟩⟩, fun e_ => (hk.1.1.1.2) (by rw [e_]; rfl)⟩); rw [eq_] at hrm_; have gV := Kd.N_seg jM.out (ba : Int) (of_decide_eq_true zx33_6) (by have h_ : (ba : Int) < ((bb.length : Int) : Int) := of_decide_eq_true zx33_6; first | exact h_ | (have e_ := (Kd.N_reads' bk.out).1; omega) | simpa using h_) (seg := [gI]) (j := 3) gN gh (show 4 ≤ 7 from by decide) (x' := (⟨(rd_T37 bb ba).f0, (rd_T37 bb ba).f1, (rd_T37 bb ba).f2, gZ, (rd_T37 bb ba).f4, (rd_T37 bb ba).f5, (rd_T37 bb ba).f6⟩ : S37)) (by rw [eq_]; exact k37_mkF _ _ (⟨(rd_T37 bb ba).f0, (rd_T37 bb ba).f1, (rd_T37 bb ba).f2, gZ, (rd_T37 bb ba).f4, (rd_T37 bb ba).f5, (rd_T37 bb ba).f6⟩ : S37) (Kd.R_reads' hrm_).2.1 (Kd.R_F hrm_)) (fun _ hk => hk); have hD := gh 3 _ rfl; (try simp only [show (k37).sz = 7 from rfl, Nat.mul_one, Nat.add_zero] at hD); have hT := gK 3; (try simp only [show (k37).sz = 7 from rfl, Nat.mul_one, Nat.add_zero] at hT); clear gN gh gK jA) | ((with_reducible refine gate_store (t := 35) (p := 95) rfl ?_); refine store_event (t := 35) (p := 95) (v := ?vo_w147) (w1 := (b3.setCell ⟨bD, (ba : Int).toNat * 7 + 3, none⟩ (gI))) ?hg ?ho ?hn ?hr ?_; (case ho => rfl); (case hg => rfl); (case hn => rfl); (case hr => first | (go_simp; done) | (go_simp; rfl)); intro gE hw; have hg : b3.grownBy gE (some bD) := (by rw [hw]; exact gV.2); have hp_ : Kd.N k37 37 gE w.heap.size (fun k_ => k_ ≠ bi ∧ k_ ≠ bj ∧ k_ ≠ bc) (.slice (some ⟨bD, 0, none⟩) bb.length bq) dU := (by rw [hw, qL.out]; exact gV.1); clear gV; have n0_ := Aside0.mk (Kd.V_afterv (v := (.slice (some ⟨bD, 0, none⟩) bb.length bq)) (v1 := (.slice (some ⟨bD, 0, none⟩) bb.length bq)) (ok := (fun k_ => some k_ ≠ (.slice bw bm.length bu : Value).ownBlock ∧ some k_ ≠ (gI : Value).ownBlock ∧ k_ ≠ bi ∧ k_ ≠ bj ∧ k_ ≠ bc)) (by (with_reducible repeat (first | apply Kd.V_alloc | apply Kd.V_drewN | apply Kd.V_drew)); exact Kd.V_mono be.out (fun _ hk => ⟨⟨hk.1.1, ⟨hk.2, ⟨hk.1.2.2.1, ⟨hk.1.2.2.2.1, hk.1.2.2.2.2⟩⟩⟩⟩, hk.1.2.1⟩)) hg (.inl rfl)); have n1_ := Aside0.mk (blk_grown (g := bi) (o := .cells #[.int .u64 bz, .int .u64 bA, .slice bC br.length bB] 27 (0, 0)) zx33_1 hg (Kd.N_ne bk.out bn.out (by decide))); have n2_ := Aside0.mk (Kd.N_afterv (v := (.slice (some ⟨bD, 0, none⟩) bb.length bq)) (v1 := (.slice (some ⟨bD, 0, none⟩) bb.length bq)) (ok := (fun k_ => some k_ ≠ (gI : Value).ownBlock ∧ k_ ≠ bi ∧ k_ ≠ bj ∧ k_ ≠ bc)) (by (with_reducible repeat (first | apply Kd.N_alloc | apply Kd.N_drewN | apply Kd.N_drew)); exact Kd.N_mono bo.out (fun _ hk => ⟨⟨hk.2, ⟨hk.1.2.1, ⟨hk.1.2.2.1, hk.1.2.2.2⟩⟩⟩, hk.1.1⟩)) hg (.inl rfl)); have n3_ := Aside0.mk (blk_grown (g := bj) (o := .cells #[.int .u64 bg, .int .u64 bd, .slice bw bm.length bu] 27 (0, 0)) zx33_2 hg (Kd.N_ne bk.out bl.out (by decide))); have n4_ := Aside0.mk (blk_grown (g := bc) (o := .cells #[.int .u64 bg, .int .u64 bd, .slice (some ⟨bD, 0, none⟩) bb.length bq] 27 (0, 0)) zx33_3 hg (Kd.N_ne bk.out bf.out (by decide))); have n5_ := Aside0.mk (hp_); have n6_ := Aside0.mk ((by rw [hw]; exact below_set (HB.out) qY.out : Below w.heap.size w gE)); clear be; clear bn; (try clear bo); clear bl; clear bf; (try clear bk); clear HB; (try clear gX); have be := n0_; have bn := n1_; have bo := n2_; have bl := n3_; have bf := n4_; have bk := n5_; have HB := n6_; clear n0_ n1_ n2_ n3_ n4_ n5_ n6_; clear hg hw hp_; have qd : gE.cell? ⟨bj, 0, none⟩ = some (.int .u64 bg) := (blk_cell bl.out 0).trans rfl; have qc : gE.cell? ⟨bj, 1, none⟩ = some (.int .u64 bd) := (blk_cell bl.out 1).trans rfl; have qb : gE.cell? ⟨bj, 2, none⟩ = some (.slice bw bm.length bu) := (blk_cell bl.out 2).trans rfl; have oI := blk_frozen bl.out 0; have oH := blk_frozen bl.out 1; have oG := blk_frozen bl.out 2) | ((with_reducible refine gate_callee (f := 24) rfl ?_); refine goesL_ (some 118) rfl rfl Tryd.func24 (by kernel_rfl) rfl #[.agg #[.int .u64 bg, .int .u64 bd, .slice bw bm.length bu]] rfl zx33_4 ?_; (with_reducible refine (ledger_Right.calls kj8 bg bd _ _ bm true _ ?side1 ?side2 bah.out).mono ?_); (case side1 => repeat (first | exact (Kd.N_reads' bo.out).2.2 | (with_reducible refine Kd.C_alloc ?_ _) | (with_reducible refine Kd.C_drewN ?_ _) | (with_reducible refine Kd.C_drew ?_))); (case side2 => exact (Kd.N_reads' bo.out).2.1); rintro e j6 ⟨rfl, hb⟩; refine ⟨_, rfl, ?_⟩; replace be := Aside0.mk (Kd.V_below zx33_5 hb); replace bo := Aside0.mk (Kd.N_below zx33_9 hb); replace bk := Aside0.mk (Kd.N_below zx33_7 hb); replace bn := Aside0.mk (blk_below (g := bi) (o := .cells #[.int .u64 bz, .int .u64 bA, .slice bC br.length bB] 27 (0, 0)) zx33_1 hb); replace bl := Aside0.mk (blk_below (g := bj) (o := .cells #[.int .u64 bg, .int .u64 bd, .slice bw bm.length bu] 27 (0, 0)) zx33_2 hb); replace bf := Aside0.mk (blk_below (g := bc) (o := .cells #[.int .u64 bg, .int .u64 bd, .slice (some ⟨bD, 0, none⟩) bb.length bq] 27 (0, 0)) zx33_3 hb); replace HB := Aside0.mk (below_step zx33_0 hb); (try clear hb); (try clear hb2); (try clear hk); (try clear hi); have qa : j6.cell? ⟨bc, 0, none⟩ = some (.int .u64 bg) := (blk_cell bf.out 0).trans rfl; have o9 : j6.cell? ⟨bc, 1, none⟩ = some (.int .u64 bd) := (blk_cell bf.out 1).trans rfl; have o8 : j6.cell? ⟨bc, 2, none⟩ = some (.slice (some ⟨bD, 0, none⟩) bb.length bq) := (blk_cell bf.out 2).trans rfl; have oF := blk_frozen bf.out 0; have oE := blk_frozen bf.out 1; have oD := blk_frozen bf.out 2) | (go_at_call 24; refine calls_of_args (args' := #[.agg #[.int .u64 bg, .int .u64 bd, .slice (some ⟨bD, 0, none⟩) dU.length bq]]) (by first | (rw [show dU.length = bb.length from (Kd.N_reads' bk.out).1.symm] <;> rfl) | rfl) ?_; (with_reducible refine (ledger_Right.calls kj8 bg bd _ _ dU bL _ ?side1 ?side2 bag.out).mono ?_); (case side1 => repeat (first | exact (Kd.N_reads' bk.out).2.2 | (with_reducible refine Kd.C_alloc ?_ _) | (with_reducible refine Kd.C_drewN ?_ _) | (with_reducible refine Kd.C_drew ?_))); (case side2 => rw [show dU.length = bb.length from (Kd.N_reads' bk.out).1.symm]; exact (Kd.N_reads' bk.out).2.1); rintro e baT ⟨rfl, hb⟩; replace be := Aside0.mk (Kd.V_below zx33_5 hb); replace bo := Aside0.mk (Kd.N_below zx33_9 hb); replace bk := Aside0.mk (Kd.N_below zx33_7 hb); replace bn := Aside0.mk (blk_below (g := bi) (o := .cells #[.int .u64 bz, .int .u64 bA, .slice bC br.length bB] 27 (0, 0)) zx33_1 hb); replace bl := Aside0.mk (blk_below (g := bj) (o := .cells #[.int .u64 bg, .int .u64 bd, .slice bw bm.length bu] 27 (0, 0)) zx33_2 hb); replace bf := Aside0.mk (blk_below (g := bc) (o := .cells #[.int .u64 bg, .int .u64 bd, .slice (some ⟨bD, 0, none⟩) bb.length bq] 27 (0, 0)) zx33_3 hb); replace HB := Aside0.mk (below_step zx33_0 hb); (try clear hb); (try clear hb2); (try clear hk); (try clear hi)))
   go_ret
   exact ⟨by first | rfl | (simp [errW_none, errW_some] <;> rfl) | (simp [*, errW_none, errW_some] <;> rfl), by repeat (first | (with_reducible first | exact HB.out | apply below_alloc | apply pw_below_drewN | apply below_drew1 | refine below_set ?_ bN.out | refine below_set ?_ b8.out | refine below_set ?_ de.out) | exact HB.out)⟩
  rw [if_neg gm] at H
  have m9 : (bp == 3) = false := beq_eq_false_iff_ne.mpr gm
  have m8 : (bp != 3) = true := bne_iff_ne.mpr gm
  by_cases gl : bp = 4
  ·rw [if_pos gl] at H
   have m7 : (bp == 4) = true := beq_iff_eq.mpr gl
   have m6 : (bp != 4) = false := bne_eq_false_iff_eq.mpr gl
   clear gl
   replace H := Option.bind_eq_some_iff.mp H
   obtain ⟨dd, jX, H⟩ := H
   replace H : (if dd = true then ((ledger_Right.f kj8 0 bd bb).bind fun bV => (some (!bV))) else (none)) = some r := H
   have baf := Aside0.mk jX
   clear jX
   by_cases jo : dd = true
   case neg =>
    replace jo := Bool.eq_false_iff.mpr jo
    subst jo
    have H1 : (none) = some r := by rw [if_neg (show ¬ (false = true) by decide)] at H; exact H
    clear H
    have H := H1
    clear H1
    exact absurd H (by simp)
   subst jo
   have H1 : ((ledger_Right.f kj8 0 bd bb).bind fun bV => (some (!bV))) = some r := by rw [if_pos rfl] at H; exact H
   clear H
   have H := H1
   clear H1
   replace H := Option.bind_eq_some_iff.mp H
   obtain ⟨bV, jW, H⟩ := H
   replace H : (some (!bV)) = some r := H
   have bae := Aside0.mk jW
   clear jW
   obtain rfl := Option.some.inj H
   go_wp2_with (first | ((with_reducible refine gate_callee (f := 24) rfl ?_); refine goesL_ (some 118) rfl rfl Tryd.func24 (by kernel_rfl) rfl #[.agg #[.int .u64 bg, .int .u64 bd, .slice bw bm.length bu]] rfl zx33_4 ?_; (with_reducible refine (ledger_Right.calls kj8 bg bd _ _ bm true _ ?side1 ?side2 baf.out).mono ?_); (case side1 => refine (Kd.N_reads' (e := 37) (base := w.heap.size) (ok := fun k_ => some k_ ≠ (.slice bM bb.length bq : Value).ownBlock ∧ k_ ≠ bi ∧ k_ ≠ bj ∧ k_ ≠ bc) (n := bm.length) (c := bu) ?_).2.2; exact zx33_28); (case side2 => exact (Kd.N_reads' bo.out).2.1); rintro e j5 ⟨rfl, hb⟩; refine ⟨_, rfl, ?_⟩; replace be := Aside0.mk (Kd.V_below (by (with_reducible repeat (first | apply Kd.V_alloc | apply Kd.V_drewN | apply Kd.V_drew)); exact (Kd.V_mono (Kd.V_far (p := ⟨bc, 0, none⟩) (Kd.V_mono be.out (fun k_ hk => (⟨hk, hk.2.2.2.2⟩ : _ ∧ k_ ≠ bc))) (fun _ hk => hk.2) (.int .u64 0)) (fun _ h_ => h_.1))) hb); replace bo := Aside0.mk (Kd.N_below zx33_28 hb); replace bk := Aside0.mk (Kd.N_below (by (with_reducible repeat (first | apply Kd.N_alloc | apply Kd.N_drewN | apply Kd.N_drew)); exact (Kd.N_mono (Kd.N_far (p := ⟨bc, 0, none⟩) (Kd.N_mono bk.out (fun k_ hk => (⟨hk, hk.2.2⟩ : _ ∧ k_ ≠ bc))) (fun _ hk => hk.2) (.int .u64 0)) (fun _ h_ => h_.1))) hb); replace bn := Aside0.mk (blk_below (g := bi) (o := .cells #[.int .u64 bz, .int .u64 bA, .slice bC br.length bB] 27 (0, 0)) zx33_13 hb); replace bl := Aside0.mk (blk_below (g := bj) (o := .cells #[.int .u64 bg, .int .u64 bd, .slice bw bm.length bu] 27 (0, 0)) zx33_14 hb); replace bf := Aside0.mk (blk_below (g := bc) (o := .cells #[.int .u64 0, .int .u64 bd, .slice bM bb.length bq] 27 (0, 0)) zx33_25 hb); replace HB := Aside0.mk (below_step zx33_0 hb); (try clear hb); (try clear hb2); (try clear hk); (try clear hi); have o7 : j5.cell? ⟨bc, 0, none⟩ = some (.int .u64 0) := (blk_cell bf.out 0).trans rfl; have o6 : j5.cell? ⟨bc, 1, none⟩ = some (.int .u64 bd) := (blk_cell bf.out 1).trans rfl; have o5 : j5.cell? ⟨bc, 2, none⟩ = some (.slice bM bb.length bq) := (blk_cell bf.out 2).trans rfl; have oC := blk_frozen bf.out 0; have oB := blk_frozen bf.out 1; have oA := blk_frozen bf.out 2) | (go_at_call 24; (with_reducible refine (ledger_Right.calls kj8 0 bd _ _ bb bV _ ?side1 ?side2 bae.out).mono ?_); (case side1 => repeat (first | exact (Kd.N_reads' bk.out).2.2 | (with_reducible refine Kd.C_alloc ?_ _) | (with_reducible refine Kd.C_drewN ?_ _) | (with_reducible refine Kd.C_drew ?_))); (case side2 => exact (Kd.N_reads' bk.out).2.1); rintro e baS ⟨rfl, hb⟩; replace be := Aside0.mk (Kd.V_below zx33_5 hb); replace bo := Aside0.mk (Kd.N_below zx33_9 hb); replace bk := Aside0.mk (Kd.N_below zx33_7 hb); replace bn := Aside0.mk (blk_below (g := bi) (o := .cells #[.int .u64 bz, .int .u64 bA, .slice bC br.length bB] 27 (0, 0)) zx33_1 hb); replace bl := Aside0.mk (blk_below (g := bj) (o := .cells #[.int .u64 bg, .int .u64 bd, .slice bw bm.length bu] 27 (0, 0)) zx33_2 hb); replace bf := Aside0.mk (blk_below (g := bc) (o := .cells #[.int .u64 0, .int .u64 bd, .slice bM bb.length bq] 27 (0, 0)) zx33_3 hb); replace HB := Aside0.mk (below_step zx33_0 hb); (try clear hb); (try clear hb2); (try clear hk); (try clear hi)))
   go_ret
   exact ⟨by first | rfl | (simp [errW_none, errW_some] <;> rfl) | (simp [*, errW_none, errW_some] <;> rfl), by repeat (first | (with_reducible first | exact HB.out | apply below_alloc | apply pw_below_drewN | apply below_drew1 | refine below_set ?_ bN.out | refine below_set ?_ b8.out | refine below_set ?_ de.out) | exact HB.out)⟩
  rw [if_neg gl] at H
  have m7 : (bp == 4) = false := beq_eq_false_iff_ne.mpr gl
  have m6 : (bp != 4) = true := bne_iff_ne.mpr gl
  by_cases gk : bp = 5
  ·rw [if_pos gk] at H
   have m5 : (bp == 5) = true := beq_iff_eq.mpr gk
   have m4 : (bp != 5) = false := bne_eq_false_iff_eq.mpr gk
   clear gk
   replace H := Option.bind_eq_some_iff.mp H
   obtain ⟨dc, jV, H⟩ := H
   replace H : (if dc = true then ((ledger_Right.f kj8 (IntKind.u64.wrap (bd + 1)) bd bb).bind fun bU => (some (!bU))) else (none)) = some r := H
   have bad := Aside0.mk jV
   clear jV
   by_cases jn : dc = true
   case neg =>
    replace jn := Bool.eq_false_iff.mpr jn
    subst jn
    have H1 : (none) = some r := by rw [if_neg (show ¬ (false = true) by decide)] at H; exact H
    clear H
    have H := H1
    clear H1
    exact absurd H (by simp)
   subst jn
   have H1 : ((ledger_Right.f kj8 (IntKind.u64.wrap (bd + 1)) bd bb).bind fun bU => (some (!bU))) = some r := by rw [if_pos rfl] at H; exact H
   clear H
   have H := H1
   clear H1
   replace H := Option.bind_eq_some_iff.mp H
   obtain ⟨bU, jU, H⟩ := H
   replace H : (some (!bU)) = some r := H
   have bac := Aside0.mk jU
   clear jU
   obtain rfl := Option.some.inj H
   go_wp2_with (first | ((with_reducible refine gate_callee (f := 24) rfl ?_); refine goesL_ (some 118) rfl rfl Tryd.func24 (by kernel_rfl) rfl #[.agg #[.int .u64 bg, .int .u64 bd, .slice bw bm.length bu]] rfl zx33_4 ?_; (with_reducible refine (ledger_Right.calls kj8 bg bd _ _ bm true _ ?side1 ?side2 bad.out).mono ?_); (case side1 => refine (Kd.N_reads' (e := 37) (base := w.heap.size) (ok := fun k_ => some k_ ≠ (.slice bM bb.length bq : Value).ownBlock ∧ k_ ≠ bi ∧ k_ ≠ bj ∧ k_ ≠ bc) (n := bm.length) (c := bu) ?_).2.2; exact zx33_26); (case side2 => exact (Kd.N_reads' bo.out).2.1); rintro e j4 ⟨rfl, hb⟩; refine ⟨_, rfl, ?_⟩; replace be := Aside0.mk (Kd.V_below (by (with_reducible repeat (first | apply Kd.V_alloc | apply Kd.V_drewN | apply Kd.V_drew)); exact (Kd.V_mono (Kd.V_far (p := ⟨bc, 0, none⟩) (Kd.V_mono be.out (fun k_ hk => (⟨hk, hk.2.2.2.2⟩ : _ ∧ k_ ≠ bc))) (fun _ hk => hk.2) (.int .u64 (IntKind.u64.wrap (bd + 1)))) (fun _ h_ => h_.1))) hb); replace bo := Aside0.mk (Kd.N_below zx33_26 hb); replace bk := Aside0.mk (Kd.N_below (by (with_reducible repeat (first | apply Kd.N_alloc | apply Kd.N_drewN | apply Kd.N_drew)); exact (Kd.N_mono (Kd.N_far (p := ⟨bc, 0, none⟩) (Kd.N_mono bk.out (fun k_ hk => (⟨hk, hk.2.2⟩ : _ ∧ k_ ≠ bc))) (fun _ hk => hk.2) (.int .u64 (IntKind.u64.wrap (bd + 1)))) (fun _ h_ => h_.1))) hb); replace bn := Aside0.mk (blk_below (g := bi) (o := .cells #[.int .u64 bz, .int .u64 bA, .slice bC br.length bB] 27 (0, 0)) zx33_13 hb); replace bl := Aside0.mk (blk_below (g := bj) (o := .cells #[.int .u64 bg, .int .u64 bd, .slice bw bm.length bu] 27 (0, 0)) zx33_14 hb); replace bf := Aside0.mk (blk_below (g := bc) (o := .cells #[.int .u64 (IntKind.u64.wrap (bd + 1)), .int .u64 bd, .slice bM bb.length bq] 27 (0, 0)) zx33_25 hb); replace HB := Aside0.mk (below_step zx33_0 hb); (try clear hb); (try clear hb2); (try clear hk); (try clear hi); have o4 : j4.cell? ⟨bc, 0, none⟩ = some (.int .u64 (IntKind.u64.wrap (bd + 1))) := (blk_cell bf.out 0).trans rfl; have o3 : j4.cell? ⟨bc, 1, none⟩ = some (.int .u64 bd) := (blk_cell bf.out 1).trans rfl; have o2 : j4.cell? ⟨bc, 2, none⟩ = some (.slice bM bb.length bq) := (blk_cell bf.out 2).trans rfl; have oz := blk_frozen bf.out 0; have oy := blk_frozen bf.out 1; have ox := blk_frozen bf.out 2) | (go_at_call 24; (with_reducible refine (ledger_Right.calls kj8 (IntKind.u64.wrap (bd + 1)) bd _ _ bb bU _ ?side1 ?side2 bac.out).mono ?_); (case side1 => repeat (first | exact (Kd.N_reads' bk.out).2.2 | (with_reducible refine Kd.C_alloc ?_ _) | (with_reducible refine Kd.C_drewN ?_ _) | (with_reducible refine Kd.C_drew ?_))); (case side2 => exact (Kd.N_reads' bk.out).2.1); rintro e baR ⟨rfl, hb⟩; replace be := Aside0.mk (Kd.V_below zx33_5 hb); replace bo := Aside0.mk (Kd.N_below zx33_9 hb); replace bk := Aside0.mk (Kd.N_below zx33_7 hb); replace bn := Aside0.mk (blk_below (g := bi) (o := .cells #[.int .u64 bz, .int .u64 bA, .slice bC br.length bB] 27 (0, 0)) zx33_1 hb); replace bl := Aside0.mk (blk_below (g := bj) (o := .cells #[.int .u64 bg, .int .u64 bd, .slice bw bm.length bu] 27 (0, 0)) zx33_2 hb); replace bf := Aside0.mk (blk_below (g := bc) (o := .cells #[.int .u64 (IntKind.u64.wrap (bd + 1)), .int .u64 bd, .slice bM bb.length bq] 27 (0, 0)) zx33_3 hb); replace HB := Aside0.mk (below_step zx33_0 hb); (try clear hb); (try clear hb2); (try clear hk); (try clear hi)))
   go_ret
   exact ⟨by first | rfl | (simp [errW_none, errW_some] <;> rfl) | (simp [*, errW_none, errW_some] <;> rfl), by repeat (first | (with_reducible first | exact HB.out | apply below_alloc | apply pw_below_drewN | apply below_drew1 | refine below_set ?_ bN.out | refine below_set ?_ b8.out | refine below_set ?_ de.out) | exact HB.out)⟩
  rw [if_neg gk] at H
  have m5 : (bp == 5) = false := beq_eq_false_iff_ne.mpr gk
  have m4 : (bp != 5) = true := bne_iff_ne.mpr gk
  by_cases gj : bp = 6
  case neg =>
   rw [if_neg gj] at H
   have m3 : (bp == 6) = false := beq_eq_false_iff_ne.mpr gj
   have m2 : (bp != 6) = true := bne_iff_ne.mpr gj
   by_cases ji : 0 ≤ ba
   case neg =>
    rw [if_neg ji] at H
    exact absurd H (by simp)
   rw [if_pos ji] at H
   have z9 : decide (0 ≤ ba) = true := decide_eq_true ji
   clear ji
   by_cases jh : ba < (bb.length : Int)
   case neg =>
    rw [if_neg jh] at H
    exact absurd H (by simp)
   rw [if_pos jh] at H
   have z8 : decide (ba < (bb.length : Int)) = true := decide_eq_true jh
   clear jh
   obtain ⟨dT, dX⟩ : ∃ y_ : List (S37), y_ = (bb.set (ba : Int).toNat (⟨(rd_T37 bb ba).f0, 0, (rd_T37 bb ba).f2, (rd_T37 bb ba).f3, (rd_T37 bb ba).f4, (rd_T37 bb ba).f5, (rd_T37 bb ba).f6⟩ : S37)) := ⟨_, rfl⟩
   replace H : ((ledger_Right.f kj8 bg bd bm).bind fun bX => (if bX = true then ((ledger_Right.f kj8 bg bd dT).bind fun bO => (some (!bO))) else (none))) = some r := by first | (rw [dX]; with_reducible exact H) | (have H2_ := (Option.bind_some _ _).symm.trans H; rw [dX]; with_reducible exact H2_) | (have H2_ := (Option.bind_some _ _).symm.trans H; with_reducible exact H2_) | with_reducible exact H | (rw [dX]; exact H) | exact H
   have qJ := Aside0.mk dX
   clear dX
   replace H := Option.bind_eq_some_iff.mp H
   obtain ⟨bX, jR, H⟩ := H
   replace H : (if bX = true then ((ledger_Right.f kj8 bg bd dT).bind fun bO => (some (!bO))) else (none)) = some r := H
   have ba9 := Aside0.mk jR
   clear jR
   by_cases jg : bX = true
   case neg =>
    replace jg := Bool.eq_false_iff.mpr jg
    subst jg
    have H1 : (none) = some r := by rw [if_neg (show ¬ (false = true) by decide)] at H; exact H
    clear H
    have H := H1
    clear H1
    exact absurd H (by simp)
   subst jg
   have H1 : ((ledger_Right.f kj8 bg bd dT).bind fun bO => (some (!bO))) = some r := by rw [if_pos rfl] at H; exact H
   clear H
   have H := H1
   clear H1
   replace H := Option.bind_eq_some_iff.mp H
   obtain ⟨bO, jQ, H⟩ := H
   replace H : (some (!bO)) = some r := H
   have ba8 := Aside0.mk jQ
   clear jQ
   obtain rfl := Option.some.inj H
   have mj : 0 ≤ (ba : Int) := of_decide_eq_true zx33_6
   have mh : (ba : Int) < ((bb.length : Int) : Int) := of_decide_eq_true zx33_6
   obtain ⟨bE, bap, jF, jD, qs, bar, jO⟩ := Kd.N_form bk.out (by omega)
   (first | cases jF | (injection jF with ea_ en_ ec_; (first | subst ea_ | (injection ea_ with ea_; subst ea_)); subst ec_; clear en_))
   have qX := Aside0.mk jD
   have baM := Aside0.mk jO
   clear jD qs jO
   obtain ⟨bax, mR, jz, b6, b4⟩ := Kd.N_elem bk.out z37 (ba : Int) mj mh
   obtain ⟨hh, he, rfl, sa, zd⟩ := k37_openF jz
   have sx : w51.cell? ⟨bE, (ba : Int).toNat * 7, none⟩ = some (.string ((rd_T37 bb ba).f0)) := b6 0 _ rfl
   have sw : w51.cell? ⟨bE, (ba : Int).toNat * 7 + 1, none⟩ = some (.int .u64 ((rd_T37 bb ba).f1)) := b6 1 _ rfl
   have sv : w51.cell? ⟨bE, (ba : Int).toNat * 7 + 2, none⟩ = some (.int .u64 ((rd_T37 bb ba).f2)) := b6 2 _ rfl
   have su : w51.cell? ⟨bE, (ba : Int).toNat * 7 + 3, none⟩ = some (.slice hh ((rd_T37 bb ba).f3).length he) := b6 3 _ rfl
   have ss : w51.cell? ⟨bE, (ba : Int).toNat * 7 + 4, none⟩ = some (.int .u64 ((rd_T37 bb ba).f4)) := b6 4 _ rfl
   have sr : w51.cell? ⟨bE, (ba : Int).toNat * 7 + 5, none⟩ = some (.int .u64 ((rd_T37 bb ba).f5)) := b6 5 _ rfl
   have sq : w51.cell? ⟨bE, (ba : Int).toNat * 7 + 6, none⟩ = some (.int .u64 ((rd_T37 bb ba).f6)) := b6 6 _ rfl
   have vx : w51.frozen? ⟨bE, (ba : Int).toNat * 7, none⟩ = false := b4 0
   have vw : w51.frozen? ⟨bE, (ba : Int).toNat * 7 + 1, none⟩ = false := b4 1
   have vv : w51.frozen? ⟨bE, (ba : Int).toNat * 7 + 2, none⟩ = false := b4 2
   have vu : w51.frozen? ⟨bE, (ba : Int).toNat * 7 + 3, none⟩ = false := b4 3
   have vt : w51.frozen? ⟨bE, (ba : Int).toNat * 7 + 4, none⟩ = false := b4 4
   have vs : w51.frozen? ⟨bE, (ba : Int).toNat * 7 + 5, none⟩ = false := b4 5
   have vr : w51.frozen? ⟨bE, (ba : Int).toNat * 7 + 6, none⟩ = false := b4 6
   clear mR b6 b4 jz
   replace mj := eq_true mj
   replace mh := eq_true mh
   have jL := Aside0.mk (show Kd.N k37 37 w51 w.heap.size (fun k_ => k_ ≠ bi ∧ k_ ≠ bj ∧ k_ ≠ bc) (.slice (some ⟨bE, 0, none⟩) bb.length bq) bb from zx33_7)
   obtain ⟨baw, gM, jy, gg, gJ⟩ := Kd.N_elem jL.out z37 (ba : Int) (of_decide_eq_true zx33_6) (by have h_ : (ba : Int) < ((bb.length : Int) : Int) := of_decide_eq_true zx33_6; first | exact h_ | (have e_ := (Kd.N_reads' bk.out).1; omega) | simpa using h_)
   obtain ⟨sn, sg, rfl, ha, je⟩ := k37_openF jy
   have gU := Kd.N_seg jL.out (ba : Int) (of_decide_eq_true zx33_6) (by have h_ : (ba : Int) < ((bb.length : Int) : Int) := of_decide_eq_true zx33_6; first | exact h_ | (have e_ := (Kd.N_reads' bk.out).1; omega) | simpa using h_) (seg := [.int .u64 0]) (j := 1) gM gg (show 2 ≤ 7 from by decide) (x' := (⟨(rd_T37 bb ba).f0, 0, (rd_T37 bb ba).f2, (rd_T37 bb ba).f3, (rd_T37 bb ba).f4, (rd_T37 bb ba).f5, (rd_T37 bb ba).f6⟩ : S37)) (k37_mkF _ _ (⟨(rd_T37 bb ba).f0, 0, (rd_T37 bb ba).f2, (rd_T37 bb ba).f3, (rd_T37 bb ba).f4, (rd_T37 bb ba).f5, (rd_T37 bb ba).f6⟩ : S37) ha je) (fun _ hk => hk)
   have hC := gg 1 _ rfl
   (try simp only [show (k37).sz = 7 from rfl, Nat.mul_one, Nat.add_zero] at hC)
   have hS := gJ 1
   (try simp only [show (k37).sz = 7 from rfl, Nat.mul_one, Nat.add_zero] at hS)
   clear gM gg gJ jy
   go_wp2_with (first | ((with_reducible refine gate_store (t := 24) (p := 53) rfl ?_); refine store_event (t := 24) (p := 53) (v := ?vo_w257) (w1 := (w51.setCell ⟨bE, (ba : Int).toNat * 7 + 1, none⟩ (.int .u64 0))) ?hg ?ho ?hn ?hr ?_; (case ho => rfl); (case hg => rfl); (case hn => rfl); (case hr => first | (go_simp; done) | (go_simp; rfl)); intro gD hw; have hg : w51.grownBy gD (some bE) := (by rw [hw]; exact gU.2); have hp_ : Kd.N k37 37 gD w.heap.size (fun k_ => k_ ≠ bi ∧ k_ ≠ bj ∧ k_ ≠ bc) (.slice (some ⟨bE, 0, none⟩) bb.length bq) dT := (by rw [hw, qJ.out]; exact gU.1); clear gU; replace be := Aside0.mk (Kd.V_afterv (v := (.slice (some ⟨bE, 0, none⟩) bb.length bq)) (v1 := (.slice (some ⟨bE, 0, none⟩) bb.length bq)) (ok := (fun k_ => some k_ ≠ (.slice bw bm.length bu : Value).ownBlock ∧ k_ ≠ bi ∧ k_ ≠ bj ∧ k_ ≠ bc)) zx33_16 hg (.inl rfl)); replace bn := Aside0.mk (blk_grown (g := bi) (o := .cells #[.int .u64 bz, .int .u64 bA, .slice bC br.length bB] 27 (0, 0)) zx33_1 hg (Kd.N_ne bk.out bn.out (by decide))); replace bo := Aside0.mk (Kd.N_afterv (v := (.slice (some ⟨bE, 0, none⟩) bb.length bq)) (v1 := (.slice (some ⟨bE, 0, none⟩) bb.length bq)) (ok := (fun k_ => k_ ≠ bi ∧ k_ ≠ bj ∧ k_ ≠ bc)) zx33_19 hg (.inl rfl)); replace bl := Aside0.mk (blk_grown (g := bj) (o := .cells #[.int .u64 bg, .int .u64 bd, .slice bw bm.length bu] 27 (0, 0)) zx33_2 hg (Kd.N_ne bk.out bl.out (by decide))); replace bf := Aside0.mk (blk_grown (g := bc) (o := .cells #[.int .u64 bg, .int .u64 bd, .slice (some ⟨bE, 0, none⟩) bb.length bq] 27 (0, 0)) zx33_3 hg (Kd.N_ne bk.out bf.out (by decide))); replace bk := Aside0.mk (hp_); replace HB := Aside0.mk ((by rw [hw]; exact below_set (HB.out) qX.out : Below w.heap.size w gD)); clear hg hw hp_; have oV : gD.cell? ⟨bj, 0, none⟩ = some (.int .u64 bg) := (blk_cell bl.out 0).trans rfl; have oU : gD.cell? ⟨bj, 1, none⟩ = some (.int .u64 bd) := (blk_cell bl.out 1).trans rfl; have oT : gD.cell? ⟨bj, 2, none⟩ = some (.slice bw bm.length bu) := (blk_cell bl.out 2).trans rfl; have op := blk_frozen bl.out 0; have oo := blk_frozen bl.out 1; have on := blk_frozen bl.out 2) | ((with_reducible refine gate_callee (f := 24) rfl ?_); refine goesL_ (some 118) rfl rfl Tryd.func24 (by kernel_rfl) rfl #[.agg #[.int .u64 bg, .int .u64 bd, .slice bw bm.length bu]] rfl zx33_4 ?_; (with_reducible refine (ledger_Right.calls kj8 bg bd _ _ bm true _ ?side1 ?side2 ba9.out).mono ?_); (case side1 => repeat (first | exact (Kd.N_reads' bo.out).2.2 | (with_reducible refine Kd.C_alloc ?_ _) | (with_reducible refine Kd.C_drewN ?_ _) | (with_reducible refine Kd.C_drew ?_))); (case side2 => exact (Kd.N_reads' bo.out).2.1); rintro e j2 ⟨rfl, hb⟩; refine ⟨_, rfl, ?_⟩; have n0_ := Aside0.mk (Kd.V_below zx33_5 hb); have n2_ := Aside0.mk (Kd.N_below zx33_7 hb); have n3_ := Aside0.mk (blk_below (g := bi) (o := .cells #[.int .u64 bz, .int .u64 bA, .slice bC br.length bB] 27 (0, 0)) zx33_1 hb); have n4_ := Aside0.mk (blk_below (g := bj) (o := .cells #[.int .u64 bg, .int .u64 bd, .slice bw bm.length bu] 27 (0, 0)) zx33_2 hb); have n5_ := Aside0.mk (blk_below (g := bc) (o := .cells #[.int .u64 bg, .int .u64 bd, .slice (some ⟨bE, 0, none⟩) bb.length bq] 27 (0, 0)) zx33_3 hb); have n6_ := Aside0.mk (below_step zx33_0 hb); clear be; (try clear bo); (try clear bk); clear bn; clear bl; clear bf; clear HB; have be := n0_; have bk := n2_; have bn := n3_; have bl := n4_; have bf := n5_; have HB := n6_; clear n0_ n2_ n3_ n4_ n5_ n6_; (try clear hb); (try clear hb2); (try clear hk); (try clear hi); have oS : j2.cell? ⟨bc, 0, none⟩ = some (.int .u64 bg) := (blk_cell bf.out 0).trans rfl; have oR : j2.cell? ⟨bc, 1, none⟩ = some (.int .u64 bd) := (blk_cell bf.out 1).trans rfl; have oQ : j2.cell? ⟨bc, 2, none⟩ = some (.slice (some ⟨bE, 0, none⟩) bb.length bq) := (blk_cell bf.out 2).trans rfl; have om := blk_frozen bf.out 0; have ol := blk_frozen bf.out 1; have oj := blk_frozen bf.out 2) | (go_at_call 24; refine calls_of_args (args' := #[.agg #[.int .u64 bg, .int .u64 bd, .slice (some ⟨bE, 0, none⟩) dT.length bq]]) (by first | (rw [show dT.length = bb.length from (Kd.N_reads' bk.out).1.symm] <;> rfl) | rfl) ?_; (with_reducible refine (ledger_Right.calls kj8 bg bd _ _ dT bO _ ?side1 ?side2 ba8.out).mono ?_); (case side1 => repeat (first | exact (Kd.N_reads' bk.out).2.2 | (with_reducible refine Kd.C_alloc ?_ _) | (with_reducible refine Kd.C_drewN ?_ _) | (with_reducible refine Kd.C_drew ?_))); (case side2 => rw [show dT.length = bb.length from (Kd.N_reads' bk.out).1.symm]; exact (Kd.N_reads' bk.out).2.1); rintro e baO ⟨rfl, hb⟩; have n0_ := Aside0.mk (Kd.V_below zx33_5 hb); have n3_ := Aside0.mk (blk_below (g := bi) (o := .cells #[.int .u64 bz, .int .u64 bA, .slice bC br.length bB] 27 (0, 0)) zx33_1 hb); have n4_ := Aside0.mk (blk_below (g := bj) (o := .cells #[.int .u64 bg, .int .u64 bd, .slice bw bm.length bu] 27 (0, 0)) zx33_2 hb); have n5_ := Aside0.mk (blk_below (g := bc) (o := .cells #[.int .u64 bg, .int .u64 bd, .slice (some ⟨bE, 0, none⟩) bb.length bq] 27 (0, 0)) zx33_3 hb); have n6_ := Aside0.mk (below_step zx33_0 hb); clear be; (try clear bo); (try clear bk); clear bn; clear bl; clear bf; clear HB; have be := n0_; have bn := n3_; have bl := n4_; have bf := n5_; have HB := n6_; clear n0_ n3_ n4_ n5_ n6_; (try clear hb); (try clear hb2); (try clear hk); (try clear hi)))
   go_ret
   exact ⟨by first | rfl | (simp [errW_none, errW_some] <;> rfl) | (simp [*, errW_none, errW_some] <;> rfl), by repeat (first | (with_reducible first | exact HB.out | apply below_alloc | apply pw_below_drewN | apply below_drew1 | refine below_set ?_ bN.out | refine below_set ?_ b8.out | refine below_set ?_ de.out) | exact HB.out)⟩
  rw [if_pos gj] at H
  have m3 : (bp == 6) = true := beq_iff_eq.mpr gj
  have m2 : (bp != 6) = false := bne_eq_false_iff_eq.mpr gj
  clear gj
  by_cases jm : 0 ≤ ba
  case neg =>
   rw [if_neg jm] at H
   exact absurd H (by simp)
  rw [if_pos jm] at H
  have ba1 : decide (0 ≤ ba) = true := decide_eq_true jm
  clear jm
  by_cases jl : ba < (bb.length : Int)
  case neg =>
   rw [if_neg jl] at H
   exact absurd H (by simp)
  rw [if_pos jl] at H
  have ba0 : decide (ba < (bb.length : Int)) = true := decide_eq_true jl
  clear jl
  by_cases jk : bb.length < 1759218604441
  case neg =>
   rw [if_neg jk] at H
   exact absurd H (by simp)
  rw [if_pos jk] at H
  have oa := Aside0.mk jk
  clear jk
  obtain ⟨du, dY⟩ : ∃ y_ : List (S37), y_ = (bb ++ [(⟨(rd_T37 bb ba).f0, (rd_T37 bb ba).f1, (rd_T37 bb ba).f2, (rd_T37 bb ba).f3, (rd_T37 bb ba).f4, (rd_T37 bb ba).f5, (rd_T37 bb ba).f6⟩ : S37)]) := ⟨_, rfl⟩
  replace H : ((ledger_Right.f kj8 bg bd bm).bind fun bY => (if bY = true then ((ledger_Right.f kj8 bg bd du).bind fun bP => (some (!bP))) else (none))) = some r := by first | (rw [dY]; with_reducible exact H) | (have H2_ := (Option.bind_some _ _).symm.trans H; rw [dY]; with_reducible exact H2_) | (have H2_ := (Option.bind_some _ _).symm.trans H; with_reducible exact H2_) | with_reducible exact H | (rw [dY]; exact H) | exact H
  have qK := Aside0.mk dY
  clear dY
  replace H := Option.bind_eq_some_iff.mp H
  obtain ⟨bY, jT, H⟩ := H
  replace H : (if bY = true then ((ledger_Right.f kj8 bg bd du).bind fun bP => (some (!bP))) else (none)) = some r := H
  have bab := Aside0.mk jT
  clear jT
  by_cases jj : bY = true
  case neg =>
   replace jj := Bool.eq_false_iff.mpr jj
   subst jj
   have H1 : (none) = some r := by rw [if_neg (show ¬ (false = true) by decide)] at H; exact H
   clear H
   have H := H1
   clear H1
   exact absurd H (by simp)
  subst jj
  have H1 : ((ledger_Right.f kj8 bg bd du).bind fun bP => (some (!bP))) = some r := by rw [if_pos rfl] at H; exact H
  clear H
  have H := H1
  clear H1
  replace H := Option.bind_eq_some_iff.mp H
  obtain ⟨bP, jS, H⟩ := H
  replace H : (some (!bP)) = some r := H
  have baa := Aside0.mk jS
  clear jS
  obtain rfl := Option.some.inj H
  try go_wp2
  replace be := Aside0.mk (Kd.V_drew be.out)
  replace bo := Aside0.mk (Kd.N_drew bo.out)
  replace bk := Aside0.mk (Kd.N_drew bk.out)
  replace bn := Aside0.mk (blk_drew bn.out)
  replace bl := Aside0.mk (blk_drew bl.out)
  replace bf := Aside0.mk (blk_drew bf.out)
  replace HB := Aside0.mk (below_drew1 HB.out)
  have hs : 0 ≤ (ba : Int) := of_decide_eq_true zx33_6
  have hl : ba < (bb.length : Int) := of_decide_eq_true zx33_6
  obtain ⟨bH, gY, gT, z4, gv, gu, gt, dJ, gs, gr, gq, gx, gA⟩ := at_T37 (Kd.N_reads' bk.out).2.2 ba hs hl
  cases z4
  obtain ⟨bat, mT, mW, gP⟩ := Kd.N_get bk.out z37 ba hs (by first | exact hl | exact of_decide_eq_true zx33_6 | (have e_ := (Kd.N_reads' bk.out).1; omega))
  obtain ⟨sj, sd, rfl, dF, dQ⟩ := k37_openF mW
  have dw := gP 3 _ rfl
  rw [add_field _ _ 3 (by omega)] at dw
  replace dw := Option.some.inj (dw.symm.trans dJ)
  injection dw with hva_ hvn_ hvc_
  rw [hva_] at dQ
  rw [hvc_] at dF
  have bJ := Aside0.mk (show Kd.V (Kd.int .u64) 24 _ w.heap.size _ _ ((rd_T37 bb ba).f3) from Kd.V_mk dF dQ)
  clear hva_ hvn_ hvc_ dQ dF
  clear gP mT
  have js := Aside0.mk gA
  have zh := Aside0.mk gx
  clear gA gx
  replace hs := eq_true hs
  replace hl := eq_true hl
  refine start_ (n := 11) (S := fun w' => w'.cell? ⟨bc, 0, none⟩ = some (.int .u64 bg) ∧ w'.cell? ⟨bc, 1, none⟩ = some (.int .u64 bd) ∧ w'.cell? ⟨bc, 2, none⟩ = some (.slice (some bH) bb.length bq) ∧ w'.cell? (bH.add ((ba).toNat * 7)) = some (.string ((rd_T37 bb ba).f0)) ∧ w'.cell? ⟨(bH.add ((ba).toNat * 7)).block, (bH.add ((ba).toNat * 7)).off + 1, none⟩ = some (.int .u64 ((rd_T37 bb ba).f1)) ∧ w'.cell? ⟨(bH.add ((ba).toNat * 7)).block, (bH.add ((ba).toNat * 7)).off + 2, none⟩ = some (.int .u64 ((rd_T37 bb ba).f2)) ∧ w'.cell? ⟨(bH.add ((ba).toNat * 7)).block, (bH.add ((ba).toNat * 7)).off + 3, none⟩ = some (.slice gY ((rd_T37 bb ba).f3).length gT) ∧ w'.cell? ⟨(bH.add ((ba).toNat * 7)).block, (bH.add ((ba).toNat * 7)).off + 4, none⟩ = some (.int .u64 ((rd_T37 bb ba).f4)) ∧ w'.cell? ⟨(bH.add ((ba).toNat * 7)).block, (bH.add ((ba).toNat * 7)).off + 5, none⟩ = some (.int .u64 ((rd_T37 bb ba).f5)) ∧ w'.cell? ⟨(bH.add ((ba).toNat * 7)).block, (bH.add ((ba).toNat * 7)).off + 6, none⟩ = some (.int .u64 ((rd_T37 bb ba).f6))) (ds := [8, 10]) #[Ff,Ff,Ff,Ff,Ff,Ff,Ff,Ff,Ff,Ff,Ff] (by kernel_rfl) rfl rfl ⟨(blk_cell bf.out 0).trans rfl, (blk_cell bf.out 1).trans rfl, (blk_cell bf.out 2).trans rfl, gv, gu, gt, dJ, gs, gr, gq⟩ (fun hHeld => ?_); refine with_tabW postroomlaw10_LedgerRight.tab26 postroomlaw10_LedgerRight.bits26 (fun HT_ HW_ => ?_)
  generalize w51.drew = baQ at be bo bk bn bl bf HB bJ js gv gu gt dJ gs gr gq hHeld ⊢
  refine pp_ 0 (some 107) HT_.out ?_
  refine pp_ 2 (some 109) HT_.out ?_
  refine pp_ 4 (some 111) HT_.out ?_
  refine take_ (i := 1) (N := some 108) (v := ?_) (a' := ?_) #[Tt,Tt,Tt,Ff,Tt,Ff,Ff,Ff,Ff,Ff,Ff] rfl rfl (take_ofW HT_.out HW_.out (by kernel_rfl)) (fun _ _ _ h => h) (Or.inl ⟨by rfl, ?_⟩) hHeld ?_ ?_
  rotate_left
  ·rintro w' ⟨s0, s1, s2, s3, s4, s5, s6, s7, s8, s9⟩
   go_simp
   with_reducible rfl
  rotate_left
  ·simp only [Act.put, List.setIfInBounds_toArray, List.set_cons_zero, List.set_cons_succ, i64_w, i32_w]
   rfl
  refine take_ (i := 3) (N := some 110) (v := ?_) (a' := ?_) #[Tt,Tt,Tt,Tt,Tt,Ff,Ff,Ff,Ff,Ff,Ff] rfl rfl (take_ofW HT_.out HW_.out (by kernel_rfl)) (fun _ _ _ h => h) (Or.inl ⟨by rfl, ?_⟩) hHeld ?_ ?_
  rotate_left
  ·rintro w' ⟨s0, s1, s2, s3, s4, s5, s6, s7, s8, s9⟩
   go_simp
   with_reducible rfl
  rotate_left
  ·simp only [Act.put, List.setIfInBounds_toArray, List.set_cons_zero, List.set_cons_succ, i64_w, i32_w]
   rfl
  refine pp_ 5 (some 112) HT_.out ?_
  refine take_ (i := 6) (N := some 113) (v := ?_) (a' := ?_) #[Tt,Tt,Tt,Tt,Tt,Tt,Tt,Ff,Ff,Ff,Ff] rfl rfl (take_ofW HT_.out HW_.out (by kernel_rfl)) (fun _ _ _ h => h) (Or.inl ⟨by rfl, ?_⟩) hHeld ?_ ?_
  rotate_left
  ·rintro w' ⟨s0, s1, s2, s3, s4, s5, s6, s7, s8, s9⟩
   go_simp
   with_reducible rfl
  rotate_left
  ·simp only [Act.put, List.setIfInBounds_toArray, List.set_cons_zero, List.set_cons_succ, i64_w, i32_w]
   rfl
  refine one_ (i := 7) (N := some 114) #[Tt,Tt,Tt,Tt,Tt,Tt,Tt,Tt,Ff,Ff,Ff] rfl rfl (one_of HT_.out (by kernel_rfl)) (by decide) (fun K hK => ?_)
  refine value_ (w1 := ?_) (v := ?_) (by rfl) rfl ?_ ?_
  rotate_left 2
  ·go_simp
   constructor
   ·rfl
   ·rfl
  refine hK.out _ _ ⟨(blk_cell (blk_alloc bf.out _) 0).trans rfl, (blk_cell (blk_alloc bf.out _) 1).trans rfl, (blk_cell (blk_alloc bf.out _) 2).trans rfl, (World.cell?_alloc_lt _ _ _ (World.block_lt_of_cell? _ _ (hHeld.2.2.2.1))).trans (hHeld.2.2.2.1), (World.cell?_alloc_lt _ _ _ (World.block_lt_of_cell? _ _ (hHeld.2.2.2.2.1))).trans (hHeld.2.2.2.2.1), (World.cell?_alloc_lt _ _ _ (World.block_lt_of_cell? _ _ (hHeld.2.2.2.2.2.1))).trans (hHeld.2.2.2.2.2.1), (World.cell?_alloc_lt _ _ _ (World.block_lt_of_cell? _ _ (hHeld.2.2.2.2.2.2.1))).trans (hHeld.2.2.2.2.2.2.1), (World.cell?_alloc_lt _ _ _ (World.block_lt_of_cell? _ _ (hHeld.2.2.2.2.2.2.2.1))).trans (hHeld.2.2.2.2.2.2.2.1), (World.cell?_alloc_lt _ _ _ (World.block_lt_of_cell? _ _ (hHeld.2.2.2.2.2.2.2.2.1))).trans (hHeld.2.2.2.2.2.2.2.2.1), (World.cell?_alloc_lt _ _ _ (World.block_lt_of_cell? _ _ (hHeld.2.2.2.2.2.2.2.2.2))).trans (hHeld.2.2.2.2.2.2.2.2.2)⟩ (fun hHeld => ?_)
  clear hK K
  refine na_ 114 ?_
  refine last_ (i := 8) (N := some 115) #[Tt,Tt,Tt,Tt,Tt,Tt,Tt,Tt,Tt,Ff,Ff] rfl rfl (one_of HT_.out (by kernel_rfl)) (by decide) (fun K hK => ?_)
  refine Kd.N_append_step k37 (w0 := w) w.heap.size (by rfl) (.tmp 108) (.tmp 114) 25 37 (.agg #[(.string ⟨#[]⟩), (.int .u64 0), (.int .u64 0), (.slice none 0 0), (.int .u64 0), (.int .u64 0), (.int .u64 0)]) 80 rfl Tryd.underlying25 info37 rfl (by decide) (by omega) (.slice (some bH) bb.length bq) bb (⟨(rd_T37 bb ba).f0, (rd_T37 bb ba).f1, (rd_T37 bb ba).f2, (rd_T37 bb ba).f3, (rd_T37 bb ba).f4, (rd_T37 bb ba).f5, (rd_T37 bb ba).f6⟩ : S37) [.string ((rd_T37 bb ba).f0), .int .u64 ((rd_T37 bb ba).f1), .int .u64 ((rd_T37 bb ba).f2), .slice gY ((rd_T37 bb ba).f3).length gT, .int .u64 ((rd_T37 bb ba).f4), .int .u64 ((rd_T37 bb ba).f5), .int .u64 ((rd_T37 bb ba).f6)] (fun k_ => k_ ≠ bi ∧ k_ ≠ bj ∧ k_ ≠ bc) (fun k_ => ((fun k_ => k_ ≠ bi ∧ k_ ≠ bj ∧ k_ ≠ bc)) k_ ∧ some k_ ≠ (.slice (some bH) bb.length bq : Value).ownBlock) rfl rfl ?aP (fun _ hk => hk) ?aF ?aO ?aB ?aS ?aL ?_
  (case aP => exact (k37_mkF _ _ (⟨(rd_T37 bb ba).f0, (rd_T37 bb ba).f1, (rd_T37 bb ba).f2, (rd_T37 bb ba).f3, (rd_T37 bb ba).f4, (rd_T37 bb ba).f5, (rd_T37 bb ba).f6⟩ : S37) (Kd.V_reads' (Kd.V_mono (ok' := (fun k_ => ((fun k_ => k_ ≠ bi ∧ k_ ≠ bj ∧ k_ ≠ bc)) k_ ∧ some k_ ≠ (.slice (some bH) bb.length bq : Value).ownBlock)) (bJ.out) (fun k_ hk => ⟨⟨hk.1.1, ⟨hk.1.2.1, hk.1.2.2⟩⟩, hk.2⟩))).2.1 (Kd.V_F (Kd.V_mono (ok' := (fun k_ => ((fun k_ => k_ ≠ bi ∧ k_ ≠ bj ∧ k_ ≠ bc)) k_ ∧ some k_ ≠ (.slice (some bH) bb.length bq : Value).ownBlock)) (bJ.out) (fun k_ hk => ⟨⟨hk.1.1, ⟨hk.1.2.1, hk.1.2.2⟩⟩, hk.2⟩)))))
  (case aB => exact zx33_0)
  (case aF => exact (fun k_ hk => ⟨Kd.freshB (g := bi) (o := .cells #[.int .u64 bz, .int .u64 bA, .slice bC br.length bB] 27 (0, 0)) zx33_1 k_ hk, Kd.freshB (g := bj) (o := .cells #[.int .u64 bg, .int .u64 bd, .slice bw bm.length bu] 27 (0, 0)) zx33_2 k_ hk, Kd.freshB (g := bc) (o := .cells #[.int .u64 bg, .int .u64 bd, .slice (some bH) bb.length bq] 27 (0, 0)) zx33_3 k_ hk⟩))
  (case aO => exact zx33_7)
  (case aS => exact (below_size zx33_0))
  (case aL => have := oa.out; omega)
  intro baV zk ho hb hg hat
  rw [← qK.out] at ho
  have n0_ := Aside0.mk (Kd.V_afterv (ok := (fun k_ => some k_ ≠ (.slice bw bm.length bu : Value).ownBlock ∧ k_ ≠ bi ∧ k_ ≠ bj ∧ k_ ≠ bc)) zx33_16 hg hat)
  have n1_ := Aside0.mk (blk_grown (g := bi) (o := .cells #[.int .u64 bz, .int .u64 bA, .slice bC br.length bB] 27 (0, 0)) zx33_1 hg (Kd.N_ne bk.out bn.out (by decide)))
  have n2_ := Aside0.mk (Kd.N_afterv (ok := (fun k_ => k_ ≠ bi ∧ k_ ≠ bj ∧ k_ ≠ bc)) zx33_19 hg hat)
  have n3_ := Aside0.mk (blk_grown (g := bj) (o := .cells #[.int .u64 bg, .int .u64 bd, .slice bw bm.length bu] 27 (0, 0)) zx33_2 hg (Kd.N_ne bk.out bl.out (by decide)))
  have n4_ := Aside0.mk (blk_grown (g := bc) (o := .cells #[.int .u64 bg, .int .u64 bd, .slice (some bH) bb.length bq] 27 (0, 0)) zx33_3 hg (Kd.N_ne bk.out bf.out (by decide)))
  have n5_ := Aside0.mk (Kd.V_afterv (ok := (fun k_ => k_ ≠ bi ∧ k_ ≠ bj ∧ k_ ≠ bc)) (by (with_reducible repeat (first | apply Kd.V_alloc | apply Kd.V_drewN | apply Kd.V_drew)); exact bJ.out) hg hat)
  have n6_ := Aside0.mk (hb)
  have n7_ := Aside0.mk (ho)
  clear be
  clear bn
  (try clear bo)
  clear bl
  clear bf
  clear bJ
  clear HB
  (try clear bk)
  have be := n0_
  have bn := n1_
  have bo := n2_
  have bl := n3_
  have bf := n4_
  have bJ := n5_
  have HB := n6_
  have dD := n7_
  clear n0_ n1_ n2_ n3_ n4_ n5_ n6_ n7_
  clear ho hb hg hat
  obtain ⟨dt, dq, jG⟩ := Kd.N_slice dD.out
  (first | subst jG | (injection jG with f1_ f2_ f3_; have f4_ := f1_.symm; have f5_ := f3_.symm; clear f1_ f2_ f3_; subst f4_; subst f5_))
  refine hK.out _ _ ?_
  clear hK K
  refine na_ 115 ?_
  refine pp_ 9 (some 116) HT_.out ?_
  refine last_ (i := 10) (N := none) #[Tt,Tt,Tt,Tt,Tt,Tt,Tt,Tt,Tt,Tt,Tt] rfl rfl (one_of HT_.out (by kernel_rfl)) (by decide) (fun K hK => ?_)
  have bai : zk.cell? ⟨bc, 2, none⟩ = some (.slice (some bH) bb.length bq) := (blk_cell bf.out 2).trans rfl
  have zG := blk_frozen bf.out 2
  have og := da.out
  have oe := b9.out
  have oi := dB.out
  have oh := dA.out
  refine skip_ (w1 := ?_) (by rfl) rfl ?_ ?_
  rotate_left
  ·go_simp
   rfl
  refine hK.out _ _ ?_
  clear hK K
  refine done_ (done_of HT_.out (by kernel_rfl)) ?_
  obtain ⟨o1, o0, oZ, ow, ov, ou⟩ := cx33_bc3 bl.out
  try go_wp2_with (first | ((with_reducible refine gate_callee (f := 24) rfl ?_); refine goesL_ (some 118) rfl rfl Tryd.func24 (by kernel_rfl) rfl #[.agg #[.int .u64 bg, .int .u64 bd, .slice bw bm.length bu]] rfl zx33_4 ?_; (with_reducible refine (ledger_Right.calls kj8 bg bd _ _ bm true _ ?side1 ?side2 bab.out).mono ?_); (case side1 => refine (Kd.N_reads' (e := 37) (base := w.heap.size) (ok := fun k_ => ((k_ ≠ bi ∧ (k_ ≠ bj ∧ k_ ≠ bc)) ∧ some k_ ≠ (.slice dt du.length dq : Value).ownBlock)) (n := bm.length) (c := bu) ?_).2.2; exact zx33_27); (case side2 => exact (Kd.N_reads' bo.out).2.1); rintro e j3 ⟨rfl, hb⟩; refine ⟨_, rfl, ?_⟩; replace be := Aside0.mk (Kd.V_below (by (with_reducible repeat (first | apply Kd.V_alloc | apply Kd.V_drewN | apply Kd.V_drew)); exact (Kd.V_mono (Kd.V_far (p := ⟨bc, 2, none⟩) (Kd.V_mono be.out (fun k_ hk => (⟨hk, hk.1.2.2.2⟩ : _ ∧ k_ ≠ bc))) (fun _ hk => hk.2) (.slice dt du.length dq)) (fun _ h_ => h_.1))) hb); replace bo := Aside0.mk (Kd.N_below zx33_27 hb); replace bJ := Aside0.mk (Kd.V_below (by (with_reducible repeat (first | apply Kd.V_alloc | apply Kd.V_drewN | apply Kd.V_drew)); exact (Kd.V_mono (Kd.V_far (p := ⟨bc, 2, none⟩) (Kd.V_mono bJ.out (fun k_ hk => (⟨hk, hk.1.2.2⟩ : _ ∧ k_ ≠ bc))) (fun _ hk => hk.2) (.slice dt du.length dq)) (fun _ h_ => h_.1))) hb); replace dD := Aside0.mk (Kd.N_below (by (with_reducible repeat (first | apply Kd.N_alloc | apply Kd.N_drewN | apply Kd.N_drew)); exact (Kd.N_mono (Kd.N_far (p := ⟨bc, 2, none⟩) (Kd.N_mono dD.out (fun k_ hk => (⟨hk, hk.2.2⟩ : _ ∧ k_ ≠ bc))) (fun _ hk => hk.2) (.slice dt du.length dq)) (fun _ h_ => h_.1))) hb); replace bn := Aside0.mk (blk_below (g := bi) (o := .cells #[.int .u64 bz, .int .u64 bA, .slice bC br.length bB] 27 (0, 0)) zx33_13 hb); replace bl := Aside0.mk (blk_below (g := bj) (o := .cells #[.int .u64 bg, .int .u64 bd, .slice bw bm.length bu] 27 (0, 0)) zx33_14 hb); replace bf := Aside0.mk (blk_below (g := bc) (o := .cells #[.int .u64 bg, .int .u64 bd, .slice dt du.length dq] 27 (0, 0)) (by (with_reducible repeat (first | refine blk_drewN ?_ _ | refine blk_drew ?_ | refine blk_alloc ?_ _)); refine blk_put (cs := #[.int .u64 bg, .int .u64 bd, .slice (some bH) bb.length bq]) ?_ 2 _ rfl; (with_reducible repeat (first | refine blk_drewN ?_ _ | refine blk_drew ?_ | refine blk_alloc ?_ _)); exact bf.out) hb); replace HB := Aside0.mk (below_step zx33_0 hb); (try clear hb); (try clear hb2); (try clear hk); (try clear hi); have oY : j3.cell? ⟨bc, 0, none⟩ = some (.int .u64 bg) := (blk_cell bf.out 0).trans rfl; have oX : j3.cell? ⟨bc, 1, none⟩ = some (.int .u64 bd) := (blk_cell bf.out 1).trans rfl; have oW : j3.cell? ⟨bc, 2, none⟩ = some (.slice dt du.length dq) := (blk_cell bf.out 2).trans rfl; have ot := blk_frozen bf.out 0; have os := blk_frozen bf.out 1; have oq := blk_frozen bf.out 2) | (go_at_call 24; (with_reducible refine (ledger_Right.calls kj8 bg bd _ _ du bP _ ?side1 ?side2 baa.out).mono ?_); (case side1 => repeat (first | exact (Kd.N_reads' dD.out).2.2 | (with_reducible refine Kd.C_alloc ?_ _) | (with_reducible refine Kd.C_drewN ?_ _) | (with_reducible refine Kd.C_drew ?_))); (case side2 => exact (Kd.N_reads' dD.out).2.1); rintro e baP ⟨rfl, hb⟩; have n0_ := Aside0.mk (Kd.V_below zx33_5 hb); have n1_ := Aside0.mk (Kd.N_below zx33_9 hb); have n2_ := Aside0.mk (Kd.V_below (by (with_reducible repeat (first | apply Kd.V_alloc | apply Kd.V_drewN | apply Kd.V_drew)); exact bJ.out) hb); have n4_ := Aside0.mk (blk_below (g := bi) (o := .cells #[.int .u64 bz, .int .u64 bA, .slice bC br.length bB] 27 (0, 0)) zx33_1 hb); have n5_ := Aside0.mk (blk_below (g := bj) (o := .cells #[.int .u64 bg, .int .u64 bd, .slice bw bm.length bu] 27 (0, 0)) zx33_2 hb); have n6_ := Aside0.mk (blk_below (g := bc) (o := .cells #[.int .u64 bg, .int .u64 bd, .slice dt du.length dq] 27 (0, 0)) zx33_3 hb); have n7_ := Aside0.mk (below_step zx33_0 hb); clear be; (try clear bo); clear bJ; (try clear dD); clear bn; clear bl; clear bf; clear HB; have be := n0_; have bo := n1_; have bJ := n2_; have bn := n4_; have bl := n5_; have bf := n6_; have HB := n7_; clear n0_ n1_ n2_ n4_ n5_ n6_ n7_; (try clear hb); (try clear hb2); (try clear hk); (try clear hi)))
  go_ret
  exact ⟨by first | rfl | (simp [errW_none, errW_some] <;> rfl) | (simp [*, errW_none, errW_some] <;> rfl), by repeat (first | (with_reducible first | exact HB.out | apply below_alloc | apply pw_below_drewN | apply below_drew1 | refine below_set ?_ bN.out | refine below_set ?_ b8.out | refine below_set ?_ de.out) | exact HB.out)⟩
/-- THE ONE PURE STATEMENT of postroomlaw10_LedgerRight. -/
def postroomlaw10_LedgerRight.Pure : Prop := ∀ (l0 : List (S43)) (a1 : Int) (a2 : Int), l0.length ≤ maxLen → l0.length * 32 ≤ 140737488351232 → (∀ x ∈ l0, ((Lit.int .i64 x.f0).wf = true ∧ (Lit.int .i64 x.f1).wf = true ∧ (Lit.int .i64 x.f2).wf = true ∧ (Lit.int .i64 x.f3).wf = true)) → (Lit.int .i64 a1).wf = true → (Lit.int .i64 a2).wf = true → ∃ k, postroomlaw10_LedgerRight.f k l0 a1 a2 = some true
theorem postroomlaw10_LedgerRight.walk (P : postroomlaw10_LedgerRight.Pure) (A0 : Option Addr) (c0 : Nat) (l0 : List (S43)) (a1 : Int) (a2 : Int) (w : World) (hr0 : Kd.C k43 w A0 l0.length l0) (hc0 : l0.length ≤ c0) (hm0 : l0.length ≤ maxLen) (hy0 : l0.length * 32 ≤ 140737488351232) (hw0 : (∀ x ∈ l0, ((Lit.int .i64 x.f0).wf = true ∧ (Lit.int .i64 x.f1).wf = true ∧ (Lit.int .i64 x.f2).wf = true ∧ (Lit.int .i64 x.f3).wf = true))) (hw1 : (Lit.int .i64 a1).wf = true) (hw2 : (Lit.int .i64 a2).wf = true) :
  Calls Tryd.prog 8 #[.slice A0 l0.length c0, .int .i64 a1, .int .i64 a2] w fun e w' => e = .returned (.bool true) ∧ Below w.heap.size w w' := by
 obtain ⟨k, h⟩ := P l0 a1 a2 hm0 hy0 hw0 hw1 hw2
 refine (postroomlaw10_LedgerRight.calls k A0 c0 l0 a1 a2 true w hr0 hc0 h).mono ?_
 rintro e w' ⟨rfl, hd⟩
 exact ⟨rfl, hd⟩

end Go.Proofs.YthhmpjapnkilcaaDoor.XLdg
