/- What the functions of the translation answer, each as a plain Lean function, and that the code comes to it; for a law: its row. Conditions: none but those that each theorem names. Written by a program of this session (wip/xp). -/
import Derived.Test.YtmbigoeldobaiaaDoorXMrkP1
import Derived.Test.YtmbigoeldobaiaaDoorXMrkP4
import Derived.Test.YtmbigoeldobaiaaDoorXMrkx12
import Derived.Test.YtmbigoeldobaiaaDoorXMrkx14
import Derived.Test.YtmbigoeldobaiaaDoorXMrkP2
import Derived.Test.YtmbigoeldobaiaaDoorXMrkx22
import Derived.Test.YtmbigoeldobaiaaDoorGMonoL
namespace Go.Proofs.YtmbigoeldobaiaaDoor.XMrk
open Go.RowKit Go.Proofs.YtmbigoeldobaiaaDoorW.PrintWords Go.Proofs.YtmbigoeldobaiaaDoorW.PrintLast Go.Proofs.YtmbigoeldobaiaaDoorW.PrintMore
attribute [local go_sem] max2_int min2_int max_two min_two max_three min_three max_four min_four   -- for this text's walks alone
theorem zx25_36 {p : Prop} (h : p := by simp only [putAll, Act.put, List.setIfInBounds_toArray, List.set_cons_zero, List.set_cons_succ]) : p := h
theorem zx25_6 {p : Prop} (h : p := by (with_reducible repeat (first | apply Kd.R_alloc | apply Kd.R_drewN | apply Kd.R_drew)); exact bQ.out) : p := h
theorem zx25_9 {p : Prop} (h : p := by (with_reducible repeat (first | apply Kd.N_alloc | apply Kd.N_drewN | apply Kd.N_drew)); exact bP.out) : p := h
theorem zx25_10 {p : Prop} (h : p := by (with_reducible repeat (first | apply Kd.N_alloc | apply Kd.N_drewN | apply Kd.N_drew)); exact bD.out) : p := h
theorem zx25_11 {p : Prop} (h : p := by (with_reducible repeat (first | apply Kd.N_alloc | apply Kd.N_drewN | apply Kd.N_drew)); exact b3.out) : p := h
theorem zx25_12 {p : Prop} (h : p := by (with_reducible repeat (first | apply Kd.V_alloc | apply Kd.V_drewN | apply Kd.V_drew)); exact bA.out) : p := h
theorem zx25_14 {p : Prop} (h : p := by (with_reducible repeat (first | apply Kd.V_alloc | apply Kd.V_drewN | apply Kd.V_drew)); exact bR.out) : p := h
theorem zx25_17 {p : Prop} (h : p := by (with_reducible repeat (first | apply Kd.V_alloc | apply Kd.V_drewN | apply Kd.V_drew)); exact db.out) : p := h
theorem zx25_19 {p : Prop} (h : p := by (with_reducible repeat (first | apply Kd.V_alloc | apply Kd.V_drewN | apply Kd.V_drew)); exact dr.out) : p := h
theorem zx25_20 {p : Prop} (h : p := by (with_reducible repeat (first | apply Kd.V_alloc | apply Kd.V_drewN | apply Kd.V_drew)); exact dO.out) : p := h
theorem zx25_23 {p : Prop} (h : p := by (with_reducible repeat (first | apply Kd.N_alloc | apply Kd.N_drewN | apply Kd.N_drew)); exact dU.out) : p := h
theorem zx25_30 {p : Prop} (h : p := by (with_reducible repeat (first | apply Kd.N_alloc | apply Kd.N_drewN | apply Kd.N_drew)); exact dY.out) : p := h
theorem zx25_0 {p : Prop} (h : p := by (with_reducible repeat (first | refine blk_drewN ?_ _ | refine blk_drew ?_ | refine blk_alloc ?_ _)); exact bg.out) : p := h
theorem zx25_1 {p : Prop} (h : p := by (with_reducible repeat (first | refine blk_drewN ?_ _ | refine blk_drew ?_ | refine blk_alloc ?_ _)); exact bl.out) : p := h
theorem zx25_2 {p : Prop} (h : p := by (with_reducible repeat (first | refine blk_drewN ?_ _ | refine blk_drew ?_ | refine blk_alloc ?_ _)); exact bx.out) : p := h
theorem zx25_4 {p : Prop} (h : p := by (with_reducible repeat (first | refine blk_drewN ?_ _ | refine blk_drew ?_ | refine blk_alloc ?_ _)); exact bE.out) : p := h
theorem zx25_7 {p : Prop} (h : p := by (with_reducible repeat (first | refine blk_drewN ?_ _ | refine blk_drew ?_ | refine blk_alloc ?_ _)); exact bN.out) : p := h
theorem zx25_16 {p : Prop} (h : p := by (with_reducible repeat (first | refine blk_drewN ?_ _ | refine blk_drew ?_ | refine blk_alloc ?_ _)); exact dc.out) : p := h
theorem zx25_22 {p : Prop} (h : p := by repeat (first | (with_reducible first | exact HB.out | apply below_alloc | apply pw_below_drewN | apply below_drew1) | exact HB.out)) : p := h
theorem zx25_8 {p : Prop} (h : p := by (try simp only [List.map_toArray, List.map_cons, List.map_nil]); first | done | rfl | (simp only [List.length_drop, List.length_take]; rfl)) : p := h
theorem zx25_21 {p : Prop} (h : p := by repeat (first | (with_reducible first | exact HB.out | apply below_alloc | apply pw_below_drewN | apply below_drew1 | refine below_set ?_ dT.out) | exact HB.out)) : p := h
theorem zx25_15 {p : Prop} (h : p := by repeat (first | (with_reducible first | exact HB.out | apply below_alloc | apply pw_below_drewN | apply below_drew1 | refine below_set ?_ dT.out | refine below_set ?_ dW.out) | exact HB.out)) : p := h
theorem zx25_37 {p : Prop} (h : p := by (with_reducible repeat (first | apply Kd.N_alloc | apply Kd.N_drewN | apply Kd.N_drew)); exact Kd.N_mono b3.out (fun _ hk => ⟨hk.1.1, ⟨hk.1.2.1, ⟨hk.1.2.2.1, ⟨hk.1.2.2.2.1, ⟨hk.1.2.2.2.2.1, ⟨hk.1.2.2.2.2.2, hk.2⟩⟩⟩⟩⟩⟩)) : p := h
theorem zx25_38 {p : Prop} (h : p := by (with_reducible repeat (first | apply Kd.V_alloc | apply Kd.V_drewN | apply Kd.V_drew)); exact Kd.V_mono db.out (fun _ hk => ⟨hk.1.1, ⟨hk.1.2.1, ⟨hk.1.2.2.1, ⟨hk.1.2.2.2.1, ⟨hk.1.2.2.2.2.1, ⟨hk.1.2.2.2.2.2, hk.2⟩⟩⟩⟩⟩⟩)) : p := h
theorem zx25_18 {p : Prop} (h : p := by repeat (first | (with_reducible first | exact HB.out | apply below_alloc | apply pw_below_drewN | apply below_drew1 | refine below_set ?_ dT.out | refine below_set ?_ dW.out | refine below_set ?_ dZ.out) | exact HB.out)) : p := h
theorem zx25_31 {p : Prop} (h : p := by (with_reducible repeat (first | apply Kd.N_alloc | apply Kd.N_drewN | apply Kd.N_drew)); exact Kd.N_mono bD.out (fun _ hk => ⟨hk.1.1, ⟨hk.1.2.1, ⟨hk.1.2.2.1, ⟨hk.1.2.2.2.1, ⟨hk.1.2.2.2.2.1, ⟨hk.1.2.2.2.2.2.1, ⟨hk.1.2.2.2.2.2.2, hk.2⟩⟩⟩⟩⟩⟩⟩)) : p := h
theorem zx25_32 {p : Prop} (h : p := by (with_reducible repeat (first | apply Kd.N_alloc | apply Kd.N_drewN | apply Kd.N_drew)); exact Kd.N_mono bP.out (fun _ hk => ⟨hk.1.1, ⟨hk.1.2.1, ⟨hk.1.2.2.1, ⟨hk.1.2.2.2.1, ⟨hk.1.2.2.2.2.1, ⟨hk.1.2.2.2.2.2.1, ⟨hk.1.2.2.2.2.2.2, hk.2⟩⟩⟩⟩⟩⟩⟩)) : p := h
theorem zx25_33 {p : Prop} (h : p := by (with_reducible repeat (first | apply Kd.V_alloc | apply Kd.V_drewN | apply Kd.V_drew)); exact Kd.V_mono bR.out (fun _ hk => ⟨hk.1.1, ⟨hk.1.2.1, ⟨hk.1.2.2.1, ⟨hk.1.2.2.2.1, ⟨hk.1.2.2.2.2.1, ⟨hk.1.2.2.2.2.2.1, ⟨hk.1.2.2.2.2.2.2, hk.2⟩⟩⟩⟩⟩⟩⟩)) : p := h
theorem zx25_34 {p : Prop} (h : p := by (with_reducible repeat (first | apply Kd.N_alloc | apply Kd.N_drewN | apply Kd.N_drew)); exact Kd.N_mono b3.out (fun _ hk => ⟨hk.1.1, ⟨hk.1.2.1, ⟨hk.1.2.2.1, ⟨hk.1.2.2.2.1, ⟨hk.1.2.2.2.2.1, ⟨hk.1.2.2.2.2.2.1, ⟨hk.1.2.2.2.2.2.2, hk.2⟩⟩⟩⟩⟩⟩⟩)) : p := h
theorem zx25_35 {p : Prop} (h : p := by (with_reducible repeat (first | apply Kd.V_alloc | apply Kd.V_drewN | apply Kd.V_drew)); exact Kd.V_mono db.out (fun _ hk => ⟨hk.1.1, ⟨hk.1.2.1, ⟨hk.1.2.2.1, ⟨hk.1.2.2.2.1, ⟨hk.1.2.2.2.2.1, ⟨hk.1.2.2.2.2.2.1, ⟨hk.1.2.2.2.2.2.2, hk.2⟩⟩⟩⟩⟩⟩⟩)) : p := h
theorem zx25_13 {p : Prop} (h : p := by repeat (first | (with_reducible first | exact HB.out | apply below_alloc | apply pw_below_drewN | apply below_drew1 | refine below_set ?_ dT.out | refine below_set ?_ dW.out | refine below_set ?_ dZ.out | refine below_set ?_ d2.out) | exact HB.out)) : p := h
theorem zx25_26 {p : Prop} (h : p := by (with_reducible repeat (first | apply Kd.V_alloc | apply Kd.V_drewN | apply Kd.V_drew)); exact Kd.V_mono bA.out (fun _ hk => ⟨hk.1.1, ⟨hk.1.2.1, ⟨hk.1.2.2.1, ⟨hk.1.2.2.2.1, ⟨hk.1.2.2.2.2.1, ⟨hk.1.2.2.2.2.2.1, ⟨hk.1.2.2.2.2.2.2.1, ⟨hk.1.2.2.2.2.2.2.2, hk.2⟩⟩⟩⟩⟩⟩⟩⟩)) : p := h
theorem zx25_27 {p : Prop} (h : p := by (with_reducible repeat (first | apply Kd.N_alloc | apply Kd.N_drewN | apply Kd.N_drew)); exact Kd.N_mono bD.out (fun _ hk => ⟨hk.1.1, ⟨hk.1.2.1, ⟨hk.1.2.2.1, ⟨hk.1.2.2.2.1, ⟨hk.1.2.2.2.2.1, ⟨hk.1.2.2.2.2.2.1, ⟨hk.1.2.2.2.2.2.2.1, ⟨hk.1.2.2.2.2.2.2.2, hk.2⟩⟩⟩⟩⟩⟩⟩⟩)) : p := h
theorem zx25_28 {p : Prop} (h : p := by (with_reducible repeat (first | apply Kd.N_alloc | apply Kd.N_drewN | apply Kd.N_drew)); exact Kd.N_mono bP.out (fun _ hk => ⟨hk.1.1, ⟨hk.1.2.1, ⟨hk.1.2.2.1, ⟨hk.1.2.2.2.1, ⟨hk.1.2.2.2.2.1, ⟨hk.1.2.2.2.2.2.1, ⟨hk.1.2.2.2.2.2.2.1, ⟨hk.1.2.2.2.2.2.2.2, hk.2⟩⟩⟩⟩⟩⟩⟩⟩)) : p := h
theorem zx25_29 {p : Prop} (h : p := by (with_reducible repeat (first | apply Kd.V_alloc | apply Kd.V_drewN | apply Kd.V_drew)); exact Kd.V_mono bR.out (fun _ hk => ⟨hk.1.1, ⟨hk.1.2.1, ⟨hk.1.2.2.1, ⟨hk.1.2.2.2.1, ⟨hk.1.2.2.2.2.1, ⟨hk.1.2.2.2.2.2.1, ⟨hk.1.2.2.2.2.2.2.1, ⟨hk.1.2.2.2.2.2.2.2, hk.2⟩⟩⟩⟩⟩⟩⟩⟩)) : p := h
theorem zx25_5 {p : Prop} (h : p := by repeat (first | (with_reducible first | exact HB.out | apply below_alloc | apply pw_below_drewN | apply below_drew1 | refine below_set ?_ dT.out | refine below_set ?_ dW.out | refine below_set ?_ dZ.out | refine below_set ?_ d2.out | refine below_set ?_ dS.out) | exact HB.out)) : p := h
theorem zx25_24 {p : Prop} (h : p := by (with_reducible repeat (first | apply Kd.V_alloc | apply Kd.V_drewN | apply Kd.V_drew)); exact Kd.V_mono bA.out (fun _ hk => ⟨hk.1.1, ⟨hk.1.2.1, ⟨hk.1.2.2.1, ⟨hk.1.2.2.2.1, ⟨hk.1.2.2.2.2.1, ⟨hk.1.2.2.2.2.2.1, ⟨hk.1.2.2.2.2.2.2.1, ⟨hk.1.2.2.2.2.2.2.2.1, ⟨hk.1.2.2.2.2.2.2.2.2, hk.2⟩⟩⟩⟩⟩⟩⟩⟩⟩)) : p := h
theorem zx25_25 {p : Prop} (h : p := by (with_reducible repeat (first | apply Kd.V_alloc | apply Kd.V_drewN | apply Kd.V_drew)); exact Kd.V_mono dr.out (fun _ hk => ⟨hk.1.1, ⟨hk.1.2.1, ⟨hk.1.2.2.1, ⟨hk.1.2.2.2.1, ⟨hk.1.2.2.2.2.1, ⟨hk.1.2.2.2.2.2.1, ⟨hk.1.2.2.2.2.2.2.1, ⟨hk.1.2.2.2.2.2.2.2.1, ⟨hk.1.2.2.2.2.2.2.2.2, hk.2⟩⟩⟩⟩⟩⟩⟩⟩⟩)) : p := h
theorem zx25_3 {p : Prop} (h : p := by repeat (first | (with_reducible first | exact HB.out | apply below_alloc | apply pw_below_drewN | apply below_drew1 | refine below_set ?_ dT.out | refine below_set ?_ dW.out | refine below_set ?_ dZ.out | refine below_set ?_ d2.out | refine below_set ?_ dS.out | refine below_set ?_ dV.out) | exact HB.out)) : p := h
theorem zx25_39 {p : Prop} (h : p := by (with_reducible repeat (first | apply Kd.V_alloc | apply Kd.V_drewN | apply Kd.V_drew)); exact (Kd.V_mono (Kd.V_far (p := ⟨bd, 2, none⟩) (Kd.V_far (p := ⟨bd, 1, none⟩) (Kd.V_far (p := ⟨bd, 0, none⟩) (Kd.V_mono bA.out (fun k_ hk => (⟨hk, hk.2⟩ : _ ∧ k_ ≠ bd))) (fun _ hk => hk.2) (.int .u64 bk)) (fun _ hk => hk.2) (.int .u64 bB)) (fun _ hk => hk.2) (.slice bK br.length bJ)) (fun _ h_ => h_.1))) : p := h
set_option linter.unusedVariables false
set_option linter.unusedSimpArgs false

/-! ### postroomlaw11_MarkGoes: function 6 -/
def postroomlaw11_MarkGoes.f (k : Nat) (l0 : List (S75)) (a1 : Int) (a2 : Int) : Option (Bool) := (postroomlaw11_shown.f k).bind fun gg => (if gg = true then (if (l0.length : Int) > 100 then (some gg) else ((postroomlaw11_run.f k l0).bind fun b9 => ((mark_Put.f k b9.1 b9.2.1 b9.2.2).bind fun dR => ((mark_Take.f k dR.1).bind fun b8 => (if dR.2 = 0 then (if b8.2.2.2 = 0 then ((some (([(⟨#[97]⟩ : ByteArray), (⟨#[98]⟩ : ByteArray), (⟨#[99]⟩ : ByteArray), (⟨#[122, 111, 110, 101]⟩ : ByteArray)] : List ByteArray) : List ByteArray)).bind fun bi => ((postroomlaw11_pick.f a1 4).bind fun dh => (if 0 ≤ dh then (if dh < (bi.length : Int) then ((ledger_Add.f b9.1 b9.2.1 b9.2.2).bind fun dq => ((postroomlaw11_pick.f a2 30).bind fun dQ => ((ledger_Done.f k dq.1 dq.2.1 dq.2.2 (rdOf ByteArray.empty bi dh) (IntKind.u64.wrap (dQ)) 97).bind fun bS => ((ledger_Add.f b8.1 b8.2.1 b8.2.2.1).bind fun b7 => ((postroomlaw11_pick.f a2 30).bind fun dP => ((ledger_Done.f k b7.1 b7.2.1 b7.2.2 (rdOf ByteArray.empty bi dh) (IntKind.u64.wrap (dP)) 97).bind fun bC => ((postroomlaw11_pick.f a2 5).bind fun dw => ((ledger_Evict.f k b9.1 b9.2.1 b9.2.2 (IntKind.u64.wrap (b9.1 + (IntKind.u64.wrap (dw))))).bind fun bw => ((postroomlaw11_pick.f a2 5).bind fun du => ((ledger_Evict.f k b8.1 b8.2.1 b8.2.2.1 (IntKind.u64.wrap (b9.1 + (IntKind.u64.wrap (du))))).bind fun bq => (if bS.2.2.2 = bC.2.2.2 then (if bw.2.2.2 = bq.2.2.2 then ((postroomlaw11_asLedger.f k bS.1 bS.2.1 bS.2.2.1).bind fun bz => ((postroomlaw11_asLedger.f k bC.1 bC.2.1 bC.2.2.1).bind fun bu => ((postroomref11_Same.f k bz.1 bz.2.1 bz.2.2 bu.1 bu.2.1 bu.2.2).bind fun dv => (if dv = true then ((postroomlaw11_asLedger.f k bw.1 bw.2.1 bw.2.2.1).bind fun bo => ((postroomlaw11_asLedger.f k bq.1 bq.2.1 bq.2.2.1).bind fun bm => ((postroomref11_Same.f k bo.1 bo.2.1 bo.2.2 bm.1 bm.2.1 bm.2.2).bind fun dt => (some dt)))) else (none))))) else (none)) else (none)))))))))))) else (none)) else (none)))) else (none)) else (none)))))) else (none))
def postroomlaw11_MarkGoes.T12 : Bool × List (List Nat × List Nat) := (true, [([], []), ([], []), ([1], [1]), ([], []), ([3], [3]), ([4], [4]), ([2, 5], [2, 5]), ([0, 6, 4], [0, 6]), ([7], [7]), ([8], [8]), ([8], [8]), ([], []), ([11, 9, 7, 0, 1, 2, 3, 4, 5, 6, 7, 8, 9, 11], [9, 11]), ([10, 12, 0, 1, 2, 3, 4, 5, 6, 7, 8, 9, 10, 11, 12], [10])])
def postroomlaw11_MarkGoes.B12 : List Nat := [0, 0, 2, 0, 8, 24, 62, 127, 255, 511, 511, 0, 3071, 8191]
theorem postroomlaw11_MarkGoes.tab12 : rtab .any (opsOf Tryd.f6 12) = postroomlaw11_MarkGoes.T12 := by kernel_rfl
theorem postroomlaw11_MarkGoes.bits12 : waitsOk postroomlaw11_MarkGoes.T12.2 postroomlaw11_MarkGoes.B12 = true := by kernel_rfl
def postroomlaw11_MarkGoes.T13 : Bool × List (List Nat × List Nat) := (true, [([], []), ([], []), ([1], [1]), ([], []), ([3], [3]), ([4], [4]), ([2, 5], [2, 5]), ([0, 6, 4], [0, 6]), ([7], [7]), ([8], [8]), ([8], [8]), ([], []), ([11, 9, 7, 0, 1, 2, 3, 4, 5, 6, 7, 8, 9, 11], [9, 11]), ([10, 12, 0, 1, 2, 3, 4, 5, 6, 7, 8, 9, 10, 11, 12], [10])])
def postroomlaw11_MarkGoes.B13 : List Nat := [0, 0, 2, 0, 8, 24, 62, 127, 255, 511, 511, 0, 3071, 8191]
theorem postroomlaw11_MarkGoes.tab13 : rtab .any (opsOf Tryd.f6 13) = postroomlaw11_MarkGoes.T13 := by kernel_rfl
theorem postroomlaw11_MarkGoes.bits13 : waitsOk postroomlaw11_MarkGoes.T13.2 postroomlaw11_MarkGoes.B13 = true := by kernel_rfl
def postroomlaw11_MarkGoes.T14 : Bool × List (List Nat × List Nat) := (true, [([], []), ([], []), ([0, 1], [0, 1]), ([2], [2]), ([3], [3]), ([3], [3]), ([4, 5, 3], [3, 4, 5]), ([3, 6], [3, 6]), ([7, 3], [7]), ([8], [8]), ([9, 8, 8], [8, 9]), ([8], [8]), ([11, 10, 8], [8, 11]), ([10, 12, 12, 8], [8, 10, 12]), ([8, 13], [8, 13]), ([14, 13], [14]), ([15], [15]), ([16, 15, 15], [15, 16]), ([15], [15]), ([18, 17, 15], [15, 18]), ([17, 19, 19, 15], [15, 17, 19]), ([15, 20], [15, 20]), ([21, 20, 0, 1, 2, 3, 4, 5, 6, 7, 8, 9, 10, 11, 12, 13, 14, 15, 16, 17, 18, 19, 20, 21], [21])])
def postroomlaw11_MarkGoes.B14 : List Nat := [0, 0, 3, 7, 15, 15, 63, 127, 255, 511, 1023, 511, 4095, 8191, 16383, 32767, 65535, 131071, 65535, 524287, 1048575, 2097151, 4194303]
theorem postroomlaw11_MarkGoes.tab14 : rtab .any (opsOf Tryd.f6 14) = postroomlaw11_MarkGoes.T14 := by kernel_rfl
theorem postroomlaw11_MarkGoes.bits14 : waitsOk postroomlaw11_MarkGoes.T14.2 postroomlaw11_MarkGoes.B14 = true := by kernel_rfl
set_option maxHeartbeats 8000000 in
set_option maxRecDepth 100000 in
theorem postroomlaw11_MarkGoes.calls (k : Nat) (A0 : Option Addr) (c0 : Nat) (l0 : List (S75)) (a1 : Int) (a2 : Int) (r : Bool) (w : World) (hr0 : Kd.C k75 w A0 l0.length l0) (hc0 : l0.length ≤ c0) (h : postroomlaw11_MarkGoes.f k l0 a1 a2 = some r) :
  Calls Tryd.prog 6 #[.slice A0 l0.length c0, .int .i64 a1, .int .i64 a2] w fun e w' => e = .returned (.bool r) ∧ Below w.heap.size w w' := by
 have oA := Tryd.underlying25
 have HR0 := Aside0.mk hr0
 have HC0 := Aside0.mk hc0
 clear hr0 hc0
 have HB := Aside0.mk (Below.refl w.heap.size w)
 have H : ((postroomlaw11_shown.f k).bind fun gg => (if gg = true then (if (l0.length : Int) > 100 then (some gg) else ((postroomlaw11_run.f k l0).bind fun b9 => ((mark_Put.f k b9.1 b9.2.1 b9.2.2).bind fun dR => ((mark_Take.f k dR.1).bind fun b8 => (if dR.2 = 0 then (if b8.2.2.2 = 0 then ((some (([(⟨#[97]⟩ : ByteArray), (⟨#[98]⟩ : ByteArray), (⟨#[99]⟩ : ByteArray), (⟨#[122, 111, 110, 101]⟩ : ByteArray)] : List ByteArray) : List ByteArray)).bind fun bi => ((postroomlaw11_pick.f a1 4).bind fun dh => (if 0 ≤ dh then (if dh < (bi.length : Int) then ((ledger_Add.f b9.1 b9.2.1 b9.2.2).bind fun dq => ((postroomlaw11_pick.f a2 30).bind fun dQ => ((ledger_Done.f k dq.1 dq.2.1 dq.2.2 (rdOf ByteArray.empty bi dh) (IntKind.u64.wrap (dQ)) 97).bind fun bS => ((ledger_Add.f b8.1 b8.2.1 b8.2.2.1).bind fun b7 => ((postroomlaw11_pick.f a2 30).bind fun dP => ((ledger_Done.f k b7.1 b7.2.1 b7.2.2 (rdOf ByteArray.empty bi dh) (IntKind.u64.wrap (dP)) 97).bind fun bC => ((postroomlaw11_pick.f a2 5).bind fun dw => ((ledger_Evict.f k b9.1 b9.2.1 b9.2.2 (IntKind.u64.wrap (b9.1 + (IntKind.u64.wrap (dw))))).bind fun bw => ((postroomlaw11_pick.f a2 5).bind fun du => ((ledger_Evict.f k b8.1 b8.2.1 b8.2.2.1 (IntKind.u64.wrap (b9.1 + (IntKind.u64.wrap (du))))).bind fun bq => (if bS.2.2.2 = bC.2.2.2 then (if bw.2.2.2 = bq.2.2.2 then ((postroomlaw11_asLedger.f k bS.1 bS.2.1 bS.2.2.1).bind fun bz => ((postroomlaw11_asLedger.f k bC.1 bC.2.1 bC.2.2.1).bind fun bu => ((postroomref11_Same.f k bz.1 bz.2.1 bz.2.2 bu.1 bu.2.1 bu.2.2).bind fun dv => (if dv = true then ((postroomlaw11_asLedger.f k bw.1 bw.2.1 bw.2.2.1).bind fun bo => ((postroomlaw11_asLedger.f k bq.1 bq.2.1 bq.2.2.1).bind fun bm => ((postroomref11_Same.f k bo.1 bo.2.1 bo.2.2 bm.1 bm.2.1 bm.2.2).bind fun dt => (some dt)))) else (none))))) else (none)) else (none)))))))))))) else (none)) else (none)))) else (none)) else (none)))))) else (none))) = some r := h
 clear h
 replace H := Option.bind_eq_some_iff.mp H
 obtain ⟨gg, A40, H⟩ := H
 replace H : (if gg = true then (if (l0.length : Int) > 100 then (some gg) else ((postroomlaw11_run.f k l0).bind fun b9 => ((mark_Put.f k b9.1 b9.2.1 b9.2.2).bind fun dR => ((mark_Take.f k dR.1).bind fun b8 => (if dR.2 = 0 then (if b8.2.2.2 = 0 then ((some (([(⟨#[97]⟩ : ByteArray), (⟨#[98]⟩ : ByteArray), (⟨#[99]⟩ : ByteArray), (⟨#[122, 111, 110, 101]⟩ : ByteArray)] : List ByteArray) : List ByteArray)).bind fun bi => ((postroomlaw11_pick.f a1 4).bind fun dh => (if 0 ≤ dh then (if dh < (bi.length : Int) then ((ledger_Add.f b9.1 b9.2.1 b9.2.2).bind fun dq => ((postroomlaw11_pick.f a2 30).bind fun dQ => ((ledger_Done.f k dq.1 dq.2.1 dq.2.2 (rdOf ByteArray.empty bi dh) (IntKind.u64.wrap (dQ)) 97).bind fun bS => ((ledger_Add.f b8.1 b8.2.1 b8.2.2.1).bind fun b7 => ((postroomlaw11_pick.f a2 30).bind fun dP => ((ledger_Done.f k b7.1 b7.2.1 b7.2.2 (rdOf ByteArray.empty bi dh) (IntKind.u64.wrap (dP)) 97).bind fun bC => ((postroomlaw11_pick.f a2 5).bind fun dw => ((ledger_Evict.f k b9.1 b9.2.1 b9.2.2 (IntKind.u64.wrap (b9.1 + (IntKind.u64.wrap (dw))))).bind fun bw => ((postroomlaw11_pick.f a2 5).bind fun du => ((ledger_Evict.f k b8.1 b8.2.1 b8.2.2.1 (IntKind.u64.wrap (b9.1 + (IntKind.u64.wrap (du))))).bind fun bq => (if bS.2.2.2 = bC.2.2.2 then (if bw.2.2.2 = bq.2.2.2 then ((postroomlaw11_asLedger.f k bS.1 bS.2.1 bS.2.2.1).bind fun bz => ((postroomlaw11_asLedger.f k bC.1 bC.2.1 bC.2.2.1).bind fun bu => ((postroomref11_Same.f k bz.1 bz.2.1 bz.2.2 bu.1 bu.2.1 bu.2.2).bind fun dv => (if dv = true then ((postroomlaw11_asLedger.f k bw.1 bw.2.1 bw.2.2.1).bind fun bo => ((postroomlaw11_asLedger.f k bq.1 bq.2.1 bq.2.2.1).bind fun bm => ((postroomref11_Same.f k bo.1 bo.2.1 bo.2.2 bm.1 bm.2.1 bm.2.2).bind fun dt => (some dt)))) else (none))))) else (none)) else (none)))))))))))) else (none)) else (none)))) else (none)) else (none)))))) else (none)) = some r := H
 have A4 := Aside0.mk A40
 clear A40
 by_cases c5 : gg = true
 case neg =>
  replace c5 := Bool.eq_false_iff.mpr c5
  subst c5
  have H1 : (none) = some r := by rw [if_neg (show ¬ (false = true) by decide)] at H; exact H
  clear H
  have H := H1
  clear H1
  exact absurd H (by simp)

 subst c5
 have H1 : (if (l0.length : Int) > 100 then (some true) else ((postroomlaw11_run.f k l0).bind fun b9 => ((mark_Put.f k b9.1 b9.2.1 b9.2.2).bind fun dR => ((mark_Take.f k dR.1).bind fun b8 => (if dR.2 = 0 then (if b8.2.2.2 = 0 then ((some (([(⟨#[97]⟩ : ByteArray), (⟨#[98]⟩ : ByteArray), (⟨#[99]⟩ : ByteArray), (⟨#[122, 111, 110, 101]⟩ : ByteArray)] : List ByteArray) : List ByteArray)).bind fun bi => ((postroomlaw11_pick.f a1 4).bind fun dh => (if 0 ≤ dh then (if dh < (bi.length : Int) then ((ledger_Add.f b9.1 b9.2.1 b9.2.2).bind fun dq => ((postroomlaw11_pick.f a2 30).bind fun dQ => ((ledger_Done.f k dq.1 dq.2.1 dq.2.2 (rdOf ByteArray.empty bi dh) (IntKind.u64.wrap (dQ)) 97).bind fun bS => ((ledger_Add.f b8.1 b8.2.1 b8.2.2.1).bind fun b7 => ((postroomlaw11_pick.f a2 30).bind fun dP => ((ledger_Done.f k b7.1 b7.2.1 b7.2.2 (rdOf ByteArray.empty bi dh) (IntKind.u64.wrap (dP)) 97).bind fun bC => ((postroomlaw11_pick.f a2 5).bind fun dw => ((ledger_Evict.f k b9.1 b9.2.1 b9.2.2 (IntKind.u64.wrap (b9.1 + (IntKind.u64.wrap (dw))))).bind fun bw => ((postroomlaw11_pick.f a2 5).bind fun du => ((ledger_Evict.f k b8.1 b8.2.1 b8.2.2.1 (IntKind.u64.wrap (b9.1 + (IntKind.u64.wrap (du))))).bind fun bq => (if bS.2.2.2 = bC.2.2.2 then (if bw.2.2.2 = bq.2.2.2 then ((postroomlaw11_asLedger.f k bS.1 bS.2.1 bS.2.2.1).bind fun bz => ((postroomlaw11_asLedger.f k bC.1 bC.2.1 bC.2.2.1).bind fun bu => ((postroomref11_Same.f k bz.1 bz.2.1 bz.2.2 bu.1 bu.2.1 bu.2.2).bind fun dv => (if dv = true then ((postroomlaw11_asLedger.f k bw.1 bw.2.1 bw.2.2.1).bind fun bo => ((postroomlaw11_asLedger.f k bq.1 bq.2.1 bq.2.2.1).bind fun bm => ((postroomref11_Same.f k bo.1 bo.2.1 bo.2.2 bm.1 bm.2.1 bm.2.2).bind fun dt => (some dt)))) else (none))))) else (none)) else (none)))))))))))) else (none)) else (none)))) else (none)) else (none)))))) = some r := by rw [if_pos rfl] at H; exact H
 clear H
 have H := H1
 clear H1
 by_cases c6 : (l0.length : Int) > 100
 ·rw [if_pos c6] at H
  have mS : decide (100 < (l0.length : Int)) = true := decide_eq_true c6
  have mR : decide (100 < l0.length) = true := decide_eq_true (by omega)
  clear c6
  obtain rfl := Option.some.inj H
  go_enter Tryd.func6, Tryd.ntmps6
  go_wp2_with (first | ((with_reducible refine gate_callee (f := 8) rfl ?_); refine goesL_ (some 22) rfl rfl Tryd.func8 (by kernel_rfl) rfl #[] rfl zx25_8 ?_; (with_reducible refine (postroomlaw11_shown.calls k  true _ A4.out).mono ?_); rintro e w7 ⟨rfl, hb⟩; refine ⟨_, rfl, ?_⟩; replace HB := Aside0.mk (below_step zx25_22 hb); (try clear hb); (try clear hb2); (try clear hk); (try clear hi)))
  go_ret
  exact ⟨by first | rfl | (simp [errW_none, errW_some] <;> rfl) | (simp [*, errW_none, errW_some] <;> rfl), by repeat (first | (with_reducible first | exact HB.out | apply below_alloc | apply pw_below_drewN | apply below_drew1) | exact HB.out)⟩
 rw [if_neg c6] at H
 have mS : decide (100 < (l0.length : Int)) = false := decide_eq_false c6
 have mR : decide (100 < l0.length) = false := decide_eq_false (by omega)
 clear c6
 replace H := Option.bind_eq_some_iff.mp H
 obtain ⟨⟨bk, bB, br⟩, A80, H⟩ := H
 replace H : ((mark_Put.f k bk bB br).bind fun dR => ((mark_Take.f k dR.1).bind fun b8 => (if dR.2 = 0 then (if b8.2.2.2 = 0 then ((some (([(⟨#[97]⟩ : ByteArray), (⟨#[98]⟩ : ByteArray), (⟨#[99]⟩ : ByteArray), (⟨#[122, 111, 110, 101]⟩ : ByteArray)] : List ByteArray) : List ByteArray)).bind fun bi => ((postroomlaw11_pick.f a1 4).bind fun dh => (if 0 ≤ dh then (if dh < (bi.length : Int) then ((ledger_Add.f bk bB br).bind fun dq => ((postroomlaw11_pick.f a2 30).bind fun dQ => ((ledger_Done.f k dq.1 dq.2.1 dq.2.2 (rdOf ByteArray.empty bi dh) (IntKind.u64.wrap (dQ)) 97).bind fun bS => ((ledger_Add.f b8.1 b8.2.1 b8.2.2.1).bind fun b7 => ((postroomlaw11_pick.f a2 30).bind fun dP => ((ledger_Done.f k b7.1 b7.2.1 b7.2.2 (rdOf ByteArray.empty bi dh) (IntKind.u64.wrap (dP)) 97).bind fun bC => ((postroomlaw11_pick.f a2 5).bind fun dw => ((ledger_Evict.f k bk bB br (IntKind.u64.wrap (bk + (IntKind.u64.wrap (dw))))).bind fun bw => ((postroomlaw11_pick.f a2 5).bind fun du => ((ledger_Evict.f k b8.1 b8.2.1 b8.2.2.1 (IntKind.u64.wrap (bk + (IntKind.u64.wrap (du))))).bind fun bq => (if bS.2.2.2 = bC.2.2.2 then (if bw.2.2.2 = bq.2.2.2 then ((postroomlaw11_asLedger.f k bS.1 bS.2.1 bS.2.2.1).bind fun bz => ((postroomlaw11_asLedger.f k bC.1 bC.2.1 bC.2.2.1).bind fun bu => ((postroomref11_Same.f k bz.1 bz.2.1 bz.2.2 bu.1 bu.2.1 bu.2.2).bind fun dv => (if dv = true then ((postroomlaw11_asLedger.f k bw.1 bw.2.1 bw.2.2.1).bind fun bo => ((postroomlaw11_asLedger.f k bq.1 bq.2.1 bq.2.2.1).bind fun bm => ((postroomref11_Same.f k bo.1 bo.2.1 bo.2.2 bm.1 bm.2.1 bm.2.2).bind fun dt => (some dt)))) else (none))))) else (none)) else (none)))))))))))) else (none)) else (none)))) else (none)) else (none)))) = some r := H
 have A8 := Aside0.mk A80
 clear A80
 replace H := Option.bind_eq_some_iff.mp H
 obtain ⟨⟨he, gn⟩, A90, H⟩ := H
 replace H : ((mark_Take.f k he).bind fun b8 => (if gn = 0 then (if b8.2.2.2 = 0 then ((some (([(⟨#[97]⟩ : ByteArray), (⟨#[98]⟩ : ByteArray), (⟨#[99]⟩ : ByteArray), (⟨#[122, 111, 110, 101]⟩ : ByteArray)] : List ByteArray) : List ByteArray)).bind fun bi => ((postroomlaw11_pick.f a1 4).bind fun dh => (if 0 ≤ dh then (if dh < (bi.length : Int) then ((ledger_Add.f bk bB br).bind fun dq => ((postroomlaw11_pick.f a2 30).bind fun dQ => ((ledger_Done.f k dq.1 dq.2.1 dq.2.2 (rdOf ByteArray.empty bi dh) (IntKind.u64.wrap (dQ)) 97).bind fun bS => ((ledger_Add.f b8.1 b8.2.1 b8.2.2.1).bind fun b7 => ((postroomlaw11_pick.f a2 30).bind fun dP => ((ledger_Done.f k b7.1 b7.2.1 b7.2.2 (rdOf ByteArray.empty bi dh) (IntKind.u64.wrap (dP)) 97).bind fun bC => ((postroomlaw11_pick.f a2 5).bind fun dw => ((ledger_Evict.f k bk bB br (IntKind.u64.wrap (bk + (IntKind.u64.wrap (dw))))).bind fun bw => ((postroomlaw11_pick.f a2 5).bind fun du => ((ledger_Evict.f k b8.1 b8.2.1 b8.2.2.1 (IntKind.u64.wrap (bk + (IntKind.u64.wrap (du))))).bind fun bq => (if bS.2.2.2 = bC.2.2.2 then (if bw.2.2.2 = bq.2.2.2 then ((postroomlaw11_asLedger.f k bS.1 bS.2.1 bS.2.2.1).bind fun bz => ((postroomlaw11_asLedger.f k bC.1 bC.2.1 bC.2.2.1).bind fun bu => ((postroomref11_Same.f k bz.1 bz.2.1 bz.2.2 bu.1 bu.2.1 bu.2.2).bind fun dv => (if dv = true then ((postroomlaw11_asLedger.f k bw.1 bw.2.1 bw.2.2.1).bind fun bo => ((postroomlaw11_asLedger.f k bq.1 bq.2.1 bq.2.2.1).bind fun bm => ((postroomref11_Same.f k bo.1 bo.2.1 bo.2.2 bm.1 bm.2.1 bm.2.2).bind fun dt => (some dt)))) else (none))))) else (none)) else (none)))))))))))) else (none)) else (none)))) else (none)) else (none))) = some r := H
 have A9 := Aside0.mk A90
 clear A90
 replace H := Option.bind_eq_some_iff.mp H
 obtain ⟨⟨bG, bI, bh, gE⟩, hW, H⟩ := H
 replace H : (if gn = 0 then (if gE = 0 then ((some (([(⟨#[97]⟩ : ByteArray), (⟨#[98]⟩ : ByteArray), (⟨#[99]⟩ : ByteArray), (⟨#[122, 111, 110, 101]⟩ : ByteArray)] : List ByteArray) : List ByteArray)).bind fun bi => ((postroomlaw11_pick.f a1 4).bind fun dh => (if 0 ≤ dh then (if dh < (bi.length : Int) then ((ledger_Add.f bk bB br).bind fun dq => ((postroomlaw11_pick.f a2 30).bind fun dQ => ((ledger_Done.f k dq.1 dq.2.1 dq.2.2 (rdOf ByteArray.empty bi dh) (IntKind.u64.wrap (dQ)) 97).bind fun bS => ((ledger_Add.f bG bI bh).bind fun b7 => ((postroomlaw11_pick.f a2 30).bind fun dP => ((ledger_Done.f k b7.1 b7.2.1 b7.2.2 (rdOf ByteArray.empty bi dh) (IntKind.u64.wrap (dP)) 97).bind fun bC => ((postroomlaw11_pick.f a2 5).bind fun dw => ((ledger_Evict.f k bk bB br (IntKind.u64.wrap (bk + (IntKind.u64.wrap (dw))))).bind fun bw => ((postroomlaw11_pick.f a2 5).bind fun du => ((ledger_Evict.f k bG bI bh (IntKind.u64.wrap (bk + (IntKind.u64.wrap (du))))).bind fun bq => (if bS.2.2.2 = bC.2.2.2 then (if bw.2.2.2 = bq.2.2.2 then ((postroomlaw11_asLedger.f k bS.1 bS.2.1 bS.2.2.1).bind fun bz => ((postroomlaw11_asLedger.f k bC.1 bC.2.1 bC.2.2.1).bind fun bu => ((postroomref11_Same.f k bz.1 bz.2.1 bz.2.2 bu.1 bu.2.1 bu.2.2).bind fun dv => (if dv = true then ((postroomlaw11_asLedger.f k bw.1 bw.2.1 bw.2.2.1).bind fun bo => ((postroomlaw11_asLedger.f k bq.1 bq.2.1 bq.2.2.1).bind fun bm => ((postroomref11_Same.f k bo.1 bo.2.1 bo.2.2 bm.1 bm.2.1 bm.2.2).bind fun dt => (some dt)))) else (none))))) else (none)) else (none)))))))))))) else (none)) else (none)))) else (none)) else (none)) = some r := H
 have A10 := Aside0.mk hW
 clear hW
 by_cases c11 : gn = 0
 case neg =>
  rw [if_neg c11] at H
  exact absurd H (by simp)
 rw [if_pos c11] at H
 have oo : (gn == 0) = true := beq_iff_eq.mpr c11
 have on : (gn != 0) = false := bne_eq_false_iff_eq.mpr c11
 clear c11
 by_cases c12 : gE = 0
 case neg =>
  rw [if_neg c12] at H
  exact absurd H (by simp)
 rw [if_pos c12] at H
 have om : (gE == 0) = true := beq_iff_eq.mpr c12
 have ol : (gE != 0) = false := bne_eq_false_iff_eq.mpr c12
 clear c12
 obtain ⟨bi, gi⟩ : ∃ y_ : List ByteArray, y_ = (([(⟨#[97]⟩ : ByteArray), (⟨#[98]⟩ : ByteArray), (⟨#[99]⟩ : ByteArray), (⟨#[122, 111, 110, 101]⟩ : ByteArray)] : List ByteArray)) := ⟨_, rfl⟩
 replace H : ((postroomlaw11_pick.f a1 4).bind fun dh => (if 0 ≤ dh then (if dh < (bi.length : Int) then ((ledger_Add.f bk bB br).bind fun dq => ((postroomlaw11_pick.f a2 30).bind fun dQ => ((ledger_Done.f k dq.1 dq.2.1 dq.2.2 (rdOf ByteArray.empty bi dh) (IntKind.u64.wrap (dQ)) 97).bind fun bS => ((ledger_Add.f bG bI bh).bind fun b7 => ((postroomlaw11_pick.f a2 30).bind fun dP => ((ledger_Done.f k b7.1 b7.2.1 b7.2.2 (rdOf ByteArray.empty bi dh) (IntKind.u64.wrap (dP)) 97).bind fun bC => ((postroomlaw11_pick.f a2 5).bind fun dw => ((ledger_Evict.f k bk bB br (IntKind.u64.wrap (bk + (IntKind.u64.wrap (dw))))).bind fun bw => ((postroomlaw11_pick.f a2 5).bind fun du => ((ledger_Evict.f k bG bI bh (IntKind.u64.wrap (bk + (IntKind.u64.wrap (du))))).bind fun bq => (if bS.2.2.2 = bC.2.2.2 then (if bw.2.2.2 = bq.2.2.2 then ((postroomlaw11_asLedger.f k bS.1 bS.2.1 bS.2.2.1).bind fun bz => ((postroomlaw11_asLedger.f k bC.1 bC.2.1 bC.2.2.1).bind fun bu => ((postroomref11_Same.f k bz.1 bz.2.1 bz.2.2 bu.1 bu.2.1 bu.2.2).bind fun dv => (if dv = true then ((postroomlaw11_asLedger.f k bw.1 bw.2.1 bw.2.2.1).bind fun bo => ((postroomlaw11_asLedger.f k bq.1 bq.2.1 bq.2.2.1).bind fun bm => ((postroomref11_Same.f k bo.1 bo.2.1 bo.2.2 bm.1 bm.2.1 bm.2.2).bind fun dt => (some dt)))) else (none))))) else (none)) else (none)))))))))))) else (none)) else (none))) = some r := by first | (rw [gi]; with_reducible exact H) | (have H2_ := (Option.bind_some _ _).symm.trans H; rw [gi]; with_reducible exact H2_) | (have H2_ := (Option.bind_some _ _).symm.trans H; with_reducible exact H2_) | with_reducible exact H | (rw [gi]; exact H) | exact H
 have hf := Aside0.mk gi
 clear gi
 replace H := Option.bind_eq_some_iff.mp H
 obtain ⟨dh, hV, H⟩ := H
 replace H : (if 0 ≤ dh then (if dh < (bi.length : Int) then ((ledger_Add.f bk bB br).bind fun dq => ((postroomlaw11_pick.f a2 30).bind fun dQ => ((ledger_Done.f k dq.1 dq.2.1 dq.2.2 (rdOf ByteArray.empty bi dh) (IntKind.u64.wrap (dQ)) 97).bind fun bS => ((ledger_Add.f bG bI bh).bind fun b7 => ((postroomlaw11_pick.f a2 30).bind fun dP => ((ledger_Done.f k b7.1 b7.2.1 b7.2.2 (rdOf ByteArray.empty bi dh) (IntKind.u64.wrap (dP)) 97).bind fun bC => ((postroomlaw11_pick.f a2 5).bind fun dw => ((ledger_Evict.f k bk bB br (IntKind.u64.wrap (bk + (IntKind.u64.wrap (dw))))).bind fun bw => ((postroomlaw11_pick.f a2 5).bind fun du => ((ledger_Evict.f k bG bI bh (IntKind.u64.wrap (bk + (IntKind.u64.wrap (du))))).bind fun bq => (if bS.2.2.2 = bC.2.2.2 then (if bw.2.2.2 = bq.2.2.2 then ((postroomlaw11_asLedger.f k bS.1 bS.2.1 bS.2.2.1).bind fun bz => ((postroomlaw11_asLedger.f k bC.1 bC.2.1 bC.2.2.1).bind fun bu => ((postroomref11_Same.f k bz.1 bz.2.1 bz.2.2 bu.1 bu.2.1 bu.2.2).bind fun dv => (if dv = true then ((postroomlaw11_asLedger.f k bw.1 bw.2.1 bw.2.2.1).bind fun bo => ((postroomlaw11_asLedger.f k bq.1 bq.2.1 bq.2.2.1).bind fun bm => ((postroomref11_Same.f k bo.1 bo.2.1 bo.2.2 bm.1 bm.2.1 bm.2.2).bind fun dt => (some dt)))) else (none))))) else (none)) else (none)))))))))))) else (none)) else (none)) = some r := H
 have A13 := Aside0.mk hV
 clear hV
 by_cases c14 : 0 ≤ dh
 case neg =>
  rw [if_neg c14] at H
  exact absurd H (by simp)
 rw [if_pos c14] at H
 have oj : decide (0 ≤ dh) = true := decide_eq_true c14
 clear c14
 by_cases c15 : dh < (bi.length : Int)
 case neg =>
  rw [if_neg c15] at H
  exact absurd H (by simp)
 rw [if_pos c15] at H
 have oi : decide (dh < (bi.length : Int)) = true := decide_eq_true c15
 clear c15
 replace H := Option.bind_eq_some_iff.mp H
 obtain ⟨⟨gD, gC, bO⟩, hU, H⟩ := H
 replace H : ((postroomlaw11_pick.f a2 30).bind fun dQ => ((ledger_Done.f k gD gC bO (rdOf ByteArray.empty bi dh) (IntKind.u64.wrap (dQ)) 97).bind fun bS => ((ledger_Add.f bG bI bh).bind fun b7 => ((postroomlaw11_pick.f a2 30).bind fun dP => ((ledger_Done.f k b7.1 b7.2.1 b7.2.2 (rdOf ByteArray.empty bi dh) (IntKind.u64.wrap (dP)) 97).bind fun bC => ((postroomlaw11_pick.f a2 5).bind fun dw => ((ledger_Evict.f k bk bB br (IntKind.u64.wrap (bk + (IntKind.u64.wrap (dw))))).bind fun bw => ((postroomlaw11_pick.f a2 5).bind fun du => ((ledger_Evict.f k bG bI bh (IntKind.u64.wrap (bk + (IntKind.u64.wrap (du))))).bind fun bq => (if bS.2.2.2 = bC.2.2.2 then (if bw.2.2.2 = bq.2.2.2 then ((postroomlaw11_asLedger.f k bS.1 bS.2.1 bS.2.2.1).bind fun bz => ((postroomlaw11_asLedger.f k bC.1 bC.2.1 bC.2.2.1).bind fun bu => ((postroomref11_Same.f k bz.1 bz.2.1 bz.2.2 bu.1 bu.2.1 bu.2.2).bind fun dv => (if dv = true then ((postroomlaw11_asLedger.f k bw.1 bw.2.1 bw.2.2.1).bind fun bo => ((postroomlaw11_asLedger.f k bq.1 bq.2.1 bq.2.2.1).bind fun bm => ((postroomref11_Same.f k bo.1 bo.2.1 bo.2.2 bm.1 bm.2.1 bm.2.2).bind fun dt => (some dt)))) else (none))))) else (none)) else (none))))))))))) = some r := H
 have A16 := Aside0.mk hU
 clear hU
 replace H := Option.bind_eq_some_iff.mp H
 obtain ⟨dQ, hT, H⟩ := H
 replace H : ((ledger_Done.f k gD gC bO (rdOf ByteArray.empty bi dh) (IntKind.u64.wrap (dQ)) 97).bind fun bS => ((ledger_Add.f bG bI bh).bind fun b7 => ((postroomlaw11_pick.f a2 30).bind fun dP => ((ledger_Done.f k b7.1 b7.2.1 b7.2.2 (rdOf ByteArray.empty bi dh) (IntKind.u64.wrap (dP)) 97).bind fun bC => ((postroomlaw11_pick.f a2 5).bind fun dw => ((ledger_Evict.f k bk bB br (IntKind.u64.wrap (bk + (IntKind.u64.wrap (dw))))).bind fun bw => ((postroomlaw11_pick.f a2 5).bind fun du => ((ledger_Evict.f k bG bI bh (IntKind.u64.wrap (bk + (IntKind.u64.wrap (du))))).bind fun bq => (if bS.2.2.2 = bC.2.2.2 then (if bw.2.2.2 = bq.2.2.2 then ((postroomlaw11_asLedger.f k bS.1 bS.2.1 bS.2.2.1).bind fun bz => ((postroomlaw11_asLedger.f k bC.1 bC.2.1 bC.2.2.1).bind fun bu => ((postroomref11_Same.f k bz.1 bz.2.1 bz.2.2 bu.1 bu.2.1 bu.2.2).bind fun dv => (if dv = true then ((postroomlaw11_asLedger.f k bw.1 bw.2.1 bw.2.2.1).bind fun bo => ((postroomlaw11_asLedger.f k bq.1 bq.2.1 bq.2.2.1).bind fun bm => ((postroomref11_Same.f k bo.1 bo.2.1 bo.2.2 bm.1 bm.2.1 bm.2.2).bind fun dt => (some dt)))) else (none))))) else (none)) else (none)))))))))) = some r := H
 have A17 := Aside0.mk hT
 clear hT
 replace H := Option.bind_eq_some_iff.mp H
 obtain ⟨⟨bW, b1, bL, d1⟩, hS, H⟩ := H
 replace H : ((ledger_Add.f bG bI bh).bind fun b7 => ((postroomlaw11_pick.f a2 30).bind fun dP => ((ledger_Done.f k b7.1 b7.2.1 b7.2.2 (rdOf ByteArray.empty bi dh) (IntKind.u64.wrap (dP)) 97).bind fun bC => ((postroomlaw11_pick.f a2 5).bind fun dw => ((ledger_Evict.f k bk bB br (IntKind.u64.wrap (bk + (IntKind.u64.wrap (dw))))).bind fun bw => ((postroomlaw11_pick.f a2 5).bind fun du => ((ledger_Evict.f k bG bI bh (IntKind.u64.wrap (bk + (IntKind.u64.wrap (du))))).bind fun bq => (if d1 = bC.2.2.2 then (if bw.2.2.2 = bq.2.2.2 then ((postroomlaw11_asLedger.f k bW b1 bL).bind fun bz => ((postroomlaw11_asLedger.f k bC.1 bC.2.1 bC.2.2.1).bind fun bu => ((postroomref11_Same.f k bz.1 bz.2.1 bz.2.2 bu.1 bu.2.1 bu.2.2).bind fun dv => (if dv = true then ((postroomlaw11_asLedger.f k bw.1 bw.2.1 bw.2.2.1).bind fun bo => ((postroomlaw11_asLedger.f k bq.1 bq.2.1 bq.2.2.1).bind fun bm => ((postroomref11_Same.f k bo.1 bo.2.1 bo.2.2 bm.1 bm.2.1 bm.2.2).bind fun dt => (some dt)))) else (none))))) else (none)) else (none))))))))) = some r := H
 have A18 := Aside0.mk hS
 clear hS
 replace H := Option.bind_eq_some_iff.mp H
 obtain ⟨⟨gB, gA, b0⟩, hR, H⟩ := H
 replace H : ((postroomlaw11_pick.f a2 30).bind fun dP => ((ledger_Done.f k gB gA b0 (rdOf ByteArray.empty bi dh) (IntKind.u64.wrap (dP)) 97).bind fun bC => ((postroomlaw11_pick.f a2 5).bind fun dw => ((ledger_Evict.f k bk bB br (IntKind.u64.wrap (bk + (IntKind.u64.wrap (dw))))).bind fun bw => ((postroomlaw11_pick.f a2 5).bind fun du => ((ledger_Evict.f k bG bI bh (IntKind.u64.wrap (bk + (IntKind.u64.wrap (du))))).bind fun bq => (if d1 = bC.2.2.2 then (if bw.2.2.2 = bq.2.2.2 then ((postroomlaw11_asLedger.f k bW b1 bL).bind fun bz => ((postroomlaw11_asLedger.f k bC.1 bC.2.1 bC.2.2.1).bind fun bu => ((postroomref11_Same.f k bz.1 bz.2.1 bz.2.2 bu.1 bu.2.1 bu.2.2).bind fun dv => (if dv = true then ((postroomlaw11_asLedger.f k bw.1 bw.2.1 bw.2.2.1).bind fun bo => ((postroomlaw11_asLedger.f k bq.1 bq.2.1 bq.2.2.1).bind fun bm => ((postroomref11_Same.f k bo.1 bo.2.1 bo.2.2 bm.1 bm.2.1 bm.2.2).bind fun dt => (some dt)))) else (none))))) else (none)) else (none)))))))) = some r := H
 have A19 := Aside0.mk hR
 clear hR
 replace H := Option.bind_eq_some_iff.mp H
 obtain ⟨dP, hQ, H⟩ := H
 replace H : ((ledger_Done.f k gB gA b0 (rdOf ByteArray.empty bi dh) (IntKind.u64.wrap (dP)) 97).bind fun bC => ((postroomlaw11_pick.f a2 5).bind fun dw => ((ledger_Evict.f k bk bB br (IntKind.u64.wrap (bk + (IntKind.u64.wrap (dw))))).bind fun bw => ((postroomlaw11_pick.f a2 5).bind fun du => ((ledger_Evict.f k bG bI bh (IntKind.u64.wrap (bk + (IntKind.u64.wrap (du))))).bind fun bq => (if d1 = bC.2.2.2 then (if bw.2.2.2 = bq.2.2.2 then ((postroomlaw11_asLedger.f k bW b1 bL).bind fun bz => ((postroomlaw11_asLedger.f k bC.1 bC.2.1 bC.2.2.1).bind fun bu => ((postroomref11_Same.f k bz.1 bz.2.1 bz.2.2 bu.1 bu.2.1 bu.2.2).bind fun dv => (if dv = true then ((postroomlaw11_asLedger.f k bw.1 bw.2.1 bw.2.2.1).bind fun bo => ((postroomlaw11_asLedger.f k bq.1 bq.2.1 bq.2.2.1).bind fun bm => ((postroomref11_Same.f k bo.1 bo.2.1 bo.2.2 bm.1 bm.2.1 bm.2.2).bind fun dt => (some dt)))) else (none))))) else (none)) else (none))))))) = some r := H
 have A20 := Aside0.mk hQ
 clear hQ
 replace H := Option.bind_eq_some_iff.mp H
 obtain ⟨⟨bU, bV, bM, gf⟩, hP, H⟩ := H
 replace H : ((postroomlaw11_pick.f a2 5).bind fun dw => ((ledger_Evict.f k bk bB br (IntKind.u64.wrap (bk + (IntKind.u64.wrap (dw))))).bind fun bw => ((postroomlaw11_pick.f a2 5).bind fun du => ((ledger_Evict.f k bG bI bh (IntKind.u64.wrap (bk + (IntKind.u64.wrap (du))))).bind fun bq => (if d1 = gf then (if bw.2.2.2 = bq.2.2.2 then ((postroomlaw11_asLedger.f k bW b1 bL).bind fun bz => ((postroomlaw11_asLedger.f k bU bV bM).bind fun bu => ((postroomref11_Same.f k bz.1 bz.2.1 bz.2.2 bu.1 bu.2.1 bu.2.2).bind fun dv => (if dv = true then ((postroomlaw11_asLedger.f k bw.1 bw.2.1 bw.2.2.1).bind fun bo => ((postroomlaw11_asLedger.f k bq.1 bq.2.1 bq.2.2.1).bind fun bm => ((postroomref11_Same.f k bo.1 bo.2.1 bo.2.2 bm.1 bm.2.1 bm.2.2).bind fun dt => (some dt)))) else (none))))) else (none)) else (none)))))) = some r := H
 have A21 := Aside0.mk hP
 clear hP
 replace H := Option.bind_eq_some_iff.mp H
 obtain ⟨dw, hO, H⟩ := H
 replace H : ((ledger_Evict.f k bk bB br (IntKind.u64.wrap (bk + (IntKind.u64.wrap (dw))))).bind fun bw => ((postroomlaw11_pick.f a2 5).bind fun du => ((ledger_Evict.f k bG bI bh (IntKind.u64.wrap (bk + (IntKind.u64.wrap (du))))).bind fun bq => (if d1 = gf then (if bw.2.2.2 = bq.2.2.2 then ((postroomlaw11_asLedger.f k bW b1 bL).bind fun bz => ((postroomlaw11_asLedger.f k bU bV bM).bind fun bu => ((postroomref11_Same.f k bz.1 bz.2.1 bz.2.2 bu.1 bu.2.1 bu.2.2).bind fun dv => (if dv = true then ((postroomlaw11_asLedger.f k bw.1 bw.2.1 bw.2.2.1).bind fun bo => ((postroomlaw11_asLedger.f k bq.1 bq.2.1 bq.2.2.1).bind fun bm => ((postroomref11_Same.f k bo.1 bo.2.1 bo.2.2 bm.1 bm.2.1 bm.2.2).bind fun dt => (some dt)))) else (none))))) else (none)) else (none))))) = some r := H
 have A22 := Aside0.mk hO
 clear hO
 replace H := Option.bind_eq_some_iff.mp H
 obtain ⟨⟨da, dd, bZ, d0⟩, hN, H⟩ := H
 replace H : ((postroomlaw11_pick.f a2 5).bind fun du => ((ledger_Evict.f k bG bI bh (IntKind.u64.wrap (bk + (IntKind.u64.wrap (du))))).bind fun bq => (if d1 = gf then (if d0 = bq.2.2.2 then ((postroomlaw11_asLedger.f k bW b1 bL).bind fun bz => ((postroomlaw11_asLedger.f k bU bV bM).bind fun bu => ((postroomref11_Same.f k bz.1 bz.2.1 bz.2.2 bu.1 bu.2.1 bu.2.2).bind fun dv => (if dv = true then ((postroomlaw11_asLedger.f k da dd bZ).bind fun bo => ((postroomlaw11_asLedger.f k bq.1 bq.2.1 bq.2.2.1).bind fun bm => ((postroomref11_Same.f k bo.1 bo.2.1 bo.2.2 bm.1 bm.2.1 bm.2.2).bind fun dt => (some dt)))) else (none))))) else (none)) else (none)))) = some r := H
 have A23 := Aside0.mk hN
 clear hN
 replace H := Option.bind_eq_some_iff.mp H
 obtain ⟨du, hM, H⟩ := H
 replace H : ((ledger_Evict.f k bG bI bh (IntKind.u64.wrap (bk + (IntKind.u64.wrap (du))))).bind fun bq => (if d1 = gf then (if d0 = bq.2.2.2 then ((postroomlaw11_asLedger.f k bW b1 bL).bind fun bz => ((postroomlaw11_asLedger.f k bU bV bM).bind fun bu => ((postroomref11_Same.f k bz.1 bz.2.1 bz.2.2 bu.1 bu.2.1 bu.2.2).bind fun dv => (if dv = true then ((postroomlaw11_asLedger.f k da dd bZ).bind fun bo => ((postroomlaw11_asLedger.f k bq.1 bq.2.1 bq.2.2.1).bind fun bm => ((postroomref11_Same.f k bo.1 bo.2.1 bo.2.2 bm.1 bm.2.1 bm.2.2).bind fun dt => (some dt)))) else (none))))) else (none)) else (none))) = some r := H
 have A24 := Aside0.mk hM
 clear hM
 replace H := Option.bind_eq_some_iff.mp H
 obtain ⟨⟨dm, dp, dn, d3⟩, hL, H⟩ := H
 replace H : (if d1 = gf then (if d0 = d3 then ((postroomlaw11_asLedger.f k bW b1 bL).bind fun bz => ((postroomlaw11_asLedger.f k bU bV bM).bind fun bu => ((postroomref11_Same.f k bz.1 bz.2.1 bz.2.2 bu.1 bu.2.1 bu.2.2).bind fun dv => (if dv = true then ((postroomlaw11_asLedger.f k da dd bZ).bind fun bo => ((postroomlaw11_asLedger.f k dm dp dn).bind fun bm => ((postroomref11_Same.f k bo.1 bo.2.1 bo.2.2 bm.1 bm.2.1 bm.2.2).bind fun dt => (some dt)))) else (none))))) else (none)) else (none)) = some r := H
 have A25 := Aside0.mk hL
 clear hL
 by_cases c26 : d1 = gf
 case neg =>
  rw [if_neg c26] at H
  exact absurd H (by simp)
 rw [if_pos c26] at H
 have oh : (d1 == gf) = true := beq_iff_eq.mpr c26
 have og : (d1 != gf) = false := bne_eq_false_iff_eq.mpr c26
 clear c26
 by_cases c27 : d0 = d3
 case neg =>
  rw [if_neg c27] at H
  exact absurd H (by simp)
 rw [if_pos c27] at H
 have oe : (d0 == d3) = true := beq_iff_eq.mpr c27
 have od : (d0 != d3) = false := bne_eq_false_iff_eq.mpr c27
 clear c27
 replace H := Option.bind_eq_some_iff.mp H
 obtain ⟨⟨gz, gy, gc⟩, hJ, H⟩ := H
 replace H : ((postroomlaw11_asLedger.f k bU bV bM).bind fun bu => ((postroomref11_Same.f k gz gy gc bu.1 bu.2.1 bu.2.2).bind fun dv => (if dv = true then ((postroomlaw11_asLedger.f k da dd bZ).bind fun bo => ((postroomlaw11_asLedger.f k dm dp dn).bind fun bm => ((postroomref11_Same.f k bo.1 bo.2.1 bo.2.2 bm.1 bm.2.1 bm.2.2).bind fun dt => (some dt)))) else (none)))) = some r := H
 have A28 := Aside0.mk hJ
 clear hJ
 replace H := Option.bind_eq_some_iff.mp H
 obtain ⟨⟨hc, ha, gh⟩, hI, H⟩ := H
 replace H : ((postroomref11_Same.f k gz gy gc hc ha gh).bind fun dv => (if dv = true then ((postroomlaw11_asLedger.f k da dd bZ).bind fun bo => ((postroomlaw11_asLedger.f k dm dp dn).bind fun bm => ((postroomref11_Same.f k bo.1 bo.2.1 bo.2.2 bm.1 bm.2.1 bm.2.2).bind fun dt => (some dt)))) else (none))) = some r := H
 have A29 := Aside0.mk hI
 clear hI
 replace H := Option.bind_eq_some_iff.mp H
 obtain ⟨dv, hH, H⟩ := H
 replace H : (if dv = true then ((postroomlaw11_asLedger.f k da dd bZ).bind fun bo => ((postroomlaw11_asLedger.f k dm dp dn).bind fun bm => ((postroomref11_Same.f k bo.1 bo.2.1 bo.2.2 bm.1 bm.2.1 bm.2.2).bind fun dt => (some dt)))) else (none)) = some r := H
 have A30 := Aside0.mk hH
 clear hH
 by_cases c31 : dv = true
 case neg =>
  replace c31 := Bool.eq_false_iff.mpr c31
  subst c31
  have H1 : (none) = some r := by rw [if_neg (show ¬ (false = true) by decide)] at H; exact H
  clear H
  have H := H1
  clear H1
  exact absurd H (by simp)
 subst c31
 have H1 : ((postroomlaw11_asLedger.f k da dd bZ).bind fun bo => ((postroomlaw11_asLedger.f k dm dp dn).bind fun bm => ((postroomref11_Same.f k bo.1 bo.2.1 bo.2.2 bm.1 bm.2.1 bm.2.2).bind fun dt => (some dt)))) = some r := by rw [if_pos rfl] at H; exact H
 clear H
 have H := H1
 clear H1
 replace H := Option.bind_eq_some_iff.mp H
 obtain ⟨⟨gx, gw, gv⟩, hG, H⟩ := H
 replace H : ((postroomlaw11_asLedger.f k dm dp dn).bind fun bm => ((postroomref11_Same.f k gx gw gv bm.1 bm.2.1 bm.2.2).bind fun dt => (some dt))) = some r := H
 have A32 := Aside0.mk hG
 clear hG
 replace H := Option.bind_eq_some_iff.mp H
 obtain ⟨⟨gZ, gY, gX⟩, hF, H⟩ := H
 replace H : ((postroomref11_Same.f k gx gw gv gZ gY gX).bind fun dt => (some dt)) = some r := H
 have A33 := Aside0.mk hF
 clear hF
 replace H := Option.bind_eq_some_iff.mp H
 obtain ⟨dt, hE, H⟩ := H
 replace H : (some dt) = some r := H
 have A34 := Aside0.mk hE
 clear hE
 obtain rfl := Option.some.inj H
 go_enter Tryd.func6, Tryd.ntmps6
 try go_wp2_with (first | ((with_reducible refine gate_callee (f := 8) rfl ?_); refine goesL_ (some 22) rfl rfl Tryd.func8 (by kernel_rfl) rfl #[] rfl zx25_8 ?_; (with_reducible refine (postroomlaw11_shown.calls k  true _ A4.out).mono ?_); rintro e w35 ⟨rfl, hb⟩; refine ⟨_, rfl, ?_⟩; replace HB := Aside0.mk (below_step zx25_22 hb); (try clear hb); (try clear hb2); (try clear hk); (try clear hi)) | ((with_reducible refine gate_callee (f := 18) rfl ?_); refine goesL_ (some 32) rfl rfl Tryd.func18 (by kernel_rfl) rfl #[.slice A0 l0.length c0] rfl zx25_8 ?_; (with_reducible refine (postroomlaw11_run.calls k _ _ l0 bk bB br _ ?side1 ?side2 A8.out).mono ?_); (case side1 => repeat (first | exact (Kd.C_below HR0.out HB.out) | (with_reducible refine Kd.C_alloc ?_ _) | (with_reducible refine Kd.C_drewN ?_ _) | (with_reducible refine Kd.C_drew ?_))); (case side2 => exact HC0.out); rintro e w36 ⟨oz, rfl, ho0, hb⟩; refine ⟨_, rfl, ?_⟩; have bA := Aside0.mk (Kd.V_lower (Kd.V_mono (ok' := fun k_ => True) ho0 (fun k_ hk_ => trivial)) (below_size zx25_22)); replace HB := Aside0.mk (below_step zx25_22 hb); (try clear hb); (try clear hb2); (try clear hk); (try clear hi); (try clear ho0)) | ((with_reducible refine gate_dst (N := 8) rfl ?_); (try (refine gate_guard (by rfl) ?_; dsimp only)); refine box_event ?hg (N := 8) ?hd (cs := #[.int .u64 0, .int .u64 0, .slice none 0 0]) (t := 25) ?hr ?_; (case hd => rfl); (case hg => rfl); (case hr => first | (go_simp; done) | (go_simp; rfl)); intro bd hg w37 hbox hb; replace bA := Aside0.mk (Kd.V_below (Kd.V_elderB zx25_12 bd (Nat.le_of_eq hg.symm)) hb); have bg := Aside0.mk (hbox); have ot := Aside0.mk ((by rw [hg]; exact (below_size zx25_22) : w.heap.size ≤ bd)); have dT := Aside0.mk ((by rw [hg]; exact (below_size zx25_22) : w.heap.size ≤ bd)); replace HB := Aside0.mk (below_step zx25_22 hb); clear hb hbox hg; have mG : w37.cell? ⟨bd, 0, none⟩ = some (.int .u64 0) := (blk_cell bg.out 0).trans rfl; have mF : w37.cell? ⟨bd, 1, none⟩ = some (.int .u64 0) := (blk_cell bg.out 1).trans rfl; have mE : w37.cell? ⟨bd, 2, none⟩ = some (.slice none 0 0) := (blk_cell bg.out 2).trans rfl; have ml := blk_frozen bg.out 0; have mj := blk_frozen bg.out 1; have mi := blk_frozen bg.out 2; obtain ⟨bK, bJ, mN⟩ := Kd.V_slice bA.out; subst mN) | ((with_reducible refine gate_callee (f := 11) rfl ?_); refine goesL_ (some 35) rfl rfl Tryd.func11 (by kernel_rfl) rfl #[.agg #[.int .u64 bk, .int .u64 bB, .slice bK br.length bJ]] rfl zx25_8 ?_; (with_reducible refine (mark_Put.calls k bk bB _ _ br he gn _ ?side1 ?side2 A9.out).mono ?_); (case side1 => refine (Kd.V_reads' (e := 55) (base := w.heap.size) (ok := fun k_ => (True ∧ k_ ≠ bd)) (n := br.length) (c := bJ) ?_).2.2; exact zx25_39); (case side2 => exact (Kd.V_reads' bA.out).2.1); rintro e w40 ⟨rfl, hb⟩; refine ⟨_, rfl, ?_⟩; replace bA := Aside0.mk (Kd.V_below zx25_39 hb); replace bg := Aside0.mk (blk_below (g := bd) (o := .cells #[.int .u64 bk, .int .u64 bB, .slice bK br.length bJ] 25 (0, 0)) (by (with_reducible repeat (first | refine blk_drewN ?_ _ | refine blk_drew ?_ | refine blk_alloc ?_ _)); refine blk_put (cs := #[.int .u64 bk, .int .u64 bB, .slice none 0 0]) ?_ 2 _ rfl; (with_reducible repeat (first | refine blk_drewN ?_ _ | refine blk_drew ?_ | refine blk_alloc ?_ _)); refine blk_put (cs := #[.int .u64 bk, .int .u64 0, .slice none 0 0]) ?_ 1 _ rfl; (with_reducible repeat (first | refine blk_drewN ?_ _ | refine blk_drew ?_ | refine blk_alloc ?_ _)); refine blk_put (cs := #[.int .u64 0, .int .u64 0, .slice none 0 0]) ?_ 0 _ rfl; (with_reducible repeat (first | refine blk_drewN ?_ _ | refine blk_drew ?_ | refine blk_alloc ?_ _)); exact bg.out) hb); replace HB := Aside0.mk (below_step zx25_21 hb); (try clear hb); (try clear hb2); (try clear hk); (try clear hi)) | ((with_reducible refine gate_callee (f := 13) rfl ?_); refine goesL_ (some 40) rfl rfl Tryd.func13 (by kernel_rfl) rfl #[.string he] rfl zx25_8 ?_; (with_reducible refine (mark_Take.calls k he bG bI bh gE _ A10.out).mono ?_); rintro e w41 ⟨oy, rfl, ho0, hb⟩; refine ⟨_, rfl, ?_⟩; replace bA := Aside0.mk (Kd.V_elder' zx25_12 (Kd.N_base (Kd.S_N (Kd.S_bound ho0))) hb); have bD := Aside0.mk (Kd.N_lower (Kd.N_mono (ok' := fun k_ => k_ ≠ bd) (Kd.S_N (Kd.S_bound ho0)) (fun k_ hk_ => (Kd.freshB (g := bd) (o := .cells #[.int .u64 bk, .int .u64 bB, .slice bK br.length bJ] 25 (0, 0)) zx25_0 k_ hk_.2.1))) (below_size zx25_21)); replace bg := Aside0.mk (blk_below (g := bd) (o := .cells #[.int .u64 bk, .int .u64 bB, .slice bK br.length bJ] 25 (0, 0)) zx25_0 hb); replace HB := Aside0.mk (below_step zx25_21 hb); (try clear hb); (try clear hb2); (try clear hk); (try clear hi); (try clear ho0)) | ((with_reducible refine gate_dst (N := 11) rfl ?_); (try (refine gate_guard (by rfl) ?_; dsimp only)); refine box_event ?hg (N := 11) ?hd (cs := #[.int .u64 0, .int .u64 0, .slice none 0 0]) (t := 25) ?hr ?_; (case hd => rfl); (case hg => rfl); (case hr => first | (go_simp; done) | (go_simp; rfl)); intro be hg w42 hbox hb; replace bA := Aside0.mk (Kd.V_below (Kd.V_elderB zx25_12 be (Nat.le_of_eq hg.symm)) hb); replace bD := Aside0.mk (Kd.N_below (Kd.N_elderB zx25_10 be (Nat.le_of_eq hg.symm)) hb); have bl := Aside0.mk (hbox); have os := Aside0.mk ((by rw [hg]; exact (below_size zx25_21) : w.heap.size ≤ be)); have dW := Aside0.mk ((by rw [hg]; exact (below_size zx25_21) : w.heap.size ≤ be)); replace HB := Aside0.mk (below_step zx25_21 hb); have d9 := Aside0.mk ((by rw [hg]; exact Nat.ne_of_lt (blk_lt (g := bd) (o := .cells #[.int .u64 bk, .int .u64 bB, .slice bK br.length bJ] 25 (0, 0)) zx25_0) : bd ≠ be)); have gt := Aside0.mk ((by rw [hg]; exact Nat.ne_of_gt (blk_lt (g := bd) (o := .cells #[.int .u64 bk, .int .u64 bB, .slice bK br.length bJ] 25 (0, 0)) zx25_0) : be ≠ bd)); replace bg := Aside0.mk (blk_below (g := bd) (o := .cells #[.int .u64 bk, .int .u64 bB, .slice bK br.length bJ] 25 (0, 0)) zx25_0 hb); clear hb hbox hg; have m6 := gt.out; have m0 := d9.out; have mD : w42.cell? ⟨be, 0, none⟩ = some (.int .u64 0) := (blk_cell bl.out 0).trans rfl; have mC : w42.cell? ⟨be, 1, none⟩ = some (.int .u64 0) := (blk_cell bl.out 1).trans rfl; have mB : w42.cell? ⟨be, 2, none⟩ = some (.slice none 0 0) := (blk_cell bl.out 2).trans rfl; have mh := blk_frozen bl.out 0; have mg := blk_frozen bl.out 1; have mf := blk_frozen bl.out 2; obtain ⟨bp, bn, mM⟩ := Kd.N_slice bD.out; subst mM) | ((with_reducible refine gate_dst (N := 49) rfl ?_); (try (refine gate_guard (by rfl) ?_; dsimp only)); refine Kd.R_lit Kd.string _ 9 ?hg (N := 49) ?hd (xs := ([(⟨#[97]⟩ : ByteArray), (⟨#[98]⟩ : ByteArray), (⟨#[99]⟩ : ByteArray), (⟨#[122, 111, 110, 101]⟩ : ByteArray)] : List ByteArray)) (inner := [.string (⟨#[97]⟩ : ByteArray), .string (⟨#[98]⟩ : ByteArray), .string (⟨#[99]⟩ : ByteArray), .string (⟨#[122, 111, 110, 101]⟩ : ByteArray)]) (ok := fun _ => True) (okp := fun _ => True) ?hr ?hp (fun _ hk => hk) trivial (Below.refl _ _) (Nat.le_refl _) (by simp) ?_; (case hd => rfl); (case hg => rfl); (case hr => first | (go_simp; done) | (go_simp; rfl)); (case hp => exact (Reps.one (show Kd.M Kd.string _ _ _ (⟨#[97]⟩ : ByteArray) [.string (⟨#[97]⟩ : ByteArray)] from rfl) (Reps.one (show Kd.M Kd.string _ _ _ (⟨#[98]⟩ : ByteArray) [.string (⟨#[98]⟩ : ByteArray)] from rfl) (Reps.one (show Kd.M Kd.string _ _ _ (⟨#[99]⟩ : ByteArray) [.string (⟨#[99]⟩ : ByteArray)] from rfl) (Reps.one (show Kd.M Kd.string _ _ _ (⟨#[122, 111, 110, 101]⟩ : ByteArray) [.string (⟨#[122, 111, 110, 101]⟩ : ByteArray)] from rfl) (Reps.none _ _)))))); intro hj w46 gm hb hg_ hnew_; clear hg_ hnew_; (first | rw [← hf.out] at gm | (simp only [Int.reduceToNat] at gm; rw [← hf.out] at gm)); replace bA := Aside0.mk (Kd.V_elder' (by (with_reducible repeat (first | apply Kd.V_alloc | apply Kd.V_drewN | apply Kd.V_drew)); exact (Kd.V_mono (Kd.V_far (p := ⟨be, 2, none⟩) (Kd.V_far (p := ⟨be, 1, none⟩) (Kd.V_far (p := ⟨be, 0, none⟩) (Kd.V_mono bA.out (fun k_ hk => (⟨hk, hk.2⟩ : _ ∧ k_ ≠ be))) (fun _ hk => hk.2) (.int .u64 bG)) (fun _ hk => hk.2) (.int .u64 bI)) (fun _ hk => hk.2) (.slice bp bh.length bn)) (fun _ h_ => h_.1))) (Kd.R_base gm) hb); replace bD := Aside0.mk (Kd.N_elder' (by (with_reducible repeat (first | apply Kd.N_alloc | apply Kd.N_drewN | apply Kd.N_drew)); exact (Kd.N_mono (Kd.N_far (p := ⟨be, 2, none⟩) (Kd.N_far (p := ⟨be, 1, none⟩) (Kd.N_far (p := ⟨be, 0, none⟩) (Kd.N_mono bD.out (fun k_ hk => (⟨hk, hk.2⟩ : _ ∧ k_ ≠ be))) (fun _ hk => hk.2) (.int .u64 bG)) (fun _ hk => hk.2) (.int .u64 bI)) (fun _ hk => hk.2) (.slice bp bh.length bn)) (fun _ h_ => h_.1))) (Kd.R_base gm) hb); have bQ := Aside0.mk (Kd.R_lower gm (below_size zx25_15)); replace bg := Aside0.mk (blk_below (g := bd) (o := .cells #[.int .u64 bk, .int .u64 bB, .slice bK br.length bJ] 25 (0, 0)) (by (iterate 3 ((with_reducible repeat (first | refine blk_drewN ?_ _ | refine blk_drew ?_ | refine blk_alloc ?_ _)); refine blk_far ?_ d9.out _)); (with_reducible repeat (first | refine blk_drewN ?_ _ | refine blk_drew ?_ | refine blk_alloc ?_ _)); exact bg.out) hb); replace bl := Aside0.mk (blk_below (g := be) (o := .cells #[.int .u64 bG, .int .u64 bI, .slice bp bh.length bn] 25 (0, 0)) (by (with_reducible repeat (first | refine blk_drewN ?_ _ | refine blk_drew ?_ | refine blk_alloc ?_ _)); refine blk_put (cs := #[.int .u64 bG, .int .u64 bI, .slice none 0 0]) ?_ 2 _ rfl; (with_reducible repeat (first | refine blk_drewN ?_ _ | refine blk_drew ?_ | refine blk_alloc ?_ _)); refine blk_put (cs := #[.int .u64 bG, .int .u64 0, .slice none 0 0]) ?_ 1 _ rfl; (with_reducible repeat (first | refine blk_drewN ?_ _ | refine blk_drew ?_ | refine blk_alloc ?_ _)); refine blk_put (cs := #[.int .u64 0, .int .u64 0, .slice none 0 0]) ?_ 0 _ rfl; (with_reducible repeat (first | refine blk_drewN ?_ _ | refine blk_drew ?_ | refine blk_alloc ?_ _)); exact bl.out) hb); replace HB := Aside0.mk (below_step zx25_15 hb); clear hb gm) | ((with_reducible refine gate_callee (f := 19) rfl ?_); refine goesL_ (some 51) rfl rfl Tryd.func19 (by kernel_rfl) rfl #[.int .i64 a1, .int .i64 4] rfl zx25_8 ?_; (with_reducible refine (postroomlaw11_pick.calls a1 4 dh _ A13.out).mono ?_); rintro e w' ⟨rfl, ⟨nd, rfl⟩⟩; refine ⟨_, rfl, ?_⟩; (try (rw [drewN_self w46]; generalize hq_ : World.drewN w46 _ = w46; have n0_ : Aside0 (Kd.V k55 55 w46 w.heap.size (fun k_ => some k_ ≠ (.slice bp bh.length bn : Value).ownBlock ∧ some k_ ≠ (hj : Value).ownBlock ∧ k_ ≠ bd ∧ k_ ≠ be) (.slice bK br.length bJ) br) := ⟨by rw [← hq_]; exact (by (with_reducible repeat (first | apply Kd.V_alloc | apply Kd.V_drewN | apply Kd.V_drew)); exact Kd.V_mono bA.out (fun _ hk => ⟨hk.1.1.2, ⟨hk.2, ⟨hk.1.1.1.2, hk.1.2⟩⟩⟩))⟩; have n1_ : Aside0 (Kd.N k55 55 w46 w.heap.size (fun k_ => some k_ ≠ (hj : Value).ownBlock ∧ k_ ≠ bd ∧ k_ ≠ be) (.slice bp bh.length bn) bh) := ⟨by rw [← hq_]; exact (by (with_reducible repeat (first | apply Kd.N_alloc | apply Kd.N_drewN | apply Kd.N_drew)); exact Kd.N_mono bD.out (fun _ hk => ⟨hk.2, ⟨hk.1.1, hk.1.2⟩⟩))⟩; have n2_ : Aside0 (Kd.R Kd.string 9 w46 w.heap.size (fun _ => True) hj bi) := ⟨by rw [← hq_]; exact zx25_6⟩; have n3_ : Aside0 (w46.heap[bd]? = some (.cells #[.int .u64 bk, .int .u64 bB, .slice bK br.length bJ] 25 (0, 0))) := ⟨by rw [← hq_]; exact zx25_0⟩; have n4_ : Aside0 (w46.heap[be]? = some (.cells #[.int .u64 bG, .int .u64 bI, .slice bp bh.length bn] 25 (0, 0))) := ⟨by rw [← hq_]; exact zx25_1⟩; have n5_ : Aside0 (Below w.heap.size w w46) := ⟨by rw [← hq_]; exact zx25_15⟩; clear bA bD bQ bg bl HB hq_; have bA := n0_; have bD := n1_; have bQ := n2_; have bg := n3_; have bl := n4_; have HB := n5_; clear n0_ n1_ n2_ n3_ n4_ n5_)); obtain ⟨oH, bH, mL⟩ := Kd.R_slice bQ.out; subst mL; have hm : 0 ≤ (dh : Int) := of_decide_eq_true (by first | (with_reducible assumption) | assumption); have hl : dh < (bi.length : Int) := of_decide_eq_true (by first | (with_reducible assumption) | assumption); obtain ⟨bj, mO, hX⟩ := Kd.at_string (Kd.R_reads' bQ.out).2.2 dh hm hl; cases mO; replace hm := eq_true hm; replace hl := eq_true hl; have mA : w46.cell? ⟨bd, 0, none⟩ = some (.int .u64 bk) := (blk_cell bg.out 0).trans rfl; have mz : w46.cell? ⟨bd, 1, none⟩ = some (.int .u64 bB) := (blk_cell bg.out 1).trans rfl; have my : w46.cell? ⟨bd, 2, none⟩ = some (.slice bK br.length bJ) := (blk_cell bg.out 2).trans rfl; have me := blk_frozen bg.out 0; have md := blk_frozen bg.out 1; have mc := blk_frozen bg.out 2) | ((with_reducible refine gate_callee (f := 21) rfl ?_); refine goesL_ (some 56) rfl rfl Tryd.func21 (by kernel_rfl) rfl #[.agg #[.int .u64 bk, .int .u64 bB, .slice bK br.length bJ]] rfl zx25_8 ?_; (with_reducible refine (ledger_Add.calls bk bB (fun k_ => (some k_ ≠ (.slice bp bh.length bn : Value).ownBlock ∧ (some k_ ≠ (.slice (some bj) bi.length bH : Value).ownBlock ∧ (k_ ≠ bd ∧ k_ ≠ be)))) _ _ br gD gC bO _ ?side1 A16.out).mono ?_); (case side1 => exact bA.out); rintro e w50 ⟨hh, rfl, ho0, hb⟩; refine ⟨_, rfl, ?_⟩; replace bA := Aside0.mk (Kd.V_elder' zx25_12 (Kd.N_base ho0) hb); have bP := Aside0.mk (Kd.N_lower (Kd.N_mono (ok' := fun k_ => some k_ ≠ (.slice bp bh.length bn : Value).ownBlock ∧ some k_ ≠ (.slice (some bj) bi.length bH : Value).ownBlock ∧ k_ ≠ bd ∧ k_ ≠ be) ho0 (fun k_ hk_ => ⟨Or.elim hk_ (fun hs_ => hs_.1) (fun hn_ => (Kd.fresh' (Kd.N_lt zx25_10) k_ hn_)), Or.elim hk_ (fun hs_ => hs_.2.1) (fun hn_ => (Kd.fresh' (Kd.R_lt zx25_6) k_ hn_)), Or.elim hk_ (fun hs_ => hs_.2.2.1) (fun hn_ => (Kd.freshB (g := bd) (o := .cells #[.int .u64 bk, .int .u64 bB, .slice bK br.length bJ] 25 (0, 0)) zx25_0 k_ hn_)), Or.elim hk_ (fun hs_ => hs_.2.2.2) (fun hn_ => (Kd.freshB (g := be) (o := .cells #[.int .u64 bG, .int .u64 bI, .slice bp bh.length bn] 25 (0, 0)) zx25_1 k_ hn_))⟩)) (below_size zx25_15)); replace bD := Aside0.mk (Kd.N_elder' zx25_10 (Kd.N_base ho0) hb); replace bQ := Aside0.mk (Kd.R_below zx25_6 hb); replace bg := Aside0.mk (blk_below (g := bd) (o := .cells #[.int .u64 bk, .int .u64 bB, .slice bK br.length bJ] 25 (0, 0)) zx25_0 hb); replace bl := Aside0.mk (blk_below (g := be) (o := .cells #[.int .u64 bG, .int .u64 bI, .slice bp bh.length bn] 25 (0, 0)) zx25_1 hb); replace HB := Aside0.mk (below_step zx25_15 hb); (try clear hb); (try clear hb2); (try clear hk); (try clear hi); (try clear ho0)) | ((with_reducible refine gate_callee (f := 19) rfl ?_); refine goesL_ (some 59) rfl rfl Tryd.func19 (by kernel_rfl) rfl #[.int .i64 a2, .int .i64 30] rfl zx25_8 ?_; (with_reducible refine (postroomlaw11_pick.calls a2 30 dQ _ A17.out).mono ?_); rintro e w' ⟨rfl, ⟨nd, rfl⟩⟩; refine ⟨_, rfl, ?_⟩; (try (rw [drewN_self w50]; generalize hq_ : World.drewN w50 _ = w50; have n0_ : Aside0 (Kd.V k55 55 w50 w.heap.size (fun k_ => some k_ ≠ (.slice bp bh.length bn : Value).ownBlock ∧ some k_ ≠ (.slice (some bj) bi.length bH : Value).ownBlock ∧ some k_ ≠ (hh : Value).ownBlock ∧ k_ ≠ bd ∧ k_ ≠ be) (.slice bK br.length bJ) br) := ⟨by rw [← hq_]; exact (by (with_reducible repeat (first | apply Kd.V_alloc | apply Kd.V_drewN | apply Kd.V_drew)); exact Kd.V_mono bA.out (fun _ hk => ⟨hk.1.1, ⟨hk.1.2.1, ⟨hk.2, ⟨hk.1.2.2.1, hk.1.2.2.2⟩⟩⟩⟩))⟩; have n1_ : Aside0 (Kd.N k55 55 w50 w.heap.size (fun k_ => some k_ ≠ (.slice (some bj) bi.length bH : Value).ownBlock ∧ some k_ ≠ (hh : Value).ownBlock ∧ k_ ≠ bd ∧ k_ ≠ be) (.slice bp bh.length bn) bh) := ⟨by rw [← hq_]; exact (by (with_reducible repeat (first | apply Kd.N_alloc | apply Kd.N_drewN | apply Kd.N_drew)); exact Kd.N_mono bD.out (fun _ hk => ⟨hk.1.1, ⟨hk.2, ⟨hk.1.2.1, hk.1.2.2⟩⟩⟩))⟩; have n2_ : Aside0 (Kd.R Kd.string 9 w50 w.heap.size (fun _ => True) (.slice (some bj) bi.length bH) bi) := ⟨by rw [← hq_]; exact zx25_6⟩; have n3_ : Aside0 (Kd.N k55 55 w50 w.heap.size (fun k_ => some k_ ≠ (.slice bp bh.length bn : Value).ownBlock ∧ some k_ ≠ (.slice (some bj) bi.length bH : Value).ownBlock ∧ k_ ≠ bd ∧ k_ ≠ be) hh bO) := ⟨by rw [← hq_]; exact zx25_9⟩; have n4_ : Aside0 (w50.heap[bd]? = some (.cells #[.int .u64 bk, .int .u64 bB, .slice bK br.length bJ] 25 (0, 0))) := ⟨by rw [← hq_]; exact zx25_0⟩; have n5_ : Aside0 (w50.heap[be]? = some (.cells #[.int .u64 bG, .int .u64 bI, .slice bp bh.length bn] 25 (0, 0))) := ⟨by rw [← hq_]; exact zx25_1⟩; have n6_ : Aside0 (Below w.heap.size w w50) := ⟨by rw [← hq_]; exact zx25_15⟩; clear bA bD bQ bP bg bl HB hq_; have bA := n0_; have bD := n1_; have bQ := n2_; have bP := n3_; have bg := n4_; have bl := n5_; have HB := n6_; clear n0_ n1_ n2_ n3_ n4_ n5_ n6_)); obtain ⟨b4, b2, mK⟩ := Kd.N_slice bP.out; subst mK) | ((with_reducible refine gate_callee (f := 20) rfl ?_); refine goesL_ (some 61) rfl rfl Tryd.func20 (by kernel_rfl) rfl #[.agg #[.int .u64 gD, .int .u64 gC, .slice b4 bO.length b2], .string (rdOf ByteArray.empty bi dh), .int .u64 (IntKind.u64.wrap (dQ)), .int .u8 97] rfl zx25_8 ?_; (with_reducible refine (ledger_Done.calls k gD gC (fun k_ => (some k_ ≠ (.slice bp bh.length bn : Value).ownBlock ∧ (some k_ ≠ (.slice (some bj) bi.length bH : Value).ownBlock ∧ (k_ ≠ bd ∧ k_ ≠ be)))) _ _ bO (rdOf ByteArray.empty bi dh) (IntKind.u64.wrap (dQ)) 97 bW b1 bL d1 _ ?side1 A18.out).mono ?_); (case side1 => exact Kd.N_V (bP.out)); rintro e w52 ⟨ox, rfl, ho0, hb⟩; refine ⟨_, rfl, ?_⟩; replace bA := Aside0.mk (Kd.V_below zx25_12 hb); replace bP := Aside0.mk (Kd.N_below zx25_9 hb); have bR := Aside0.mk (Kd.V_lower (Kd.V_mono (ok' := fun k_ => some k_ ≠ (.slice bp bh.length bn : Value).ownBlock ∧ some k_ ≠ (.slice (some bj) bi.length bH : Value).ownBlock ∧ k_ ≠ bd ∧ k_ ≠ be) ho0 (fun k_ hk_ => ⟨Or.elim hk_ (fun hs_ => hs_.1) (fun hn_ => (Kd.fresh' (Kd.N_lt zx25_10) k_ hn_)), Or.elim hk_ (fun hs_ => hs_.2.1) (fun hn_ => (Kd.fresh' (Kd.R_lt zx25_6) k_ hn_)), Or.elim hk_ (fun hs_ => hs_.2.2.1) (fun hn_ => (Kd.freshB (g := bd) (o := .cells #[.int .u64 bk, .int .u64 bB, .slice bK br.length bJ] 25 (0, 0)) zx25_0 k_ hn_)), Or.elim hk_ (fun hs_ => hs_.2.2.2) (fun hn_ => (Kd.freshB (g := be) (o := .cells #[.int .u64 bG, .int .u64 bI, .slice bp bh.length bn] 25 (0, 0)) zx25_1 k_ hn_))⟩)) (below_size zx25_15)); replace bD := Aside0.mk (Kd.N_below zx25_10 hb); replace bQ := Aside0.mk (Kd.R_below zx25_6 hb); replace bg := Aside0.mk (blk_below (g := bd) (o := .cells #[.int .u64 bk, .int .u64 bB, .slice bK br.length bJ] 25 (0, 0)) zx25_0 hb); replace bl := Aside0.mk (blk_below (g := be) (o := .cells #[.int .u64 bG, .int .u64 bI, .slice bp bh.length bn] 25 (0, 0)) zx25_1 hb); replace HB := Aside0.mk (below_step zx25_15 hb); (try clear hb); (try clear hb2); (try clear hk); (try clear hi); (try clear ho0)) | ((with_reducible refine gate_dst (N := 14) rfl ?_); (try (refine gate_guard (by rfl) ?_; dsimp only)); refine box_event ?hg (N := 14) ?hd (cs := #[.int .u64 0, .int .u64 0, .slice none 0 0]) (t := 25) ?hr ?_; (case hd => rfl); (case hg => rfl); (case hr => first | (go_simp; done) | (go_simp; rfl)); intro bf hg w53 hbox hb; replace bA := Aside0.mk (Kd.V_below (Kd.V_elderB zx25_12 bf (Nat.le_of_eq hg.symm)) hb); replace bD := Aside0.mk (Kd.N_below (Kd.N_elderB zx25_10 bf (Nat.le_of_eq hg.symm)) hb); replace bQ := Aside0.mk (Kd.R_below zx25_6 hb); replace bP := Aside0.mk (Kd.N_below (Kd.N_elderB zx25_9 bf (Nat.le_of_eq hg.symm)) hb); replace bR := Aside0.mk (Kd.V_below (Kd.V_elderB zx25_14 bf (Nat.le_of_eq hg.symm)) hb); have bx := Aside0.mk (hbox); have oq := Aside0.mk ((by rw [hg]; exact (below_size zx25_15) : w.heap.size ≤ bf)); have dZ := Aside0.mk ((by rw [hg]; exact (below_size zx25_15) : w.heap.size ≤ bf)); replace HB := Aside0.mk (below_step zx25_15 hb); have d8 := Aside0.mk ((by rw [hg]; exact Nat.ne_of_lt (blk_lt (g := bd) (o := .cells #[.int .u64 bk, .int .u64 bB, .slice bK br.length bJ] 25 (0, 0)) zx25_0) : bd ≠ bf)); have gs := Aside0.mk ((by rw [hg]; exact Nat.ne_of_gt (blk_lt (g := bd) (o := .cells #[.int .u64 bk, .int .u64 bB, .slice bK br.length bJ] 25 (0, 0)) zx25_0) : bf ≠ bd)); replace bg := Aside0.mk (blk_below (g := bd) (o := .cells #[.int .u64 bk, .int .u64 bB, .slice bK br.length bJ] 25 (0, 0)) zx25_0 hb); have d6 := Aside0.mk ((by rw [hg]; exact Nat.ne_of_lt (blk_lt (g := be) (o := .cells #[.int .u64 bG, .int .u64 bI, .slice bp bh.length bn] 25 (0, 0)) zx25_1) : be ≠ bf)); have gr := Aside0.mk ((by rw [hg]; exact Nat.ne_of_gt (blk_lt (g := be) (o := .cells #[.int .u64 bG, .int .u64 bI, .slice bp bh.length bn] 25 (0, 0)) zx25_1) : bf ≠ be)); replace bl := Aside0.mk (blk_below (g := be) (o := .cells #[.int .u64 bG, .int .u64 bI, .slice bp bh.length bn] 25 (0, 0)) zx25_1 hb); clear hb hbox hg; have m5 := gs.out; have mZ := d8.out; have m4 := gr.out; have mY := d6.out; have mw : w53.cell? ⟨bf, 0, none⟩ = some (.int .u64 0) := (blk_cell bx.out 0).trans rfl; have mv : w53.cell? ⟨bf, 1, none⟩ = some (.int .u64 0) := (blk_cell bx.out 1).trans rfl; have mu : w53.cell? ⟨bf, 2, none⟩ = some (.slice none 0 0) := (blk_cell bx.out 2).trans rfl; have mb := blk_frozen bx.out 0; have ma := blk_frozen bx.out 1; have j9 := blk_frozen bx.out 2; obtain ⟨b6, b5, mJ⟩ := Kd.V_slice bR.out; subst mJ) | ((with_reducible refine gate_store (t := 25) (p := 14) rfl ?_); refine store_event (t := 25) (p := 14) (v := ?vo_w58) (w1 := (((w53.setCell ⟨bf, 0, none⟩ (.int .u64 bW)).setCell ⟨bf, 1, none⟩ (.int .u64 b1)).setCell ⟨bf, 2, none⟩ (.slice b6 bL.length b5))) ?hg ?ho ?hn ?hr ?_; (case ho => rfl); (case hg => rfl); (case hn => rfl); (case hr => first | (go_simp; done) | (go_simp; rfl)); intro w58 hw; have n0_ : Aside0 (Kd.V k55 55 w58 w.heap.size (fun k_ => some k_ ≠ (.slice bp bh.length bn : Value).ownBlock ∧ some k_ ≠ (.slice (some bj) bi.length bH : Value).ownBlock ∧ some k_ ≠ (.slice b4 bO.length b2 : Value).ownBlock ∧ k_ ≠ bd ∧ k_ ≠ be ∧ k_ ≠ bf) (.slice bK br.length bJ) br) := ⟨(by rw [hw]; exact (by (with_reducible repeat (first | apply Kd.V_alloc | apply Kd.V_drewN | apply Kd.V_drew)); exact Kd.V_mono (Kd.V_far (p := ⟨bf, 2, none⟩) (Kd.V_far (p := ⟨bf, 1, none⟩) (Kd.V_far (p := ⟨bf, 0, none⟩) (Kd.V_mono bA.out (fun k_ hk => (⟨hk, hk.2⟩ : _ ∧ k_ ≠ bf))) (fun _ hk => hk.2) (.int .u64 bW)) (fun _ hk => hk.2) (.int .u64 b1)) (fun _ hk => hk.2) (.slice b6 bL.length b5)) (fun _ hk => ⟨hk.1.1.1, ⟨hk.1.1.2.1, ⟨hk.1.1.2.2.1, ⟨hk.1.1.2.2.2.1, ⟨hk.1.1.2.2.2.2, hk.1.2⟩⟩⟩⟩⟩)))⟩; have n1_ : Aside0 (Kd.N k55 55 w58 w.heap.size (fun k_ => some k_ ≠ (.slice (some bj) bi.length bH : Value).ownBlock ∧ some k_ ≠ (.slice b4 bO.length b2 : Value).ownBlock ∧ k_ ≠ bd ∧ k_ ≠ be ∧ k_ ≠ bf) (.slice bp bh.length bn) bh) := ⟨(by rw [hw]; exact (by (with_reducible repeat (first | apply Kd.N_alloc | apply Kd.N_drewN | apply Kd.N_drew)); exact Kd.N_mono (Kd.N_far (p := ⟨bf, 2, none⟩) (Kd.N_far (p := ⟨bf, 1, none⟩) (Kd.N_far (p := ⟨bf, 0, none⟩) (Kd.N_mono bD.out (fun k_ hk => (⟨hk, hk.2⟩ : _ ∧ k_ ≠ bf))) (fun _ hk => hk.2) (.int .u64 bW)) (fun _ hk => hk.2) (.int .u64 b1)) (fun _ hk => hk.2) (.slice b6 bL.length b5)) (fun _ hk => ⟨hk.1.1.1, ⟨hk.1.1.2.1, ⟨hk.1.1.2.2.1, ⟨hk.1.1.2.2.2, hk.1.2⟩⟩⟩⟩)))⟩; have n2_ : Aside0 (Kd.R Kd.string 9 w58 w.heap.size (fun _ => True) (.slice (some bj) bi.length bH) bi) := ⟨(by rw [hw]; exact (by (with_reducible repeat (first | apply Kd.R_alloc | apply Kd.R_drewN | apply Kd.R_drew)); exact Kd.R_mono (Kd.R_far (p := ⟨bf, 2, none⟩) (Kd.R_far (p := ⟨bf, 1, none⟩) (Kd.R_far (p := ⟨bf, 0, none⟩) (Kd.R_types bQ.out bx.out (by decide)) (fun _ hk => hk.2) (.int .u64 bW)) (fun _ hk => hk.2) (.int .u64 b1)) (fun _ hk => hk.2) (.slice b6 bL.length b5)) (fun _ hk => trivial)))⟩; have n3_ : Aside0 (Kd.N k55 55 w58 w.heap.size (fun k_ => some k_ ≠ (.slice bp bh.length bn : Value).ownBlock ∧ some k_ ≠ (.slice (some bj) bi.length bH : Value).ownBlock ∧ k_ ≠ bd ∧ k_ ≠ be ∧ k_ ≠ bf) (.slice b4 bO.length b2) bO) := ⟨(by rw [hw]; exact (by (with_reducible repeat (first | apply Kd.N_alloc | apply Kd.N_drewN | apply Kd.N_drew)); exact Kd.N_mono (Kd.N_far (p := ⟨bf, 2, none⟩) (Kd.N_far (p := ⟨bf, 1, none⟩) (Kd.N_far (p := ⟨bf, 0, none⟩) (Kd.N_mono bP.out (fun k_ hk => (⟨hk, hk.2⟩ : _ ∧ k_ ≠ bf))) (fun _ hk => hk.2) (.int .u64 bW)) (fun _ hk => hk.2) (.int .u64 b1)) (fun _ hk => hk.2) (.slice b6 bL.length b5)) (fun _ hk => ⟨hk.1.1.1, ⟨hk.1.1.2.1, ⟨hk.1.1.2.2.1, ⟨hk.1.1.2.2.2, hk.1.2⟩⟩⟩⟩)))⟩; have n4_ : Aside0 (Kd.V k55 55 w58 w.heap.size (fun k_ => some k_ ≠ (.slice bp bh.length bn : Value).ownBlock ∧ some k_ ≠ (.slice (some bj) bi.length bH : Value).ownBlock ∧ k_ ≠ bd ∧ k_ ≠ be ∧ k_ ≠ bf) (.slice b6 bL.length b5) bL) := ⟨(by rw [hw]; exact (by (with_reducible repeat (first | apply Kd.V_alloc | apply Kd.V_drewN | apply Kd.V_drew)); exact Kd.V_mono (Kd.V_far (p := ⟨bf, 2, none⟩) (Kd.V_far (p := ⟨bf, 1, none⟩) (Kd.V_far (p := ⟨bf, 0, none⟩) (Kd.V_mono bR.out (fun k_ hk => (⟨hk, hk.2⟩ : _ ∧ k_ ≠ bf))) (fun _ hk => hk.2) (.int .u64 bW)) (fun _ hk => hk.2) (.int .u64 b1)) (fun _ hk => hk.2) (.slice b6 bL.length b5)) (fun _ hk => ⟨hk.1.1.1, ⟨hk.1.1.2.1, ⟨hk.1.1.2.2.1, ⟨hk.1.1.2.2.2, hk.1.2⟩⟩⟩⟩)))⟩; have n5_ : Aside0 (w58.heap[bd]? = some (.cells #[.int .u64 bk, .int .u64 bB, .slice bK br.length bJ] 25 (0, 0))) := ⟨(by rw [hw]; exact (by (iterate 3 ((with_reducible repeat (first | refine blk_drewN ?_ _ | refine blk_drew ?_ | refine blk_alloc ?_ _)); refine blk_far ?_ d8.out _)); (with_reducible repeat (first | refine blk_drewN ?_ _ | refine blk_drew ?_ | refine blk_alloc ?_ _)); exact bg.out))⟩; have n6_ : Aside0 (w58.heap[be]? = some (.cells #[.int .u64 bG, .int .u64 bI, .slice bp bh.length bn] 25 (0, 0))) := ⟨(by rw [hw]; exact (by (iterate 3 ((with_reducible repeat (first | refine blk_drewN ?_ _ | refine blk_drew ?_ | refine blk_alloc ?_ _)); refine blk_far ?_ d6.out _)); (with_reducible repeat (first | refine blk_drewN ?_ _ | refine blk_drew ?_ | refine blk_alloc ?_ _)); exact bl.out))⟩; have n7_ : Aside0 (w58.heap[bf]? = some (.cells #[.int .u64 bW, .int .u64 b1, .slice b6 bL.length b5] 25 (0, 0))) := ⟨(by rw [hw]; exact (by (with_reducible repeat (first | refine blk_drewN ?_ _ | refine blk_drew ?_ | refine blk_alloc ?_ _)); refine blk_put (cs := #[.int .u64 bW, .int .u64 b1, .slice none 0 0]) ?_ 2 _ rfl; (with_reducible repeat (first | refine blk_drewN ?_ _ | refine blk_drew ?_ | refine blk_alloc ?_ _)); refine blk_put (cs := #[.int .u64 bW, .int .u64 0, .slice none 0 0]) ?_ 1 _ rfl; (with_reducible repeat (first | refine blk_drewN ?_ _ | refine blk_drew ?_ | refine blk_alloc ?_ _)); refine blk_put (cs := #[.int .u64 0, .int .u64 0, .slice none 0 0]) ?_ 0 _ rfl; (with_reducible repeat (first | refine blk_drewN ?_ _ | refine blk_drew ?_ | refine blk_alloc ?_ _)); exact bx.out))⟩; have n8_ : Aside0 (Below w.heap.size w w58) := ⟨(by rw [hw]; exact zx25_18)⟩; clear hw; clear bA; clear bD; clear bQ; clear bP; clear bR; clear bg; clear bl; clear bx; clear HB; have bA := n0_; have bD := n1_; have bQ := n2_; have bP := n3_; have bR := n4_; have bg := n5_; have bl := n6_; have bx := n7_; have HB := n8_; clear n0_ n1_ n2_ n3_ n4_ n5_ n6_ n7_ n8_; have mt : w58.cell? ⟨be, 0, none⟩ = some (.int .u64 bG) := (blk_cell bl.out 0).trans rfl; have ms : w58.cell? ⟨be, 1, none⟩ = some (.int .u64 bI) := (blk_cell bl.out 1).trans rfl; have mr : w58.cell? ⟨be, 2, none⟩ = some (.slice bp bh.length bn) := (blk_cell bl.out 2).trans rfl; have j8 := blk_frozen bl.out 0; have j7 := blk_frozen bl.out 1; have j6 := blk_frozen bl.out 2) | ((with_reducible refine gate_callee (f := 21) rfl ?_); refine goesL_ (some 66) rfl rfl Tryd.func21 (by kernel_rfl) rfl #[.agg #[.int .u64 bG, .int .u64 bI, .slice bp bh.length bn]] rfl zx25_8 ?_; (with_reducible refine (ledger_Add.calls bG bI (fun k_ => (some k_ ≠ (.slice (some bj) bi.length bH : Value).ownBlock ∧ (some k_ ≠ (.slice b4 bO.length b2 : Value).ownBlock ∧ (k_ ≠ bd ∧ (k_ ≠ be ∧ k_ ≠ bf))))) _ _ bh gB gA b0 _ ?side1 A19.out).mono ?_); (case side1 => exact Kd.N_V (bD.out)); rintro e w60 ⟨gu, rfl, ho0, hb⟩; refine ⟨_, rfl, ?_⟩; replace bA := Aside0.mk (Kd.V_elder' zx25_12 (Kd.N_base ho0) hb); replace bD := Aside0.mk (Kd.N_elder' zx25_10 (Kd.N_base ho0) hb); replace bR := Aside0.mk (Kd.V_elder' zx25_14 (Kd.N_base ho0) hb); have b3 := Aside0.mk (Kd.N_lower (Kd.N_mono (ok' := fun k_ => some k_ ≠ (.slice (some bj) bi.length bH : Value).ownBlock ∧ some k_ ≠ (.slice b4 bO.length b2 : Value).ownBlock ∧ k_ ≠ bd ∧ k_ ≠ be ∧ k_ ≠ bf) ho0 (fun k_ hk_ => ⟨Or.elim hk_ (fun hs_ => hs_.1) (fun hn_ => (Kd.fresh' (Kd.R_lt zx25_6) k_ hn_)), Or.elim hk_ (fun hs_ => hs_.2.1) (fun hn_ => (Kd.fresh' (Kd.N_lt zx25_9) k_ hn_)), Or.elim hk_ (fun hs_ => hs_.2.2.1) (fun hn_ => (Kd.freshB (g := bd) (o := .cells #[.int .u64 bk, .int .u64 bB, .slice bK br.length bJ] 25 (0, 0)) zx25_0 k_ hn_)), Or.elim hk_ (fun hs_ => hs_.2.2.2.1) (fun hn_ => (Kd.freshB (g := be) (o := .cells #[.int .u64 bG, .int .u64 bI, .slice bp bh.length bn] 25 (0, 0)) zx25_1 k_ hn_)), Or.elim hk_ (fun hs_ => hs_.2.2.2.2) (fun hn_ => (Kd.freshB (g := bf) (o := .cells #[.int .u64 bW, .int .u64 b1, .slice b6 bL.length b5] 25 (0, 0)) zx25_2 k_ hn_))⟩)) (below_size zx25_18)); replace bQ := Aside0.mk (Kd.R_below zx25_6 hb); replace bP := Aside0.mk (Kd.N_elder' zx25_9 (Kd.N_base ho0) hb); replace bg := Aside0.mk (blk_below (g := bd) (o := .cells #[.int .u64 bk, .int .u64 bB, .slice bK br.length bJ] 25 (0, 0)) zx25_0 hb); replace bl := Aside0.mk (blk_below (g := be) (o := .cells #[.int .u64 bG, .int .u64 bI, .slice bp bh.length bn] 25 (0, 0)) zx25_1 hb); replace bx := Aside0.mk (blk_below (g := bf) (o := .cells #[.int .u64 bW, .int .u64 b1, .slice b6 bL.length b5] 25 (0, 0)) zx25_2 hb); replace HB := Aside0.mk (below_step zx25_18 hb); (try clear hb); (try clear hb2); (try clear hk); (try clear hi); (try clear ho0)) | ((with_reducible refine gate_callee (f := 19) rfl ?_); refine goesL_ (some 69) rfl rfl Tryd.func19 (by kernel_rfl) rfl #[.int .i64 a2, .int .i64 30] rfl zx25_8 ?_; (with_reducible refine (postroomlaw11_pick.calls a2 30 dP _ A20.out).mono ?_); rintro e w' ⟨rfl, ⟨nd, rfl⟩⟩; refine ⟨_, rfl, ?_⟩; (try (rw [drewN_self w60]; generalize hq_ : World.drewN w60 _ = w60; have n0_ : Aside0 (Kd.V k55 55 w60 w.heap.size (fun k_ => some k_ ≠ (.slice bp bh.length bn : Value).ownBlock ∧ some k_ ≠ (.slice (some bj) bi.length bH : Value).ownBlock ∧ some k_ ≠ (.slice b4 bO.length b2 : Value).ownBlock ∧ some k_ ≠ (gu : Value).ownBlock ∧ k_ ≠ bd ∧ k_ ≠ be ∧ k_ ≠ bf) (.slice bK br.length bJ) br) := ⟨by rw [← hq_]; exact (by (with_reducible repeat (first | apply Kd.V_alloc | apply Kd.V_drewN | apply Kd.V_drew)); exact Kd.V_mono bA.out (fun _ hk => ⟨hk.1.1, ⟨hk.1.2.1, ⟨hk.1.2.2.1, ⟨hk.2, ⟨hk.1.2.2.2.1, ⟨hk.1.2.2.2.2.1, hk.1.2.2.2.2.2⟩⟩⟩⟩⟩⟩))⟩; have n1_ : Aside0 (Kd.N k55 55 w60 w.heap.size (fun k_ => some k_ ≠ (.slice (some bj) bi.length bH : Value).ownBlock ∧ some k_ ≠ (.slice b4 bO.length b2 : Value).ownBlock ∧ some k_ ≠ (gu : Value).ownBlock ∧ k_ ≠ bd ∧ k_ ≠ be ∧ k_ ≠ bf) (.slice bp bh.length bn) bh) := ⟨by rw [← hq_]; exact (by (with_reducible repeat (first | apply Kd.N_alloc | apply Kd.N_drewN | apply Kd.N_drew)); exact Kd.N_mono bD.out (fun _ hk => ⟨hk.1.1, ⟨hk.1.2.1, ⟨hk.2, ⟨hk.1.2.2.1, ⟨hk.1.2.2.2.1, hk.1.2.2.2.2⟩⟩⟩⟩⟩))⟩; have n2_ : Aside0 (Kd.R Kd.string 9 w60 w.heap.size (fun _ => True) (.slice (some bj) bi.length bH) bi) := ⟨by rw [← hq_]; exact zx25_6⟩; have n3_ : Aside0 (Kd.N k55 55 w60 w.heap.size (fun k_ => some k_ ≠ (.slice bp bh.length bn : Value).ownBlock ∧ some k_ ≠ (.slice (some bj) bi.length bH : Value).ownBlock ∧ some k_ ≠ (gu : Value).ownBlock ∧ k_ ≠ bd ∧ k_ ≠ be ∧ k_ ≠ bf) (.slice b4 bO.length b2) bO) := ⟨by rw [← hq_]; exact (by (with_reducible repeat (first | apply Kd.N_alloc | apply Kd.N_drewN | apply Kd.N_drew)); exact Kd.N_mono bP.out (fun _ hk => ⟨hk.1.1, ⟨hk.1.2.1, ⟨hk.2, ⟨hk.1.2.2.1, ⟨hk.1.2.2.2.1, hk.1.2.2.2.2⟩⟩⟩⟩⟩))⟩; have n4_ : Aside0 (Kd.V k55 55 w60 w.heap.size (fun k_ => some k_ ≠ (.slice bp bh.length bn : Value).ownBlock ∧ some k_ ≠ (.slice (some bj) bi.length bH : Value).ownBlock ∧ some k_ ≠ (gu : Value).ownBlock ∧ k_ ≠ bd ∧ k_ ≠ be ∧ k_ ≠ bf) (.slice b6 bL.length b5) bL) := ⟨by rw [← hq_]; exact (by (with_reducible repeat (first | apply Kd.V_alloc | apply Kd.V_drewN | apply Kd.V_drew)); exact Kd.V_mono bR.out (fun _ hk => ⟨hk.1.1, ⟨hk.1.2.1, ⟨hk.2, ⟨hk.1.2.2.1, ⟨hk.1.2.2.2.1, hk.1.2.2.2.2⟩⟩⟩⟩⟩))⟩; have n5_ : Aside0 (Kd.N k55 55 w60 w.heap.size (fun k_ => some k_ ≠ (.slice (some bj) bi.length bH : Value).ownBlock ∧ some k_ ≠ (.slice b4 bO.length b2 : Value).ownBlock ∧ k_ ≠ bd ∧ k_ ≠ be ∧ k_ ≠ bf) gu b0) := ⟨by rw [← hq_]; exact zx25_11⟩; have n6_ : Aside0 (w60.heap[bd]? = some (.cells #[.int .u64 bk, .int .u64 bB, .slice bK br.length bJ] 25 (0, 0))) := ⟨by rw [← hq_]; exact zx25_0⟩; have n7_ : Aside0 (w60.heap[be]? = some (.cells #[.int .u64 bG, .int .u64 bI, .slice bp bh.length bn] 25 (0, 0))) := ⟨by rw [← hq_]; exact zx25_1⟩; have n8_ : Aside0 (w60.heap[bf]? = some (.cells #[.int .u64 bW, .int .u64 b1, .slice b6 bL.length b5] 25 (0, 0))) := ⟨by rw [← hq_]; exact zx25_2⟩; have n9_ : Aside0 (Below w.heap.size w w60) := ⟨by rw [← hq_]; exact zx25_18⟩; clear bA bD bQ bP bR b3 bg bl bx HB hq_; have bA := n0_; have bD := n1_; have bQ := n2_; have bP := n3_; have bR := n4_; have b3 := n5_; have bg := n6_; have bl := n7_; have bx := n8_; have HB := n9_; clear n0_ n1_ n2_ n3_ n4_ n5_ n6_ n7_ n8_ n9_)); obtain ⟨dj, di, mI⟩ := Kd.N_slice b3.out; subst mI) | ((with_reducible refine gate_callee (f := 20) rfl ?_); refine goesL_ (some 71) rfl rfl Tryd.func20 (by kernel_rfl) rfl #[.agg #[.int .u64 gB, .int .u64 gA, .slice dj b0.length di], .string (rdOf ByteArray.empty bi dh), .int .u64 (IntKind.u64.wrap (dP)), .int .u8 97] rfl zx25_8 ?_; (with_reducible refine (ledger_Done.calls k gB gA (fun k_ => (some k_ ≠ (.slice (some bj) bi.length bH : Value).ownBlock ∧ (some k_ ≠ (.slice b4 bO.length b2 : Value).ownBlock ∧ (k_ ≠ bd ∧ (k_ ≠ be ∧ k_ ≠ bf))))) _ _ b0 (rdOf ByteArray.empty bi dh) (IntKind.u64.wrap (dP)) 97 bU bV bM gf _ ?side1 A21.out).mono ?_); (case side1 => exact Kd.N_V (b3.out)); rintro e w62 ⟨ow, rfl, ho0, hb⟩; refine ⟨_, rfl, ?_⟩; replace bA := Aside0.mk (Kd.V_below zx25_12 hb); replace bD := Aside0.mk (Kd.N_below zx25_10 hb); replace bR := Aside0.mk (Kd.V_below zx25_14 hb); replace b3 := Aside0.mk (Kd.N_below zx25_11 hb); have db := Aside0.mk (Kd.V_lower (Kd.V_mono (ok' := fun k_ => some k_ ≠ (.slice (some bj) bi.length bH : Value).ownBlock ∧ some k_ ≠ (.slice b4 bO.length b2 : Value).ownBlock ∧ k_ ≠ bd ∧ k_ ≠ be ∧ k_ ≠ bf) ho0 (fun k_ hk_ => ⟨Or.elim hk_ (fun hs_ => hs_.1) (fun hn_ => (Kd.fresh' (Kd.R_lt zx25_6) k_ hn_)), Or.elim hk_ (fun hs_ => hs_.2.1) (fun hn_ => (Kd.fresh' (Kd.N_lt zx25_9) k_ hn_)), Or.elim hk_ (fun hs_ => hs_.2.2.1) (fun hn_ => (Kd.freshB (g := bd) (o := .cells #[.int .u64 bk, .int .u64 bB, .slice bK br.length bJ] 25 (0, 0)) zx25_0 k_ hn_)), Or.elim hk_ (fun hs_ => hs_.2.2.2.1) (fun hn_ => (Kd.freshB (g := be) (o := .cells #[.int .u64 bG, .int .u64 bI, .slice bp bh.length bn] 25 (0, 0)) zx25_1 k_ hn_)), Or.elim hk_ (fun hs_ => hs_.2.2.2.2) (fun hn_ => (Kd.freshB (g := bf) (o := .cells #[.int .u64 bW, .int .u64 b1, .slice b6 bL.length b5] 25 (0, 0)) zx25_2 k_ hn_))⟩)) (below_size zx25_18)); replace bQ := Aside0.mk (Kd.R_below zx25_6 hb); replace bP := Aside0.mk (Kd.N_below zx25_9 hb); replace bg := Aside0.mk (blk_below (g := bd) (o := .cells #[.int .u64 bk, .int .u64 bB, .slice bK br.length bJ] 25 (0, 0)) zx25_0 hb); replace bl := Aside0.mk (blk_below (g := be) (o := .cells #[.int .u64 bG, .int .u64 bI, .slice bp bh.length bn] 25 (0, 0)) zx25_1 hb); replace bx := Aside0.mk (blk_below (g := bf) (o := .cells #[.int .u64 bW, .int .u64 b1, .slice b6 bL.length b5] 25 (0, 0)) zx25_2 hb); replace HB := Aside0.mk (below_step zx25_18 hb); (try clear hb); (try clear hb2); (try clear hk); (try clear hi); (try clear ho0)) | ((with_reducible refine gate_dst (N := 16) rfl ?_); (try (refine gate_guard (by rfl) ?_; dsimp only)); refine box_event ?hg (N := 16) ?hd (cs := #[.int .u64 0, .int .u64 0, .slice none 0 0]) (t := 25) ?hr ?_; (case hd => rfl); (case hg => rfl); (case hr => first | (go_simp; done) | (go_simp; rfl)); intro bc hg w63 hbox hb; replace bA := Aside0.mk (Kd.V_below (Kd.V_elderB zx25_12 bc (Nat.le_of_eq hg.symm)) hb); replace bD := Aside0.mk (Kd.N_below (Kd.N_elderB zx25_10 bc (Nat.le_of_eq hg.symm)) hb); replace bQ := Aside0.mk (Kd.R_below zx25_6 hb); replace bP := Aside0.mk (Kd.N_below (Kd.N_elderB zx25_9 bc (Nat.le_of_eq hg.symm)) hb); replace bR := Aside0.mk (Kd.V_below (Kd.V_elderB zx25_14 bc (Nat.le_of_eq hg.symm)) hb); replace b3 := Aside0.mk (Kd.N_below (Kd.N_elderB zx25_11 bc (Nat.le_of_eq hg.symm)) hb); replace db := Aside0.mk (Kd.V_below (Kd.V_elderB zx25_17 bc (Nat.le_of_eq hg.symm)) hb); have bE := Aside0.mk (hbox); have op := Aside0.mk ((by rw [hg]; exact (below_size zx25_18) : w.heap.size ≤ bc)); have d2 := Aside0.mk ((by rw [hg]; exact (below_size zx25_18) : w.heap.size ≤ bc)); replace HB := Aside0.mk (below_step zx25_18 hb); have d7 := Aside0.mk ((by rw [hg]; exact Nat.ne_of_lt (blk_lt (g := bd) (o := .cells #[.int .u64 bk, .int .u64 bB, .slice bK br.length bJ] 25 (0, 0)) zx25_0) : bd ≠ bc)); have gq := Aside0.mk ((by rw [hg]; exact Nat.ne_of_gt (blk_lt (g := bd) (o := .cells #[.int .u64 bk, .int .u64 bB, .slice bK br.length bJ] 25 (0, 0)) zx25_0) : bc ≠ bd)); replace bg := Aside0.mk (blk_below (g := bd) (o := .cells #[.int .u64 bk, .int .u64 bB, .slice bK br.length bJ] 25 (0, 0)) zx25_0 hb); have d5 := Aside0.mk ((by rw [hg]; exact Nat.ne_of_lt (blk_lt (g := be) (o := .cells #[.int .u64 bG, .int .u64 bI, .slice bp bh.length bn] 25 (0, 0)) zx25_1) : be ≠ bc)); have gp := Aside0.mk ((by rw [hg]; exact Nat.ne_of_gt (blk_lt (g := be) (o := .cells #[.int .u64 bG, .int .u64 bI, .slice bp bh.length bn] 25 (0, 0)) zx25_1) : bc ≠ be)); replace bl := Aside0.mk (blk_below (g := be) (o := .cells #[.int .u64 bG, .int .u64 bI, .slice bp bh.length bn] 25 (0, 0)) zx25_1 hb); have d4 := Aside0.mk ((by rw [hg]; exact Nat.ne_of_lt (blk_lt (g := bf) (o := .cells #[.int .u64 bW, .int .u64 b1, .slice b6 bL.length b5] 25 (0, 0)) zx25_2) : bf ≠ bc)); have go := Aside0.mk ((by rw [hg]; exact Nat.ne_of_gt (blk_lt (g := bf) (o := .cells #[.int .u64 bW, .int .u64 b1, .slice b6 bL.length b5] 25 (0, 0)) zx25_2) : bc ≠ bf)); replace bx := Aside0.mk (blk_below (g := bf) (o := .cells #[.int .u64 bW, .int .u64 b1, .slice b6 bL.length b5] 25 (0, 0)) zx25_2 hb); clear hb hbox hg; have m3 := gq.out; have mX := d7.out; have m2 := gp.out; have mW := d5.out; have m1 := go.out; have mV := d4.out; have mq : w63.cell? ⟨bc, 0, none⟩ = some (.int .u64 0) := (blk_cell bE.out 0).trans rfl; have mo : w63.cell? ⟨bc, 1, none⟩ = some (.int .u64 0) := (blk_cell bE.out 1).trans rfl; have mm : w63.cell? ⟨bc, 2, none⟩ = some (.slice none 0 0) := (blk_cell bE.out 2).trans rfl; have j5 := blk_frozen bE.out 0; have j4 := blk_frozen bE.out 1; have j3 := blk_frozen bE.out 2; obtain ⟨bY, bX, mH⟩ := Kd.V_slice db.out; subst mH))
 have n0_ : Aside0 (Kd.V k55 55 (((w63.setCell ⟨bc, 0, none⟩ (.int .u64 bU)).setCell ⟨bc, 1, none⟩ (.int .u64 bV)).setCell ⟨bc, 2, none⟩ (.slice bY bM.length bX)) w.heap.size (fun k_ => some k_ ≠ (.slice bp bh.length bn : Value).ownBlock ∧ some k_ ≠ (.slice (some bj) bi.length bH : Value).ownBlock ∧ some k_ ≠ (.slice b4 bO.length b2 : Value).ownBlock ∧ some k_ ≠ (.slice dj b0.length di : Value).ownBlock ∧ k_ ≠ bd ∧ k_ ≠ be ∧ k_ ≠ bf ∧ k_ ≠ bc) (.slice bK br.length bJ) br) := ⟨by (with_reducible repeat (first | apply Kd.V_alloc | apply Kd.V_drewN | apply Kd.V_drew)); exact Kd.V_mono (Kd.V_far (p := ⟨bc, 2, none⟩) (Kd.V_far (p := ⟨bc, 1, none⟩) (Kd.V_far (p := ⟨bc, 0, none⟩) (Kd.V_mono bA.out (fun k_ hk => (⟨hk, hk.2⟩ : _ ∧ k_ ≠ bc))) (fun _ hk => hk.2) (.int .u64 bU)) (fun _ hk => hk.2) (.int .u64 bV)) (fun _ hk => hk.2) (.slice bY bM.length bX)) (fun _ hk => ⟨hk.1.1.1, ⟨hk.1.1.2.1, ⟨hk.1.1.2.2.1, ⟨hk.1.1.2.2.2.1, ⟨hk.1.1.2.2.2.2.1, ⟨hk.1.1.2.2.2.2.2.1, ⟨hk.1.1.2.2.2.2.2.2, hk.1.2⟩⟩⟩⟩⟩⟩⟩)⟩
 have n1_ : Aside0 (Kd.N k55 55 (((w63.setCell ⟨bc, 0, none⟩ (.int .u64 bU)).setCell ⟨bc, 1, none⟩ (.int .u64 bV)).setCell ⟨bc, 2, none⟩ (.slice bY bM.length bX)) w.heap.size (fun k_ => some k_ ≠ (.slice (some bj) bi.length bH : Value).ownBlock ∧ some k_ ≠ (.slice b4 bO.length b2 : Value).ownBlock ∧ some k_ ≠ (.slice dj b0.length di : Value).ownBlock ∧ k_ ≠ bd ∧ k_ ≠ be ∧ k_ ≠ bf ∧ k_ ≠ bc) (.slice bp bh.length bn) bh) := ⟨by (with_reducible repeat (first | apply Kd.N_alloc | apply Kd.N_drewN | apply Kd.N_drew)); exact Kd.N_mono (Kd.N_far (p := ⟨bc, 2, none⟩) (Kd.N_far (p := ⟨bc, 1, none⟩) (Kd.N_far (p := ⟨bc, 0, none⟩) (Kd.N_mono bD.out (fun k_ hk => (⟨hk, hk.2⟩ : _ ∧ k_ ≠ bc))) (fun _ hk => hk.2) (.int .u64 bU)) (fun _ hk => hk.2) (.int .u64 bV)) (fun _ hk => hk.2) (.slice bY bM.length bX)) (fun _ hk => ⟨hk.1.1.1, ⟨hk.1.1.2.1, ⟨hk.1.1.2.2.1, ⟨hk.1.1.2.2.2.1, ⟨hk.1.1.2.2.2.2.1, ⟨hk.1.1.2.2.2.2.2, hk.1.2⟩⟩⟩⟩⟩⟩)⟩
 have n2_ : Aside0 (Kd.R Kd.string 9 (((w63.setCell ⟨bc, 0, none⟩ (.int .u64 bU)).setCell ⟨bc, 1, none⟩ (.int .u64 bV)).setCell ⟨bc, 2, none⟩ (.slice bY bM.length bX)) w.heap.size (fun _ => True) (.slice (some bj) bi.length bH) bi) := ⟨by (with_reducible repeat (first | apply Kd.R_alloc | apply Kd.R_drewN | apply Kd.R_drew)); exact Kd.R_mono (Kd.R_far (p := ⟨bc, 2, none⟩) (Kd.R_far (p := ⟨bc, 1, none⟩) (Kd.R_far (p := ⟨bc, 0, none⟩) (Kd.R_types bQ.out bE.out (by decide)) (fun _ hk => hk.2) (.int .u64 bU)) (fun _ hk => hk.2) (.int .u64 bV)) (fun _ hk => hk.2) (.slice bY bM.length bX)) (fun _ hk => trivial)⟩
 have n3_ : Aside0 (Kd.N k55 55 (((w63.setCell ⟨bc, 0, none⟩ (.int .u64 bU)).setCell ⟨bc, 1, none⟩ (.int .u64 bV)).setCell ⟨bc, 2, none⟩ (.slice bY bM.length bX)) w.heap.size (fun k_ => some k_ ≠ (.slice bp bh.length bn : Value).ownBlock ∧ some k_ ≠ (.slice (some bj) bi.length bH : Value).ownBlock ∧ some k_ ≠ (.slice dj b0.length di : Value).ownBlock ∧ k_ ≠ bd ∧ k_ ≠ be ∧ k_ ≠ bf ∧ k_ ≠ bc) (.slice b4 bO.length b2) bO) := ⟨by (with_reducible repeat (first | apply Kd.N_alloc | apply Kd.N_drewN | apply Kd.N_drew)); exact Kd.N_mono (Kd.N_far (p := ⟨bc, 2, none⟩) (Kd.N_far (p := ⟨bc, 1, none⟩) (Kd.N_far (p := ⟨bc, 0, none⟩) (Kd.N_mono bP.out (fun k_ hk => (⟨hk, hk.2⟩ : _ ∧ k_ ≠ bc))) (fun _ hk => hk.2) (.int .u64 bU)) (fun _ hk => hk.2) (.int .u64 bV)) (fun _ hk => hk.2) (.slice bY bM.length bX)) (fun _ hk => ⟨hk.1.1.1, ⟨hk.1.1.2.1, ⟨hk.1.1.2.2.1, ⟨hk.1.1.2.2.2.1, ⟨hk.1.1.2.2.2.2.1, ⟨hk.1.1.2.2.2.2.2, hk.1.2⟩⟩⟩⟩⟩⟩)⟩
 have n4_ : Aside0 (Kd.V k55 55 (((w63.setCell ⟨bc, 0, none⟩ (.int .u64 bU)).setCell ⟨bc, 1, none⟩ (.int .u64 bV)).setCell ⟨bc, 2, none⟩ (.slice bY bM.length bX)) w.heap.size (fun k_ => some k_ ≠ (.slice bp bh.length bn : Value).ownBlock ∧ some k_ ≠ (.slice (some bj) bi.length bH : Value).ownBlock ∧ some k_ ≠ (.slice dj b0.length di : Value).ownBlock ∧ k_ ≠ bd ∧ k_ ≠ be ∧ k_ ≠ bf ∧ k_ ≠ bc) (.slice b6 bL.length b5) bL) := ⟨by (with_reducible repeat (first | apply Kd.V_alloc | apply Kd.V_drewN | apply Kd.V_drew)); exact Kd.V_mono (Kd.V_far (p := ⟨bc, 2, none⟩) (Kd.V_far (p := ⟨bc, 1, none⟩) (Kd.V_far (p := ⟨bc, 0, none⟩) (Kd.V_mono bR.out (fun k_ hk => (⟨hk, hk.2⟩ : _ ∧ k_ ≠ bc))) (fun _ hk => hk.2) (.int .u64 bU)) (fun _ hk => hk.2) (.int .u64 bV)) (fun _ hk => hk.2) (.slice bY bM.length bX)) (fun _ hk => ⟨hk.1.1.1, ⟨hk.1.1.2.1, ⟨hk.1.1.2.2.1, ⟨hk.1.1.2.2.2.1, ⟨hk.1.1.2.2.2.2.1, ⟨hk.1.1.2.2.2.2.2, hk.1.2⟩⟩⟩⟩⟩⟩)⟩
 have n5_ : Aside0 (Kd.N k55 55 (((w63.setCell ⟨bc, 0, none⟩ (.int .u64 bU)).setCell ⟨bc, 1, none⟩ (.int .u64 bV)).setCell ⟨bc, 2, none⟩ (.slice bY bM.length bX)) w.heap.size (fun k_ => some k_ ≠ (.slice (some bj) bi.length bH : Value).ownBlock ∧ some k_ ≠ (.slice b4 bO.length b2 : Value).ownBlock ∧ k_ ≠ bd ∧ k_ ≠ be ∧ k_ ≠ bf ∧ k_ ≠ bc) (.slice dj b0.length di) b0) := ⟨by (with_reducible repeat (first | apply Kd.N_alloc | apply Kd.N_drewN | apply Kd.N_drew)); exact Kd.N_mono (Kd.N_far (p := ⟨bc, 2, none⟩) (Kd.N_far (p := ⟨bc, 1, none⟩) (Kd.N_far (p := ⟨bc, 0, none⟩) (Kd.N_mono b3.out (fun k_ hk => (⟨hk, hk.2⟩ : _ ∧ k_ ≠ bc))) (fun _ hk => hk.2) (.int .u64 bU)) (fun _ hk => hk.2) (.int .u64 bV)) (fun _ hk => hk.2) (.slice bY bM.length bX)) (fun _ hk => ⟨hk.1.1.1, ⟨hk.1.1.2.1, ⟨hk.1.1.2.2.1, ⟨hk.1.1.2.2.2.1, ⟨hk.1.1.2.2.2.2, hk.1.2⟩⟩⟩⟩⟩)⟩
 have n6_ : Aside0 (Kd.V k55 55 (((w63.setCell ⟨bc, 0, none⟩ (.int .u64 bU)).setCell ⟨bc, 1, none⟩ (.int .u64 bV)).setCell ⟨bc, 2, none⟩ (.slice bY bM.length bX)) w.heap.size (fun k_ => some k_ ≠ (.slice (some bj) bi.length bH : Value).ownBlock ∧ some k_ ≠ (.slice b4 bO.length b2 : Value).ownBlock ∧ k_ ≠ bd ∧ k_ ≠ be ∧ k_ ≠ bf ∧ k_ ≠ bc) (.slice bY bM.length bX) bM) := ⟨by (with_reducible repeat (first | apply Kd.V_alloc | apply Kd.V_drewN | apply Kd.V_drew)); exact Kd.V_mono (Kd.V_far (p := ⟨bc, 2, none⟩) (Kd.V_far (p := ⟨bc, 1, none⟩) (Kd.V_far (p := ⟨bc, 0, none⟩) (Kd.V_mono db.out (fun k_ hk => (⟨hk, hk.2⟩ : _ ∧ k_ ≠ bc))) (fun _ hk => hk.2) (.int .u64 bU)) (fun _ hk => hk.2) (.int .u64 bV)) (fun _ hk => hk.2) (.slice bY bM.length bX)) (fun _ hk => ⟨hk.1.1.1, ⟨hk.1.1.2.1, ⟨hk.1.1.2.2.1, ⟨hk.1.1.2.2.2.1, ⟨hk.1.1.2.2.2.2, hk.1.2⟩⟩⟩⟩⟩)⟩
 have n7_ : Aside0 ((((w63.setCell ⟨bc, 0, none⟩ (.int .u64 bU)).setCell ⟨bc, 1, none⟩ (.int .u64 bV)).setCell ⟨bc, 2, none⟩ (.slice bY bM.length bX)).heap[bd]? = some (.cells #[.int .u64 bk, .int .u64 bB, .slice bK br.length bJ] 25 (0, 0))) := ⟨by (iterate 3 ((with_reducible repeat (first | refine blk_drewN ?_ _ | refine blk_drew ?_ | refine blk_alloc ?_ _)); refine blk_far ?_ d7.out _)); (with_reducible repeat (first | refine blk_drewN ?_ _ | refine blk_drew ?_ | refine blk_alloc ?_ _)); exact bg.out⟩
 have n8_ : Aside0 ((((w63.setCell ⟨bc, 0, none⟩ (.int .u64 bU)).setCell ⟨bc, 1, none⟩ (.int .u64 bV)).setCell ⟨bc, 2, none⟩ (.slice bY bM.length bX)).heap[be]? = some (.cells #[.int .u64 bG, .int .u64 bI, .slice bp bh.length bn] 25 (0, 0))) := ⟨by (iterate 3 ((with_reducible repeat (first | refine blk_drewN ?_ _ | refine blk_drew ?_ | refine blk_alloc ?_ _)); refine blk_far ?_ d5.out _)); (with_reducible repeat (first | refine blk_drewN ?_ _ | refine blk_drew ?_ | refine blk_alloc ?_ _)); exact bl.out⟩
 have n9_ : Aside0 ((((w63.setCell ⟨bc, 0, none⟩ (.int .u64 bU)).setCell ⟨bc, 1, none⟩ (.int .u64 bV)).setCell ⟨bc, 2, none⟩ (.slice bY bM.length bX)).heap[bf]? = some (.cells #[.int .u64 bW, .int .u64 b1, .slice b6 bL.length b5] 25 (0, 0))) := ⟨by (iterate 3 ((with_reducible repeat (first | refine blk_drewN ?_ _ | refine blk_drew ?_ | refine blk_alloc ?_ _)); refine blk_far ?_ d4.out _)); (with_reducible repeat (first | refine blk_drewN ?_ _ | refine blk_drew ?_ | refine blk_alloc ?_ _)); exact bx.out⟩
 have n10_ : Aside0 ((((w63.setCell ⟨bc, 0, none⟩ (.int .u64 bU)).setCell ⟨bc, 1, none⟩ (.int .u64 bV)).setCell ⟨bc, 2, none⟩ (.slice bY bM.length bX)).heap[bc]? = some (.cells #[.int .u64 bU, .int .u64 bV, .slice bY bM.length bX] 25 (0, 0))) := ⟨by (with_reducible repeat (first | refine blk_drewN ?_ _ | refine blk_drew ?_ | refine blk_alloc ?_ _)); refine blk_put (cs := #[.int .u64 bU, .int .u64 bV, .slice none 0 0]) ?_ 2 _ rfl; (with_reducible repeat (first | refine blk_drewN ?_ _ | refine blk_drew ?_ | refine blk_alloc ?_ _)); refine blk_put (cs := #[.int .u64 bU, .int .u64 0, .slice none 0 0]) ?_ 1 _ rfl; (with_reducible repeat (first | refine blk_drewN ?_ _ | refine blk_drew ?_ | refine blk_alloc ?_ _)); refine blk_put (cs := #[.int .u64 0, .int .u64 0, .slice none 0 0]) ?_ 0 _ rfl; (with_reducible repeat (first | refine blk_drewN ?_ _ | refine blk_drew ?_ | refine blk_alloc ?_ _)); exact bE.out⟩
 have n11_ : Aside0 (Below w.heap.size w (((w63.setCell ⟨bc, 0, none⟩ (.int .u64 bU)).setCell ⟨bc, 1, none⟩ (.int .u64 bV)).setCell ⟨bc, 2, none⟩ (.slice bY bM.length bX))) := ⟨by repeat (first | (with_reducible first | exact HB.out | apply below_alloc | apply pw_below_drewN | apply below_drew1 | refine below_set ?_ dT.out | refine below_set ?_ dW.out | refine below_set ?_ dZ.out | refine below_set ?_ d2.out) | exact HB.out)⟩
 (try clear bA)
 (try clear bD)
 (try clear bQ)
 (try clear bP)
 (try clear bR)
 (try clear b3)
 (try clear db)
 (try clear bg)
 (try clear bl)
 (try clear bx)
 (try clear bE)
 (try clear HB)
 generalize (((w63.setCell ⟨bc, 0, none⟩ (.int .u64 bU)).setCell ⟨bc, 1, none⟩ (.int .u64 bV)).setCell ⟨bc, 2, none⟩ (.slice bY bM.length bX)) = w69 at n0_ n1_ n2_ n3_ n4_ n5_ n6_ n7_ n8_ n9_ n10_ n11_ ⊢
 have bA := n0_
 have bD := n1_
 have bQ := n2_
 have bP := n3_
 have bR := n4_
 have b3 := n5_
 have db := n6_
 have bg := n7_
 have bl := n8_
 have bx := n9_
 have bE := n10_
 have HB := n11_
 clear n0_ n1_ n2_ n3_ n4_ n5_ n6_ n7_ n8_ n9_ n10_ n11_
 replace bA := Aside0.mk (Kd.V_drew bA.out)
 replace bD := Aside0.mk (Kd.N_drew bD.out)
 replace bQ := Aside0.mk (Kd.R_drew bQ.out)
 replace bP := Aside0.mk (Kd.N_drew bP.out)
 replace bR := Aside0.mk (Kd.V_drew bR.out)
 replace b3 := Aside0.mk (Kd.N_drew b3.out)
 replace db := Aside0.mk (Kd.V_drew db.out)
 replace bg := Aside0.mk (blk_drew bg.out)
 replace bl := Aside0.mk (blk_drew bl.out)
 replace bx := Aside0.mk (blk_drew bx.out)
 replace bE := Aside0.mk (blk_drew bE.out)
 replace HB := Aside0.mk (below_drew1 HB.out)
 refine start_ (n := 14) (S := fun w' => w'.cell? ⟨bd, 0, none⟩ = some (.int .u64 bk) ∧ w'.cell? ⟨bd, 1, none⟩ = some (.int .u64 bB) ∧ w'.cell? ⟨bd, 2, none⟩ = some (.slice bK br.length bJ)) (ds := []) #[Ff,Ff,Ff,Ff,Ff,Ff,Ff,Ff,Ff,Ff,Ff,Ff,Ff,Ff] (by kernel_rfl) rfl rfl ⟨(blk_cell bg.out 0).trans rfl, (blk_cell bg.out 1).trans rfl, (blk_cell bg.out 2).trans rfl⟩ (fun hHeld => ?_); refine with_tabW postroomlaw11_MarkGoes.tab12 postroomlaw11_MarkGoes.bits12 (fun HT_ HW_ => ?_)
 generalize w69.drew = w70 at bA bD bQ bP bR b3 db bg bl bx bE HB hHeld ⊢
 refine pp_ 1 (some 76) HT_.out ?_
 refine pp_ 3 (some 78) HT_.out ?_
 refine take_ (i := 0) (N := some 75) (v := ?_) (a' := ?_) #[Tt,Tt,Ff,Tt,Ff,Ff,Ff,Ff,Ff,Ff,Ff,Ff,Ff,Ff] rfl rfl (take_ofW HT_.out HW_.out (by kernel_rfl)) (fun _ _ _ h => h) (Or.inl ⟨by rfl, ?_⟩) hHeld ?_ ?_
 rotate_left
 ·rintro w' ⟨s0, s1, s2⟩
  go_simp
  with_reducible rfl
 rotate_left
 ·simp only [Act.put, List.setIfInBounds_toArray, List.set_cons_zero, List.set_cons_succ, i64_w, i32_w]
  rfl
 refine take_ (i := 2) (N := some 77) (v := ?_) (a' := ?_) #[Tt,Tt,Tt,Tt,Ff,Ff,Ff,Ff,Ff,Ff,Ff,Ff,Ff,Ff] rfl rfl (take_ofW HT_.out HW_.out (by kernel_rfl)) (fun _ _ _ h => h) (Or.inl ⟨by rfl, ?_⟩) hHeld ?_ ?_
 rotate_left
 ·rintro w' ⟨s0, s1, s2⟩
  go_simp
  with_reducible rfl
 rotate_left
 ·simp only [Act.put, List.setIfInBounds_toArray, List.set_cons_zero, List.set_cons_succ, i64_w, i32_w]
  rfl
 refine join_ (σ := Value × Nat) 2 #[Tt,Tt,Tt,Tt,Tt,Tt,Tt,Tt,Tt,Tt,Tt,Tt,Ff,Ff] (fun s_ => [(79, .int .i64 dw), (82, .tuple #[.agg #[.int .u64 da, .int .u64 dd, s_.1], .int .i64 d0]), (18, .pointer (some ⟨s_.2, 0, none⟩)), (80, .int .u64 (IntKind.u64.wrap (dw))), (81, .int .u64 (IntKind.u64.wrap (bk + (IntKind.u64.wrap (dw))))), (74, .tuple #[.agg #[.int .u64 da, .int .u64 dd, s_.1], .int .i64 d0]), (83, .agg #[.int .u64 da, .int .u64 dd, s_.1]), (84, .int .i64 d0)]) (fun s_ w' => (w'.cell? ⟨bd, 0, none⟩ = some (.int .u64 bk) ∧ w'.cell? ⟨bd, 1, none⟩ = some (.int .u64 bB) ∧ w'.cell? ⟨bd, 2, none⟩ = some (.slice bK br.length bJ)) ∧ (Kd.V k55 55 w' w.heap.size (fun k_ => some k_ ≠ (.slice bp bh.length bn : Value).ownBlock ∧ some k_ ≠ (.slice (some bj) bi.length bH : Value).ownBlock ∧ some k_ ≠ (.slice b4 bO.length b2 : Value).ownBlock ∧ some k_ ≠ (.slice dj b0.length di : Value).ownBlock ∧ k_ ≠ bd ∧ k_ ≠ be ∧ k_ ≠ bf ∧ k_ ≠ bc ∧ k_ ≠ s_.2) (.slice bK br.length bJ) br) ∧ (Kd.N k55 55 w' w.heap.size (fun k_ => some k_ ≠ (.slice (some bj) bi.length bH : Value).ownBlock ∧ some k_ ≠ (.slice b4 bO.length b2 : Value).ownBlock ∧ some k_ ≠ (.slice dj b0.length di : Value).ownBlock ∧ k_ ≠ bd ∧ k_ ≠ be ∧ k_ ≠ bf ∧ k_ ≠ bc ∧ k_ ≠ s_.2) (.slice bp bh.length bn) bh) ∧ (Kd.R Kd.string 9 w' w.heap.size (fun _ => True) (.slice (some bj) bi.length bH) bi) ∧ (Kd.N k55 55 w' w.heap.size (fun k_ => some k_ ≠ (.slice bp bh.length bn : Value).ownBlock ∧ some k_ ≠ (.slice (some bj) bi.length bH : Value).ownBlock ∧ some k_ ≠ (.slice dj b0.length di : Value).ownBlock ∧ k_ ≠ bd ∧ k_ ≠ be ∧ k_ ≠ bf ∧ k_ ≠ bc ∧ k_ ≠ s_.2) (.slice b4 bO.length b2) bO) ∧ (Kd.V k55 55 w' w.heap.size (fun k_ => some k_ ≠ (.slice bp bh.length bn : Value).ownBlock ∧ some k_ ≠ (.slice (some bj) bi.length bH : Value).ownBlock ∧ some k_ ≠ (.slice dj b0.length di : Value).ownBlock ∧ k_ ≠ bd ∧ k_ ≠ be ∧ k_ ≠ bf ∧ k_ ≠ bc ∧ k_ ≠ s_.2) (.slice b6 bL.length b5) bL) ∧ (Kd.N k55 55 w' w.heap.size (fun k_ => some k_ ≠ (.slice (some bj) bi.length bH : Value).ownBlock ∧ some k_ ≠ (.slice b4 bO.length b2 : Value).ownBlock ∧ k_ ≠ bd ∧ k_ ≠ be ∧ k_ ≠ bf ∧ k_ ≠ bc ∧ k_ ≠ s_.2) (.slice dj b0.length di) b0) ∧ (Kd.V k55 55 w' w.heap.size (fun k_ => some k_ ≠ (.slice (some bj) bi.length bH : Value).ownBlock ∧ some k_ ≠ (.slice b4 bO.length b2 : Value).ownBlock ∧ k_ ≠ bd ∧ k_ ≠ be ∧ k_ ≠ bf ∧ k_ ≠ bc ∧ k_ ≠ s_.2) (.slice bY bM.length bX) bM) ∧ (Kd.V k55 55 w' w.heap.size (fun k_ => some k_ ≠ (.slice bp bh.length bn : Value).ownBlock ∧ some k_ ≠ (.slice (some bj) bi.length bH : Value).ownBlock ∧ some k_ ≠ (.slice b4 bO.length b2 : Value).ownBlock ∧ some k_ ≠ (.slice dj b0.length di : Value).ownBlock ∧ k_ ≠ bd ∧ k_ ≠ be ∧ k_ ≠ bf ∧ k_ ≠ bc ∧ k_ ≠ s_.2) s_.1 bZ) ∧ (w'.heap[bd]? = some (.cells #[.int .u64 bk, .int .u64 bB, .slice bK br.length bJ] 25 (0, 0))) ∧ (w'.heap[be]? = some (.cells #[.int .u64 bG, .int .u64 bI, .slice bp bh.length bn] 25 (0, 0))) ∧ (w'.heap[bf]? = some (.cells #[.int .u64 bW, .int .u64 b1, .slice b6 bL.length b5] 25 (0, 0))) ∧ (w'.heap[bc]? = some (.cells #[.int .u64 bU, .int .u64 bV, .slice bY bM.length bX] 25 (0, 0))) ∧ (w'.heap[s_.2]? = some (.cells #[.int .u64 0, .int .u64 0, .slice none 0 0] 25 (0, 0))) ∧ (w.heap.size ≤ s_.2) ∧ (w.heap.size ≤ s_.2) ∧ (bd ≠ s_.2) ∧ (s_.2 ≠ bd) ∧ (be ≠ s_.2) ∧ (s_.2 ≠ be) ∧ (bf ≠ s_.2) ∧ (s_.2 ≠ bf) ∧ (bc ≠ s_.2) ∧ (s_.2 ≠ bc) ∧ (Below w.heap.size w w')) ?_ ?_
 rotate_left
 ·intro hCont
  refine two_ (i := 4) (j := 11) (Ni := some 79) (Nj := some 18) #[Tt,Tt,Tt,Tt,Tt,Ff,Ff,Ff,Ff,Ff,Ff,Ff,Ff,Ff] #[Tt,Tt,Tt,Tt,Ff,Ff,Ff,Ff,Ff,Ff,Ff,Tt,Ff,Ff] rfl rfl rfl rfl (two_of HT_.out (by kernel_rfl)) (by decide) (by decide) (fun K hK => ?_) (fun K hK => ?_)
  ·skip
   refine goes_ Tryd.func19 (by kernel_rfl) rfl #[.int .i64 a2, .int .i64 5] (by rfl) rfl rfl zx25_8 ?_
   with_reducible refine (postroomlaw11_pick.calls a2 5 dw _ A22.out).mono ?_
   rintro e w' ⟨rfl, ⟨nd, rfl⟩⟩
   refine ⟨_, rfl, ?_⟩
   refine hK.out _ _ ⟨(blk_cell bg.out 0).trans rfl, (blk_cell bg.out 1).trans rfl, (blk_cell bg.out 2).trans rfl⟩ (fun hHeld => ?_)
   clear hK K
   refine na_ 79 ?_
   refine pp_ 5 (some 80) HT_.out ?_
   refine pp_ 6 (some 81) HT_.out ?_
   refine two_ (i := 7) (j := 11) (Ni := some 82) (Nj := some 18) #[Tt,Tt,Tt,Tt,Tt,Tt,Tt,Tt,Ff,Ff,Ff,Ff,Ff,Ff] #[Tt,Tt,Tt,Tt,Tt,Tt,Tt,Ff,Ff,Ff,Ff,Tt,Ff,Ff] rfl rfl rfl rfl (two_of HT_.out (by kernel_rfl)) (by decide) (by decide) (fun K hK => ?_) (fun K hK => ?_)
   ·skip
    refine goes_ Tryd.func22 (by kernel_rfl) rfl #[.agg #[.int .u64 bk, .int .u64 bB, .slice bK br.length bJ], .int .u64 (IntKind.u64.wrap (bk + (IntKind.u64.wrap (dw))))] (by rfl) rfl rfl zx25_8 ?_
    with_reducible refine (ledger_Evict.calls k bk bB (fun k_ => (some k_ ≠ (.slice bp bh.length bn : Value).ownBlock ∧ (some k_ ≠ (.slice (some bj) bi.length bH : Value).ownBlock ∧ (some k_ ≠ (.slice b4 bO.length b2 : Value).ownBlock ∧ (some k_ ≠ (.slice dj b0.length di : Value).ownBlock ∧ (k_ ≠ bd ∧ (k_ ≠ be ∧ (k_ ≠ bf ∧ k_ ≠ bc)))))))) _ _ br (IntKind.u64.wrap (bk + (IntKind.u64.wrap (dw)))) da dd bZ d0 _ ?side1 A23.out).mono ?_
    (case side1 => exact bA.out)
    rintro e w71 ⟨gl, rfl, ho0, hb⟩
    refine ⟨_, rfl, ?_⟩
    replace bA := Aside0.mk (Kd.V_below zx25_12 hb)
    replace bR := Aside0.mk (Kd.V_below zx25_14 hb)
    replace db := Aside0.mk (Kd.V_below zx25_17 hb)
    have dr := Aside0.mk (Kd.V_lower (Kd.V_mono (ok' := fun k_ => some k_ ≠ (.slice bp bh.length bn : Value).ownBlock ∧ some k_ ≠ (.slice (some bj) bi.length bH : Value).ownBlock ∧ some k_ ≠ (.slice b4 bO.length b2 : Value).ownBlock ∧ some k_ ≠ (.slice dj b0.length di : Value).ownBlock ∧ k_ ≠ bd ∧ k_ ≠ be ∧ k_ ≠ bf ∧ k_ ≠ bc) ho0 (fun k_ hk_ => ⟨Or.elim hk_ (fun hs_ => hs_.1) (fun hn_ => (Kd.fresh' (Kd.N_lt zx25_10) k_ hn_)), Or.elim hk_ (fun hs_ => hs_.2.1) (fun hn_ => (Kd.fresh' (Kd.R_lt zx25_6) k_ hn_)), Or.elim hk_ (fun hs_ => hs_.2.2.1) (fun hn_ => (Kd.fresh' (Kd.N_lt zx25_9) k_ hn_)), Or.elim hk_ (fun hs_ => hs_.2.2.2.1) (fun hn_ => (Kd.fresh' (Kd.N_lt zx25_11) k_ hn_)), Or.elim hk_ (fun hs_ => hs_.2.2.2.2.1) (fun hn_ => (Kd.freshB (g := bd) (o := .cells #[.int .u64 bk, .int .u64 bB, .slice bK br.length bJ] 25 (0, 0)) zx25_0 k_ hn_)), Or.elim hk_ (fun hs_ => hs_.2.2.2.2.2.1) (fun hn_ => (Kd.freshB (g := be) (o := .cells #[.int .u64 bG, .int .u64 bI, .slice bp bh.length bn] 25 (0, 0)) zx25_1 k_ hn_)), Or.elim hk_ (fun hs_ => hs_.2.2.2.2.2.2.1) (fun hn_ => (Kd.freshB (g := bf) (o := .cells #[.int .u64 bW, .int .u64 b1, .slice b6 bL.length b5] 25 (0, 0)) zx25_2 k_ hn_)), Or.elim hk_ (fun hs_ => hs_.2.2.2.2.2.2.2) (fun hn_ => (Kd.freshB (g := bc) (o := .cells #[.int .u64 bU, .int .u64 bV, .slice bY bM.length bX] 25 (0, 0)) zx25_4 k_ hn_))⟩)) (below_size zx25_13))
    replace bD := Aside0.mk (Kd.N_below zx25_10 hb)
    replace bQ := Aside0.mk (Kd.R_below zx25_6 hb)
    replace bP := Aside0.mk (Kd.N_below zx25_9 hb)
    replace b3 := Aside0.mk (Kd.N_below zx25_11 hb)
    replace bg := Aside0.mk (blk_below (g := bd) (o := .cells #[.int .u64 bk, .int .u64 bB, .slice bK br.length bJ] 25 (0, 0)) zx25_0 hb)
    replace bl := Aside0.mk (blk_below (g := be) (o := .cells #[.int .u64 bG, .int .u64 bI, .slice bp bh.length bn] 25 (0, 0)) zx25_1 hb)
    replace bx := Aside0.mk (blk_below (g := bf) (o := .cells #[.int .u64 bW, .int .u64 b1, .slice b6 bL.length b5] 25 (0, 0)) zx25_2 hb)
    replace bE := Aside0.mk (blk_below (g := bc) (o := .cells #[.int .u64 bU, .int .u64 bV, .slice bY bM.length bX] 25 (0, 0)) zx25_4 hb)
    replace HB := Aside0.mk (below_step zx25_13 hb)
    (try clear hb)
    (try clear hb2)
    (try clear hk)
    (try clear hi)
    (try clear ho0)
    refine hK.out _ _ ⟨(blk_cell bg.out 0).trans rfl, (blk_cell bg.out 1).trans rfl, (blk_cell bg.out 2).trans rfl⟩ (fun hHeld => ?_)
    clear hK K
    refine na_ 82 ?_
    refine pp_ 8 (some 74) HT_.out ?_
    refine pp_ 9 (some 83) HT_.out ?_
    refine pp_ 10 (some 84) HT_.out ?_
    refine one_ (i := 11) (N := some 18) #[Tt,Tt,Tt,Tt,Tt,Tt,Tt,Tt,Tt,Tt,Tt,Tt,Ff,Ff] rfl rfl (one_of HT_.out (by kernel_rfl)) (by decide) (fun K hK => ?_)
    refine box_step ?hg (N := 18) ?hd (cs := #[.int .u64 0, .int .u64 0, .slice none 0 0]) (t := 25) ?hr ?_; (case hd => rfl); (case hg => rfl); (case hr => first | (go_simp; done) | (go_simp; rfl))
    intro ba hg w72 hbox hb
    replace bA := Aside0.mk (Kd.V_below (Kd.V_elderB zx25_12 ba (Nat.le_of_eq hg.symm)) hb)
    replace bD := Aside0.mk (Kd.N_below (Kd.N_elderB zx25_10 ba (Nat.le_of_eq hg.symm)) hb)
    replace bQ := Aside0.mk (Kd.R_below zx25_6 hb)
    replace bP := Aside0.mk (Kd.N_below (Kd.N_elderB zx25_9 ba (Nat.le_of_eq hg.symm)) hb)
    replace bR := Aside0.mk (Kd.V_below (Kd.V_elderB zx25_14 ba (Nat.le_of_eq hg.symm)) hb)
    replace b3 := Aside0.mk (Kd.N_below (Kd.N_elderB zx25_11 ba (Nat.le_of_eq hg.symm)) hb)
    replace db := Aside0.mk (Kd.V_below (Kd.V_elderB zx25_17 ba (Nat.le_of_eq hg.symm)) hb)
    replace dr := Aside0.mk (Kd.V_below (Kd.V_elderB zx25_19 ba (Nat.le_of_eq hg.symm)) hb)
    have bN := Aside0.mk (hbox)
    have gb := Aside0.mk ((by rw [hg]; exact (below_size zx25_13) : w.heap.size ≤ ba))
    have dS := Aside0.mk ((by rw [hg]; exact (below_size zx25_13) : w.heap.size ≤ ba))
    replace HB := Aside0.mk (below_step zx25_13 hb)
    have dg := Aside0.mk ((by rw [hg]; exact Nat.ne_of_lt (blk_lt (g := bd) (o := .cells #[.int .u64 bk, .int .u64 bB, .slice bK br.length bJ] 25 (0, 0)) zx25_0) : bd ≠ ba))
    have dN := Aside0.mk ((by rw [hg]; exact Nat.ne_of_gt (blk_lt (g := bd) (o := .cells #[.int .u64 bk, .int .u64 bB, .slice bK br.length bJ] 25 (0, 0)) zx25_0) : ba ≠ bd))
    replace bg := Aside0.mk (blk_below (g := bd) (o := .cells #[.int .u64 bk, .int .u64 bB, .slice bK br.length bJ] 25 (0, 0)) zx25_0 hb)
    have dE := Aside0.mk ((by rw [hg]; exact Nat.ne_of_lt (blk_lt (g := be) (o := .cells #[.int .u64 bG, .int .u64 bI, .slice bp bh.length bn] 25 (0, 0)) zx25_1) : be ≠ ba))
    have dM := Aside0.mk ((by rw [hg]; exact Nat.ne_of_gt (blk_lt (g := be) (o := .cells #[.int .u64 bG, .int .u64 bI, .slice bp bh.length bn] 25 (0, 0)) zx25_1) : ba ≠ be))
    replace bl := Aside0.mk (blk_below (g := be) (o := .cells #[.int .u64 bG, .int .u64 bI, .slice bp bh.length bn] 25 (0, 0)) zx25_1 hb)
    have dD := Aside0.mk ((by rw [hg]; exact Nat.ne_of_lt (blk_lt (g := bf) (o := .cells #[.int .u64 bW, .int .u64 b1, .slice b6 bL.length b5] 25 (0, 0)) zx25_2) : bf ≠ ba))
    have dL := Aside0.mk ((by rw [hg]; exact Nat.ne_of_gt (blk_lt (g := bf) (o := .cells #[.int .u64 bW, .int .u64 b1, .slice b6 bL.length b5] 25 (0, 0)) zx25_2) : ba ≠ bf))
    replace bx := Aside0.mk (blk_below (g := bf) (o := .cells #[.int .u64 bW, .int .u64 b1, .slice b6 bL.length b5] 25 (0, 0)) zx25_2 hb)
    have dB := Aside0.mk ((by rw [hg]; exact Nat.ne_of_lt (blk_lt (g := bc) (o := .cells #[.int .u64 bU, .int .u64 bV, .slice bY bM.length bX] 25 (0, 0)) zx25_4) : bc ≠ ba))
    have dK := Aside0.mk ((by rw [hg]; exact Nat.ne_of_gt (blk_lt (g := bc) (o := .cells #[.int .u64 bU, .int .u64 bV, .slice bY bM.length bX] 25 (0, 0)) zx25_4) : ba ≠ bc))
    replace bE := Aside0.mk (blk_below (g := bc) (o := .cells #[.int .u64 bU, .int .u64 bV, .slice bY bM.length bX] 25 (0, 0)) zx25_4 hb)
    clear hb hbox hg
    refine hK.out _ _ ⟨(blk_cell bg.out 0).trans rfl, (blk_cell bg.out 1).trans rfl, (blk_cell bg.out 2).trans rfl⟩ (fun hHeld => ?_)
    clear hK K
    refine na_ 18 ?_
    exact norm_ zx25_36 (hCont (gl, ba) _ ⟨hHeld, zx25_26, zx25_31, zx25_6, zx25_32, zx25_33, zx25_37, zx25_38, (by (with_reducible repeat (first | apply Kd.V_alloc | apply Kd.V_drewN | apply Kd.V_drew)); exact Kd.V_mono dr.out (fun _ hk => ⟨hk.1.1, ⟨hk.1.2.1, ⟨hk.1.2.2.1, ⟨hk.1.2.2.2.1, ⟨hk.1.2.2.2.2.1, ⟨hk.1.2.2.2.2.2.1, ⟨hk.1.2.2.2.2.2.2.1, ⟨hk.1.2.2.2.2.2.2.2, hk.2⟩⟩⟩⟩⟩⟩⟩⟩)), zx25_0, zx25_1, zx25_2, zx25_4, zx25_7, gb.out, dS.out, dg.out, dN.out, dE.out, dM.out, dD.out, dL.out, dB.out, dK.out, zx25_5⟩)
   ·skip
    refine box_step ?hg (N := 18) ?hd (cs := #[.int .u64 0, .int .u64 0, .slice none 0 0]) (t := 25) ?hr ?_; (case hd => rfl); (case hg => rfl); (case hr => first | (go_simp; done) | (go_simp; rfl))
    intro ba hg w71 hbox hb
    replace bA := Aside0.mk (Kd.V_below (Kd.V_elderB zx25_12 ba (Nat.le_of_eq hg.symm)) hb)
    replace bD := Aside0.mk (Kd.N_below (Kd.N_elderB zx25_10 ba (Nat.le_of_eq hg.symm)) hb)
    replace bQ := Aside0.mk (Kd.R_below zx25_6 hb)
    replace bP := Aside0.mk (Kd.N_below (Kd.N_elderB zx25_9 ba (Nat.le_of_eq hg.symm)) hb)
    replace bR := Aside0.mk (Kd.V_below (Kd.V_elderB zx25_14 ba (Nat.le_of_eq hg.symm)) hb)
    replace b3 := Aside0.mk (Kd.N_below (Kd.N_elderB zx25_11 ba (Nat.le_of_eq hg.symm)) hb)
    replace db := Aside0.mk (Kd.V_below (Kd.V_elderB zx25_17 ba (Nat.le_of_eq hg.symm)) hb)
    have bN := Aside0.mk (hbox)
    have gb := Aside0.mk ((by rw [hg]; exact (below_size zx25_13) : w.heap.size ≤ ba))
    have dS := Aside0.mk ((by rw [hg]; exact (below_size zx25_13) : w.heap.size ≤ ba))
    replace HB := Aside0.mk (below_step zx25_13 hb)
    have dg := Aside0.mk ((by rw [hg]; exact Nat.ne_of_lt (blk_lt (g := bd) (o := .cells #[.int .u64 bk, .int .u64 bB, .slice bK br.length bJ] 25 (0, 0)) zx25_0) : bd ≠ ba))
    have dN := Aside0.mk ((by rw [hg]; exact Nat.ne_of_gt (blk_lt (g := bd) (o := .cells #[.int .u64 bk, .int .u64 bB, .slice bK br.length bJ] 25 (0, 0)) zx25_0) : ba ≠ bd))
    replace bg := Aside0.mk (blk_below (g := bd) (o := .cells #[.int .u64 bk, .int .u64 bB, .slice bK br.length bJ] 25 (0, 0)) zx25_0 hb)
    have dE := Aside0.mk ((by rw [hg]; exact Nat.ne_of_lt (blk_lt (g := be) (o := .cells #[.int .u64 bG, .int .u64 bI, .slice bp bh.length bn] 25 (0, 0)) zx25_1) : be ≠ ba))
    have dM := Aside0.mk ((by rw [hg]; exact Nat.ne_of_gt (blk_lt (g := be) (o := .cells #[.int .u64 bG, .int .u64 bI, .slice bp bh.length bn] 25 (0, 0)) zx25_1) : ba ≠ be))
    replace bl := Aside0.mk (blk_below (g := be) (o := .cells #[.int .u64 bG, .int .u64 bI, .slice bp bh.length bn] 25 (0, 0)) zx25_1 hb)
    have dD := Aside0.mk ((by rw [hg]; exact Nat.ne_of_lt (blk_lt (g := bf) (o := .cells #[.int .u64 bW, .int .u64 b1, .slice b6 bL.length b5] 25 (0, 0)) zx25_2) : bf ≠ ba))
    have dL := Aside0.mk ((by rw [hg]; exact Nat.ne_of_gt (blk_lt (g := bf) (o := .cells #[.int .u64 bW, .int .u64 b1, .slice b6 bL.length b5] 25 (0, 0)) zx25_2) : ba ≠ bf))
    replace bx := Aside0.mk (blk_below (g := bf) (o := .cells #[.int .u64 bW, .int .u64 b1, .slice b6 bL.length b5] 25 (0, 0)) zx25_2 hb)
    have dB := Aside0.mk ((by rw [hg]; exact Nat.ne_of_lt (blk_lt (g := bc) (o := .cells #[.int .u64 bU, .int .u64 bV, .slice bY bM.length bX] 25 (0, 0)) zx25_4) : bc ≠ ba))
    have dK := Aside0.mk ((by rw [hg]; exact Nat.ne_of_gt (blk_lt (g := bc) (o := .cells #[.int .u64 bU, .int .u64 bV, .slice bY bM.length bX] 25 (0, 0)) zx25_4) : ba ≠ bc))
    replace bE := Aside0.mk (blk_below (g := bc) (o := .cells #[.int .u64 bU, .int .u64 bV, .slice bY bM.length bX] 25 (0, 0)) zx25_4 hb)
    clear hb hbox hg
    refine hK.out _ _ ⟨(blk_cell bg.out 0).trans rfl, (blk_cell bg.out 1).trans rfl, (blk_cell bg.out 2).trans rfl⟩ (fun hHeld => ?_)
    clear hK K
    refine na_ 18 ?_
    refine one_ (i := 7) (N := some 82) #[Tt,Tt,Tt,Tt,Tt,Tt,Tt,Tt,Ff,Ff,Ff,Tt,Ff,Ff] rfl rfl (one_of HT_.out (by kernel_rfl)) (by decide) (fun K hK => ?_)
    refine goes_ Tryd.func22 (by kernel_rfl) rfl #[.agg #[.int .u64 bk, .int .u64 bB, .slice bK br.length bJ], .int .u64 (IntKind.u64.wrap (bk + (IntKind.u64.wrap (dw))))] (by rfl) rfl rfl zx25_8 ?_
    with_reducible refine (ledger_Evict.calls k bk bB (fun k_ => ((some k_ ≠ (.slice bp bh.length bn : Value).ownBlock ∧ (some k_ ≠ (.slice (some bj) bi.length bH : Value).ownBlock ∧ (some k_ ≠ (.slice b4 bO.length b2 : Value).ownBlock ∧ (some k_ ≠ (.slice dj b0.length di : Value).ownBlock ∧ (k_ ≠ bd ∧ (k_ ≠ be ∧ (k_ ≠ bf ∧ k_ ≠ bc))))))) ∧ k_ ≠ ba)) _ _ br (IntKind.u64.wrap (bk + (IntKind.u64.wrap (dw)))) da dd bZ d0 _ ?side1 A23.out).mono ?_
    (case side1 => exact bA.out)
    rintro e w72 ⟨gl, rfl, ho0, hb⟩
    refine ⟨_, rfl, ?_⟩
    replace bA := Aside0.mk (Kd.V_below zx25_12 hb)
    replace bR := Aside0.mk (Kd.V_below zx25_14 hb)
    replace db := Aside0.mk (Kd.V_below zx25_17 hb)
    have dr := Aside0.mk (Kd.V_lower (Kd.V_mono (ok' := fun k_ => some k_ ≠ (.slice bp bh.length bn : Value).ownBlock ∧ some k_ ≠ (.slice (some bj) bi.length bH : Value).ownBlock ∧ some k_ ≠ (.slice b4 bO.length b2 : Value).ownBlock ∧ some k_ ≠ (.slice dj b0.length di : Value).ownBlock ∧ k_ ≠ bd ∧ k_ ≠ be ∧ k_ ≠ bf ∧ k_ ≠ bc ∧ k_ ≠ ba) ho0 (fun k_ hk_ => ⟨Or.elim hk_ (fun hs_ => hs_.1.1) (fun hn_ => (Kd.fresh' (Kd.N_lt zx25_10) k_ hn_)), Or.elim hk_ (fun hs_ => hs_.1.2.1) (fun hn_ => (Kd.fresh' (Kd.R_lt zx25_6) k_ hn_)), Or.elim hk_ (fun hs_ => hs_.1.2.2.1) (fun hn_ => (Kd.fresh' (Kd.N_lt zx25_9) k_ hn_)), Or.elim hk_ (fun hs_ => hs_.1.2.2.2.1) (fun hn_ => (Kd.fresh' (Kd.N_lt zx25_11) k_ hn_)), Or.elim hk_ (fun hs_ => hs_.1.2.2.2.2.1) (fun hn_ => (Kd.freshB (g := bd) (o := .cells #[.int .u64 bk, .int .u64 bB, .slice bK br.length bJ] 25 (0, 0)) zx25_0 k_ hn_)), Or.elim hk_ (fun hs_ => hs_.1.2.2.2.2.2.1) (fun hn_ => (Kd.freshB (g := be) (o := .cells #[.int .u64 bG, .int .u64 bI, .slice bp bh.length bn] 25 (0, 0)) zx25_1 k_ hn_)), Or.elim hk_ (fun hs_ => hs_.1.2.2.2.2.2.2.1) (fun hn_ => (Kd.freshB (g := bf) (o := .cells #[.int .u64 bW, .int .u64 b1, .slice b6 bL.length b5] 25 (0, 0)) zx25_2 k_ hn_)), Or.elim hk_ (fun hs_ => hs_.1.2.2.2.2.2.2.2) (fun hn_ => (Kd.freshB (g := bc) (o := .cells #[.int .u64 bU, .int .u64 bV, .slice bY bM.length bX] 25 (0, 0)) zx25_4 k_ hn_)), Or.elim hk_ (fun hs_ => hs_.2) (fun hn_ => (Kd.freshB (g := ba) (o := .cells #[.int .u64 0, .int .u64 0, .slice none 0 0] 25 (0, 0)) zx25_7 k_ hn_))⟩)) (below_size zx25_5))
    replace bD := Aside0.mk (Kd.N_below zx25_10 hb)
    replace bQ := Aside0.mk (Kd.R_below zx25_6 hb)
    replace bP := Aside0.mk (Kd.N_below zx25_9 hb)
    replace b3 := Aside0.mk (Kd.N_below zx25_11 hb)
    replace bg := Aside0.mk (blk_below (g := bd) (o := .cells #[.int .u64 bk, .int .u64 bB, .slice bK br.length bJ] 25 (0, 0)) zx25_0 hb)
    replace bl := Aside0.mk (blk_below (g := be) (o := .cells #[.int .u64 bG, .int .u64 bI, .slice bp bh.length bn] 25 (0, 0)) zx25_1 hb)
    replace bx := Aside0.mk (blk_below (g := bf) (o := .cells #[.int .u64 bW, .int .u64 b1, .slice b6 bL.length b5] 25 (0, 0)) zx25_2 hb)
    replace bE := Aside0.mk (blk_below (g := bc) (o := .cells #[.int .u64 bU, .int .u64 bV, .slice bY bM.length bX] 25 (0, 0)) zx25_4 hb)
    replace bN := Aside0.mk (blk_below (g := ba) (o := .cells #[.int .u64 0, .int .u64 0, .slice none 0 0] 25 (0, 0)) zx25_7 hb)
    replace HB := Aside0.mk (below_step zx25_5 hb)
    (try clear hb)
    (try clear hb2)
    (try clear hk)
    (try clear hi)
    (try clear ho0)
    refine hK.out _ _ ⟨(blk_cell bg.out 0).trans rfl, (blk_cell bg.out 1).trans rfl, (blk_cell bg.out 2).trans rfl⟩ (fun hHeld => ?_)
    clear hK K
    refine na_ 82 ?_
    refine pp_ 8 (some 74) HT_.out ?_
    refine pp_ 9 (some 83) HT_.out ?_
    refine pp_ 10 (some 84) HT_.out ?_
    exact norm_ zx25_36 (hCont (gl, ba) _ ⟨hHeld, zx25_26, zx25_31, zx25_6, zx25_32, zx25_33, zx25_37, zx25_38, zx25_19, zx25_0, zx25_1, zx25_2, zx25_4, zx25_7, gb.out, dS.out, dg.out, dN.out, dE.out, dM.out, dD.out, dL.out, dB.out, dK.out, zx25_5⟩)
  ·skip
   refine box_step ?hg (N := 18) ?hd (cs := #[.int .u64 0, .int .u64 0, .slice none 0 0]) (t := 25) ?hr ?_; (case hd => rfl); (case hg => rfl); (case hr => first | (go_simp; done) | (go_simp; rfl))
   intro ba hg w71 hbox hb
   replace bA := Aside0.mk (Kd.V_below (Kd.V_elderB zx25_12 ba (Nat.le_of_eq hg.symm)) hb)
   replace bD := Aside0.mk (Kd.N_below (Kd.N_elderB zx25_10 ba (Nat.le_of_eq hg.symm)) hb)
   replace bQ := Aside0.mk (Kd.R_below zx25_6 hb)
   replace bP := Aside0.mk (Kd.N_below (Kd.N_elderB zx25_9 ba (Nat.le_of_eq hg.symm)) hb)
   replace bR := Aside0.mk (Kd.V_below (Kd.V_elderB zx25_14 ba (Nat.le_of_eq hg.symm)) hb)
   replace b3 := Aside0.mk (Kd.N_below (Kd.N_elderB zx25_11 ba (Nat.le_of_eq hg.symm)) hb)
   replace db := Aside0.mk (Kd.V_below (Kd.V_elderB zx25_17 ba (Nat.le_of_eq hg.symm)) hb)
   have bN := Aside0.mk (hbox)
   have gb := Aside0.mk ((by rw [hg]; exact (below_size zx25_13) : w.heap.size ≤ ba))
   have dS := Aside0.mk ((by rw [hg]; exact (below_size zx25_13) : w.heap.size ≤ ba))
   replace HB := Aside0.mk (below_step zx25_13 hb)
   have dg := Aside0.mk ((by rw [hg]; exact Nat.ne_of_lt (blk_lt (g := bd) (o := .cells #[.int .u64 bk, .int .u64 bB, .slice bK br.length bJ] 25 (0, 0)) zx25_0) : bd ≠ ba))
   have dN := Aside0.mk ((by rw [hg]; exact Nat.ne_of_gt (blk_lt (g := bd) (o := .cells #[.int .u64 bk, .int .u64 bB, .slice bK br.length bJ] 25 (0, 0)) zx25_0) : ba ≠ bd))
   replace bg := Aside0.mk (blk_below (g := bd) (o := .cells #[.int .u64 bk, .int .u64 bB, .slice bK br.length bJ] 25 (0, 0)) zx25_0 hb)
   have dE := Aside0.mk ((by rw [hg]; exact Nat.ne_of_lt (blk_lt (g := be) (o := .cells #[.int .u64 bG, .int .u64 bI, .slice bp bh.length bn] 25 (0, 0)) zx25_1) : be ≠ ba))
   have dM := Aside0.mk ((by rw [hg]; exact Nat.ne_of_gt (blk_lt (g := be) (o := .cells #[.int .u64 bG, .int .u64 bI, .slice bp bh.length bn] 25 (0, 0)) zx25_1) : ba ≠ be))
   replace bl := Aside0.mk (blk_below (g := be) (o := .cells #[.int .u64 bG, .int .u64 bI, .slice bp bh.length bn] 25 (0, 0)) zx25_1 hb)
   have dD := Aside0.mk ((by rw [hg]; exact Nat.ne_of_lt (blk_lt (g := bf) (o := .cells #[.int .u64 bW, .int .u64 b1, .slice b6 bL.length b5] 25 (0, 0)) zx25_2) : bf ≠ ba))
   have dL := Aside0.mk ((by rw [hg]; exact Nat.ne_of_gt (blk_lt (g := bf) (o := .cells #[.int .u64 bW, .int .u64 b1, .slice b6 bL.length b5] 25 (0, 0)) zx25_2) : ba ≠ bf))
   replace bx := Aside0.mk (blk_below (g := bf) (o := .cells #[.int .u64 bW, .int .u64 b1, .slice b6 bL.length b5] 25 (0, 0)) zx25_2 hb)
   have dB := Aside0.mk ((by rw [hg]; exact Nat.ne_of_lt (blk_lt (g := bc) (o := .cells #[.int .u64 bU, .int .u64 bV, .slice bY bM.length bX] 25 (0, 0)) zx25_4) : bc ≠ ba))
   have dK := Aside0.mk ((by rw [hg]; exact Nat.ne_of_gt (blk_lt (g := bc) (o := .cells #[.int .u64 bU, .int .u64 bV, .slice bY bM.length bX] 25 (0, 0)) zx25_4) : ba ≠ bc))
   replace bE := Aside0.mk (blk_below (g := bc) (o := .cells #[.int .u64 bU, .int .u64 bV, .slice bY bM.length bX] 25 (0, 0)) zx25_4 hb)
   clear hb hbox hg
   refine hK.out _ _ ⟨(blk_cell bg.out 0).trans rfl, (blk_cell bg.out 1).trans rfl, (blk_cell bg.out 2).trans rfl⟩ (fun hHeld => ?_)
   clear hK K
   refine na_ 18 ?_
   refine one_ (i := 4) (N := some 79) #[Tt,Tt,Tt,Tt,Tt,Ff,Ff,Ff,Ff,Ff,Ff,Tt,Ff,Ff] rfl rfl (one_of HT_.out (by kernel_rfl)) (by decide) (fun K hK => ?_)
   refine goes_ Tryd.func19 (by kernel_rfl) rfl #[.int .i64 a2, .int .i64 5] (by rfl) rfl rfl zx25_8 ?_
   with_reducible refine (postroomlaw11_pick.calls a2 5 dw _ A22.out).mono ?_
   rintro e w' ⟨rfl, ⟨nd, rfl⟩⟩
   refine ⟨_, rfl, ?_⟩
   refine hK.out _ _ ⟨(blk_cell bg.out 0).trans rfl, (blk_cell bg.out 1).trans rfl, (blk_cell bg.out 2).trans rfl⟩ (fun hHeld => ?_)
   clear hK K
   refine na_ 79 ?_
   refine pp_ 5 (some 80) HT_.out ?_
   refine pp_ 6 (some 81) HT_.out ?_
   refine one_ (i := 7) (N := some 82) #[Tt,Tt,Tt,Tt,Tt,Tt,Tt,Tt,Ff,Ff,Ff,Tt,Ff,Ff] rfl rfl (one_of HT_.out (by kernel_rfl)) (by decide) (fun K hK => ?_)
   refine goes_ Tryd.func22 (by kernel_rfl) rfl #[.agg #[.int .u64 bk, .int .u64 bB, .slice bK br.length bJ], .int .u64 (IntKind.u64.wrap (bk + (IntKind.u64.wrap (dw))))] (by rfl) rfl rfl zx25_8 ?_
   with_reducible refine (ledger_Evict.calls k bk bB (fun k_ => ((some k_ ≠ (.slice bp bh.length bn : Value).ownBlock ∧ (some k_ ≠ (.slice (some bj) bi.length bH : Value).ownBlock ∧ (some k_ ≠ (.slice b4 bO.length b2 : Value).ownBlock ∧ (some k_ ≠ (.slice dj b0.length di : Value).ownBlock ∧ (k_ ≠ bd ∧ (k_ ≠ be ∧ (k_ ≠ bf ∧ k_ ≠ bc))))))) ∧ k_ ≠ ba)) _ _ br (IntKind.u64.wrap (bk + (IntKind.u64.wrap (dw)))) da dd bZ d0 _ ?side1 A23.out).mono ?_
   (case side1 => exact bA.out)
   rintro e w72 ⟨gl, rfl, ho0, hb⟩
   refine ⟨_, rfl, ?_⟩
   replace bA := Aside0.mk (Kd.V_below zx25_12 hb)
   replace bR := Aside0.mk (Kd.V_below zx25_14 hb)
   replace db := Aside0.mk (Kd.V_below zx25_17 hb)
   have dr := Aside0.mk (Kd.V_lower (Kd.V_mono (ok' := fun k_ => some k_ ≠ (.slice bp bh.length bn : Value).ownBlock ∧ some k_ ≠ (.slice (some bj) bi.length bH : Value).ownBlock ∧ some k_ ≠ (.slice b4 bO.length b2 : Value).ownBlock ∧ some k_ ≠ (.slice dj b0.length di : Value).ownBlock ∧ k_ ≠ bd ∧ k_ ≠ be ∧ k_ ≠ bf ∧ k_ ≠ bc ∧ k_ ≠ ba) ho0 (fun k_ hk_ => ⟨Or.elim hk_ (fun hs_ => hs_.1.1) (fun hn_ => (Kd.fresh' (Kd.N_lt zx25_10) k_ hn_)), Or.elim hk_ (fun hs_ => hs_.1.2.1) (fun hn_ => (Kd.fresh' (Kd.R_lt zx25_6) k_ hn_)), Or.elim hk_ (fun hs_ => hs_.1.2.2.1) (fun hn_ => (Kd.fresh' (Kd.N_lt zx25_9) k_ hn_)), Or.elim hk_ (fun hs_ => hs_.1.2.2.2.1) (fun hn_ => (Kd.fresh' (Kd.N_lt zx25_11) k_ hn_)), Or.elim hk_ (fun hs_ => hs_.1.2.2.2.2.1) (fun hn_ => (Kd.freshB (g := bd) (o := .cells #[.int .u64 bk, .int .u64 bB, .slice bK br.length bJ] 25 (0, 0)) zx25_0 k_ hn_)), Or.elim hk_ (fun hs_ => hs_.1.2.2.2.2.2.1) (fun hn_ => (Kd.freshB (g := be) (o := .cells #[.int .u64 bG, .int .u64 bI, .slice bp bh.length bn] 25 (0, 0)) zx25_1 k_ hn_)), Or.elim hk_ (fun hs_ => hs_.1.2.2.2.2.2.2.1) (fun hn_ => (Kd.freshB (g := bf) (o := .cells #[.int .u64 bW, .int .u64 b1, .slice b6 bL.length b5] 25 (0, 0)) zx25_2 k_ hn_)), Or.elim hk_ (fun hs_ => hs_.1.2.2.2.2.2.2.2) (fun hn_ => (Kd.freshB (g := bc) (o := .cells #[.int .u64 bU, .int .u64 bV, .slice bY bM.length bX] 25 (0, 0)) zx25_4 k_ hn_)), Or.elim hk_ (fun hs_ => hs_.2) (fun hn_ => (Kd.freshB (g := ba) (o := .cells #[.int .u64 0, .int .u64 0, .slice none 0 0] 25 (0, 0)) zx25_7 k_ hn_))⟩)) (below_size zx25_5))
   replace bD := Aside0.mk (Kd.N_below zx25_10 hb)
   replace bQ := Aside0.mk (Kd.R_below zx25_6 hb)
   replace bP := Aside0.mk (Kd.N_below zx25_9 hb)
   replace b3 := Aside0.mk (Kd.N_below zx25_11 hb)
   replace bg := Aside0.mk (blk_below (g := bd) (o := .cells #[.int .u64 bk, .int .u64 bB, .slice bK br.length bJ] 25 (0, 0)) zx25_0 hb)
   replace bl := Aside0.mk (blk_below (g := be) (o := .cells #[.int .u64 bG, .int .u64 bI, .slice bp bh.length bn] 25 (0, 0)) zx25_1 hb)
   replace bx := Aside0.mk (blk_below (g := bf) (o := .cells #[.int .u64 bW, .int .u64 b1, .slice b6 bL.length b5] 25 (0, 0)) zx25_2 hb)
   replace bE := Aside0.mk (blk_below (g := bc) (o := .cells #[.int .u64 bU, .int .u64 bV, .slice bY bM.length bX] 25 (0, 0)) zx25_4 hb)
   replace bN := Aside0.mk (blk_below (g := ba) (o := .cells #[.int .u64 0, .int .u64 0, .slice none 0 0] 25 (0, 0)) zx25_7 hb)
   replace HB := Aside0.mk (below_step zx25_5 hb)
   (try clear hb)
   (try clear hb2)
   (try clear hk)
   (try clear hi)
   (try clear ho0)
   refine hK.out _ _ ⟨(blk_cell bg.out 0).trans rfl, (blk_cell bg.out 1).trans rfl, (blk_cell bg.out 2).trans rfl⟩ (fun hHeld => ?_)
   clear hK K
   refine na_ 82 ?_
   refine pp_ 8 (some 74) HT_.out ?_
   refine pp_ 9 (some 83) HT_.out ?_
   refine pp_ 10 (some 84) HT_.out ?_
   exact norm_ zx25_36 (hCont (gl, ba) _ ⟨hHeld, zx25_26, zx25_31, zx25_6, zx25_32, zx25_33, zx25_37, zx25_38, zx25_19, zx25_0, zx25_1, zx25_2, zx25_4, zx25_7, gb.out, dS.out, dg.out, dN.out, dE.out, dM.out, dD.out, dL.out, dB.out, dK.out, zx25_5⟩)
 rintro ⟨gl, ba⟩ w73 ⟨hS_, h0_, h1_, h2_, h3_, h4_, h5_, h6_, h7_, h8_, h9_, gS, gR, gQ, gP, gO, gN, gM, gL, gK, gJ, gI, gH, gG, gF⟩
 have n0_ : Aside0 (Kd.V k55 55 w73 w.heap.size (fun k_ => some k_ ≠ (.slice bp bh.length bn : Value).ownBlock ∧ some k_ ≠ (.slice (some bj) bi.length bH : Value).ownBlock ∧ some k_ ≠ (.slice b4 bO.length b2 : Value).ownBlock ∧ some k_ ≠ (.slice dj b0.length di : Value).ownBlock ∧ k_ ≠ bd ∧ k_ ≠ be ∧ k_ ≠ bf ∧ k_ ≠ bc ∧ k_ ≠ ba) (.slice bK br.length bJ) br) := ⟨h0_⟩
 have n1_ : Aside0 (Kd.N k55 55 w73 w.heap.size (fun k_ => some k_ ≠ (.slice (some bj) bi.length bH : Value).ownBlock ∧ some k_ ≠ (.slice b4 bO.length b2 : Value).ownBlock ∧ some k_ ≠ (.slice dj b0.length di : Value).ownBlock ∧ k_ ≠ bd ∧ k_ ≠ be ∧ k_ ≠ bf ∧ k_ ≠ bc ∧ k_ ≠ ba) (.slice bp bh.length bn) bh) := ⟨h1_⟩
 have n2_ : Aside0 (Kd.R Kd.string 9 w73 w.heap.size (fun _ => True) (.slice (some bj) bi.length bH) bi) := ⟨h2_⟩
 have n3_ : Aside0 (Kd.N k55 55 w73 w.heap.size (fun k_ => some k_ ≠ (.slice bp bh.length bn : Value).ownBlock ∧ some k_ ≠ (.slice (some bj) bi.length bH : Value).ownBlock ∧ some k_ ≠ (.slice dj b0.length di : Value).ownBlock ∧ k_ ≠ bd ∧ k_ ≠ be ∧ k_ ≠ bf ∧ k_ ≠ bc ∧ k_ ≠ ba) (.slice b4 bO.length b2) bO) := ⟨h3_⟩
 have n4_ : Aside0 (Kd.V k55 55 w73 w.heap.size (fun k_ => some k_ ≠ (.slice bp bh.length bn : Value).ownBlock ∧ some k_ ≠ (.slice (some bj) bi.length bH : Value).ownBlock ∧ some k_ ≠ (.slice dj b0.length di : Value).ownBlock ∧ k_ ≠ bd ∧ k_ ≠ be ∧ k_ ≠ bf ∧ k_ ≠ bc ∧ k_ ≠ ba) (.slice b6 bL.length b5) bL) := ⟨h4_⟩
 have n5_ : Aside0 (Kd.N k55 55 w73 w.heap.size (fun k_ => some k_ ≠ (.slice (some bj) bi.length bH : Value).ownBlock ∧ some k_ ≠ (.slice b4 bO.length b2 : Value).ownBlock ∧ k_ ≠ bd ∧ k_ ≠ be ∧ k_ ≠ bf ∧ k_ ≠ bc ∧ k_ ≠ ba) (.slice dj b0.length di) b0) := ⟨h5_⟩
 have n6_ : Aside0 (Kd.V k55 55 w73 w.heap.size (fun k_ => some k_ ≠ (.slice (some bj) bi.length bH : Value).ownBlock ∧ some k_ ≠ (.slice b4 bO.length b2 : Value).ownBlock ∧ k_ ≠ bd ∧ k_ ≠ be ∧ k_ ≠ bf ∧ k_ ≠ bc ∧ k_ ≠ ba) (.slice bY bM.length bX) bM) := ⟨h6_⟩
 have n7_ : Aside0 (Kd.V k55 55 w73 w.heap.size (fun k_ => some k_ ≠ (.slice bp bh.length bn : Value).ownBlock ∧ some k_ ≠ (.slice (some bj) bi.length bH : Value).ownBlock ∧ some k_ ≠ (.slice b4 bO.length b2 : Value).ownBlock ∧ some k_ ≠ (.slice dj b0.length di : Value).ownBlock ∧ k_ ≠ bd ∧ k_ ≠ be ∧ k_ ≠ bf ∧ k_ ≠ bc ∧ k_ ≠ ba) gl bZ) := ⟨h7_⟩
 have n8_ : Aside0 (w73.heap[bd]? = some (.cells #[.int .u64 bk, .int .u64 bB, .slice bK br.length bJ] 25 (0, 0))) := ⟨h8_⟩
 have n9_ : Aside0 (w73.heap[be]? = some (.cells #[.int .u64 bG, .int .u64 bI, .slice bp bh.length bn] 25 (0, 0))) := ⟨h9_⟩
 have n10_ : Aside0 (w73.heap[bf]? = some (.cells #[.int .u64 bW, .int .u64 b1, .slice b6 bL.length b5] 25 (0, 0))) := ⟨gS⟩
 have n11_ : Aside0 (w73.heap[bc]? = some (.cells #[.int .u64 bU, .int .u64 bV, .slice bY bM.length bX] 25 (0, 0))) := ⟨gR⟩
 have n12_ : Aside0 (w73.heap[ba]? = some (.cells #[.int .u64 0, .int .u64 0, .slice none 0 0] 25 (0, 0))) := ⟨gQ⟩
 have n13_ : Aside0 (w.heap.size ≤ ba) := ⟨gP⟩
 have n14_ : Aside0 (w.heap.size ≤ ba) := ⟨gO⟩
 have n15_ : Aside0 (bd ≠ ba) := ⟨gN⟩
 have n16_ : Aside0 (ba ≠ bd) := ⟨gM⟩
 have n17_ : Aside0 (be ≠ ba) := ⟨gL⟩
 have n18_ : Aside0 (ba ≠ be) := ⟨gK⟩
 have n19_ : Aside0 (bf ≠ ba) := ⟨gJ⟩
 have n20_ : Aside0 (ba ≠ bf) := ⟨gI⟩
 have n21_ : Aside0 (bc ≠ ba) := ⟨gH⟩
 have n22_ : Aside0 (ba ≠ bc) := ⟨gG⟩
 have n23_ : Aside0 (Below w.heap.size w w73) := ⟨gF⟩
 clear bA
 clear bD
 clear bQ
 clear bP
 clear bR
 clear b3
 clear db
 clear bg
 clear bl
 clear bx
 clear bE
 clear HB
 clear h0_ h1_ h2_ h3_ h4_ h5_ h6_ h7_ h8_ h9_ gS gR gQ gP gO gN gM gL gK gJ gI gH gG gF
 have bA := n0_
 have bD := n1_
 have bQ := n2_
 have bP := n3_
 have bR := n4_
 have b3 := n5_
 have db := n6_
 have dr := n7_
 have bg := n8_
 have bl := n9_
 have bx := n10_
 have bE := n11_
 have bN := n12_
 have gb := n13_
 have dS := n14_
 have dg := n15_
 have dN := n16_
 have dE := n17_
 have dM := n18_
 have dD := n19_
 have dL := n20_
 have dB := n21_
 have dK := n22_
 have HB := n23_
 clear n0_ n1_ n2_ n3_ n4_ n5_ n6_ n7_ n8_ n9_ n10_ n11_ n12_ n13_ n14_ n15_ n16_ n17_ n18_ n19_ n20_ n21_ n22_ n23_
 have hHeld : w73.cell? ⟨bd, 0, none⟩ = some (.int .u64 bk) ∧ w73.cell? ⟨bd, 1, none⟩ = some (.int .u64 bB) ∧ w73.cell? ⟨bd, 2, none⟩ = some (.slice bK br.length bJ) := hS_
 obtain ⟨dl, dk, hD⟩ := Kd.V_slice dr.out
 (first | subst hD | (injection hD with f1_ f2_ f3_; have f4_ := f1_.symm; have f5_ := f3_.symm; clear f1_ f2_ f3_; subst f4_; subst f5_))
 refine nb_ ?_
 refine one_ (i := 12) (N := none) #[Tt,Tt,Tt,Tt,Tt,Tt,Tt,Tt,Tt,Tt,Tt,Tt,Tt,Ff] rfl rfl (one_of HT_.out (by kernel_rfl)) (by decide) (fun K hK => ?_)
 have oG : w73.cell? ⟨ba, 0, none⟩ = some (.int .u64 0) := (blk_cell bN.out 0).trans rfl
 have oc := blk_frozen bN.out 0
 have jy := dg.out
 have jx := dE.out
 have jw := dD.out
 have jv := dB.out
 have jZ := dN.out
 have jY := dM.out
 have jX := dL.out
 have jW := dK.out
 have oF : w73.cell? ⟨ba, 1, none⟩ = some (.int .u64 0) := (blk_cell bN.out 1).trans rfl
 have ob := blk_frozen bN.out 1
 have ju := dg.out
 have jt := dE.out
 have js := dD.out
 have jr := dB.out
 have jV := dN.out
 have jU := dM.out
 have jT := dL.out
 have jS := dK.out
 have oE : w73.cell? ⟨ba, 2, none⟩ = some (.slice none 0 0) := (blk_cell bN.out 2).trans rfl
 have oa := blk_frozen bN.out 2
 have jq := dg.out
 have jp := dE.out
 have jo := dD.out
 have jn := dB.out
 have jR := dN.out
 have jQ := dM.out
 have jP := dL.out
 have jO := dK.out
 refine skip_ (w1 := ?_) (by rfl) rfl ?_ ?_
 rotate_left
 ·go_simp
  rfl
 refine hK.out _ _ ⟨((cell_far (p := ⟨ba, _, none⟩) dg.out _).trans (((cell_far (p := ⟨ba, _, none⟩) dg.out _).trans (((cell_far (p := ⟨ba, _, none⟩) dg.out _).trans (hHeld.1)))))), ((cell_far (p := ⟨ba, _, none⟩) dg.out _).trans (((cell_far (p := ⟨ba, _, none⟩) dg.out _).trans (((cell_far (p := ⟨ba, _, none⟩) dg.out _).trans (hHeld.2.1)))))), ((cell_far (p := ⟨ba, _, none⟩) dg.out _).trans (((cell_far (p := ⟨ba, _, none⟩) dg.out _).trans (((cell_far (p := ⟨ba, _, none⟩) dg.out _).trans (hHeld.2.2))))))⟩ (fun hHeld => ?_)
 clear hK K
 refine pp_ 13 (some 19) HT_.out ?_
 refine done_ (done_of HT_.out (by kernel_rfl)) ?_
 try go_wp2
 have n0_ : Aside0 (Kd.V k55 55 (((w73.setCell ⟨ba, 0, none⟩ (.int .u64 da)).setCell ⟨ba, 1, none⟩ (.int .u64 dd)).setCell ⟨ba, 2, none⟩ (.slice dl bZ.length dk)) w.heap.size (fun k_ => some k_ ≠ (.slice bp bh.length bn : Value).ownBlock ∧ some k_ ≠ (.slice (some bj) bi.length bH : Value).ownBlock ∧ some k_ ≠ (.slice b4 bO.length b2 : Value).ownBlock ∧ some k_ ≠ (.slice dj b0.length di : Value).ownBlock ∧ k_ ≠ bd ∧ k_ ≠ be ∧ k_ ≠ bf ∧ k_ ≠ bc ∧ k_ ≠ ba) (.slice bK br.length bJ) br) := ⟨by (with_reducible repeat (first | apply Kd.V_alloc | apply Kd.V_drewN | apply Kd.V_drew)); exact Kd.V_mono (Kd.V_far (p := ⟨ba, 2, none⟩) (Kd.V_far (p := ⟨ba, 1, none⟩) (Kd.V_far (p := ⟨ba, 0, none⟩) (Kd.V_mono bA.out (fun k_ hk => (⟨hk, hk.2.2.2.2.2.2.2.2⟩ : _ ∧ k_ ≠ ba))) (fun _ hk => hk.2) (.int .u64 da)) (fun _ hk => hk.2) (.int .u64 dd)) (fun _ hk => hk.2) (.slice dl bZ.length dk)) (fun _ hk => ⟨hk.1.1, ⟨hk.1.2.1, ⟨hk.1.2.2.1, ⟨hk.1.2.2.2.1, ⟨hk.1.2.2.2.2.1, ⟨hk.1.2.2.2.2.2.1, ⟨hk.1.2.2.2.2.2.2.1, ⟨hk.1.2.2.2.2.2.2.2.1, hk.1.2.2.2.2.2.2.2.2⟩⟩⟩⟩⟩⟩⟩⟩)⟩
 have n1_ : Aside0 (Kd.N k55 55 (((w73.setCell ⟨ba, 0, none⟩ (.int .u64 da)).setCell ⟨ba, 1, none⟩ (.int .u64 dd)).setCell ⟨ba, 2, none⟩ (.slice dl bZ.length dk)) w.heap.size (fun k_ => some k_ ≠ (.slice (some bj) bi.length bH : Value).ownBlock ∧ some k_ ≠ (.slice b4 bO.length b2 : Value).ownBlock ∧ some k_ ≠ (.slice dj b0.length di : Value).ownBlock ∧ k_ ≠ bd ∧ k_ ≠ be ∧ k_ ≠ bf ∧ k_ ≠ bc ∧ k_ ≠ ba) (.slice bp bh.length bn) bh) := ⟨by (with_reducible repeat (first | apply Kd.N_alloc | apply Kd.N_drewN | apply Kd.N_drew)); exact Kd.N_mono (Kd.N_far (p := ⟨ba, 2, none⟩) (Kd.N_far (p := ⟨ba, 1, none⟩) (Kd.N_far (p := ⟨ba, 0, none⟩) (Kd.N_mono bD.out (fun k_ hk => (⟨hk, hk.2.2.2.2.2.2.2⟩ : _ ∧ k_ ≠ ba))) (fun _ hk => hk.2) (.int .u64 da)) (fun _ hk => hk.2) (.int .u64 dd)) (fun _ hk => hk.2) (.slice dl bZ.length dk)) (fun _ hk => ⟨hk.1.1, ⟨hk.1.2.1, ⟨hk.1.2.2.1, ⟨hk.1.2.2.2.1, ⟨hk.1.2.2.2.2.1, ⟨hk.1.2.2.2.2.2.1, ⟨hk.1.2.2.2.2.2.2.1, hk.1.2.2.2.2.2.2.2⟩⟩⟩⟩⟩⟩⟩)⟩
 have n2_ : Aside0 (Kd.R Kd.string 9 (((w73.setCell ⟨ba, 0, none⟩ (.int .u64 da)).setCell ⟨ba, 1, none⟩ (.int .u64 dd)).setCell ⟨ba, 2, none⟩ (.slice dl bZ.length dk)) w.heap.size (fun _ => True) (.slice (some bj) bi.length bH) bi) := ⟨by (with_reducible repeat (first | apply Kd.R_alloc | apply Kd.R_drewN | apply Kd.R_drew)); exact Kd.R_mono (Kd.R_far (p := ⟨ba, 2, none⟩) (Kd.R_far (p := ⟨ba, 1, none⟩) (Kd.R_far (p := ⟨ba, 0, none⟩) (Kd.R_types bQ.out bN.out (by decide)) (fun _ hk => hk.2) (.int .u64 da)) (fun _ hk => hk.2) (.int .u64 dd)) (fun _ hk => hk.2) (.slice dl bZ.length dk)) (fun _ hk => trivial)⟩
 have n3_ : Aside0 (Kd.N k55 55 (((w73.setCell ⟨ba, 0, none⟩ (.int .u64 da)).setCell ⟨ba, 1, none⟩ (.int .u64 dd)).setCell ⟨ba, 2, none⟩ (.slice dl bZ.length dk)) w.heap.size (fun k_ => some k_ ≠ (.slice bp bh.length bn : Value).ownBlock ∧ some k_ ≠ (.slice (some bj) bi.length bH : Value).ownBlock ∧ some k_ ≠ (.slice dj b0.length di : Value).ownBlock ∧ k_ ≠ bd ∧ k_ ≠ be ∧ k_ ≠ bf ∧ k_ ≠ bc ∧ k_ ≠ ba) (.slice b4 bO.length b2) bO) := ⟨by (with_reducible repeat (first | apply Kd.N_alloc | apply Kd.N_drewN | apply Kd.N_drew)); exact Kd.N_mono (Kd.N_far (p := ⟨ba, 2, none⟩) (Kd.N_far (p := ⟨ba, 1, none⟩) (Kd.N_far (p := ⟨ba, 0, none⟩) (Kd.N_mono bP.out (fun k_ hk => (⟨hk, hk.2.2.2.2.2.2.2⟩ : _ ∧ k_ ≠ ba))) (fun _ hk => hk.2) (.int .u64 da)) (fun _ hk => hk.2) (.int .u64 dd)) (fun _ hk => hk.2) (.slice dl bZ.length dk)) (fun _ hk => ⟨hk.1.1, ⟨hk.1.2.1, ⟨hk.1.2.2.1, ⟨hk.1.2.2.2.1, ⟨hk.1.2.2.2.2.1, ⟨hk.1.2.2.2.2.2.1, ⟨hk.1.2.2.2.2.2.2.1, hk.1.2.2.2.2.2.2.2⟩⟩⟩⟩⟩⟩⟩)⟩
 have n4_ : Aside0 (Kd.V k55 55 (((w73.setCell ⟨ba, 0, none⟩ (.int .u64 da)).setCell ⟨ba, 1, none⟩ (.int .u64 dd)).setCell ⟨ba, 2, none⟩ (.slice dl bZ.length dk)) w.heap.size (fun k_ => some k_ ≠ (.slice bp bh.length bn : Value).ownBlock ∧ some k_ ≠ (.slice (some bj) bi.length bH : Value).ownBlock ∧ some k_ ≠ (.slice dj b0.length di : Value).ownBlock ∧ k_ ≠ bd ∧ k_ ≠ be ∧ k_ ≠ bf ∧ k_ ≠ bc ∧ k_ ≠ ba) (.slice b6 bL.length b5) bL) := ⟨by (with_reducible repeat (first | apply Kd.V_alloc | apply Kd.V_drewN | apply Kd.V_drew)); exact Kd.V_mono (Kd.V_far (p := ⟨ba, 2, none⟩) (Kd.V_far (p := ⟨ba, 1, none⟩) (Kd.V_far (p := ⟨ba, 0, none⟩) (Kd.V_mono bR.out (fun k_ hk => (⟨hk, hk.2.2.2.2.2.2.2⟩ : _ ∧ k_ ≠ ba))) (fun _ hk => hk.2) (.int .u64 da)) (fun _ hk => hk.2) (.int .u64 dd)) (fun _ hk => hk.2) (.slice dl bZ.length dk)) (fun _ hk => ⟨hk.1.1, ⟨hk.1.2.1, ⟨hk.1.2.2.1, ⟨hk.1.2.2.2.1, ⟨hk.1.2.2.2.2.1, ⟨hk.1.2.2.2.2.2.1, ⟨hk.1.2.2.2.2.2.2.1, hk.1.2.2.2.2.2.2.2⟩⟩⟩⟩⟩⟩⟩)⟩
 have n5_ : Aside0 (Kd.N k55 55 (((w73.setCell ⟨ba, 0, none⟩ (.int .u64 da)).setCell ⟨ba, 1, none⟩ (.int .u64 dd)).setCell ⟨ba, 2, none⟩ (.slice dl bZ.length dk)) w.heap.size (fun k_ => some k_ ≠ (.slice (some bj) bi.length bH : Value).ownBlock ∧ some k_ ≠ (.slice b4 bO.length b2 : Value).ownBlock ∧ k_ ≠ bd ∧ k_ ≠ be ∧ k_ ≠ bf ∧ k_ ≠ bc ∧ k_ ≠ ba) (.slice dj b0.length di) b0) := ⟨by (with_reducible repeat (first | apply Kd.N_alloc | apply Kd.N_drewN | apply Kd.N_drew)); exact Kd.N_mono (Kd.N_far (p := ⟨ba, 2, none⟩) (Kd.N_far (p := ⟨ba, 1, none⟩) (Kd.N_far (p := ⟨ba, 0, none⟩) (Kd.N_mono b3.out (fun k_ hk => (⟨hk, hk.2.2.2.2.2.2⟩ : _ ∧ k_ ≠ ba))) (fun _ hk => hk.2) (.int .u64 da)) (fun _ hk => hk.2) (.int .u64 dd)) (fun _ hk => hk.2) (.slice dl bZ.length dk)) (fun _ hk => ⟨hk.1.1, ⟨hk.1.2.1, ⟨hk.1.2.2.1, ⟨hk.1.2.2.2.1, ⟨hk.1.2.2.2.2.1, ⟨hk.1.2.2.2.2.2.1, hk.1.2.2.2.2.2.2⟩⟩⟩⟩⟩⟩)⟩
 have n6_ : Aside0 (Kd.V k55 55 (((w73.setCell ⟨ba, 0, none⟩ (.int .u64 da)).setCell ⟨ba, 1, none⟩ (.int .u64 dd)).setCell ⟨ba, 2, none⟩ (.slice dl bZ.length dk)) w.heap.size (fun k_ => some k_ ≠ (.slice (some bj) bi.length bH : Value).ownBlock ∧ some k_ ≠ (.slice b4 bO.length b2 : Value).ownBlock ∧ k_ ≠ bd ∧ k_ ≠ be ∧ k_ ≠ bf ∧ k_ ≠ bc ∧ k_ ≠ ba) (.slice bY bM.length bX) bM) := ⟨by (with_reducible repeat (first | apply Kd.V_alloc | apply Kd.V_drewN | apply Kd.V_drew)); exact Kd.V_mono (Kd.V_far (p := ⟨ba, 2, none⟩) (Kd.V_far (p := ⟨ba, 1, none⟩) (Kd.V_far (p := ⟨ba, 0, none⟩) (Kd.V_mono db.out (fun k_ hk => (⟨hk, hk.2.2.2.2.2.2⟩ : _ ∧ k_ ≠ ba))) (fun _ hk => hk.2) (.int .u64 da)) (fun _ hk => hk.2) (.int .u64 dd)) (fun _ hk => hk.2) (.slice dl bZ.length dk)) (fun _ hk => ⟨hk.1.1, ⟨hk.1.2.1, ⟨hk.1.2.2.1, ⟨hk.1.2.2.2.1, ⟨hk.1.2.2.2.2.1, ⟨hk.1.2.2.2.2.2.1, hk.1.2.2.2.2.2.2⟩⟩⟩⟩⟩⟩)⟩
 have n7_ : Aside0 (Kd.V k55 55 (((w73.setCell ⟨ba, 0, none⟩ (.int .u64 da)).setCell ⟨ba, 1, none⟩ (.int .u64 dd)).setCell ⟨ba, 2, none⟩ (.slice dl bZ.length dk)) w.heap.size (fun k_ => some k_ ≠ (.slice bp bh.length bn : Value).ownBlock ∧ some k_ ≠ (.slice (some bj) bi.length bH : Value).ownBlock ∧ some k_ ≠ (.slice b4 bO.length b2 : Value).ownBlock ∧ some k_ ≠ (.slice dj b0.length di : Value).ownBlock ∧ k_ ≠ bd ∧ k_ ≠ be ∧ k_ ≠ bf ∧ k_ ≠ bc ∧ k_ ≠ ba) (.slice dl bZ.length dk) bZ) := ⟨by (with_reducible repeat (first | apply Kd.V_alloc | apply Kd.V_drewN | apply Kd.V_drew)); exact Kd.V_mono (Kd.V_far (p := ⟨ba, 2, none⟩) (Kd.V_far (p := ⟨ba, 1, none⟩) (Kd.V_far (p := ⟨ba, 0, none⟩) (Kd.V_mono dr.out (fun k_ hk => (⟨hk, hk.2.2.2.2.2.2.2.2⟩ : _ ∧ k_ ≠ ba))) (fun _ hk => hk.2) (.int .u64 da)) (fun _ hk => hk.2) (.int .u64 dd)) (fun _ hk => hk.2) (.slice dl bZ.length dk)) (fun _ hk => ⟨hk.1.1, ⟨hk.1.2.1, ⟨hk.1.2.2.1, ⟨hk.1.2.2.2.1, ⟨hk.1.2.2.2.2.1, ⟨hk.1.2.2.2.2.2.1, ⟨hk.1.2.2.2.2.2.2.1, ⟨hk.1.2.2.2.2.2.2.2.1, hk.1.2.2.2.2.2.2.2.2⟩⟩⟩⟩⟩⟩⟩⟩)⟩
 have n8_ : Aside0 ((((w73.setCell ⟨ba, 0, none⟩ (.int .u64 da)).setCell ⟨ba, 1, none⟩ (.int .u64 dd)).setCell ⟨ba, 2, none⟩ (.slice dl bZ.length dk)).heap[bd]? = some (.cells #[.int .u64 bk, .int .u64 bB, .slice bK br.length bJ] 25 (0, 0))) := ⟨by (iterate 3 ((with_reducible repeat (first | refine blk_drewN ?_ _ | refine blk_drew ?_ | refine blk_alloc ?_ _)); refine blk_far ?_ dg.out _)); (with_reducible repeat (first | refine blk_drewN ?_ _ | refine blk_drew ?_ | refine blk_alloc ?_ _)); exact bg.out⟩
 have n9_ : Aside0 ((((w73.setCell ⟨ba, 0, none⟩ (.int .u64 da)).setCell ⟨ba, 1, none⟩ (.int .u64 dd)).setCell ⟨ba, 2, none⟩ (.slice dl bZ.length dk)).heap[be]? = some (.cells #[.int .u64 bG, .int .u64 bI, .slice bp bh.length bn] 25 (0, 0))) := ⟨by (iterate 3 ((with_reducible repeat (first | refine blk_drewN ?_ _ | refine blk_drew ?_ | refine blk_alloc ?_ _)); refine blk_far ?_ dE.out _)); (with_reducible repeat (first | refine blk_drewN ?_ _ | refine blk_drew ?_ | refine blk_alloc ?_ _)); exact bl.out⟩
 have n10_ : Aside0 ((((w73.setCell ⟨ba, 0, none⟩ (.int .u64 da)).setCell ⟨ba, 1, none⟩ (.int .u64 dd)).setCell ⟨ba, 2, none⟩ (.slice dl bZ.length dk)).heap[bf]? = some (.cells #[.int .u64 bW, .int .u64 b1, .slice b6 bL.length b5] 25 (0, 0))) := ⟨by (iterate 3 ((with_reducible repeat (first | refine blk_drewN ?_ _ | refine blk_drew ?_ | refine blk_alloc ?_ _)); refine blk_far ?_ dD.out _)); (with_reducible repeat (first | refine blk_drewN ?_ _ | refine blk_drew ?_ | refine blk_alloc ?_ _)); exact bx.out⟩
 have n11_ : Aside0 ((((w73.setCell ⟨ba, 0, none⟩ (.int .u64 da)).setCell ⟨ba, 1, none⟩ (.int .u64 dd)).setCell ⟨ba, 2, none⟩ (.slice dl bZ.length dk)).heap[bc]? = some (.cells #[.int .u64 bU, .int .u64 bV, .slice bY bM.length bX] 25 (0, 0))) := ⟨by (iterate 3 ((with_reducible repeat (first | refine blk_drewN ?_ _ | refine blk_drew ?_ | refine blk_alloc ?_ _)); refine blk_far ?_ dB.out _)); (with_reducible repeat (first | refine blk_drewN ?_ _ | refine blk_drew ?_ | refine blk_alloc ?_ _)); exact bE.out⟩
 have n12_ : Aside0 ((((w73.setCell ⟨ba, 0, none⟩ (.int .u64 da)).setCell ⟨ba, 1, none⟩ (.int .u64 dd)).setCell ⟨ba, 2, none⟩ (.slice dl bZ.length dk)).heap[ba]? = some (.cells #[.int .u64 da, .int .u64 dd, .slice dl bZ.length dk] 25 (0, 0))) := ⟨by (with_reducible repeat (first | refine blk_drewN ?_ _ | refine blk_drew ?_ | refine blk_alloc ?_ _)); refine blk_put (cs := #[.int .u64 da, .int .u64 dd, .slice none 0 0]) ?_ 2 _ rfl; (with_reducible repeat (first | refine blk_drewN ?_ _ | refine blk_drew ?_ | refine blk_alloc ?_ _)); refine blk_put (cs := #[.int .u64 da, .int .u64 0, .slice none 0 0]) ?_ 1 _ rfl; (with_reducible repeat (first | refine blk_drewN ?_ _ | refine blk_drew ?_ | refine blk_alloc ?_ _)); refine blk_put (cs := #[.int .u64 0, .int .u64 0, .slice none 0 0]) ?_ 0 _ rfl; (with_reducible repeat (first | refine blk_drewN ?_ _ | refine blk_drew ?_ | refine blk_alloc ?_ _)); exact bN.out⟩
 have n13_ : Aside0 (Below w.heap.size w (((w73.setCell ⟨ba, 0, none⟩ (.int .u64 da)).setCell ⟨ba, 1, none⟩ (.int .u64 dd)).setCell ⟨ba, 2, none⟩ (.slice dl bZ.length dk))) := ⟨by repeat (first | (with_reducible first | exact HB.out | apply below_alloc | apply pw_below_drewN | apply below_drew1 | refine below_set ?_ dT.out | refine below_set ?_ dW.out | refine below_set ?_ dZ.out | refine below_set ?_ d2.out | refine below_set ?_ dS.out) | exact HB.out)⟩
 (try clear bA)
 (try clear bD)
 (try clear bQ)
 (try clear bP)
 (try clear bR)
 (try clear b3)
 (try clear db)
 (try clear dr)
 (try clear bg)
 (try clear bl)
 (try clear bx)
 (try clear bE)
 (try clear bN)
 (try clear HB)
 generalize (((w73.setCell ⟨ba, 0, none⟩ (.int .u64 da)).setCell ⟨ba, 1, none⟩ (.int .u64 dd)).setCell ⟨ba, 2, none⟩ (.slice dl bZ.length dk)) = w78 at n0_ n1_ n2_ n3_ n4_ n5_ n6_ n7_ n8_ n9_ n10_ n11_ n12_ n13_ ⊢
 have bA := n0_
 have bD := n1_
 have bQ := n2_
 have bP := n3_
 have bR := n4_
 have b3 := n5_
 have db := n6_
 have dr := n7_
 have bg := n8_
 have bl := n9_
 have bx := n10_
 have bE := n11_
 have bN := n12_
 have HB := n13_
 clear n0_ n1_ n2_ n3_ n4_ n5_ n6_ n7_ n8_ n9_ n10_ n11_ n12_ n13_
 replace bA := Aside0.mk (Kd.V_drew bA.out)
 replace bD := Aside0.mk (Kd.N_drew bD.out)
 replace bQ := Aside0.mk (Kd.R_drew bQ.out)
 replace bP := Aside0.mk (Kd.N_drew bP.out)
 replace bR := Aside0.mk (Kd.V_drew bR.out)
 replace b3 := Aside0.mk (Kd.N_drew b3.out)
 replace db := Aside0.mk (Kd.V_drew db.out)
 replace dr := Aside0.mk (Kd.V_drew dr.out)
 replace bg := Aside0.mk (blk_drew bg.out)
 replace bl := Aside0.mk (blk_drew bl.out)
 replace bx := Aside0.mk (blk_drew bx.out)
 replace bE := Aside0.mk (blk_drew bE.out)
 replace bN := Aside0.mk (blk_drew bN.out)
 replace HB := Aside0.mk (below_drew1 HB.out)
 refine start_ (n := 14) (S := fun w' => w'.cell? ⟨be, 0, none⟩ = some (.int .u64 bG) ∧ w'.cell? ⟨be, 1, none⟩ = some (.int .u64 bI) ∧ w'.cell? ⟨be, 2, none⟩ = some (.slice bp bh.length bn) ∧ w'.cell? ⟨bd, 0, none⟩ = some (.int .u64 bk) ∧ w'.cell? ⟨bd, 1, none⟩ = some (.int .u64 bB) ∧ w'.cell? ⟨bd, 2, none⟩ = some (.slice bK br.length bJ)) (ds := []) #[Ff,Ff,Ff,Ff,Ff,Ff,Ff,Ff,Ff,Ff,Ff,Ff,Ff,Ff] (by kernel_rfl) rfl rfl ⟨(blk_cell bl.out 0).trans rfl, (blk_cell bl.out 1).trans rfl, (blk_cell bl.out 2).trans rfl, (blk_cell bg.out 0).trans rfl, (blk_cell bg.out 1).trans rfl, (blk_cell bg.out 2).trans rfl⟩ (fun hHeld => ?_); refine with_tabW postroomlaw11_MarkGoes.tab13 postroomlaw11_MarkGoes.bits13 (fun HT_ HW_ => ?_)
 generalize w78.drew = w79 at bA bD bQ bP bR b3 db dr bg bl bx bE bN HB hHeld ⊢
 refine pp_ 1 (some 87) HT_.out ?_
 refine pp_ 3 (some 89) HT_.out ?_
 refine take_ (i := 0) (N := some 86) (v := ?_) (a' := ?_) #[Tt,Tt,Ff,Tt,Ff,Ff,Ff,Ff,Ff,Ff,Ff,Ff,Ff,Ff] rfl rfl (take_ofW HT_.out HW_.out (by kernel_rfl)) (fun _ _ _ h => h) (Or.inl ⟨by rfl, ?_⟩) hHeld ?_ ?_
 rotate_left
 ·rintro w' ⟨s0, s1, s2, s3, s4, s5⟩
  go_simp
  with_reducible rfl
 rotate_left
 ·simp only [Act.put, List.setIfInBounds_toArray, List.set_cons_zero, List.set_cons_succ, i64_w, i32_w]
  rfl
 refine take_ (i := 2) (N := some 88) (v := ?_) (a' := ?_) #[Tt,Tt,Tt,Tt,Ff,Ff,Ff,Ff,Ff,Ff,Ff,Ff,Ff,Ff] rfl rfl (take_ofW HT_.out HW_.out (by kernel_rfl)) (fun _ _ _ h => h) (Or.inl ⟨by rfl, ?_⟩) hHeld ?_ ?_
 rotate_left
 ·rintro w' ⟨s0, s1, s2, s3, s4, s5⟩
  go_simp
  with_reducible rfl
 rotate_left
 ·simp only [Act.put, List.setIfInBounds_toArray, List.set_cons_zero, List.set_cons_succ, i64_w, i32_w]
  rfl
 refine join_ (σ := Value × Nat) 2 #[Tt,Tt,Tt,Tt,Tt,Tt,Tt,Tt,Tt,Tt,Tt,Tt,Ff,Ff] (fun s_ => [(90, .int .i64 du), (93, .tuple #[.agg #[.int .u64 dm, .int .u64 dp, s_.1], .int .i64 d3]), (20, .pointer (some ⟨s_.2, 0, none⟩)), (91, .int .u64 (IntKind.u64.wrap (du))), (92, .int .u64 (IntKind.u64.wrap (bk + (IntKind.u64.wrap (du))))), (85, .tuple #[.agg #[.int .u64 dm, .int .u64 dp, s_.1], .int .i64 d3]), (94, .agg #[.int .u64 dm, .int .u64 dp, s_.1]), (95, .int .i64 d3)]) (fun s_ w' => (w'.cell? ⟨be, 0, none⟩ = some (.int .u64 bG) ∧ w'.cell? ⟨be, 1, none⟩ = some (.int .u64 bI) ∧ w'.cell? ⟨be, 2, none⟩ = some (.slice bp bh.length bn) ∧ w'.cell? ⟨bd, 0, none⟩ = some (.int .u64 bk) ∧ w'.cell? ⟨bd, 1, none⟩ = some (.int .u64 bB) ∧ w'.cell? ⟨bd, 2, none⟩ = some (.slice bK br.length bJ)) ∧ (Kd.V k55 55 w' w.heap.size (fun k_ => some k_ ≠ (.slice bp bh.length bn : Value).ownBlock ∧ some k_ ≠ (.slice (some bj) bi.length bH : Value).ownBlock ∧ some k_ ≠ (.slice b4 bO.length b2 : Value).ownBlock ∧ some k_ ≠ (.slice dj b0.length di : Value).ownBlock ∧ k_ ≠ bd ∧ k_ ≠ be ∧ k_ ≠ bf ∧ k_ ≠ bc ∧ k_ ≠ ba ∧ k_ ≠ s_.2) (.slice bK br.length bJ) br) ∧ (Kd.N k55 55 w' w.heap.size (fun k_ => some k_ ≠ (.slice (some bj) bi.length bH : Value).ownBlock ∧ some k_ ≠ (.slice b4 bO.length b2 : Value).ownBlock ∧ some k_ ≠ (.slice dj b0.length di : Value).ownBlock ∧ k_ ≠ bd ∧ k_ ≠ be ∧ k_ ≠ bf ∧ k_ ≠ bc ∧ k_ ≠ ba ∧ k_ ≠ s_.2) (.slice bp bh.length bn) bh) ∧ (Kd.R Kd.string 9 w' w.heap.size (fun _ => True) (.slice (some bj) bi.length bH) bi) ∧ (Kd.N k55 55 w' w.heap.size (fun k_ => some k_ ≠ (.slice bp bh.length bn : Value).ownBlock ∧ some k_ ≠ (.slice (some bj) bi.length bH : Value).ownBlock ∧ some k_ ≠ (.slice dj b0.length di : Value).ownBlock ∧ k_ ≠ bd ∧ k_ ≠ be ∧ k_ ≠ bf ∧ k_ ≠ bc ∧ k_ ≠ ba ∧ k_ ≠ s_.2) (.slice b4 bO.length b2) bO) ∧ (Kd.V k55 55 w' w.heap.size (fun k_ => some k_ ≠ (.slice bp bh.length bn : Value).ownBlock ∧ some k_ ≠ (.slice (some bj) bi.length bH : Value).ownBlock ∧ some k_ ≠ (.slice dj b0.length di : Value).ownBlock ∧ k_ ≠ bd ∧ k_ ≠ be ∧ k_ ≠ bf ∧ k_ ≠ bc ∧ k_ ≠ ba ∧ k_ ≠ s_.2) (.slice b6 bL.length b5) bL) ∧ (Kd.N k55 55 w' w.heap.size (fun k_ => some k_ ≠ (.slice (some bj) bi.length bH : Value).ownBlock ∧ some k_ ≠ (.slice b4 bO.length b2 : Value).ownBlock ∧ k_ ≠ bd ∧ k_ ≠ be ∧ k_ ≠ bf ∧ k_ ≠ bc ∧ k_ ≠ ba ∧ k_ ≠ s_.2) (.slice dj b0.length di) b0) ∧ (Kd.V k55 55 w' w.heap.size (fun k_ => some k_ ≠ (.slice (some bj) bi.length bH : Value).ownBlock ∧ some k_ ≠ (.slice b4 bO.length b2 : Value).ownBlock ∧ k_ ≠ bd ∧ k_ ≠ be ∧ k_ ≠ bf ∧ k_ ≠ bc ∧ k_ ≠ ba ∧ k_ ≠ s_.2) (.slice bY bM.length bX) bM) ∧ (Kd.V k55 55 w' w.heap.size (fun k_ => some k_ ≠ (.slice bp bh.length bn : Value).ownBlock ∧ some k_ ≠ (.slice (some bj) bi.length bH : Value).ownBlock ∧ some k_ ≠ (.slice b4 bO.length b2 : Value).ownBlock ∧ some k_ ≠ (.slice dj b0.length di : Value).ownBlock ∧ k_ ≠ bd ∧ k_ ≠ be ∧ k_ ≠ bf ∧ k_ ≠ bc ∧ k_ ≠ ba ∧ k_ ≠ s_.2) (.slice dl bZ.length dk) bZ) ∧ (Kd.V k55 55 w' w.heap.size (fun k_ => some k_ ≠ (.slice (some bj) bi.length bH : Value).ownBlock ∧ some k_ ≠ (.slice b4 bO.length b2 : Value).ownBlock ∧ some k_ ≠ (.slice dj b0.length di : Value).ownBlock ∧ k_ ≠ bd ∧ k_ ≠ be ∧ k_ ≠ bf ∧ k_ ≠ bc ∧ k_ ≠ ba ∧ k_ ≠ s_.2) s_.1 dn) ∧ (w'.heap[bd]? = some (.cells #[.int .u64 bk, .int .u64 bB, .slice bK br.length bJ] 25 (0, 0))) ∧ (w'.heap[be]? = some (.cells #[.int .u64 bG, .int .u64 bI, .slice bp bh.length bn] 25 (0, 0))) ∧ (w'.heap[bf]? = some (.cells #[.int .u64 bW, .int .u64 b1, .slice b6 bL.length b5] 25 (0, 0))) ∧ (w'.heap[bc]? = some (.cells #[.int .u64 bU, .int .u64 bV, .slice bY bM.length bX] 25 (0, 0))) ∧ (w'.heap[ba]? = some (.cells #[.int .u64 da, .int .u64 dd, .slice dl bZ.length dk] 25 (0, 0))) ∧ (w'.heap[s_.2]? = some (.cells #[.int .u64 0, .int .u64 0, .slice none 0 0] 25 (0, 0))) ∧ (w.heap.size ≤ s_.2) ∧ (w.heap.size ≤ s_.2) ∧ (bd ≠ s_.2) ∧ (s_.2 ≠ bd) ∧ (be ≠ s_.2) ∧ (s_.2 ≠ be) ∧ (bf ≠ s_.2) ∧ (s_.2 ≠ bf) ∧ (bc ≠ s_.2) ∧ (s_.2 ≠ bc) ∧ (ba ≠ s_.2) ∧ (s_.2 ≠ ba) ∧ (Below w.heap.size w w')) ?_ ?_
 rotate_left
 ·intro hCont
  refine two_ (i := 4) (j := 11) (Ni := some 90) (Nj := some 20) #[Tt,Tt,Tt,Tt,Tt,Ff,Ff,Ff,Ff,Ff,Ff,Ff,Ff,Ff] #[Tt,Tt,Tt,Tt,Ff,Ff,Ff,Ff,Ff,Ff,Ff,Tt,Ff,Ff] rfl rfl rfl rfl (two_of HT_.out (by kernel_rfl)) (by decide) (by decide) (fun K hK => ?_) (fun K hK => ?_)
  ·skip
   refine goes_ Tryd.func19 (by kernel_rfl) rfl #[.int .i64 a2, .int .i64 5] (by rfl) rfl rfl zx25_8 ?_
   with_reducible refine (postroomlaw11_pick.calls a2 5 du _ A24.out).mono ?_
   rintro e w' ⟨rfl, ⟨nd, rfl⟩⟩
   refine ⟨_, rfl, ?_⟩
   refine hK.out _ _ ⟨(blk_cell bl.out 0).trans rfl, (blk_cell bl.out 1).trans rfl, (blk_cell bl.out 2).trans rfl, (blk_cell bg.out 0).trans rfl, (blk_cell bg.out 1).trans rfl, (blk_cell bg.out 2).trans rfl⟩ (fun hHeld => ?_)
   clear hK K
   refine na_ 90 ?_
   refine pp_ 5 (some 91) HT_.out ?_
   refine pp_ 6 (some 92) HT_.out ?_
   refine two_ (i := 7) (j := 11) (Ni := some 93) (Nj := some 20) #[Tt,Tt,Tt,Tt,Tt,Tt,Tt,Tt,Ff,Ff,Ff,Ff,Ff,Ff] #[Tt,Tt,Tt,Tt,Tt,Tt,Tt,Ff,Ff,Ff,Ff,Tt,Ff,Ff] rfl rfl rfl rfl (two_of HT_.out (by kernel_rfl)) (by decide) (by decide) (fun K hK => ?_) (fun K hK => ?_)
   ·skip
    refine goes_ Tryd.func22 (by kernel_rfl) rfl #[.agg #[.int .u64 bG, .int .u64 bI, .slice bp bh.length bn], .int .u64 (IntKind.u64.wrap (bk + (IntKind.u64.wrap (du))))] (by rfl) rfl rfl zx25_8 ?_
    with_reducible refine (ledger_Evict.calls k bG bI (fun k_ => (some k_ ≠ (.slice (some bj) bi.length bH : Value).ownBlock ∧ (some k_ ≠ (.slice b4 bO.length b2 : Value).ownBlock ∧ (some k_ ≠ (.slice dj b0.length di : Value).ownBlock ∧ (k_ ≠ bd ∧ (k_ ≠ be ∧ (k_ ≠ bf ∧ (k_ ≠ bc ∧ k_ ≠ ba)))))))) _ _ bh (IntKind.u64.wrap (bk + (IntKind.u64.wrap (du)))) dm dp dn d3 _ ?side1 A25.out).mono ?_
    (case side1 => exact Kd.N_V (bD.out))
    rintro e w80 ⟨gk, rfl, ho0, hb⟩
    refine ⟨_, rfl, ?_⟩
    replace bA := Aside0.mk (Kd.V_below zx25_12 hb)
    replace bD := Aside0.mk (Kd.N_below zx25_10 hb)
    replace bR := Aside0.mk (Kd.V_below zx25_14 hb)
    replace db := Aside0.mk (Kd.V_below zx25_17 hb)
    replace dr := Aside0.mk (Kd.V_below zx25_19 hb)
    have dO := Aside0.mk (Kd.V_lower (Kd.V_mono (ok' := fun k_ => some k_ ≠ (.slice (some bj) bi.length bH : Value).ownBlock ∧ some k_ ≠ (.slice b4 bO.length b2 : Value).ownBlock ∧ some k_ ≠ (.slice dj b0.length di : Value).ownBlock ∧ k_ ≠ bd ∧ k_ ≠ be ∧ k_ ≠ bf ∧ k_ ≠ bc ∧ k_ ≠ ba) ho0 (fun k_ hk_ => ⟨Or.elim hk_ (fun hs_ => hs_.1) (fun hn_ => (Kd.fresh' (Kd.R_lt zx25_6) k_ hn_)), Or.elim hk_ (fun hs_ => hs_.2.1) (fun hn_ => (Kd.fresh' (Kd.N_lt zx25_9) k_ hn_)), Or.elim hk_ (fun hs_ => hs_.2.2.1) (fun hn_ => (Kd.fresh' (Kd.N_lt zx25_11) k_ hn_)), Or.elim hk_ (fun hs_ => hs_.2.2.2.1) (fun hn_ => (Kd.freshB (g := bd) (o := .cells #[.int .u64 bk, .int .u64 bB, .slice bK br.length bJ] 25 (0, 0)) zx25_0 k_ hn_)), Or.elim hk_ (fun hs_ => hs_.2.2.2.2.1) (fun hn_ => (Kd.freshB (g := be) (o := .cells #[.int .u64 bG, .int .u64 bI, .slice bp bh.length bn] 25 (0, 0)) zx25_1 k_ hn_)), Or.elim hk_ (fun hs_ => hs_.2.2.2.2.2.1) (fun hn_ => (Kd.freshB (g := bf) (o := .cells #[.int .u64 bW, .int .u64 b1, .slice b6 bL.length b5] 25 (0, 0)) zx25_2 k_ hn_)), Or.elim hk_ (fun hs_ => hs_.2.2.2.2.2.2.1) (fun hn_ => (Kd.freshB (g := bc) (o := .cells #[.int .u64 bU, .int .u64 bV, .slice bY bM.length bX] 25 (0, 0)) zx25_4 k_ hn_)), Or.elim hk_ (fun hs_ => hs_.2.2.2.2.2.2.2) (fun hn_ => (Kd.freshB (g := ba) (o := .cells #[.int .u64 da, .int .u64 dd, .slice dl bZ.length dk] 25 (0, 0)) zx25_7 k_ hn_))⟩)) (below_size zx25_5))
    replace bQ := Aside0.mk (Kd.R_below zx25_6 hb)
    replace bP := Aside0.mk (Kd.N_below zx25_9 hb)
    replace b3 := Aside0.mk (Kd.N_below zx25_11 hb)
    replace bg := Aside0.mk (blk_below (g := bd) (o := .cells #[.int .u64 bk, .int .u64 bB, .slice bK br.length bJ] 25 (0, 0)) zx25_0 hb)
    replace bl := Aside0.mk (blk_below (g := be) (o := .cells #[.int .u64 bG, .int .u64 bI, .slice bp bh.length bn] 25 (0, 0)) zx25_1 hb)
    replace bx := Aside0.mk (blk_below (g := bf) (o := .cells #[.int .u64 bW, .int .u64 b1, .slice b6 bL.length b5] 25 (0, 0)) zx25_2 hb)
    replace bE := Aside0.mk (blk_below (g := bc) (o := .cells #[.int .u64 bU, .int .u64 bV, .slice bY bM.length bX] 25 (0, 0)) zx25_4 hb)
    replace bN := Aside0.mk (blk_below (g := ba) (o := .cells #[.int .u64 da, .int .u64 dd, .slice dl bZ.length dk] 25 (0, 0)) zx25_7 hb)
    replace HB := Aside0.mk (below_step zx25_5 hb)
    (try clear hb)
    (try clear hb2)
    (try clear hk)
    (try clear hi)
    (try clear ho0)
    refine hK.out _ _ ⟨(blk_cell bl.out 0).trans rfl, (blk_cell bl.out 1).trans rfl, (blk_cell bl.out 2).trans rfl, (blk_cell bg.out 0).trans rfl, (blk_cell bg.out 1).trans rfl, (blk_cell bg.out 2).trans rfl⟩ (fun hHeld => ?_)
    clear hK K
    refine na_ 93 ?_
    refine pp_ 8 (some 85) HT_.out ?_
    refine pp_ 9 (some 94) HT_.out ?_
    refine pp_ 10 (some 95) HT_.out ?_
    refine one_ (i := 11) (N := some 20) #[Tt,Tt,Tt,Tt,Tt,Tt,Tt,Tt,Tt,Tt,Tt,Tt,Ff,Ff] rfl rfl (one_of HT_.out (by kernel_rfl)) (by decide) (fun K hK => ?_)
    refine box_step ?hg (N := 20) ?hd (cs := #[.int .u64 0, .int .u64 0, .slice none 0 0]) (t := 25) ?hr ?_; (case hd => rfl); (case hg => rfl); (case hr => first | (go_simp; done) | (go_simp; rfl))
    intro bb hg w81 hbox hb
    replace bA := Aside0.mk (Kd.V_below (Kd.V_elderB zx25_12 bb (Nat.le_of_eq hg.symm)) hb)
    replace bD := Aside0.mk (Kd.N_below (Kd.N_elderB zx25_10 bb (Nat.le_of_eq hg.symm)) hb)
    replace bQ := Aside0.mk (Kd.R_below zx25_6 hb)
    replace bP := Aside0.mk (Kd.N_below (Kd.N_elderB zx25_9 bb (Nat.le_of_eq hg.symm)) hb)
    replace bR := Aside0.mk (Kd.V_below (Kd.V_elderB zx25_14 bb (Nat.le_of_eq hg.symm)) hb)
    replace b3 := Aside0.mk (Kd.N_below (Kd.N_elderB zx25_11 bb (Nat.le_of_eq hg.symm)) hb)
    replace db := Aside0.mk (Kd.V_below (Kd.V_elderB zx25_17 bb (Nat.le_of_eq hg.symm)) hb)
    replace dr := Aside0.mk (Kd.V_below (Kd.V_elderB zx25_19 bb (Nat.le_of_eq hg.symm)) hb)
    replace dO := Aside0.mk (Kd.V_below (Kd.V_elderB zx25_20 bb (Nat.le_of_eq hg.symm)) hb)
    have dc := Aside0.mk (hbox)
    have ga := Aside0.mk ((by rw [hg]; exact (below_size zx25_5) : w.heap.size ≤ bb))
    have dV := Aside0.mk ((by rw [hg]; exact (below_size zx25_5) : w.heap.size ≤ bb))
    replace HB := Aside0.mk (below_step zx25_5 hb)
    have df := Aside0.mk ((by rw [hg]; exact Nat.ne_of_lt (blk_lt (g := bd) (o := .cells #[.int .u64 bk, .int .u64 bB, .slice bK br.length bJ] 25 (0, 0)) zx25_0) : bd ≠ bb))
    have dJ := Aside0.mk ((by rw [hg]; exact Nat.ne_of_gt (blk_lt (g := bd) (o := .cells #[.int .u64 bk, .int .u64 bB, .slice bK br.length bJ] 25 (0, 0)) zx25_0) : bb ≠ bd))
    replace bg := Aside0.mk (blk_below (g := bd) (o := .cells #[.int .u64 bk, .int .u64 bB, .slice bK br.length bJ] 25 (0, 0)) zx25_0 hb)
    have de := Aside0.mk ((by rw [hg]; exact Nat.ne_of_lt (blk_lt (g := be) (o := .cells #[.int .u64 bG, .int .u64 bI, .slice bp bh.length bn] 25 (0, 0)) zx25_1) : be ≠ bb))
    have dI := Aside0.mk ((by rw [hg]; exact Nat.ne_of_gt (blk_lt (g := be) (o := .cells #[.int .u64 bG, .int .u64 bI, .slice bp bh.length bn] 25 (0, 0)) zx25_1) : bb ≠ be))
    replace bl := Aside0.mk (blk_below (g := be) (o := .cells #[.int .u64 bG, .int .u64 bI, .slice bp bh.length bn] 25 (0, 0)) zx25_1 hb)
    have dC := Aside0.mk ((by rw [hg]; exact Nat.ne_of_lt (blk_lt (g := bf) (o := .cells #[.int .u64 bW, .int .u64 b1, .slice b6 bL.length b5] 25 (0, 0)) zx25_2) : bf ≠ bb))
    have dH := Aside0.mk ((by rw [hg]; exact Nat.ne_of_gt (blk_lt (g := bf) (o := .cells #[.int .u64 bW, .int .u64 b1, .slice b6 bL.length b5] 25 (0, 0)) zx25_2) : bb ≠ bf))
    replace bx := Aside0.mk (blk_below (g := bf) (o := .cells #[.int .u64 bW, .int .u64 b1, .slice b6 bL.length b5] 25 (0, 0)) zx25_2 hb)
    have dA := Aside0.mk ((by rw [hg]; exact Nat.ne_of_lt (blk_lt (g := bc) (o := .cells #[.int .u64 bU, .int .u64 bV, .slice bY bM.length bX] 25 (0, 0)) zx25_4) : bc ≠ bb))
    have dG := Aside0.mk ((by rw [hg]; exact Nat.ne_of_gt (blk_lt (g := bc) (o := .cells #[.int .u64 bU, .int .u64 bV, .slice bY bM.length bX] 25 (0, 0)) zx25_4) : bb ≠ bc))
    replace bE := Aside0.mk (blk_below (g := bc) (o := .cells #[.int .u64 bU, .int .u64 bV, .slice bY bM.length bX] 25 (0, 0)) zx25_4 hb)
    have dz := Aside0.mk ((by rw [hg]; exact Nat.ne_of_lt (blk_lt (g := ba) (o := .cells #[.int .u64 da, .int .u64 dd, .slice dl bZ.length dk] 25 (0, 0)) zx25_7) : ba ≠ bb))
    have dF := Aside0.mk ((by rw [hg]; exact Nat.ne_of_gt (blk_lt (g := ba) (o := .cells #[.int .u64 da, .int .u64 dd, .slice dl bZ.length dk] 25 (0, 0)) zx25_7) : bb ≠ ba))
    replace bN := Aside0.mk (blk_below (g := ba) (o := .cells #[.int .u64 da, .int .u64 dd, .slice dl bZ.length dk] 25 (0, 0)) zx25_7 hb)
    clear hb hbox hg
    refine hK.out _ _ ⟨(blk_cell bl.out 0).trans rfl, (blk_cell bl.out 1).trans rfl, (blk_cell bl.out 2).trans rfl, (blk_cell bg.out 0).trans rfl, (blk_cell bg.out 1).trans rfl, (blk_cell bg.out 2).trans rfl⟩ (fun hHeld => ?_)
    clear hK K
    refine na_ 20 ?_
    exact norm_ zx25_36 (hCont (gk, bb) _ ⟨hHeld, zx25_24, zx25_27, zx25_6, zx25_28, zx25_29, zx25_34, zx25_35, zx25_25, (by (with_reducible repeat (first | apply Kd.V_alloc | apply Kd.V_drewN | apply Kd.V_drew)); exact Kd.V_mono dO.out (fun _ hk => ⟨hk.1.1, ⟨hk.1.2.1, ⟨hk.1.2.2.1, ⟨hk.1.2.2.2.1, ⟨hk.1.2.2.2.2.1, ⟨hk.1.2.2.2.2.2.1, ⟨hk.1.2.2.2.2.2.2.1, ⟨hk.1.2.2.2.2.2.2.2, hk.2⟩⟩⟩⟩⟩⟩⟩⟩)), zx25_0, zx25_1, zx25_2, zx25_4, zx25_7, zx25_16, ga.out, dV.out, df.out, dJ.out, de.out, dI.out, dC.out, dH.out, dA.out, dG.out, dz.out, dF.out, zx25_3⟩)
   ·skip
    refine box_step ?hg (N := 20) ?hd (cs := #[.int .u64 0, .int .u64 0, .slice none 0 0]) (t := 25) ?hr ?_; (case hd => rfl); (case hg => rfl); (case hr => first | (go_simp; done) | (go_simp; rfl))
    intro bb hg w80 hbox hb
    replace bA := Aside0.mk (Kd.V_below (Kd.V_elderB zx25_12 bb (Nat.le_of_eq hg.symm)) hb)
    replace bD := Aside0.mk (Kd.N_below (Kd.N_elderB zx25_10 bb (Nat.le_of_eq hg.symm)) hb)
    replace bQ := Aside0.mk (Kd.R_below zx25_6 hb)
    replace bP := Aside0.mk (Kd.N_below (Kd.N_elderB zx25_9 bb (Nat.le_of_eq hg.symm)) hb)
    replace bR := Aside0.mk (Kd.V_below (Kd.V_elderB zx25_14 bb (Nat.le_of_eq hg.symm)) hb)
    replace b3 := Aside0.mk (Kd.N_below (Kd.N_elderB zx25_11 bb (Nat.le_of_eq hg.symm)) hb)
    replace db := Aside0.mk (Kd.V_below (Kd.V_elderB zx25_17 bb (Nat.le_of_eq hg.symm)) hb)
    replace dr := Aside0.mk (Kd.V_below (Kd.V_elderB zx25_19 bb (Nat.le_of_eq hg.symm)) hb)
    have dc := Aside0.mk (hbox)
    have ga := Aside0.mk ((by rw [hg]; exact (below_size zx25_5) : w.heap.size ≤ bb))
    have dV := Aside0.mk ((by rw [hg]; exact (below_size zx25_5) : w.heap.size ≤ bb))
    replace HB := Aside0.mk (below_step zx25_5 hb)
    have df := Aside0.mk ((by rw [hg]; exact Nat.ne_of_lt (blk_lt (g := bd) (o := .cells #[.int .u64 bk, .int .u64 bB, .slice bK br.length bJ] 25 (0, 0)) zx25_0) : bd ≠ bb))
    have dJ := Aside0.mk ((by rw [hg]; exact Nat.ne_of_gt (blk_lt (g := bd) (o := .cells #[.int .u64 bk, .int .u64 bB, .slice bK br.length bJ] 25 (0, 0)) zx25_0) : bb ≠ bd))
    replace bg := Aside0.mk (blk_below (g := bd) (o := .cells #[.int .u64 bk, .int .u64 bB, .slice bK br.length bJ] 25 (0, 0)) zx25_0 hb)
    have de := Aside0.mk ((by rw [hg]; exact Nat.ne_of_lt (blk_lt (g := be) (o := .cells #[.int .u64 bG, .int .u64 bI, .slice bp bh.length bn] 25 (0, 0)) zx25_1) : be ≠ bb))
    have dI := Aside0.mk ((by rw [hg]; exact Nat.ne_of_gt (blk_lt (g := be) (o := .cells #[.int .u64 bG, .int .u64 bI, .slice bp bh.length bn] 25 (0, 0)) zx25_1) : bb ≠ be))
    replace bl := Aside0.mk (blk_below (g := be) (o := .cells #[.int .u64 bG, .int .u64 bI, .slice bp bh.length bn] 25 (0, 0)) zx25_1 hb)
    have dC := Aside0.mk ((by rw [hg]; exact Nat.ne_of_lt (blk_lt (g := bf) (o := .cells #[.int .u64 bW, .int .u64 b1, .slice b6 bL.length b5] 25 (0, 0)) zx25_2) : bf ≠ bb))
    have dH := Aside0.mk ((by rw [hg]; exact Nat.ne_of_gt (blk_lt (g := bf) (o := .cells #[.int .u64 bW, .int .u64 b1, .slice b6 bL.length b5] 25 (0, 0)) zx25_2) : bb ≠ bf))
    replace bx := Aside0.mk (blk_below (g := bf) (o := .cells #[.int .u64 bW, .int .u64 b1, .slice b6 bL.length b5] 25 (0, 0)) zx25_2 hb)
    have dA := Aside0.mk ((by rw [hg]; exact Nat.ne_of_lt (blk_lt (g := bc) (o := .cells #[.int .u64 bU, .int .u64 bV, .slice bY bM.length bX] 25 (0, 0)) zx25_4) : bc ≠ bb))
    have dG := Aside0.mk ((by rw [hg]; exact Nat.ne_of_gt (blk_lt (g := bc) (o := .cells #[.int .u64 bU, .int .u64 bV, .slice bY bM.length bX] 25 (0, 0)) zx25_4) : bb ≠ bc))
    replace bE := Aside0.mk (blk_below (g := bc) (o := .cells #[.int .u64 bU, .int .u64 bV, .slice bY bM.length bX] 25 (0, 0)) zx25_4 hb)
    have dz := Aside0.mk ((by rw [hg]; exact Nat.ne_of_lt (blk_lt (g := ba) (o := .cells #[.int .u64 da, .int .u64 dd, .slice dl bZ.length dk] 25 (0, 0)) zx25_7) : ba ≠ bb))
    have dF := Aside0.mk ((by rw [hg]; exact Nat.ne_of_gt (blk_lt (g := ba) (o := .cells #[.int .u64 da, .int .u64 dd, .slice dl bZ.length dk] 25 (0, 0)) zx25_7) : bb ≠ ba))
    replace bN := Aside0.mk (blk_below (g := ba) (o := .cells #[.int .u64 da, .int .u64 dd, .slice dl bZ.length dk] 25 (0, 0)) zx25_7 hb)
    clear hb hbox hg
    refine hK.out _ _ ⟨(blk_cell bl.out 0).trans rfl, (blk_cell bl.out 1).trans rfl, (blk_cell bl.out 2).trans rfl, (blk_cell bg.out 0).trans rfl, (blk_cell bg.out 1).trans rfl, (blk_cell bg.out 2).trans rfl⟩ (fun hHeld => ?_)
    clear hK K
    refine na_ 20 ?_
    refine one_ (i := 7) (N := some 93) #[Tt,Tt,Tt,Tt,Tt,Tt,Tt,Tt,Ff,Ff,Ff,Tt,Ff,Ff] rfl rfl (one_of HT_.out (by kernel_rfl)) (by decide) (fun K hK => ?_)
    refine goes_ Tryd.func22 (by kernel_rfl) rfl #[.agg #[.int .u64 bG, .int .u64 bI, .slice bp bh.length bn], .int .u64 (IntKind.u64.wrap (bk + (IntKind.u64.wrap (du))))] (by rfl) rfl rfl zx25_8 ?_
    with_reducible refine (ledger_Evict.calls k bG bI (fun k_ => ((some k_ ≠ (.slice (some bj) bi.length bH : Value).ownBlock ∧ (some k_ ≠ (.slice b4 bO.length b2 : Value).ownBlock ∧ (some k_ ≠ (.slice dj b0.length di : Value).ownBlock ∧ (k_ ≠ bd ∧ (k_ ≠ be ∧ (k_ ≠ bf ∧ (k_ ≠ bc ∧ k_ ≠ ba))))))) ∧ k_ ≠ bb)) _ _ bh (IntKind.u64.wrap (bk + (IntKind.u64.wrap (du)))) dm dp dn d3 _ ?side1 A25.out).mono ?_
    (case side1 => exact Kd.N_V (bD.out))
    rintro e w81 ⟨gk, rfl, ho0, hb⟩
    refine ⟨_, rfl, ?_⟩
    replace bA := Aside0.mk (Kd.V_below zx25_12 hb)
    replace bD := Aside0.mk (Kd.N_below zx25_10 hb)
    replace bR := Aside0.mk (Kd.V_below zx25_14 hb)
    replace db := Aside0.mk (Kd.V_below zx25_17 hb)
    replace dr := Aside0.mk (Kd.V_below zx25_19 hb)
    have dO := Aside0.mk (Kd.V_lower (Kd.V_mono (ok' := fun k_ => some k_ ≠ (.slice (some bj) bi.length bH : Value).ownBlock ∧ some k_ ≠ (.slice b4 bO.length b2 : Value).ownBlock ∧ some k_ ≠ (.slice dj b0.length di : Value).ownBlock ∧ k_ ≠ bd ∧ k_ ≠ be ∧ k_ ≠ bf ∧ k_ ≠ bc ∧ k_ ≠ ba ∧ k_ ≠ bb) ho0 (fun k_ hk_ => ⟨Or.elim hk_ (fun hs_ => hs_.1.1) (fun hn_ => (Kd.fresh' (Kd.R_lt zx25_6) k_ hn_)), Or.elim hk_ (fun hs_ => hs_.1.2.1) (fun hn_ => (Kd.fresh' (Kd.N_lt zx25_9) k_ hn_)), Or.elim hk_ (fun hs_ => hs_.1.2.2.1) (fun hn_ => (Kd.fresh' (Kd.N_lt zx25_11) k_ hn_)), Or.elim hk_ (fun hs_ => hs_.1.2.2.2.1) (fun hn_ => (Kd.freshB (g := bd) (o := .cells #[.int .u64 bk, .int .u64 bB, .slice bK br.length bJ] 25 (0, 0)) zx25_0 k_ hn_)), Or.elim hk_ (fun hs_ => hs_.1.2.2.2.2.1) (fun hn_ => (Kd.freshB (g := be) (o := .cells #[.int .u64 bG, .int .u64 bI, .slice bp bh.length bn] 25 (0, 0)) zx25_1 k_ hn_)), Or.elim hk_ (fun hs_ => hs_.1.2.2.2.2.2.1) (fun hn_ => (Kd.freshB (g := bf) (o := .cells #[.int .u64 bW, .int .u64 b1, .slice b6 bL.length b5] 25 (0, 0)) zx25_2 k_ hn_)), Or.elim hk_ (fun hs_ => hs_.1.2.2.2.2.2.2.1) (fun hn_ => (Kd.freshB (g := bc) (o := .cells #[.int .u64 bU, .int .u64 bV, .slice bY bM.length bX] 25 (0, 0)) zx25_4 k_ hn_)), Or.elim hk_ (fun hs_ => hs_.1.2.2.2.2.2.2.2) (fun hn_ => (Kd.freshB (g := ba) (o := .cells #[.int .u64 da, .int .u64 dd, .slice dl bZ.length dk] 25 (0, 0)) zx25_7 k_ hn_)), Or.elim hk_ (fun hs_ => hs_.2) (fun hn_ => (Kd.freshB (g := bb) (o := .cells #[.int .u64 0, .int .u64 0, .slice none 0 0] 25 (0, 0)) zx25_16 k_ hn_))⟩)) (below_size zx25_3))
    replace bQ := Aside0.mk (Kd.R_below zx25_6 hb)
    replace bP := Aside0.mk (Kd.N_below zx25_9 hb)
    replace b3 := Aside0.mk (Kd.N_below zx25_11 hb)
    replace bg := Aside0.mk (blk_below (g := bd) (o := .cells #[.int .u64 bk, .int .u64 bB, .slice bK br.length bJ] 25 (0, 0)) zx25_0 hb)
    replace bl := Aside0.mk (blk_below (g := be) (o := .cells #[.int .u64 bG, .int .u64 bI, .slice bp bh.length bn] 25 (0, 0)) zx25_1 hb)
    replace bx := Aside0.mk (blk_below (g := bf) (o := .cells #[.int .u64 bW, .int .u64 b1, .slice b6 bL.length b5] 25 (0, 0)) zx25_2 hb)
    replace bE := Aside0.mk (blk_below (g := bc) (o := .cells #[.int .u64 bU, .int .u64 bV, .slice bY bM.length bX] 25 (0, 0)) zx25_4 hb)
    replace bN := Aside0.mk (blk_below (g := ba) (o := .cells #[.int .u64 da, .int .u64 dd, .slice dl bZ.length dk] 25 (0, 0)) zx25_7 hb)
    replace dc := Aside0.mk (blk_below (g := bb) (o := .cells #[.int .u64 0, .int .u64 0, .slice none 0 0] 25 (0, 0)) zx25_16 hb)
    replace HB := Aside0.mk (below_step zx25_3 hb)
    (try clear hb)
    (try clear hb2)
    (try clear hk)
    (try clear hi)
    (try clear ho0)
    refine hK.out _ _ ⟨(blk_cell bl.out 0).trans rfl, (blk_cell bl.out 1).trans rfl, (blk_cell bl.out 2).trans rfl, (blk_cell bg.out 0).trans rfl, (blk_cell bg.out 1).trans rfl, (blk_cell bg.out 2).trans rfl⟩ (fun hHeld => ?_)
    clear hK K
    refine na_ 93 ?_
    refine pp_ 8 (some 85) HT_.out ?_
    refine pp_ 9 (some 94) HT_.out ?_
    refine pp_ 10 (some 95) HT_.out ?_
    exact norm_ zx25_36 (hCont (gk, bb) _ ⟨hHeld, zx25_24, zx25_27, zx25_6, zx25_28, zx25_29, zx25_34, zx25_35, zx25_25, zx25_20, zx25_0, zx25_1, zx25_2, zx25_4, zx25_7, zx25_16, ga.out, dV.out, df.out, dJ.out, de.out, dI.out, dC.out, dH.out, dA.out, dG.out, dz.out, dF.out, zx25_3⟩)
  ·skip
   refine box_step ?hg (N := 20) ?hd (cs := #[.int .u64 0, .int .u64 0, .slice none 0 0]) (t := 25) ?hr ?_; (case hd => rfl); (case hg => rfl); (case hr => first | (go_simp; done) | (go_simp; rfl))
   intro bb hg w80 hbox hb
   replace bA := Aside0.mk (Kd.V_below (Kd.V_elderB zx25_12 bb (Nat.le_of_eq hg.symm)) hb)
   replace bD := Aside0.mk (Kd.N_below (Kd.N_elderB zx25_10 bb (Nat.le_of_eq hg.symm)) hb)
   replace bQ := Aside0.mk (Kd.R_below zx25_6 hb)
   replace bP := Aside0.mk (Kd.N_below (Kd.N_elderB zx25_9 bb (Nat.le_of_eq hg.symm)) hb)
   replace bR := Aside0.mk (Kd.V_below (Kd.V_elderB zx25_14 bb (Nat.le_of_eq hg.symm)) hb)
   replace b3 := Aside0.mk (Kd.N_below (Kd.N_elderB zx25_11 bb (Nat.le_of_eq hg.symm)) hb)
   replace db := Aside0.mk (Kd.V_below (Kd.V_elderB zx25_17 bb (Nat.le_of_eq hg.symm)) hb)
   replace dr := Aside0.mk (Kd.V_below (Kd.V_elderB zx25_19 bb (Nat.le_of_eq hg.symm)) hb)
   have dc := Aside0.mk (hbox)
   have ga := Aside0.mk ((by rw [hg]; exact (below_size zx25_5) : w.heap.size ≤ bb))
   have dV := Aside0.mk ((by rw [hg]; exact (below_size zx25_5) : w.heap.size ≤ bb))
   replace HB := Aside0.mk (below_step zx25_5 hb)
   have df := Aside0.mk ((by rw [hg]; exact Nat.ne_of_lt (blk_lt (g := bd) (o := .cells #[.int .u64 bk, .int .u64 bB, .slice bK br.length bJ] 25 (0, 0)) zx25_0) : bd ≠ bb))
   have dJ := Aside0.mk ((by rw [hg]; exact Nat.ne_of_gt (blk_lt (g := bd) (o := .cells #[.int .u64 bk, .int .u64 bB, .slice bK br.length bJ] 25 (0, 0)) zx25_0) : bb ≠ bd))
   replace bg := Aside0.mk (blk_below (g := bd) (o := .cells #[.int .u64 bk, .int .u64 bB, .slice bK br.length bJ] 25 (0, 0)) zx25_0 hb)
   have de := Aside0.mk ((by rw [hg]; exact Nat.ne_of_lt (blk_lt (g := be) (o := .cells #[.int .u64 bG, .int .u64 bI, .slice bp bh.length bn] 25 (0, 0)) zx25_1) : be ≠ bb))
   have dI := Aside0.mk ((by rw [hg]; exact Nat.ne_of_gt (blk_lt (g := be) (o := .cells #[.int .u64 bG, .int .u64 bI, .slice bp bh.length bn] 25 (0, 0)) zx25_1) : bb ≠ be))
   replace bl := Aside0.mk (blk_below (g := be) (o := .cells #[.int .u64 bG, .int .u64 bI, .slice bp bh.length bn] 25 (0, 0)) zx25_1 hb)
   have dC := Aside0.mk ((by rw [hg]; exact Nat.ne_of_lt (blk_lt (g := bf) (o := .cells #[.int .u64 bW, .int .u64 b1, .slice b6 bL.length b5] 25 (0, 0)) zx25_2) : bf ≠ bb))
   have dH := Aside0.mk ((by rw [hg]; exact Nat.ne_of_gt (blk_lt (g := bf) (o := .cells #[.int .u64 bW, .int .u64 b1, .slice b6 bL.length b5] 25 (0, 0)) zx25_2) : bb ≠ bf))
   replace bx := Aside0.mk (blk_below (g := bf) (o := .cells #[.int .u64 bW, .int .u64 b1, .slice b6 bL.length b5] 25 (0, 0)) zx25_2 hb)
   have dA := Aside0.mk ((by rw [hg]; exact Nat.ne_of_lt (blk_lt (g := bc) (o := .cells #[.int .u64 bU, .int .u64 bV, .slice bY bM.length bX] 25 (0, 0)) zx25_4) : bc ≠ bb))
   have dG := Aside0.mk ((by rw [hg]; exact Nat.ne_of_gt (blk_lt (g := bc) (o := .cells #[.int .u64 bU, .int .u64 bV, .slice bY bM.length bX] 25 (0, 0)) zx25_4) : bb ≠ bc))
   replace bE := Aside0.mk (blk_below (g := bc) (o := .cells #[.int .u64 bU, .int .u64 bV, .slice bY bM.length bX] 25 (0, 0)) zx25_4 hb)
   have dz := Aside0.mk ((by rw [hg]; exact Nat.ne_of_lt (blk_lt (g := ba) (o := .cells #[.int .u64 da, .int .u64 dd, .slice dl bZ.length dk] 25 (0, 0)) zx25_7) : ba ≠ bb))
   have dF := Aside0.mk ((by rw [hg]; exact Nat.ne_of_gt (blk_lt (g := ba) (o := .cells #[.int .u64 da, .int .u64 dd, .slice dl bZ.length dk] 25 (0, 0)) zx25_7) : bb ≠ ba))
   replace bN := Aside0.mk (blk_below (g := ba) (o := .cells #[.int .u64 da, .int .u64 dd, .slice dl bZ.length dk] 25 (0, 0)) zx25_7 hb)
   clear hb hbox hg
   refine hK.out _ _ ⟨(blk_cell bl.out 0).trans rfl, (blk_cell bl.out 1).trans rfl, (blk_cell bl.out 2).trans rfl, (blk_cell bg.out 0).trans rfl, (blk_cell bg.out 1).trans rfl, (blk_cell bg.out 2).trans rfl⟩ (fun hHeld => ?_)
   clear hK K
   refine na_ 20 ?_
   refine one_ (i := 4) (N := some 90) #[Tt,Tt,Tt,Tt,Tt,Ff,Ff,Ff,Ff,Ff,Ff,Tt,Ff,Ff] rfl rfl (one_of HT_.out (by kernel_rfl)) (by decide) (fun K hK => ?_)
   refine goes_ Tryd.func19 (by kernel_rfl) rfl #[.int .i64 a2, .int .i64 5] (by rfl) rfl rfl zx25_8 ?_
   with_reducible refine (postroomlaw11_pick.calls a2 5 du _ A24.out).mono ?_
   rintro e w' ⟨rfl, ⟨nd, rfl⟩⟩
   refine ⟨_, rfl, ?_⟩
   refine hK.out _ _ ⟨(blk_cell bl.out 0).trans rfl, (blk_cell bl.out 1).trans rfl, (blk_cell bl.out 2).trans rfl, (blk_cell bg.out 0).trans rfl, (blk_cell bg.out 1).trans rfl, (blk_cell bg.out 2).trans rfl⟩ (fun hHeld => ?_)
   clear hK K
   refine na_ 90 ?_
   refine pp_ 5 (some 91) HT_.out ?_
   refine pp_ 6 (some 92) HT_.out ?_
   refine one_ (i := 7) (N := some 93) #[Tt,Tt,Tt,Tt,Tt,Tt,Tt,Tt,Ff,Ff,Ff,Tt,Ff,Ff] rfl rfl (one_of HT_.out (by kernel_rfl)) (by decide) (fun K hK => ?_)
   refine goes_ Tryd.func22 (by kernel_rfl) rfl #[.agg #[.int .u64 bG, .int .u64 bI, .slice bp bh.length bn], .int .u64 (IntKind.u64.wrap (bk + (IntKind.u64.wrap (du))))] (by rfl) rfl rfl zx25_8 ?_
   with_reducible refine (ledger_Evict.calls k bG bI (fun k_ => ((some k_ ≠ (.slice (some bj) bi.length bH : Value).ownBlock ∧ (some k_ ≠ (.slice b4 bO.length b2 : Value).ownBlock ∧ (some k_ ≠ (.slice dj b0.length di : Value).ownBlock ∧ (k_ ≠ bd ∧ (k_ ≠ be ∧ (k_ ≠ bf ∧ (k_ ≠ bc ∧ k_ ≠ ba))))))) ∧ k_ ≠ bb)) _ _ bh (IntKind.u64.wrap (bk + (IntKind.u64.wrap (du)))) dm dp dn d3 _ ?side1 A25.out).mono ?_
   (case side1 => exact Kd.N_V (bD.out))
   rintro e w81 ⟨gk, rfl, ho0, hb⟩
   refine ⟨_, rfl, ?_⟩
   replace bA := Aside0.mk (Kd.V_below zx25_12 hb)
   replace bD := Aside0.mk (Kd.N_below zx25_10 hb)
   replace bR := Aside0.mk (Kd.V_below zx25_14 hb)
   replace db := Aside0.mk (Kd.V_below zx25_17 hb)
   replace dr := Aside0.mk (Kd.V_below zx25_19 hb)
   have dO := Aside0.mk (Kd.V_lower (Kd.V_mono (ok' := fun k_ => some k_ ≠ (.slice (some bj) bi.length bH : Value).ownBlock ∧ some k_ ≠ (.slice b4 bO.length b2 : Value).ownBlock ∧ some k_ ≠ (.slice dj b0.length di : Value).ownBlock ∧ k_ ≠ bd ∧ k_ ≠ be ∧ k_ ≠ bf ∧ k_ ≠ bc ∧ k_ ≠ ba ∧ k_ ≠ bb) ho0 (fun k_ hk_ => ⟨Or.elim hk_ (fun hs_ => hs_.1.1) (fun hn_ => (Kd.fresh' (Kd.R_lt zx25_6) k_ hn_)), Or.elim hk_ (fun hs_ => hs_.1.2.1) (fun hn_ => (Kd.fresh' (Kd.N_lt zx25_9) k_ hn_)), Or.elim hk_ (fun hs_ => hs_.1.2.2.1) (fun hn_ => (Kd.fresh' (Kd.N_lt zx25_11) k_ hn_)), Or.elim hk_ (fun hs_ => hs_.1.2.2.2.1) (fun hn_ => (Kd.freshB (g := bd) (o := .cells #[.int .u64 bk, .int .u64 bB, .slice bK br.length bJ] 25 (0, 0)) zx25_0 k_ hn_)), Or.elim hk_ (fun hs_ => hs_.1.2.2.2.2.1) (fun hn_ => (Kd.freshB (g := be) (o := .cells #[.int .u64 bG, .int .u64 bI, .slice bp bh.length bn] 25 (0, 0)) zx25_1 k_ hn_)), Or.elim hk_ (fun hs_ => hs_.1.2.2.2.2.2.1) (fun hn_ => (Kd.freshB (g := bf) (o := .cells #[.int .u64 bW, .int .u64 b1, .slice b6 bL.length b5] 25 (0, 0)) zx25_2 k_ hn_)), Or.elim hk_ (fun hs_ => hs_.1.2.2.2.2.2.2.1) (fun hn_ => (Kd.freshB (g := bc) (o := .cells #[.int .u64 bU, .int .u64 bV, .slice bY bM.length bX] 25 (0, 0)) zx25_4 k_ hn_)), Or.elim hk_ (fun hs_ => hs_.1.2.2.2.2.2.2.2) (fun hn_ => (Kd.freshB (g := ba) (o := .cells #[.int .u64 da, .int .u64 dd, .slice dl bZ.length dk] 25 (0, 0)) zx25_7 k_ hn_)), Or.elim hk_ (fun hs_ => hs_.2) (fun hn_ => (Kd.freshB (g := bb) (o := .cells #[.int .u64 0, .int .u64 0, .slice none 0 0] 25 (0, 0)) zx25_16 k_ hn_))⟩)) (below_size zx25_3))
   replace bQ := Aside0.mk (Kd.R_below zx25_6 hb)
   replace bP := Aside0.mk (Kd.N_below zx25_9 hb)
   replace b3 := Aside0.mk (Kd.N_below zx25_11 hb)
   replace bg := Aside0.mk (blk_below (g := bd) (o := .cells #[.int .u64 bk, .int .u64 bB, .slice bK br.length bJ] 25 (0, 0)) zx25_0 hb)
   replace bl := Aside0.mk (blk_below (g := be) (o := .cells #[.int .u64 bG, .int .u64 bI, .slice bp bh.length bn] 25 (0, 0)) zx25_1 hb)
   replace bx := Aside0.mk (blk_below (g := bf) (o := .cells #[.int .u64 bW, .int .u64 b1, .slice b6 bL.length b5] 25 (0, 0)) zx25_2 hb)
   replace bE := Aside0.mk (blk_below (g := bc) (o := .cells #[.int .u64 bU, .int .u64 bV, .slice bY bM.length bX] 25 (0, 0)) zx25_4 hb)
   replace bN := Aside0.mk (blk_below (g := ba) (o := .cells #[.int .u64 da, .int .u64 dd, .slice dl bZ.length dk] 25 (0, 0)) zx25_7 hb)
   replace dc := Aside0.mk (blk_below (g := bb) (o := .cells #[.int .u64 0, .int .u64 0, .slice none 0 0] 25 (0, 0)) zx25_16 hb)
   replace HB := Aside0.mk (below_step zx25_3 hb)
   (try clear hb)
   (try clear hb2)
   (try clear hk)
   (try clear hi)
   (try clear ho0)
   refine hK.out _ _ ⟨(blk_cell bl.out 0).trans rfl, (blk_cell bl.out 1).trans rfl, (blk_cell bl.out 2).trans rfl, (blk_cell bg.out 0).trans rfl, (blk_cell bg.out 1).trans rfl, (blk_cell bg.out 2).trans rfl⟩ (fun hHeld => ?_)
   clear hK K
   refine na_ 93 ?_
   refine pp_ 8 (some 85) HT_.out ?_
   refine pp_ 9 (some 94) HT_.out ?_
   refine pp_ 10 (some 95) HT_.out ?_
   exact norm_ zx25_36 (hCont (gk, bb) _ ⟨hHeld, zx25_24, zx25_27, zx25_6, zx25_28, zx25_29, zx25_34, zx25_35, zx25_25, zx25_20, zx25_0, zx25_1, zx25_2, zx25_4, zx25_7, zx25_16, ga.out, dV.out, df.out, dJ.out, de.out, dI.out, dC.out, dH.out, dA.out, dG.out, dz.out, dF.out, zx25_3⟩)
 rintro ⟨gk, bb⟩ w82 ⟨hS_, h0_, h1_, h2_, h3_, h4_, h5_, h6_, h7_, h8_, h9_, gS, gR, gQ, gP, gO, gN, gM, gL, gK, gJ, gI, gH, gG, gF, hx, hv, hu, ht⟩
 have n0_ : Aside0 (Kd.V k55 55 w82 w.heap.size (fun k_ => some k_ ≠ (.slice bp bh.length bn : Value).ownBlock ∧ some k_ ≠ (.slice (some bj) bi.length bH : Value).ownBlock ∧ some k_ ≠ (.slice b4 bO.length b2 : Value).ownBlock ∧ some k_ ≠ (.slice dj b0.length di : Value).ownBlock ∧ k_ ≠ bd ∧ k_ ≠ be ∧ k_ ≠ bf ∧ k_ ≠ bc ∧ k_ ≠ ba ∧ k_ ≠ bb) (.slice bK br.length bJ) br) := ⟨h0_⟩
 have n1_ : Aside0 (Kd.N k55 55 w82 w.heap.size (fun k_ => some k_ ≠ (.slice (some bj) bi.length bH : Value).ownBlock ∧ some k_ ≠ (.slice b4 bO.length b2 : Value).ownBlock ∧ some k_ ≠ (.slice dj b0.length di : Value).ownBlock ∧ k_ ≠ bd ∧ k_ ≠ be ∧ k_ ≠ bf ∧ k_ ≠ bc ∧ k_ ≠ ba ∧ k_ ≠ bb) (.slice bp bh.length bn) bh) := ⟨h1_⟩
 have n2_ : Aside0 (Kd.R Kd.string 9 w82 w.heap.size (fun _ => True) (.slice (some bj) bi.length bH) bi) := ⟨h2_⟩
 have n3_ : Aside0 (Kd.N k55 55 w82 w.heap.size (fun k_ => some k_ ≠ (.slice bp bh.length bn : Value).ownBlock ∧ some k_ ≠ (.slice (some bj) bi.length bH : Value).ownBlock ∧ some k_ ≠ (.slice dj b0.length di : Value).ownBlock ∧ k_ ≠ bd ∧ k_ ≠ be ∧ k_ ≠ bf ∧ k_ ≠ bc ∧ k_ ≠ ba ∧ k_ ≠ bb) (.slice b4 bO.length b2) bO) := ⟨h3_⟩
 have n4_ : Aside0 (Kd.V k55 55 w82 w.heap.size (fun k_ => some k_ ≠ (.slice bp bh.length bn : Value).ownBlock ∧ some k_ ≠ (.slice (some bj) bi.length bH : Value).ownBlock ∧ some k_ ≠ (.slice dj b0.length di : Value).ownBlock ∧ k_ ≠ bd ∧ k_ ≠ be ∧ k_ ≠ bf ∧ k_ ≠ bc ∧ k_ ≠ ba ∧ k_ ≠ bb) (.slice b6 bL.length b5) bL) := ⟨h4_⟩
 have n5_ : Aside0 (Kd.N k55 55 w82 w.heap.size (fun k_ => some k_ ≠ (.slice (some bj) bi.length bH : Value).ownBlock ∧ some k_ ≠ (.slice b4 bO.length b2 : Value).ownBlock ∧ k_ ≠ bd ∧ k_ ≠ be ∧ k_ ≠ bf ∧ k_ ≠ bc ∧ k_ ≠ ba ∧ k_ ≠ bb) (.slice dj b0.length di) b0) := ⟨h5_⟩
 have n6_ : Aside0 (Kd.V k55 55 w82 w.heap.size (fun k_ => some k_ ≠ (.slice (some bj) bi.length bH : Value).ownBlock ∧ some k_ ≠ (.slice b4 bO.length b2 : Value).ownBlock ∧ k_ ≠ bd ∧ k_ ≠ be ∧ k_ ≠ bf ∧ k_ ≠ bc ∧ k_ ≠ ba ∧ k_ ≠ bb) (.slice bY bM.length bX) bM) := ⟨h6_⟩
 have n7_ : Aside0 (Kd.V k55 55 w82 w.heap.size (fun k_ => some k_ ≠ (.slice bp bh.length bn : Value).ownBlock ∧ some k_ ≠ (.slice (some bj) bi.length bH : Value).ownBlock ∧ some k_ ≠ (.slice b4 bO.length b2 : Value).ownBlock ∧ some k_ ≠ (.slice dj b0.length di : Value).ownBlock ∧ k_ ≠ bd ∧ k_ ≠ be ∧ k_ ≠ bf ∧ k_ ≠ bc ∧ k_ ≠ ba ∧ k_ ≠ bb) (.slice dl bZ.length dk) bZ) := ⟨h7_⟩
 have n8_ : Aside0 (Kd.V k55 55 w82 w.heap.size (fun k_ => some k_ ≠ (.slice (some bj) bi.length bH : Value).ownBlock ∧ some k_ ≠ (.slice b4 bO.length b2 : Value).ownBlock ∧ some k_ ≠ (.slice dj b0.length di : Value).ownBlock ∧ k_ ≠ bd ∧ k_ ≠ be ∧ k_ ≠ bf ∧ k_ ≠ bc ∧ k_ ≠ ba ∧ k_ ≠ bb) gk dn) := ⟨h8_⟩
 have n9_ : Aside0 (w82.heap[bd]? = some (.cells #[.int .u64 bk, .int .u64 bB, .slice bK br.length bJ] 25 (0, 0))) := ⟨h9_⟩
 have n10_ : Aside0 (w82.heap[be]? = some (.cells #[.int .u64 bG, .int .u64 bI, .slice bp bh.length bn] 25 (0, 0))) := ⟨gS⟩
 have n11_ : Aside0 (w82.heap[bf]? = some (.cells #[.int .u64 bW, .int .u64 b1, .slice b6 bL.length b5] 25 (0, 0))) := ⟨gR⟩
 have n12_ : Aside0 (w82.heap[bc]? = some (.cells #[.int .u64 bU, .int .u64 bV, .slice bY bM.length bX] 25 (0, 0))) := ⟨gQ⟩
 have n13_ : Aside0 (w82.heap[ba]? = some (.cells #[.int .u64 da, .int .u64 dd, .slice dl bZ.length dk] 25 (0, 0))) := ⟨gP⟩
 have n14_ : Aside0 (w82.heap[bb]? = some (.cells #[.int .u64 0, .int .u64 0, .slice none 0 0] 25 (0, 0))) := ⟨gO⟩
 have n15_ : Aside0 (w.heap.size ≤ bb) := ⟨gN⟩
 have n16_ : Aside0 (w.heap.size ≤ bb) := ⟨gM⟩
 have n17_ : Aside0 (bd ≠ bb) := ⟨gL⟩
 have n18_ : Aside0 (bb ≠ bd) := ⟨gK⟩
 have n19_ : Aside0 (be ≠ bb) := ⟨gJ⟩
 have n20_ : Aside0 (bb ≠ be) := ⟨gI⟩
 have n21_ : Aside0 (bf ≠ bb) := ⟨gH⟩
 have n22_ : Aside0 (bb ≠ bf) := ⟨gG⟩
 have n23_ : Aside0 (bc ≠ bb) := ⟨gF⟩
 have n24_ : Aside0 (bb ≠ bc) := ⟨hx⟩
 have n25_ : Aside0 (ba ≠ bb) := ⟨hv⟩
 have n26_ : Aside0 (bb ≠ ba) := ⟨hu⟩
 have n27_ : Aside0 (Below w.heap.size w w82) := ⟨ht⟩
 clear bA
 clear bD
 clear bQ
 clear bP
 clear bR
 clear b3
 clear db
 clear dr
 clear bg
 clear bl
 clear bx
 clear bE
 clear bN
 clear HB
 clear h0_ h1_ h2_ h3_ h4_ h5_ h6_ h7_ h8_ h9_ gS gR gQ gP gO gN gM gL gK gJ gI gH gG gF hx hv hu ht
 have bA := n0_
 have bD := n1_
 have bQ := n2_
 have bP := n3_
 have bR := n4_
 have b3 := n5_
 have db := n6_
 have dr := n7_
 have dO := n8_
 have bg := n9_
 have bl := n10_
 have bx := n11_
 have bE := n12_
 have bN := n13_
 have dc := n14_
 have ga := n15_
 have dV := n16_
 have df := n17_
 have dJ := n18_
 have de := n19_
 have dI := n20_
 have dC := n21_
 have dH := n22_
 have dA := n23_
 have dG := n24_
 have dz := n25_
 have dF := n26_
 have HB := n27_
 clear n0_ n1_ n2_ n3_ n4_ n5_ n6_ n7_ n8_ n9_ n10_ n11_ n12_ n13_ n14_ n15_ n16_ n17_ n18_ n19_ n20_ n21_ n22_ n23_ n24_ n25_ n26_ n27_
 have hHeld : w82.cell? ⟨be, 0, none⟩ = some (.int .u64 bG) ∧ w82.cell? ⟨be, 1, none⟩ = some (.int .u64 bI) ∧ w82.cell? ⟨be, 2, none⟩ = some (.slice bp bh.length bn) ∧ w82.cell? ⟨bd, 0, none⟩ = some (.int .u64 bk) ∧ w82.cell? ⟨bd, 1, none⟩ = some (.int .u64 bB) ∧ w82.cell? ⟨bd, 2, none⟩ = some (.slice bK br.length bJ) := hS_
 obtain ⟨dy, dx, hC⟩ := Kd.V_slice dO.out
 (first | subst hC | (injection hC with f1_ f2_ f3_; have f4_ := f1_.symm; have f5_ := f3_.symm; clear f1_ f2_ f3_; subst f4_; subst f5_))
 refine nb_ ?_
 refine one_ (i := 12) (N := none) #[Tt,Tt,Tt,Tt,Tt,Tt,Tt,Tt,Tt,Tt,Tt,Tt,Tt,Ff] rfl rfl (one_of HT_.out (by kernel_rfl)) (by decide) (fun K hK => ?_)
 have oD : w82.cell? ⟨bb, 0, none⟩ = some (.int .u64 0) := (blk_cell dc.out 0).trans rfl
 have m9 := blk_frozen dc.out 0
 have jm := df.out
 have jl := de.out
 have jk := dC.out
 have jj := dA.out
 have ji := dz.out
 have jN := dJ.out
 have jM := dI.out
 have jL := dH.out
 have jK := dG.out
 have jJ := dF.out
 have oC : w82.cell? ⟨bb, 1, none⟩ = some (.int .u64 0) := (blk_cell dc.out 1).trans rfl
 have m8 := blk_frozen dc.out 1
 have jh := df.out
 have jg := de.out
 have jf := dC.out
 have je := dA.out
 have jd := dz.out
 have jI := dJ.out
 have jH := dI.out
 have jG := dH.out
 have jF := dG.out
 have jE := dF.out
 have oB : w82.cell? ⟨bb, 2, none⟩ = some (.slice none 0 0) := (blk_cell dc.out 2).trans rfl
 have m7 := blk_frozen dc.out 2
 have jc := df.out
 have jb := de.out
 have ja := dC.out
 have hZ := dA.out
 have hY := dz.out
 have jD := dJ.out
 have jC := dI.out
 have jB := dH.out
 have jA := dG.out
 have jz := dF.out
 refine skip_ (w1 := ?_) (by rfl) rfl ?_ ?_
 rotate_left
 ·go_simp
  rfl
 refine hK.out _ _ ⟨((cell_far (p := ⟨bb, _, none⟩) de.out _).trans (((cell_far (p := ⟨bb, _, none⟩) de.out _).trans (((cell_far (p := ⟨bb, _, none⟩) de.out _).trans (hHeld.1)))))), ((cell_far (p := ⟨bb, _, none⟩) de.out _).trans (((cell_far (p := ⟨bb, _, none⟩) de.out _).trans (((cell_far (p := ⟨bb, _, none⟩) de.out _).trans (hHeld.2.1)))))), ((cell_far (p := ⟨bb, _, none⟩) de.out _).trans (((cell_far (p := ⟨bb, _, none⟩) de.out _).trans (((cell_far (p := ⟨bb, _, none⟩) de.out _).trans (hHeld.2.2.1)))))), ((cell_far (p := ⟨bb, _, none⟩) df.out _).trans (((cell_far (p := ⟨bb, _, none⟩) df.out _).trans (((cell_far (p := ⟨bb, _, none⟩) df.out _).trans (hHeld.2.2.2.1)))))), ((cell_far (p := ⟨bb, _, none⟩) df.out _).trans (((cell_far (p := ⟨bb, _, none⟩) df.out _).trans (((cell_far (p := ⟨bb, _, none⟩) df.out _).trans (hHeld.2.2.2.2.1)))))), ((cell_far (p := ⟨bb, _, none⟩) df.out _).trans (((cell_far (p := ⟨bb, _, none⟩) df.out _).trans (((cell_far (p := ⟨bb, _, none⟩) df.out _).trans (hHeld.2.2.2.2.2))))))⟩ (fun hHeld => ?_)
 clear hK K
 refine pp_ 13 (some 21) HT_.out ?_
 refine done_ (done_of HT_.out (by kernel_rfl)) ?_
 try go_wp2
 have n0_ : Aside0 (Kd.V k55 55 (((w82.setCell ⟨bb, 0, none⟩ (.int .u64 dm)).setCell ⟨bb, 1, none⟩ (.int .u64 dp)).setCell ⟨bb, 2, none⟩ (.slice dy dn.length dx)) w.heap.size (fun k_ => some k_ ≠ (.slice bp bh.length bn : Value).ownBlock ∧ some k_ ≠ (.slice (some bj) bi.length bH : Value).ownBlock ∧ some k_ ≠ (.slice b4 bO.length b2 : Value).ownBlock ∧ some k_ ≠ (.slice dj b0.length di : Value).ownBlock ∧ k_ ≠ bd ∧ k_ ≠ be ∧ k_ ≠ bf ∧ k_ ≠ bc ∧ k_ ≠ ba ∧ k_ ≠ bb) (.slice bK br.length bJ) br) := ⟨by (with_reducible repeat (first | apply Kd.V_alloc | apply Kd.V_drewN | apply Kd.V_drew)); exact Kd.V_mono (Kd.V_far (p := ⟨bb, 2, none⟩) (Kd.V_far (p := ⟨bb, 1, none⟩) (Kd.V_far (p := ⟨bb, 0, none⟩) (Kd.V_mono bA.out (fun k_ hk => (⟨hk, hk.2.2.2.2.2.2.2.2.2⟩ : _ ∧ k_ ≠ bb))) (fun _ hk => hk.2) (.int .u64 dm)) (fun _ hk => hk.2) (.int .u64 dp)) (fun _ hk => hk.2) (.slice dy dn.length dx)) (fun _ hk => ⟨hk.1.1, ⟨hk.1.2.1, ⟨hk.1.2.2.1, ⟨hk.1.2.2.2.1, ⟨hk.1.2.2.2.2.1, ⟨hk.1.2.2.2.2.2.1, ⟨hk.1.2.2.2.2.2.2.1, ⟨hk.1.2.2.2.2.2.2.2.1, ⟨hk.1.2.2.2.2.2.2.2.2.1, hk.1.2.2.2.2.2.2.2.2.2⟩⟩⟩⟩⟩⟩⟩⟩⟩)⟩
 have n1_ : Aside0 (Kd.N k55 55 (((w82.setCell ⟨bb, 0, none⟩ (.int .u64 dm)).setCell ⟨bb, 1, none⟩ (.int .u64 dp)).setCell ⟨bb, 2, none⟩ (.slice dy dn.length dx)) w.heap.size (fun k_ => some k_ ≠ (.slice (some bj) bi.length bH : Value).ownBlock ∧ some k_ ≠ (.slice b4 bO.length b2 : Value).ownBlock ∧ some k_ ≠ (.slice dj b0.length di : Value).ownBlock ∧ k_ ≠ bd ∧ k_ ≠ be ∧ k_ ≠ bf ∧ k_ ≠ bc ∧ k_ ≠ ba ∧ k_ ≠ bb) (.slice bp bh.length bn) bh) := ⟨by (with_reducible repeat (first | apply Kd.N_alloc | apply Kd.N_drewN | apply Kd.N_drew)); exact Kd.N_mono (Kd.N_far (p := ⟨bb, 2, none⟩) (Kd.N_far (p := ⟨bb, 1, none⟩) (Kd.N_far (p := ⟨bb, 0, none⟩) (Kd.N_mono bD.out (fun k_ hk => (⟨hk, hk.2.2.2.2.2.2.2.2⟩ : _ ∧ k_ ≠ bb))) (fun _ hk => hk.2) (.int .u64 dm)) (fun _ hk => hk.2) (.int .u64 dp)) (fun _ hk => hk.2) (.slice dy dn.length dx)) (fun _ hk => ⟨hk.1.1, ⟨hk.1.2.1, ⟨hk.1.2.2.1, ⟨hk.1.2.2.2.1, ⟨hk.1.2.2.2.2.1, ⟨hk.1.2.2.2.2.2.1, ⟨hk.1.2.2.2.2.2.2.1, ⟨hk.1.2.2.2.2.2.2.2.1, hk.1.2.2.2.2.2.2.2.2⟩⟩⟩⟩⟩⟩⟩⟩)⟩
 have n2_ : Aside0 (Kd.R Kd.string 9 (((w82.setCell ⟨bb, 0, none⟩ (.int .u64 dm)).setCell ⟨bb, 1, none⟩ (.int .u64 dp)).setCell ⟨bb, 2, none⟩ (.slice dy dn.length dx)) w.heap.size (fun _ => True) (.slice (some bj) bi.length bH) bi) := ⟨by (with_reducible repeat (first | apply Kd.R_alloc | apply Kd.R_drewN | apply Kd.R_drew)); exact Kd.R_mono (Kd.R_far (p := ⟨bb, 2, none⟩) (Kd.R_far (p := ⟨bb, 1, none⟩) (Kd.R_far (p := ⟨bb, 0, none⟩) (Kd.R_types bQ.out dc.out (by decide)) (fun _ hk => hk.2) (.int .u64 dm)) (fun _ hk => hk.2) (.int .u64 dp)) (fun _ hk => hk.2) (.slice dy dn.length dx)) (fun _ hk => trivial)⟩
 have n3_ : Aside0 (Kd.N k55 55 (((w82.setCell ⟨bb, 0, none⟩ (.int .u64 dm)).setCell ⟨bb, 1, none⟩ (.int .u64 dp)).setCell ⟨bb, 2, none⟩ (.slice dy dn.length dx)) w.heap.size (fun k_ => some k_ ≠ (.slice bp bh.length bn : Value).ownBlock ∧ some k_ ≠ (.slice (some bj) bi.length bH : Value).ownBlock ∧ some k_ ≠ (.slice dj b0.length di : Value).ownBlock ∧ k_ ≠ bd ∧ k_ ≠ be ∧ k_ ≠ bf ∧ k_ ≠ bc ∧ k_ ≠ ba ∧ k_ ≠ bb) (.slice b4 bO.length b2) bO) := ⟨by (with_reducible repeat (first | apply Kd.N_alloc | apply Kd.N_drewN | apply Kd.N_drew)); exact Kd.N_mono (Kd.N_far (p := ⟨bb, 2, none⟩) (Kd.N_far (p := ⟨bb, 1, none⟩) (Kd.N_far (p := ⟨bb, 0, none⟩) (Kd.N_mono bP.out (fun k_ hk => (⟨hk, hk.2.2.2.2.2.2.2.2⟩ : _ ∧ k_ ≠ bb))) (fun _ hk => hk.2) (.int .u64 dm)) (fun _ hk => hk.2) (.int .u64 dp)) (fun _ hk => hk.2) (.slice dy dn.length dx)) (fun _ hk => ⟨hk.1.1, ⟨hk.1.2.1, ⟨hk.1.2.2.1, ⟨hk.1.2.2.2.1, ⟨hk.1.2.2.2.2.1, ⟨hk.1.2.2.2.2.2.1, ⟨hk.1.2.2.2.2.2.2.1, ⟨hk.1.2.2.2.2.2.2.2.1, hk.1.2.2.2.2.2.2.2.2⟩⟩⟩⟩⟩⟩⟩⟩)⟩
 have n4_ : Aside0 (Kd.V k55 55 (((w82.setCell ⟨bb, 0, none⟩ (.int .u64 dm)).setCell ⟨bb, 1, none⟩ (.int .u64 dp)).setCell ⟨bb, 2, none⟩ (.slice dy dn.length dx)) w.heap.size (fun k_ => some k_ ≠ (.slice bp bh.length bn : Value).ownBlock ∧ some k_ ≠ (.slice (some bj) bi.length bH : Value).ownBlock ∧ some k_ ≠ (.slice dj b0.length di : Value).ownBlock ∧ k_ ≠ bd ∧ k_ ≠ be ∧ k_ ≠ bf ∧ k_ ≠ bc ∧ k_ ≠ ba ∧ k_ ≠ bb) (.slice b6 bL.length b5) bL) := ⟨by (with_reducible repeat (first | apply Kd.V_alloc | apply Kd.V_drewN | apply Kd.V_drew)); exact Kd.V_mono (Kd.V_far (p := ⟨bb, 2, none⟩) (Kd.V_far (p := ⟨bb, 1, none⟩) (Kd.V_far (p := ⟨bb, 0, none⟩) (Kd.V_mono bR.out (fun k_ hk => (⟨hk, hk.2.2.2.2.2.2.2.2⟩ : _ ∧ k_ ≠ bb))) (fun _ hk => hk.2) (.int .u64 dm)) (fun _ hk => hk.2) (.int .u64 dp)) (fun _ hk => hk.2) (.slice dy dn.length dx)) (fun _ hk => ⟨hk.1.1, ⟨hk.1.2.1, ⟨hk.1.2.2.1, ⟨hk.1.2.2.2.1, ⟨hk.1.2.2.2.2.1, ⟨hk.1.2.2.2.2.2.1, ⟨hk.1.2.2.2.2.2.2.1, ⟨hk.1.2.2.2.2.2.2.2.1, hk.1.2.2.2.2.2.2.2.2⟩⟩⟩⟩⟩⟩⟩⟩)⟩
 have n5_ : Aside0 (Kd.N k55 55 (((w82.setCell ⟨bb, 0, none⟩ (.int .u64 dm)).setCell ⟨bb, 1, none⟩ (.int .u64 dp)).setCell ⟨bb, 2, none⟩ (.slice dy dn.length dx)) w.heap.size (fun k_ => some k_ ≠ (.slice (some bj) bi.length bH : Value).ownBlock ∧ some k_ ≠ (.slice b4 bO.length b2 : Value).ownBlock ∧ k_ ≠ bd ∧ k_ ≠ be ∧ k_ ≠ bf ∧ k_ ≠ bc ∧ k_ ≠ ba ∧ k_ ≠ bb) (.slice dj b0.length di) b0) := ⟨by (with_reducible repeat (first | apply Kd.N_alloc | apply Kd.N_drewN | apply Kd.N_drew)); exact Kd.N_mono (Kd.N_far (p := ⟨bb, 2, none⟩) (Kd.N_far (p := ⟨bb, 1, none⟩) (Kd.N_far (p := ⟨bb, 0, none⟩) (Kd.N_mono b3.out (fun k_ hk => (⟨hk, hk.2.2.2.2.2.2.2⟩ : _ ∧ k_ ≠ bb))) (fun _ hk => hk.2) (.int .u64 dm)) (fun _ hk => hk.2) (.int .u64 dp)) (fun _ hk => hk.2) (.slice dy dn.length dx)) (fun _ hk => ⟨hk.1.1, ⟨hk.1.2.1, ⟨hk.1.2.2.1, ⟨hk.1.2.2.2.1, ⟨hk.1.2.2.2.2.1, ⟨hk.1.2.2.2.2.2.1, ⟨hk.1.2.2.2.2.2.2.1, hk.1.2.2.2.2.2.2.2⟩⟩⟩⟩⟩⟩⟩)⟩
 have n6_ : Aside0 (Kd.V k55 55 (((w82.setCell ⟨bb, 0, none⟩ (.int .u64 dm)).setCell ⟨bb, 1, none⟩ (.int .u64 dp)).setCell ⟨bb, 2, none⟩ (.slice dy dn.length dx)) w.heap.size (fun k_ => some k_ ≠ (.slice (some bj) bi.length bH : Value).ownBlock ∧ some k_ ≠ (.slice b4 bO.length b2 : Value).ownBlock ∧ k_ ≠ bd ∧ k_ ≠ be ∧ k_ ≠ bf ∧ k_ ≠ bc ∧ k_ ≠ ba ∧ k_ ≠ bb) (.slice bY bM.length bX) bM) := ⟨by (with_reducible repeat (first | apply Kd.V_alloc | apply Kd.V_drewN | apply Kd.V_drew)); exact Kd.V_mono (Kd.V_far (p := ⟨bb, 2, none⟩) (Kd.V_far (p := ⟨bb, 1, none⟩) (Kd.V_far (p := ⟨bb, 0, none⟩) (Kd.V_mono db.out (fun k_ hk => (⟨hk, hk.2.2.2.2.2.2.2⟩ : _ ∧ k_ ≠ bb))) (fun _ hk => hk.2) (.int .u64 dm)) (fun _ hk => hk.2) (.int .u64 dp)) (fun _ hk => hk.2) (.slice dy dn.length dx)) (fun _ hk => ⟨hk.1.1, ⟨hk.1.2.1, ⟨hk.1.2.2.1, ⟨hk.1.2.2.2.1, ⟨hk.1.2.2.2.2.1, ⟨hk.1.2.2.2.2.2.1, ⟨hk.1.2.2.2.2.2.2.1, hk.1.2.2.2.2.2.2.2⟩⟩⟩⟩⟩⟩⟩)⟩
 have n7_ : Aside0 (Kd.V k55 55 (((w82.setCell ⟨bb, 0, none⟩ (.int .u64 dm)).setCell ⟨bb, 1, none⟩ (.int .u64 dp)).setCell ⟨bb, 2, none⟩ (.slice dy dn.length dx)) w.heap.size (fun k_ => some k_ ≠ (.slice bp bh.length bn : Value).ownBlock ∧ some k_ ≠ (.slice (some bj) bi.length bH : Value).ownBlock ∧ some k_ ≠ (.slice b4 bO.length b2 : Value).ownBlock ∧ some k_ ≠ (.slice dj b0.length di : Value).ownBlock ∧ k_ ≠ bd ∧ k_ ≠ be ∧ k_ ≠ bf ∧ k_ ≠ bc ∧ k_ ≠ ba ∧ k_ ≠ bb) (.slice dl bZ.length dk) bZ) := ⟨by (with_reducible repeat (first | apply Kd.V_alloc | apply Kd.V_drewN | apply Kd.V_drew)); exact Kd.V_mono (Kd.V_far (p := ⟨bb, 2, none⟩) (Kd.V_far (p := ⟨bb, 1, none⟩) (Kd.V_far (p := ⟨bb, 0, none⟩) (Kd.V_mono dr.out (fun k_ hk => (⟨hk, hk.2.2.2.2.2.2.2.2.2⟩ : _ ∧ k_ ≠ bb))) (fun _ hk => hk.2) (.int .u64 dm)) (fun _ hk => hk.2) (.int .u64 dp)) (fun _ hk => hk.2) (.slice dy dn.length dx)) (fun _ hk => ⟨hk.1.1, ⟨hk.1.2.1, ⟨hk.1.2.2.1, ⟨hk.1.2.2.2.1, ⟨hk.1.2.2.2.2.1, ⟨hk.1.2.2.2.2.2.1, ⟨hk.1.2.2.2.2.2.2.1, ⟨hk.1.2.2.2.2.2.2.2.1, ⟨hk.1.2.2.2.2.2.2.2.2.1, hk.1.2.2.2.2.2.2.2.2.2⟩⟩⟩⟩⟩⟩⟩⟩⟩)⟩
 have n8_ : Aside0 (Kd.V k55 55 (((w82.setCell ⟨bb, 0, none⟩ (.int .u64 dm)).setCell ⟨bb, 1, none⟩ (.int .u64 dp)).setCell ⟨bb, 2, none⟩ (.slice dy dn.length dx)) w.heap.size (fun k_ => some k_ ≠ (.slice (some bj) bi.length bH : Value).ownBlock ∧ some k_ ≠ (.slice b4 bO.length b2 : Value).ownBlock ∧ some k_ ≠ (.slice dj b0.length di : Value).ownBlock ∧ k_ ≠ bd ∧ k_ ≠ be ∧ k_ ≠ bf ∧ k_ ≠ bc ∧ k_ ≠ ba ∧ k_ ≠ bb) (.slice dy dn.length dx) dn) := ⟨by (with_reducible repeat (first | apply Kd.V_alloc | apply Kd.V_drewN | apply Kd.V_drew)); exact Kd.V_mono (Kd.V_far (p := ⟨bb, 2, none⟩) (Kd.V_far (p := ⟨bb, 1, none⟩) (Kd.V_far (p := ⟨bb, 0, none⟩) (Kd.V_mono dO.out (fun k_ hk => (⟨hk, hk.2.2.2.2.2.2.2.2⟩ : _ ∧ k_ ≠ bb))) (fun _ hk => hk.2) (.int .u64 dm)) (fun _ hk => hk.2) (.int .u64 dp)) (fun _ hk => hk.2) (.slice dy dn.length dx)) (fun _ hk => ⟨hk.1.1, ⟨hk.1.2.1, ⟨hk.1.2.2.1, ⟨hk.1.2.2.2.1, ⟨hk.1.2.2.2.2.1, ⟨hk.1.2.2.2.2.2.1, ⟨hk.1.2.2.2.2.2.2.1, ⟨hk.1.2.2.2.2.2.2.2.1, hk.1.2.2.2.2.2.2.2.2⟩⟩⟩⟩⟩⟩⟩⟩)⟩
 have n9_ : Aside0 ((((w82.setCell ⟨bb, 0, none⟩ (.int .u64 dm)).setCell ⟨bb, 1, none⟩ (.int .u64 dp)).setCell ⟨bb, 2, none⟩ (.slice dy dn.length dx)).heap[bd]? = some (.cells #[.int .u64 bk, .int .u64 bB, .slice bK br.length bJ] 25 (0, 0))) := ⟨by (iterate 3 ((with_reducible repeat (first | refine blk_drewN ?_ _ | refine blk_drew ?_ | refine blk_alloc ?_ _)); refine blk_far ?_ df.out _)); (with_reducible repeat (first | refine blk_drewN ?_ _ | refine blk_drew ?_ | refine blk_alloc ?_ _)); exact bg.out⟩
 have n10_ : Aside0 ((((w82.setCell ⟨bb, 0, none⟩ (.int .u64 dm)).setCell ⟨bb, 1, none⟩ (.int .u64 dp)).setCell ⟨bb, 2, none⟩ (.slice dy dn.length dx)).heap[be]? = some (.cells #[.int .u64 bG, .int .u64 bI, .slice bp bh.length bn] 25 (0, 0))) := ⟨by (iterate 3 ((with_reducible repeat (first | refine blk_drewN ?_ _ | refine blk_drew ?_ | refine blk_alloc ?_ _)); refine blk_far ?_ de.out _)); (with_reducible repeat (first | refine blk_drewN ?_ _ | refine blk_drew ?_ | refine blk_alloc ?_ _)); exact bl.out⟩
 have n11_ : Aside0 ((((w82.setCell ⟨bb, 0, none⟩ (.int .u64 dm)).setCell ⟨bb, 1, none⟩ (.int .u64 dp)).setCell ⟨bb, 2, none⟩ (.slice dy dn.length dx)).heap[bf]? = some (.cells #[.int .u64 bW, .int .u64 b1, .slice b6 bL.length b5] 25 (0, 0))) := ⟨by (iterate 3 ((with_reducible repeat (first | refine blk_drewN ?_ _ | refine blk_drew ?_ | refine blk_alloc ?_ _)); refine blk_far ?_ dC.out _)); (with_reducible repeat (first | refine blk_drewN ?_ _ | refine blk_drew ?_ | refine blk_alloc ?_ _)); exact bx.out⟩
 have n12_ : Aside0 ((((w82.setCell ⟨bb, 0, none⟩ (.int .u64 dm)).setCell ⟨bb, 1, none⟩ (.int .u64 dp)).setCell ⟨bb, 2, none⟩ (.slice dy dn.length dx)).heap[bc]? = some (.cells #[.int .u64 bU, .int .u64 bV, .slice bY bM.length bX] 25 (0, 0))) := ⟨by (iterate 3 ((with_reducible repeat (first | refine blk_drewN ?_ _ | refine blk_drew ?_ | refine blk_alloc ?_ _)); refine blk_far ?_ dA.out _)); (with_reducible repeat (first | refine blk_drewN ?_ _ | refine blk_drew ?_ | refine blk_alloc ?_ _)); exact bE.out⟩
 have n13_ : Aside0 ((((w82.setCell ⟨bb, 0, none⟩ (.int .u64 dm)).setCell ⟨bb, 1, none⟩ (.int .u64 dp)).setCell ⟨bb, 2, none⟩ (.slice dy dn.length dx)).heap[ba]? = some (.cells #[.int .u64 da, .int .u64 dd, .slice dl bZ.length dk] 25 (0, 0))) := ⟨by (iterate 3 ((with_reducible repeat (first | refine blk_drewN ?_ _ | refine blk_drew ?_ | refine blk_alloc ?_ _)); refine blk_far ?_ dz.out _)); (with_reducible repeat (first | refine blk_drewN ?_ _ | refine blk_drew ?_ | refine blk_alloc ?_ _)); exact bN.out⟩
 have n14_ : Aside0 ((((w82.setCell ⟨bb, 0, none⟩ (.int .u64 dm)).setCell ⟨bb, 1, none⟩ (.int .u64 dp)).setCell ⟨bb, 2, none⟩ (.slice dy dn.length dx)).heap[bb]? = some (.cells #[.int .u64 dm, .int .u64 dp, .slice dy dn.length dx] 25 (0, 0))) := ⟨by (with_reducible repeat (first | refine blk_drewN ?_ _ | refine blk_drew ?_ | refine blk_alloc ?_ _)); refine blk_put (cs := #[.int .u64 dm, .int .u64 dp, .slice none 0 0]) ?_ 2 _ rfl; (with_reducible repeat (first | refine blk_drewN ?_ _ | refine blk_drew ?_ | refine blk_alloc ?_ _)); refine blk_put (cs := #[.int .u64 dm, .int .u64 0, .slice none 0 0]) ?_ 1 _ rfl; (with_reducible repeat (first | refine blk_drewN ?_ _ | refine blk_drew ?_ | refine blk_alloc ?_ _)); refine blk_put (cs := #[.int .u64 0, .int .u64 0, .slice none 0 0]) ?_ 0 _ rfl; (with_reducible repeat (first | refine blk_drewN ?_ _ | refine blk_drew ?_ | refine blk_alloc ?_ _)); exact dc.out⟩
 have n15_ : Aside0 (Below w.heap.size w (((w82.setCell ⟨bb, 0, none⟩ (.int .u64 dm)).setCell ⟨bb, 1, none⟩ (.int .u64 dp)).setCell ⟨bb, 2, none⟩ (.slice dy dn.length dx))) := ⟨by repeat (first | (with_reducible first | exact HB.out | apply below_alloc | apply pw_below_drewN | apply below_drew1 | refine below_set ?_ dT.out | refine below_set ?_ dW.out | refine below_set ?_ dZ.out | refine below_set ?_ d2.out | refine below_set ?_ dS.out | refine below_set ?_ dV.out) | exact HB.out)⟩
 (try clear bA)
 (try clear bD)
 (try clear bQ)
 (try clear bP)
 (try clear bR)
 (try clear b3)
 (try clear db)
 (try clear dr)
 (try clear dO)
 (try clear bg)
 (try clear bl)
 (try clear bx)
 (try clear bE)
 (try clear bN)
 (try clear dc)
 (try clear HB)
 generalize (((w82.setCell ⟨bb, 0, none⟩ (.int .u64 dm)).setCell ⟨bb, 1, none⟩ (.int .u64 dp)).setCell ⟨bb, 2, none⟩ (.slice dy dn.length dx)) = w87 at n0_ n1_ n2_ n3_ n4_ n5_ n6_ n7_ n8_ n9_ n10_ n11_ n12_ n13_ n14_ n15_ ⊢
 have bA := n0_
 have bD := n1_
 have bQ := n2_
 have bP := n3_
 have bR := n4_
 have b3 := n5_
 have db := n6_
 have dr := n7_
 have dO := n8_
 have bg := n9_
 have bl := n10_
 have bx := n11_
 have bE := n12_
 have bN := n13_
 have dc := n14_
 have HB := n15_
 clear n0_ n1_ n2_ n3_ n4_ n5_ n6_ n7_ n8_ n9_ n10_ n11_ n12_ n13_ n14_ n15_
 replace bA := Aside0.mk (Kd.V_drew bA.out)
 replace bD := Aside0.mk (Kd.N_drew bD.out)
 replace bQ := Aside0.mk (Kd.R_drew bQ.out)
 replace bP := Aside0.mk (Kd.N_drew bP.out)
 replace bR := Aside0.mk (Kd.V_drew bR.out)
 replace b3 := Aside0.mk (Kd.N_drew b3.out)
 replace db := Aside0.mk (Kd.V_drew db.out)
 replace dr := Aside0.mk (Kd.V_drew dr.out)
 replace dO := Aside0.mk (Kd.V_drew dO.out)
 replace bg := Aside0.mk (blk_drew bg.out)
 replace bl := Aside0.mk (blk_drew bl.out)
 replace bx := Aside0.mk (blk_drew bx.out)
 replace bE := Aside0.mk (blk_drew bE.out)
 replace bN := Aside0.mk (blk_drew bN.out)
 replace dc := Aside0.mk (blk_drew dc.out)
 replace HB := Aside0.mk (below_drew1 HB.out)
 refine start_ (n := 23) (S := fun w' => w'.cell? ⟨bf, 0, none⟩ = some (.int .u64 bW) ∧ w'.cell? ⟨bf, 1, none⟩ = some (.int .u64 b1) ∧ w'.cell? ⟨bf, 2, none⟩ = some (.slice b6 bL.length b5) ∧ w'.cell? ⟨bc, 0, none⟩ = some (.int .u64 bU) ∧ w'.cell? ⟨bc, 1, none⟩ = some (.int .u64 bV) ∧ w'.cell? ⟨bc, 2, none⟩ = some (.slice bY bM.length bX) ∧ w'.cell? ⟨ba, 0, none⟩ = some (.int .u64 da) ∧ w'.cell? ⟨ba, 1, none⟩ = some (.int .u64 dd) ∧ w'.cell? ⟨ba, 2, none⟩ = some (.slice dl bZ.length dk) ∧ w'.cell? ⟨bb, 0, none⟩ = some (.int .u64 dm) ∧ w'.cell? ⟨bb, 1, none⟩ = some (.int .u64 dp) ∧ w'.cell? ⟨bb, 2, none⟩ = some (.slice dy dn.length dx)) (ds := []) #[Ff,Ff,Ff,Ff,Ff,Ff,Ff,Ff,Ff,Ff,Ff,Ff,Ff,Ff,Ff,Ff,Ff,Ff,Ff,Ff,Ff,Ff,Ff] (by kernel_rfl) rfl rfl ⟨(blk_cell bx.out 0).trans rfl, (blk_cell bx.out 1).trans rfl, (blk_cell bx.out 2).trans rfl, (blk_cell bE.out 0).trans rfl, (blk_cell bE.out 1).trans rfl, (blk_cell bE.out 2).trans rfl, (blk_cell bN.out 0).trans rfl, (blk_cell bN.out 1).trans rfl, (blk_cell bN.out 2).trans rfl, (blk_cell dc.out 0).trans rfl, (blk_cell dc.out 1).trans rfl, (blk_cell dc.out 2).trans rfl⟩ (fun hHeld => ?_); refine with_tabW postroomlaw11_MarkGoes.tab14 postroomlaw11_MarkGoes.bits14 (fun HT_ HW_ => ?_)
 generalize w87.drew = w88 at bA bD bQ bP bR b3 db dr dO bg bl bx bE bN dc HB hHeld ⊢
 refine pp_ 0 (some 96) HT_.out ?_
 refine pp_ 1 (some 97) HT_.out ?_
 refine pp_ 2 (some 98) HT_.out ?_
 refine pp_ 3 (some 99) HT_.out ?_
 refine pp_ 4 (some 100) HT_.out ?_
 refine pp_ 5 (some 101) HT_.out ?_
 refine pp_ 6 (some 102) HT_.out ?_
 refine pp_ 7 (some 103) HT_.out ?_
 refine pp_ 8 (some 104) HT_.out ?_
 refine take_ (i := 9) (N := some 105) (v := ?_) (a' := ?_) #[Tt,Tt,Tt,Tt,Tt,Tt,Tt,Tt,Tt,Tt,Ff,Ff,Ff,Ff,Ff,Ff,Ff,Ff,Ff,Ff,Ff,Ff,Ff] rfl rfl (take_ofW HT_.out HW_.out (by kernel_rfl)) (fun _ _ _ h => h) (Or.inl ⟨by rfl, ?_⟩) hHeld ?_ ?_
 rotate_left
 ·rintro w' ⟨s0, s1, s2, s3, s4, s5, s6, s7, s8, s9, s10, s11⟩
  go_simp
  with_reducible rfl
 rotate_left
 ·simp only [Act.put, List.setIfInBounds_toArray, List.set_cons_zero, List.set_cons_succ, i64_w, i32_w]
  rfl
 refine take_ (i := 11) (N := some 107) (v := ?_) (a' := ?_) #[Tt,Tt,Tt,Tt,Tt,Tt,Tt,Tt,Tt,Tt,Ff,Tt,Ff,Ff,Ff,Ff,Ff,Ff,Ff,Ff,Ff,Ff,Ff] rfl rfl (take_ofW HT_.out HW_.out (by kernel_rfl)) (fun _ _ _ h => h) (Or.inl ⟨by rfl, ?_⟩) hHeld ?_ ?_
 rotate_left
 ·rintro w' ⟨s0, s1, s2, s3, s4, s5, s6, s7, s8, s9, s10, s11⟩
  go_simp
  with_reducible rfl
 rotate_left
 ·simp only [Act.put, List.setIfInBounds_toArray, List.set_cons_zero, List.set_cons_succ, i64_w, i32_w]
  rfl
 refine one_ (i := 10) (N := some 106) #[Tt,Tt,Tt,Tt,Tt,Tt,Tt,Tt,Tt,Tt,Tt,Tt,Ff,Ff,Ff,Ff,Ff,Ff,Ff,Ff,Ff,Ff,Ff] rfl rfl (one_of HT_.out (by kernel_rfl)) (by decide) (fun K hK => ?_)
 refine goes_ Tryd.func10 (by kernel_rfl) rfl #[.agg #[.int .u64 bW, .int .u64 b1, .slice b6 bL.length b5]] (by rfl) rfl rfl zx25_8 ?_
 with_reducible refine (postroomlaw11_asLedger.calls k bW b1 (fun k_ => (some k_ ≠ (.slice bp bh.length bn : Value).ownBlock ∧ (some k_ ≠ (.slice (some bj) bi.length bH : Value).ownBlock ∧ (some k_ ≠ (.slice dj b0.length di : Value).ownBlock ∧ (k_ ≠ bd ∧ (k_ ≠ be ∧ (k_ ≠ bf ∧ (k_ ≠ bc ∧ (k_ ≠ ba ∧ k_ ≠ bb))))))))) _ _ bL gz gy gc _ ?side1 A28.out).mono ?_
 (case side1 => exact bR.out)
 rintro e w89 ⟨hs, rfl, ho0, hb⟩
 refine ⟨_, rfl, ?_⟩
 replace bA := Aside0.mk (Kd.V_elder' zx25_12 (Kd.N_base ho0) hb)
 replace bP := Aside0.mk (Kd.N_elder' zx25_9 (Kd.N_base ho0) hb)
 replace bR := Aside0.mk (Kd.V_elder' zx25_14 (Kd.N_base ho0) hb)
 replace db := Aside0.mk (Kd.V_elder' zx25_17 (Kd.N_base ho0) hb)
 replace dr := Aside0.mk (Kd.V_elder' zx25_19 (Kd.N_base ho0) hb)
 replace dO := Aside0.mk (Kd.V_elder' zx25_20 (Kd.N_base ho0) hb)
 have dU := Aside0.mk (Kd.N_lower (Kd.N_mono (ok' := fun k_ => some k_ ≠ (.slice bp bh.length bn : Value).ownBlock ∧ some k_ ≠ (.slice (some bj) bi.length bH : Value).ownBlock ∧ some k_ ≠ (.slice dj b0.length di : Value).ownBlock ∧ k_ ≠ bd ∧ k_ ≠ be ∧ k_ ≠ bf ∧ k_ ≠ bc ∧ k_ ≠ ba ∧ k_ ≠ bb) ho0 (fun k_ hk_ => ⟨Or.elim hk_ (fun hs_ => hs_.1) (fun hn_ => (Kd.fresh' (Kd.N_lt zx25_10) k_ hn_)), Or.elim hk_ (fun hs_ => hs_.2.1) (fun hn_ => (Kd.fresh' (Kd.R_lt zx25_6) k_ hn_)), Or.elim hk_ (fun hs_ => hs_.2.2.1) (fun hn_ => (Kd.fresh' (Kd.N_lt zx25_11) k_ hn_)), Or.elim hk_ (fun hs_ => hs_.2.2.2.1) (fun hn_ => (Kd.freshB (g := bd) (o := .cells #[.int .u64 bk, .int .u64 bB, .slice bK br.length bJ] 25 (0, 0)) zx25_0 k_ hn_)), Or.elim hk_ (fun hs_ => hs_.2.2.2.2.1) (fun hn_ => (Kd.freshB (g := be) (o := .cells #[.int .u64 bG, .int .u64 bI, .slice bp bh.length bn] 25 (0, 0)) zx25_1 k_ hn_)), Or.elim hk_ (fun hs_ => hs_.2.2.2.2.2.1) (fun hn_ => (Kd.freshB (g := bf) (o := .cells #[.int .u64 bW, .int .u64 b1, .slice b6 bL.length b5] 25 (0, 0)) zx25_2 k_ hn_)), Or.elim hk_ (fun hs_ => hs_.2.2.2.2.2.2.1) (fun hn_ => (Kd.freshB (g := bc) (o := .cells #[.int .u64 bU, .int .u64 bV, .slice bY bM.length bX] 25 (0, 0)) zx25_4 k_ hn_)), Or.elim hk_ (fun hs_ => hs_.2.2.2.2.2.2.2.1) (fun hn_ => (Kd.freshB (g := ba) (o := .cells #[.int .u64 da, .int .u64 dd, .slice dl bZ.length dk] 25 (0, 0)) zx25_7 k_ hn_)), Or.elim hk_ (fun hs_ => hs_.2.2.2.2.2.2.2.2) (fun hn_ => (Kd.freshB (g := bb) (o := .cells #[.int .u64 dm, .int .u64 dp, .slice dy dn.length dx] 25 (0, 0)) zx25_16 k_ hn_))⟩)) (below_size zx25_3))
 replace bD := Aside0.mk (Kd.N_elder' zx25_10 (Kd.N_base ho0) hb)
 replace bQ := Aside0.mk (Kd.R_below zx25_6 hb)
 replace b3 := Aside0.mk (Kd.N_elder' zx25_11 (Kd.N_base ho0) hb)
 replace bg := Aside0.mk (blk_below (g := bd) (o := .cells #[.int .u64 bk, .int .u64 bB, .slice bK br.length bJ] 25 (0, 0)) zx25_0 hb)
 replace bl := Aside0.mk (blk_below (g := be) (o := .cells #[.int .u64 bG, .int .u64 bI, .slice bp bh.length bn] 25 (0, 0)) zx25_1 hb)
 replace bx := Aside0.mk (blk_below (g := bf) (o := .cells #[.int .u64 bW, .int .u64 b1, .slice b6 bL.length b5] 25 (0, 0)) zx25_2 hb)
 replace bE := Aside0.mk (blk_below (g := bc) (o := .cells #[.int .u64 bU, .int .u64 bV, .slice bY bM.length bX] 25 (0, 0)) zx25_4 hb)
 replace bN := Aside0.mk (blk_below (g := ba) (o := .cells #[.int .u64 da, .int .u64 dd, .slice dl bZ.length dk] 25 (0, 0)) zx25_7 hb)
 replace dc := Aside0.mk (blk_below (g := bb) (o := .cells #[.int .u64 dm, .int .u64 dp, .slice dy dn.length dx] 25 (0, 0)) zx25_16 hb)
 replace HB := Aside0.mk (below_step zx25_3 hb)
 (try clear hb)
 (try clear hb2)
 (try clear hk)
 (try clear hi)
 (try clear ho0)
 refine hK.out _ _ ⟨(blk_cell bx.out 0).trans rfl, (blk_cell bx.out 1).trans rfl, (blk_cell bx.out 2).trans rfl, (blk_cell bE.out 0).trans rfl, (blk_cell bE.out 1).trans rfl, (blk_cell bE.out 2).trans rfl, (blk_cell bN.out 0).trans rfl, (blk_cell bN.out 1).trans rfl, (blk_cell bN.out 2).trans rfl, (blk_cell dc.out 0).trans rfl, (blk_cell dc.out 1).trans rfl, (blk_cell dc.out 2).trans rfl⟩ (fun hHeld => ?_)
 clear hK K
 refine na_ 106 ?_
 refine one_ (i := 12) (N := some 108) #[Tt,Tt,Tt,Tt,Tt,Tt,Tt,Tt,Tt,Tt,Tt,Tt,Tt,Ff,Ff,Ff,Ff,Ff,Ff,Ff,Ff,Ff,Ff] rfl rfl (one_of HT_.out (by kernel_rfl)) (by decide) (fun K hK => ?_)
 refine goes_ Tryd.func10 (by kernel_rfl) rfl #[.agg #[.int .u64 bU, .int .u64 bV, .slice bY bM.length bX]] (by rfl) rfl rfl zx25_8 ?_
 with_reducible refine (postroomlaw11_asLedger.calls k bU bV (fun k_ => ((some k_ ≠ (.slice (some bj) bi.length bH : Value).ownBlock ∧ (some k_ ≠ (.slice b4 bO.length b2 : Value).ownBlock ∧ (k_ ≠ bd ∧ (k_ ≠ be ∧ (k_ ≠ bf ∧ (k_ ≠ bc ∧ (k_ ≠ ba ∧ k_ ≠ bb))))))) ∧ some k_ ≠ (hs : Value).ownBlock)) _ _ bM hc ha gh _ ?side1 A29.out).mono ?_
 (case side1 => exact db.out)
 rintro e w90 ⟨ov, rfl, ho0, hb⟩
 refine ⟨_, rfl, ?_⟩
 replace bA := Aside0.mk (Kd.V_elder' zx25_12 (Kd.N_base ho0) hb)
 replace bD := Aside0.mk (Kd.N_elder' zx25_10 (Kd.N_base ho0) hb)
 replace bR := Aside0.mk (Kd.V_elder' zx25_14 (Kd.N_base ho0) hb)
 replace b3 := Aside0.mk (Kd.N_elder' zx25_11 (Kd.N_base ho0) hb)
 replace db := Aside0.mk (Kd.V_elder' zx25_17 (Kd.N_base ho0) hb)
 replace dr := Aside0.mk (Kd.V_elder' zx25_19 (Kd.N_base ho0) hb)
 replace dO := Aside0.mk (Kd.V_elder' zx25_20 (Kd.N_base ho0) hb)
 have dY := Aside0.mk (Kd.N_lower (Kd.N_mono (ok' := fun k_ => some k_ ≠ (.slice (some bj) bi.length bH : Value).ownBlock ∧ some k_ ≠ (.slice b4 bO.length b2 : Value).ownBlock ∧ some k_ ≠ (hs : Value).ownBlock ∧ k_ ≠ bd ∧ k_ ≠ be ∧ k_ ≠ bf ∧ k_ ≠ bc ∧ k_ ≠ ba ∧ k_ ≠ bb) ho0 (fun k_ hk_ => ⟨Or.elim hk_ (fun hs_ => hs_.1.1) (fun hn_ => (Kd.fresh' (Kd.R_lt zx25_6) k_ hn_)), Or.elim hk_ (fun hs_ => hs_.1.2.1) (fun hn_ => (Kd.fresh' (Kd.N_lt zx25_9) k_ hn_)), Or.elim hk_ (fun hs_ => hs_.2) (fun hn_ => (Kd.fresh' (Kd.N_lt zx25_23) k_ hn_)), Or.elim hk_ (fun hs_ => hs_.1.2.2.1) (fun hn_ => (Kd.freshB (g := bd) (o := .cells #[.int .u64 bk, .int .u64 bB, .slice bK br.length bJ] 25 (0, 0)) zx25_0 k_ hn_)), Or.elim hk_ (fun hs_ => hs_.1.2.2.2.1) (fun hn_ => (Kd.freshB (g := be) (o := .cells #[.int .u64 bG, .int .u64 bI, .slice bp bh.length bn] 25 (0, 0)) zx25_1 k_ hn_)), Or.elim hk_ (fun hs_ => hs_.1.2.2.2.2.1) (fun hn_ => (Kd.freshB (g := bf) (o := .cells #[.int .u64 bW, .int .u64 b1, .slice b6 bL.length b5] 25 (0, 0)) zx25_2 k_ hn_)), Or.elim hk_ (fun hs_ => hs_.1.2.2.2.2.2.1) (fun hn_ => (Kd.freshB (g := bc) (o := .cells #[.int .u64 bU, .int .u64 bV, .slice bY bM.length bX] 25 (0, 0)) zx25_4 k_ hn_)), Or.elim hk_ (fun hs_ => hs_.1.2.2.2.2.2.2.1) (fun hn_ => (Kd.freshB (g := ba) (o := .cells #[.int .u64 da, .int .u64 dd, .slice dl bZ.length dk] 25 (0, 0)) zx25_7 k_ hn_)), Or.elim hk_ (fun hs_ => hs_.1.2.2.2.2.2.2.2) (fun hn_ => (Kd.freshB (g := bb) (o := .cells #[.int .u64 dm, .int .u64 dp, .slice dy dn.length dx] 25 (0, 0)) zx25_16 k_ hn_))⟩)) (below_size zx25_3))
 replace bQ := Aside0.mk (Kd.R_below zx25_6 hb)
 replace bP := Aside0.mk (Kd.N_elder' zx25_9 (Kd.N_base ho0) hb)
 replace dU := Aside0.mk (Kd.N_elder' zx25_23 (Kd.N_base ho0) hb)
 replace bg := Aside0.mk (blk_below (g := bd) (o := .cells #[.int .u64 bk, .int .u64 bB, .slice bK br.length bJ] 25 (0, 0)) zx25_0 hb)
 replace bl := Aside0.mk (blk_below (g := be) (o := .cells #[.int .u64 bG, .int .u64 bI, .slice bp bh.length bn] 25 (0, 0)) zx25_1 hb)
 replace bx := Aside0.mk (blk_below (g := bf) (o := .cells #[.int .u64 bW, .int .u64 b1, .slice b6 bL.length b5] 25 (0, 0)) zx25_2 hb)
 replace bE := Aside0.mk (blk_below (g := bc) (o := .cells #[.int .u64 bU, .int .u64 bV, .slice bY bM.length bX] 25 (0, 0)) zx25_4 hb)
 replace bN := Aside0.mk (blk_below (g := ba) (o := .cells #[.int .u64 da, .int .u64 dd, .slice dl bZ.length dk] 25 (0, 0)) zx25_7 hb)
 replace dc := Aside0.mk (blk_below (g := bb) (o := .cells #[.int .u64 dm, .int .u64 dp, .slice dy dn.length dx] 25 (0, 0)) zx25_16 hb)
 replace HB := Aside0.mk (below_step zx25_3 hb)
 (try clear hb)
 (try clear hb2)
 (try clear hk)
 (try clear hi)
 (try clear ho0)
 obtain ⟨gW, gU, hB⟩ := Kd.N_slice dU.out
 (first | subst hB | (injection hB with f1_ f2_ f3_; have f4_ := f1_.symm; have f5_ := f3_.symm; clear f1_ f2_ f3_; subst f4_; subst f5_))
 obtain ⟨gV, gT, hA⟩ := Kd.N_slice dY.out
 (first | subst hA | (injection hA with f1_ f2_ f3_; have f4_ := f1_.symm; have f5_ := f3_.symm; clear f1_ f2_ f3_; subst f4_; subst f5_))
 refine hK.out _ _ ⟨(blk_cell bx.out 0).trans rfl, (blk_cell bx.out 1).trans rfl, (blk_cell bx.out 2).trans rfl, (blk_cell bE.out 0).trans rfl, (blk_cell bE.out 1).trans rfl, (blk_cell bE.out 2).trans rfl, (blk_cell bN.out 0).trans rfl, (blk_cell bN.out 1).trans rfl, (blk_cell bN.out 2).trans rfl, (blk_cell dc.out 0).trans rfl, (blk_cell dc.out 1).trans rfl, (blk_cell dc.out 2).trans rfl⟩ (fun hHeld => ?_)
 clear hK K
 refine na_ 108 ?_
 refine one_ (i := 13) (N := some 109) #[Tt,Tt,Tt,Tt,Tt,Tt,Tt,Tt,Tt,Tt,Tt,Tt,Tt,Tt,Ff,Ff,Ff,Ff,Ff,Ff,Ff,Ff,Ff] rfl rfl (one_of HT_.out (by kernel_rfl)) (by decide) (fun K hK => ?_)
 refine goes_ Tryd.func17 (by kernel_rfl) rfl #[.agg #[.int .u64 gz, .int .u64 gy, .slice gW gc.length gU], .agg #[.int .u64 hc, .int .u64 ha, .slice gV gh.length gT]] (by rfl) rfl rfl zx25_8 ?_
 with_reducible refine (postroomref11_Same.calls k gz gy _ _ gc hc ha _ _ gh true _ ?side1 ?side2 ?side3 ?side4 A30.out).mono ?_
 (case side1 => repeat (first | exact (Kd.N_reads' dU.out).2.2 | (with_reducible refine Kd.C_alloc ?_ _) | (with_reducible refine Kd.C_drewN ?_ _) | (with_reducible refine Kd.C_drew ?_)))
 (case side2 => exact (Kd.N_reads' dU.out).2.1)
 (case side3 => repeat (first | exact (Kd.N_reads' dY.out).2.2 | (with_reducible refine Kd.C_alloc ?_ _) | (with_reducible refine Kd.C_drewN ?_ _) | (with_reducible refine Kd.C_drew ?_)))
 (case side4 => exact (Kd.N_reads' dY.out).2.1)
 rintro e w93 ⟨rfl, hb⟩
 refine ⟨_, rfl, ?_⟩
 replace bA := Aside0.mk (Kd.V_below zx25_12 hb)
 replace bD := Aside0.mk (Kd.N_below zx25_10 hb)
 replace bQ := Aside0.mk (Kd.R_below zx25_6 hb)
 replace bP := Aside0.mk (Kd.N_below zx25_9 hb)
 replace bR := Aside0.mk (Kd.V_below zx25_14 hb)
 replace b3 := Aside0.mk (Kd.N_below zx25_11 hb)
 replace db := Aside0.mk (Kd.V_below zx25_17 hb)
 replace dr := Aside0.mk (Kd.V_below zx25_19 hb)
 replace dO := Aside0.mk (Kd.V_below zx25_20 hb)
 replace dU := Aside0.mk (Kd.N_below zx25_23 hb)
 replace dY := Aside0.mk (Kd.N_below zx25_30 hb)
 replace bg := Aside0.mk (blk_below (g := bd) (o := .cells #[.int .u64 bk, .int .u64 bB, .slice bK br.length bJ] 25 (0, 0)) zx25_0 hb)
 replace bl := Aside0.mk (blk_below (g := be) (o := .cells #[.int .u64 bG, .int .u64 bI, .slice bp bh.length bn] 25 (0, 0)) zx25_1 hb)
 replace bx := Aside0.mk (blk_below (g := bf) (o := .cells #[.int .u64 bW, .int .u64 b1, .slice b6 bL.length b5] 25 (0, 0)) zx25_2 hb)
 replace bE := Aside0.mk (blk_below (g := bc) (o := .cells #[.int .u64 bU, .int .u64 bV, .slice bY bM.length bX] 25 (0, 0)) zx25_4 hb)
 replace bN := Aside0.mk (blk_below (g := ba) (o := .cells #[.int .u64 da, .int .u64 dd, .slice dl bZ.length dk] 25 (0, 0)) zx25_7 hb)
 replace dc := Aside0.mk (blk_below (g := bb) (o := .cells #[.int .u64 dm, .int .u64 dp, .slice dy dn.length dx] 25 (0, 0)) zx25_16 hb)
 replace HB := Aside0.mk (below_step zx25_3 hb)
 (try clear hb)
 (try clear hb2)
 (try clear hk)
 (try clear hi)
 refine hK.out _ _ ⟨(blk_cell bx.out 0).trans rfl, (blk_cell bx.out 1).trans rfl, (blk_cell bx.out 2).trans rfl, (blk_cell bE.out 0).trans rfl, (blk_cell bE.out 1).trans rfl, (blk_cell bE.out 2).trans rfl, (blk_cell bN.out 0).trans rfl, (blk_cell bN.out 1).trans rfl, (blk_cell bN.out 2).trans rfl, (blk_cell dc.out 0).trans rfl, (blk_cell dc.out 1).trans rfl, (blk_cell dc.out 2).trans rfl⟩ (fun hHeld => ?_)
 clear hK K
 refine na_ 109 ?_
 refine pp_ 14 (some 110) HT_.out ?_
 refine pp_ 15 (some 111) HT_.out ?_
 refine take_ (i := 16) (N := some 112) (v := ?_) (a' := ?_) #[Tt,Tt,Tt,Tt,Tt,Tt,Tt,Tt,Tt,Tt,Tt,Tt,Tt,Tt,Tt,Tt,Tt,Ff,Ff,Ff,Ff,Ff,Ff] rfl rfl (take_ofW HT_.out HW_.out (by kernel_rfl)) (fun _ _ _ h => h) (Or.inl ⟨by rfl, ?_⟩) hHeld ?_ ?_
 rotate_left
 ·rintro w' ⟨s0, s1, s2, s3, s4, s5, s6, s7, s8, s9, s10, s11⟩
  go_simp
  with_reducible rfl
 rotate_left
 ·simp only [Act.put, List.setIfInBounds_toArray, List.set_cons_zero, List.set_cons_succ, i64_w, i32_w]
  rfl
 refine take_ (i := 18) (N := some 114) (v := ?_) (a' := ?_) #[Tt,Tt,Tt,Tt,Tt,Tt,Tt,Tt,Tt,Tt,Tt,Tt,Tt,Tt,Tt,Tt,Tt,Ff,Tt,Ff,Ff,Ff,Ff] rfl rfl (take_ofW HT_.out HW_.out (by kernel_rfl)) (fun _ _ _ h => h) (Or.inl ⟨by rfl, ?_⟩) hHeld ?_ ?_
 rotate_left
 ·rintro w' ⟨s0, s1, s2, s3, s4, s5, s6, s7, s8, s9, s10, s11⟩
  go_simp
  with_reducible rfl
 rotate_left
 ·simp only [Act.put, List.setIfInBounds_toArray, List.set_cons_zero, List.set_cons_succ, i64_w, i32_w]
  rfl
 refine one_ (i := 17) (N := some 113) #[Tt,Tt,Tt,Tt,Tt,Tt,Tt,Tt,Tt,Tt,Tt,Tt,Tt,Tt,Tt,Tt,Tt,Tt,Tt,Ff,Ff,Ff,Ff] rfl rfl (one_of HT_.out (by kernel_rfl)) (by decide) (fun K hK => ?_)
 refine goes_ Tryd.func10 (by kernel_rfl) rfl #[.agg #[.int .u64 da, .int .u64 dd, .slice dl bZ.length dk]] (by rfl) rfl rfl zx25_8 ?_
 with_reducible refine (postroomlaw11_asLedger.calls k da dd (fun k_ => (((some k_ ≠ (.slice bp bh.length bn : Value).ownBlock ∧ (some k_ ≠ (.slice (some bj) bi.length bH : Value).ownBlock ∧ (some k_ ≠ (.slice b4 bO.length b2 : Value).ownBlock ∧ (some k_ ≠ (.slice dj b0.length di : Value).ownBlock ∧ (k_ ≠ bd ∧ (k_ ≠ be ∧ (k_ ≠ bf ∧ (k_ ≠ bc ∧ (k_ ≠ ba ∧ k_ ≠ bb))))))))) ∧ some k_ ≠ (.slice gW gc.length gU : Value).ownBlock) ∧ some k_ ≠ (.slice gV gh.length gT : Value).ownBlock)) _ _ bZ gx gw gv _ ?side1 A32.out).mono ?_
 (case side1 => exact dr.out)
 rintro e w94 ⟨hq, rfl, ho0, hb⟩
 refine ⟨_, rfl, ?_⟩
 replace bA := Aside0.mk (Kd.V_elder' zx25_12 (Kd.N_base ho0) hb)
 replace bR := Aside0.mk (Kd.V_elder' zx25_14 (Kd.N_base ho0) hb)
 replace db := Aside0.mk (Kd.V_elder' zx25_17 (Kd.N_base ho0) hb)
 replace dr := Aside0.mk (Kd.V_elder' zx25_19 (Kd.N_base ho0) hb)
 replace dO := Aside0.mk (Kd.V_elder' zx25_20 (Kd.N_base ho0) hb)
 have dX := Aside0.mk (Kd.N_lower (Kd.N_mono (ok' := fun k_ => some k_ ≠ (.slice bp bh.length bn : Value).ownBlock ∧ some k_ ≠ (.slice (some bj) bi.length bH : Value).ownBlock ∧ some k_ ≠ (.slice b4 bO.length b2 : Value).ownBlock ∧ some k_ ≠ (.slice dj b0.length di : Value).ownBlock ∧ some k_ ≠ (.slice gW gc.length gU : Value).ownBlock ∧ some k_ ≠ (.slice gV gh.length gT : Value).ownBlock ∧ k_ ≠ bd ∧ k_ ≠ be ∧ k_ ≠ bf ∧ k_ ≠ bc ∧ k_ ≠ ba ∧ k_ ≠ bb) ho0 (fun k_ hk_ => ⟨Or.elim hk_ (fun hs_ => hs_.1.1.1) (fun hn_ => (Kd.fresh' (Kd.N_lt zx25_10) k_ hn_)), Or.elim hk_ (fun hs_ => hs_.1.1.2.1) (fun hn_ => (Kd.fresh' (Kd.R_lt zx25_6) k_ hn_)), Or.elim hk_ (fun hs_ => hs_.1.1.2.2.1) (fun hn_ => (Kd.fresh' (Kd.N_lt zx25_9) k_ hn_)), Or.elim hk_ (fun hs_ => hs_.1.1.2.2.2.1) (fun hn_ => (Kd.fresh' (Kd.N_lt zx25_11) k_ hn_)), Or.elim hk_ (fun hs_ => hs_.1.2) (fun hn_ => (Kd.fresh' (Kd.N_lt zx25_23) k_ hn_)), Or.elim hk_ (fun hs_ => hs_.2) (fun hn_ => (Kd.fresh' (Kd.N_lt zx25_30) k_ hn_)), Or.elim hk_ (fun hs_ => hs_.1.1.2.2.2.2.1) (fun hn_ => (Kd.freshB (g := bd) (o := .cells #[.int .u64 bk, .int .u64 bB, .slice bK br.length bJ] 25 (0, 0)) zx25_0 k_ hn_)), Or.elim hk_ (fun hs_ => hs_.1.1.2.2.2.2.2.1) (fun hn_ => (Kd.freshB (g := be) (o := .cells #[.int .u64 bG, .int .u64 bI, .slice bp bh.length bn] 25 (0, 0)) zx25_1 k_ hn_)), Or.elim hk_ (fun hs_ => hs_.1.1.2.2.2.2.2.2.1) (fun hn_ => (Kd.freshB (g := bf) (o := .cells #[.int .u64 bW, .int .u64 b1, .slice b6 bL.length b5] 25 (0, 0)) zx25_2 k_ hn_)), Or.elim hk_ (fun hs_ => hs_.1.1.2.2.2.2.2.2.2.1) (fun hn_ => (Kd.freshB (g := bc) (o := .cells #[.int .u64 bU, .int .u64 bV, .slice bY bM.length bX] 25 (0, 0)) zx25_4 k_ hn_)), Or.elim hk_ (fun hs_ => hs_.1.1.2.2.2.2.2.2.2.2.1) (fun hn_ => (Kd.freshB (g := ba) (o := .cells #[.int .u64 da, .int .u64 dd, .slice dl bZ.length dk] 25 (0, 0)) zx25_7 k_ hn_)), Or.elim hk_ (fun hs_ => hs_.1.1.2.2.2.2.2.2.2.2.2) (fun hn_ => (Kd.freshB (g := bb) (o := .cells #[.int .u64 dm, .int .u64 dp, .slice dy dn.length dx] 25 (0, 0)) zx25_16 k_ hn_))⟩)) (below_size zx25_3))
 replace bD := Aside0.mk (Kd.N_elder' zx25_10 (Kd.N_base ho0) hb)
 replace bQ := Aside0.mk (Kd.R_below zx25_6 hb)
 replace bP := Aside0.mk (Kd.N_elder' zx25_9 (Kd.N_base ho0) hb)
 replace b3 := Aside0.mk (Kd.N_elder' zx25_11 (Kd.N_base ho0) hb)
 replace dU := Aside0.mk (Kd.N_elder' zx25_23 (Kd.N_base ho0) hb)
 replace dY := Aside0.mk (Kd.N_elder' zx25_30 (Kd.N_base ho0) hb)
 replace bg := Aside0.mk (blk_below (g := bd) (o := .cells #[.int .u64 bk, .int .u64 bB, .slice bK br.length bJ] 25 (0, 0)) zx25_0 hb)
 replace bl := Aside0.mk (blk_below (g := be) (o := .cells #[.int .u64 bG, .int .u64 bI, .slice bp bh.length bn] 25 (0, 0)) zx25_1 hb)
 replace bx := Aside0.mk (blk_below (g := bf) (o := .cells #[.int .u64 bW, .int .u64 b1, .slice b6 bL.length b5] 25 (0, 0)) zx25_2 hb)
 replace bE := Aside0.mk (blk_below (g := bc) (o := .cells #[.int .u64 bU, .int .u64 bV, .slice bY bM.length bX] 25 (0, 0)) zx25_4 hb)
 replace bN := Aside0.mk (blk_below (g := ba) (o := .cells #[.int .u64 da, .int .u64 dd, .slice dl bZ.length dk] 25 (0, 0)) zx25_7 hb)
 replace dc := Aside0.mk (blk_below (g := bb) (o := .cells #[.int .u64 dm, .int .u64 dp, .slice dy dn.length dx] 25 (0, 0)) zx25_16 hb)
 replace HB := Aside0.mk (below_step zx25_3 hb)
 (try clear hb)
 (try clear hb2)
 (try clear hk)
 (try clear hi)
 (try clear ho0)
 refine hK.out _ _ ⟨(blk_cell bx.out 0).trans rfl, (blk_cell bx.out 1).trans rfl, (blk_cell bx.out 2).trans rfl, (blk_cell bE.out 0).trans rfl, (blk_cell bE.out 1).trans rfl, (blk_cell bE.out 2).trans rfl, (blk_cell bN.out 0).trans rfl, (blk_cell bN.out 1).trans rfl, (blk_cell bN.out 2).trans rfl, (blk_cell dc.out 0).trans rfl, (blk_cell dc.out 1).trans rfl, (blk_cell dc.out 2).trans rfl⟩ (fun hHeld => ?_)
 clear hK K
 refine na_ 113 ?_
 refine one_ (i := 19) (N := some 115) #[Tt,Tt,Tt,Tt,Tt,Tt,Tt,Tt,Tt,Tt,Tt,Tt,Tt,Tt,Tt,Tt,Tt,Tt,Tt,Tt,Ff,Ff,Ff] rfl rfl (one_of HT_.out (by kernel_rfl)) (by decide) (fun K hK => ?_)
 refine goes_ Tryd.func10 (by kernel_rfl) rfl #[.agg #[.int .u64 dm, .int .u64 dp, .slice dy dn.length dx]] (by rfl) rfl rfl zx25_8 ?_
 with_reducible refine (postroomlaw11_asLedger.calls k dm dp (fun k_ => ((((some k_ ≠ (.slice (some bj) bi.length bH : Value).ownBlock ∧ (some k_ ≠ (.slice b4 bO.length b2 : Value).ownBlock ∧ (some k_ ≠ (.slice dj b0.length di : Value).ownBlock ∧ (k_ ≠ bd ∧ (k_ ≠ be ∧ (k_ ≠ bf ∧ (k_ ≠ bc ∧ (k_ ≠ ba ∧ k_ ≠ bb)))))))) ∧ some k_ ≠ (.slice gW gc.length gU : Value).ownBlock) ∧ some k_ ≠ (.slice gV gh.length gT : Value).ownBlock) ∧ some k_ ≠ (hq : Value).ownBlock)) _ _ dn gZ gY gX _ ?side1 A33.out).mono ?_
 (case side1 => exact dO.out)
 rintro e w95 ⟨ou, rfl, ho0, hb⟩
 refine ⟨_, rfl, ?_⟩
 replace bA := Aside0.mk (Kd.V_elder' zx25_12 (Kd.N_base ho0) hb)
 replace bD := Aside0.mk (Kd.N_elder' zx25_10 (Kd.N_base ho0) hb)
 replace bR := Aside0.mk (Kd.V_elder' zx25_14 (Kd.N_base ho0) hb)
 replace db := Aside0.mk (Kd.V_elder' zx25_17 (Kd.N_base ho0) hb)
 replace dr := Aside0.mk (Kd.V_elder' zx25_19 (Kd.N_base ho0) hb)
 replace dO := Aside0.mk (Kd.V_elder' zx25_20 (Kd.N_base ho0) hb)
 have gj := Aside0.mk (Kd.N_lower (Kd.N_mono (ok' := fun k_ => some k_ ≠ (.slice (some bj) bi.length bH : Value).ownBlock ∧ some k_ ≠ (.slice b4 bO.length b2 : Value).ownBlock ∧ some k_ ≠ (.slice dj b0.length di : Value).ownBlock ∧ some k_ ≠ (.slice gW gc.length gU : Value).ownBlock ∧ some k_ ≠ (.slice gV gh.length gT : Value).ownBlock ∧ some k_ ≠ (hq : Value).ownBlock ∧ k_ ≠ bd ∧ k_ ≠ be ∧ k_ ≠ bf ∧ k_ ≠ bc ∧ k_ ≠ ba ∧ k_ ≠ bb) ho0 (fun k_ hk_ => ⟨Or.elim hk_ (fun hs_ => hs_.1.1.1.1) (fun hn_ => (Kd.fresh' (Kd.R_lt zx25_6) k_ hn_)), Or.elim hk_ (fun hs_ => hs_.1.1.1.2.1) (fun hn_ => (Kd.fresh' (Kd.N_lt zx25_9) k_ hn_)), Or.elim hk_ (fun hs_ => hs_.1.1.1.2.2.1) (fun hn_ => (Kd.fresh' (Kd.N_lt zx25_11) k_ hn_)), Or.elim hk_ (fun hs_ => hs_.1.1.2) (fun hn_ => (Kd.fresh' (Kd.N_lt zx25_23) k_ hn_)), Or.elim hk_ (fun hs_ => hs_.1.2) (fun hn_ => (Kd.fresh' (Kd.N_lt zx25_30) k_ hn_)), Or.elim hk_ (fun hs_ => hs_.2) (fun hn_ => (Kd.fresh' (Kd.N_lt (by (with_reducible repeat (first | apply Kd.N_alloc | apply Kd.N_drewN | apply Kd.N_drew)); exact dX.out)) k_ hn_)), Or.elim hk_ (fun hs_ => hs_.1.1.1.2.2.2.1) (fun hn_ => (Kd.freshB (g := bd) (o := .cells #[.int .u64 bk, .int .u64 bB, .slice bK br.length bJ] 25 (0, 0)) zx25_0 k_ hn_)), Or.elim hk_ (fun hs_ => hs_.1.1.1.2.2.2.2.1) (fun hn_ => (Kd.freshB (g := be) (o := .cells #[.int .u64 bG, .int .u64 bI, .slice bp bh.length bn] 25 (0, 0)) zx25_1 k_ hn_)), Or.elim hk_ (fun hs_ => hs_.1.1.1.2.2.2.2.2.1) (fun hn_ => (Kd.freshB (g := bf) (o := .cells #[.int .u64 bW, .int .u64 b1, .slice b6 bL.length b5] 25 (0, 0)) zx25_2 k_ hn_)), Or.elim hk_ (fun hs_ => hs_.1.1.1.2.2.2.2.2.2.1) (fun hn_ => (Kd.freshB (g := bc) (o := .cells #[.int .u64 bU, .int .u64 bV, .slice bY bM.length bX] 25 (0, 0)) zx25_4 k_ hn_)), Or.elim hk_ (fun hs_ => hs_.1.1.1.2.2.2.2.2.2.2.1) (fun hn_ => (Kd.freshB (g := ba) (o := .cells #[.int .u64 da, .int .u64 dd, .slice dl bZ.length dk] 25 (0, 0)) zx25_7 k_ hn_)), Or.elim hk_ (fun hs_ => hs_.1.1.1.2.2.2.2.2.2.2.2) (fun hn_ => (Kd.freshB (g := bb) (o := .cells #[.int .u64 dm, .int .u64 dp, .slice dy dn.length dx] 25 (0, 0)) zx25_16 k_ hn_))⟩)) (below_size zx25_3))
 replace bQ := Aside0.mk (Kd.R_below zx25_6 hb)
 replace bP := Aside0.mk (Kd.N_elder' zx25_9 (Kd.N_base ho0) hb)
 replace b3 := Aside0.mk (Kd.N_elder' zx25_11 (Kd.N_base ho0) hb)
 replace dU := Aside0.mk (Kd.N_elder' zx25_23 (Kd.N_base ho0) hb)
 replace dY := Aside0.mk (Kd.N_elder' zx25_30 (Kd.N_base ho0) hb)
 replace dX := Aside0.mk (Kd.N_elder' (by (with_reducible repeat (first | apply Kd.N_alloc | apply Kd.N_drewN | apply Kd.N_drew)); exact dX.out) (Kd.N_base ho0) hb)
 replace bg := Aside0.mk (blk_below (g := bd) (o := .cells #[.int .u64 bk, .int .u64 bB, .slice bK br.length bJ] 25 (0, 0)) zx25_0 hb)
 replace bl := Aside0.mk (blk_below (g := be) (o := .cells #[.int .u64 bG, .int .u64 bI, .slice bp bh.length bn] 25 (0, 0)) zx25_1 hb)
 replace bx := Aside0.mk (blk_below (g := bf) (o := .cells #[.int .u64 bW, .int .u64 b1, .slice b6 bL.length b5] 25 (0, 0)) zx25_2 hb)
 replace bE := Aside0.mk (blk_below (g := bc) (o := .cells #[.int .u64 bU, .int .u64 bV, .slice bY bM.length bX] 25 (0, 0)) zx25_4 hb)
 replace bN := Aside0.mk (blk_below (g := ba) (o := .cells #[.int .u64 da, .int .u64 dd, .slice dl bZ.length dk] 25 (0, 0)) zx25_7 hb)
 replace dc := Aside0.mk (blk_below (g := bb) (o := .cells #[.int .u64 dm, .int .u64 dp, .slice dy dn.length dx] 25 (0, 0)) zx25_16 hb)
 replace HB := Aside0.mk (below_step zx25_3 hb)
 (try clear hb)
 (try clear hb2)
 (try clear hk)
 (try clear hi)
 (try clear ho0)
 obtain ⟨mU, mQ, hz⟩ := Kd.N_slice dX.out
 (first | subst hz | (injection hz with f1_ f2_ f3_; have f4_ := f1_.symm; have f5_ := f3_.symm; clear f1_ f2_ f3_; subst f4_; subst f5_))
 obtain ⟨mT, mP, hy⟩ := Kd.N_slice gj.out
 (first | subst hy | (injection hy with f1_ f2_ f3_; have f4_ := f1_.symm; have f5_ := f3_.symm; clear f1_ f2_ f3_; subst f4_; subst f5_))
 refine hK.out _ _ ⟨(blk_cell bx.out 0).trans rfl, (blk_cell bx.out 1).trans rfl, (blk_cell bx.out 2).trans rfl, (blk_cell bE.out 0).trans rfl, (blk_cell bE.out 1).trans rfl, (blk_cell bE.out 2).trans rfl, (blk_cell bN.out 0).trans rfl, (blk_cell bN.out 1).trans rfl, (blk_cell bN.out 2).trans rfl, (blk_cell dc.out 0).trans rfl, (blk_cell dc.out 1).trans rfl, (blk_cell dc.out 2).trans rfl⟩ (fun hHeld => ?_)
 clear hK K
 refine na_ 115 ?_
 refine one_ (i := 20) (N := some 116) #[Tt,Tt,Tt,Tt,Tt,Tt,Tt,Tt,Tt,Tt,Tt,Tt,Tt,Tt,Tt,Tt,Tt,Tt,Tt,Tt,Tt,Ff,Ff] rfl rfl (one_of HT_.out (by kernel_rfl)) (by decide) (fun K hK => ?_)
 refine goes_ Tryd.func17 (by kernel_rfl) rfl #[.agg #[.int .u64 gx, .int .u64 gw, .slice mU gv.length mQ], .agg #[.int .u64 gZ, .int .u64 gY, .slice mT gX.length mP]] (by rfl) rfl rfl zx25_8 ?_
 with_reducible refine (postroomref11_Same.calls k gx gw _ _ gv gZ gY _ _ gX dt _ ?side1 ?side2 ?side3 ?side4 A34.out).mono ?_
 (case side1 => repeat (first | exact (Kd.N_reads' dX.out).2.2 | (with_reducible refine Kd.C_alloc ?_ _) | (with_reducible refine Kd.C_drewN ?_ _) | (with_reducible refine Kd.C_drew ?_)))
 (case side2 => exact (Kd.N_reads' dX.out).2.1)
 (case side3 => repeat (first | exact (Kd.N_reads' gj.out).2.2 | (with_reducible refine Kd.C_alloc ?_ _) | (with_reducible refine Kd.C_drewN ?_ _) | (with_reducible refine Kd.C_drew ?_)))
 (case side4 => exact (Kd.N_reads' gj.out).2.1)
 rintro e w98 ⟨rfl, hb⟩
 refine ⟨_, rfl, ?_⟩
 replace bA := Aside0.mk (Kd.V_below zx25_12 hb)
 replace bD := Aside0.mk (Kd.N_below zx25_10 hb)
 replace bQ := Aside0.mk (Kd.R_below zx25_6 hb)
 replace bP := Aside0.mk (Kd.N_below zx25_9 hb)
 replace bR := Aside0.mk (Kd.V_below zx25_14 hb)
 replace b3 := Aside0.mk (Kd.N_below zx25_11 hb)
 replace db := Aside0.mk (Kd.V_below zx25_17 hb)
 replace dr := Aside0.mk (Kd.V_below zx25_19 hb)
 replace dO := Aside0.mk (Kd.V_below zx25_20 hb)
 replace dU := Aside0.mk (Kd.N_below zx25_23 hb)
 replace dY := Aside0.mk (Kd.N_below zx25_30 hb)
 replace dX := Aside0.mk (Kd.N_below (by (with_reducible repeat (first | apply Kd.N_alloc | apply Kd.N_drewN | apply Kd.N_drew)); exact dX.out) hb)
 replace gj := Aside0.mk (Kd.N_below (by (with_reducible repeat (first | apply Kd.N_alloc | apply Kd.N_drewN | apply Kd.N_drew)); exact gj.out) hb)
 replace bg := Aside0.mk (blk_below (g := bd) (o := .cells #[.int .u64 bk, .int .u64 bB, .slice bK br.length bJ] 25 (0, 0)) zx25_0 hb)
 replace bl := Aside0.mk (blk_below (g := be) (o := .cells #[.int .u64 bG, .int .u64 bI, .slice bp bh.length bn] 25 (0, 0)) zx25_1 hb)
 replace bx := Aside0.mk (blk_below (g := bf) (o := .cells #[.int .u64 bW, .int .u64 b1, .slice b6 bL.length b5] 25 (0, 0)) zx25_2 hb)
 replace bE := Aside0.mk (blk_below (g := bc) (o := .cells #[.int .u64 bU, .int .u64 bV, .slice bY bM.length bX] 25 (0, 0)) zx25_4 hb)
 replace bN := Aside0.mk (blk_below (g := ba) (o := .cells #[.int .u64 da, .int .u64 dd, .slice dl bZ.length dk] 25 (0, 0)) zx25_7 hb)
 replace dc := Aside0.mk (blk_below (g := bb) (o := .cells #[.int .u64 dm, .int .u64 dp, .slice dy dn.length dx] 25 (0, 0)) zx25_16 hb)
 replace HB := Aside0.mk (below_step zx25_3 hb)
 (try clear hb)
 (try clear hb2)
 (try clear hk)
 (try clear hi)
 refine hK.out _ _ ⟨(blk_cell bx.out 0).trans rfl, (blk_cell bx.out 1).trans rfl, (blk_cell bx.out 2).trans rfl, (blk_cell bE.out 0).trans rfl, (blk_cell bE.out 1).trans rfl, (blk_cell bE.out 2).trans rfl, (blk_cell bN.out 0).trans rfl, (blk_cell bN.out 1).trans rfl, (blk_cell bN.out 2).trans rfl, (blk_cell dc.out 0).trans rfl, (blk_cell dc.out 1).trans rfl, (blk_cell dc.out 2).trans rfl⟩ (fun hHeld => ?_)
 clear hK K
 refine na_ 116 ?_
 refine pp_ 21 (some 117) HT_.out ?_
 refine pp_ 22 (some 6) HT_.out ?_
 refine done_ (done_of HT_.out (by kernel_rfl)) ?_
 try go_wp2
 go_ret
 exact ⟨by first | rfl | (simp [errW_none, errW_some] <;> rfl) | (simp [*, errW_none, errW_some] <;> rfl), by repeat (first | (with_reducible first | exact HB.out | apply below_alloc | apply pw_below_drewN | apply below_drew1 | refine below_set ?_ dT.out | refine below_set ?_ dW.out | refine below_set ?_ dZ.out | refine below_set ?_ d2.out | refine below_set ?_ dS.out | refine below_set ?_ dV.out) | exact HB.out)⟩
/-- THE ONE PURE STATEMENT of postroomlaw11_MarkGoes. -/
def postroomlaw11_MarkGoes.Pure : Prop := ∀ (l0 : List (S75)) (a1 : Int) (a2 : Int), l0.length ≤ maxLen → l0.length * 24 ≤ 140737488351232 → (∀ x ∈ l0, ((Lit.int .i64 x.f0).wf = true ∧ (Lit.int .i64 x.f1).wf = true ∧ (Lit.int .i64 x.f2).wf = true)) → (Lit.int .i64 a1).wf = true → (Lit.int .i64 a2).wf = true → ∃ k, postroomlaw11_MarkGoes.f k l0 a1 a2 = some true
theorem postroomlaw11_MarkGoes.walk (P : postroomlaw11_MarkGoes.Pure) (A0 : Option Addr) (c0 : Nat) (l0 : List (S75)) (a1 : Int) (a2 : Int) (w : World) (hr0 : Kd.C k75 w A0 l0.length l0) (hc0 : l0.length ≤ c0) (hm0 : l0.length ≤ maxLen) (hy0 : l0.length * 24 ≤ 140737488351232) (hw0 : (∀ x ∈ l0, ((Lit.int .i64 x.f0).wf = true ∧ (Lit.int .i64 x.f1).wf = true ∧ (Lit.int .i64 x.f2).wf = true))) (hw1 : (Lit.int .i64 a1).wf = true) (hw2 : (Lit.int .i64 a2).wf = true) :
  Calls Tryd.prog 6 #[.slice A0 l0.length c0, .int .i64 a1, .int .i64 a2] w fun e w' => e = .returned (.bool true) ∧ Below w.heap.size w w' := by
 obtain ⟨k, h⟩ := P l0 a1 a2 hm0 hy0 hw0 hw1 hw2
 refine (postroomlaw11_MarkGoes.calls k A0 c0 l0 a1 a2 true w hr0 hc0 h).mono ?_
 rintro e w' ⟨rfl, hd⟩
 exact ⟨rfl, hd⟩

end Go.Proofs.YtmbigoeldobaiaaDoor.XMrk
