/- What the functions of the translation answer, each as a plain Lean function, and that the code comes to it; for a law: its row. Conditions: none but those that each theorem names. Written by a program of this session (wip/xp). -/
import Derived.Test.YtmbigoeldobaiaaDoorXMrkP1
import Derived.Test.YtmbigoeldobaiaaDoorXMrkP3
import Derived.Test.YtmbigoeldobaiaaDoorXMrkP4
import Derived.Test.YtmbigoeldobaiaaDoorXMrkx12
import Derived.Test.YtmbigoeldobaiaaDoorXMrkx14
import Derived.Test.YtmbigoeldobaiaaDoorXMrkx22
namespace Go.Proofs.YtmbigoeldobaiaaDoor.XMrk
open Go.RowKit Go.Proofs.YtmbigoeldobaiaaDoorW.PrintWords Go.Proofs.YtmbigoeldobaiaaDoorW.PrintLast Go.Proofs.YtmbigoeldobaiaaDoorW.PrintMore
attribute [local go_sem] max2_int min2_int max_two min_two max_three min_three max_four min_four   -- for this text's walks alone
theorem zx24_20 {p : Prop} (h : p := by first | rfl | (simp; done) | (simp [*]; done)) : p := h
theorem zx24_13 {p : Prop} (h : p := by (with_reducible repeat (first | apply Kd.N_alloc | apply Kd.N_drewN | apply Kd.N_drew)); exact bu.out) : p := h
theorem zx24_14 {p : Prop} (h : p := by (with_reducible repeat (first | apply Kd.V_alloc | apply Kd.V_drewN | apply Kd.V_drew)); exact bC.out) : p := h
theorem zx24_19 {p : Prop} (h : p := by (with_reducible repeat (first | apply Kd.V_alloc | apply Kd.V_drewN | apply Kd.V_drew)); exact bD.out) : p := h
theorem zx24_5 {p : Prop} (h : p := by (with_reducible repeat (first | apply Kd.V_alloc | apply Kd.V_drewN | apply Kd.V_drew)); exact bh.out) : p := h
theorem zx24_6 {p : Prop} (h : p := by (with_reducible repeat (first | apply Kd.V_alloc | apply Kd.V_drewN | apply Kd.V_drew)); exact bg.out) : p := h
theorem zx24_1 {p : Prop} (h : p := by (with_reducible repeat (first | refine blk_drewN ?_ _ | refine blk_drew ?_ | refine blk_alloc ?_ _)); exact bd.out) : p := h
theorem zx24_2 {p : Prop} (h : p := by (with_reducible repeat (first | refine blk_drewN ?_ _ | refine blk_drew ?_ | refine blk_alloc ?_ _)); exact be.out) : p := h
theorem zx24_12 {p : Prop} (h : p := by repeat (first | (with_reducible first | exact HB.out | apply below_alloc | apply pw_below_drewN | apply below_drew1) | exact HB.out)) : p := h
theorem zx24_3 {p : Prop} (h : p := by (try simp only [List.map_toArray, List.map_cons, List.map_nil]); first | done | rfl | (simp only [List.length_drop, List.length_take]; rfl)) : p := h
theorem zx24_9 {p : Prop} (h : p := by repeat (first | (with_reducible first | exact HB.out | apply below_alloc | apply pw_below_drewN | apply below_drew1 | refine below_set ?_ bO.out) | exact HB.out)) : p := h
theorem zx24_0 {p : Prop} (h : p := by repeat (first | (with_reducible first | exact HB.out | apply below_alloc | apply pw_below_drewN | apply below_drew1 | refine below_set ?_ bO.out | refine below_set ?_ bR.out) | exact HB.out)) : p := h
theorem zx24_10 {p : Prop} (h : p := by repeat (first | (with_reducible first | exact HB.out | apply below_alloc | apply pw_below_drewN | apply below_drew1 | refine below_set ?_ bO.out | refine below_set ?_ bR.out | refine below_set ?_ bQ.out) | exact HB.out)) : p := h
theorem zx24_15 {p : Prop} (h : p := by (with_reducible repeat (first | apply Kd.V_alloc | apply Kd.V_drewN | apply Kd.V_drew)); exact (Kd.V_mono (Kd.V_far (p := ⟨bc, 2, none⟩) (Kd.V_far (p := ⟨bc, 1, none⟩) (Kd.V_far (p := ⟨bc, 0, none⟩) (Kd.V_mono bC.out (fun k_ hk => (⟨hk, hk.2⟩ : _ ∧ k_ ≠ bc))) (fun _ hk => hk.2) (.int .u64 bm)) (fun _ hk => hk.2) (.int .u64 bn)) (fun _ hk => hk.2) (.slice br bl.length bq)) (fun _ h_ => h_.1))) : p := h
theorem zx24_16 {p : Prop} (h : p := by (with_reducible repeat (first | apply Kd.N_alloc | apply Kd.N_drewN | apply Kd.N_drew)); exact (Kd.N_mono (Kd.N_far (p := ⟨ba, 2, none⟩) (Kd.N_far (p := ⟨ba, 1, none⟩) (Kd.N_far (p := ⟨ba, 0, none⟩) (Kd.N_mono bu.out (fun k_ hk => (⟨hk, hk.2⟩ : _ ∧ k_ ≠ ba))) (fun _ hk => hk.2) (.int .u64 bI)) (fun _ hk => hk.2) (.int .u64 bE)) (fun _ hk => hk.2) (.slice da bH.length b5)) (fun _ h_ => h_.1))) : p := h
theorem zx24_17 {p : Prop} (h : p := by (with_reducible repeat (first | apply Kd.N_alloc | apply Kd.N_drewN | apply Kd.N_drew)); exact (Kd.N_mono (Kd.N_far (p := ⟨ba, 2, none⟩) (Kd.N_far (p := ⟨ba, 1, none⟩) (Kd.N_far (p := ⟨ba, 0, none⟩) (Kd.N_mono bu.out (fun k_ hk => (⟨hk, hk.2⟩ : _ ∧ k_ ≠ ba))) (fun _ hk => hk.2) (.int .u64 bI)) (fun _ hk => hk.2) (.int .u64 bE)) (fun _ hk => hk.2) (.slice dm bH.length df)) (fun _ h_ => h_.1))) : p := h
theorem zx24_18 {p : Prop} (h : p := by (with_reducible repeat (first | apply Kd.N_alloc | apply Kd.N_drewN | apply Kd.N_drew)); exact (Kd.N_mono (Kd.N_far (p := ⟨ba, 2, none⟩) (Kd.N_far (p := ⟨ba, 1, none⟩) (Kd.N_far (p := ⟨ba, 0, none⟩) (Kd.N_mono bu.out (fun k_ hk => (⟨hk, hk.2⟩ : _ ∧ k_ ≠ ba))) (fun _ hk => hk.2) (.int .u64 bI)) (fun _ hk => hk.2) (.int .u64 bE)) (fun _ hk => hk.2) (.slice dl bH.length de)) (fun _ h_ => h_.1))) : p := h
theorem zx24_7 {p : Prop} (h : p := by (iterate 3 ((with_reducible repeat (first | refine blk_drewN ?_ _ | refine blk_drew ?_ | refine blk_alloc ?_ _)); refine blk_far ?_ bx.out _)); (with_reducible repeat (first | refine blk_drewN ?_ _ | refine blk_drew ?_ | refine blk_alloc ?_ _)); exact bd.out) : p := h
theorem zx24_8 {p : Prop} (h : p := by (iterate 3 ((with_reducible repeat (first | refine blk_drewN ?_ _ | refine blk_drew ?_ | refine blk_alloc ?_ _)); refine blk_far ?_ bw.out _)); (with_reducible repeat (first | refine blk_drewN ?_ _ | refine blk_drew ?_ | refine blk_alloc ?_ _)); exact be.out) : p := h
theorem zx24_4 {p : Prop} (h : p := by (with_reducible repeat (first | refine blk_drewN ?_ _ | refine blk_drew ?_ | refine blk_alloc ?_ _)); refine blk_put (cs := #[.int .u64 bI, .int .u64 bE, .slice none 0 0]) ?_ 2 _ rfl; (with_reducible repeat (first | refine blk_drewN ?_ _ | refine blk_drew ?_ | refine blk_alloc ?_ _)); refine blk_put (cs := #[.int .u64 bI, .int .u64 0, .slice none 0 0]) ?_ 1 _ rfl; (with_reducible repeat (first | refine blk_drewN ?_ _ | refine blk_drew ?_ | refine blk_alloc ?_ _)); refine blk_put (cs := #[.int .u64 0, .int .u64 0, .slice none 0 0]) ?_ 0 _ rfl; (with_reducible repeat (first | refine blk_drewN ?_ _ | refine blk_drew ?_ | refine blk_alloc ?_ _)); exact bf.out) : p := h
theorem zx24_11 {p : Prop} (h : p := by (with_reducible repeat (first | refine blk_drewN ?_ _ | refine blk_drew ?_ | refine blk_alloc ?_ _)); refine blk_put (cs := #[.int .u64 bj, .int .u64 bk, .slice none 0 0]) ?_ 2 _ rfl; (with_reducible repeat (first | refine blk_drewN ?_ _ | refine blk_drew ?_ | refine blk_alloc ?_ _)); refine blk_put (cs := #[.int .u64 bj, .int .u64 0, .slice none 0 0]) ?_ 1 _ rfl; (with_reducible repeat (first | refine blk_drewN ?_ _ | refine blk_drew ?_ | refine blk_alloc ?_ _)); refine blk_put (cs := #[.int .u64 0, .int .u64 0, .slice none 0 0]) ?_ 0 _ rfl; (with_reducible repeat (first | refine blk_drewN ?_ _ | refine blk_drew ?_ | refine blk_alloc ?_ _)); exact bd.out) : p := h
set_option linter.unusedVariables false
set_option linter.unusedSimpArgs false

/-! ### postroomlaw11_MarkOne: function 5 -/
mutual
def postroomlaw11_MarkOne.j0 : Nat → ByteArray → List (S75) → List (S75) → Bool → Bool → Option (Bool)
 | 0, _, _, _, _, _ => none
 | k + 1, x0, x1, x2, x7, x35 => if x35 = true then (some x7) else ((postroomlaw11_run.f k x1).bind fun bN => ((postroomlaw11_run.f k x2).bind fun bK => ((mark_Put.f k bN.1 bN.2.1 bN.2.2).bind fun bU => ((mark_Put.f k bK.1 bK.2.1 bK.2.2).bind fun bL => (if bU.2 = 0 then (if bL.2 = 0 then ((postroomlaw11_asLedger.f k bN.1 bN.2.1 bN.2.2).bind fun bG => ((postroomlaw11_asLedger.f k bK.1 bK.2.1 bK.2.2).bind fun bz => ((postroomref11_Same.f k bG.1 bG.2.1 bG.2.2 bz.1 bz.2.1 bz.2.2).bind fun bP => (postroomlaw11_MarkOne.j1 k x0 ((bU.1.toList == bL.1.toList) != bP))))) else (postroomlaw11_MarkOne.j1 k x0 true)) else (postroomlaw11_MarkOne.j1 k x0 true))))))
def postroomlaw11_MarkOne.j1 : Nat → ByteArray → Bool → Option (Bool)
 | 0, _, _ => none
 | k + 1, x0, x67 => if x67 = true then (some false) else ((mark_Take.f k x0).bind fun bJ => (if bJ.2.2.2 = 0 then ((mark_Put.f k bJ.1 bJ.2.1 bJ.2.2.1).bind fun bW => (if bW.2 = 0 then (if bW.1.toList = x0.toList then ((ledger_Right.f k bJ.1 bJ.2.1 bJ.2.2.1).bind fun bY => (some bY)) else (some false)) else (some false))) else (if bJ.2.2.2 = 2 then (if bJ.2.1 = 0 then (some ((bJ.2.2.1.length : Int) == 0)) else (some false)) else (some false))))
end
def postroomlaw11_MarkOne.f (k : Nat) (a0 : ByteArray) (l1 : List (S75)) (l2 : List (S75)) : Option (Bool) := (postroomlaw11_shown.f k).bind fun bM => (if bM = true then (if (a0.size : Int) > 2000 then (postroomlaw11_MarkOne.j0 k a0 l1 l2 bM true) else (if (l1.length : Int) > 60 then (postroomlaw11_MarkOne.j0 k a0 l1 l2 bM true) else (postroomlaw11_MarkOne.j0 k a0 l1 l2 bM (decide ((l2.length : Int) > 60))))) else (postroomlaw11_MarkOne.j0 k a0 l1 l2 bM true))
def postroomlaw11_MarkOne.T8 : Bool × List (List Nat × List Nat) := (true, [([], []), ([0], [0]), ([1], [1]), ([2], [2]), ([3, 2], [2, 3]), ([2, 4], [2, 4]), ([5, 2], [5]), ([6], [6]), ([6], [6]), ([7, 8, 6], [6, 7, 8]), ([6], [6]), ([10, 6, 6], [6, 10]), ([6], [6]), ([12, 11, 6], [6, 12]), ([11, 13, 13, 6], [6, 11, 13]), ([9, 14, 6], [6, 9, 14]), ([6, 15], [6, 15])])
def postroomlaw11_MarkOne.B8 : List Nat := [0, 1, 3, 7, 15, 31, 63, 127, 127, 511, 127, 1151, 127, 7295, 15487, 32767, 65535]
theorem postroomlaw11_MarkOne.tab8 : rtab .any (opsOf Tryd.f5 8) = postroomlaw11_MarkOne.T8 := by kernel_rfl
theorem postroomlaw11_MarkOne.bits8 : waitsOk postroomlaw11_MarkOne.T8.2 postroomlaw11_MarkOne.B8 = true := by kernel_rfl
set_option maxHeartbeats 8000000 in
set_option maxRecDepth 100000 in
theorem postroomlaw11_MarkOne.calls (k : Nat) (a0 : ByteArray) (A1 : Option Addr) (c1 : Nat) (l1 : List (S75)) (A2 : Option Addr) (c2 : Nat) (l2 : List (S75)) (r : Bool) (w : World) (hr1 : Kd.C k75 w A1 l1.length l1) (hc1 : l1.length ≤ c1) (hr2 : Kd.C k75 w A2 l2.length l2) (hc2 : l2.length ≤ c2) (h : postroomlaw11_MarkOne.f k a0 l1 l2 = some r) :
  Calls Tryd.prog 5 #[.string a0, .slice A1 l1.length c1, .slice A2 l2.length c2] w fun e w' => e = .returned (.bool r) ∧ Below w.heap.size w w' := by
 have ja := Tryd.underlying25
 have HR1 := Aside0.mk hr1
 have HC1 := Aside0.mk hc1
 clear hr1 hc1
 have HR2 := Aside0.mk hr2
 have HC2 := Aside0.mk hc2
 clear hr2 hc2
 have HB := Aside0.mk (Below.refl w.heap.size w)
 have H : ((postroomlaw11_shown.f k).bind fun bM => (if bM = true then (if (a0.size : Int) > 2000 then (postroomlaw11_MarkOne.j0 k a0 l1 l2 bM true) else (if (l1.length : Int) > 60 then (postroomlaw11_MarkOne.j0 k a0 l1 l2 bM true) else (postroomlaw11_MarkOne.j0 k a0 l1 l2 bM (decide ((l2.length : Int) > 60))))) else (postroomlaw11_MarkOne.j0 k a0 l1 l2 bM true))) = some r := h
 clear h
 replace H := Option.bind_eq_some_iff.mp H
 obtain ⟨bM, A40, H⟩ := H
 replace H : (if bM = true then (if (a0.size : Int) > 2000 then (postroomlaw11_MarkOne.j0 k a0 l1 l2 bM true) else (if (l1.length : Int) > 60 then (postroomlaw11_MarkOne.j0 k a0 l1 l2 bM true) else (postroomlaw11_MarkOne.j0 k a0 l1 l2 bM (decide ((l2.length : Int) > 60))))) else (postroomlaw11_MarkOne.j0 k a0 l1 l2 bM true)) = some r := H
 have A4 := Aside0.mk A40
 clear A40
 have HC5 := Aside0.mk H
 clear H
 go_enter Tryd.func5, Tryd.ntmps5
 go_upto_region 2 with (first | ((with_reducible refine gate_callee (f := 8) rfl ?_); refine goesL_ (some 18) rfl rfl Tryd.func8 (by kernel_rfl) rfl #[] rfl zx24_3 ?_; (with_reducible refine (postroomlaw11_shown.calls k  bM _ A4.out).mono ?_); rintro e w6 ⟨rfl, hb⟩; refine ⟨_, rfl, ?_⟩; replace HB := Aside0.mk (below_step zx24_12 hb); (try clear hb); (try clear hb2); (try clear hk); (try clear hi)))
 (try simp only [Act.put, List.setIfInBounds_toArray, List.set_cons_zero, List.set_cons_succ])
 go_cut [35] (fun v35 wc => ∃ (kq : Nat) (db : Bool), v35 = .bool db ∧ Aside0 (postroomlaw11_MarkOne.j0 kq a0 l1 l2 bM db = some r) ∧ Aside0 (kq ≤ k) ∧ Aside0 (Below w.heap.size w wc))
 case first =>
  have H := HC5.out
  clear HC5
  by_cases c7 : bM = true
  case neg =>
   replace c7 := Bool.eq_false_iff.mpr c7
   subst c7
   have H1 : (postroomlaw11_MarkOne.j0 k a0 l1 l2 false true) = some r := by rw [if_neg (show ¬ (false = true) by decide)] at H; exact H
   clear H
   have H := H1
   clear H1
   have H' := Aside0.mk H
   clear H
   go_wp2
   go_meet
   case rel => exact ⟨_, (true), zx24_20, H', ⟨by first | omega | exact Nat.le_refl _⟩, ⟨by repeat (first | (with_reducible first | exact HB.out | apply below_alloc | apply pw_below_drewN | apply below_drew1) | exact HB.out)⟩⟩
  subst c7
  have H1 : (if (a0.size : Int) > 2000 then (postroomlaw11_MarkOne.j0 k a0 l1 l2 true true) else (if (l1.length : Int) > 60 then (postroomlaw11_MarkOne.j0 k a0 l1 l2 true true) else (postroomlaw11_MarkOne.j0 k a0 l1 l2 true (decide ((l2.length : Int) > 60))))) = some r := by rw [if_pos rfl] at H; exact H
  clear H
  have H := H1
  clear H1
  by_cases c8 : (a0.size : Int) > 2000
  ·rw [if_pos c8] at H
   have b9 : decide (2000 < (a0.size : Int)) = true := decide_eq_true c8
   have dV : decide (2000 < a0.size) = true := decide_eq_true (by omega)
   clear c8
   (first | rw [b9] | (simp only [i64_w, i32_w]; rw [b9]) | skip)
   have H' := Aside0.mk H
   clear H
   go_wp2
   go_meet
   case rel => exact ⟨_, (true), zx24_20, H', ⟨by first | omega | exact Nat.le_refl _⟩, ⟨by repeat (first | (with_reducible first | exact HB.out | apply below_alloc | apply pw_below_drewN | apply below_drew1) | exact HB.out)⟩⟩
  rw [if_neg c8] at H
  have b9 : decide (2000 < (a0.size : Int)) = false := decide_eq_false c8
  have dV : decide (2000 < a0.size) = false := decide_eq_false (by omega)
  clear c8
  (first | rw [b9] | (simp only [i64_w, i32_w]; rw [b9]) | skip)
  by_cases c9 : (l1.length : Int) > 60
  ·rw [if_pos c9] at H
   have dU : decide (60 < (l1.length : Int)) = true := decide_eq_true c9
   have dT : decide (60 < l1.length) = true := decide_eq_true (by omega)
   clear c9
   have H' := Aside0.mk H
   clear H
   go_wp2
   go_meet
   case rel => exact ⟨_, (true), zx24_20, H', ⟨by first | omega | exact Nat.le_refl _⟩, ⟨by repeat (first | (with_reducible first | exact HB.out | apply below_alloc | apply pw_below_drewN | apply below_drew1) | exact HB.out)⟩⟩
  rw [if_neg c9] at H
  have dU : decide (60 < (l1.length : Int)) = false := decide_eq_false c9
  have dT : decide (60 < l1.length) = false := decide_eq_false (by omega)
  clear c9
  have H' := Aside0.mk H
  clear H
  go_wp2
  go_meet
  case rel => exact ⟨_, (decide ((l2.length : Int) > 60)), zx24_20, H', ⟨by first | omega | exact Nat.le_refl _⟩, ⟨by repeat (first | (with_reducible first | exact HB.out | apply below_alloc | apply pw_below_drewN | apply below_drew1) | exact HB.out)⟩⟩
 case rest =>
  clear HC5
  (try clear c1); (try clear c2); (try clear p2); (try clear c5); (try clear c7); (try clear c8); (try clear b9); (try clear dV); (try clear c9); (try clear dU); (try clear dT)
  obtain ⟨kq, db, rfl, HA, HJ4, HB⟩ := hcut
  cases kq with
  | zero => exact absurd HA.out (by simp [postroomlaw11_MarkOne.j0])
  | succ kj4 => ?_
  have H := HA.out
  clear HA
  simp only [postroomlaw11_MarkOne.j0] at H
  by_cases c10 : db = true
  ·subst c10
   have H1 : (some bM) = some r := by rw [if_pos rfl] at H; exact H
   clear H
   have H := H1
   clear H1
   obtain rfl := Option.some.inj H
   go_wp2
   go_ret
   exact ⟨by first | rfl | (simp [errW_none, errW_some] <;> rfl) | (simp [*, errW_none, errW_some] <;> rfl), by repeat (first | (with_reducible first | exact HB.out | apply below_alloc | apply pw_below_drewN | apply below_drew1) | exact HB.out)⟩
  replace c10 := Bool.eq_false_iff.mpr c10
  subst c10
  have H1 : ((postroomlaw11_run.f kj4 l1).bind fun bN => ((postroomlaw11_run.f kj4 l2).bind fun bK => ((mark_Put.f kj4 bN.1 bN.2.1 bN.2.2).bind fun bU => ((mark_Put.f kj4 bK.1 bK.2.1 bK.2.2).bind fun bL => (if bU.2 = 0 then (if bL.2 = 0 then ((postroomlaw11_asLedger.f kj4 bN.1 bN.2.1 bN.2.2).bind fun bG => ((postroomlaw11_asLedger.f kj4 bK.1 bK.2.1 bK.2.2).bind fun bz => ((postroomref11_Same.f kj4 bG.1 bG.2.1 bG.2.2 bz.1 bz.2.1 bz.2.2).bind fun bP => (postroomlaw11_MarkOne.j1 kj4 a0 ((bU.1.toList == bL.1.toList) != bP))))) else (postroomlaw11_MarkOne.j1 kj4 a0 true)) else (postroomlaw11_MarkOne.j1 kj4 a0 true)))))) = some r := by rw [if_neg (show ¬ (false = true) by decide)] at H; exact H
  clear H
  have H := H1
  clear H1
  replace H := Option.bind_eq_some_iff.mp H
  obtain ⟨⟨bj, bk, bi⟩, gl, H⟩ := H
  replace H : ((postroomlaw11_run.f kj4 l2).bind fun bK => ((mark_Put.f kj4 bj bk bi).bind fun bU => ((mark_Put.f kj4 bK.1 bK.2.1 bK.2.2).bind fun bL => (if bU.2 = 0 then (if bL.2 = 0 then ((postroomlaw11_asLedger.f kj4 bj bk bi).bind fun bG => ((postroomlaw11_asLedger.f kj4 bK.1 bK.2.1 bK.2.2).bind fun bz => ((postroomref11_Same.f kj4 bG.1 bG.2.1 bG.2.2 bz.1 bz.2.1 bz.2.2).bind fun bP => (postroomlaw11_MarkOne.j1 kj4 a0 ((bU.1.toList == bL.1.toList) != bP))))) else (postroomlaw11_MarkOne.j1 kj4 a0 true)) else (postroomlaw11_MarkOne.j1 kj4 a0 true))))) = some r := H
  have A11 := Aside0.mk gl
  clear gl
  replace H := Option.bind_eq_some_iff.mp H
  obtain ⟨⟨bm, bn, bl⟩, gk, H⟩ := H
  replace H : ((mark_Put.f kj4 bj bk bi).bind fun bU => ((mark_Put.f kj4 bm bn bl).bind fun bL => (if bU.2 = 0 then (if bL.2 = 0 then ((postroomlaw11_asLedger.f kj4 bj bk bi).bind fun bG => ((postroomlaw11_asLedger.f kj4 bm bn bl).bind fun bz => ((postroomref11_Same.f kj4 bG.1 bG.2.1 bG.2.2 bz.1 bz.2.1 bz.2.2).bind fun bP => (postroomlaw11_MarkOne.j1 kj4 a0 ((bU.1.toList == bL.1.toList) != bP))))) else (postroomlaw11_MarkOne.j1 kj4 a0 true)) else (postroomlaw11_MarkOne.j1 kj4 a0 true)))) = some r := H
  have A12 := Aside0.mk gk
  clear gk
  replace H := Option.bind_eq_some_iff.mp H
  obtain ⟨⟨b8, b4⟩, gj, H⟩ := H
  replace H : ((mark_Put.f kj4 bm bn bl).bind fun bL => (if b4 = 0 then (if bL.2 = 0 then ((postroomlaw11_asLedger.f kj4 bj bk bi).bind fun bG => ((postroomlaw11_asLedger.f kj4 bm bn bl).bind fun bz => ((postroomref11_Same.f kj4 bG.1 bG.2.1 bG.2.2 bz.1 bz.2.1 bz.2.2).bind fun bP => (postroomlaw11_MarkOne.j1 kj4 a0 ((b8.toList == bL.1.toList) != bP))))) else (postroomlaw11_MarkOne.j1 kj4 a0 true)) else (postroomlaw11_MarkOne.j1 kj4 a0 true))) = some r := H
  have A13 := Aside0.mk gj
  clear gj
  replace H := Option.bind_eq_some_iff.mp H
  obtain ⟨⟨dd, b7⟩, gi, H⟩ := H
  replace H : (if b4 = 0 then (if b7 = 0 then ((postroomlaw11_asLedger.f kj4 bj bk bi).bind fun bG => ((postroomlaw11_asLedger.f kj4 bm bn bl).bind fun bz => ((postroomref11_Same.f kj4 bG.1 bG.2.1 bG.2.2 bz.1 bz.2.1 bz.2.2).bind fun bP => (postroomlaw11_MarkOne.j1 kj4 a0 ((b8.toList == dd.toList) != bP))))) else (postroomlaw11_MarkOne.j1 kj4 a0 true)) else (postroomlaw11_MarkOne.j1 kj4 a0 true)) = some r := H
  have A14 := Aside0.mk gi
  clear gi
  have dW := Aside0.mk H
  clear H
  go_upto_region 8 with (first | ((with_reducible refine gate_callee (f := 18) rfl ?_); refine goesL_ (some 38) rfl rfl Tryd.func18 (by kernel_rfl) rfl #[.slice A1 l1.length c1] rfl zx24_3 ?_; (with_reducible refine (postroomlaw11_run.calls kj4 _ _ l1 bj bk bi _ ?side1 ?side2 A11.out).mono ?_); (case side1 => repeat (first | exact (Kd.C_below HR1.out HB.out) | (with_reducible refine Kd.C_alloc ?_ _) | (with_reducible refine Kd.C_drewN ?_ _) | (with_reducible refine Kd.C_drew ?_))); (case side2 => exact HC1.out); rintro e w16 ⟨hZ, rfl, ho0, hb⟩; refine ⟨_, rfl, ?_⟩; have bC := Aside0.mk (Kd.V_lower (Kd.V_mono (ok' := fun k_ => True) ho0 (fun k_ hk_ => trivial)) (below_size zx24_12)); replace HB := Aside0.mk (below_step zx24_12 hb); (try clear hb); (try clear hb2); (try clear hk); (try clear hi); (try clear ho0)) | ((with_reducible refine gate_dst (N := 8) rfl ?_); (try (refine gate_guard (by rfl) ?_; dsimp only)); refine box_event ?hg (N := 8) ?hd (cs := #[.int .u64 0, .int .u64 0, .slice none 0 0]) (t := 25) ?hr ?_; (case hd => rfl); (case hg => rfl); (case hr => first | (go_simp; done) | (go_simp; rfl)); intro bb hg w17 hbox hb; replace bC := Aside0.mk (Kd.V_below (Kd.V_elderB zx24_14 bb (Nat.le_of_eq hg.symm)) hb); have bd := Aside0.mk (hbox); have hW := Aside0.mk ((by rw [hg]; exact (below_size zx24_12) : w.heap.size ≤ bb)); have bO := Aside0.mk ((by rw [hg]; exact (below_size zx24_12) : w.heap.size ≤ bb)); replace HB := Aside0.mk (below_step zx24_12 hb); clear hb hbox hg; have dP : w17.cell? ⟨bb, 0, none⟩ = some (.int .u64 0) := (blk_cell bd.out 0).trans rfl; have dO : w17.cell? ⟨bb, 1, none⟩ = some (.int .u64 0) := (blk_cell bd.out 1).trans rfl; have dN : w17.cell? ⟨bb, 2, none⟩ = some (.slice none 0 0) := (blk_cell bd.out 2).trans rfl; have dD := blk_frozen bd.out 0; have dC := blk_frozen bd.out 1; have dB := blk_frozen bd.out 2; obtain ⟨bp, bo, ho⟩ := Kd.V_slice bC.out; subst ho) | ((with_reducible refine gate_callee (f := 18) rfl ?_); refine goesL_ (some 40) rfl rfl Tryd.func18 (by kernel_rfl) rfl #[.slice A2 l2.length c2] rfl zx24_3 ?_; (with_reducible refine (postroomlaw11_run.calls kj4 _ _ l2 bm bn bl _ ?side1 ?side2 A12.out).mono ?_); (case side1 => exact Kd.C_below HR2.out zx24_9); (case side2 => exact HC2.out); rintro e w20 ⟨hY, rfl, ho0, hb⟩; refine ⟨_, rfl, ?_⟩; replace bC := Aside0.mk (Kd.V_below (by (with_reducible repeat (first | apply Kd.V_alloc | apply Kd.V_drewN | apply Kd.V_drew)); exact (Kd.V_mono (Kd.V_far (p := ⟨bb, 2, none⟩) (Kd.V_far (p := ⟨bb, 1, none⟩) (Kd.V_far (p := ⟨bb, 0, none⟩) (Kd.V_mono bC.out (fun k_ hk => (⟨hk, hk.2⟩ : _ ∧ k_ ≠ bb))) (fun _ hk => hk.2) (.int .u64 bj)) (fun _ hk => hk.2) (.int .u64 bk)) (fun _ hk => hk.2) (.slice bp bi.length bo)) (fun _ h_ => h_.1))) hb); have bD := Aside0.mk (Kd.V_lower (Kd.V_mono (ok' := fun k_ => k_ ≠ bb) ho0 (fun k_ hk_ => (Kd.freshB (g := bb) (o := .cells #[.int .u64 bj, .int .u64 bk, .slice bp bi.length bo] 25 (0, 0)) zx24_11 k_ hk_))) (below_size zx24_9)); replace bd := Aside0.mk (blk_below (g := bb) (o := .cells #[.int .u64 bj, .int .u64 bk, .slice bp bi.length bo] 25 (0, 0)) zx24_11 hb); replace HB := Aside0.mk (below_step zx24_9 hb); (try clear hb); (try clear hb2); (try clear hk); (try clear hi); (try clear ho0)) | ((with_reducible refine gate_dst (N := 9) rfl ?_); (try (refine gate_guard (by rfl) ?_; dsimp only)); refine box_event ?hg (N := 9) ?hd (cs := #[.int .u64 0, .int .u64 0, .slice none 0 0]) (t := 25) ?hr ?_; (case hd => rfl); (case hg => rfl); (case hr => first | (go_simp; done) | (go_simp; rfl)); intro bc hg w21 hbox hb; replace bC := Aside0.mk (Kd.V_below (Kd.V_elderB zx24_14 bc (Nat.le_of_eq hg.symm)) hb); replace bD := Aside0.mk (Kd.V_below (Kd.V_elderB zx24_19 bc (Nat.le_of_eq hg.symm)) hb); have be := Aside0.mk (hbox); have hV := Aside0.mk ((by rw [hg]; exact (below_size zx24_9) : w.heap.size ≤ bc)); have bR := Aside0.mk ((by rw [hg]; exact (below_size zx24_9) : w.heap.size ≤ bc)); replace HB := Aside0.mk (below_step zx24_9 hb); have b0 := Aside0.mk ((by rw [hg]; exact Nat.ne_of_lt (blk_lt (g := bb) (o := .cells #[.int .u64 bj, .int .u64 bk, .slice bp bi.length bo] 25 (0, 0)) zx24_1) : bb ≠ bc)); have dg := Aside0.mk ((by rw [hg]; exact Nat.ne_of_gt (blk_lt (g := bb) (o := .cells #[.int .u64 bj, .int .u64 bk, .slice bp bi.length bo] 25 (0, 0)) zx24_1) : bc ≠ bb)); replace bd := Aside0.mk (blk_below (g := bb) (o := .cells #[.int .u64 bj, .int .u64 bk, .slice bp bi.length bo] 25 (0, 0)) zx24_1 hb); clear hb hbox hg; have hU := dg.out; have hG := b0.out; have dM : w21.cell? ⟨bc, 0, none⟩ = some (.int .u64 0) := (blk_cell be.out 0).trans rfl; have dL : w21.cell? ⟨bc, 1, none⟩ = some (.int .u64 0) := (blk_cell be.out 1).trans rfl; have dK : w21.cell? ⟨bc, 2, none⟩ = some (.slice none 0 0) := (blk_cell be.out 2).trans rfl; have dA := blk_frozen be.out 0; have dz := blk_frozen be.out 1; have dy := blk_frozen be.out 2; obtain ⟨br, bq, hn⟩ := Kd.V_slice bD.out; subst hn; have dJ : w21.cell? ⟨bb, 0, none⟩ = some (.int .u64 bj) := (blk_cell bd.out 0).trans rfl; have dI : w21.cell? ⟨bb, 1, none⟩ = some (.int .u64 bk) := (blk_cell bd.out 1).trans rfl; have dH : w21.cell? ⟨bb, 2, none⟩ = some (.slice bp bi.length bo) := (blk_cell bd.out 2).trans rfl; have dx := blk_frozen bd.out 0; have dw := blk_frozen bd.out 1; have dv := blk_frozen bd.out 2) | ((with_reducible refine gate_callee (f := 11) rfl ?_); refine goesL_ (some 43) rfl rfl Tryd.func11 (by kernel_rfl) rfl #[.agg #[.int .u64 bj, .int .u64 bk, .slice bp bi.length bo]] rfl zx24_3 ?_; (with_reducible refine (mark_Put.calls kj4 bj bk _ _ bi b8 b4 _ ?side1 ?side2 A13.out).mono ?_); (case side1 => refine (Kd.V_reads' (e := 55) (base := w.heap.size) (ok := fun k_ => ((True ∧ k_ ≠ bb) ∧ k_ ≠ bc)) (n := bi.length) (c := bo) ?_).2.2; exact zx24_15); (case side2 => exact (Kd.V_reads' bC.out).2.1); rintro e w26 ⟨rfl, hb⟩; refine ⟨_, rfl, ?_⟩; replace bC := Aside0.mk (Kd.V_below zx24_15 hb); replace bD := Aside0.mk (Kd.V_below (by (with_reducible repeat (first | apply Kd.V_alloc | apply Kd.V_drewN | apply Kd.V_drew)); exact (Kd.V_mono (Kd.V_far (p := ⟨bc, 2, none⟩) (Kd.V_far (p := ⟨bc, 1, none⟩) (Kd.V_far (p := ⟨bc, 0, none⟩) (Kd.V_mono bD.out (fun k_ hk => (⟨hk, hk.2⟩ : _ ∧ k_ ≠ bc))) (fun _ hk => hk.2) (.int .u64 bm)) (fun _ hk => hk.2) (.int .u64 bn)) (fun _ hk => hk.2) (.slice br bl.length bq)) (fun _ h_ => h_.1))) hb); replace bd := Aside0.mk (blk_below (g := bb) (o := .cells #[.int .u64 bj, .int .u64 bk, .slice bp bi.length bo] 25 (0, 0)) (by (iterate 3 ((with_reducible repeat (first | refine blk_drewN ?_ _ | refine blk_drew ?_ | refine blk_alloc ?_ _)); refine blk_far ?_ b0.out _)); (with_reducible repeat (first | refine blk_drewN ?_ _ | refine blk_drew ?_ | refine blk_alloc ?_ _)); exact bd.out) hb); replace be := Aside0.mk (blk_below (g := bc) (o := .cells #[.int .u64 bm, .int .u64 bn, .slice br bl.length bq] 25 (0, 0)) (by (with_reducible repeat (first | refine blk_drewN ?_ _ | refine blk_drew ?_ | refine blk_alloc ?_ _)); refine blk_put (cs := #[.int .u64 bm, .int .u64 bn, .slice none 0 0]) ?_ 2 _ rfl; (with_reducible repeat (first | refine blk_drewN ?_ _ | refine blk_drew ?_ | refine blk_alloc ?_ _)); refine blk_put (cs := #[.int .u64 bm, .int .u64 0, .slice none 0 0]) ?_ 1 _ rfl; (with_reducible repeat (first | refine blk_drewN ?_ _ | refine blk_drew ?_ | refine blk_alloc ?_ _)); refine blk_put (cs := #[.int .u64 0, .int .u64 0, .slice none 0 0]) ?_ 0 _ rfl; (with_reducible repeat (first | refine blk_drewN ?_ _ | refine blk_drew ?_ | refine blk_alloc ?_ _)); exact be.out) hb); replace HB := Aside0.mk (below_step zx24_0 hb); (try clear hb); (try clear hb2); (try clear hk); (try clear hi); have dG : w26.cell? ⟨bc, 0, none⟩ = some (.int .u64 bm) := (blk_cell be.out 0).trans rfl; have dF : w26.cell? ⟨bc, 1, none⟩ = some (.int .u64 bn) := (blk_cell be.out 1).trans rfl; have dE : w26.cell? ⟨bc, 2, none⟩ = some (.slice br bl.length bq) := (blk_cell be.out 2).trans rfl; have du := blk_frozen be.out 0; have dt := blk_frozen be.out 1; have dr := blk_frozen be.out 2) | ((with_reducible refine gate_callee (f := 11) rfl ?_); refine goesL_ (some 48) rfl rfl Tryd.func11 (by kernel_rfl) rfl #[.agg #[.int .u64 bm, .int .u64 bn, .slice br bl.length bq]] rfl zx24_3 ?_; (with_reducible refine (mark_Put.calls kj4 bm bn _ _ bl dd b7 _ ?side1 ?side2 A14.out).mono ?_); (case side1 => repeat (first | exact (Kd.V_reads' bD.out).2.2 | (with_reducible refine Kd.C_alloc ?_ _) | (with_reducible refine Kd.C_drewN ?_ _) | (with_reducible refine Kd.C_drew ?_))); (case side2 => exact (Kd.V_reads' bD.out).2.1); rintro e w28 ⟨rfl, hb⟩; refine ⟨_, rfl, ?_⟩; replace bC := Aside0.mk (Kd.V_below zx24_14 hb); replace bD := Aside0.mk (Kd.V_below zx24_19 hb); replace bd := Aside0.mk (blk_below (g := bb) (o := .cells #[.int .u64 bj, .int .u64 bk, .slice bp bi.length bo] 25 (0, 0)) zx24_1 hb); replace be := Aside0.mk (blk_below (g := bc) (o := .cells #[.int .u64 bm, .int .u64 bn, .slice br bl.length bq] 25 (0, 0)) zx24_2 hb); replace HB := Aside0.mk (below_step zx24_0 hb); (try clear hb); (try clear hb2); (try clear hk); (try clear hi)))
  (try simp only [Act.put, List.setIfInBounds_toArray, List.set_cons_zero, List.set_cons_succ])
  go_cut [67] (fun v67 wc => ∃ (kq : Nat) (b1 : Bool), v67 = .bool b1 ∧ Aside0 (postroomlaw11_MarkOne.j1 kq a0 b1 = some r) ∧ Aside0 (kq ≤ kj4) ∧ Aside0 (Kd.V k55 55 wc w.heap.size (fun k_ => k_ ≠ bb ∧ k_ ≠ bc) (.slice bp bi.length bo) bi) ∧ Aside0 (Kd.V k55 55 wc w.heap.size (fun k_ => k_ ≠ bb ∧ k_ ≠ bc) (.slice br bl.length bq) bl) ∧ Aside0 (wc.heap[bb]? = some (.cells #[.int .u64 bj, .int .u64 bk, (.slice bp bi.length bo)] 25 (0, 0))) ∧ Aside0 (wc.heap[bc]? = some (.cells #[.int .u64 bm, .int .u64 bn, (.slice br bl.length bq)] 25 (0, 0))) ∧ Aside0 (Below w.heap.size w wc))
  case first =>
   have H := dW.out
   clear dW
   by_cases c29 : b4 = 0
   case neg =>
    rw [if_neg c29] at H
    have bZ : (b4 == 0) = false := beq_eq_false_iff_ne.mpr c29
    have dS : (b4 != 0) = true := bne_iff_ne.mpr c29
    (first | rw [bZ] | (simp only [i64_w, i32_w]; rw [bZ]) | skip)
    have H' := Aside0.mk H
    clear H
    try go_wp2
    replace bC := Aside0.mk (Kd.V_drew bC.out)
    replace bD := Aside0.mk (Kd.V_drew bD.out)
    replace bd := Aside0.mk (blk_drew bd.out)
    replace be := Aside0.mk (blk_drew be.out)
    replace HB := Aside0.mk (below_drew1 HB.out)
    refine start_ (n := 17) (S := fun w' => True) (ds := []) #[Ff,Ff,Ff,Ff,Ff,Ff,Ff,Ff,Ff,Ff,Ff,Ff,Ff,Ff,Ff,Ff,Ff] (by kernel_rfl) rfl rfl trivial (fun hHeld => ?_); refine with_tabW postroomlaw11_MarkOne.tab8 postroomlaw11_MarkOne.bits8 (fun HT_ HW_ => ?_)
    generalize w28.drew = w41 at bC bD bd be HB hHeld ⊢
    refine pp_ 0 (some 51) HT_.out ?_
    refine pp_ 1 (some 52) HT_.out ?_
    refine pp_ 2 (some 53) HT_.out ?_
    refine pu_ 3 (some 54) HT_.out ?_
    refine pu_ 4 (some 55) HT_.out ?_
    refine pp_ 5 (some 56) HT_.out ?_
    refine pp_ 6 (some 57) HT_.out ?_
    refine pu_ 7 (some 58) HT_.out ?_
    refine pu_ 8 (some 59) HT_.out ?_
    refine pu_ 9 (some 60) HT_.out ?_
    refine pu_ 10 (some 61) HT_.out ?_
    refine pu_ 11 (some 62) HT_.out ?_
    refine pu_ 12 (some 63) HT_.out ?_
    refine pu_ 13 (some 64) HT_.out ?_
    refine pu_ 14 (some 65) HT_.out ?_
    refine pu_ 15 (some 66) HT_.out ?_
    refine pp_ 16 (some 67) HT_.out ?_
    refine done_ (done_of HT_.out (by kernel_rfl)) ?_
    try go_wp2
    go_meet
    case rel => exact ⟨_, (true), zx24_20, H', ⟨by have := HJ4.out; first | omega | exact Nat.le_refl _⟩, ⟨by (with_reducible repeat (first | apply Kd.V_alloc | apply Kd.V_drewN | apply Kd.V_drew)); exact Kd.V_mono bC.out (fun _ hk => ⟨hk.1.2, hk.2⟩)⟩, ⟨by (with_reducible repeat (first | apply Kd.V_alloc | apply Kd.V_drewN | apply Kd.V_drew)); exact bD.out⟩, ⟨by (with_reducible repeat (first | refine blk_drewN ?_ _ | refine blk_drew ?_ | refine blk_alloc ?_ _)); exact bd.out⟩, ⟨by (with_reducible repeat (first | refine blk_drewN ?_ _ | refine blk_drew ?_ | refine blk_alloc ?_ _)); exact be.out⟩, ⟨by repeat (first | (with_reducible first | exact HB.out | apply below_alloc | apply pw_below_drewN | apply below_drew1 | refine below_set ?_ bO.out | refine below_set ?_ bR.out) | exact HB.out)⟩⟩
   rw [if_pos c29] at H
   have bZ : (b4 == 0) = true := beq_iff_eq.mpr c29
   have dS : (b4 != 0) = false := bne_eq_false_iff_eq.mpr c29
   clear c29
   (first | rw [bZ] | (simp only [i64_w, i32_w]; rw [bZ]) | skip)
   by_cases c30 : b7 = 0
   case neg =>
    rw [if_neg c30] at H
    have dR : (b7 == 0) = false := beq_eq_false_iff_ne.mpr c30
    have dQ : (b7 != 0) = true := bne_iff_ne.mpr c30
    have H' := Aside0.mk H
    clear H
    try go_wp2
    replace bC := Aside0.mk (Kd.V_drew bC.out)
    replace bD := Aside0.mk (Kd.V_drew bD.out)
    replace bd := Aside0.mk (blk_drew bd.out)
    replace be := Aside0.mk (blk_drew be.out)
    replace HB := Aside0.mk (below_drew1 HB.out)
    refine start_ (n := 17) (S := fun w' => True) (ds := []) #[Ff,Ff,Ff,Ff,Ff,Ff,Ff,Ff,Ff,Ff,Ff,Ff,Ff,Ff,Ff,Ff,Ff] (by kernel_rfl) rfl rfl trivial (fun hHeld => ?_); refine with_tabW postroomlaw11_MarkOne.tab8 postroomlaw11_MarkOne.bits8 (fun HT_ HW_ => ?_)
    generalize w28.drew = w40 at bC bD bd be HB hHeld ⊢
    refine pp_ 0 (some 51) HT_.out ?_
    refine pp_ 1 (some 52) HT_.out ?_
    refine pp_ 2 (some 53) HT_.out ?_
    refine pp_ 3 (some 54) HT_.out ?_
    refine pp_ 4 (some 55) HT_.out ?_
    refine pp_ 5 (some 56) HT_.out ?_
    refine pp_ 6 (some 57) HT_.out ?_
    refine pu_ 7 (some 58) HT_.out ?_
    refine pu_ 8 (some 59) HT_.out ?_
    refine pu_ 9 (some 60) HT_.out ?_
    refine pu_ 10 (some 61) HT_.out ?_
    refine pu_ 11 (some 62) HT_.out ?_
    refine pu_ 12 (some 63) HT_.out ?_
    refine pu_ 13 (some 64) HT_.out ?_
    refine pu_ 14 (some 65) HT_.out ?_
    refine pu_ 15 (some 66) HT_.out ?_
    refine pp_ 16 (some 67) HT_.out ?_
    refine done_ (done_of HT_.out (by kernel_rfl)) ?_
    try go_wp2
    go_meet
    case rel => exact ⟨_, (true), zx24_20, H', ⟨by have := HJ4.out; first | omega | exact Nat.le_refl _⟩, ⟨by (with_reducible repeat (first | apply Kd.V_alloc | apply Kd.V_drewN | apply Kd.V_drew)); exact Kd.V_mono bC.out (fun _ hk => ⟨hk.1.2, hk.2⟩)⟩, ⟨by (with_reducible repeat (first | apply Kd.V_alloc | apply Kd.V_drewN | apply Kd.V_drew)); exact bD.out⟩, ⟨by (with_reducible repeat (first | refine blk_drewN ?_ _ | refine blk_drew ?_ | refine blk_alloc ?_ _)); exact bd.out⟩, ⟨by (with_reducible repeat (first | refine blk_drewN ?_ _ | refine blk_drew ?_ | refine blk_alloc ?_ _)); exact be.out⟩, ⟨by repeat (first | (with_reducible first | exact HB.out | apply below_alloc | apply pw_below_drewN | apply below_drew1 | refine below_set ?_ bO.out | refine below_set ?_ bR.out) | exact HB.out)⟩⟩
   rw [if_pos c30] at H
   have dR : (b7 == 0) = true := beq_iff_eq.mpr c30
   have dQ : (b7 != 0) = false := bne_eq_false_iff_eq.mpr c30
   clear c30
   replace H := Option.bind_eq_some_iff.mp H
   obtain ⟨⟨dk, dj, di⟩, gh, H⟩ := H
   replace H : ((postroomlaw11_asLedger.f kj4 bm bn bl).bind fun bz => ((postroomref11_Same.f kj4 dk dj di bz.1 bz.2.1 bz.2.2).bind fun bP => (postroomlaw11_MarkOne.j1 kj4 a0 ((b8.toList == dd.toList) != bP)))) = some r := H
   have A31 := Aside0.mk gh
   clear gh
   replace H := Option.bind_eq_some_iff.mp H
   obtain ⟨⟨dq, dp, dn⟩, gg, H⟩ := H
   replace H : ((postroomref11_Same.f kj4 dk dj di dq dp dn).bind fun bP => (postroomlaw11_MarkOne.j1 kj4 a0 ((b8.toList == dd.toList) != bP))) = some r := H
   have A32 := Aside0.mk gg
   clear gg
   replace H := Option.bind_eq_some_iff.mp H
   obtain ⟨bP, gf, H⟩ := H
   replace H : (postroomlaw11_MarkOne.j1 kj4 a0 ((b8.toList == dd.toList) != bP)) = some r := H
   have A33 := Aside0.mk gf
   clear gf
   have H' := Aside0.mk H
   clear H
   try go_wp2
   replace bC := Aside0.mk (Kd.V_drew bC.out)
   replace bD := Aside0.mk (Kd.V_drew bD.out)
   replace bd := Aside0.mk (blk_drew bd.out)
   replace be := Aside0.mk (blk_drew be.out)
   replace HB := Aside0.mk (below_drew1 HB.out)
   refine start_ (n := 17) (S := fun w' => w'.cell? ⟨bb, 0, none⟩ = some (.int .u64 bj) ∧ w'.cell? ⟨bb, 1, none⟩ = some (.int .u64 bk) ∧ w'.cell? ⟨bb, 2, none⟩ = some (.slice bp bi.length bo) ∧ w'.cell? ⟨bc, 0, none⟩ = some (.int .u64 bm) ∧ w'.cell? ⟨bc, 1, none⟩ = some (.int .u64 bn) ∧ w'.cell? ⟨bc, 2, none⟩ = some (.slice br bl.length bq)) (ds := []) #[Ff,Ff,Ff,Ff,Ff,Ff,Ff,Ff,Ff,Ff,Ff,Ff,Ff,Ff,Ff,Ff,Ff] (by kernel_rfl) rfl rfl ⟨(blk_cell bd.out 0).trans rfl, (blk_cell bd.out 1).trans rfl, (blk_cell bd.out 2).trans rfl, (blk_cell be.out 0).trans rfl, (blk_cell be.out 1).trans rfl, (blk_cell be.out 2).trans rfl⟩ (fun hHeld => ?_); refine with_tabW postroomlaw11_MarkOne.tab8 postroomlaw11_MarkOne.bits8 (fun HT_ HW_ => ?_)
   generalize w28.drew = w34 at bC bD bd be HB hHeld ⊢
   refine pp_ 0 (some 51) HT_.out ?_
   refine pp_ 1 (some 52) HT_.out ?_
   refine pp_ 2 (some 53) HT_.out ?_
   refine pp_ 3 (some 54) HT_.out ?_
   refine pp_ 4 (some 55) HT_.out ?_
   refine pp_ 5 (some 56) HT_.out ?_
   refine pp_ 6 (some 57) HT_.out ?_
   refine pp_ 7 (some 58) HT_.out ?_
   refine pp_ 8 (some 59) HT_.out ?_
   refine pp_ 9 (some 60) HT_.out ?_
   refine take_ (i := 10) (N := some 61) (v := ?_) (a' := ?_) #[Tt,Tt,Tt,Tt,Tt,Tt,Tt,Tt,Tt,Tt,Tt,Ff,Ff,Ff,Ff,Ff,Ff] rfl rfl (take_ofW HT_.out HW_.out (by kernel_rfl)) (fun _ _ _ h => h) (Or.inl ⟨by rfl, ?_⟩) hHeld ?_ ?_
   rotate_left
   ·rintro w' ⟨s0, s1, s2, s3, s4, s5⟩
    go_simp
    with_reducible rfl
   rotate_left
   ·simp only [Act.put, List.setIfInBounds_toArray, List.set_cons_zero, List.set_cons_succ, i64_w, i32_w]
    rfl
   refine take_ (i := 12) (N := some 63) (v := ?_) (a' := ?_) #[Tt,Tt,Tt,Tt,Tt,Tt,Tt,Tt,Tt,Tt,Tt,Ff,Tt,Ff,Ff,Ff,Ff] rfl rfl (take_ofW HT_.out HW_.out (by kernel_rfl)) (fun _ _ _ h => h) (Or.inl ⟨by rfl, ?_⟩) hHeld ?_ ?_
   rotate_left
   ·rintro w' ⟨s0, s1, s2, s3, s4, s5⟩
    go_simp
    with_reducible rfl
   rotate_left
   ·simp only [Act.put, List.setIfInBounds_toArray, List.set_cons_zero, List.set_cons_succ, i64_w, i32_w]
    rfl
   refine one_ (i := 11) (N := some 62) #[Tt,Tt,Tt,Tt,Tt,Tt,Tt,Tt,Tt,Tt,Tt,Tt,Tt,Ff,Ff,Ff,Ff] rfl rfl (one_of HT_.out (by kernel_rfl)) (by decide) (fun K hK => ?_)
   refine goes_ Tryd.func10 (by kernel_rfl) rfl #[.agg #[.int .u64 bj, .int .u64 bk, .slice bp bi.length bo]] (by rfl) rfl rfl zx24_3 ?_
   with_reducible refine (postroomlaw11_asLedger.calls kj4 bj bk (fun k_ => ((True ∧ k_ ≠ bb) ∧ k_ ≠ bc)) _ _ bi dk dj di _ ?side1 A31.out).mono ?_
   (case side1 => exact bC.out)
   rintro e w35 ⟨dX, rfl, ho0, hb⟩
   refine ⟨_, rfl, ?_⟩
   replace bC := Aside0.mk (Kd.V_elder' zx24_14 (Kd.N_base ho0) hb)
   replace bD := Aside0.mk (Kd.V_elder' zx24_19 (Kd.N_base ho0) hb)
   have bX := Aside0.mk (Kd.N_lower (Kd.N_mono (ok' := fun k_ => k_ ≠ bb ∧ k_ ≠ bc) ho0 (fun k_ hk_ => ⟨Or.elim hk_ (fun hs_ => hs_.1.2) (fun hn_ => (Kd.freshB (g := bb) (o := .cells #[.int .u64 bj, .int .u64 bk, .slice bp bi.length bo] 25 (0, 0)) zx24_1 k_ hn_)), Or.elim hk_ (fun hs_ => hs_.2) (fun hn_ => (Kd.freshB (g := bc) (o := .cells #[.int .u64 bm, .int .u64 bn, .slice br bl.length bq] 25 (0, 0)) zx24_2 k_ hn_))⟩)) (below_size zx24_0))
   replace bd := Aside0.mk (blk_below (g := bb) (o := .cells #[.int .u64 bj, .int .u64 bk, .slice bp bi.length bo] 25 (0, 0)) zx24_1 hb)
   replace be := Aside0.mk (blk_below (g := bc) (o := .cells #[.int .u64 bm, .int .u64 bn, .slice br bl.length bq] 25 (0, 0)) zx24_2 hb)
   replace HB := Aside0.mk (below_step zx24_0 hb)
   (try clear hb)
   (try clear hb2)
   (try clear hk)
   (try clear hi)
   (try clear ho0)
   refine hK.out _ _ ⟨(blk_cell bd.out 0).trans rfl, (blk_cell bd.out 1).trans rfl, (blk_cell bd.out 2).trans rfl, (blk_cell be.out 0).trans rfl, (blk_cell be.out 1).trans rfl, (blk_cell be.out 2).trans rfl⟩ (fun hHeld => ?_)
   clear hK K
   refine na_ 62 ?_
   refine one_ (i := 13) (N := some 64) #[Tt,Tt,Tt,Tt,Tt,Tt,Tt,Tt,Tt,Tt,Tt,Tt,Tt,Tt,Ff,Ff,Ff] rfl rfl (one_of HT_.out (by kernel_rfl)) (by decide) (fun K hK => ?_)
   refine goes_ Tryd.func10 (by kernel_rfl) rfl #[.agg #[.int .u64 bm, .int .u64 bn, .slice br bl.length bq]] (by rfl) rfl rfl zx24_3 ?_
   with_reducible refine (postroomlaw11_asLedger.calls kj4 bm bn (fun k_ => ((k_ ≠ bb ∧ k_ ≠ bc) ∧ some k_ ≠ (dX : Value).ownBlock)) _ _ bl dq dp dn _ ?side1 A32.out).mono ?_
   (case side1 => exact bD.out)
   rintro e w36 ⟨hX, rfl, ho0, hb⟩
   refine ⟨_, rfl, ?_⟩
   replace bC := Aside0.mk (Kd.V_elder' zx24_14 (Kd.N_base ho0) hb)
   replace bD := Aside0.mk (Kd.V_elder' zx24_19 (Kd.N_base ho0) hb)
   have dc := Aside0.mk (Kd.N_lower (Kd.N_mono (ok' := fun k_ => some k_ ≠ (dX : Value).ownBlock ∧ k_ ≠ bb ∧ k_ ≠ bc) ho0 (fun k_ hk_ => ⟨Or.elim hk_ (fun hs_ => hs_.2) (fun hn_ => (Kd.fresh' (Kd.N_lt (by (with_reducible repeat (first | apply Kd.N_alloc | apply Kd.N_drewN | apply Kd.N_drew)); exact bX.out)) k_ hn_)), Or.elim hk_ (fun hs_ => hs_.1.1) (fun hn_ => (Kd.freshB (g := bb) (o := .cells #[.int .u64 bj, .int .u64 bk, .slice bp bi.length bo] 25 (0, 0)) zx24_1 k_ hn_)), Or.elim hk_ (fun hs_ => hs_.1.2) (fun hn_ => (Kd.freshB (g := bc) (o := .cells #[.int .u64 bm, .int .u64 bn, .slice br bl.length bq] 25 (0, 0)) zx24_2 k_ hn_))⟩)) (below_size zx24_0))
   replace bX := Aside0.mk (Kd.N_elder' (by (with_reducible repeat (first | apply Kd.N_alloc | apply Kd.N_drewN | apply Kd.N_drew)); exact bX.out) (Kd.N_base ho0) hb)
   replace bd := Aside0.mk (blk_below (g := bb) (o := .cells #[.int .u64 bj, .int .u64 bk, .slice bp bi.length bo] 25 (0, 0)) zx24_1 hb)
   replace be := Aside0.mk (blk_below (g := bc) (o := .cells #[.int .u64 bm, .int .u64 bn, .slice br bl.length bq] 25 (0, 0)) zx24_2 hb)
   replace HB := Aside0.mk (below_step zx24_0 hb)
   (try clear hb)
   (try clear hb2)
   (try clear hk)
   (try clear hi)
   (try clear ho0)
   obtain ⟨ht, hq, dZ⟩ := Kd.N_slice bX.out
   (first | subst dZ | (injection dZ with f1_ f2_ f3_; have f4_ := f1_.symm; have f5_ := f3_.symm; clear f1_ f2_ f3_; subst f4_; subst f5_))
   obtain ⟨hs, hp, dY⟩ := Kd.N_slice dc.out
   (first | subst dY | (injection dY with f1_ f2_ f3_; have f4_ := f1_.symm; have f5_ := f3_.symm; clear f1_ f2_ f3_; subst f4_; subst f5_))
   refine hK.out _ _ ⟨(blk_cell bd.out 0).trans rfl, (blk_cell bd.out 1).trans rfl, (blk_cell bd.out 2).trans rfl, (blk_cell be.out 0).trans rfl, (blk_cell be.out 1).trans rfl, (blk_cell be.out 2).trans rfl⟩ (fun hHeld => ?_)
   clear hK K
   refine na_ 64 ?_
   refine one_ (i := 14) (N := some 65) #[Tt,Tt,Tt,Tt,Tt,Tt,Tt,Tt,Tt,Tt,Tt,Tt,Tt,Tt,Tt,Ff,Ff] rfl rfl (one_of HT_.out (by kernel_rfl)) (by decide) (fun K hK => ?_)
   refine goes_ Tryd.func17 (by kernel_rfl) rfl #[.agg #[.int .u64 dk, .int .u64 dj, .slice ht di.length hq], .agg #[.int .u64 dq, .int .u64 dp, .slice hs dn.length hp]] (by rfl) rfl rfl zx24_3 ?_
   with_reducible refine (postroomref11_Same.calls kj4 dk dj _ _ di dq dp _ _ dn bP _ ?side1 ?side2 ?side3 ?side4 A33.out).mono ?_
   (case side1 => repeat (first | exact (Kd.N_reads' bX.out).2.2 | (with_reducible refine Kd.C_alloc ?_ _) | (with_reducible refine Kd.C_drewN ?_ _) | (with_reducible refine Kd.C_drew ?_)))
   (case side2 => exact (Kd.N_reads' bX.out).2.1)
   (case side3 => repeat (first | exact (Kd.N_reads' dc.out).2.2 | (with_reducible refine Kd.C_alloc ?_ _) | (with_reducible refine Kd.C_drewN ?_ _) | (with_reducible refine Kd.C_drew ?_)))
   (case side4 => exact (Kd.N_reads' dc.out).2.1)
   rintro e w39 ⟨rfl, hb⟩
   refine ⟨_, rfl, ?_⟩
   have n0_ := Aside0.mk (Kd.V_below zx24_14 hb)
   have n1_ := Aside0.mk (Kd.V_below zx24_19 hb)
   have n4_ := Aside0.mk (blk_below (g := bb) (o := .cells #[.int .u64 bj, .int .u64 bk, .slice bp bi.length bo] 25 (0, 0)) zx24_1 hb)
   have n5_ := Aside0.mk (blk_below (g := bc) (o := .cells #[.int .u64 bm, .int .u64 bn, .slice br bl.length bq] 25 (0, 0)) zx24_2 hb)
   have n6_ := Aside0.mk (below_step zx24_0 hb)
   (try clear bC)
   (try clear bD)
   (try clear bX)
   (try clear dc)
   clear bd
   clear be
   clear HB
   have bC := n0_
   have bD := n1_
   have bd := n4_
   have be := n5_
   have HB := n6_
   clear n0_ n1_ n4_ n5_ n6_
   (try clear hb)
   (try clear hb2)
   (try clear hk)
   (try clear hi)
   refine hK.out _ _ ⟨(blk_cell bd.out 0).trans rfl, (blk_cell bd.out 1).trans rfl, (blk_cell bd.out 2).trans rfl, (blk_cell be.out 0).trans rfl, (blk_cell be.out 1).trans rfl, (blk_cell be.out 2).trans rfl⟩ (fun hHeld => ?_)
   clear hK K
   refine na_ 65 ?_
   refine pp_ 15 (some 66) HT_.out ?_
   refine pp_ 16 (some 67) HT_.out ?_
   refine done_ (done_of HT_.out (by kernel_rfl)) ?_
   try go_wp2
   go_meet
   case rel => exact ⟨_, (((b8.toList == dd.toList) != bP)), zx24_20, H', ⟨by have := HJ4.out; first | omega | exact Nat.le_refl _⟩, ⟨by (with_reducible repeat (first | apply Kd.V_alloc | apply Kd.V_drewN | apply Kd.V_drew)); exact Kd.V_mono bC.out (fun _ hk => ⟨hk.1.1.1.2, hk.1.1.2⟩)⟩, ⟨by (with_reducible repeat (first | apply Kd.V_alloc | apply Kd.V_drewN | apply Kd.V_drew)); exact Kd.V_mono bD.out (fun _ hk => ⟨hk.1.1.1, hk.1.1.2⟩)⟩, ⟨by (with_reducible repeat (first | refine blk_drewN ?_ _ | refine blk_drew ?_ | refine blk_alloc ?_ _)); exact bd.out⟩, ⟨by (with_reducible repeat (first | refine blk_drewN ?_ _ | refine blk_drew ?_ | refine blk_alloc ?_ _)); exact be.out⟩, ⟨by repeat (first | (with_reducible first | exact HB.out | apply below_alloc | apply pw_below_drewN | apply below_drew1 | refine below_set ?_ bO.out | refine below_set ?_ bR.out) | exact HB.out)⟩⟩
  case rest =>
   clear dW
   (try clear c1); (try clear c2); (try clear p2); (try clear c3); (try clear c5); (try clear c7); (try clear c8); (try clear b9); (try clear dV); (try clear c9); (try clear dU); (try clear dT); (try clear c10); (try clear c11); (try clear c17); (try clear c18); (try clear c22); (try clear c29); (try clear bZ); (try clear dS); (try clear c30); (try clear dR); (try clear dQ); (try clear dP); (try clear dO); (try clear dN); (try clear dM); (try clear dL); (try clear dK); (try clear dJ); (try clear dI); (try clear dH); (try clear dG); (try clear dF); (try clear dE); (try clear dD); (try clear dC); (try clear dB); (try clear dA); (try clear dz); (try clear dy); (try clear dx); (try clear dw); (try clear dv); (try clear du); (try clear dt); (try clear dr); (try clear p2)
   obtain ⟨kq, b1, rfl, HA, je, bh, bg, bd, be, HB⟩ := hcut
   cases kq with
   | zero => exact absurd HA.out (by simp [postroomlaw11_MarkOne.j1])
   | succ bV => ?_
   have H := HA.out
   clear HA
   simp only [postroomlaw11_MarkOne.j1] at H
   by_cases c42 : b1 = true
   ·subst c42
    have H1 : (some false) = some r := by rw [if_pos rfl] at H; exact H
    clear H
    have H := H1
    clear H1
    obtain rfl := Option.some.inj H
    go_wp2
    go_ret
    exact ⟨by first | rfl | (simp [errW_none, errW_some] <;> rfl) | (simp [*, errW_none, errW_some] <;> rfl), by repeat (first | (with_reducible first | exact HB.out | apply below_alloc | apply pw_below_drewN | apply below_drew1 | refine below_set ?_ bO.out | refine below_set ?_ bR.out) | exact HB.out)⟩
   replace c42 := Bool.eq_false_iff.mpr c42
   subst c42
   have H1 : ((mark_Take.f bV a0).bind fun bJ => (if bJ.2.2.2 = 0 then ((mark_Put.f bV bJ.1 bJ.2.1 bJ.2.2.1).bind fun bW => (if bW.2 = 0 then (if bW.1.toList = a0.toList then ((ledger_Right.f bV bJ.1 bJ.2.1 bJ.2.2.1).bind fun bY => (some bY)) else (some false)) else (some false))) else (if bJ.2.2.2 = 2 then (if bJ.2.1 = 0 then (some ((bJ.2.2.1.length : Int) == 0)) else (some false)) else (some false)))) = some r := by rw [if_neg (show ¬ (false = true) by decide)] at H; exact H
   clear H
   have H := H1
   clear H1
   replace H := Option.bind_eq_some_iff.mp H
   obtain ⟨⟨bI, bE, bH, bS⟩, gc, H⟩ := H
   replace H : (if bS = 0 then ((mark_Put.f bV bI bE bH).bind fun bW => (if bW.2 = 0 then (if bW.1.toList = a0.toList then ((ledger_Right.f bV bI bE bH).bind fun bY => (some bY)) else (some false)) else (some false))) else (if bS = 2 then (if bE = 0 then (some ((bH.length : Int) == 0)) else (some false)) else (some false))) = some r := H
   have A43 := Aside0.mk gc
   clear gc
   by_cases c44 : bS = 0
   case neg =>
    rw [if_neg c44] at H
    have d9 : (bS == 0) = false := beq_eq_false_iff_ne.mpr c44
    have d8 : (bS != 0) = true := bne_iff_ne.mpr c44
    by_cases c72 : bS = 2
    case neg =>
     rw [if_neg c72] at H
     have d3 : (bS == 2) = false := beq_eq_false_iff_ne.mpr c72
     have d2 : (bS != 2) = true := bne_iff_ne.mpr c72
     obtain rfl := Option.some.inj H
     go_wp2_with (first | ((with_reducible refine gate_callee (f := 13) rfl ?_); refine goesL_ (some 70) rfl rfl Tryd.func13 (by kernel_rfl) rfl #[.string a0] rfl zx24_3 ?_; (with_reducible refine (mark_Take.calls bV a0 bI bE bH bS _ A43.out).mono ?_); rintro e w86 ⟨dh, rfl, ho0, hb⟩; refine ⟨_, rfl, ?_⟩; replace bh := Aside0.mk (Kd.V_elder' zx24_5 (Kd.N_base (Kd.S_N (Kd.S_bound ho0))) hb); replace bg := Aside0.mk (Kd.V_elder' zx24_6 (Kd.N_base (Kd.S_N (Kd.S_bound ho0))) hb); have bu := Aside0.mk (Kd.N_lower (Kd.N_mono (ok' := fun k_ => k_ ≠ bb ∧ k_ ≠ bc) (Kd.S_N (Kd.S_bound ho0)) (fun k_ hk_ => ⟨(Kd.freshB (g := bb) (o := .cells #[.int .u64 bj, .int .u64 bk, .slice bp bi.length bo] 25 (0, 0)) zx24_1 k_ hk_.2.1), (Kd.freshB (g := bc) (o := .cells #[.int .u64 bm, .int .u64 bn, .slice br bl.length bq] 25 (0, 0)) zx24_2 k_ hk_.2.1)⟩)) (below_size zx24_0)); replace bd := Aside0.mk (blk_below (g := bb) (o := .cells #[.int .u64 bj, .int .u64 bk, .slice bp bi.length bo] 25 (0, 0)) zx24_1 hb); replace be := Aside0.mk (blk_below (g := bc) (o := .cells #[.int .u64 bm, .int .u64 bn, .slice br bl.length bq] 25 (0, 0)) zx24_2 hb); replace HB := Aside0.mk (below_step zx24_0 hb); (try clear hb); (try clear hb2); (try clear hk); (try clear hi); (try clear ho0)) | ((with_reducible refine gate_dst (N := 14) rfl ?_); (try (refine gate_guard (by rfl) ?_; dsimp only)); refine box_event ?hg (N := 14) ?hd (cs := #[.int .u64 0, .int .u64 0, .slice none 0 0]) (t := 25) ?hr ?_; (case hd => rfl); (case hg => rfl); (case hr => first | (go_simp; done) | (go_simp; rfl)); intro ba hg w87 hbox hb; replace bh := Aside0.mk (Kd.V_below (Kd.V_elderB zx24_5 ba (Nat.le_of_eq hg.symm)) hb); replace bg := Aside0.mk (Kd.V_below (Kd.V_elderB zx24_6 ba (Nat.le_of_eq hg.symm)) hb); replace bu := Aside0.mk (Kd.N_below (Kd.N_elderB zx24_13 ba (Nat.le_of_eq hg.symm)) hb); have bf := Aside0.mk (hbox); have b6 := Aside0.mk ((by rw [hg]; exact (below_size zx24_0) : w.heap.size ≤ ba)); have bQ := Aside0.mk ((by rw [hg]; exact (below_size zx24_0) : w.heap.size ≤ ba)); replace HB := Aside0.mk (below_step zx24_0 hb); have bx := Aside0.mk ((by rw [hg]; exact Nat.ne_of_lt (blk_lt (g := bb) (o := .cells #[.int .u64 bj, .int .u64 bk, .slice bp bi.length bo] 25 (0, 0)) zx24_1) : bb ≠ ba)); have bB := Aside0.mk ((by rw [hg]; exact Nat.ne_of_gt (blk_lt (g := bb) (o := .cells #[.int .u64 bj, .int .u64 bk, .slice bp bi.length bo] 25 (0, 0)) zx24_1) : ba ≠ bb)); replace bd := Aside0.mk (blk_below (g := bb) (o := .cells #[.int .u64 bj, .int .u64 bk, .slice bp bi.length bo] 25 (0, 0)) zx24_1 hb); have bw := Aside0.mk ((by rw [hg]; exact Nat.ne_of_lt (blk_lt (g := bc) (o := .cells #[.int .u64 bm, .int .u64 bn, .slice br bl.length bq] 25 (0, 0)) zx24_2) : bc ≠ ba)); have bA := Aside0.mk ((by rw [hg]; exact Nat.ne_of_gt (blk_lt (g := bc) (o := .cells #[.int .u64 bm, .int .u64 bn, .slice br bl.length bq] 25 (0, 0)) zx24_2) : ba ≠ bc)); replace be := Aside0.mk (blk_below (g := bc) (o := .cells #[.int .u64 bm, .int .u64 bn, .slice br bl.length bq] 25 (0, 0)) zx24_2 hb); clear hb hbox hg; have hI := bB.out; have hv := bx.out; have hH := bA.out; have hu := bw.out; have gJ : w87.cell? ⟨ba, 0, none⟩ = some (.int .u64 0) := (blk_cell bf.out 0).trans rfl; have gI : w87.cell? ⟨ba, 1, none⟩ = some (.int .u64 0) := (blk_cell bf.out 1).trans rfl; have gH : w87.cell? ⟨ba, 2, none⟩ = some (.slice none 0 0) := (blk_cell bf.out 2).trans rfl; have go := blk_frozen bf.out 0; have gn := blk_frozen bf.out 1; have gm := blk_frozen bf.out 2; obtain ⟨jf, jb, he⟩ := Kd.N_slice bu.out; subst he))
     go_ret
     exact ⟨by first | rfl | (simp [errW_none, errW_some] <;> rfl) | (simp [*, errW_none, errW_some] <;> rfl), by repeat (first | (with_reducible first | exact HB.out | apply below_alloc | apply pw_below_drewN | apply below_drew1 | refine below_set ?_ bO.out | refine below_set ?_ bR.out | refine below_set ?_ bQ.out) | exact HB.out)⟩

    rw [if_pos c72] at H
    have d3 : (bS == 2) = true := beq_iff_eq.mpr c72
    have d2 : (bS != 2) = false := bne_eq_false_iff_eq.mpr c72
    clear c72
    by_cases c73 : bE = 0
    case neg =>
     rw [if_neg c73] at H
     have d1 : (bE == 0) = false := beq_eq_false_iff_ne.mpr c73
     have d0 : (bE != 0) = true := bne_iff_ne.mpr c73
     obtain rfl := Option.some.inj H
     go_wp2_with (first | ((with_reducible refine gate_callee (f := 13) rfl ?_); refine goesL_ (some 70) rfl rfl Tryd.func13 (by kernel_rfl) rfl #[.string a0] rfl zx24_3 ?_; (with_reducible refine (mark_Take.calls bV a0 bI bE bH bS _ A43.out).mono ?_); rintro e w80 ⟨dh, rfl, ho0, hb⟩; refine ⟨_, rfl, ?_⟩; replace bh := Aside0.mk (Kd.V_elder' zx24_5 (Kd.N_base (Kd.S_N (Kd.S_bound ho0))) hb); replace bg := Aside0.mk (Kd.V_elder' zx24_6 (Kd.N_base (Kd.S_N (Kd.S_bound ho0))) hb); have bu := Aside0.mk (Kd.N_lower (Kd.N_mono (ok' := fun k_ => k_ ≠ bb ∧ k_ ≠ bc) (Kd.S_N (Kd.S_bound ho0)) (fun k_ hk_ => ⟨(Kd.freshB (g := bb) (o := .cells #[.int .u64 bj, .int .u64 bk, .slice bp bi.length bo] 25 (0, 0)) zx24_1 k_ hk_.2.1), (Kd.freshB (g := bc) (o := .cells #[.int .u64 bm, .int .u64 bn, .slice br bl.length bq] 25 (0, 0)) zx24_2 k_ hk_.2.1)⟩)) (below_size zx24_0)); replace bd := Aside0.mk (blk_below (g := bb) (o := .cells #[.int .u64 bj, .int .u64 bk, .slice bp bi.length bo] 25 (0, 0)) zx24_1 hb); replace be := Aside0.mk (blk_below (g := bc) (o := .cells #[.int .u64 bm, .int .u64 bn, .slice br bl.length bq] 25 (0, 0)) zx24_2 hb); replace HB := Aside0.mk (below_step zx24_0 hb); (try clear hb); (try clear hb2); (try clear hk); (try clear hi); (try clear ho0)) | ((with_reducible refine gate_dst (N := 14) rfl ?_); (try (refine gate_guard (by rfl) ?_; dsimp only)); refine box_event ?hg (N := 14) ?hd (cs := #[.int .u64 0, .int .u64 0, .slice none 0 0]) (t := 25) ?hr ?_; (case hd => rfl); (case hg => rfl); (case hr => first | (go_simp; done) | (go_simp; rfl)); intro ba hg w81 hbox hb; replace bh := Aside0.mk (Kd.V_below (Kd.V_elderB zx24_5 ba (Nat.le_of_eq hg.symm)) hb); replace bg := Aside0.mk (Kd.V_below (Kd.V_elderB zx24_6 ba (Nat.le_of_eq hg.symm)) hb); replace bu := Aside0.mk (Kd.N_below (Kd.N_elderB zx24_13 ba (Nat.le_of_eq hg.symm)) hb); have bf := Aside0.mk (hbox); have b6 := Aside0.mk ((by rw [hg]; exact (below_size zx24_0) : w.heap.size ≤ ba)); have bQ := Aside0.mk ((by rw [hg]; exact (below_size zx24_0) : w.heap.size ≤ ba)); replace HB := Aside0.mk (below_step zx24_0 hb); have bx := Aside0.mk ((by rw [hg]; exact Nat.ne_of_lt (blk_lt (g := bb) (o := .cells #[.int .u64 bj, .int .u64 bk, .slice bp bi.length bo] 25 (0, 0)) zx24_1) : bb ≠ ba)); have bB := Aside0.mk ((by rw [hg]; exact Nat.ne_of_gt (blk_lt (g := bb) (o := .cells #[.int .u64 bj, .int .u64 bk, .slice bp bi.length bo] 25 (0, 0)) zx24_1) : ba ≠ bb)); replace bd := Aside0.mk (blk_below (g := bb) (o := .cells #[.int .u64 bj, .int .u64 bk, .slice bp bi.length bo] 25 (0, 0)) zx24_1 hb); have bw := Aside0.mk ((by rw [hg]; exact Nat.ne_of_lt (blk_lt (g := bc) (o := .cells #[.int .u64 bm, .int .u64 bn, .slice br bl.length bq] 25 (0, 0)) zx24_2) : bc ≠ ba)); have bA := Aside0.mk ((by rw [hg]; exact Nat.ne_of_gt (blk_lt (g := bc) (o := .cells #[.int .u64 bm, .int .u64 bn, .slice br bl.length bq] 25 (0, 0)) zx24_2) : ba ≠ bc)); replace be := Aside0.mk (blk_below (g := bc) (o := .cells #[.int .u64 bm, .int .u64 bn, .slice br bl.length bq] 25 (0, 0)) zx24_2 hb); clear hb hbox hg; have hL := bB.out; have hx := bx.out; have hJ := bA.out; have hw := bw.out; have gM : w81.cell? ⟨ba, 0, none⟩ = some (.int .u64 0) := (blk_cell bf.out 0).trans rfl; have gL : w81.cell? ⟨ba, 1, none⟩ = some (.int .u64 0) := (blk_cell bf.out 1).trans rfl; have gK : w81.cell? ⟨ba, 2, none⟩ = some (.slice none 0 0) := (blk_cell bf.out 2).trans rfl; have gr := blk_frozen bf.out 0; have gq := blk_frozen bf.out 1; have gp := blk_frozen bf.out 2; obtain ⟨jg, jc, hf⟩ := Kd.N_slice bu.out; subst hf))
     go_ret
     exact ⟨by first | rfl | (simp [errW_none, errW_some] <;> rfl) | (simp [*, errW_none, errW_some] <;> rfl), by repeat (first | (with_reducible first | exact HB.out | apply below_alloc | apply pw_below_drewN | apply below_drew1 | refine below_set ?_ bO.out | refine below_set ?_ bR.out | refine below_set ?_ bQ.out) | exact HB.out)⟩
    rw [if_pos c73] at H
    have d1 : (bE == 0) = true := beq_iff_eq.mpr c73
    have d0 : (bE != 0) = false := bne_eq_false_iff_eq.mpr c73
    clear c73
    obtain rfl := Option.some.inj H
    go_wp2_with (first | ((with_reducible refine gate_callee (f := 13) rfl ?_); refine goesL_ (some 70) rfl rfl Tryd.func13 (by kernel_rfl) rfl #[.string a0] rfl zx24_3 ?_; (with_reducible refine (mark_Take.calls bV a0 bI bE bH bS _ A43.out).mono ?_); rintro e w74 ⟨dh, rfl, ho0, hb⟩; refine ⟨_, rfl, ?_⟩; replace bh := Aside0.mk (Kd.V_elder' zx24_5 (Kd.N_base (Kd.S_N (Kd.S_bound ho0))) hb); replace bg := Aside0.mk (Kd.V_elder' zx24_6 (Kd.N_base (Kd.S_N (Kd.S_bound ho0))) hb); have bu := Aside0.mk (Kd.N_lower (Kd.N_mono (ok' := fun k_ => k_ ≠ bb ∧ k_ ≠ bc) (Kd.S_N (Kd.S_bound ho0)) (fun k_ hk_ => ⟨(Kd.freshB (g := bb) (o := .cells #[.int .u64 bj, .int .u64 bk, .slice bp bi.length bo] 25 (0, 0)) zx24_1 k_ hk_.2.1), (Kd.freshB (g := bc) (o := .cells #[.int .u64 bm, .int .u64 bn, .slice br bl.length bq] 25 (0, 0)) zx24_2 k_ hk_.2.1)⟩)) (below_size zx24_0)); replace bd := Aside0.mk (blk_below (g := bb) (o := .cells #[.int .u64 bj, .int .u64 bk, .slice bp bi.length bo] 25 (0, 0)) zx24_1 hb); replace be := Aside0.mk (blk_below (g := bc) (o := .cells #[.int .u64 bm, .int .u64 bn, .slice br bl.length bq] 25 (0, 0)) zx24_2 hb); replace HB := Aside0.mk (below_step zx24_0 hb); (try clear hb); (try clear hb2); (try clear hk); (try clear hi); (try clear ho0)) | ((with_reducible refine gate_dst (N := 14) rfl ?_); (try (refine gate_guard (by rfl) ?_; dsimp only)); refine box_event ?hg (N := 14) ?hd (cs := #[.int .u64 0, .int .u64 0, .slice none 0 0]) (t := 25) ?hr ?_; (case hd => rfl); (case hg => rfl); (case hr => first | (go_simp; done) | (go_simp; rfl)); intro ba hg w75 hbox hb; replace bh := Aside0.mk (Kd.V_below (Kd.V_elderB zx24_5 ba (Nat.le_of_eq hg.symm)) hb); replace bg := Aside0.mk (Kd.V_below (Kd.V_elderB zx24_6 ba (Nat.le_of_eq hg.symm)) hb); replace bu := Aside0.mk (Kd.N_below (Kd.N_elderB zx24_13 ba (Nat.le_of_eq hg.symm)) hb); have bf := Aside0.mk (hbox); have b6 := Aside0.mk ((by rw [hg]; exact (below_size zx24_0) : w.heap.size ≤ ba)); have bQ := Aside0.mk ((by rw [hg]; exact (below_size zx24_0) : w.heap.size ≤ ba)); replace HB := Aside0.mk (below_step zx24_0 hb); have bx := Aside0.mk ((by rw [hg]; exact Nat.ne_of_lt (blk_lt (g := bb) (o := .cells #[.int .u64 bj, .int .u64 bk, .slice bp bi.length bo] 25 (0, 0)) zx24_1) : bb ≠ ba)); have bB := Aside0.mk ((by rw [hg]; exact Nat.ne_of_gt (blk_lt (g := bb) (o := .cells #[.int .u64 bj, .int .u64 bk, .slice bp bi.length bo] 25 (0, 0)) zx24_1) : ba ≠ bb)); replace bd := Aside0.mk (blk_below (g := bb) (o := .cells #[.int .u64 bj, .int .u64 bk, .slice bp bi.length bo] 25 (0, 0)) zx24_1 hb); have bw := Aside0.mk ((by rw [hg]; exact Nat.ne_of_lt (blk_lt (g := bc) (o := .cells #[.int .u64 bm, .int .u64 bn, .slice br bl.length bq] 25 (0, 0)) zx24_2) : bc ≠ ba)); have bA := Aside0.mk ((by rw [hg]; exact Nat.ne_of_gt (blk_lt (g := bc) (o := .cells #[.int .u64 bm, .int .u64 bn, .slice br bl.length bq] 25 (0, 0)) zx24_2) : ba ≠ bc)); replace be := Aside0.mk (blk_below (g := bc) (o := .cells #[.int .u64 bm, .int .u64 bn, .slice br bl.length bq] 25 (0, 0)) zx24_2 hb); clear hb hbox hg; have hN := bB.out; have hz := bx.out; have hM := bA.out; have hy := bw.out; have gP : w75.cell? ⟨ba, 0, none⟩ = some (.int .u64 0) := (blk_cell bf.out 0).trans rfl; have gO : w75.cell? ⟨ba, 1, none⟩ = some (.int .u64 0) := (blk_cell bf.out 1).trans rfl; have gN : w75.cell? ⟨ba, 2, none⟩ = some (.slice none 0 0) := (blk_cell bf.out 2).trans rfl; have gu := blk_frozen bf.out 0; have gt := blk_frozen bf.out 1; have gs := blk_frozen bf.out 2; obtain ⟨jh, jd, hh⟩ := Kd.N_slice bu.out; subst hh))
    go_ret
    exact ⟨by first | rfl | (simp [errW_none, errW_some] <;> rfl) | (simp [*, errW_none, errW_some] <;> rfl), by repeat (first | (with_reducible first | exact HB.out | apply below_alloc | apply pw_below_drewN | apply below_drew1 | refine below_set ?_ bO.out | refine below_set ?_ bR.out | refine below_set ?_ bQ.out) | exact HB.out)⟩
   rw [if_pos c44] at H
   have d9 : (bS == 0) = true := beq_iff_eq.mpr c44
   have d8 : (bS != 0) = false := bne_eq_false_iff_eq.mpr c44
   clear c44
   replace H := Option.bind_eq_some_iff.mp H
   obtain ⟨⟨b3, b2⟩, gb, H⟩ := H
   replace H : (if b2 = 0 then (if b3.toList = a0.toList then ((ledger_Right.f bV bI bE bH).bind fun bY => (some bY)) else (some false)) else (some false)) = some r := H
   have A45 := Aside0.mk gb
   clear gb
   by_cases c46 : b2 = 0
   case neg =>
    rw [if_neg c46] at H
    have d7 : (b2 == 0) = false := beq_eq_false_iff_ne.mpr c46
    have d6 : (b2 != 0) = true := bne_iff_ne.mpr c46
    obtain rfl := Option.some.inj H
    go_wp2_with (first | ((with_reducible refine gate_callee (f := 13) rfl ?_); refine goesL_ (some 70) rfl rfl Tryd.func13 (by kernel_rfl) rfl #[.string a0] rfl zx24_3 ?_; (with_reducible refine (mark_Take.calls bV a0 bI bE bH bS _ A43.out).mono ?_); rintro e w65 ⟨dh, rfl, ho0, hb⟩; refine ⟨_, rfl, ?_⟩; replace bh := Aside0.mk (Kd.V_elder' zx24_5 (Kd.N_base (Kd.S_N (Kd.S_bound ho0))) hb); replace bg := Aside0.mk (Kd.V_elder' zx24_6 (Kd.N_base (Kd.S_N (Kd.S_bound ho0))) hb); have bu := Aside0.mk (Kd.N_lower (Kd.N_mono (ok' := fun k_ => k_ ≠ bb ∧ k_ ≠ bc) (Kd.S_N (Kd.S_bound ho0)) (fun k_ hk_ => ⟨(Kd.freshB (g := bb) (o := .cells #[.int .u64 bj, .int .u64 bk, .slice bp bi.length bo] 25 (0, 0)) zx24_1 k_ hk_.2.1), (Kd.freshB (g := bc) (o := .cells #[.int .u64 bm, .int .u64 bn, .slice br bl.length bq] 25 (0, 0)) zx24_2 k_ hk_.2.1)⟩)) (below_size zx24_0)); replace bd := Aside0.mk (blk_below (g := bb) (o := .cells #[.int .u64 bj, .int .u64 bk, .slice bp bi.length bo] 25 (0, 0)) zx24_1 hb); replace be := Aside0.mk (blk_below (g := bc) (o := .cells #[.int .u64 bm, .int .u64 bn, .slice br bl.length bq] 25 (0, 0)) zx24_2 hb); replace HB := Aside0.mk (below_step zx24_0 hb); (try clear hb); (try clear hb2); (try clear hk); (try clear hi); (try clear ho0)) | ((with_reducible refine gate_dst (N := 14) rfl ?_); (try (refine gate_guard (by rfl) ?_; dsimp only)); refine box_event ?hg (N := 14) ?hd (cs := #[.int .u64 0, .int .u64 0, .slice none 0 0]) (t := 25) ?hr ?_; (case hd => rfl); (case hg => rfl); (case hr => first | (go_simp; done) | (go_simp; rfl)); intro ba hg w66 hbox hb; replace bh := Aside0.mk (Kd.V_below (Kd.V_elderB zx24_5 ba (Nat.le_of_eq hg.symm)) hb); replace bg := Aside0.mk (Kd.V_below (Kd.V_elderB zx24_6 ba (Nat.le_of_eq hg.symm)) hb); replace bu := Aside0.mk (Kd.N_below (Kd.N_elderB zx24_13 ba (Nat.le_of_eq hg.symm)) hb); have bf := Aside0.mk (hbox); have b6 := Aside0.mk ((by rw [hg]; exact (below_size zx24_0) : w.heap.size ≤ ba)); have bQ := Aside0.mk ((by rw [hg]; exact (below_size zx24_0) : w.heap.size ≤ ba)); replace HB := Aside0.mk (below_step zx24_0 hb); have bx := Aside0.mk ((by rw [hg]; exact Nat.ne_of_lt (blk_lt (g := bb) (o := .cells #[.int .u64 bj, .int .u64 bk, .slice bp bi.length bo] 25 (0, 0)) zx24_1) : bb ≠ ba)); have bB := Aside0.mk ((by rw [hg]; exact Nat.ne_of_gt (blk_lt (g := bb) (o := .cells #[.int .u64 bj, .int .u64 bk, .slice bp bi.length bo] 25 (0, 0)) zx24_1) : ba ≠ bb)); replace bd := Aside0.mk (blk_below (g := bb) (o := .cells #[.int .u64 bj, .int .u64 bk, .slice bp bi.length bo] 25 (0, 0)) zx24_1 hb); have bw := Aside0.mk ((by rw [hg]; exact Nat.ne_of_lt (blk_lt (g := bc) (o := .cells #[.int .u64 bm, .int .u64 bn, .slice br bl.length bq] 25 (0, 0)) zx24_2) : bc ≠ ba)); have bA := Aside0.mk ((by rw [hg]; exact Nat.ne_of_gt (blk_lt (g := bc) (o := .cells #[.int .u64 bm, .int .u64 bn, .slice br bl.length bq] 25 (0, 0)) zx24_2) : ba ≠ bc)); replace be := Aside0.mk (blk_below (g := bc) (o := .cells #[.int .u64 bm, .int .u64 bn, .slice br bl.length bq] 25 (0, 0)) zx24_2 hb); clear hb hbox hg; have hP := bB.out; have hB := bx.out; have hO := bA.out; have hA := bw.out; have gS : w66.cell? ⟨ba, 0, none⟩ = some (.int .u64 0) := (blk_cell bf.out 0).trans rfl; have gR : w66.cell? ⟨ba, 1, none⟩ = some (.int .u64 0) := (blk_cell bf.out 1).trans rfl; have gQ : w66.cell? ⟨ba, 2, none⟩ = some (.slice none 0 0) := (blk_cell bf.out 2).trans rfl; have gx := blk_frozen bf.out 0; have gw := blk_frozen bf.out 1; have gv := blk_frozen bf.out 2; obtain ⟨dl, de, hj⟩ := Kd.N_slice bu.out; subst hj) | ((with_reducible refine gate_callee (f := 11) rfl ?_); refine goesL_ (some 90) rfl rfl Tryd.func11 (by kernel_rfl) rfl #[.agg #[.int .u64 bI, .int .u64 bE, .slice dl bH.length de]] rfl zx24_3 ?_; (with_reducible refine (mark_Put.calls bV bI bE _ _ bH b3 b2 _ ?side1 ?side2 A45.out).mono ?_); (case side1 => refine (Kd.N_reads' (e := 55) (base := w.heap.size) (ok := fun k_ => ((k_ ≠ bb ∧ k_ ≠ bc) ∧ k_ ≠ ba)) (n := bH.length) (c := de) ?_).2.2; exact zx24_18); (case side2 => exact (Kd.N_reads' bu.out).2.1); rintro e w71 ⟨rfl, hb⟩; refine ⟨_, rfl, ?_⟩; replace bh := Aside0.mk (Kd.V_below (by (with_reducible repeat (first | apply Kd.V_alloc | apply Kd.V_drewN | apply Kd.V_drew)); exact (Kd.V_mono (Kd.V_far (p := ⟨ba, 2, none⟩) (Kd.V_far (p := ⟨ba, 1, none⟩) (Kd.V_far (p := ⟨ba, 0, none⟩) (Kd.V_mono bh.out (fun k_ hk => (⟨hk, hk.2⟩ : _ ∧ k_ ≠ ba))) (fun _ hk => hk.2) (.int .u64 bI)) (fun _ hk => hk.2) (.int .u64 bE)) (fun _ hk => hk.2) (.slice dl bH.length de)) (fun _ h_ => h_.1))) hb); replace bg := Aside0.mk (Kd.V_below (by (with_reducible repeat (first | apply Kd.V_alloc | apply Kd.V_drewN | apply Kd.V_drew)); exact (Kd.V_mono (Kd.V_far (p := ⟨ba, 2, none⟩) (Kd.V_far (p := ⟨ba, 1, none⟩) (Kd.V_far (p := ⟨ba, 0, none⟩) (Kd.V_mono bg.out (fun k_ hk => (⟨hk, hk.2⟩ : _ ∧ k_ ≠ ba))) (fun _ hk => hk.2) (.int .u64 bI)) (fun _ hk => hk.2) (.int .u64 bE)) (fun _ hk => hk.2) (.slice dl bH.length de)) (fun _ h_ => h_.1))) hb); replace bu := Aside0.mk (Kd.N_below zx24_18 hb); replace bd := Aside0.mk (blk_below (g := bb) (o := .cells #[.int .u64 bj, .int .u64 bk, .slice bp bi.length bo] 25 (0, 0)) zx24_7 hb); replace be := Aside0.mk (blk_below (g := bc) (o := .cells #[.int .u64 bm, .int .u64 bn, .slice br bl.length bq] 25 (0, 0)) zx24_8 hb); replace bf := Aside0.mk (blk_below (g := ba) (o := .cells #[.int .u64 bI, .int .u64 bE, .slice dl bH.length de] 25 (0, 0)) zx24_4 hb); replace HB := Aside0.mk (below_step zx24_10 hb); (try clear hb); (try clear hb2); (try clear hk); (try clear hi)))
    go_ret
    exact ⟨by first | rfl | (simp [errW_none, errW_some] <;> rfl) | (simp [*, errW_none, errW_some] <;> rfl), by repeat (first | (with_reducible first | exact HB.out | apply below_alloc | apply pw_below_drewN | apply below_drew1 | refine below_set ?_ bO.out | refine below_set ?_ bR.out | refine below_set ?_ bQ.out) | exact HB.out)⟩
   rw [if_pos c46] at H
   have d7 : (b2 == 0) = true := beq_iff_eq.mpr c46
   have d6 : (b2 != 0) = false := bne_eq_false_iff_eq.mpr c46
   clear c46
   by_cases c47 : b3.toList = a0.toList
   case neg =>
    rw [if_neg c47] at H
    have d5 : (b3.toList == a0.toList) = false := beq_eq_false_iff_ne.mpr c47
    have d4 : (b3.toList != a0.toList) = true := bne_iff_ne.mpr c47
    obtain rfl := Option.some.inj H
    go_wp2_with (first | ((with_reducible refine gate_callee (f := 13) rfl ?_); refine goesL_ (some 70) rfl rfl Tryd.func13 (by kernel_rfl) rfl #[.string a0] rfl zx24_3 ?_; (with_reducible refine (mark_Take.calls bV a0 bI bE bH bS _ A43.out).mono ?_); rintro e w58 ⟨dh, rfl, ho0, hb⟩; refine ⟨_, rfl, ?_⟩; replace bh := Aside0.mk (Kd.V_elder' zx24_5 (Kd.N_base (Kd.S_N (Kd.S_bound ho0))) hb); replace bg := Aside0.mk (Kd.V_elder' zx24_6 (Kd.N_base (Kd.S_N (Kd.S_bound ho0))) hb); have bu := Aside0.mk (Kd.N_lower (Kd.N_mono (ok' := fun k_ => k_ ≠ bb ∧ k_ ≠ bc) (Kd.S_N (Kd.S_bound ho0)) (fun k_ hk_ => ⟨(Kd.freshB (g := bb) (o := .cells #[.int .u64 bj, .int .u64 bk, .slice bp bi.length bo] 25 (0, 0)) zx24_1 k_ hk_.2.1), (Kd.freshB (g := bc) (o := .cells #[.int .u64 bm, .int .u64 bn, .slice br bl.length bq] 25 (0, 0)) zx24_2 k_ hk_.2.1)⟩)) (below_size zx24_0)); replace bd := Aside0.mk (blk_below (g := bb) (o := .cells #[.int .u64 bj, .int .u64 bk, .slice bp bi.length bo] 25 (0, 0)) zx24_1 hb); replace be := Aside0.mk (blk_below (g := bc) (o := .cells #[.int .u64 bm, .int .u64 bn, .slice br bl.length bq] 25 (0, 0)) zx24_2 hb); replace HB := Aside0.mk (below_step zx24_0 hb); (try clear hb); (try clear hb2); (try clear hk); (try clear hi); (try clear ho0)) | ((with_reducible refine gate_dst (N := 14) rfl ?_); (try (refine gate_guard (by rfl) ?_; dsimp only)); refine box_event ?hg (N := 14) ?hd (cs := #[.int .u64 0, .int .u64 0, .slice none 0 0]) (t := 25) ?hr ?_; (case hd => rfl); (case hg => rfl); (case hr => first | (go_simp; done) | (go_simp; rfl)); intro ba hg w59 hbox hb; replace bh := Aside0.mk (Kd.V_below (Kd.V_elderB zx24_5 ba (Nat.le_of_eq hg.symm)) hb); replace bg := Aside0.mk (Kd.V_below (Kd.V_elderB zx24_6 ba (Nat.le_of_eq hg.symm)) hb); replace bu := Aside0.mk (Kd.N_below (Kd.N_elderB zx24_13 ba (Nat.le_of_eq hg.symm)) hb); have bf := Aside0.mk (hbox); have b6 := Aside0.mk ((by rw [hg]; exact (below_size zx24_0) : w.heap.size ≤ ba)); have bQ := Aside0.mk ((by rw [hg]; exact (below_size zx24_0) : w.heap.size ≤ ba)); replace HB := Aside0.mk (below_step zx24_0 hb); have bx := Aside0.mk ((by rw [hg]; exact Nat.ne_of_lt (blk_lt (g := bb) (o := .cells #[.int .u64 bj, .int .u64 bk, .slice bp bi.length bo] 25 (0, 0)) zx24_1) : bb ≠ ba)); have bB := Aside0.mk ((by rw [hg]; exact Nat.ne_of_gt (blk_lt (g := bb) (o := .cells #[.int .u64 bj, .int .u64 bk, .slice bp bi.length bo] 25 (0, 0)) zx24_1) : ba ≠ bb)); replace bd := Aside0.mk (blk_below (g := bb) (o := .cells #[.int .u64 bj, .int .u64 bk, .slice bp bi.length bo] 25 (0, 0)) zx24_1 hb); have bw := Aside0.mk ((by rw [hg]; exact Nat.ne_of_lt (blk_lt (g := bc) (o := .cells #[.int .u64 bm, .int .u64 bn, .slice br bl.length bq] 25 (0, 0)) zx24_2) : bc ≠ ba)); have bA := Aside0.mk ((by rw [hg]; exact Nat.ne_of_gt (blk_lt (g := bc) (o := .cells #[.int .u64 bm, .int .u64 bn, .slice br bl.length bq] 25 (0, 0)) zx24_2) : ba ≠ bc)); replace be := Aside0.mk (blk_below (g := bc) (o := .cells #[.int .u64 bm, .int .u64 bn, .slice br bl.length bq] 25 (0, 0)) zx24_2 hb); clear hb hbox hg; have hR := bB.out; have hD := bx.out; have hQ := bA.out; have hC := bw.out; have gV : w59.cell? ⟨ba, 0, none⟩ = some (.int .u64 0) := (blk_cell bf.out 0).trans rfl; have gU : w59.cell? ⟨ba, 1, none⟩ = some (.int .u64 0) := (blk_cell bf.out 1).trans rfl; have gT : w59.cell? ⟨ba, 2, none⟩ = some (.slice none 0 0) := (blk_cell bf.out 2).trans rfl; have gA := blk_frozen bf.out 0; have gz := blk_frozen bf.out 1; have gy := blk_frozen bf.out 2; obtain ⟨dm, df, hl⟩ := Kd.N_slice bu.out; subst hl) | ((with_reducible refine gate_callee (f := 11) rfl ?_); refine goesL_ (some 90) rfl rfl Tryd.func11 (by kernel_rfl) rfl #[.agg #[.int .u64 bI, .int .u64 bE, .slice dm bH.length df]] rfl zx24_3 ?_; (with_reducible refine (mark_Put.calls bV bI bE _ _ bH b3 b2 _ ?side1 ?side2 A45.out).mono ?_); (case side1 => refine (Kd.N_reads' (e := 55) (base := w.heap.size) (ok := fun k_ => ((k_ ≠ bb ∧ k_ ≠ bc) ∧ k_ ≠ ba)) (n := bH.length) (c := df) ?_).2.2; exact zx24_17); (case side2 => exact (Kd.N_reads' bu.out).2.1); rintro e w64 ⟨rfl, hb⟩; refine ⟨_, rfl, ?_⟩; replace bh := Aside0.mk (Kd.V_below (by (with_reducible repeat (first | apply Kd.V_alloc | apply Kd.V_drewN | apply Kd.V_drew)); exact (Kd.V_mono (Kd.V_far (p := ⟨ba, 2, none⟩) (Kd.V_far (p := ⟨ba, 1, none⟩) (Kd.V_far (p := ⟨ba, 0, none⟩) (Kd.V_mono bh.out (fun k_ hk => (⟨hk, hk.2⟩ : _ ∧ k_ ≠ ba))) (fun _ hk => hk.2) (.int .u64 bI)) (fun _ hk => hk.2) (.int .u64 bE)) (fun _ hk => hk.2) (.slice dm bH.length df)) (fun _ h_ => h_.1))) hb); replace bg := Aside0.mk (Kd.V_below (by (with_reducible repeat (first | apply Kd.V_alloc | apply Kd.V_drewN | apply Kd.V_drew)); exact (Kd.V_mono (Kd.V_far (p := ⟨ba, 2, none⟩) (Kd.V_far (p := ⟨ba, 1, none⟩) (Kd.V_far (p := ⟨ba, 0, none⟩) (Kd.V_mono bg.out (fun k_ hk => (⟨hk, hk.2⟩ : _ ∧ k_ ≠ ba))) (fun _ hk => hk.2) (.int .u64 bI)) (fun _ hk => hk.2) (.int .u64 bE)) (fun _ hk => hk.2) (.slice dm bH.length df)) (fun _ h_ => h_.1))) hb); replace bu := Aside0.mk (Kd.N_below zx24_17 hb); replace bd := Aside0.mk (blk_below (g := bb) (o := .cells #[.int .u64 bj, .int .u64 bk, .slice bp bi.length bo] 25 (0, 0)) zx24_7 hb); replace be := Aside0.mk (blk_below (g := bc) (o := .cells #[.int .u64 bm, .int .u64 bn, .slice br bl.length bq] 25 (0, 0)) zx24_8 hb); replace bf := Aside0.mk (blk_below (g := ba) (o := .cells #[.int .u64 bI, .int .u64 bE, .slice dm bH.length df] 25 (0, 0)) zx24_4 hb); replace HB := Aside0.mk (below_step zx24_10 hb); (try clear hb); (try clear hb2); (try clear hk); (try clear hi)))
    go_ret
    exact ⟨by first | rfl | (simp [errW_none, errW_some] <;> rfl) | (simp [*, errW_none, errW_some] <;> rfl), by repeat (first | (with_reducible first | exact HB.out | apply below_alloc | apply pw_below_drewN | apply below_drew1 | refine below_set ?_ bO.out | refine below_set ?_ bR.out | refine below_set ?_ bQ.out) | exact HB.out)⟩
   rw [if_pos c47] at H
   have d5 : (b3.toList == a0.toList) = true := beq_iff_eq.mpr c47
   have d4 : (b3.toList != a0.toList) = false := bne_eq_false_iff_eq.mpr c47
   clear c47
   replace H := Option.bind_eq_some_iff.mp H
   obtain ⟨bY, ga, H⟩ := H
   replace H : (some bY) = some r := H
   have A48 := Aside0.mk ga
   clear ga
   obtain rfl := Option.some.inj H
   go_wp2_with (first | ((with_reducible refine gate_callee (f := 13) rfl ?_); refine goesL_ (some 70) rfl rfl Tryd.func13 (by kernel_rfl) rfl #[.string a0] rfl zx24_3 ?_; (with_reducible refine (mark_Take.calls bV a0 bI bE bH bS _ A43.out).mono ?_); rintro e w49 ⟨dh, rfl, ho0, hb⟩; refine ⟨_, rfl, ?_⟩; replace bh := Aside0.mk (Kd.V_elder' zx24_5 (Kd.N_base (Kd.S_N (Kd.S_bound ho0))) hb); replace bg := Aside0.mk (Kd.V_elder' zx24_6 (Kd.N_base (Kd.S_N (Kd.S_bound ho0))) hb); have bu := Aside0.mk (Kd.N_lower (Kd.N_mono (ok' := fun k_ => k_ ≠ bb ∧ k_ ≠ bc) (Kd.S_N (Kd.S_bound ho0)) (fun k_ hk_ => ⟨(Kd.freshB (g := bb) (o := .cells #[.int .u64 bj, .int .u64 bk, .slice bp bi.length bo] 25 (0, 0)) zx24_1 k_ hk_.2.1), (Kd.freshB (g := bc) (o := .cells #[.int .u64 bm, .int .u64 bn, .slice br bl.length bq] 25 (0, 0)) zx24_2 k_ hk_.2.1)⟩)) (below_size zx24_0)); replace bd := Aside0.mk (blk_below (g := bb) (o := .cells #[.int .u64 bj, .int .u64 bk, .slice bp bi.length bo] 25 (0, 0)) zx24_1 hb); replace be := Aside0.mk (blk_below (g := bc) (o := .cells #[.int .u64 bm, .int .u64 bn, .slice br bl.length bq] 25 (0, 0)) zx24_2 hb); replace HB := Aside0.mk (below_step zx24_0 hb); (try clear hb); (try clear hb2); (try clear hk); (try clear hi); (try clear ho0)) | ((with_reducible refine gate_dst (N := 14) rfl ?_); (try (refine gate_guard (by rfl) ?_; dsimp only)); refine box_event ?hg (N := 14) ?hd (cs := #[.int .u64 0, .int .u64 0, .slice none 0 0]) (t := 25) ?hr ?_; (case hd => rfl); (case hg => rfl); (case hr => first | (go_simp; done) | (go_simp; rfl)); intro ba hg w50 hbox hb; replace bh := Aside0.mk (Kd.V_below (Kd.V_elderB zx24_5 ba (Nat.le_of_eq hg.symm)) hb); replace bg := Aside0.mk (Kd.V_below (Kd.V_elderB zx24_6 ba (Nat.le_of_eq hg.symm)) hb); replace bu := Aside0.mk (Kd.N_below (Kd.N_elderB zx24_13 ba (Nat.le_of_eq hg.symm)) hb); have bf := Aside0.mk (hbox); have b6 := Aside0.mk ((by rw [hg]; exact (below_size zx24_0) : w.heap.size ≤ ba)); have bQ := Aside0.mk ((by rw [hg]; exact (below_size zx24_0) : w.heap.size ≤ ba)); replace HB := Aside0.mk (below_step zx24_0 hb); have bx := Aside0.mk ((by rw [hg]; exact Nat.ne_of_lt (blk_lt (g := bb) (o := .cells #[.int .u64 bj, .int .u64 bk, .slice bp bi.length bo] 25 (0, 0)) zx24_1) : bb ≠ ba)); have bB := Aside0.mk ((by rw [hg]; exact Nat.ne_of_gt (blk_lt (g := bb) (o := .cells #[.int .u64 bj, .int .u64 bk, .slice bp bi.length bo] 25 (0, 0)) zx24_1) : ba ≠ bb)); replace bd := Aside0.mk (blk_below (g := bb) (o := .cells #[.int .u64 bj, .int .u64 bk, .slice bp bi.length bo] 25 (0, 0)) zx24_1 hb); have bw := Aside0.mk ((by rw [hg]; exact Nat.ne_of_lt (blk_lt (g := bc) (o := .cells #[.int .u64 bm, .int .u64 bn, .slice br bl.length bq] 25 (0, 0)) zx24_2) : bc ≠ ba)); have bA := Aside0.mk ((by rw [hg]; exact Nat.ne_of_gt (blk_lt (g := bc) (o := .cells #[.int .u64 bm, .int .u64 bn, .slice br bl.length bq] 25 (0, 0)) zx24_2) : ba ≠ bc)); replace be := Aside0.mk (blk_below (g := bc) (o := .cells #[.int .u64 bm, .int .u64 bn, .slice br bl.length bq] 25 (0, 0)) zx24_2 hb); clear hb hbox hg; have hT := bB.out; have hF := bx.out; have hS := bA.out; have hE := bw.out; have hc : w50.cell? ⟨ba, 0, none⟩ = some (.int .u64 0) := (blk_cell bf.out 0).trans rfl; have ha : w50.cell? ⟨ba, 1, none⟩ = some (.int .u64 0) := (blk_cell bf.out 1).trans rfl; have gZ : w50.cell? ⟨ba, 2, none⟩ = some (.slice none 0 0) := (blk_cell bf.out 2).trans rfl; have gG := blk_frozen bf.out 0; have gF := blk_frozen bf.out 1; have gE := blk_frozen bf.out 2; obtain ⟨da, b5, hm⟩ := Kd.N_slice bu.out; subst hm) | ((with_reducible refine gate_callee (f := 11) rfl ?_); refine goesL_ (some 90) rfl rfl Tryd.func11 (by kernel_rfl) rfl #[.agg #[.int .u64 bI, .int .u64 bE, .slice da bH.length b5]] rfl zx24_3 ?_; (with_reducible refine (mark_Put.calls bV bI bE _ _ bH b3 b2 _ ?side1 ?side2 A45.out).mono ?_); (case side1 => refine (Kd.N_reads' (e := 55) (base := w.heap.size) (ok := fun k_ => ((k_ ≠ bb ∧ k_ ≠ bc) ∧ k_ ≠ ba)) (n := bH.length) (c := b5) ?_).2.2; exact zx24_16); (case side2 => exact (Kd.N_reads' bu.out).2.1); rintro e w55 ⟨rfl, hb⟩; refine ⟨_, rfl, ?_⟩; replace bh := Aside0.mk (Kd.V_below (by (with_reducible repeat (first | apply Kd.V_alloc | apply Kd.V_drewN | apply Kd.V_drew)); exact (Kd.V_mono (Kd.V_far (p := ⟨ba, 2, none⟩) (Kd.V_far (p := ⟨ba, 1, none⟩) (Kd.V_far (p := ⟨ba, 0, none⟩) (Kd.V_mono bh.out (fun k_ hk => (⟨hk, hk.2⟩ : _ ∧ k_ ≠ ba))) (fun _ hk => hk.2) (.int .u64 bI)) (fun _ hk => hk.2) (.int .u64 bE)) (fun _ hk => hk.2) (.slice da bH.length b5)) (fun _ h_ => h_.1))) hb); replace bg := Aside0.mk (Kd.V_below (by (with_reducible repeat (first | apply Kd.V_alloc | apply Kd.V_drewN | apply Kd.V_drew)); exact (Kd.V_mono (Kd.V_far (p := ⟨ba, 2, none⟩) (Kd.V_far (p := ⟨ba, 1, none⟩) (Kd.V_far (p := ⟨ba, 0, none⟩) (Kd.V_mono bg.out (fun k_ hk => (⟨hk, hk.2⟩ : _ ∧ k_ ≠ ba))) (fun _ hk => hk.2) (.int .u64 bI)) (fun _ hk => hk.2) (.int .u64 bE)) (fun _ hk => hk.2) (.slice da bH.length b5)) (fun _ h_ => h_.1))) hb); replace bu := Aside0.mk (Kd.N_below zx24_16 hb); replace bd := Aside0.mk (blk_below (g := bb) (o := .cells #[.int .u64 bj, .int .u64 bk, .slice bp bi.length bo] 25 (0, 0)) zx24_7 hb); replace be := Aside0.mk (blk_below (g := bc) (o := .cells #[.int .u64 bm, .int .u64 bn, .slice br bl.length bq] 25 (0, 0)) zx24_8 hb); replace bf := Aside0.mk (blk_below (g := ba) (o := .cells #[.int .u64 bI, .int .u64 bE, .slice da bH.length b5] 25 (0, 0)) zx24_4 hb); replace HB := Aside0.mk (below_step zx24_10 hb); (try clear hb); (try clear hb2); (try clear hk); (try clear hi); have gY : w55.cell? ⟨ba, 0, none⟩ = some (.int .u64 bI) := (blk_cell bf.out 0).trans rfl; have gX : w55.cell? ⟨ba, 1, none⟩ = some (.int .u64 bE) := (blk_cell bf.out 1).trans rfl; have gW : w55.cell? ⟨ba, 2, none⟩ = some (.slice da bH.length b5) := (blk_cell bf.out 2).trans rfl; have gD := blk_frozen bf.out 0; have gC := blk_frozen bf.out 1; have gB := blk_frozen bf.out 2) | (go_at_call 15; (with_reducible refine (ledger_Right.calls bV bI bE _ _ bH bY _ ?side1 ?side2 A48.out).mono ?_); (case side1 => repeat (first | exact (Kd.N_reads' bu.out).2.2 | (with_reducible refine Kd.C_alloc ?_ _) | (with_reducible refine Kd.C_drewN ?_ _) | (with_reducible refine Kd.C_drew ?_))); (case side2 => exact (Kd.N_reads' bu.out).2.1); rintro e w57 ⟨rfl, hb⟩; replace bh := Aside0.mk (Kd.V_below zx24_5 hb); replace bg := Aside0.mk (Kd.V_below zx24_6 hb); replace bu := Aside0.mk (Kd.N_below zx24_13 hb); replace bd := Aside0.mk (blk_below (g := bb) (o := .cells #[.int .u64 bj, .int .u64 bk, .slice bp bi.length bo] 25 (0, 0)) zx24_1 hb); replace be := Aside0.mk (blk_below (g := bc) (o := .cells #[.int .u64 bm, .int .u64 bn, .slice br bl.length bq] 25 (0, 0)) zx24_2 hb); replace bf := Aside0.mk (blk_below (g := ba) (o := .cells #[.int .u64 bI, .int .u64 bE, .slice da bH.length b5] 25 (0, 0)) (by (with_reducible repeat (first | refine blk_drewN ?_ _ | refine blk_drew ?_ | refine blk_alloc ?_ _)); exact bf.out) hb); replace HB := Aside0.mk (below_step zx24_10 hb); (try clear hb); (try clear hb2); (try clear hk); (try clear hi)))
   go_ret
   exact ⟨by first | rfl | (simp [errW_none, errW_some] <;> rfl) | (simp [*, errW_none, errW_some] <;> rfl), by repeat (first | (with_reducible first | exact HB.out | apply below_alloc | apply pw_below_drewN | apply below_drew1 | refine below_set ?_ bO.out | refine below_set ?_ bR.out | refine below_set ?_ bQ.out) | exact HB.out)⟩
/-- THE ONE PURE STATEMENT of postroomlaw11_MarkOne. -/
def postroomlaw11_MarkOne.Pure : Prop := ∀ (a0 : ByteArray) (l1 : List (S75)) (l2 : List (S75)), a0.size ≤ 140737488351232 → l1.length ≤ maxLen → l1.length * 24 ≤ 140737488351232 → (∀ x ∈ l1, ((Lit.int .i64 x.f0).wf = true ∧ (Lit.int .i64 x.f1).wf = true ∧ (Lit.int .i64 x.f2).wf = true)) → l2.length ≤ maxLen → l2.length * 24 ≤ 140737488351232 → (∀ x ∈ l2, ((Lit.int .i64 x.f0).wf = true ∧ (Lit.int .i64 x.f1).wf = true ∧ (Lit.int .i64 x.f2).wf = true)) → ∃ k, postroomlaw11_MarkOne.f k a0 l1 l2 = some true
theorem postroomlaw11_MarkOne.walk (P : postroomlaw11_MarkOne.Pure) (a0 : ByteArray) (A1 : Option Addr) (c1 : Nat) (l1 : List (S75)) (A2 : Option Addr) (c2 : Nat) (l2 : List (S75)) (w : World) (hr1 : Kd.C k75 w A1 l1.length l1) (hc1 : l1.length ≤ c1) (hr2 : Kd.C k75 w A2 l2.length l2) (hc2 : l2.length ≤ c2) (hw0 : a0.size ≤ 140737488351232) (hm1 : l1.length ≤ maxLen) (hy1 : l1.length * 24 ≤ 140737488351232) (hw1 : (∀ x ∈ l1, ((Lit.int .i64 x.f0).wf = true ∧ (Lit.int .i64 x.f1).wf = true ∧ (Lit.int .i64 x.f2).wf = true))) (hm2 : l2.length ≤ maxLen) (hy2 : l2.length * 24 ≤ 140737488351232) (hw2 : (∀ x ∈ l2, ((Lit.int .i64 x.f0).wf = true ∧ (Lit.int .i64 x.f1).wf = true ∧ (Lit.int .i64 x.f2).wf = true))) :
  Calls Tryd.prog 5 #[.string a0, .slice A1 l1.length c1, .slice A2 l2.length c2] w fun e w' => e = .returned (.bool true) ∧ Below w.heap.size w w' := by
 obtain ⟨k, h⟩ := P a0 l1 l2 hw0 hm1 hy1 hw1 hm2 hy2 hw2
 refine (postroomlaw11_MarkOne.calls k a0 A1 c1 l1 A2 c2 l2 true w hr1 hc1 hr2 hc2 h).mono ?_
 rintro e w' ⟨rfl, hd⟩
 exact ⟨rfl, hd⟩

end Go.Proofs.YtmbigoeldobaiaaDoor.XMrk
