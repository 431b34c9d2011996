/- What the functions of the translation answer, each as a plain Lean function, and that the code comes to it; for a law: its row. Conditions: none but those that each theorem names. Written by a program of this session (wip/xp). -/
import Derived.Test.YtmbigoeldobaiaaDoorXMrkP1
import Derived.Test.YtmbigoeldobaiaaDoorXMrkP4
import Derived.Test.YtmbigoeldobaiaaDoorXMrkx12
import Derived.Test.YtmbigoeldobaiaaDoorXMrkx14
import Derived.Test.YtmbigoeldobaiaaDoorXMrkx22
namespace Go.Proofs.YtmbigoeldobaiaaDoor.XMrk
open Go.RowKit Go.Proofs.YtmbigoeldobaiaaDoorW.PrintWords Go.Proofs.YtmbigoeldobaiaaDoorW.PrintLast Go.Proofs.YtmbigoeldobaiaaDoorW.PrintMore
attribute [local go_sem] max2_int min2_int max_two min_two max_three min_three max_four min_four   -- for this text's walks alone
theorem zx23_19 {p : Prop} (h : p := by first | rfl | (simp; done) | (simp [*]; done)) : p := h
theorem zx23_13 {p : Prop} (h : p := by (with_reducible repeat (first | apply Kd.V_alloc | apply Kd.V_drewN | apply Kd.V_drew)); exact bn.out) : p := h
theorem zx23_18 {p : Prop} (h : p := by (with_reducible repeat (first | apply Kd.N_alloc | apply Kd.N_drewN | apply Kd.N_drew)); exact bo.out) : p := h
theorem zx23_8 {p : Prop} (h : p := by (with_reducible repeat (first | apply Kd.N_alloc | apply Kd.N_drewN | apply Kd.N_drew)); exact bl.out) : p := h
theorem zx23_10 {p : Prop} (h : p := by (with_reducible repeat (first | apply Kd.V_alloc | apply Kd.V_drewN | apply Kd.V_drew)); exact bm.out) : p := h
theorem zx23_1 {p : Prop} (h : p := by (with_reducible repeat (first | refine blk_drewN ?_ _ | refine blk_drew ?_ | refine blk_alloc ?_ _)); exact bc.out) : p := h
theorem zx23_2 {p : Prop} (h : p := by (with_reducible repeat (first | refine blk_drewN ?_ _ | refine blk_drew ?_ | refine blk_alloc ?_ _)); exact bd.out) : p := h
theorem zx23_12 {p : Prop} (h : p := by (with_reducible repeat (first | refine blk_drewN ?_ _ | refine blk_drew ?_ | refine blk_alloc ?_ _)); exact bB.out) : p := h
theorem zx23_11 {p : Prop} (h : p := by repeat (first | (with_reducible first | exact HB.out | apply below_alloc | apply pw_below_drewN | apply below_drew1) | exact HB.out)) : p := h
theorem zx23_5 {p : Prop} (h : p := by (try simp only [List.map_toArray, List.map_cons, List.map_nil]); first | done | rfl | (simp only [List.length_drop, List.length_take]; rfl)) : p := h
theorem zx23_9 {p : Prop} (h : p := by repeat (first | (with_reducible first | exact HB.out | apply below_alloc | apply pw_below_drewN | apply below_drew1 | refine below_set ?_ bG.out) | exact HB.out)) : p := h
theorem zx23_0 {p : Prop} (h : p := by repeat (first | (with_reducible first | exact HB.out | apply below_alloc | apply pw_below_drewN | apply below_drew1 | refine below_set ?_ bG.out | refine below_set ?_ bM.out) | exact HB.out)) : p := h
theorem zx23_3 {p : Prop} (h : p := by repeat (first | (with_reducible first | exact HB.out | apply below_alloc | apply pw_below_drewN | apply below_drew1 | refine below_set ?_ bG.out | refine below_set ?_ bM.out | refine below_set ?_ di.out) | exact HB.out)) : p := h
theorem zx23_16 {p : Prop} (h : p := by (with_reducible repeat (first | apply Kd.V_alloc | apply Kd.V_drewN | apply Kd.V_drew)); exact (Kd.V_mono (Kd.V_far (p := ⟨bb, 2, none⟩) (Kd.V_far (p := ⟨bb, 1, none⟩) (Kd.V_far (p := ⟨bb, 0, none⟩) (Kd.V_mono bn.out (fun k_ hk => (⟨hk, hk.2⟩ : _ ∧ k_ ≠ bb))) (fun _ hk => hk.2) (.int .u64 bp)) (fun _ hk => hk.2) (.int .u64 br)) (fun _ hk => hk.2) (.slice bw bk.length bu)) (fun _ h_ => h_.1))) : p := h
theorem zx23_17 {p : Prop} (h : p := by (with_reducible repeat (first | apply Kd.N_alloc | apply Kd.N_drewN | apply Kd.N_drew)); exact (Kd.N_mono (Kd.N_far (p := ⟨be, 2, none⟩) (Kd.N_far (p := ⟨be, 1, none⟩) (Kd.N_far (p := ⟨be, 0, none⟩) (Kd.N_mono bE.out (fun k_ hk => (⟨hk, hk.2⟩ : _ ∧ k_ ≠ be))) (fun _ hk => hk.2) (.int .u64 bJ)) (fun _ hk => hk.2) (.int .u64 bO)) (fun _ hk => hk.2) (.slice dc bI.length da)) (fun _ h_ => h_.1))) : p := h
theorem zx23_14 {p : Prop} (h : p := by (with_reducible repeat (first | apply Kd.N_alloc | apply Kd.N_drewN | apply Kd.N_drew)); exact (Kd.N_mono (Kd.N_far (p := ⟨be, 2, none⟩) (Kd.N_far (p := ⟨be, 1, none⟩) (Kd.N_far (p := ⟨be, 0, none⟩) (Kd.N_mono bl.out (fun k_ hk => (⟨hk, hk.2⟩ : _ ∧ k_ ≠ be))) (fun _ hk => hk.2) (.int .u64 bJ)) (fun _ hk => hk.2) (.int .u64 bO)) (fun _ hk => hk.2) (.slice dc bI.length da)) (fun _ h_ => h_.1))) : p := h
theorem zx23_15 {p : Prop} (h : p := by (with_reducible repeat (first | apply Kd.N_alloc | apply Kd.N_drewN | apply Kd.N_drew)); exact (Kd.N_mono (Kd.N_far (p := ⟨be, 2, none⟩) (Kd.N_far (p := ⟨be, 1, none⟩) (Kd.N_far (p := ⟨be, 0, none⟩) (Kd.N_mono bl.out (fun k_ hk => (⟨hk, hk.2⟩ : _ ∧ k_ ≠ be))) (fun _ hk => hk.2) (.int .u64 bJ)) (fun _ hk => hk.2) (.int .u64 bO)) (fun _ hk => hk.2) (.slice db bI.length b9)) (fun _ h_ => h_.1))) : p := h
theorem zx23_6 {p : Prop} (h : p := by (iterate 3 ((with_reducible repeat (first | refine blk_drewN ?_ _ | refine blk_drew ?_ | refine blk_alloc ?_ _)); refine blk_far ?_ bS.out _)); (with_reducible repeat (first | refine blk_drewN ?_ _ | refine blk_drew ?_ | refine blk_alloc ?_ _)); exact bc.out) : p := h
theorem zx23_7 {p : Prop} (h : p := by (iterate 3 ((with_reducible repeat (first | refine blk_drewN ?_ _ | refine blk_drew ?_ | refine blk_alloc ?_ _)); refine blk_far ?_ bR.out _)); (with_reducible repeat (first | refine blk_drewN ?_ _ | refine blk_drew ?_ | refine blk_alloc ?_ _)); exact bd.out) : p := h
theorem zx23_4 {p : Prop} (h : p := by (with_reducible repeat (first | refine blk_drewN ?_ _ | refine blk_drew ?_ | refine blk_alloc ?_ _)); refine blk_put (cs := #[.int .u64 bJ, .int .u64 bO, .slice none 0 0]) ?_ 2 _ rfl; (with_reducible repeat (first | refine blk_drewN ?_ _ | refine blk_drew ?_ | refine blk_alloc ?_ _)); refine blk_put (cs := #[.int .u64 bJ, .int .u64 0, .slice none 0 0]) ?_ 1 _ rfl; (with_reducible repeat (first | refine blk_drewN ?_ _ | refine blk_drew ?_ | refine blk_alloc ?_ _)); refine blk_put (cs := #[.int .u64 0, .int .u64 0, .slice none 0 0]) ?_ 0 _ rfl; (with_reducible repeat (first | refine blk_drewN ?_ _ | refine blk_drew ?_ | refine blk_alloc ?_ _)); exact bB.out) : p := h
set_option linter.unusedVariables false
set_option linter.unusedSimpArgs false

/-! ### postroomlaw11_MarkBack: function 4 -/
mutual
def postroomlaw11_MarkBack.j0 : Nat → List (S75) → ByteArray → Int → Bool → Bool → Option (Bool)
 | 0, _, _, _, _, _ => none
 | k + 1, x0, x1, x2, x7, x29 => if x29 = true then (some x7) else ((postroomlaw11_run.f k x0).bind fun bK => ((mark_Put.f k bK.1 bK.2.1 bK.2.2).bind fun bA => ((mark_Take.f k bA.1).bind fun bD => (if bA.2 = 0 then (if bD.2.2.2 = 0 then (if (bA.1.size : Int) = 0 then (postroomlaw11_MarkBack.j1 k x1 x2 bA.1 true) else ((postroomlaw11_asLedger.f k bD.1 bD.2.1 bD.2.2.1).bind fun bC => ((postroomlaw11_asLedger.f k bK.1 bK.2.1 bK.2.2).bind fun bz => ((postroomref11_Same.f k bC.1 bC.2.1 bC.2.2 bz.1 bz.2.1 bz.2.2).bind fun bQ => (postroomlaw11_MarkBack.j1 k x1 x2 bA.1 (!bQ)))))) else (postroomlaw11_MarkBack.j1 k x1 x2 bA.1 true)) else (postroomlaw11_MarkBack.j1 k x1 x2 bA.1 true)))))
def postroomlaw11_MarkBack.j1 : Nat → ByteArray → Int → ByteArray → Bool → Option (Bool)
 | 0, _, _, _, _ => none
 | k + 1, x1, x2, x9, x61 => if x61 = true then (some false) else ((postroomlaw11_pick.f x2 (x9.size : Int)).bind fun bH => (if 0 ≤ bH then (if bH ≤ (x9.size : Int) then ((mark_Take.f k (x9.extract 0 (bH : Int).toNat)).bind fun de => (if x9.size + x1.size ≤ 9223372036854775807 then ((mark_Take.f k (x9 ++ x1)).bind fun b3 => (if de.2.2.2 = 2 then (some ((b3.2.2.2 == 0) == (x1.toList == ([] : List UInt8)))) else (some false))) else (none))) else (none)) else (none)))
end
def postroomlaw11_MarkBack.f (k : Nat) (l0 : List (S75)) (a1 : ByteArray) (a2 : Int) : Option (Bool) := (postroomlaw11_shown.f k).bind fun bP => (if bP = true then (if (l0.length : Int) > 100 then (postroomlaw11_MarkBack.j0 k l0 a1 a2 bP true) else (postroomlaw11_MarkBack.j0 k l0 a1 a2 bP (decide ((a1.size : Int) > 1000)))) else (postroomlaw11_MarkBack.j0 k l0 a1 a2 bP true))
def postroomlaw11_MarkBack.T7 : Bool × List (List Nat × List Nat) := (true, [([], []), ([0], [0]), ([1], [1]), ([2], [2]), ([3, 2], [2, 3]), ([2, 4], [2, 4]), ([5, 2], [5]), ([6], [6]), ([7, 6], [6, 7]), ([8, 6], [6, 8]), ([6, 9], [6, 9]), ([10, 6], [10]), ([11], [11]), ([12, 11, 11], [11, 12]), ([11], [11]), ([14, 13, 11], [11, 14]), ([13, 15, 15, 11], [11, 13, 15]), ([16, 11], [11, 16]), ([11, 17], [11, 17])])
def postroomlaw11_MarkBack.B7 : List Nat := [0, 1, 3, 7, 15, 31, 63, 127, 255, 511, 1023, 2047, 4095, 8191, 4095, 32767, 65535, 131071, 262143]
theorem postroomlaw11_MarkBack.tab7 : rtab .any (opsOf Tryd.f4 7) = postroomlaw11_MarkBack.T7 := by kernel_rfl
theorem postroomlaw11_MarkBack.bits7 : waitsOk postroomlaw11_MarkBack.T7.2 postroomlaw11_MarkBack.B7 = true := by kernel_rfl
set_option maxHeartbeats 8000000 in
set_option maxRecDepth 100000 in
theorem postroomlaw11_MarkBack.calls (k : Nat) (A0 : Option Addr) (c0 : Nat) (l0 : List (S75)) (a1 : ByteArray) (a2 : Int) (r : Bool) (w : World) (hr0 : Kd.C k75 w A0 l0.length l0) (hc0 : l0.length ≤ c0) (h : postroomlaw11_MarkBack.f k l0 a1 a2 = some r) :
  Calls Tryd.prog 4 #[.slice A0 l0.length c0, .string a1, .int .i64 a2] w fun e w' => e = .returned (.bool r) ∧ Below w.heap.size w w' := by
 have hx := Tryd.underlying25
 have HR0 := Aside0.mk hr0
 have HC0 := Aside0.mk hc0
 clear hr0 hc0
 have HB := Aside0.mk (Below.refl w.heap.size w)
 have H : ((postroomlaw11_shown.f k).bind fun bP => (if bP = true then (if (l0.length : Int) > 100 then (postroomlaw11_MarkBack.j0 k l0 a1 a2 bP true) else (postroomlaw11_MarkBack.j0 k l0 a1 a2 bP (decide ((a1.size : Int) > 1000)))) else (postroomlaw11_MarkBack.j0 k l0 a1 a2 bP true))) = some r := h
 clear h
 replace H := Option.bind_eq_some_iff.mp H
 obtain ⟨bP, A40, H⟩ := H
 replace H : (if bP = true then (if (l0.length : Int) > 100 then (postroomlaw11_MarkBack.j0 k l0 a1 a2 bP true) else (postroomlaw11_MarkBack.j0 k l0 a1 a2 bP (decide ((a1.size : Int) > 1000)))) else (postroomlaw11_MarkBack.j0 k l0 a1 a2 bP true)) = some r := H
 have A4 := Aside0.mk A40
 clear A40
 have HC5 := Aside0.mk H
 clear H
 go_enter Tryd.func4, Tryd.ntmps4
 go_upto_region 2 with (first | ((with_reducible refine gate_callee (f := 8) rfl ?_); refine goesL_ (some 17) rfl rfl Tryd.func8 (by kernel_rfl) rfl #[] rfl zx23_5 ?_; (with_reducible refine (postroomlaw11_shown.calls k  bP _ A4.out).mono ?_); rintro e w6 ⟨rfl, hb⟩; refine ⟨_, rfl, ?_⟩; replace HB := Aside0.mk (below_step zx23_11 hb); (try clear hb); (try clear hb2); (try clear hk); (try clear hi)))
 (try simp only [Act.put, List.setIfInBounds_toArray, List.set_cons_zero, List.set_cons_succ])
 go_cut [29] (fun v29 wc => ∃ (kq : Nat) (dg : Bool), v29 = .bool dg ∧ Aside0 (postroomlaw11_MarkBack.j0 kq l0 a1 a2 bP dg = some r) ∧ Aside0 (kq ≤ k) ∧ Aside0 (Below w.heap.size w wc))
 case first =>
  have H := HC5.out
  clear HC5
  by_cases c7 : bP = true
  case neg =>
   replace c7 := Bool.eq_false_iff.mpr c7
   subst c7
   have H1 : (postroomlaw11_MarkBack.j0 k l0 a1 a2 false true) = some r := by rw [if_neg (show ¬ (false = true) by decide)] at H; exact H
   clear H
   have H := H1
   clear H1
   have H' := Aside0.mk H
   clear H
   go_wp2
   go_meet
   case rel => exact ⟨_, (true), zx23_19, H', ⟨by first | omega | exact Nat.le_refl _⟩, ⟨by repeat (first | (with_reducible first | exact HB.out | apply below_alloc | apply pw_below_drewN | apply below_drew1) | exact HB.out)⟩⟩
  subst c7
  have H1 : (if (l0.length : Int) > 100 then (postroomlaw11_MarkBack.j0 k l0 a1 a2 true true) else (postroomlaw11_MarkBack.j0 k l0 a1 a2 true (decide ((a1.size : Int) > 1000)))) = some r := by rw [if_pos rfl] at H; exact H
  clear H
  have H := H1
  clear H1
  by_cases c8 : (l0.length : Int) > 100
  ·rw [if_pos c8] at H
   have dj : decide (100 < (l0.length : Int)) = true := decide_eq_true c8
   have dF : decide (100 < l0.length) = true := decide_eq_true (by omega)
   clear c8
   (first | rw [dj] | (simp only [i64_w, i32_w]; rw [dj]) | skip)
   have H' := Aside0.mk H
   clear H
   go_wp2
   go_meet
   case rel => exact ⟨_, (true), zx23_19, H', ⟨by first | omega | exact Nat.le_refl _⟩, ⟨by repeat (first | (with_reducible first | exact HB.out | apply below_alloc | apply pw_below_drewN | apply below_drew1) | exact HB.out)⟩⟩
  rw [if_neg c8] at H
  have dj : decide (100 < (l0.length : Int)) = false := decide_eq_false c8
  have dF : decide (100 < l0.length) = false := decide_eq_false (by omega)
  clear c8
  (first | rw [dj] | (simp only [i64_w, i32_w]; rw [dj]) | skip)
  have H' := Aside0.mk H
  clear H
  go_wp2
  go_meet
  case rel => exact ⟨_, (decide ((a1.size : Int) > 1000)), zx23_19, H', ⟨by first | omega | exact Nat.le_refl _⟩, ⟨by repeat (first | (with_reducible first | exact HB.out | apply below_alloc | apply pw_below_drewN | apply below_drew1) | exact HB.out)⟩⟩
 case rest =>
  clear HC5
  (try clear p2); (try clear c4); (try clear c7); (try clear c8); (try clear dj); (try clear dF)
  obtain ⟨kq, dg, rfl, HA, HJ4, HB⟩ := hcut
  cases kq with
  | zero => exact absurd HA.out (by simp [postroomlaw11_MarkBack.j0])
  | succ kj4 => ?_
  have H := HA.out
  clear HA
  simp only [postroomlaw11_MarkBack.j0] at H
  by_cases c9 : dg = true
  ·subst c9
   have H1 : (some bP) = some r := by rw [if_pos rfl] at H; exact H
   clear H
   have H := H1
   clear H1
   obtain rfl := Option.some.inj H
   go_wp2
   go_ret
   exact ⟨by first | rfl | (simp [errW_none, errW_some] <;> rfl) | (simp [*, errW_none, errW_some] <;> rfl), by repeat (first | (with_reducible first | exact HB.out | apply below_alloc | apply pw_below_drewN | apply below_drew1) | exact HB.out)⟩
  replace c9 := Bool.eq_false_iff.mpr c9
  subst c9
  have H1 : ((postroomlaw11_run.f kj4 l0).bind fun bK => ((mark_Put.f kj4 bK.1 bK.2.1 bK.2.2).bind fun bA => ((mark_Take.f kj4 bA.1).bind fun bD => (if bA.2 = 0 then (if bD.2.2.2 = 0 then (if (bA.1.size : Int) = 0 then (postroomlaw11_MarkBack.j1 kj4 a1 a2 bA.1 true) else ((postroomlaw11_asLedger.f kj4 bD.1 bD.2.1 bD.2.2.1).bind fun bC => ((postroomlaw11_asLedger.f kj4 bK.1 bK.2.1 bK.2.2).bind fun bz => ((postroomref11_Same.f kj4 bC.1 bC.2.1 bC.2.2 bz.1 bz.2.1 bz.2.2).bind fun bQ => (postroomlaw11_MarkBack.j1 kj4 a1 a2 bA.1 (!bQ)))))) else (postroomlaw11_MarkBack.j1 kj4 a1 a2 bA.1 true)) else (postroomlaw11_MarkBack.j1 kj4 a1 a2 bA.1 true))))) = some r := by rw [if_neg (show ¬ (false = true) by decide)] at H; exact H
  clear H
  have H := H1
  clear H1
  replace H := Option.bind_eq_some_iff.mp H
  obtain ⟨⟨bp, br, bk⟩, dU, H⟩ := H
  replace H : ((mark_Put.f kj4 bp br bk).bind fun bA => ((mark_Take.f kj4 bA.1).bind fun bD => (if bA.2 = 0 then (if bD.2.2.2 = 0 then (if (bA.1.size : Int) = 0 then (postroomlaw11_MarkBack.j1 kj4 a1 a2 bA.1 true) else ((postroomlaw11_asLedger.f kj4 bD.1 bD.2.1 bD.2.2.1).bind fun bC => ((postroomlaw11_asLedger.f kj4 bp br bk).bind fun bz => ((postroomref11_Same.f kj4 bC.1 bC.2.1 bC.2.2 bz.1 bz.2.1 bz.2.2).bind fun bQ => (postroomlaw11_MarkBack.j1 kj4 a1 a2 bA.1 (!bQ)))))) else (postroomlaw11_MarkBack.j1 kj4 a1 a2 bA.1 true)) else (postroomlaw11_MarkBack.j1 kj4 a1 a2 bA.1 true)))) = some r := H
  have A10 := Aside0.mk dU
  clear dU
  replace H := Option.bind_eq_some_iff.mp H
  obtain ⟨⟨bq, dd⟩, dT, H⟩ := H
  replace H : ((mark_Take.f kj4 bq).bind fun bD => (if dd = 0 then (if bD.2.2.2 = 0 then (if (bq.size : Int) = 0 then (postroomlaw11_MarkBack.j1 kj4 a1 a2 bq true) else ((postroomlaw11_asLedger.f kj4 bD.1 bD.2.1 bD.2.2.1).bind fun bC => ((postroomlaw11_asLedger.f kj4 bp br bk).bind fun bz => ((postroomref11_Same.f kj4 bC.1 bC.2.1 bC.2.2 bz.1 bz.2.1 bz.2.2).bind fun bQ => (postroomlaw11_MarkBack.j1 kj4 a1 a2 bq (!bQ)))))) else (postroomlaw11_MarkBack.j1 kj4 a1 a2 bq true)) else (postroomlaw11_MarkBack.j1 kj4 a1 a2 bq true))) = some r := H
  have A11 := Aside0.mk dT
  clear dT
  replace H := Option.bind_eq_some_iff.mp H
  obtain ⟨⟨bi, bj, bf, df⟩, dS, H⟩ := H
  replace H : (if dd = 0 then (if df = 0 then (if (bq.size : Int) = 0 then (postroomlaw11_MarkBack.j1 kj4 a1 a2 bq true) else ((postroomlaw11_asLedger.f kj4 bi bj bf).bind fun bC => ((postroomlaw11_asLedger.f kj4 bp br bk).bind fun bz => ((postroomref11_Same.f kj4 bC.1 bC.2.1 bC.2.2 bz.1 bz.2.1 bz.2.2).bind fun bQ => (postroomlaw11_MarkBack.j1 kj4 a1 a2 bq (!bQ)))))) else (postroomlaw11_MarkBack.j1 kj4 a1 a2 bq true)) else (postroomlaw11_MarkBack.j1 kj4 a1 a2 bq true)) = some r := H
  have A12 := Aside0.mk dS
  clear dS
  have dy := Aside0.mk H
  clear H
  go_upto_region 7 with (first | ((with_reducible refine gate_callee (f := 18) rfl ?_); refine goesL_ (some 32) rfl rfl Tryd.func18 (by kernel_rfl) rfl #[.slice A0 l0.length c0] rfl zx23_5 ?_; (with_reducible refine (postroomlaw11_run.calls kj4 _ _ l0 bp br bk _ ?side1 ?side2 A10.out).mono ?_); (case side1 => repeat (first | exact (Kd.C_below HR0.out HB.out) | (with_reducible refine Kd.C_alloc ?_ _) | (with_reducible refine Kd.C_drewN ?_ _) | (with_reducible refine Kd.C_drew ?_))); (case side2 => exact HC0.out); rintro e w14 ⟨hw, rfl, ho0, hb⟩; refine ⟨_, rfl, ?_⟩; have bn := Aside0.mk (Kd.V_lower (Kd.V_mono (ok' := fun k_ => True) ho0 (fun k_ hk_ => trivial)) (below_size zx23_11)); replace HB := Aside0.mk (below_step zx23_11 hb); (try clear hb); (try clear hb2); (try clear hk); (try clear hi); (try clear ho0)) | ((with_reducible refine gate_dst (N := 8) rfl ?_); (try (refine gate_guard (by rfl) ?_; dsimp only)); refine box_event ?hg (N := 8) ?hd (cs := #[.int .u64 0, .int .u64 0, .slice none 0 0]) (t := 25) ?hr ?_; (case hd => rfl); (case hg => rfl); (case hr => first | (go_simp; done) | (go_simp; rfl)); intro bb hg w15 hbox hb; replace bn := Aside0.mk (Kd.V_below (Kd.V_elderB zx23_13 bb (Nat.le_of_eq hg.symm)) hb); have bc := Aside0.mk (hbox); have ht := Aside0.mk ((by rw [hg]; exact (below_size zx23_11) : w.heap.size ≤ bb)); have bG := Aside0.mk ((by rw [hg]; exact (below_size zx23_11) : w.heap.size ≤ bb)); replace HB := Aside0.mk (below_step zx23_11 hb); clear hb hbox hg; have gw : w15.cell? ⟨bb, 0, none⟩ = some (.int .u64 0) := (blk_cell bc.out 0).trans rfl; have gv : w15.cell? ⟨bb, 1, none⟩ = some (.int .u64 0) := (blk_cell bc.out 1).trans rfl; have gu : w15.cell? ⟨bb, 2, none⟩ = some (.slice none 0 0) := (blk_cell bc.out 2).trans rfl; have gc := blk_frozen bc.out 0; have gb := blk_frozen bc.out 1; have ga := blk_frozen bc.out 2; obtain ⟨bw, bu, gE⟩ := Kd.V_slice bn.out; subst gE) | ((with_reducible refine gate_callee (f := 11) rfl ?_); refine goesL_ (some 35) rfl rfl Tryd.func11 (by kernel_rfl) rfl #[.agg #[.int .u64 bp, .int .u64 br, .slice bw bk.length bu]] rfl zx23_5 ?_; (with_reducible refine (mark_Put.calls kj4 bp br _ _ bk bq dd _ ?side1 ?side2 A11.out).mono ?_); (case side1 => refine (Kd.V_reads' (e := 55) (base := w.heap.size) (ok := fun k_ => (True ∧ k_ ≠ bb)) (n := bk.length) (c := bu) ?_).2.2; exact zx23_16); (case side2 => exact (Kd.V_reads' bn.out).2.1); rintro e w18 ⟨rfl, hb⟩; refine ⟨_, rfl, ?_⟩; replace bn := Aside0.mk (Kd.V_below zx23_16 hb); replace bc := Aside0.mk (blk_below (g := bb) (o := .cells #[.int .u64 bp, .int .u64 br, .slice bw bk.length bu] 25 (0, 0)) (by (with_reducible repeat (first | refine blk_drewN ?_ _ | refine blk_drew ?_ | refine blk_alloc ?_ _)); refine blk_put (cs := #[.int .u64 bp, .int .u64 br, .slice none 0 0]) ?_ 2 _ rfl; (with_reducible repeat (first | refine blk_drewN ?_ _ | refine blk_drew ?_ | refine blk_alloc ?_ _)); refine blk_put (cs := #[.int .u64 bp, .int .u64 0, .slice none 0 0]) ?_ 1 _ rfl; (with_reducible repeat (first | refine blk_drewN ?_ _ | refine blk_drew ?_ | refine blk_alloc ?_ _)); refine blk_put (cs := #[.int .u64 0, .int .u64 0, .slice none 0 0]) ?_ 0 _ rfl; (with_reducible repeat (first | refine blk_drewN ?_ _ | refine blk_drew ?_ | refine blk_alloc ?_ _)); exact bc.out) hb); replace HB := Aside0.mk (below_step zx23_9 hb); (try clear hb); (try clear hb2); (try clear hk); (try clear hi)) | ((with_reducible refine gate_callee (f := 13) rfl ?_); refine goesL_ (some 40) rfl rfl Tryd.func13 (by kernel_rfl) rfl #[.string bq] rfl zx23_5 ?_; (with_reducible refine (mark_Take.calls kj4 bq bi bj bf df _ A12.out).mono ?_); rintro e w19 ⟨hv, rfl, ho0, hb⟩; refine ⟨_, rfl, ?_⟩; replace bn := Aside0.mk (Kd.V_elder' zx23_13 (Kd.N_base (Kd.S_N (Kd.S_bound ho0))) hb); have bo := Aside0.mk (Kd.N_lower (Kd.N_mono (ok' := fun k_ => k_ ≠ bb) (Kd.S_N (Kd.S_bound ho0)) (fun k_ hk_ => (Kd.freshB (g := bb) (o := .cells #[.int .u64 bp, .int .u64 br, .slice bw bk.length bu] 25 (0, 0)) zx23_1 k_ hk_.2.1))) (below_size zx23_9)); replace bc := Aside0.mk (blk_below (g := bb) (o := .cells #[.int .u64 bp, .int .u64 br, .slice bw bk.length bu] 25 (0, 0)) zx23_1 hb); replace HB := Aside0.mk (below_step zx23_9 hb); (try clear hb); (try clear hb2); (try clear hk); (try clear hi); (try clear ho0)) | ((with_reducible refine gate_dst (N := 11) rfl ?_); (try (refine gate_guard (by rfl) ?_; dsimp only)); refine box_event ?hg (N := 11) ?hd (cs := #[.int .u64 0, .int .u64 0, .slice none 0 0]) (t := 25) ?hr ?_; (case hd => rfl); (case hg => rfl); (case hr => first | (go_simp; done) | (go_simp; rfl)); intro ba hg w20 hbox hb; replace bn := Aside0.mk (Kd.V_below (Kd.V_elderB zx23_13 ba (Nat.le_of_eq hg.symm)) hb); replace bo := Aside0.mk (Kd.N_below (Kd.N_elderB zx23_18 ba (Nat.le_of_eq hg.symm)) hb); have bd := Aside0.mk (hbox); have hs := Aside0.mk ((by rw [hg]; exact (below_size zx23_9) : w.heap.size ≤ ba)); have bM := Aside0.mk ((by rw [hg]; exact (below_size zx23_9) : w.heap.size ≤ ba)); replace HB := Aside0.mk (below_step zx23_9 hb); have bL := Aside0.mk ((by rw [hg]; exact Nat.ne_of_lt (blk_lt (g := bb) (o := .cells #[.int .u64 bp, .int .u64 br, .slice bw bk.length bu] 25 (0, 0)) zx23_1) : bb ≠ ba)); have dk := Aside0.mk ((by rw [hg]; exact Nat.ne_of_gt (blk_lt (g := bb) (o := .cells #[.int .u64 bp, .int .u64 br, .slice bw bk.length bu] 25 (0, 0)) zx23_1) : ba ≠ bb)); replace bc := Aside0.mk (blk_below (g := bb) (o := .cells #[.int .u64 bp, .int .u64 br, .slice bw bk.length bu] 25 (0, 0)) zx23_1 hb); clear hb hbox hg; have hh := dk.out; have gT := bL.out; have gt : w20.cell? ⟨ba, 0, none⟩ = some (.int .u64 0) := (blk_cell bd.out 0).trans rfl; have gs : w20.cell? ⟨ba, 1, none⟩ = some (.int .u64 0) := (blk_cell bd.out 1).trans rfl; have gr : w20.cell? ⟨ba, 2, none⟩ = some (.slice none 0 0) := (blk_cell bd.out 2).trans rfl; have d9 := blk_frozen bd.out 0; have d8 := blk_frozen bd.out 1; have d7 := blk_frozen bd.out 2; obtain ⟨bh, bg, gD⟩ := Kd.N_slice bo.out; subst gD))
  (try simp only [Act.put, List.setIfInBounds_toArray, List.set_cons_zero, List.set_cons_succ])
  go_cut [61] (fun v61 wc => ∃ (kq : Nat) (b6 : Bool), v61 = .bool b6 ∧ Aside0 (postroomlaw11_MarkBack.j1 kq a1 a2 bq b6 = some r) ∧ Aside0 (kq ≤ kj4) ∧ Aside0 (Kd.V k55 55 wc w.heap.size (fun k_ => some k_ ≠ ((.slice bh bf.length bg) : Value).ownBlock ∧ k_ ≠ bb ∧ k_ ≠ ba) (.slice bw bk.length bu) bk) ∧ Aside0 (Kd.N k55 55 wc w.heap.size (fun k_ => k_ ≠ bb ∧ k_ ≠ ba) (.slice bh bf.length bg) bf) ∧ Aside0 (wc.heap[bb]? = some (.cells #[.int .u64 bp, .int .u64 br, (.slice bw bk.length bu)] 25 (0, 0))) ∧ Aside0 (wc.heap[ba]? = some (.cells #[.int .u64 bi, .int .u64 bj, (.slice bh bf.length bg)] 25 (0, 0))) ∧ Aside0 (Below w.heap.size w wc))
  case first =>
   have H := dy.out
   clear dy
   by_cases c24 : dd = 0
   case neg =>
    rw [if_neg c24] at H
    have b5 : (dd == 0) = false := beq_eq_false_iff_ne.mpr c24
    have dw : (dd != 0) = true := bne_iff_ne.mpr c24
    (first | rw [b5] | (simp only [i64_w, i32_w]; rw [b5]) | skip)
    have H' := Aside0.mk H
    clear H
    try go_wp2
    have n0_ : Aside0 (Kd.V k55 55 (((w20.setCell ⟨ba, 0, none⟩ (.int .u64 bi)).setCell ⟨ba, 1, none⟩ (.int .u64 bj)).setCell ⟨ba, 2, none⟩ (.slice bh bf.length bg)) w.heap.size (fun k_ => some k_ ≠ (.slice bh bf.length bg : Value).ownBlock ∧ k_ ≠ bb ∧ k_ ≠ ba) (.slice bw bk.length bu) bk) := ⟨by (with_reducible repeat (first | apply Kd.V_alloc | apply Kd.V_drewN | apply Kd.V_drew)); exact Kd.V_mono (Kd.V_far (p := ⟨ba, 2, none⟩) (Kd.V_far (p := ⟨ba, 1, none⟩) (Kd.V_far (p := ⟨ba, 0, none⟩) (Kd.V_mono bn.out (fun k_ hk => (⟨hk, hk.2⟩ : _ ∧ k_ ≠ ba))) (fun _ hk => hk.2) (.int .u64 bi)) (fun _ hk => hk.2) (.int .u64 bj)) (fun _ hk => hk.2) (.slice bh bf.length bg)) (fun _ hk => ⟨hk.1.1.2, ⟨hk.1.1.1.2, hk.1.2⟩⟩)⟩
    have n1_ : Aside0 (Kd.N k55 55 (((w20.setCell ⟨ba, 0, none⟩ (.int .u64 bi)).setCell ⟨ba, 1, none⟩ (.int .u64 bj)).setCell ⟨ba, 2, none⟩ (.slice bh bf.length bg)) w.heap.size (fun k_ => k_ ≠ bb ∧ k_ ≠ ba) (.slice bh bf.length bg) bf) := ⟨by (with_reducible repeat (first | apply Kd.N_alloc | apply Kd.N_drewN | apply Kd.N_drew)); exact Kd.N_mono (Kd.N_far (p := ⟨ba, 2, none⟩) (Kd.N_far (p := ⟨ba, 1, none⟩) (Kd.N_far (p := ⟨ba, 0, none⟩) (Kd.N_mono bo.out (fun k_ hk => (⟨hk, hk.2⟩ : _ ∧ k_ ≠ ba))) (fun _ hk => hk.2) (.int .u64 bi)) (fun _ hk => hk.2) (.int .u64 bj)) (fun _ hk => hk.2) (.slice bh bf.length bg)) (fun _ hk => ⟨hk.1.1, hk.1.2⟩)⟩
    have n2_ : Aside0 ((((w20.setCell ⟨ba, 0, none⟩ (.int .u64 bi)).setCell ⟨ba, 1, none⟩ (.int .u64 bj)).setCell ⟨ba, 2, none⟩ (.slice bh bf.length bg)).heap[bb]? = some (.cells #[.int .u64 bp, .int .u64 br, .slice bw bk.length bu] 25 (0, 0))) := ⟨by (iterate 3 ((with_reducible repeat (first | refine blk_drewN ?_ _ | refine blk_drew ?_ | refine blk_alloc ?_ _)); refine blk_far ?_ bL.out _)); (with_reducible repeat (first | refine blk_drewN ?_ _ | refine blk_drew ?_ | refine blk_alloc ?_ _)); exact bc.out⟩
    have n3_ : Aside0 ((((w20.setCell ⟨ba, 0, none⟩ (.int .u64 bi)).setCell ⟨ba, 1, none⟩ (.int .u64 bj)).setCell ⟨ba, 2, none⟩ (.slice bh bf.length bg)).heap[ba]? = some (.cells #[.int .u64 bi, .int .u64 bj, .slice bh bf.length bg] 25 (0, 0))) := ⟨by (with_reducible repeat (first | refine blk_drewN ?_ _ | refine blk_drew ?_ | refine blk_alloc ?_ _)); refine blk_put (cs := #[.int .u64 bi, .int .u64 bj, .slice none 0 0]) ?_ 2 _ rfl; (with_reducible repeat (first | refine blk_drewN ?_ _ | refine blk_drew ?_ | refine blk_alloc ?_ _)); refine blk_put (cs := #[.int .u64 bi, .int .u64 0, .slice none 0 0]) ?_ 1 _ rfl; (with_reducible repeat (first | refine blk_drewN ?_ _ | refine blk_drew ?_ | refine blk_alloc ?_ _)); refine blk_put (cs := #[.int .u64 0, .int .u64 0, .slice none 0 0]) ?_ 0 _ rfl; (with_reducible repeat (first | refine blk_drewN ?_ _ | refine blk_drew ?_ | refine blk_alloc ?_ _)); exact bd.out⟩
    have n4_ : Aside0 (Below w.heap.size w (((w20.setCell ⟨ba, 0, none⟩ (.int .u64 bi)).setCell ⟨ba, 1, none⟩ (.int .u64 bj)).setCell ⟨ba, 2, none⟩ (.slice bh bf.length bg))) := ⟨by repeat (first | (with_reducible first | exact HB.out | apply below_alloc | apply pw_below_drewN | apply below_drew1 | refine below_set ?_ bG.out | refine below_set ?_ bM.out) | exact HB.out)⟩
    (try clear bn)
    (try clear bo)
    (try clear bc)
    (try clear bd)
    (try clear HB)
    generalize (((w20.setCell ⟨ba, 0, none⟩ (.int .u64 bi)).setCell ⟨ba, 1, none⟩ (.int .u64 bj)).setCell ⟨ba, 2, none⟩ (.slice bh bf.length bg)) = w41 at n0_ n1_ n2_ n3_ n4_ ⊢
    have bn := n0_
    have bo := n1_
    have bc := n2_
    have bd := n3_
    have HB := n4_
    clear n0_ n1_ n2_ n3_ n4_
    replace bn := Aside0.mk (Kd.V_drew bn.out)
    replace bo := Aside0.mk (Kd.N_drew bo.out)
    replace bc := Aside0.mk (blk_drew bc.out)
    replace bd := Aside0.mk (blk_drew bd.out)
    replace HB := Aside0.mk (below_drew1 HB.out)
    refine start_ (n := 19) (S := fun w' => True) (ds := []) #[Ff,Ff,Ff,Ff,Ff,Ff,Ff,Ff,Ff,Ff,Ff,Ff,Ff,Ff,Ff,Ff,Ff,Ff,Ff] (by kernel_rfl) rfl rfl trivial (fun hHeld => ?_); refine with_tabW postroomlaw11_MarkBack.tab7 postroomlaw11_MarkBack.bits7 (fun HT_ HW_ => ?_)
    generalize w41.drew = w42 at bn bo bc bd HB hHeld ⊢
    refine pp_ 0 (some 43) HT_.out ?_
    refine pp_ 1 (some 44) HT_.out ?_
    refine pp_ 2 (some 45) HT_.out ?_
    refine pu_ 3 (some 46) HT_.out ?_
    refine pu_ 4 (some 47) HT_.out ?_
    refine pp_ 5 (some 48) HT_.out ?_
    refine pp_ 6 (some 49) HT_.out ?_
    refine pu_ 7 (some 50) HT_.out ?_
    refine pu_ 8 (some 51) HT_.out ?_
    refine pu_ 9 (some 52) HT_.out ?_
    refine pp_ 10 (some 53) HT_.out ?_
    refine pp_ 11 (some 54) HT_.out ?_
    refine pu_ 12 (some 55) HT_.out ?_
    refine pu_ 13 (some 56) HT_.out ?_
    refine pu_ 14 (some 57) HT_.out ?_
    refine pu_ 15 (some 58) HT_.out ?_
    refine pu_ 16 (some 59) HT_.out ?_
    refine pu_ 17 (some 60) HT_.out ?_
    refine pp_ 18 (some 61) HT_.out ?_
    refine done_ (done_of HT_.out (by kernel_rfl)) ?_
    try go_wp2
    go_meet
    case rel => exact ⟨_, (true), zx23_19, H', ⟨by have := HJ4.out; first | omega | exact Nat.le_refl _⟩, ⟨by (with_reducible repeat (first | apply Kd.V_alloc | apply Kd.V_drewN | apply Kd.V_drew)); exact bn.out⟩, ⟨by (with_reducible repeat (first | apply Kd.N_alloc | apply Kd.N_drewN | apply Kd.N_drew)); exact bo.out⟩, ⟨by (with_reducible repeat (first | refine blk_drewN ?_ _ | refine blk_drew ?_ | refine blk_alloc ?_ _)); exact bc.out⟩, ⟨by (with_reducible repeat (first | refine blk_drewN ?_ _ | refine blk_drew ?_ | refine blk_alloc ?_ _)); exact bd.out⟩, ⟨by repeat (first | (with_reducible first | exact HB.out | apply below_alloc | apply pw_below_drewN | apply below_drew1 | refine below_set ?_ bG.out | refine below_set ?_ bM.out) | exact HB.out)⟩⟩
   rw [if_pos c24] at H
   have b5 : (dd == 0) = true := beq_iff_eq.mpr c24
   have dw : (dd != 0) = false := bne_eq_false_iff_eq.mpr c24
   clear c24
   (first | rw [b5] | (simp only [i64_w, i32_w]; rw [b5]) | skip)
   by_cases c25 : df = 0
   case neg =>
    rw [if_neg c25] at H
    have dv : (df == 0) = false := beq_eq_false_iff_ne.mpr c25
    have du : (df != 0) = true := bne_iff_ne.mpr c25
    have H' := Aside0.mk H
    clear H
    try go_wp2
    have n0_ : Aside0 (Kd.V k55 55 (((w20.setCell ⟨ba, 0, none⟩ (.int .u64 bi)).setCell ⟨ba, 1, none⟩ (.int .u64 bj)).setCell ⟨ba, 2, none⟩ (.slice bh bf.length bg)) w.heap.size (fun k_ => some k_ ≠ (.slice bh bf.length bg : Value).ownBlock ∧ k_ ≠ bb ∧ k_ ≠ ba) (.slice bw bk.length bu) bk) := ⟨by (with_reducible repeat (first | apply Kd.V_alloc | apply Kd.V_drewN | apply Kd.V_drew)); exact Kd.V_mono (Kd.V_far (p := ⟨ba, 2, none⟩) (Kd.V_far (p := ⟨ba, 1, none⟩) (Kd.V_far (p := ⟨ba, 0, none⟩) (Kd.V_mono bn.out (fun k_ hk => (⟨hk, hk.2⟩ : _ ∧ k_ ≠ ba))) (fun _ hk => hk.2) (.int .u64 bi)) (fun _ hk => hk.2) (.int .u64 bj)) (fun _ hk => hk.2) (.slice bh bf.length bg)) (fun _ hk => ⟨hk.1.1.2, ⟨hk.1.1.1.2, hk.1.2⟩⟩)⟩
    have n1_ : Aside0 (Kd.N k55 55 (((w20.setCell ⟨ba, 0, none⟩ (.int .u64 bi)).setCell ⟨ba, 1, none⟩ (.int .u64 bj)).setCell ⟨ba, 2, none⟩ (.slice bh bf.length bg)) w.heap.size (fun k_ => k_ ≠ bb ∧ k_ ≠ ba) (.slice bh bf.length bg) bf) := ⟨by (with_reducible repeat (first | apply Kd.N_alloc | apply Kd.N_drewN | apply Kd.N_drew)); exact Kd.N_mono (Kd.N_far (p := ⟨ba, 2, none⟩) (Kd.N_far (p := ⟨ba, 1, none⟩) (Kd.N_far (p := ⟨ba, 0, none⟩) (Kd.N_mono bo.out (fun k_ hk => (⟨hk, hk.2⟩ : _ ∧ k_ ≠ ba))) (fun _ hk => hk.2) (.int .u64 bi)) (fun _ hk => hk.2) (.int .u64 bj)) (fun _ hk => hk.2) (.slice bh bf.length bg)) (fun _ hk => ⟨hk.1.1, hk.1.2⟩)⟩
    have n2_ : Aside0 ((((w20.setCell ⟨ba, 0, none⟩ (.int .u64 bi)).setCell ⟨ba, 1, none⟩ (.int .u64 bj)).setCell ⟨ba, 2, none⟩ (.slice bh bf.length bg)).heap[bb]? = some (.cells #[.int .u64 bp, .int .u64 br, .slice bw bk.length bu] 25 (0, 0))) := ⟨by (iterate 3 ((with_reducible repeat (first | refine blk_drewN ?_ _ | refine blk_drew ?_ | refine blk_alloc ?_ _)); refine blk_far ?_ bL.out _)); (with_reducible repeat (first | refine blk_drewN ?_ _ | refine blk_drew ?_ | refine blk_alloc ?_ _)); exact bc.out⟩
    have n3_ : Aside0 ((((w20.setCell ⟨ba, 0, none⟩ (.int .u64 bi)).setCell ⟨ba, 1, none⟩ (.int .u64 bj)).setCell ⟨ba, 2, none⟩ (.slice bh bf.length bg)).heap[ba]? = some (.cells #[.int .u64 bi, .int .u64 bj, .slice bh bf.length bg] 25 (0, 0))) := ⟨by (with_reducible repeat (first | refine blk_drewN ?_ _ | refine blk_drew ?_ | refine blk_alloc ?_ _)); refine blk_put (cs := #[.int .u64 bi, .int .u64 bj, .slice none 0 0]) ?_ 2 _ rfl; (with_reducible repeat (first | refine blk_drewN ?_ _ | refine blk_drew ?_ | refine blk_alloc ?_ _)); refine blk_put (cs := #[.int .u64 bi, .int .u64 0, .slice none 0 0]) ?_ 1 _ rfl; (with_reducible repeat (first | refine blk_drewN ?_ _ | refine blk_drew ?_ | refine blk_alloc ?_ _)); refine blk_put (cs := #[.int .u64 0, .int .u64 0, .slice none 0 0]) ?_ 0 _ rfl; (with_reducible repeat (first | refine blk_drewN ?_ _ | refine blk_drew ?_ | refine blk_alloc ?_ _)); exact bd.out⟩
    have n4_ : Aside0 (Below w.heap.size w (((w20.setCell ⟨ba, 0, none⟩ (.int .u64 bi)).setCell ⟨ba, 1, none⟩ (.int .u64 bj)).setCell ⟨ba, 2, none⟩ (.slice bh bf.length bg))) := ⟨by repeat (first | (with_reducible first | exact HB.out | apply below_alloc | apply pw_below_drewN | apply below_drew1 | refine below_set ?_ bG.out | refine below_set ?_ bM.out) | exact HB.out)⟩
    (try clear bn)
    (try clear bo)
    (try clear bc)
    (try clear bd)
    (try clear HB)
    generalize (((w20.setCell ⟨ba, 0, none⟩ (.int .u64 bi)).setCell ⟨ba, 1, none⟩ (.int .u64 bj)).setCell ⟨ba, 2, none⟩ (.slice bh bf.length bg)) = w39 at n0_ n1_ n2_ n3_ n4_ ⊢
    have bn := n0_
    have bo := n1_
    have bc := n2_
    have bd := n3_
    have HB := n4_
    clear n0_ n1_ n2_ n3_ n4_
    replace bn := Aside0.mk (Kd.V_drew bn.out)
    replace bo := Aside0.mk (Kd.N_drew bo.out)
    replace bc := Aside0.mk (blk_drew bc.out)
    replace bd := Aside0.mk (blk_drew bd.out)
    replace HB := Aside0.mk (below_drew1 HB.out)
    refine start_ (n := 19) (S := fun w' => True) (ds := []) #[Ff,Ff,Ff,Ff,Ff,Ff,Ff,Ff,Ff,Ff,Ff,Ff,Ff,Ff,Ff,Ff,Ff,Ff,Ff] (by kernel_rfl) rfl rfl trivial (fun hHeld => ?_); refine with_tabW postroomlaw11_MarkBack.tab7 postroomlaw11_MarkBack.bits7 (fun HT_ HW_ => ?_)
    generalize w39.drew = w40 at bn bo bc bd HB hHeld ⊢
    refine pp_ 0 (some 43) HT_.out ?_
    refine pp_ 1 (some 44) HT_.out ?_
    refine pp_ 2 (some 45) HT_.out ?_
    refine pp_ 3 (some 46) HT_.out ?_
    refine pp_ 4 (some 47) HT_.out ?_
    refine pp_ 5 (some 48) HT_.out ?_
    refine pp_ 6 (some 49) HT_.out ?_
    refine pu_ 7 (some 50) HT_.out ?_
    refine pu_ 8 (some 51) HT_.out ?_
    refine pu_ 9 (some 52) HT_.out ?_
    refine pp_ 10 (some 53) HT_.out ?_
    refine pp_ 11 (some 54) HT_.out ?_
    refine pu_ 12 (some 55) HT_.out ?_
    refine pu_ 13 (some 56) HT_.out ?_
    refine pu_ 14 (some 57) HT_.out ?_
    refine pu_ 15 (some 58) HT_.out ?_
    refine pu_ 16 (some 59) HT_.out ?_
    refine pu_ 17 (some 60) HT_.out ?_
    refine pp_ 18 (some 61) HT_.out ?_
    refine done_ (done_of HT_.out (by kernel_rfl)) ?_
    try go_wp2
    go_meet
    case rel => exact ⟨_, (true), zx23_19, H', ⟨by have := HJ4.out; first | omega | exact Nat.le_refl _⟩, ⟨by (with_reducible repeat (first | apply Kd.V_alloc | apply Kd.V_drewN | apply Kd.V_drew)); exact bn.out⟩, ⟨by (with_reducible repeat (first | apply Kd.N_alloc | apply Kd.N_drewN | apply Kd.N_drew)); exact bo.out⟩, ⟨by (with_reducible repeat (first | refine blk_drewN ?_ _ | refine blk_drew ?_ | refine blk_alloc ?_ _)); exact bc.out⟩, ⟨by (with_reducible repeat (first | refine blk_drewN ?_ _ | refine blk_drew ?_ | refine blk_alloc ?_ _)); exact bd.out⟩, ⟨by repeat (first | (with_reducible first | exact HB.out | apply below_alloc | apply pw_below_drewN | apply below_drew1 | refine below_set ?_ bG.out | refine below_set ?_ bM.out) | exact HB.out)⟩⟩
   rw [if_pos c25] at H
   have dv : (df == 0) = true := beq_iff_eq.mpr c25
   have du : (df != 0) = false := bne_eq_false_iff_eq.mpr c25
   clear c25
   by_cases c26 : (bq.size : Int) = 0
   ·rw [if_pos c26] at H
    have dJ : ((bq.size : Int) == 0) = true := beq_iff_eq.mpr c26
    have dI : ((bq.size : Int) != 0) = false := bne_eq_false_iff_eq.mpr c26
    clear c26
    have H' := Aside0.mk H
    clear H
    try go_wp2
    have n0_ : Aside0 (Kd.V k55 55 (((w20.setCell ⟨ba, 0, none⟩ (.int .u64 bi)).setCell ⟨ba, 1, none⟩ (.int .u64 bj)).setCell ⟨ba, 2, none⟩ (.slice bh bf.length bg)) w.heap.size (fun k_ => some k_ ≠ (.slice bh bf.length bg : Value).ownBlock ∧ k_ ≠ bb ∧ k_ ≠ ba) (.slice bw bk.length bu) bk) := ⟨by (with_reducible repeat (first | apply Kd.V_alloc | apply Kd.V_drewN | apply Kd.V_drew)); exact Kd.V_mono (Kd.V_far (p := ⟨ba, 2, none⟩) (Kd.V_far (p := ⟨ba, 1, none⟩) (Kd.V_far (p := ⟨ba, 0, none⟩) (Kd.V_mono bn.out (fun k_ hk => (⟨hk, hk.2⟩ : _ ∧ k_ ≠ ba))) (fun _ hk => hk.2) (.int .u64 bi)) (fun _ hk => hk.2) (.int .u64 bj)) (fun _ hk => hk.2) (.slice bh bf.length bg)) (fun _ hk => ⟨hk.1.1.2, ⟨hk.1.1.1.2, hk.1.2⟩⟩)⟩
    have n1_ : Aside0 (Kd.N k55 55 (((w20.setCell ⟨ba, 0, none⟩ (.int .u64 bi)).setCell ⟨ba, 1, none⟩ (.int .u64 bj)).setCell ⟨ba, 2, none⟩ (.slice bh bf.length bg)) w.heap.size (fun k_ => k_ ≠ bb ∧ k_ ≠ ba) (.slice bh bf.length bg) bf) := ⟨by (with_reducible repeat (first | apply Kd.N_alloc | apply Kd.N_drewN | apply Kd.N_drew)); exact Kd.N_mono (Kd.N_far (p := ⟨ba, 2, none⟩) (Kd.N_far (p := ⟨ba, 1, none⟩) (Kd.N_far (p := ⟨ba, 0, none⟩) (Kd.N_mono bo.out (fun k_ hk => (⟨hk, hk.2⟩ : _ ∧ k_ ≠ ba))) (fun _ hk => hk.2) (.int .u64 bi)) (fun _ hk => hk.2) (.int .u64 bj)) (fun _ hk => hk.2) (.slice bh bf.length bg)) (fun _ hk => ⟨hk.1.1, hk.1.2⟩)⟩
    have n2_ : Aside0 ((((w20.setCell ⟨ba, 0, none⟩ (.int .u64 bi)).setCell ⟨ba, 1, none⟩ (.int .u64 bj)).setCell ⟨ba, 2, none⟩ (.slice bh bf.length bg)).heap[bb]? = some (.cells #[.int .u64 bp, .int .u64 br, .slice bw bk.length bu] 25 (0, 0))) := ⟨by (iterate 3 ((with_reducible repeat (first | refine blk_drewN ?_ _ | refine blk_drew ?_ | refine blk_alloc ?_ _)); refine blk_far ?_ bL.out _)); (with_reducible repeat (first | refine blk_drewN ?_ _ | refine blk_drew ?_ | refine blk_alloc ?_ _)); exact bc.out⟩
    have n3_ : Aside0 ((((w20.setCell ⟨ba, 0, none⟩ (.int .u64 bi)).setCell ⟨ba, 1, none⟩ (.int .u64 bj)).setCell ⟨ba, 2, none⟩ (.slice bh bf.length bg)).heap[ba]? = some (.cells #[.int .u64 bi, .int .u64 bj, .slice bh bf.length bg] 25 (0, 0))) := ⟨by (with_reducible repeat (first | refine blk_drewN ?_ _ | refine blk_drew ?_ | refine blk_alloc ?_ _)); refine blk_put (cs := #[.int .u64 bi, .int .u64 bj, .slice none 0 0]) ?_ 2 _ rfl; (with_reducible repeat (first | refine blk_drewN ?_ _ | refine blk_drew ?_ | refine blk_alloc ?_ _)); refine blk_put (cs := #[.int .u64 bi, .int .u64 0, .slice none 0 0]) ?_ 1 _ rfl; (with_reducible repeat (first | refine blk_drewN ?_ _ | refine blk_drew ?_ | refine blk_alloc ?_ _)); refine blk_put (cs := #[.int .u64 0, .int .u64 0, .slice none 0 0]) ?_ 0 _ rfl; (with_reducible repeat (first | refine blk_drewN ?_ _ | refine blk_drew ?_ | refine blk_alloc ?_ _)); exact bd.out⟩
    have n4_ : Aside0 (Below w.heap.size w (((w20.setCell ⟨ba, 0, none⟩ (.int .u64 bi)).setCell ⟨ba, 1, none⟩ (.int .u64 bj)).setCell ⟨ba, 2, none⟩ (.slice bh bf.length bg))) := ⟨by repeat (first | (with_reducible first | exact HB.out | apply below_alloc | apply pw_below_drewN | apply below_drew1 | refine below_set ?_ bG.out | refine below_set ?_ bM.out) | exact HB.out)⟩
    (try clear bn)
    (try clear bo)
    (try clear bc)
    (try clear bd)
    (try clear HB)
    generalize (((w20.setCell ⟨ba, 0, none⟩ (.int .u64 bi)).setCell ⟨ba, 1, none⟩ (.int .u64 bj)).setCell ⟨ba, 2, none⟩ (.slice bh bf.length bg)) = w27 at n0_ n1_ n2_ n3_ n4_ ⊢
    have bn := n0_
    have bo := n1_
    have bc := n2_
    have bd := n3_
    have HB := n4_
    clear n0_ n1_ n2_ n3_ n4_
    replace bn := Aside0.mk (Kd.V_drew bn.out)
    replace bo := Aside0.mk (Kd.N_drew bo.out)
    replace bc := Aside0.mk (blk_drew bc.out)
    replace bd := Aside0.mk (blk_drew bd.out)
    replace HB := Aside0.mk (below_drew1 HB.out)
    refine start_ (n := 19) (S := fun w' => True) (ds := []) #[Ff,Ff,Ff,Ff,Ff,Ff,Ff,Ff,Ff,Ff,Ff,Ff,Ff,Ff,Ff,Ff,Ff,Ff,Ff] (by kernel_rfl) rfl rfl trivial (fun hHeld => ?_); refine with_tabW postroomlaw11_MarkBack.tab7 postroomlaw11_MarkBack.bits7 (fun HT_ HW_ => ?_)
    generalize w27.drew = w28 at bn bo bc bd HB hHeld ⊢
    refine pp_ 0 (some 43) HT_.out ?_
    refine pp_ 1 (some 44) HT_.out ?_
    refine pp_ 2 (some 45) HT_.out ?_
    refine pp_ 3 (some 46) HT_.out ?_
    refine pp_ 4 (some 47) HT_.out ?_
    refine pp_ 5 (some 48) HT_.out ?_
    refine pp_ 6 (some 49) HT_.out ?_
    refine pp_ 7 (some 50) HT_.out ?_
    refine pp_ 8 (some 51) HT_.out ?_
    refine pp_ 9 (some 52) HT_.out ?_
    refine pp_ 10 (some 53) HT_.out ?_
    refine pp_ 11 (some 54) HT_.out ?_
    refine pu_ 12 (some 55) HT_.out ?_
    refine pu_ 13 (some 56) HT_.out ?_
    refine pu_ 14 (some 57) HT_.out ?_
    refine pu_ 15 (some 58) HT_.out ?_
    refine pu_ 16 (some 59) HT_.out ?_
    refine pu_ 17 (some 60) HT_.out ?_
    refine pp_ 18 (some 61) HT_.out ?_
    refine done_ (done_of HT_.out (by kernel_rfl)) ?_
    try go_wp2
    go_meet
    case rel => exact ⟨_, (true), zx23_19, H', ⟨by have := HJ4.out; first | omega | exact Nat.le_refl _⟩, ⟨by (with_reducible repeat (first | apply Kd.V_alloc | apply Kd.V_drewN | apply Kd.V_drew)); exact bn.out⟩, ⟨by (with_reducible repeat (first | apply Kd.N_alloc | apply Kd.N_drewN | apply Kd.N_drew)); exact bo.out⟩, ⟨by (with_reducible repeat (first | refine blk_drewN ?_ _ | refine blk_drew ?_ | refine blk_alloc ?_ _)); exact bc.out⟩, ⟨by (with_reducible repeat (first | refine blk_drewN ?_ _ | refine blk_drew ?_ | refine blk_alloc ?_ _)); exact bd.out⟩, ⟨by repeat (first | (with_reducible first | exact HB.out | apply below_alloc | apply pw_below_drewN | apply below_drew1 | refine below_set ?_ bG.out | refine below_set ?_ bM.out) | exact HB.out)⟩⟩
   rw [if_neg c26] at H
   have dJ : ((bq.size : Int) == 0) = false := beq_eq_false_iff_ne.mpr c26
   have dI : ((bq.size : Int) != 0) = true := bne_iff_ne.mpr c26
   replace H := Option.bind_eq_some_iff.mp H
   obtain ⟨⟨dn, dm, dl⟩, dR, H⟩ := H
   replace H : ((postroomlaw11_asLedger.f kj4 bp br bk).bind fun bz => ((postroomref11_Same.f kj4 dn dm dl bz.1 bz.2.1 bz.2.2).bind fun bQ => (postroomlaw11_MarkBack.j1 kj4 a1 a2 bq (!bQ)))) = some r := H
   have A29 := Aside0.mk dR
   clear dR
   replace H := Option.bind_eq_some_iff.mp H
   obtain ⟨⟨dt, dr, dq⟩, dQ, H⟩ := H
   replace H : ((postroomref11_Same.f kj4 dn dm dl dt dr dq).bind fun bQ => (postroomlaw11_MarkBack.j1 kj4 a1 a2 bq (!bQ))) = some r := H
   have A30 := Aside0.mk dQ
   clear dQ
   replace H := Option.bind_eq_some_iff.mp H
   obtain ⟨bQ, dP, H⟩ := H
   replace H : (postroomlaw11_MarkBack.j1 kj4 a1 a2 bq (!bQ)) = some r := H
   have A31 := Aside0.mk dP
   clear dP
   have H' := Aside0.mk H
   clear H
   try go_wp2
   have n0_ : Aside0 (Kd.V k55 55 (((w20.setCell ⟨ba, 0, none⟩ (.int .u64 bi)).setCell ⟨ba, 1, none⟩ (.int .u64 bj)).setCell ⟨ba, 2, none⟩ (.slice bh bf.length bg)) w.heap.size (fun k_ => some k_ ≠ (.slice bh bf.length bg : Value).ownBlock ∧ k_ ≠ bb ∧ k_ ≠ ba) (.slice bw bk.length bu) bk) := ⟨by (with_reducible repeat (first | apply Kd.V_alloc | apply Kd.V_drewN | apply Kd.V_drew)); exact Kd.V_mono (Kd.V_far (p := ⟨ba, 2, none⟩) (Kd.V_far (p := ⟨ba, 1, none⟩) (Kd.V_far (p := ⟨ba, 0, none⟩) (Kd.V_mono bn.out (fun k_ hk => (⟨hk, hk.2⟩ : _ ∧ k_ ≠ ba))) (fun _ hk => hk.2) (.int .u64 bi)) (fun _ hk => hk.2) (.int .u64 bj)) (fun _ hk => hk.2) (.slice bh bf.length bg)) (fun _ hk => ⟨hk.1.1.2, ⟨hk.1.1.1.2, hk.1.2⟩⟩)⟩
   have n1_ : Aside0 (Kd.N k55 55 (((w20.setCell ⟨ba, 0, none⟩ (.int .u64 bi)).setCell ⟨ba, 1, none⟩ (.int .u64 bj)).setCell ⟨ba, 2, none⟩ (.slice bh bf.length bg)) w.heap.size (fun k_ => k_ ≠ bb ∧ k_ ≠ ba) (.slice bh bf.length bg) bf) := ⟨by (with_reducible repeat (first | apply Kd.N_alloc | apply Kd.N_drewN | apply Kd.N_drew)); exact Kd.N_mono (Kd.N_far (p := ⟨ba, 2, none⟩) (Kd.N_far (p := ⟨ba, 1, none⟩) (Kd.N_far (p := ⟨ba, 0, none⟩) (Kd.N_mono bo.out (fun k_ hk => (⟨hk, hk.2⟩ : _ ∧ k_ ≠ ba))) (fun _ hk => hk.2) (.int .u64 bi)) (fun _ hk => hk.2) (.int .u64 bj)) (fun _ hk => hk.2) (.slice bh bf.length bg)) (fun _ hk => ⟨hk.1.1, hk.1.2⟩)⟩
   have n2_ : Aside0 ((((w20.setCell ⟨ba, 0, none⟩ (.int .u64 bi)).setCell ⟨ba, 1, none⟩ (.int .u64 bj)).setCell ⟨ba, 2, none⟩ (.slice bh bf.length bg)).heap[bb]? = some (.cells #[.int .u64 bp, .int .u64 br, .slice bw bk.length bu] 25 (0, 0))) := ⟨by (iterate 3 ((with_reducible repeat (first | refine blk_drewN ?_ _ | refine blk_drew ?_ | refine blk_alloc ?_ _)); refine blk_far ?_ bL.out _)); (with_reducible repeat (first | refine blk_drewN ?_ _ | refine blk_drew ?_ | refine blk_alloc ?_ _)); exact bc.out⟩
   have n3_ : Aside0 ((((w20.setCell ⟨ba, 0, none⟩ (.int .u64 bi)).setCell ⟨ba, 1, none⟩ (.int .u64 bj)).setCell ⟨ba, 2, none⟩ (.slice bh bf.length bg)).heap[ba]? = some (.cells #[.int .u64 bi, .int .u64 bj, .slice bh bf.length bg] 25 (0, 0))) := ⟨by (with_reducible repeat (first | refine blk_drewN ?_ _ | refine blk_drew ?_ | refine blk_alloc ?_ _)); refine blk_put (cs := #[.int .u64 bi, .int .u64 bj, .slice none 0 0]) ?_ 2 _ rfl; (with_reducible repeat (first | refine blk_drewN ?_ _ | refine blk_drew ?_ | refine blk_alloc ?_ _)); refine blk_put (cs := #[.int .u64 bi, .int .u64 0, .slice none 0 0]) ?_ 1 _ rfl; (with_reducible repeat (first | refine blk_drewN ?_ _ | refine blk_drew ?_ | refine blk_alloc ?_ _)); refine blk_put (cs := #[.int .u64 0, .int .u64 0, .slice none 0 0]) ?_ 0 _ rfl; (with_reducible repeat (first | refine blk_drewN ?_ _ | refine blk_drew ?_ | refine blk_alloc ?_ _)); exact bd.out⟩
   have n4_ : Aside0 (Below w.heap.size w (((w20.setCell ⟨ba, 0, none⟩ (.int .u64 bi)).setCell ⟨ba, 1, none⟩ (.int .u64 bj)).setCell ⟨ba, 2, none⟩ (.slice bh bf.length bg))) := ⟨by repeat (first | (with_reducible first | exact HB.out | apply below_alloc | apply pw_below_drewN | apply below_drew1 | refine below_set ?_ bG.out | refine below_set ?_ bM.out) | exact HB.out)⟩
   (try clear bn)
   (try clear bo)
   (try clear bc)
   (try clear bd)
   (try clear HB)
   generalize (((w20.setCell ⟨ba, 0, none⟩ (.int .u64 bi)).setCell ⟨ba, 1, none⟩ (.int .u64 bj)).setCell ⟨ba, 2, none⟩ (.slice bh bf.length bg)) = w32 at n0_ n1_ n2_ n3_ n4_ ⊢
   have bn := n0_
   have bo := n1_
   have bc := n2_
   have bd := n3_
   have HB := n4_
   clear n0_ n1_ n2_ n3_ n4_
   replace bn := Aside0.mk (Kd.V_drew bn.out)
   replace bo := Aside0.mk (Kd.N_drew bo.out)
   replace bc := Aside0.mk (blk_drew bc.out)
   replace bd := Aside0.mk (blk_drew bd.out)
   replace HB := Aside0.mk (below_drew1 HB.out)
   refine start_ (n := 19) (S := fun w' => w'.cell? ⟨ba, 0, none⟩ = some (.int .u64 bi) ∧ w'.cell? ⟨ba, 1, none⟩ = some (.int .u64 bj) ∧ w'.cell? ⟨ba, 2, none⟩ = some (.slice bh bf.length bg) ∧ w'.cell? ⟨bb, 0, none⟩ = some (.int .u64 bp) ∧ w'.cell? ⟨bb, 1, none⟩ = some (.int .u64 br) ∧ w'.cell? ⟨bb, 2, none⟩ = some (.slice bw bk.length bu)) (ds := []) #[Ff,Ff,Ff,Ff,Ff,Ff,Ff,Ff,Ff,Ff,Ff,Ff,Ff,Ff,Ff,Ff,Ff,Ff,Ff] (by kernel_rfl) rfl rfl ⟨(blk_cell bd.out 0).trans rfl, (blk_cell bd.out 1).trans rfl, (blk_cell bd.out 2).trans rfl, (blk_cell bc.out 0).trans rfl, (blk_cell bc.out 1).trans rfl, (blk_cell bc.out 2).trans rfl⟩ (fun hHeld => ?_); refine with_tabW postroomlaw11_MarkBack.tab7 postroomlaw11_MarkBack.bits7 (fun HT_ HW_ => ?_)
   generalize w32.drew = w33 at bn bo bc bd HB hHeld ⊢
   refine pp_ 0 (some 43) HT_.out ?_
   refine pp_ 1 (some 44) HT_.out ?_
   refine pp_ 2 (some 45) HT_.out ?_
   refine pp_ 3 (some 46) HT_.out ?_
   refine pp_ 4 (some 47) HT_.out ?_
   refine pp_ 5 (some 48) HT_.out ?_
   refine pp_ 6 (some 49) HT_.out ?_
   refine pp_ 7 (some 50) HT_.out ?_
   refine pp_ 8 (some 51) HT_.out ?_
   refine pp_ 9 (some 52) HT_.out ?_
   refine pp_ 10 (some 53) HT_.out ?_
   refine pp_ 11 (some 54) HT_.out ?_
   refine take_ (i := 12) (N := some 55) (v := ?_) (a' := ?_) #[Tt,Tt,Tt,Tt,Tt,Tt,Tt,Tt,Tt,Tt,Tt,Tt,Tt,Ff,Ff,Ff,Ff,Ff,Ff] rfl rfl (take_ofW HT_.out HW_.out (by kernel_rfl)) (fun _ _ _ h => h) (Or.inl ⟨by rfl, ?_⟩) hHeld ?_ ?_
   rotate_left
   ·rintro w' ⟨s0, s1, s2, s3, s4, s5⟩
    go_simp
    with_reducible rfl
   rotate_left
   ·simp only [Act.put, List.setIfInBounds_toArray, List.set_cons_zero, List.set_cons_succ, i64_w, i32_w]
    rfl
   refine take_ (i := 14) (N := some 57) (v := ?_) (a' := ?_) #[Tt,Tt,Tt,Tt,Tt,Tt,Tt,Tt,Tt,Tt,Tt,Tt,Tt,Ff,Tt,Ff,Ff,Ff,Ff] rfl rfl (take_ofW HT_.out HW_.out (by kernel_rfl)) (fun _ _ _ h => h) (Or.inl ⟨by rfl, ?_⟩) hHeld ?_ ?_
   rotate_left
   ·rintro w' ⟨s0, s1, s2, s3, s4, s5⟩
    go_simp
    with_reducible rfl
   rotate_left
   ·simp only [Act.put, List.setIfInBounds_toArray, List.set_cons_zero, List.set_cons_succ, i64_w, i32_w]
    rfl
   refine one_ (i := 13) (N := some 56) #[Tt,Tt,Tt,Tt,Tt,Tt,Tt,Tt,Tt,Tt,Tt,Tt,Tt,Tt,Tt,Ff,Ff,Ff,Ff] rfl rfl (one_of HT_.out (by kernel_rfl)) (by decide) (fun K hK => ?_)
   refine goes_ Tryd.func10 (by kernel_rfl) rfl #[.agg #[.int .u64 bi, .int .u64 bj, .slice bh bf.length bg]] (by rfl) rfl rfl zx23_5 ?_
   with_reducible refine (postroomlaw11_asLedger.calls kj4 bi bj (fun k_ => (k_ ≠ bb ∧ k_ ≠ ba)) _ _ bf dn dm dl _ ?side1 A29.out).mono ?_
   (case side1 => exact Kd.N_V (bo.out))
   rintro e w34 ⟨dz, rfl, ho0, hb⟩
   refine ⟨_, rfl, ?_⟩
   replace bn := Aside0.mk (Kd.V_elder' zx23_13 (Kd.N_base ho0) hb)
   replace bo := Aside0.mk (Kd.N_elder' zx23_18 (Kd.N_base ho0) hb)
   have b4 := Aside0.mk (Kd.N_lower (Kd.N_mono (ok' := fun k_ => k_ ≠ bb ∧ k_ ≠ ba) ho0 (fun k_ hk_ => ⟨Or.elim hk_ (fun hs_ => hs_.1) (fun hn_ => (Kd.freshB (g := bb) (o := .cells #[.int .u64 bp, .int .u64 br, .slice bw bk.length bu] 25 (0, 0)) zx23_1 k_ hn_)), Or.elim hk_ (fun hs_ => hs_.2) (fun hn_ => (Kd.freshB (g := ba) (o := .cells #[.int .u64 bi, .int .u64 bj, .slice bh bf.length bg] 25 (0, 0)) zx23_2 k_ hn_))⟩)) (below_size zx23_0))
   replace bc := Aside0.mk (blk_below (g := bb) (o := .cells #[.int .u64 bp, .int .u64 br, .slice bw bk.length bu] 25 (0, 0)) zx23_1 hb)
   replace bd := Aside0.mk (blk_below (g := ba) (o := .cells #[.int .u64 bi, .int .u64 bj, .slice bh bf.length bg] 25 (0, 0)) zx23_2 hb)
   replace HB := Aside0.mk (below_step zx23_0 hb)
   (try clear hb)
   (try clear hb2)
   (try clear hk)
   (try clear hi)
   (try clear ho0)
   refine hK.out _ _ ⟨(blk_cell bd.out 0).trans rfl, (blk_cell bd.out 1).trans rfl, (blk_cell bd.out 2).trans rfl, (blk_cell bc.out 0).trans rfl, (blk_cell bc.out 1).trans rfl, (blk_cell bc.out 2).trans rfl⟩ (fun hHeld => ?_)
   clear hK K
   refine na_ 56 ?_
   refine one_ (i := 15) (N := some 58) #[Tt,Tt,Tt,Tt,Tt,Tt,Tt,Tt,Tt,Tt,Tt,Tt,Tt,Tt,Tt,Tt,Ff,Ff,Ff] rfl rfl (one_of HT_.out (by kernel_rfl)) (by decide) (fun K hK => ?_)
   refine goes_ Tryd.func10 (by kernel_rfl) rfl #[.agg #[.int .u64 bp, .int .u64 br, .slice bw bk.length bu]] (by rfl) rfl rfl zx23_5 ?_
   with_reducible refine (postroomlaw11_asLedger.calls kj4 bp br (fun k_ => ((some k_ ≠ (.slice bh bf.length bg : Value).ownBlock ∧ (k_ ≠ bb ∧ k_ ≠ ba)) ∧ some k_ ≠ (dz : Value).ownBlock)) _ _ bk dt dr dq _ ?side1 A30.out).mono ?_
   (case side1 => exact bn.out)
   rintro e w35 ⟨hu, rfl, ho0, hb⟩
   refine ⟨_, rfl, ?_⟩
   replace bn := Aside0.mk (Kd.V_elder' zx23_13 (Kd.N_base ho0) hb)
   have dh := Aside0.mk (Kd.N_lower (Kd.N_mono (ok' := fun k_ => some k_ ≠ (.slice bh bf.length bg : Value).ownBlock ∧ some k_ ≠ (dz : Value).ownBlock ∧ k_ ≠ bb ∧ k_ ≠ ba) ho0 (fun k_ hk_ => ⟨Or.elim hk_ (fun hs_ => hs_.1.1) (fun hn_ => (Kd.fresh' (Kd.N_lt zx23_18) k_ hn_)), Or.elim hk_ (fun hs_ => hs_.2) (fun hn_ => (Kd.fresh' (Kd.N_lt (by (with_reducible repeat (first | apply Kd.N_alloc | apply Kd.N_drewN | apply Kd.N_drew)); exact b4.out)) k_ hn_)), Or.elim hk_ (fun hs_ => hs_.1.2.1) (fun hn_ => (Kd.freshB (g := bb) (o := .cells #[.int .u64 bp, .int .u64 br, .slice bw bk.length bu] 25 (0, 0)) zx23_1 k_ hn_)), Or.elim hk_ (fun hs_ => hs_.1.2.2) (fun hn_ => (Kd.freshB (g := ba) (o := .cells #[.int .u64 bi, .int .u64 bj, .slice bh bf.length bg] 25 (0, 0)) zx23_2 k_ hn_))⟩)) (below_size zx23_0))
   replace bo := Aside0.mk (Kd.N_elder' zx23_18 (Kd.N_base ho0) hb)
   replace b4 := Aside0.mk (Kd.N_elder' (by (with_reducible repeat (first | apply Kd.N_alloc | apply Kd.N_drewN | apply Kd.N_drew)); exact b4.out) (Kd.N_base ho0) hb)
   replace bc := Aside0.mk (blk_below (g := bb) (o := .cells #[.int .u64 bp, .int .u64 br, .slice bw bk.length bu] 25 (0, 0)) zx23_1 hb)
   replace bd := Aside0.mk (blk_below (g := ba) (o := .cells #[.int .u64 bi, .int .u64 bj, .slice bh bf.length bg] 25 (0, 0)) zx23_2 hb)
   replace HB := Aside0.mk (below_step zx23_0 hb)
   (try clear hb)
   (try clear hb2)
   (try clear hk)
   (try clear hi)
   (try clear ho0)
   obtain ⟨gI, gG, dE⟩ := Kd.N_slice b4.out
   (first | subst dE | (injection dE with f1_ f2_ f3_; have f4_ := f1_.symm; have f5_ := f3_.symm; clear f1_ f2_ f3_; subst f4_; subst f5_))
   obtain ⟨gH, gF, dD⟩ := Kd.N_slice dh.out
   (first | subst dD | (injection dD with f1_ f2_ f3_; have f4_ := f1_.symm; have f5_ := f3_.symm; clear f1_ f2_ f3_; subst f4_; subst f5_))
   refine hK.out _ _ ⟨(blk_cell bd.out 0).trans rfl, (blk_cell bd.out 1).trans rfl, (blk_cell bd.out 2).trans rfl, (blk_cell bc.out 0).trans rfl, (blk_cell bc.out 1).trans rfl, (blk_cell bc.out 2).trans rfl⟩ (fun hHeld => ?_)
   clear hK K
   refine na_ 58 ?_
   refine one_ (i := 16) (N := some 59) #[Tt,Tt,Tt,Tt,Tt,Tt,Tt,Tt,Tt,Tt,Tt,Tt,Tt,Tt,Tt,Tt,Tt,Ff,Ff] rfl rfl (one_of HT_.out (by kernel_rfl)) (by decide) (fun K hK => ?_)
   refine goes_ Tryd.func17 (by kernel_rfl) rfl #[.agg #[.int .u64 dn, .int .u64 dm, .slice gI dl.length gG], .agg #[.int .u64 dt, .int .u64 dr, .slice gH dq.length gF]] (by rfl) rfl rfl zx23_5 ?_
   with_reducible refine (postroomref11_Same.calls kj4 dn dm _ _ dl dt dr _ _ dq bQ _ ?side1 ?side2 ?side3 ?side4 A31.out).mono ?_
   (case side1 => repeat (first | exact (Kd.N_reads' b4.out).2.2 | (with_reducible refine Kd.C_alloc ?_ _) | (with_reducible refine Kd.C_drewN ?_ _) | (with_reducible refine Kd.C_drew ?_)))
   (case side2 => exact (Kd.N_reads' b4.out).2.1)
   (case side3 => repeat (first | exact (Kd.N_reads' dh.out).2.2 | (with_reducible refine Kd.C_alloc ?_ _) | (with_reducible refine Kd.C_drewN ?_ _) | (with_reducible refine Kd.C_drew ?_)))
   (case side4 => exact (Kd.N_reads' dh.out).2.1)
   rintro e w38 ⟨rfl, hb⟩
   refine ⟨_, rfl, ?_⟩
   have n0_ := Aside0.mk (Kd.V_below zx23_13 hb)
   have n1_ := Aside0.mk (Kd.N_below zx23_18 hb)
   have n4_ := Aside0.mk (blk_below (g := bb) (o := .cells #[.int .u64 bp, .int .u64 br, .slice bw bk.length bu] 25 (0, 0)) zx23_1 hb)
   have n5_ := Aside0.mk (blk_below (g := ba) (o := .cells #[.int .u64 bi, .int .u64 bj, .slice bh bf.length bg] 25 (0, 0)) zx23_2 hb)
   have n6_ := Aside0.mk (below_step zx23_0 hb)
   (try clear bn)
   (try clear bo)
   (try clear b4)
   (try clear dh)
   clear bc
   clear bd
   clear HB
   have bn := n0_
   have bo := n1_
   have bc := n4_
   have bd := n5_
   have HB := n6_
   clear n0_ n1_ n4_ n5_ n6_
   (try clear hb)
   (try clear hb2)
   (try clear hk)
   (try clear hi)
   refine hK.out _ _ ⟨(blk_cell bd.out 0).trans rfl, (blk_cell bd.out 1).trans rfl, (blk_cell bd.out 2).trans rfl, (blk_cell bc.out 0).trans rfl, (blk_cell bc.out 1).trans rfl, (blk_cell bc.out 2).trans rfl⟩ (fun hHeld => ?_)
   clear hK K
   refine na_ 59 ?_
   refine pp_ 17 (some 60) HT_.out ?_
   refine pp_ 18 (some 61) HT_.out ?_
   refine done_ (done_of HT_.out (by kernel_rfl)) ?_
   try go_wp2
   go_meet
   case rel => exact ⟨_, (!bQ), zx23_19, H', ⟨by have := HJ4.out; first | omega | exact Nat.le_refl _⟩, ⟨by (with_reducible repeat (first | apply Kd.V_alloc | apply Kd.V_drewN | apply Kd.V_drew)); exact Kd.V_mono bn.out (fun _ hk => ⟨hk.1.1.1, ⟨hk.1.1.2.1, hk.1.1.2.2⟩⟩)⟩, ⟨by (with_reducible repeat (first | apply Kd.N_alloc | apply Kd.N_drewN | apply Kd.N_drew)); exact Kd.N_mono bo.out (fun _ hk => ⟨hk.1.1.1, hk.1.1.2⟩)⟩, ⟨by (with_reducible repeat (first | refine blk_drewN ?_ _ | refine blk_drew ?_ | refine blk_alloc ?_ _)); exact bc.out⟩, ⟨by (with_reducible repeat (first | refine blk_drewN ?_ _ | refine blk_drew ?_ | refine blk_alloc ?_ _)); exact bd.out⟩, ⟨by repeat (first | (with_reducible first | exact HB.out | apply below_alloc | apply pw_below_drewN | apply below_drew1 | refine below_set ?_ bG.out | refine below_set ?_ bM.out) | exact HB.out)⟩⟩
  case rest =>
   clear dy
   (try clear c1); (try clear c2); (try clear p2); (try clear c10); (try clear c17); (try clear c24); (try clear b5); (try clear dw); (try clear c25); (try clear dv); (try clear du)
   obtain ⟨kq, b6, rfl, HA, hA, bm, bl, bc, bd, HB⟩ := hcut
   cases kq with
   | zero => exact absurd HA.out (by simp [postroomlaw11_MarkBack.j1])
   | succ b8 => ?_
   have H := HA.out
   clear HA
   simp only [postroomlaw11_MarkBack.j1] at H
   by_cases c43 : b6 = true
   ·subst c43
    have H1 : (some false) = some r := by rw [if_pos rfl] at H; exact H
    clear H
    have H := H1
    clear H1
    obtain rfl := Option.some.inj H
    go_wp2
    go_ret
    exact ⟨by first | rfl | (simp [errW_none, errW_some] <;> rfl) | (simp [*, errW_none, errW_some] <;> rfl), by repeat (first | (with_reducible first | exact HB.out | apply below_alloc | apply pw_below_drewN | apply below_drew1 | refine below_set ?_ bG.out | refine below_set ?_ bM.out) | exact HB.out)⟩
   replace c43 := Bool.eq_false_iff.mpr c43
   subst c43
   have H1 : ((postroomlaw11_pick.f a2 (bq.size : Int)).bind fun bH => (if 0 ≤ bH then (if bH ≤ (bq.size : Int) then ((mark_Take.f b8 (bq.extract 0 (bH : Int).toNat)).bind fun de => (if bq.size + a1.size ≤ 9223372036854775807 then ((mark_Take.f b8 (bq ++ a1)).bind fun b3 => (if de.2.2.2 = 2 then (some ((b3.2.2.2 == 0) == (a1.toList == ([] : List UInt8)))) else (some false))) else (none))) else (none)) else (none))) = some r := by rw [if_neg (show ¬ (false = true) by decide)] at H; exact H
   clear H
   have H := H1
   clear H1
   replace H := Option.bind_eq_some_iff.mp H
   obtain ⟨bH, dO, H⟩ := H
   replace H : (if 0 ≤ bH then (if bH ≤ (bq.size : Int) then ((mark_Take.f b8 (bq.extract 0 (bH : Int).toNat)).bind fun de => (if bq.size + a1.size ≤ 9223372036854775807 then ((mark_Take.f b8 (bq ++ a1)).bind fun b3 => (if de.2.2.2 = 2 then (some ((b3.2.2.2 == 0) == (a1.toList == ([] : List UInt8)))) else (some false))) else (none))) else (none)) else (none)) = some r := H
   have A44 := Aside0.mk dO
   clear dO
   by_cases c45 : 0 ≤ bH
   case neg =>
    rw [if_neg c45] at H
    exact absurd H (by simp)

   rw [if_pos c45] at H
   have hq := eq_true c45
   have hp : decide (0 ≤ bH) = true := decide_eq_true c45
   clear c45
   by_cases c46 : bH ≤ (bq.size : Int)
   case neg =>
    rw [if_neg c46] at H
    exact absurd H (by simp)
   rw [if_pos c46] at H
   have ho := eq_true c46
   have hn : decide (bH ≤ (bq.size : Int)) = true := decide_eq_true c46
   clear c46
   replace H := Option.bind_eq_some_iff.mp H
   obtain ⟨⟨bJ, bO, bI, b7⟩, dN, H⟩ := H
   replace H : (if bq.size + a1.size ≤ 9223372036854775807 then ((mark_Take.f b8 (bq ++ a1)).bind fun b3 => (if b7 = 2 then (some ((b3.2.2.2 == 0) == (a1.toList == ([] : List UInt8)))) else (some false))) else (none)) = some r := H
   have A47 := Aside0.mk dN
   clear dN
   by_cases c48 : bq.size + a1.size ≤ 9223372036854775807
   case neg =>
    rw [if_neg c48] at H
    exact absurd H (by simp)
   rw [if_pos c48] at H
   have hm := eq_true c48
   have hl : decide (bq.size + a1.size ≤ 9223372036854775807) = true := decide_eq_true c48
   try have hj : (9223372036854775807 < bq.size + a1.size) = False := eq_false (Nat.not_lt.2 c48)
   clear c48
   replace H := Option.bind_eq_some_iff.mp H
   obtain ⟨⟨dC, dB, dA, dx⟩, dM, H⟩ := H
   replace H : (if b7 = 2 then (some ((dx == 0) == (a1.toList == ([] : List UInt8)))) else (some false)) = some r := H
   have A49 := Aside0.mk dM
   clear dM
   by_cases c50 : b7 = 2
   ·rw [if_pos c50] at H
    have dH : (b7 == 2) = true := beq_iff_eq.mpr c50
    have dG : (b7 != 2) = false := bne_eq_false_iff_eq.mpr c50
    clear c50
    obtain rfl := Option.some.inj H
    go_wp2_with (first | ((with_reducible refine gate_callee (f := 19) rfl ?_); refine goesL_ (some 67) rfl rfl Tryd.func19 (by kernel_rfl) rfl #[.int .i64 a2, .int .i64 (bq.size : Int)] rfl zx23_5 ?_; (with_reducible refine (postroomlaw11_pick.calls a2 (bq.size : Int) bH _ A44.out).mono ?_); rintro e w' ⟨rfl, ⟨nd, rfl⟩⟩; refine ⟨_, rfl, ?_⟩; (try (rw [drewN_self wc]; generalize hq_ : World.drewN wc _ = wc; have n0_ : Aside0 (Kd.V k55 55 wc w.heap.size (fun k_ => some k_ ≠ (.slice bh bf.length bg : Value).ownBlock ∧ k_ ≠ bb ∧ k_ ≠ ba) (.slice bw bk.length bu) bk) := ⟨by rw [← hq_]; exact zx23_10⟩; have n1_ : Aside0 (Kd.N k55 55 wc w.heap.size (fun k_ => k_ ≠ bb ∧ k_ ≠ ba) (.slice bh bf.length bg) bf) := ⟨by rw [← hq_]; exact zx23_8⟩; have n2_ : Aside0 (wc.heap[bb]? = some (.cells #[.int .u64 bp, .int .u64 br, .slice bw bk.length bu] 25 (0, 0))) := ⟨by rw [← hq_]; exact zx23_1⟩; have n3_ : Aside0 (wc.heap[ba]? = some (.cells #[.int .u64 bi, .int .u64 bj, .slice bh bf.length bg] 25 (0, 0))) := ⟨by rw [← hq_]; exact zx23_2⟩; have n4_ : Aside0 (Below w.heap.size w wc) := ⟨by rw [← hq_]; exact zx23_0⟩; clear bm bl bc bd HB hq_; have bm := n0_; have bl := n1_; have bc := n2_; have bd := n3_; have HB := n4_; clear n0_ n1_ n2_ n3_ n4_))) | ((with_reducible refine gate_callee (f := 13) rfl ?_); refine goesL_ (some 69) rfl rfl Tryd.func13 (by kernel_rfl) rfl #[.string (bq.extract 0 (bH : Int).toNat)] rfl zx23_5 ?_; (with_reducible refine (mark_Take.calls b8 (bq.extract 0 (bH : Int).toNat) bJ bO bI b7 _ A47.out).mono ?_); rintro e w51 ⟨gy, rfl, ho0, hb⟩; refine ⟨_, rfl, ?_⟩; replace bm := Aside0.mk (Kd.V_elder' zx23_10 (Kd.N_base (Kd.S_N (Kd.S_bound ho0))) hb); have bE := Aside0.mk (Kd.N_lower (Kd.N_mono (ok' := fun k_ => some k_ ≠ (.slice bh bf.length bg : Value).ownBlock ∧ k_ ≠ bb ∧ k_ ≠ ba) (Kd.S_N (Kd.S_bound ho0)) (fun k_ hk_ => ⟨(Kd.fresh' (Kd.N_lt zx23_8) k_ hk_.2.1), (Kd.freshB (g := bb) (o := .cells #[.int .u64 bp, .int .u64 br, .slice bw bk.length bu] 25 (0, 0)) zx23_1 k_ hk_.2.1), (Kd.freshB (g := ba) (o := .cells #[.int .u64 bi, .int .u64 bj, .slice bh bf.length bg] 25 (0, 0)) zx23_2 k_ hk_.2.1)⟩)) (below_size zx23_0)); replace bl := Aside0.mk (Kd.N_elder' zx23_8 (Kd.N_base (Kd.S_N (Kd.S_bound ho0))) hb); replace bc := Aside0.mk (blk_below (g := bb) (o := .cells #[.int .u64 bp, .int .u64 br, .slice bw bk.length bu] 25 (0, 0)) zx23_1 hb); replace bd := Aside0.mk (blk_below (g := ba) (o := .cells #[.int .u64 bi, .int .u64 bj, .slice bh bf.length bg] 25 (0, 0)) zx23_2 hb); replace HB := Aside0.mk (below_step zx23_0 hb); (try clear hb); (try clear hb2); (try clear hk); (try clear hi); (try clear ho0)) | ((with_reducible refine gate_dst (N := 13) rfl ?_); (try (refine gate_guard (by rfl) ?_; dsimp only)); refine box_event ?hg (N := 13) ?hd (cs := #[.int .u64 0, .int .u64 0, .slice none 0 0]) (t := 25) ?hr ?_; (case hd => rfl); (case hg => rfl); (case hr => first | (go_simp; done) | (go_simp; rfl)); intro be hg w52 hbox hb; replace bm := Aside0.mk (Kd.V_below (Kd.V_elderB zx23_10 be (Nat.le_of_eq hg.symm)) hb); replace bl := Aside0.mk (Kd.N_below (Kd.N_elderB zx23_8 be (Nat.le_of_eq hg.symm)) hb); replace bE := Aside0.mk (Kd.N_below (Kd.N_elderB (by (with_reducible repeat (first | apply Kd.N_alloc | apply Kd.N_drewN | apply Kd.N_drew)); exact bE.out) be (Nat.le_of_eq hg.symm)) hb); have bB := Aside0.mk (hbox); have dL := Aside0.mk ((by rw [hg]; exact (below_size zx23_0) : w.heap.size ≤ be)); have di := Aside0.mk ((by rw [hg]; exact (below_size zx23_0) : w.heap.size ≤ be)); replace HB := Aside0.mk (below_step zx23_0 hb); have bS := Aside0.mk ((by rw [hg]; exact Nat.ne_of_lt (blk_lt (g := bb) (o := .cells #[.int .u64 bp, .int .u64 br, .slice bw bk.length bu] 25 (0, 0)) zx23_1) : bb ≠ be)); have bZ := Aside0.mk ((by rw [hg]; exact Nat.ne_of_gt (blk_lt (g := bb) (o := .cells #[.int .u64 bp, .int .u64 br, .slice bw bk.length bu] 25 (0, 0)) zx23_1) : be ≠ bb)); replace bc := Aside0.mk (blk_below (g := bb) (o := .cells #[.int .u64 bp, .int .u64 br, .slice bw bk.length bu] 25 (0, 0)) zx23_1 hb); have bR := Aside0.mk ((by rw [hg]; exact Nat.ne_of_lt (blk_lt (g := ba) (o := .cells #[.int .u64 bi, .int .u64 bj, .slice bh bf.length bg] 25 (0, 0)) zx23_2) : ba ≠ be)); have bY := Aside0.mk ((by rw [hg]; exact Nat.ne_of_gt (blk_lt (g := ba) (o := .cells #[.int .u64 bi, .int .u64 bj, .slice bh bf.length bg] 25 (0, 0)) zx23_2) : be ≠ ba)); replace bd := Aside0.mk (blk_below (g := ba) (o := .cells #[.int .u64 bi, .int .u64 bj, .slice bh bf.length bg] 25 (0, 0)) zx23_2 hb); clear hb hbox hg; have hf := bZ.out; have gS := bS.out; have he := bY.out; have gR := bR.out; have gq : w52.cell? ⟨be, 0, none⟩ = some (.int .u64 0) := (blk_cell bB.out 0).trans rfl; have gp : w52.cell? ⟨be, 1, none⟩ = some (.int .u64 0) := (blk_cell bB.out 1).trans rfl; have go : w52.cell? ⟨be, 2, none⟩ = some (.slice none 0 0) := (blk_cell bB.out 2).trans rfl; have d6 := blk_frozen bB.out 0; have d5 := blk_frozen bB.out 1; have d4 := blk_frozen bB.out 2; obtain ⟨dc, da, gC⟩ := Kd.N_slice bE.out; subst gC) | ((with_reducible refine gate_callee (f := 13) rfl ?_); refine goesL_ (some 76) rfl rfl Tryd.func13 (by kernel_rfl) rfl #[.string (bq ++ a1)] rfl zx23_5 ?_; (with_reducible refine (mark_Take.calls b8 (bq ++ a1) dC dB dA dx _ A49.out).mono ?_); rintro e w57 ⟨gx, rfl, ho0, hb⟩; refine ⟨_, rfl, ?_⟩; replace bm := Aside0.mk (Kd.V_elder' (by (with_reducible repeat (first | apply Kd.V_alloc | apply Kd.V_drewN | apply Kd.V_drew)); exact (Kd.V_mono (Kd.V_far (p := ⟨be, 2, none⟩) (Kd.V_far (p := ⟨be, 1, none⟩) (Kd.V_far (p := ⟨be, 0, none⟩) (Kd.V_mono bm.out (fun k_ hk => (⟨hk, hk.2⟩ : _ ∧ k_ ≠ be))) (fun _ hk => hk.2) (.int .u64 bJ)) (fun _ hk => hk.2) (.int .u64 bO)) (fun _ hk => hk.2) (.slice dc bI.length da)) (fun _ h_ => h_.1))) (Kd.N_base (Kd.S_N (Kd.S_bound ho0))) hb); have b2 := Aside0.mk (Kd.N_lower (Kd.N_mono (ok' := fun k_ => some k_ ≠ (.slice bh bf.length bg : Value).ownBlock ∧ some k_ ≠ (.slice dc bI.length da : Value).ownBlock ∧ k_ ≠ bb ∧ k_ ≠ ba ∧ k_ ≠ be) (Kd.S_N (Kd.S_bound ho0)) (fun k_ hk_ => ⟨(Kd.fresh' (Kd.N_lt zx23_14) k_ hk_.2.1), (Kd.fresh' (Kd.N_lt zx23_17) k_ hk_.2.1), (Kd.freshB (g := bb) (o := .cells #[.int .u64 bp, .int .u64 br, .slice bw bk.length bu] 25 (0, 0)) zx23_6 k_ hk_.2.1), (Kd.freshB (g := ba) (o := .cells #[.int .u64 bi, .int .u64 bj, .slice bh bf.length bg] 25 (0, 0)) zx23_7 k_ hk_.2.1), (Kd.freshB (g := be) (o := .cells #[.int .u64 bJ, .int .u64 bO, .slice dc bI.length da] 25 (0, 0)) zx23_4 k_ hk_.2.1)⟩)) (below_size zx23_3)); replace bl := Aside0.mk (Kd.N_elder' zx23_14 (Kd.N_base (Kd.S_N (Kd.S_bound ho0))) hb); replace bE := Aside0.mk (Kd.N_elder' zx23_17 (Kd.N_base (Kd.S_N (Kd.S_bound ho0))) hb); replace bc := Aside0.mk (blk_below (g := bb) (o := .cells #[.int .u64 bp, .int .u64 br, .slice bw bk.length bu] 25 (0, 0)) zx23_6 hb); replace bd := Aside0.mk (blk_below (g := ba) (o := .cells #[.int .u64 bi, .int .u64 bj, .slice bh bf.length bg] 25 (0, 0)) zx23_7 hb); replace bB := Aside0.mk (blk_below (g := be) (o := .cells #[.int .u64 bJ, .int .u64 bO, .slice dc bI.length da] 25 (0, 0)) zx23_4 hb); replace HB := Aside0.mk (below_step zx23_3 hb); (try clear hb); (try clear hb2); (try clear hk); (try clear hi); (try clear ho0)) | ((with_reducible refine gate_dst (N := 15) rfl ?_); (try (refine gate_guard (by rfl) ?_; dsimp only)); refine box_event ?hg (N := 15) ?hd (cs := #[.int .u64 0, .int .u64 0, .slice none 0 0]) (t := 25) ?hr ?_; (case hd => rfl); (case hg => rfl); (case hr => first | (go_simp; done) | (go_simp; rfl)); intro bx hg w58 hbox hb; replace bm := Aside0.mk (Kd.V_below (Kd.V_elderB zx23_10 bx (Nat.le_of_eq hg.symm)) hb); replace bl := Aside0.mk (Kd.N_below (Kd.N_elderB zx23_8 bx (Nat.le_of_eq hg.symm)) hb); replace bE := Aside0.mk (Kd.N_below (Kd.N_elderB (by (with_reducible repeat (first | apply Kd.N_alloc | apply Kd.N_drewN | apply Kd.N_drew)); exact bE.out) bx (Nat.le_of_eq hg.symm)) hb); replace b2 := Aside0.mk (Kd.N_below (Kd.N_elderB (by (with_reducible repeat (first | apply Kd.N_alloc | apply Kd.N_drewN | apply Kd.N_drew)); exact b2.out) bx (Nat.le_of_eq hg.symm)) hb); have bN := Aside0.mk (hbox); have dK := Aside0.mk ((by rw [hg]; exact (below_size zx23_3) : w.heap.size ≤ bx)); have dp := Aside0.mk ((by rw [hg]; exact (below_size zx23_3) : w.heap.size ≤ bx)); replace HB := Aside0.mk (below_step zx23_3 hb); have b1 := Aside0.mk ((by rw [hg]; exact Nat.ne_of_lt (blk_lt (g := bb) (o := .cells #[.int .u64 bp, .int .u64 br, .slice bw bk.length bu] 25 (0, 0)) zx23_1) : bb ≠ bx)); have bW := Aside0.mk ((by rw [hg]; exact Nat.ne_of_gt (blk_lt (g := bb) (o := .cells #[.int .u64 bp, .int .u64 br, .slice bw bk.length bu] 25 (0, 0)) zx23_1) : bx ≠ bb)); replace bc := Aside0.mk (blk_below (g := bb) (o := .cells #[.int .u64 bp, .int .u64 br, .slice bw bk.length bu] 25 (0, 0)) zx23_1 hb); have b0 := Aside0.mk ((by rw [hg]; exact Nat.ne_of_lt (blk_lt (g := ba) (o := .cells #[.int .u64 bi, .int .u64 bj, .slice bh bf.length bg] 25 (0, 0)) zx23_2) : ba ≠ bx)); have bV := Aside0.mk ((by rw [hg]; exact Nat.ne_of_gt (blk_lt (g := ba) (o := .cells #[.int .u64 bi, .int .u64 bj, .slice bh bf.length bg] 25 (0, 0)) zx23_2) : bx ≠ ba)); replace bd := Aside0.mk (blk_below (g := ba) (o := .cells #[.int .u64 bi, .int .u64 bj, .slice bh bf.length bg] 25 (0, 0)) zx23_2 hb); have bX := Aside0.mk ((by rw [hg]; exact Nat.ne_of_lt (blk_lt (g := be) (o := .cells #[.int .u64 bJ, .int .u64 bO, .slice dc bI.length da] 25 (0, 0)) zx23_12) : be ≠ bx)); have bU := Aside0.mk ((by rw [hg]; exact Nat.ne_of_gt (blk_lt (g := be) (o := .cells #[.int .u64 bJ, .int .u64 bO, .slice dc bI.length da] 25 (0, 0)) zx23_12) : bx ≠ be)); replace bB := Aside0.mk (blk_below (g := be) (o := .cells #[.int .u64 bJ, .int .u64 bO, .slice dc bI.length da] 25 (0, 0)) zx23_12 hb); clear hb hbox hg; have hc := bW.out; have gQ := b1.out; have ha := bV.out; have gP := b0.out; have gZ := bU.out; have gO := bX.out; have gn : w58.cell? ⟨bx, 0, none⟩ = some (.int .u64 0) := (blk_cell bN.out 0).trans rfl; have gm : w58.cell? ⟨bx, 1, none⟩ = some (.int .u64 0) := (blk_cell bN.out 1).trans rfl; have gl : w58.cell? ⟨bx, 2, none⟩ = some (.slice none 0 0) := (blk_cell bN.out 2).trans rfl; have d3 := blk_frozen bN.out 0; have d2 := blk_frozen bN.out 1; have d1 := blk_frozen bN.out 2; obtain ⟨hC, hz, gB⟩ := Kd.N_slice b2.out; subst gB))
    go_ret
    exact ⟨by first | rfl | (simp [errW_none, errW_some] <;> rfl) | (simp [*, errW_none, errW_some] <;> rfl), by repeat (first | (with_reducible first | exact HB.out | apply below_alloc | apply pw_below_drewN | apply below_drew1 | refine below_set ?_ bG.out | refine below_set ?_ bM.out | refine below_set ?_ di.out | refine below_set ?_ dp.out) | exact HB.out)⟩
   rw [if_neg c50] at H
   have dH : (b7 == 2) = false := beq_eq_false_iff_ne.mpr c50
   have dG : (b7 != 2) = true := bne_iff_ne.mpr c50
   obtain rfl := Option.some.inj H
   go_wp2_with (first | ((with_reducible refine gate_callee (f := 19) rfl ?_); refine goesL_ (some 67) rfl rfl Tryd.func19 (by kernel_rfl) rfl #[.int .i64 a2, .int .i64 (bq.size : Int)] rfl zx23_5 ?_; (with_reducible refine (postroomlaw11_pick.calls a2 (bq.size : Int) bH _ A44.out).mono ?_); rintro e w' ⟨rfl, ⟨nd, rfl⟩⟩; refine ⟨_, rfl, ?_⟩; (try (rw [drewN_self wc]; generalize hq_ : World.drewN wc _ = wc; have n0_ : Aside0 (Kd.V k55 55 wc w.heap.size (fun k_ => some k_ ≠ (.slice bh bf.length bg : Value).ownBlock ∧ k_ ≠ bb ∧ k_ ≠ ba) (.slice bw bk.length bu) bk) := ⟨by rw [← hq_]; exact zx23_10⟩; have n1_ : Aside0 (Kd.N k55 55 wc w.heap.size (fun k_ => k_ ≠ bb ∧ k_ ≠ ba) (.slice bh bf.length bg) bf) := ⟨by rw [← hq_]; exact zx23_8⟩; have n2_ : Aside0 (wc.heap[bb]? = some (.cells #[.int .u64 bp, .int .u64 br, .slice bw bk.length bu] 25 (0, 0))) := ⟨by rw [← hq_]; exact zx23_1⟩; have n3_ : Aside0 (wc.heap[ba]? = some (.cells #[.int .u64 bi, .int .u64 bj, .slice bh bf.length bg] 25 (0, 0))) := ⟨by rw [← hq_]; exact zx23_2⟩; have n4_ : Aside0 (Below w.heap.size w wc) := ⟨by rw [← hq_]; exact zx23_0⟩; clear bm bl bc bd HB hq_; have bm := n0_; have bl := n1_; have bc := n2_; have bd := n3_; have HB := n4_; clear n0_ n1_ n2_ n3_ n4_))) | ((with_reducible refine gate_callee (f := 13) rfl ?_); refine goesL_ (some 69) rfl rfl Tryd.func13 (by kernel_rfl) rfl #[.string (bq.extract 0 (bH : Int).toNat)] rfl zx23_5 ?_; (with_reducible refine (mark_Take.calls b8 (bq.extract 0 (bH : Int).toNat) bJ bO bI b7 _ A47.out).mono ?_); rintro e w64 ⟨gy, rfl, ho0, hb⟩; refine ⟨_, rfl, ?_⟩; replace bm := Aside0.mk (Kd.V_elder' zx23_10 (Kd.N_base (Kd.S_N (Kd.S_bound ho0))) hb); have bE := Aside0.mk (Kd.N_lower (Kd.N_mono (ok' := fun k_ => some k_ ≠ (.slice bh bf.length bg : Value).ownBlock ∧ k_ ≠ bb ∧ k_ ≠ ba) (Kd.S_N (Kd.S_bound ho0)) (fun k_ hk_ => ⟨(Kd.fresh' (Kd.N_lt zx23_8) k_ hk_.2.1), (Kd.freshB (g := bb) (o := .cells #[.int .u64 bp, .int .u64 br, .slice bw bk.length bu] 25 (0, 0)) zx23_1 k_ hk_.2.1), (Kd.freshB (g := ba) (o := .cells #[.int .u64 bi, .int .u64 bj, .slice bh bf.length bg] 25 (0, 0)) zx23_2 k_ hk_.2.1)⟩)) (below_size zx23_0)); replace bl := Aside0.mk (Kd.N_elder' zx23_8 (Kd.N_base (Kd.S_N (Kd.S_bound ho0))) hb); replace bc := Aside0.mk (blk_below (g := bb) (o := .cells #[.int .u64 bp, .int .u64 br, .slice bw bk.length bu] 25 (0, 0)) zx23_1 hb); replace bd := Aside0.mk (blk_below (g := ba) (o := .cells #[.int .u64 bi, .int .u64 bj, .slice bh bf.length bg] 25 (0, 0)) zx23_2 hb); replace HB := Aside0.mk (below_step zx23_0 hb); (try clear hb); (try clear hb2); (try clear hk); (try clear hi); (try clear ho0)) | ((with_reducible refine gate_dst (N := 13) rfl ?_); (try (refine gate_guard (by rfl) ?_; dsimp only)); refine box_event ?hg (N := 13) ?hd (cs := #[.int .u64 0, .int .u64 0, .slice none 0 0]) (t := 25) ?hr ?_; (case hd => rfl); (case hg => rfl); (case hr => first | (go_simp; done) | (go_simp; rfl)); intro be hg w65 hbox hb; replace bm := Aside0.mk (Kd.V_below (Kd.V_elderB zx23_10 be (Nat.le_of_eq hg.symm)) hb); replace bl := Aside0.mk (Kd.N_below (Kd.N_elderB zx23_8 be (Nat.le_of_eq hg.symm)) hb); replace bE := Aside0.mk (Kd.N_below (Kd.N_elderB (by (with_reducible repeat (first | apply Kd.N_alloc | apply Kd.N_drewN | apply Kd.N_drew)); exact bE.out) be (Nat.le_of_eq hg.symm)) hb); have bB := Aside0.mk (hbox); have dL := Aside0.mk ((by rw [hg]; exact (below_size zx23_0) : w.heap.size ≤ be)); have di := Aside0.mk ((by rw [hg]; exact (below_size zx23_0) : w.heap.size ≤ be)); replace HB := Aside0.mk (below_step zx23_0 hb); have bS := Aside0.mk ((by rw [hg]; exact Nat.ne_of_lt (blk_lt (g := bb) (o := .cells #[.int .u64 bp, .int .u64 br, .slice bw bk.length bu] 25 (0, 0)) zx23_1) : bb ≠ be)); have bZ := Aside0.mk ((by rw [hg]; exact Nat.ne_of_gt (blk_lt (g := bb) (o := .cells #[.int .u64 bp, .int .u64 br, .slice bw bk.length bu] 25 (0, 0)) zx23_1) : be ≠ bb)); replace bc := Aside0.mk (blk_below (g := bb) (o := .cells #[.int .u64 bp, .int .u64 br, .slice bw bk.length bu] 25 (0, 0)) zx23_1 hb); have bR := Aside0.mk ((by rw [hg]; exact Nat.ne_of_lt (blk_lt (g := ba) (o := .cells #[.int .u64 bi, .int .u64 bj, .slice bh bf.length bg] 25 (0, 0)) zx23_2) : ba ≠ be)); have bY := Aside0.mk ((by rw [hg]; exact Nat.ne_of_gt (blk_lt (g := ba) (o := .cells #[.int .u64 bi, .int .u64 bj, .slice bh bf.length bg] 25 (0, 0)) zx23_2) : be ≠ ba)); replace bd := Aside0.mk (blk_below (g := ba) (o := .cells #[.int .u64 bi, .int .u64 bj, .slice bh bf.length bg] 25 (0, 0)) zx23_2 hb); clear hb hbox hg; have gY := bZ.out; have gN := bS.out; have gX := bY.out; have gM := bR.out; have gk : w65.cell? ⟨be, 0, none⟩ = some (.int .u64 0) := (blk_cell bB.out 0).trans rfl; have gj : w65.cell? ⟨be, 1, none⟩ = some (.int .u64 0) := (blk_cell bB.out 1).trans rfl; have gi : w65.cell? ⟨be, 2, none⟩ = some (.slice none 0 0) := (blk_cell bB.out 2).trans rfl; have d0 := blk_frozen bB.out 0; have dZ := blk_frozen bB.out 1; have dY := blk_frozen bB.out 2; obtain ⟨db, b9, gA⟩ := Kd.N_slice bE.out; subst gA) | ((with_reducible refine gate_callee (f := 13) rfl ?_); refine goesL_ (some 76) rfl rfl Tryd.func13 (by kernel_rfl) rfl #[.string (bq ++ a1)] rfl zx23_5 ?_; (with_reducible refine (mark_Take.calls b8 (bq ++ a1) dC dB dA dx _ A49.out).mono ?_); rintro e w70 ⟨gx, rfl, ho0, hb⟩; refine ⟨_, rfl, ?_⟩; have n0_ := Aside0.mk (Kd.V_elder' (by (with_reducible repeat (first | apply Kd.V_alloc | apply Kd.V_drewN | apply Kd.V_drew)); exact (Kd.V_mono (Kd.V_far (p := ⟨be, 2, none⟩) (Kd.V_far (p := ⟨be, 1, none⟩) (Kd.V_far (p := ⟨be, 0, none⟩) (Kd.V_mono bm.out (fun k_ hk => (⟨hk, hk.2⟩ : _ ∧ k_ ≠ be))) (fun _ hk => hk.2) (.int .u64 bJ)) (fun _ hk => hk.2) (.int .u64 bO)) (fun _ hk => hk.2) (.slice db bI.length b9)) (fun _ h_ => h_.1))) (Kd.N_base (Kd.S_N (Kd.S_bound ho0))) hb); have n1_ := Aside0.mk (Kd.N_elder' zx23_15 (Kd.N_base (Kd.S_N (Kd.S_bound ho0))) hb); have n3_ := Aside0.mk (Kd.N_lower (Kd.N_mono (ok' := fun k_ => some k_ ≠ (.slice bh bf.length bg : Value).ownBlock ∧ some k_ ≠ (.slice db bI.length b9 : Value).ownBlock ∧ k_ ≠ bb ∧ k_ ≠ ba ∧ k_ ≠ be) (Kd.S_N (Kd.S_bound ho0)) (fun k_ hk_ => ⟨(Kd.fresh' (Kd.N_lt zx23_15) k_ hk_.2.1), (Kd.fresh' (Kd.N_lt (by (with_reducible repeat (first | apply Kd.N_alloc | apply Kd.N_drewN | apply Kd.N_drew)); exact (Kd.N_mono (Kd.N_far (p := ⟨be, 2, none⟩) (Kd.N_far (p := ⟨be, 1, none⟩) (Kd.N_far (p := ⟨be, 0, none⟩) (Kd.N_mono bE.out (fun k_ hk => (⟨hk, hk.2⟩ : _ ∧ k_ ≠ be))) (fun _ hk => hk.2) (.int .u64 bJ)) (fun _ hk => hk.2) (.int .u64 bO)) (fun _ hk => hk.2) (.slice db bI.length b9)) (fun _ h_ => h_.1)))) k_ hk_.2.1), (Kd.freshB (g := bb) (o := .cells #[.int .u64 bp, .int .u64 br, .slice bw bk.length bu] 25 (0, 0)) zx23_6 k_ hk_.2.1), (Kd.freshB (g := ba) (o := .cells #[.int .u64 bi, .int .u64 bj, .slice bh bf.length bg] 25 (0, 0)) zx23_7 k_ hk_.2.1), (Kd.freshB (g := be) (o := .cells #[.int .u64 bJ, .int .u64 bO, .slice db bI.length b9] 25 (0, 0)) zx23_4 k_ hk_.2.1)⟩)) (below_size zx23_3)); have n4_ := Aside0.mk (blk_below (g := bb) (o := .cells #[.int .u64 bp, .int .u64 br, .slice bw bk.length bu] 25 (0, 0)) zx23_6 hb); have n5_ := Aside0.mk (blk_below (g := ba) (o := .cells #[.int .u64 bi, .int .u64 bj, .slice bh bf.length bg] 25 (0, 0)) zx23_7 hb); have n6_ := Aside0.mk (blk_below (g := be) (o := .cells #[.int .u64 bJ, .int .u64 bO, .slice db bI.length b9] 25 (0, 0)) zx23_4 hb); have n7_ := Aside0.mk (below_step zx23_3 hb); clear bm; clear bl; (try clear bE); clear bc; clear bd; clear bB; clear HB; have bm := n0_; have bl := n1_; have b2 := n3_; have bc := n4_; have bd := n5_; have bB := n6_; have HB := n7_; clear n0_ n1_ n3_ n4_ n5_ n6_ n7_; (try clear hb); (try clear hb2); (try clear hk); (try clear hi); (try clear ho0)) | ((with_reducible refine gate_dst (N := 15) rfl ?_); (try (refine gate_guard (by rfl) ?_; dsimp only)); refine box_event ?hg (N := 15) ?hd (cs := #[.int .u64 0, .int .u64 0, .slice none 0 0]) (t := 25) ?hr ?_; (case hd => rfl); (case hg => rfl); (case hr => first | (go_simp; done) | (go_simp; rfl)); intro bx hg w71 hbox hb; have n0_ := Aside0.mk (Kd.V_below (Kd.V_elderB zx23_10 bx (Nat.le_of_eq hg.symm)) hb); have n1_ := Aside0.mk (Kd.N_below (Kd.N_elderB zx23_8 bx (Nat.le_of_eq hg.symm)) hb); have n3_ := Aside0.mk (Kd.N_below (Kd.N_elderB (by (with_reducible repeat (first | apply Kd.N_alloc | apply Kd.N_drewN | apply Kd.N_drew)); exact b2.out) bx (Nat.le_of_eq hg.symm)) hb); have n4_ := Aside0.mk (blk_below (g := bb) (o := .cells #[.int .u64 bp, .int .u64 br, .slice bw bk.length bu] 25 (0, 0)) zx23_1 hb); have n5_ := Aside0.mk (blk_below (g := ba) (o := .cells #[.int .u64 bi, .int .u64 bj, .slice bh bf.length bg] 25 (0, 0)) zx23_2 hb); have n6_ := Aside0.mk (blk_below (g := be) (o := .cells #[.int .u64 bJ, .int .u64 bO, .slice db bI.length b9] 25 (0, 0)) zx23_12 hb); have n7_ := Aside0.mk (below_step zx23_3 hb); have n8_ := Aside0.mk (hbox); have n9_ := Aside0.mk ((by rw [hg]; exact (below_size zx23_3) : w.heap.size ≤ bx)); have n10_ := Aside0.mk ((by rw [hg]; exact (below_size zx23_3) : w.heap.size ≤ bx)); have n11_ := Aside0.mk ((by rw [hg]; exact Nat.ne_of_lt (blk_lt (g := bb) (o := .cells #[.int .u64 bp, .int .u64 br, .slice bw bk.length bu] 25 (0, 0)) zx23_1) : bb ≠ bx)); have n12_ := Aside0.mk ((by rw [hg]; exact Nat.ne_of_gt (blk_lt (g := bb) (o := .cells #[.int .u64 bp, .int .u64 br, .slice bw bk.length bu] 25 (0, 0)) zx23_1) : bx ≠ bb)); have n13_ := Aside0.mk ((by rw [hg]; exact Nat.ne_of_lt (blk_lt (g := ba) (o := .cells #[.int .u64 bi, .int .u64 bj, .slice bh bf.length bg] 25 (0, 0)) zx23_2) : ba ≠ bx)); have n14_ := Aside0.mk ((by rw [hg]; exact Nat.ne_of_gt (blk_lt (g := ba) (o := .cells #[.int .u64 bi, .int .u64 bj, .slice bh bf.length bg] 25 (0, 0)) zx23_2) : bx ≠ ba)); have n15_ := Aside0.mk ((by rw [hg]; exact Nat.ne_of_lt (blk_lt (g := be) (o := .cells #[.int .u64 bJ, .int .u64 bO, .slice db bI.length b9] 25 (0, 0)) zx23_12) : be ≠ bx)); have n16_ := Aside0.mk ((by rw [hg]; exact Nat.ne_of_gt (blk_lt (g := be) (o := .cells #[.int .u64 bJ, .int .u64 bO, .slice db bI.length b9] 25 (0, 0)) zx23_12) : bx ≠ be)); clear bm; clear bl; (try clear bE); (try clear b2); clear bc; clear bd; clear bB; clear HB; have bm := n0_; have bl := n1_; have b2 := n3_; have bc := n4_; have bd := n5_; have bB := n6_; have HB := n7_; have bN := n8_; have dK := n9_; have dp := n10_; have b1 := n11_; have bW := n12_; have b0 := n13_; have bV := n14_; have bX := n15_; have bU := n16_; clear n0_ n1_ n3_ n4_ n5_ n6_ n7_ n8_ n9_ n10_ n11_ n12_ n13_ n14_ n15_ n16_; clear hb hbox hg; have gW := bW.out; have gL := b1.out; have gV := bV.out; have gK := b0.out; have gU := bU.out; have gJ := bX.out; have gh : w71.cell? ⟨bx, 0, none⟩ = some (.int .u64 0) := (blk_cell bN.out 0).trans rfl; have gg : w71.cell? ⟨bx, 1, none⟩ = some (.int .u64 0) := (blk_cell bN.out 1).trans rfl; have gf : w71.cell? ⟨bx, 2, none⟩ = some (.slice none 0 0) := (blk_cell bN.out 2).trans rfl; have dX := blk_frozen bN.out 0; have dW := blk_frozen bN.out 1; have dV := blk_frozen bN.out 2; obtain ⟨hB, hy, gz⟩ := Kd.N_slice b2.out; subst gz))
   go_ret
   exact ⟨by first | rfl | (simp [errW_none, errW_some] <;> rfl) | (simp [*, errW_none, errW_some] <;> rfl), by repeat (first | (with_reducible first | exact HB.out | apply below_alloc | apply pw_below_drewN | apply below_drew1 | refine below_set ?_ bG.out | refine below_set ?_ bM.out | refine below_set ?_ di.out | refine below_set ?_ dp.out) | exact HB.out)⟩
/-- THE ONE PURE STATEMENT of postroomlaw11_MarkBack. -/
def postroomlaw11_MarkBack.Pure : Prop := ∀ (l0 : List (S75)) (a1 : ByteArray) (a2 : Int), l0.length ≤ maxLen → l0.length * 24 ≤ 140737488351232 → (∀ x ∈ l0, ((Lit.int .i64 x.f0).wf = true ∧ (Lit.int .i64 x.f1).wf = true ∧ (Lit.int .i64 x.f2).wf = true)) → a1.size ≤ 140737488351232 → (Lit.int .i64 a2).wf = true → ∃ k, postroomlaw11_MarkBack.f k l0 a1 a2 = some true
theorem postroomlaw11_MarkBack.walk (P : postroomlaw11_MarkBack.Pure) (A0 : Option Addr) (c0 : Nat) (l0 : List (S75)) (a1 : ByteArray) (a2 : Int) (w : World) (hr0 : Kd.C k75 w A0 l0.length l0) (hc0 : l0.length ≤ c0) (hm0 : l0.length ≤ maxLen) (hy0 : l0.length * 24 ≤ 140737488351232) (hw0 : (∀ x ∈ l0, ((Lit.int .i64 x.f0).wf = true ∧ (Lit.int .i64 x.f1).wf = true ∧ (Lit.int .i64 x.f2).wf = true))) (hw1 : a1.size ≤ 140737488351232) (hw2 : (Lit.int .i64 a2).wf = true) :
  Calls Tryd.prog 4 #[.slice A0 l0.length c0, .string a1, .int .i64 a2] w fun e w' => e = .returned (.bool true) ∧ Below w.heap.size w w' := by
 obtain ⟨k, h⟩ := P l0 a1 a2 hm0 hy0 hw0 hw1 hw2
 refine (postroomlaw11_MarkBack.calls k A0 c0 l0 a1 a2 true w hr0 hc0 h).mono ?_
 rintro e w' ⟨rfl, hd⟩
 exact ⟨rfl, hd⟩

end Go.Proofs.YtmbigoeldobaiaaDoor.XMrk
