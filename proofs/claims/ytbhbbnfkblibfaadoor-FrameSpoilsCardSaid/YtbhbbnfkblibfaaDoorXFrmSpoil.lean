/- What the functions of the translation answer, each as a plain Lean function, and that the code comes to it; for a law: its row. Conditions: none but those that each theorem names. Written by a program of this session (wip/xp). -/
import Derived.Test.YtbhbbnfkblibfaaDoorXFrmx4
import Derived.Test.YtbhbbnfkblibfaaDoorXFrmx5
import Derived.Test.YtbhbbnfkblibfaaDoorXFrmx8
import Derived.Test.YtbhbbnfkblibfaaDoorGFrameScan
import Derived.Test.YtbhbbnfkblibfaaDoorFrmBt
import Derived.Test.YtbhbbnfkblibfaaDoorFrmBtRow
namespace Go.Proofs.YtbhbbnfkblibfaaDoor.XFrm
open Go.RowKit Go.Proofs.YtbhbbnfkblibfaaDoorW.PrintWords Go.Proofs.YtbhbbnfkblibfaaDoorW.PrintLast Go.Proofs.YtbhbbnfkblibfaaDoorW.PrintMore
attribute [local go_sem] max2_int min2_int max_two min_two max_three min_three max_four min_four   -- for this text's walks alone
set_option linter.unusedVariables false
set_option linter.unusedSimpArgs false

/-! ### postroomlaw6_FrameSpoils: function 6 -/
mutual
def postroomlaw6_FrameSpoils.j0 : Nat → Int → List ByteArray → Int → Int → Bool → Bool → Option (Bool)
  | 0, _, _, _, _, _, _ => none
  | k + 1, x0, x1, x2, x3, x9, x30 => if x30 = true then (some x9) else ((postroomlaw6_row.f k x0 x1).bind fun bt305 => ((postroomlaw6_pick.f x2 (bt305.1.length : Int)).bind fun t309 => (postroomlaw6_FrameSpoils.l0 k x3 bt305.1 bt305.2 t309 0 0)))
def postroomlaw6_FrameSpoils.l0 : Nat → Int → List (S43) → ByteArray → Int → Int → Int → Option (Bool)
  | 0, _, _, _, _, _, _ => none
  | k + 1, x3, x10, x11, x12, x13, x14 => if x14 < x12 then (if 0 ≤ x14 then (if x14 < (x10.length : Int) then (postroomlaw6_FrameSpoils.l0 k x3 x10 x11 x12 (wrap64 (x13 + ((rd_T43 x10 x14).f2))) (wrap64 (x14 + 1))) else (none)) else (none)) else (if 0 ≤ x12 then (if x12 < (x10.length : Int) then ((some ((bytesOf x11) : List Int)).bind fun y313 => ((postroomlaw6_pick.f x3 (wrap64 (8 * (wrap64 ((((rd_T43 x10 x12).f1).size : Int) + 4))))).bind fun t316 => (if 0 ≤ (wrap64 ((wrap64 ((wrap64 (x13 + ((rd_T43 x10 x12).f2))) - (wrap64 ((((rd_T43 x10 x12).f1).size : Int) + 4)))) + (wrap64 (Int.tdiv t316 8)))) then (if (wrap64 ((wrap64 ((wrap64 (x13 + ((rd_T43 x10 x12).f2))) - (wrap64 ((((rd_T43 x10 x12).f1).size : Int) + 4)))) + (wrap64 (Int.tdiv t316 8)))) < (y313.length : Int) then (if 0 ≤ (IntKind.u64.wrap (Int.tmod t316 8)) then ((some (y313.set ((wrap64 ((wrap64 ((wrap64 (x13 + ((rd_T43 x10 x12).f2))) - (wrap64 ((((rd_T43 x10 x12).f1).size : Int) + 4)))) + (wrap64 (Int.tdiv t316 8)))) : Int).toNat (Go.bits .xor .u8 (rd y313 (wrap64 ((wrap64 ((wrap64 (x13 + ((rd_T43 x10 x12).f2))) - (wrap64 ((((rd_T43 x10 x12).f1).size : Int) + 4)))) + (wrap64 (Int.tdiv t316 8))))) (shl .u8 1 (IntKind.u64.wrap (Int.tmod t316 8)))) : List Int)).bind fun y318 => ((frame_Scan.f k (strOfNums y318)).bind fun bt319 => (if 0 ≤ x13 then (if x13 ≤ (y313.length : Int) then ((frame_First.f k (strOfNums (y318.drop (x13 : Int).toNat))).bind fun bt327 => (if bt327.2.2.2 = 2 then ((postroomlaw6_as.f k bt319.1).bind fun t332 => (if x12 ≤ (x10.length : Int) then ((postroomref6_Same.f k t332 (x10.take (x12 : Int).toNat)).bind fun t339 => (if t339 = true then (some (bt319.2 == x13)) else (some false))) else (none))) else (some false))) else (none)) else (none)))) else (none)) else (none)) else (none)))) else (none)) else (none))
end
def postroomlaw6_FrameSpoils.f (k : Nat) (a0 : Int) (l1 : List ByteArray) (a2 : Int) (a3 : Int) : Option (Bool) := (postroomlaw6_shown.f k).bind fun t304 => (if t304 = true then (postroomlaw6_FrameSpoils.j0 k a0 l1 a2 a3 t304 ((l1.length : Int) == 0)) else (postroomlaw6_FrameSpoils.j0 k a0 l1 a2 a3 t304 true))
theorem postroomlaw6_FrameSpoils.mono_l : ∀ k, (∀ y0 y1 y2 y3 y4 y5, LeO (postroomlaw6_FrameSpoils.j0 k y0 y1 y2 y3 y4 y5) (postroomlaw6_FrameSpoils.j0 (k + 1) y0 y1 y2 y3 y4 y5)) ∧ (∀ y0 y1 y2 y3 y4 y5, LeO (postroomlaw6_FrameSpoils.l0 k y0 y1 y2 y3 y4 y5) (postroomlaw6_FrameSpoils.l0 (k + 1) y0 y1 y2 y3 y4 y5))
  | 0 => ⟨fun _ _ _ _ _ _ r h => by simp [postroomlaw6_FrameSpoils.j0] at h, fun _ _ _ _ _ _ r h => by simp [postroomlaw6_FrameSpoils.l0] at h⟩
  | k + 1 => by
    obtain ⟨ih0, ih1⟩ := postroomlaw6_FrameSpoils.mono_l k
    refine ⟨?_, ?_⟩
    · intro y0 y1 y2 y3 y4 y5
      unfold postroomlaw6_FrameSpoils.j0
      repeat' first
      | (with_reducible exact ih0 _ _ _ _ _ _)
      | (with_reducible exact ih1 _ _ _ _ _ _)
      | (with_reducible exact frame_First.mono _ _)
      | (with_reducible exact frame_Scan.mono _ _)
      | (with_reducible exact postroomlaw6_as.mono _ _)
      | (with_reducible exact postroomlaw6_row.mono _ _ _)
      | (with_reducible exact postroomlaw6_shown.mono _)
      | (with_reducible exact postroomref6_Same.mono _ _ _)
      | (with_reducible exact LeO.refl _)
      | (with_reducible exact LeO.none _)
      | (with_reducible refine LeO.ite ?_ ?_)
      | (with_reducible refine LeO.bind ?_ (fun _ => ?_))
      | exact ih0 _ _ _ _ _ _
      | exact ih1 _ _ _ _ _ _
      | exact frame_First.mono _ _
      | exact frame_Scan.mono _ _
      | exact postroomlaw6_as.mono _ _
      | exact postroomlaw6_row.mono _ _ _
      | exact postroomlaw6_shown.mono _
      | exact postroomref6_Same.mono _ _ _
      | exact LeO.none _
      | refine LeO.ite ?_ ?_
      | refine LeO.bind ?_ (fun _ => ?_)
    · intro y0 y1 y2 y3 y4 y5
      unfold postroomlaw6_FrameSpoils.l0
      repeat' first
      | (with_reducible exact ih0 _ _ _ _ _ _)
      | (with_reducible exact ih1 _ _ _ _ _ _)
      | (with_reducible exact frame_First.mono _ _)
      | (with_reducible exact frame_Scan.mono _ _)
      | (with_reducible exact postroomlaw6_as.mono _ _)
      | (with_reducible exact postroomlaw6_row.mono _ _ _)
      | (with_reducible exact postroomlaw6_shown.mono _)
      | (with_reducible exact postroomref6_Same.mono _ _ _)
      | (with_reducible exact LeO.refl _)
      | (with_reducible exact LeO.none _)
      | (with_reducible refine LeO.ite ?_ ?_)
      | (with_reducible refine LeO.bind ?_ (fun _ => ?_))
      | exact ih0 _ _ _ _ _ _
      | exact ih1 _ _ _ _ _ _
      | exact frame_First.mono _ _
      | exact frame_Scan.mono _ _
      | exact postroomlaw6_as.mono _ _
      | exact postroomlaw6_row.mono _ _ _
      | exact postroomlaw6_shown.mono _
      | exact postroomref6_Same.mono _ _ _
      | exact LeO.none _
      | refine LeO.ite ?_ ?_
      | refine LeO.bind ?_ (fun _ => ?_)
theorem postroomlaw6_FrameSpoils.mono : ∀ a0 a1 a2 a3 k, LeO (postroomlaw6_FrameSpoils.f k a0 a1 a2 a3) (postroomlaw6_FrameSpoils.f (k + 1) a0 a1 a2 a3) := by
  intro a0 a1 a2 a3 k
  obtain ⟨ih0, ih1⟩ := postroomlaw6_FrameSpoils.mono_l k
  unfold postroomlaw6_FrameSpoils.f
  repeat' first
      | (with_reducible exact ih0 _ _ _ _ _ _)
      | (with_reducible exact ih1 _ _ _ _ _ _)
      | (with_reducible exact frame_First.mono _ _)
      | (with_reducible exact frame_Scan.mono _ _)
      | (with_reducible exact postroomlaw6_as.mono _ _)
      | (with_reducible exact postroomlaw6_row.mono _ _ _)
      | (with_reducible exact postroomlaw6_shown.mono _)
      | (with_reducible exact postroomref6_Same.mono _ _ _)
      | (with_reducible exact LeO.refl _)
      | (with_reducible exact LeO.none _)
      | (with_reducible refine LeO.ite ?_ ?_)
      | (with_reducible refine LeO.bind ?_ (fun _ => ?_))
      | exact ih0 _ _ _ _ _ _
      | exact ih1 _ _ _ _ _ _
      | exact frame_First.mono _ _
      | exact frame_Scan.mono _ _
      | exact postroomlaw6_as.mono _ _
      | exact postroomlaw6_row.mono _ _ _
      | exact postroomlaw6_shown.mono _
      | exact postroomref6_Same.mono _ _ _
      | exact LeO.none _
      | refine LeO.ite ?_ ?_
      | refine LeO.bind ?_ (fun _ => ?_)
def postroomlaw6_FrameSpoils.T18 : Bool × List (List Nat × List Nat) := (true, [([], []), ([0], [0]), ([1], [1]), ([2], [2]), ([3, 2, 2], [2, 3]), ([2], [2]), ([2], [2]), ([5, 6, 2], [2, 5, 6]), ([4, 7, 4, 2], [2, 4, 7]), ([2, 8], [2, 8]), ([9, 8], [9]), ([10], [10]), ([10], [10]), ([11, 12, 10], [10, 11, 12]), ([10, 13], [10, 13]), ([14, 10, 0, 1, 2, 3, 4, 5, 6, 7, 8, 9, 10, 11, 12, 13, 14], [14])])
def postroomlaw6_FrameSpoils.B18 : List Nat := [0, 1, 3, 7, 15, 7, 7, 103, 255, 511, 1023, 2047, 2047, 8191, 16383, 32767]
theorem postroomlaw6_FrameSpoils.tab18 : rtab .any (opsOf Tryd.f6 18) = postroomlaw6_FrameSpoils.T18 := by kernel_rfl
theorem postroomlaw6_FrameSpoils.bits18 : waitsOk postroomlaw6_FrameSpoils.T18.2 postroomlaw6_FrameSpoils.B18 = true := by kernel_rfl
set_option maxHeartbeats 8000000 in
set_option maxRecDepth 100000 in
theorem postroomlaw6_FrameSpoils.calls (k : Nat) (a0 : Int) (A1 : Option Addr) (c1 : Nat) (l1 : List ByteArray) (a2 : Int) (a3 : Int) (r : Bool) (w : World) (hr1 : Kd.C Kd.string w A1 l1.length l1) (hc1 : l1.length ≤ c1) (hT : Tabs w) (h : postroomlaw6_FrameSpoils.f k a0 l1 a2 a3 = some r) :
    Calls Tryd.prog 6 #[.int .u64 a0, .slice A1 l1.length c1, .int .i64 a2, .int .i64 a3] w fun e w' => e = .returned (.bool r) ∧ Below w.heap.size w w' := by
  have hu28 := Tryd.underlying28
  have HR1 := Aside0.mk hr1
  have HC1 := Aside0.mk hc1
  clear hr1 hc1
  have HT := Aside0.mk hT
  clear hT
  have HB := Aside0.mk (Below.refl w.heap.size w)
  have H : ((postroomlaw6_shown.f k).bind fun t304 => (if t304 = true then (postroomlaw6_FrameSpoils.j0 k a0 l1 a2 a3 t304 ((l1.length : Int) == 0)) else (postroomlaw6_FrameSpoils.j0 k a0 l1 a2 a3 t304 true))) = some r := h
  clear h
  replace H := Option.bind_eq_some_iff.mp H
  obtain ⟨t304, A50, H⟩ := H
  replace H : (if t304 = true then (postroomlaw6_FrameSpoils.j0 k a0 l1 a2 a3 t304 ((l1.length : Int) == 0)) else (postroomlaw6_FrameSpoils.j0 k a0 l1 a2 a3 t304 true)) = some r := H
  have A5 := Aside0.mk A50
  clear A50
  have HC6 := Aside0.mk H
  clear H
  go_enter Tryd.func6, Tryd.ntmps6
  go_upto_region 2 with (first | ((with_reducible refine gate_callee (f := 10) rfl ?_); refine goesL_ (some 23) rfl rfl Tryd.func10 (by kernel_rfl) rfl #[] rfl (by (try simp only [List.map_toArray, List.map_cons, List.map_nil]); first | done | rfl | (simp only [List.length_drop, List.length_take]; rfl)) ?_; (with_reducible refine (postroomlaw6_shown.calls k  t304 _ ?side1 A5.out).mono ?_); (case side1 => exact Tabs.below HT.out (by repeat (first | (with_reducible first | exact HB.out | apply below_alloc | apply pw_below_drewN | apply below_drew1) | exact HB.out))); rintro e w7 ⟨rfl, hb⟩; refine ⟨_, rfl, ?_⟩; have n0_ := Aside0.mk (below_step (by repeat (first | (with_reducible first | exact HB.out | apply below_alloc | apply pw_below_drewN | apply below_drew1) | exact HB.out)) hb); clear HB; have HB := n0_; clear n0_; (try clear hb); (try clear hb2); (try clear hk); (try clear hi)))
  (try simp only [Act.put, List.setIfInBounds_toArray, List.set_cons_zero, List.set_cons_succ])
  go_cut [30] (fun v30 wc => ∃ (kq : Nat) (x30_5 : Bool), v30 = .bool x30_5 ∧ Aside0 (postroomlaw6_FrameSpoils.j0 kq a0 l1 a2 a3 t304 x30_5 = some r) ∧ Aside0 (kq ≤ k) ∧ Aside0 (Below w.heap.size w wc))
  case first =>
    have H := HC6.out
    clear HC6
    by_cases c8 : t304 = true
    · subst c8
      have H1 : (postroomlaw6_FrameSpoils.j0 k a0 l1 a2 a3 true ((l1.length : Int) == 0)) = some r := by rw [if_pos rfl] at H; exact H
      clear H
      have H := H1
      clear H1
      have H' := Aside0.mk H
      clear H
      go_wp2
      go_meet
      case rel => exact ⟨_, (((l1.length : Int) == 0)), (by first | rfl | (simp; done) | (simp [*]; done)), H', ⟨by first | omega | exact Nat.le_refl _⟩, ⟨by repeat (first | (with_reducible first | exact HB.out | apply below_alloc | apply pw_below_drewN | apply below_drew1) | exact HB.out)⟩⟩
    · replace c8 := Bool.eq_false_iff.mpr c8
      subst c8
      have H1 : (postroomlaw6_FrameSpoils.j0 k a0 l1 a2 a3 false true) = some r := by rw [if_neg (show ¬ (false = true) by decide)] at H; exact H
      clear H
      have H := H1
      clear H1
      have H' := Aside0.mk H
      clear H
      go_wp2
      go_meet
      case rel => exact ⟨_, (true), (by first | rfl | (simp; done) | (simp [*]; done)), H', ⟨by first | omega | exact Nat.le_refl _⟩, ⟨by repeat (first | (with_reducible first | exact HB.out | apply below_alloc | apply pw_below_drewN | apply below_drew1) | exact HB.out)⟩⟩
  case rest =>
    clear HC6
    try clear c1
    try clear p2
    try clear c6
    try clear c8
    obtain ⟨kq, x30_5, rfl, HA, HJ5, HB⟩ := hcut
    cases kq with
    | zero => exact absurd HA.out (by simp [postroomlaw6_FrameSpoils.j0])
    | succ kj5 =>
      have H := HA.out
      clear HA
      simp only [postroomlaw6_FrameSpoils.j0] at H
      by_cases c9 : x30_5 = true
      · subst c9
        have H1 : (some t304) = some r := by rw [if_pos rfl] at H; exact H
        clear H
        have H := H1
        clear H1
        obtain rfl := Option.some.inj H
        go_wp2
        go_ret
        exact ⟨by first | rfl | (simp [errW_none, errW_some] <;> rfl) | (simp [*, errW_none, errW_some] <;> rfl), by repeat (first | (with_reducible first | exact HB.out | apply below_alloc | apply pw_below_drewN | apply below_drew1) | exact HB.out)⟩
      · replace c9 := Bool.eq_false_iff.mpr c9
        subst c9
        have H1 : ((postroomlaw6_row.f kj5 a0 l1).bind fun bt305 => ((postroomlaw6_pick.f a2 (bt305.1.length : Int)).bind fun t309 => (postroomlaw6_FrameSpoils.l0 kj5 a3 bt305.1 bt305.2 t309 0 0))) = some r := by rw [if_neg (show ¬ (false = true) by decide)] at H; exact H
        clear H
        have H := H1
        clear H1
        replace H := Option.bind_eq_some_iff.mp H
        obtain ⟨⟨t305, t306⟩, A100, H⟩ := H
        replace H : ((postroomlaw6_pick.f a2 (t305.length : Int)).bind fun t309 => (postroomlaw6_FrameSpoils.l0 kj5 a3 t305 t306 t309 0 0)) = some r := H
        have A10 := Aside0.mk A100
        clear A100
        have HSZ := Aside0.mk (Bt.row_size A10.out)
        replace H := Option.bind_eq_some_iff.mp H
        obtain ⟨t309, A110, H⟩ := H
        replace H : (postroomlaw6_FrameSpoils.l0 kj5 a3 t305 t306 t309 0 0) = some r := H
        have A11 := Aside0.mk A110
        clear A110
        have H' := Aside0.mk H
        clear H
        go_wp2_with (first | ((with_reducible refine gate_callee (f := 15) rfl ?_); refine goesL_ (some 35) rfl rfl Tryd.func15 (by kernel_rfl) rfl #[.int .u64 a0, .slice A1 l1.length c1] rfl (by (try simp only [List.map_toArray, List.map_cons, List.map_nil]); first | done | rfl | (simp only [List.length_drop, List.length_take]; rfl)) ?_; (with_reducible refine (postroomlaw6_row.calls kj5 a0 _ _ l1 t305 t306 _ ?side1 ?side2 A10.out).mono ?_); (case side1 => repeat (first | exact (Kd.C_below HR1.out HB.out) | (with_reducible refine Kd.C_alloc ?_ _) | (with_reducible refine Kd.C_drewN ?_ _) | (with_reducible refine Kd.C_drew ?_))); (case side2 => exact HC1.out); rintro e w12 ⟨v307, rfl, ho0, hb⟩; refine ⟨_, rfl, ?_⟩; have n0_ := Aside0.mk (Kd.R_lower ho0 (below_size (by repeat (first | (with_reducible first | exact HB.out | apply below_alloc | apply pw_below_drewN | apply below_drew1) | exact HB.out)))); have n1_ := Aside0.mk (below_step (by repeat (first | (with_reducible first | exact HB.out | apply below_alloc | apply pw_below_drewN | apply below_drew1) | exact HB.out)) hb); clear HB; have HO308 := n0_; have HB := n1_; clear n0_ n1_; (try clear hb); (try clear hb2); (try clear hk); (try clear hi); (try clear ho0); obtain ⟨Ao13, co13, eo13⟩ := Kd.R_slice HO308.out; subst eo13) | ((with_reducible refine gate_callee (f := 14) rfl ?_); refine goesL_ (some 41) rfl rfl Tryd.func14 (by kernel_rfl) rfl #[.int .i64 a2, .int .i64 (t305.length : Int)] rfl (by (try simp only [List.map_toArray, List.map_cons, List.map_nil]); first | done | rfl | (simp only [List.length_drop, List.length_take]; rfl)) ?_; (with_reducible refine (postroomlaw6_pick.calls a2 (t305.length : Int) t309 _ A11.out).mono ?_); rintro e w' ⟨rfl, ⟨nd, rfl⟩⟩; refine ⟨_, rfl, ?_⟩))
        go_loopg [13, 14] kj5 (fun kq v13 v14 w' => ∃ (x13_2 : Int) (x14_2 : Int), v13 = .int .i64 x13_2 ∧ v14 = .int .i64 x14_2 ∧ Aside0 (postroomlaw6_FrameSpoils.l0 kq a3 t305 t306 t309 x13_2 x14_2 = some r) ∧ Aside0 (kq ≤ kj5) ∧ Aside0 (Kd.R k43 43 w' w.heap.size (fun _ => True) (.slice Ao13 t305.length co13) t305) ∧ Aside0 (Below w.heap.size w w'))
        case atStart => exact ⟨(0), (0), (by first | rfl | (simp; done) | (simp [*]; done)), (by first | rfl | (simp; done) | (simp [*]; done)), H', ⟨Nat.le_refl _⟩, ⟨by (with_reducible repeat (first | apply Kd.R_alloc | apply Kd.R_drewN | apply Kd.R_drew)); exact HO308.out⟩, ⟨by repeat (first | (with_reducible first | exact HB.out | apply below_alloc | apply pw_below_drewN | apply below_drew1) | exact HB.out)⟩⟩
        case round =>
          clear H'
          try clear c1
          try clear p2
          try clear c6
          try clear c8
          try clear c9
          try clear c10
          try clear p2
          obtain ⟨x13_2, x14_2, rfl, rfl, HA, HK2, HO_10, HB⟩ := hrel
          cases gk with
          | zero => exact absurd HA.out (by simp [postroomlaw6_FrameSpoils.l0])
          | succ k2 =>
            have H := HA.out
            clear HA
            simp only [postroomlaw6_FrameSpoils.l0] at H
            by_cases c14 : x14_2 < t309
            · rw [if_pos c14] at H
              have c14b0 : decide (x14_2 < t309) = true := decide_eq_true c14
              clear c14
              by_cases c15 : 0 ≤ x14_2
              · rw [if_pos c15] at H
                have c15b0 : decide (0 ≤ x14_2) = true := decide_eq_true c15
                clear c15
                by_cases c16 : x14_2 < (t305.length : Int)
                · rw [if_pos c16] at H
                  have c16b0 : decide (x14_2 < (t305.length : Int)) = true := decide_eq_true c16
                  clear c16
                  have H' := Aside0.mk H
                  clear H
                  have p310 : 0 ≤ (x14_2 : Int) := of_decide_eq_true (by first | (with_reducible assumption) | assumption)
                  have q310 : x14_2 < (t305.length : Int) := of_decide_eq_true (by first | (with_reducible assumption) | assumption)
                  obtain ⟨ad310, e310, hx310_0, hx310_1, hx310_2⟩ := at_T43 (Kd.R_reads' HO_10.out).2.2 x14_2 p310 q310
                  cases e310
                  replace p310 := eq_true p310
                  replace q310 := eq_true q310
                  go_wp2
                  go_roundg k2
                  case measure => have := HJ5.out; have := HK2.out; omega
                  case rel => exact ⟨(wrap64 (x13_2 + ((rd_T43 t305 x14_2).f2))), (wrap64 (x14_2 + 1)), (by first | rfl | (simp; done) | (simp [*]; done)), (by first | rfl | (simp; done) | (simp [*]; done)), H', ⟨by have := HJ5.out; have := HK2.out; omega⟩, ⟨by (with_reducible repeat (first | apply Kd.R_alloc | apply Kd.R_drewN | apply Kd.R_drew)); exact HO_10.out⟩, ⟨by repeat (first | (with_reducible first | exact HB.out | apply below_alloc | apply pw_below_drewN | apply below_drew1) | exact HB.out)⟩⟩
                · rw [if_neg c16] at H
                  exact absurd H (by simp)
              · rw [if_neg c15] at H
                exact absurd H (by simp)
            · rw [if_neg c14] at H
              have c14b0 : decide (x14_2 < t309) = false := decide_eq_false c14
              clear c14
              by_cases c17 : 0 ≤ t309
              · rw [if_pos c17] at H
                have c17b0 : decide (0 ≤ t309) = true := decide_eq_true c17
                clear c17
                by_cases c18 : t309 < (t305.length : Int)
                · rw [if_pos c18] at H
                  have c18b0 : decide (t309 < (t305.length : Int)) = true := decide_eq_true c18
                  clear c18
                  obtain ⟨y313, hy313⟩ : ∃ y_ : List Int, y_ = ((bytesOf t306)) := ⟨_, rfl⟩
                  replace H : ((postroomlaw6_pick.f a3 (wrap64 (8 * (wrap64 ((((rd_T43 t305 t309).f1).size : Int) + 4))))).bind fun t316 => (if 0 ≤ (wrap64 ((wrap64 ((wrap64 (x13_2 + ((rd_T43 t305 t309).f2))) - (wrap64 ((((rd_T43 t305 t309).f1).size : Int) + 4)))) + (wrap64 (Int.tdiv t316 8)))) then (if (wrap64 ((wrap64 ((wrap64 (x13_2 + ((rd_T43 t305 t309).f2))) - (wrap64 ((((rd_T43 t305 t309).f1).size : Int) + 4)))) + (wrap64 (Int.tdiv t316 8)))) < (y313.length : Int) then (if 0 ≤ (IntKind.u64.wrap (Int.tmod t316 8)) then ((some (y313.set ((wrap64 ((wrap64 ((wrap64 (x13_2 + ((rd_T43 t305 t309).f2))) - (wrap64 ((((rd_T43 t305 t309).f1).size : Int) + 4)))) + (wrap64 (Int.tdiv t316 8)))) : Int).toNat (Go.bits .xor .u8 (rd y313 (wrap64 ((wrap64 ((wrap64 (x13_2 + ((rd_T43 t305 t309).f2))) - (wrap64 ((((rd_T43 t305 t309).f1).size : Int) + 4)))) + (wrap64 (Int.tdiv t316 8))))) (shl .u8 1 (IntKind.u64.wrap (Int.tmod t316 8)))) : List Int)).bind fun y318 => ((frame_Scan.f k2 (strOfNums y318)).bind fun bt319 => (if 0 ≤ x13_2 then (if x13_2 ≤ (y313.length : Int) then ((frame_First.f k2 (strOfNums (y318.drop (x13_2 : Int).toNat))).bind fun bt327 => (if bt327.2.2.2 = 2 then ((postroomlaw6_as.f k2 bt319.1).bind fun t332 => (if t309 ≤ (t305.length : Int) then ((postroomref6_Same.f k2 t332 (t305.take (t309 : Int).toNat)).bind fun t339 => (if t339 = true then (some (bt319.2 == x13_2)) else (some false))) else (none))) else (some false))) else (none)) else (none)))) else (none)) else (none)) else (none))) = some r := by first | (rw [hy313]; with_reducible exact H) | (have H2_ := (Option.bind_some _ _).symm.trans H; rw [hy313]; with_reducible exact H2_) | (have H2_ := (Option.bind_some _ _).symm.trans H; with_reducible exact H2_) | with_reducible exact H | (rw [hy313]; exact H) | exact H
                  have Ny313 := Aside0.mk hy313
                  clear hy313
                  replace H := Option.bind_eq_some_iff.mp H
                  obtain ⟨t316, A190, H⟩ := H
                  replace H : (if 0 ≤ (wrap64 ((wrap64 ((wrap64 (x13_2 + ((rd_T43 t305 t309).f2))) - (wrap64 ((((rd_T43 t305 t309).f1).size : Int) + 4)))) + (wrap64 (Int.tdiv t316 8)))) then (if (wrap64 ((wrap64 ((wrap64 (x13_2 + ((rd_T43 t305 t309).f2))) - (wrap64 ((((rd_T43 t305 t309).f1).size : Int) + 4)))) + (wrap64 (Int.tdiv t316 8)))) < (y313.length : Int) then (if 0 ≤ (IntKind.u64.wrap (Int.tmod t316 8)) then ((some (y313.set ((wrap64 ((wrap64 ((wrap64 (x13_2 + ((rd_T43 t305 t309).f2))) - (wrap64 ((((rd_T43 t305 t309).f1).size : Int) + 4)))) + (wrap64 (Int.tdiv t316 8)))) : Int).toNat (Go.bits .xor .u8 (rd y313 (wrap64 ((wrap64 ((wrap64 (x13_2 + ((rd_T43 t305 t309).f2))) - (wrap64 ((((rd_T43 t305 t309).f1).size : Int) + 4)))) + (wrap64 (Int.tdiv t316 8))))) (shl .u8 1 (IntKind.u64.wrap (Int.tmod t316 8)))) : List Int)).bind fun y318 => ((frame_Scan.f k2 (strOfNums y318)).bind fun bt319 => (if 0 ≤ x13_2 then (if x13_2 ≤ (y313.length : Int) then ((frame_First.f k2 (strOfNums (y318.drop (x13_2 : Int).toNat))).bind fun bt327 => (if bt327.2.2.2 = 2 then ((postroomlaw6_as.f k2 bt319.1).bind fun t332 => (if t309 ≤ (t305.length : Int) then ((postroomref6_Same.f k2 t332 (t305.take (t309 : Int).toNat)).bind fun t339 => (if t339 = true then (some (bt319.2 == x13_2)) else (some false))) else (none))) else (some false))) else (none)) else (none)))) else (none)) else (none)) else (none)) = some r := H
                  have A19 := Aside0.mk A190
                  clear A190
                  obtain ⟨ji20, hji20⟩ : ∃ j_ : Int, (wrap64 ((wrap64 ((wrap64 (x13_2 + ((rd_T43 t305 t309).f2))) - (wrap64 ((((rd_T43 t305 t309).f1).size : Int) + 4)))) + (wrap64 (Int.tdiv t316 8)))) = j_ := ⟨_, rfl⟩
                  replace H : (if 0 ≤ (ji20) then (if (ji20) < (y313.length : Int) then (if 0 ≤ (IntKind.u64.wrap (Int.tmod t316 8)) then ((some (y313.set ((ji20) : Int).toNat (Go.bits .xor .u8 (rd y313 (ji20)) (shl .u8 1 (IntKind.u64.wrap (Int.tmod t316 8)))) : List Int)).bind fun y318 => ((frame_Scan.f k2 (strOfNums y318)).bind fun bt319 => (if 0 ≤ x13_2 then (if x13_2 ≤ (y313.length : Int) then ((frame_First.f k2 (strOfNums (y318.drop (x13_2 : Int).toNat))).bind fun bt327 => (if bt327.2.2.2 = 2 then ((postroomlaw6_as.f k2 bt319.1).bind fun t332 => (if t309 ≤ (t305.length : Int) then ((postroomref6_Same.f k2 t332 (t305.take (t309 : Int).toNat)).bind fun t339 => (if t339 = true then (some (bt319.2 == x13_2)) else (some false))) else (none))) else (some false))) else (none)) else (none)))) else (none)) else (none)) else (none)) = some r := by first | (rw [hji20] at H; exact H) | (simp only [hji20] at H ⊢; exact H)
                  (try rw [hji20] at A19)
                  have hji20w : (IntKind.i64.wrap ((wrap64 ((wrap64 (x13_2 + ((rd_T43 t305 t309).f2))) - (wrap64 ((((rd_T43 t305 t309).f1).size : Int) + 4)))) + (wrap64 (Int.tdiv t316 8)))) = ji20 := (i64_w _).trans hji20
                  by_cases c21 : 0 ≤ (ji20)
                  · rw [if_pos c21] at H
                    have c21b0 : decide (0 ≤ (ji20)) = true := decide_eq_true c21
                    clear c21
                    by_cases c22 : (ji20) < (y313.length : Int)
                    · rw [if_pos c22] at H
                      have c22b0 : decide ((ji20) < (y313.length : Int)) = true := decide_eq_true c22
                      clear c22
                      obtain ⟨ji23, hji23⟩ : ∃ j_ : Int, (IntKind.u64.wrap (Int.tmod t316 8)) = j_ := ⟨_, rfl⟩
                      replace H : (if 0 ≤ (ji23) then ((some (y313.set ((ji20) : Int).toNat (Go.bits .xor .u8 (rd y313 (ji20)) (shl .u8 1 (ji23))) : List Int)).bind fun y318 => ((frame_Scan.f k2 (strOfNums y318)).bind fun bt319 => (if 0 ≤ x13_2 then (if x13_2 ≤ (y313.length : Int) then ((frame_First.f k2 (strOfNums (y318.drop (x13_2 : Int).toNat))).bind fun bt327 => (if bt327.2.2.2 = 2 then ((postroomlaw6_as.f k2 bt319.1).bind fun t332 => (if t309 ≤ (t305.length : Int) then ((postroomref6_Same.f k2 t332 (t305.take (t309 : Int).toNat)).bind fun t339 => (if t339 = true then (some (bt319.2 == x13_2)) else (some false))) else (none))) else (some false))) else (none)) else (none)))) else (none)) = some r := by first | (rw [hji23] at H; exact H) | (simp only [hji23] at H ⊢; exact H)
                      (try rw [hji23] at A19)
                      by_cases c24 : 0 ≤ (ji23)
                      · rw [if_pos c24] at H
                        have c24b0 := eq_true c24
                        have c24b1 : decide (0 ≤ (ji23)) = true := decide_eq_true c24
                        clear c24
                        obtain ⟨ji25, hji25⟩ : ∃ j_ : Int, (shl .u8 1 (ji23)) = j_ := ⟨_, rfl⟩
                        replace H : ((some (y313.set ((ji20) : Int).toNat (Go.bits .xor .u8 (rd y313 (ji20)) (ji25)) : List Int)).bind fun y318 => ((frame_Scan.f k2 (strOfNums y318)).bind fun bt319 => (if 0 ≤ x13_2 then (if x13_2 ≤ (y313.length : Int) then ((frame_First.f k2 (strOfNums (y318.drop (x13_2 : Int).toNat))).bind fun bt327 => (if bt327.2.2.2 = 2 then ((postroomlaw6_as.f k2 bt319.1).bind fun t332 => (if t309 ≤ (t305.length : Int) then ((postroomref6_Same.f k2 t332 (t305.take (t309 : Int).toNat)).bind fun t339 => (if t339 = true then (some (bt319.2 == x13_2)) else (some false))) else (none))) else (some false))) else (none)) else (none)))) = some r := by first | (rw [hji25] at H; exact H) | (simp only [hji25] at H ⊢; exact H)
                        (try rw [hji25] at A19)
                        have hji25_ : (IntKind.u8.wrap (1 * 2 ^ min (ji23).toNat 8)) = ji25 := hji25
                        have hji25z : (ji23) ≤ 8 → (IntKind.u8.wrap (1 * 2 ^ (ji23).toNat)) = ji25 := shl_small hji25
                        have hji25u : (IntKind.u8.wrap (2 ^ min (ji23).toNat 8)) = ji25 := by have h_ := hji25_; rw [Int.one_mul] at h_; exact h_
                        have hji25v : (ji23) ≤ 8 → (IntKind.u8.wrap (2 ^ (ji23).toNat)) = ji25 := fun hle_ => by have h_ := hji25z hle_; rw [Int.one_mul] at h_; exact h_
                        obtain ⟨y318, hy318⟩ : ∃ y_ : List Int, y_ = (y313.set ((ji20) : Int).toNat (Go.bits .xor .u8 (rd y313 (ji20)) (ji25))) := ⟨_, rfl⟩
                        replace H : ((frame_Scan.f k2 (strOfNums y318)).bind fun bt319 => (if 0 ≤ x13_2 then (if x13_2 ≤ (y313.length : Int) then ((frame_First.f k2 (strOfNums (y318.drop (x13_2 : Int).toNat))).bind fun bt327 => (if bt327.2.2.2 = 2 then ((postroomlaw6_as.f k2 bt319.1).bind fun t332 => (if t309 ≤ (t305.length : Int) then ((postroomref6_Same.f k2 t332 (t305.take (t309 : Int).toNat)).bind fun t339 => (if t339 = true then (some (bt319.2 == x13_2)) else (some false))) else (none))) else (some false))) else (none)) else (none))) = some r := by first | (rw [hy318]; with_reducible exact H) | (have H2_ := (Option.bind_some _ _).symm.trans H; rw [hy318]; with_reducible exact H2_) | (have H2_ := (Option.bind_some _ _).symm.trans H; with_reducible exact H2_) | with_reducible exact H | (rw [hy318]; exact H) | exact H
                        have Ny318 := Aside0.mk hy318
                        clear hy318
                        replace H := Option.bind_eq_some_iff.mp H
                        obtain ⟨⟨t319, t320⟩, A270, H⟩ := H
                        replace H : (if 0 ≤ x13_2 then (if x13_2 ≤ (y313.length : Int) then ((frame_First.f k2 (strOfNums (y318.drop (x13_2 : Int).toNat))).bind fun bt327 => (if bt327.2.2.2 = 2 then ((postroomlaw6_as.f k2 t319).bind fun t332 => (if t309 ≤ (t305.length : Int) then ((postroomref6_Same.f k2 t332 (t305.take (t309 : Int).toNat)).bind fun t339 => (if t339 = true then (some (t320 == x13_2)) else (some false))) else (none))) else (some false))) else (none)) else (none)) = some r := H
                        have A27 := Aside0.mk A270
                        clear A270
                        by_cases c28 : 0 ≤ x13_2
                        · rw [if_pos c28] at H
                          have c28b0 := eq_true c28
                          have c28b1 : decide (0 ≤ x13_2) = true := decide_eq_true c28
                          clear c28
                          by_cases c29 : x13_2 ≤ (y313.length : Int)
                          · rw [if_pos c29] at H
                            have c29b0 := eq_true c29
                            have c29b1 : decide (x13_2 ≤ (y313.length : Int)) = true := decide_eq_true c29
                            clear c29
                            obtain ⟨y323, hy323⟩ : ∃ y_ : List Int, y_ = (y318.drop (x13_2 : Int).toNat) := ⟨_, rfl⟩
                            replace H : ((frame_First.f k2 (strOfNums y323)).bind fun bt327 => (if bt327.2.2.2 = 2 then ((postroomlaw6_as.f k2 t319).bind fun t332 => (if t309 ≤ (t305.length : Int) then ((postroomref6_Same.f k2 t332 (t305.take (t309 : Int).toNat)).bind fun t339 => (if t339 = true then (some (t320 == x13_2)) else (some false))) else (none))) else (some false))) = some r := by first | (rw [hy323]; with_reducible exact H) | (have H2_ := (Option.bind_some _ _).symm.trans H; rw [hy323]; with_reducible exact H2_) | (have H2_ := (Option.bind_some _ _).symm.trans H; with_reducible exact H2_) | with_reducible exact H | (rw [hy323]; exact H) | exact H
                            have Ny323 := Aside0.mk hy323
                            clear hy323
                            replace H := Option.bind_eq_some_iff.mp H
                            obtain ⟨⟨t327, t328, t329, t330⟩, A300, H⟩ := H
                            replace H : (if t330 = 2 then ((postroomlaw6_as.f k2 t319).bind fun t332 => (if t309 ≤ (t305.length : Int) then ((postroomref6_Same.f k2 t332 (t305.take (t309 : Int).toNat)).bind fun t339 => (if t339 = true then (some (t320 == x13_2)) else (some false))) else (none))) else (some false)) = some r := H
                            have A30 := Aside0.mk A300
                            clear A300
                            by_cases c31 : t330 = 2
                            · rw [if_pos c31] at H
                              have c31b0 : (t330 == 2) = true := beq_iff_eq.mpr c31
                              have c31b1 : (t330 != 2) = false := bne_eq_false_iff_eq.mpr c31
                              clear c31
                              replace H := Option.bind_eq_some_iff.mp H
                              obtain ⟨t332, A320, H⟩ := H
                              replace H : (if t309 ≤ (t305.length : Int) then ((postroomref6_Same.f k2 t332 (t305.take (t309 : Int).toNat)).bind fun t339 => (if t339 = true then (some (t320 == x13_2)) else (some false))) else (none)) = some r := H
                              have A32 := Aside0.mk A320
                              clear A320
                              have c33b0 := eq_true (of_decide_eq_true (by first | (with_reducible assumption) | assumption) : 0 ≤ t309)
                              by_cases c34 : t309 ≤ (t305.length : Int)
                              · rw [if_pos c34] at H
                                have c34b0 := eq_true c34
                                have c34b1 : decide (t309 ≤ (t305.length : Int)) = true := decide_eq_true c34
                                clear c34
                                obtain ⟨y335, hy335⟩ : ∃ y_ : List (S43), y_ = (t305.take (t309 : Int).toNat) := ⟨_, rfl⟩
                                replace H : ((postroomref6_Same.f k2 t332 y335).bind fun t339 => (if t339 = true then (some (t320 == x13_2)) else (some false))) = some r := by first | (rw [hy335]; with_reducible exact H) | (have H2_ := (Option.bind_some _ _).symm.trans H; rw [hy335]; with_reducible exact H2_) | (have H2_ := (Option.bind_some _ _).symm.trans H; with_reducible exact H2_) | with_reducible exact H | (rw [hy335]; exact H) | exact H
                                have Ny335 := Aside0.mk hy335
                                clear hy335
                                replace H := Option.bind_eq_some_iff.mp H
                                obtain ⟨t339, A350, H⟩ := H
                                replace H : (if t339 = true then (some (t320 == x13_2)) else (some false)) = some r := H
                                have A35 := Aside0.mk A350
                                clear A350
                                by_cases c36 : t339 = true
                                · subst c36
                                  have H1 : (some (t320 == x13_2)) = some r := by rw [if_pos rfl] at H; exact H
                                  clear H
                                  have H := H1
                                  clear H1
                                  obtain rfl := Option.some.inj H
                                  have p311 : 0 ≤ (t309 : Int) := of_decide_eq_true (by first | (with_reducible assumption) | assumption)
                                  have q311 : t309 < (t305.length : Int) := of_decide_eq_true (by first | (with_reducible assumption) | assumption)
                                  obtain ⟨ad311, e311, hx311_0, hx311_1, hx311_2⟩ := at_T43 (Kd.R_reads' HO_10.out).2.2 t309 p311 q311
                                  cases e311
                                  replace p311 := eq_true p311
                                  replace q311 := eq_true q311
                                  have p312 : 0 ≤ (t309 : Int) := of_decide_eq_true (by first | (with_reducible assumption) | assumption)
                                  have q312 : t309 < (t305.length : Int) := of_decide_eq_true (by first | (with_reducible assumption) | assumption)
                                  obtain ⟨ad312, e312, hx312_0, hx312_1, hx312_2⟩ := at_T43 (Kd.R_reads' HO_10.out).2.2 t309 p312 q312
                                  obtain rfl : ad311 = ad312 := (by injection e312)
                                  replace p312 := eq_true p312
                                  replace q312 := eq_true q312
                                  try go_wp2_with (first | ((with_reducible refine gate_dst (N := 69) rfl ?_); (try (refine gate_guard (by rfl) ?_; dsimp only)); refine Bt.R_conv ?hg (N := 69) ?hd (s := t306) HSZ.out ?hr (Below.refl _ _) (Nat.le_refl _) ?_; (case hd => rfl); (case hg => rfl); (case hr => exact Bt.conv_run rfl rfl); intro v314 w37 ho38 hb hg_ hnew_; clear hg_ hnew_; rw [← Ny313.out] at ho38; have n0_ := Aside0.mk (Kd.R_below (by (with_reducible repeat (first | apply Kd.R_alloc | apply Kd.R_drewN | apply Kd.R_drew)); exact HO_10.out) hb); have n1_ := Aside0.mk (Bt.R_lower ho38 (below_size (by repeat (first | (with_reducible first | exact HB.out | apply below_alloc | apply pw_below_drewN | apply below_drew1) | exact HB.out)))); have n2_ := Aside0.mk (below_step (by repeat (first | (with_reducible first | exact HB.out | apply below_alloc | apply pw_below_drewN | apply below_drew1) | exact HB.out)) hb); clear HO_10; clear HB; have HO_10 := n0_; have HO315 := n1_; have HB := n2_; clear n0_ n1_ n2_; clear hb ho38) | ((with_reducible refine gate_callee (f := 14) rfl ?_); refine goesL_ (some 73) rfl rfl Tryd.func14 (by kernel_rfl) rfl #[.int .i64 a3, .int .i64 (wrap64 (8 * (wrap64 ((((rd_T43 t305 t309).f1).size : Int) + 4))))] rfl (by (try simp only [List.map_toArray, List.map_cons, List.map_nil]); first | done | rfl | (simp only [List.length_drop, List.length_take]; rfl)) ?_; (with_reducible refine (postroomlaw6_pick.calls a3 (wrap64 (8 * (wrap64 ((((rd_T43 t305 t309).f1).size : Int) + 4)))) t316 _ A19.out).mono ?_); rintro e w' ⟨rfl, ⟨nd, rfl⟩⟩; refine ⟨_, rfl, ?_⟩; (try (rw [drewN_self w37]; generalize hq_ : World.drewN w37 _ = w37; have n0_ : Aside0 (Bt.R w37 w.heap.size (fun _ => True) v314 y313) := ⟨by rw [← hq_]; exact (by (with_reducible repeat (first | apply Bt.R_alloc | apply Bt.R_drewN | apply Bt.R_drew)); exact HO315.out)⟩; have n1_ : Aside0 (Kd.R k43 43 w37 w.heap.size (fun _ => True) (.slice (some ad311) t305.length co13) t305) := ⟨by rw [← hq_]; exact (by (with_reducible repeat (first | apply Kd.R_alloc | apply Kd.R_drewN | apply Kd.R_drew)); exact HO_10.out)⟩; have n2_ : Aside0 (Below w.heap.size w w37) := ⟨by rw [← hq_]; exact (by repeat (first | (with_reducible first | exact HB.out | apply below_alloc | apply pw_below_drewN | apply below_drew1) | exact HB.out))⟩; clear HO315 HO_10 HB hq_; have HO315 := n0_; have HO_10 := n1_; have HB := n2_; clear n0_ n1_ n2_)); obtain ⟨Ao39, co39, eo39⟩ := Bt.R_slice HO315.out; subst eo39; have p317 : 0 ≤ ((ji20) : Int) := of_decide_eq_true (by first | (with_reducible assumption) | assumption); have q317 : (ji20) < (y313.length : Int) := of_decide_eq_true (by first | (with_reducible assumption) | assumption); obtain ⟨ad317, e317, hx317_0⟩ := Kd.at_int (Bt.R_reads' HO315.out).2.2 (ji20) p317 q317; cases e317; replace p317 := eq_true p317; replace q317 := eq_true q317; have p26 : 0 ≤ ((ji20) : Int) := of_decide_eq_true (by first | (with_reducible assumption) | assumption); have q26 : ((ji20) : Int) < ((y313.length : Int) : Int) := of_decide_eq_true (by first | (with_reducible assumption) | assumption); obtain ⟨go26, co26, eo26, gb26, gl26, cl26, HG26⟩ := Bt.R_form HO315.out (by omega); (first | cases eo26 | (injection eo26 with ea_ en_ ec_; (first | subst ea_ | (injection ea_ with ea_; subst ea_)); subst ec_; clear en_)); have GB26 := Aside0.mk gb26; have GG26 := Aside0.mk HG26; clear gb26 gl26 HG26; (first | simp only [add_plain] at hx317_0 | skip); obtain ⟨hx26_0, hf26_0⟩ := Bt.R_celln 0 HO315.out ((ji20) : Int) p26 q26; replace p26 := eq_true p26; replace q26 := eq_true q26; obtain ⟨hy40_, hz40_⟩ := Bt.R_celln 0 HO315.out ((ji20) : Int) (of_decide_eq_true (by first | (with_reducible assumption) | assumption)) (of_decide_eq_true (by first | (with_reducible assumption) | assumption)); have HP40 := Bt.R_putg HO315.out ((ji20) : Int) (Go.bits .xor .u8 (rd y313 (ji20)) (ji25))) | ((with_reducible refine gate_store (t := 5) (p := 88) rfl ?_); refine store_event (t := 5) (p := 88) (v := ?vo_w41) (w1 := (w37.setCell ⟨go26, ((ji20) : Int).toNat, none⟩ (.int .u8 (Go.bits .xor .u8 (rd y313 (ji20)) (ji25))))) ?hg ?ho ?hn ?hr ?_; (case ho => rfl); (case hg => rfl); (case hn => rfl); (case hr => first | (go_simp; done) | (go_simp; rfl)); intro w41 hw; have hg : w37.grownBy w41 (some go26) := (by rw [hw]; exact HP40.2); have hp_ : Bt.R w41 w.heap.size (fun _ => True) (.slice (some ⟨go26, 0, none⟩) y313.length co39) y318 := (by rw [hw, Ny318.out]; exact HP40.1); clear HP40; have n0_ := Aside0.mk (Bt.over (by (with_reducible repeat (first | apply Kd.R_alloc | apply Kd.R_drewN | apply Kd.R_drew)); exact HO_10.out) HO315.out hg); have n1_ := Aside0.mk (hp_); have n2_ := Aside0.mk ((by rw [hw]; exact below_set (HB.out) GB26.out : Below w.heap.size w w41)); clear HO_10; clear HO315; clear HB; have HO_10 := n0_; have HO315 := n1_; have HB := n2_; clear n0_ n1_ n2_; clear hg hw hp_; have hcv42 := Bt.conv Tryd.underlying34 Tryd.underlying5 Tryd.underlying9 HO315.out) | ((with_reducible refine gate_callee (f := 16) rfl ?_); refine goesL_ (some 92) rfl rfl Tryd.func16 (by kernel_rfl) rfl #[.string (strOfNums y318)] rfl (by (try simp only [List.map_toArray, List.map_cons, List.map_nil]); first | done | rfl | (simp only [List.length_drop, List.length_take]; rfl)) ?_; (with_reducible refine (frame_Scan.calls k2 (strOfNums y318) t319 t320 _ ?side1 A27.out).mono ?_); (case side1 => exact Tabs.below HT.out (by repeat (first | (with_reducible first | exact HB.out | apply below_alloc | apply pw_below_drewN | apply below_drew1) | exact HB.out))); rintro e w43 ⟨v321, rfl, ho0, hb⟩; refine ⟨_, rfl, ?_⟩; have n0_ := Aside0.mk (Kd.R_below (by (with_reducible repeat (first | apply Kd.R_alloc | apply Kd.R_drewN | apply Kd.R_drew)); exact HO_10.out) hb); have n1_ := Aside0.mk (Bt.R_below (by (with_reducible repeat (first | apply Bt.R_alloc | apply Bt.R_drewN | apply Bt.R_drew)); exact HO315.out) hb); have n2_ := Aside0.mk (Kd.R_lower ho0 (below_size (by repeat (first | (with_reducible first | exact HB.out | apply below_alloc | apply pw_below_drewN | apply below_drew1) | exact HB.out)))); have n3_ := Aside0.mk (below_step (by repeat (first | (with_reducible first | exact HB.out | apply below_alloc | apply pw_below_drewN | apply below_drew1) | exact HB.out)) hb); clear HO_10; clear HO315; clear HB; have HO_10 := n0_; have HO315 := n1_; have HO322 := n2_; have HB := n3_; clear n0_ n1_ n2_ n3_; (try clear hb); (try clear hb2); (try clear hk); (try clear hi); (try clear ho0); have hlx44 := (Bt.R_reads' HO315.out).1; have q44 : (x13_2 : Int) ≤ ((y313.length : Int) : Int) := of_decide_eq_true (by first | (with_reducible assumption) | assumption); obtain ⟨i044, hi044, _, hsz44, _⟩ := info_parts info5; have hroom44 : y313.length ≤ co39 := (Bt.R_reads' HO315.out).2.1; have hroomc44 : y318.length ≤ co39 := (by rw [← hlx44]; exact hroom44); have hC44 : Kd.C (Kd.int .u8) _ (some ⟨go26, 0, none⟩) y318.length y318 := (Bt.R_reads' HO315.out).2.2; have q044 : (0 : Int) ≤ (x13_2 : Int) := of_decide_eq_true (by first | (with_reducible assumption) | assumption); have hcut44 := cut_from (P := Tryd.prog) 34 5 .i64 Tryd.underlying34 hi044 1 hsz44 (some ⟨go26, 0, none⟩) y313.length co39 x13_2 q044 q44; have hr44 := Kd.C_drop (m := (x13_2 : Int).toNat) (c := co39) hC44 (by omega) hroomc44; obtain ⟨A44, hA44⟩ : ∃ A1, A1 = (if co39 = (x13_2 : Int).toNat then (some ⟨go26, 0, none⟩) else ((some ⟨go26, 0, none⟩) : Option Addr).map (·.add ((x13_2 : Int).toNat * 1))) := ⟨_, rfl⟩; obtain ⟨c44, hc44⟩ : ∃ c1, c1 = co39 - (x13_2 : Int).toNat := ⟨_, rfl⟩; have hy44 : y323.length = y313.length - (x13_2 : Int).toNat := (by rw [Ny323.out, List.length_drop] <;> omega); rw [show (y318).drop (x13_2 : Int).toNat = y323 from Ny323.out.symm] at hr44; replace hr44 : Kd.C (Kd.int .u8) _ A44 y323.length y323 := (by rw [hA44]; exact hr44); rw [← hy44, ← hA44, ← hc44] at hcut44; have HR326 := Aside0.mk hr44; have HC326 := Aside0.mk (show y323.length ≤ c44 from by rw [hy44, hc44]; exact Nat.sub_le_sub_right hroom44 _); clear hr44 hC44 hroom44 hi044 hsz44 hc44 hroomc44; have KY44 := Aside0.mk hy44; have KA44 := Aside0.mk hA44; clear hy44 hA44; have KE44 := Aside0.mk hlx44; have KL44 := Aside0.mk (show (x13_2 : Int).toNat ≤ y318.length from by omega); clear hlx44; replace q44 := eq_true q44; have hcv45 := Kd.C_string (P := Tryd.prog) (A := A44) (c := c44) Tryd.underlying34 Tryd.underlying5 Tryd.underlying9 (by repeat (first | (with_reducible exact HR326.out) | (with_reducible refine Kd.C_alloc ?_ _) | (with_reducible refine Kd.C_drewN ?_ _) | (with_reducible refine Kd.C_drew ?_) | exact HR326.out))) | ((with_reducible refine gate_callee (f := 12) rfl ?_); refine goesL_ (some 100) rfl rfl Tryd.func12 (by kernel_rfl) rfl #[.string (strOfNums y323)] rfl (by (try simp only [List.map_toArray, List.map_cons, List.map_nil]); first | done | rfl | (simp only [List.length_drop, List.length_take]; rfl)) ?_; (with_reducible refine (frame_First.calls k2 (strOfNums y323) t327 t328 t329 t330 _ ?side1 A30.out).mono ?_); (case side1 => exact Tabs.below HT.out (by repeat (first | (with_reducible first | exact HB.out | apply below_alloc | apply pw_below_drewN | apply below_drew1) | exact HB.out))); rintro e w46 ⟨rfl, hb⟩; refine ⟨_, rfl, ?_⟩; have n0_ := Aside0.mk (Kd.R_below (by (with_reducible repeat (first | apply Kd.R_alloc | apply Kd.R_drewN | apply Kd.R_drew)); exact HO_10.out) hb); have n1_ := Aside0.mk (Bt.R_below (by (with_reducible repeat (first | apply Bt.R_alloc | apply Bt.R_drewN | apply Bt.R_drew)); exact HO315.out) hb); have n2_ := Aside0.mk (Kd.R_below (by (with_reducible repeat (first | apply Kd.R_alloc | apply Kd.R_drewN | apply Kd.R_drew)); exact HO322.out) hb); have n3_ := Aside0.mk (Kd.C_below (by repeat (first | (with_reducible exact HR326.out) | (with_reducible refine Kd.C_alloc ?_ _) | (with_reducible refine Kd.C_drewN ?_ _) | (with_reducible refine Kd.C_drew ?_) | exact HR326.out)) hb); have n4_ := Aside0.mk (below_step (by repeat (first | (with_reducible first | exact HB.out | apply below_alloc | apply pw_below_drewN | apply below_drew1) | exact HB.out)) hb); clear HO_10; clear HO315; clear HO322; clear HR326; clear HB; have HO_10 := n0_; have HO315 := n1_; have HO322 := n2_; have HR326 := n3_; have HB := n4_; clear n0_ n1_ n2_ n3_ n4_; (try clear hb); (try clear hb2); (try clear hk); (try clear hi)) | ((with_reducible refine gate_dst (N := 21) rfl ?_); (try (refine gate_guard (by rfl) ?_; dsimp only)); refine box_event ?hg (N := 21) ?hd (cs := #[.int .u64 0, .string (⟨#[]⟩ : ByteArray), .int .i64 0]) (t := 28) ?hr ?_; (case hd => rfl); (case hg => rfl); (case hr => first | (go_simp; done) | (go_simp; rfl)); intro gb331 hg w47 hbox hb; have n0_ := Aside0.mk (Kd.R_below (by (with_reducible repeat (first | apply Kd.R_alloc | apply Kd.R_drewN | apply Kd.R_drew)); exact HO_10.out) hb); have n1_ := Aside0.mk (Bt.R_below (by (with_reducible repeat (first | apply Bt.R_alloc | apply Bt.R_drewN | apply Bt.R_drew)); exact HO315.out) hb); have n2_ := Aside0.mk (Kd.R_below (Kd.R_elderB (by (with_reducible repeat (first | apply Kd.R_alloc | apply Kd.R_drewN | apply Kd.R_drew)); exact HO322.out) gb331 (Nat.le_of_eq hg.symm)) hb); have n3_ := Aside0.mk (Kd.C_below (by repeat (first | (with_reducible exact HR326.out) | (with_reducible refine Kd.C_alloc ?_ _) | (with_reducible refine Kd.C_drewN ?_ _) | (with_reducible refine Kd.C_drew ?_) | exact HR326.out)) hb); have n4_ := Aside0.mk (below_step (by repeat (first | (with_reducible first | exact HB.out | apply below_alloc | apply pw_below_drewN | apply below_drew1) | exact HB.out)) hb); have n5_ := Aside0.mk (hbox); have n6_ := Aside0.mk ((by rw [hg]; exact (below_size (by repeat (first | (with_reducible first | exact HB.out | apply below_alloc | apply pw_below_drewN | apply below_drew1) | exact HB.out))) : w.heap.size ≤ gb331)); have n7_ := Aside0.mk ((by rw [hg]; exact (below_size (by repeat (first | (with_reducible first | exact HB.out | apply below_alloc | apply pw_below_drewN | apply below_drew1) | exact HB.out))) : w.heap.size ≤ gb331)); clear HO_10; clear HO315; clear HO322; clear HR326; clear HB; have HO_10 := n0_; have HO315 := n1_; have HO322 := n2_; have HR326 := n3_; have HB := n4_; have BK331 := n5_; have GW331 := n6_; have GE331 := n7_; clear n0_ n1_ n2_ n3_ n4_ n5_ n6_ n7_; clear hb hbox hg; have hcz48_0 : w47.cell? ⟨gb331, 0, none⟩ = some (.int .u64 0) := (blk_cell BK331.out 0).trans rfl; have hcz48_1 : w47.cell? ⟨gb331, 1, none⟩ = some (.string (⟨#[]⟩ : ByteArray)) := (blk_cell BK331.out 1).trans rfl; have hcz48_2 : w47.cell? ⟨gb331, 2, none⟩ = some (.int .i64 0) := (blk_cell BK331.out 2).trans rfl; have hfz48_0 := blk_frozen BK331.out 0; have hfz48_1 := blk_frozen BK331.out 1; have hfz48_2 := blk_frozen BK331.out 2))
                                  have n0_ : Aside0 (Kd.R k43 43 (((w47.setCell ⟨gb331, 0, none⟩ (.int .u64 t327)).setCell ⟨gb331, 1, none⟩ (.string t328)).setCell ⟨gb331, 2, none⟩ (.int .i64 t329)) w.heap.size (fun _ => True) (.slice (some ad311) t305.length co13) t305) := ⟨by (with_reducible repeat (first | apply Kd.R_alloc | apply Kd.R_drewN | apply Kd.R_drew)); exact Kd.R_mono (Kd.R_far (p := ⟨gb331, 2, none⟩) (Kd.R_far (p := ⟨gb331, 1, none⟩) (Kd.R_far (p := ⟨gb331, 0, none⟩) (Kd.R_types HO_10.out BK331.out (by decide)) (fun _ hk => hk.2) (.int .u64 t327)) (fun _ hk => hk.2) (.string t328)) (fun _ hk => hk.2) (.int .i64 t329)) (fun _ hk => trivial)⟩
                                  have n1_ : Aside0 (Bt.R (((w47.setCell ⟨gb331, 0, none⟩ (.int .u64 t327)).setCell ⟨gb331, 1, none⟩ (.string t328)).setCell ⟨gb331, 2, none⟩ (.int .i64 t329)) w.heap.size (fun _ => True) (.slice (some ⟨go26, 0, none⟩) y313.length co39) y318) := ⟨by (with_reducible repeat (first | apply Bt.R_alloc | apply Bt.R_drewN | apply Bt.R_drew)); exact Bt.R_mono (Bt.R_far (p := ⟨gb331, 2, none⟩) (Bt.R_far (p := ⟨gb331, 1, none⟩) (Bt.R_far (p := ⟨gb331, 0, none⟩) (Bt.R_types HO315.out BK331.out (by decide)) (fun _ hk => hk.2) (.int .u64 t327)) (fun _ hk => hk.2) (.string t328)) (fun _ hk => hk.2) (.int .i64 t329)) (fun _ hk => trivial)⟩
                                  have n2_ : Aside0 (Kd.R k28 28 (((w47.setCell ⟨gb331, 0, none⟩ (.int .u64 t327)).setCell ⟨gb331, 1, none⟩ (.string t328)).setCell ⟨gb331, 2, none⟩ (.int .i64 t329)) w.heap.size (fun k_ => k_ ≠ gb331) v321 t319) := ⟨by (with_reducible repeat (first | apply Kd.R_alloc | apply Kd.R_drewN | apply Kd.R_drew)); exact Kd.R_mono (Kd.R_far (p := ⟨gb331, 2, none⟩) (Kd.R_far (p := ⟨gb331, 1, none⟩) (Kd.R_far (p := ⟨gb331, 0, none⟩) (Kd.R_mono HO322.out (fun k_ hk => (⟨hk, hk.2⟩ : _ ∧ k_ ≠ gb331))) (fun _ hk => hk.2) (.int .u64 t327)) (fun _ hk => hk.2) (.string t328)) (fun _ hk => hk.2) (.int .i64 t329)) (fun _ hk => hk.1.2)⟩
                                  have n3_ : Aside0 ((((w47.setCell ⟨gb331, 0, none⟩ (.int .u64 t327)).setCell ⟨gb331, 1, none⟩ (.string t328)).setCell ⟨gb331, 2, none⟩ (.int .i64 t329)).heap[gb331]? = some (.cells #[.int .u64 t327, .string t328, .int .i64 t329] 28 (0, 0))) := ⟨by (with_reducible repeat (first | refine blk_drewN ?_ _ | refine blk_drew ?_ | refine blk_alloc ?_ _)); refine blk_put (cs := #[.int .u64 t327, .string t328, .int .i64 0]) ?_ 2 _ rfl; (with_reducible repeat (first | refine blk_drewN ?_ _ | refine blk_drew ?_ | refine blk_alloc ?_ _)); refine blk_put (cs := #[.int .u64 t327, .string (⟨#[]⟩ : ByteArray), .int .i64 0]) ?_ 1 _ rfl; (with_reducible repeat (first | refine blk_drewN ?_ _ | refine blk_drew ?_ | refine blk_alloc ?_ _)); refine blk_put (cs := #[.int .u64 0, .string (⟨#[]⟩ : ByteArray), .int .i64 0]) ?_ 0 _ rfl; (with_reducible repeat (first | refine blk_drewN ?_ _ | refine blk_drew ?_ | refine blk_alloc ?_ _)); exact BK331.out⟩
                                  have n4_ : Aside0 (Below w.heap.size w (((w47.setCell ⟨gb331, 0, none⟩ (.int .u64 t327)).setCell ⟨gb331, 1, none⟩ (.string t328)).setCell ⟨gb331, 2, none⟩ (.int .i64 t329))) := ⟨by repeat (first | (with_reducible first | exact HB.out | apply below_alloc | apply pw_below_drewN | apply below_drew1 | refine below_set ?_ GE331.out) | exact HB.out)⟩
                                  (try clear HO_10)
                                  (try clear HO315)
                                  (try clear HO322)
                                  (try clear BK331)
                                  (try clear HB)
                                  generalize (((w47.setCell ⟨gb331, 0, none⟩ (.int .u64 t327)).setCell ⟨gb331, 1, none⟩ (.string t328)).setCell ⟨gb331, 2, none⟩ (.int .i64 t329)) = w49 at n0_ n1_ n2_ n3_ n4_ ⊢
                                  have HO_10 := n0_
                                  have HO315 := n1_
                                  have HO322 := n2_
                                  have BK331 := n3_
                                  have HB := n4_
                                  clear n0_ n1_ n2_ n3_ n4_
                                  have n0_ := Aside0.mk (Kd.R_drew HO_10.out)
                                  have n1_ := Aside0.mk (Bt.R_drew HO315.out)
                                  have n2_ := Aside0.mk (Kd.R_drew HO322.out)
                                  have n3_ := Aside0.mk (blk_drew BK331.out)
                                  have n4_ := Aside0.mk (below_drew1 HB.out)
                                  clear HO_10
                                  clear HO315
                                  clear HO322
                                  clear BK331
                                  clear HB
                                  have HO_10 := n0_
                                  have HO315 := n1_
                                  have HO322 := n2_
                                  have BK331 := n3_
                                  have HB := n4_
                                  clear n0_ n1_ n2_ n3_ n4_
                                  have q51 : (t309 : Int) ≤ ((t305.length : Int) : Int) := of_decide_eq_true (by first | (with_reducible assumption) | assumption)
                                  obtain ⟨i051, hi051, _, hsz51, _⟩ := info_parts info43
                                  have hroom51 : t305.length ≤ co13 := (Kd.R_reads' HO_10.out).2.1
                                  have hC51 : Kd.C k43 _ (some ad311) t305.length t305 := (Kd.R_reads' HO_10.out).2.2
                                  have hcut51 := cut_to (P := Tryd.prog) 37 43 .i64 Tryd.underlying37 hi051 (some ad311) t305.length co13 t309 (of_decide_eq_true (by first | (with_reducible assumption) | assumption)) q51 hroom51
                                  have hr51 := Kd.C_take (m := (t309 : Int).toNat) hC51 (by omega)
                                  have hy51 : y335.length = (t309 : Int).toNat := (by rw [Ny335.out, List.length_take]; omega)
                                  rw [← Ny335.out] at hr51
                                  rw [← hy51] at hcut51
                                  have HR338 := Aside0.mk hr51
                                  have HC338 := Aside0.mk (show y335.length ≤ co13 from by omega)
                                  clear hr51 hC51 hroom51 hi051 hsz51
                                  have KY51 := Aside0.mk hy51
                                  clear hy51
                                  have KL51 := Aside0.mk (show (t309 : Int).toNat ≤ t305.length from by omega)
                                  replace q51 := eq_true q51
                                  obtain ⟨Ao52, co52, eo52⟩ := Kd.R_slice HO322.out
                                  (first | subst eo52 | (injection eo52 with f1_ f2_ f3_; have f4_ := f1_.symm; have f5_ := f3_.symm; clear f1_ f2_ f3_; subst f4_; subst f5_))
                                  refine start_ (n := 16) (S := fun w' => True) (ds := []) #[false, false, false, false, false, false, false, false, false, false, false, false, false, false, false, false] (by kernel_rfl) rfl rfl trivial (fun hHeld => ?_); refine with_tabW postroomlaw6_FrameSpoils.tab18 postroomlaw6_FrameSpoils.bits18 (fun HT_ HW_ => ?_)
                                  generalize w49.drew = w50 at HO_10 HO315 HO322 BK331 HB HR338 hHeld ⊢
                                  refine pure_ (i := 0) (N := some 103) (v := ?_) (a' := ?_) #[true, false, false, false, false, false, false, false, false, false, false, false, false, false, false, false] rfl rfl (any_of HT_.out (by kernel_rfl)) (fun _ _ _ h => h) (Or.inl ⟨by rfl, ?_⟩) ?_ ?_
                                  rotate_left
                                  · intro w'
                                    go_simp
                                    with_reducible rfl
                                  rotate_left
                                  · simp only [Act.put, List.setIfInBounds_toArray, List.set_cons_zero, List.set_cons_succ, i64_w, i32_w]
                                    rfl
                                  refine pure_ (i := 1) (N := some 104) (v := ?_) (a' := ?_) #[true, true, false, false, false, false, false, false, false, false, false, false, false, false, false, false] rfl rfl (any_of HT_.out (by kernel_rfl)) (fun _ _ _ h => h) (Or.inl ⟨by rfl, ?_⟩) ?_ ?_
                                  rotate_left
                                  · intro w'
                                    go_simp
                                    with_reducible rfl
                                  rotate_left
                                  · simp only [Act.put, List.setIfInBounds_toArray, List.set_cons_zero, List.set_cons_succ, i64_w, i32_w]
                                    rfl
                                  refine pure_ (i := 2) (N := some 105) (v := ?_) (a' := ?_) #[true, true, true, false, false, false, false, false, false, false, false, false, false, false, false, false] rfl rfl (any_of HT_.out (by kernel_rfl)) (fun _ _ _ h => h) (Or.inl ⟨by rfl, ?_⟩) ?_ ?_
                                  rotate_left
                                  · intro w'
                                    go_simp
                                    with_reducible rfl
                                  rotate_left
                                  · simp only [Act.put, List.setIfInBounds_toArray, List.set_cons_zero, List.set_cons_succ, i64_w, i32_w]
                                    rfl
                                  refine pure_ (i := 3) (N := some 106) (v := ?_) (a' := ?_) #[true, true, true, true, false, false, false, false, false, false, false, false, false, false, false, false] rfl rfl (any_of HT_.out (by kernel_rfl)) (fun _ _ _ h => h) (Or.inl ⟨by rfl, ?_⟩) ?_ ?_
                                  rotate_left
                                  · intro w'
                                    go_simp
                                    with_reducible rfl
                                  rotate_left
                                  · simp only [Act.put, List.setIfInBounds_toArray, List.set_cons_zero, List.set_cons_succ, i64_w, i32_w]
                                    rfl
                                  refine pure_ (i := 5) (N := some 108) (v := ?_) (a' := ?_) #[true, true, true, true, false, true, false, false, false, false, false, false, false, false, false, false] rfl rfl (any_of HT_.out (by kernel_rfl)) (fun _ _ _ h => h) (Or.inl ⟨by rfl, ?_⟩) ?_ ?_
                                  rotate_left
                                  · intro w'
                                    go_simp
                                    with_reducible rfl
                                  rotate_left
                                  · simp only [Act.put, List.setIfInBounds_toArray, List.set_cons_zero, List.set_cons_succ, i64_w, i32_w]
                                    rfl
                                  refine pure_ (i := 6) (N := some 109) (v := ?_) (a' := ?_) #[true, true, true, true, false, true, true, false, false, false, false, false, false, false, false, false] rfl rfl (any_of HT_.out (by kernel_rfl)) (fun _ _ _ h => h) (Or.inl ⟨by rfl, ?_⟩) ?_ ?_
                                  rotate_left
                                  · intro w'
                                    go_simp
                                    with_reducible rfl
                                  rotate_left
                                  · simp only [Act.put, List.setIfInBounds_toArray, List.set_cons_zero, List.set_cons_succ, i64_w, i32_w]
                                    rfl
                                  refine pure_ (i := 7) (N := some 110) (v := ?_) (a' := ?_) #[true, true, true, true, false, true, true, true, false, false, false, false, false, false, false, false] rfl rfl (any_of HT_.out (by kernel_rfl)) (fun _ _ _ h => h) (Or.inl ⟨by rfl, ?_⟩) ?_ ?_
                                  rotate_left
                                  · intro w'
                                    go_simp
                                    with_reducible rfl
                                  rotate_left
                                  · simp only [Act.put, List.setIfInBounds_toArray, List.set_cons_zero, List.set_cons_succ, i64_w, i32_w]
                                    rfl
                                  refine one_ (i := 4) (N := some 107) #[true, true, true, true, true, true, true, true, false, false, false, false, false, false, false, false] rfl rfl (one_of HT_.out (by kernel_rfl)) (by decide) (fun K hK => ?_)
                                  refine goes_ Tryd.func18 (by kernel_rfl) rfl #[.slice Ao52 t319.length co52] (by rfl) rfl rfl (by (try simp only [List.map_toArray, List.map_cons, List.map_nil]); first | done | rfl | (simp only [List.length_drop, List.length_take]; rfl)) ?_
                                  with_reducible refine (postroomlaw6_as.calls k2 _ _ t319 t332 _ ?side1 ?side2 A32.out).mono ?_
                                  (case side1 => repeat (first | exact (Kd.R_reads' HO322.out).2.2 | (with_reducible refine Kd.C_alloc ?_ _) | (with_reducible refine Kd.C_drewN ?_ _) | (with_reducible refine Kd.C_drew ?_)))
                                  (case side2 => exact (Kd.R_reads' HO322.out).2.1)
                                  rintro e w53 ⟨v333, rfl, ho0, hb⟩
                                  refine ⟨_, rfl, ?_⟩
                                  have n0_ := Aside0.mk (Kd.R_elder' (by (with_reducible repeat (first | apply Kd.R_alloc | apply Kd.R_drewN | apply Kd.R_drew)); exact HO_10.out) (Kd.R_base ho0) hb)
                                  have n1_ := Aside0.mk (Bt.R_below (by (with_reducible repeat (first | apply Bt.R_alloc | apply Bt.R_drewN | apply Bt.R_drew)); exact HO315.out) hb)
                                  have n2_ := Aside0.mk (Kd.R_below (by (with_reducible repeat (first | apply Kd.R_alloc | apply Kd.R_drewN | apply Kd.R_drew)); exact HO322.out) hb)
                                  have n3_ := Aside0.mk (Kd.R_lower (Kd.R_new' ho0 (Kd.R_lt (by (with_reducible repeat (first | apply Kd.R_alloc | apply Kd.R_drewN | apply Kd.R_drew)); exact HO_10.out))) (below_size (by repeat (first | (with_reducible first | exact HB.out | apply below_alloc | apply pw_below_drewN | apply below_drew1 | refine below_set ?_ GE331.out) | exact HB.out))))
                                  have n4_ := Aside0.mk (blk_below (g := gb331) (o := .cells #[.int .u64 t327, .string t328, .int .i64 t329] 28 (0, 0)) (by (with_reducible repeat (first | refine blk_drewN ?_ _ | refine blk_drew ?_ | refine blk_alloc ?_ _)); exact BK331.out) hb)
                                  have n5_ := Aside0.mk (Kd.C_below (by repeat (first | (with_reducible exact HR338.out) | (with_reducible refine Kd.C_alloc ?_ _) | (with_reducible refine Kd.C_drewN ?_ _) | (with_reducible refine Kd.C_drew ?_) | exact HR338.out)) hb)
                                  have n6_ := Aside0.mk (below_step (by repeat (first | (with_reducible first | exact HB.out | apply below_alloc | apply pw_below_drewN | apply below_drew1 | refine below_set ?_ GE331.out) | exact HB.out)) hb)
                                  clear HO_10
                                  clear HO315
                                  clear HO322
                                  clear BK331
                                  clear HR338
                                  clear HB
                                  have HO_10 := n0_
                                  have HO315 := n1_
                                  have HO322 := n2_
                                  have HO334 := n3_
                                  have BK331 := n4_
                                  have HR338 := n5_
                                  have HB := n6_
                                  clear n0_ n1_ n2_ n3_ n4_ n5_ n6_
                                  (try clear hb)
                                  (try clear hb2)
                                  (try clear hk)
                                  (try clear hi)
                                  (try clear ho0)
                                  obtain ⟨Ao54, co54, eo54⟩ := Kd.R_slice HO334.out
                                  (first | subst eo54 | (injection eo54 with f1_ f2_ f3_; have f4_ := f1_.symm; have f5_ := f3_.symm; clear f1_ f2_ f3_; subst f4_; subst f5_))
                                  refine hK.out _ _ trivial (fun hHeld => ?_)
                                  clear hK K
                                  refine norm_ (a' := ?_) ?_ ?_
                                  rotate_left
                                  · show Act.put _ (some 107) _ = _
                                    simp only [Act.put, List.setIfInBounds_toArray, List.set_cons_zero, List.set_cons_succ, i64_w, i32_w]
                                    rfl
                                  refine one_ (i := 8) (N := some 111) #[true, true, true, true, true, true, true, true, true, false, false, false, false, false, false, false] rfl rfl (one_of HT_.out (by kernel_rfl)) (by decide) (fun K hK => ?_)
                                  refine goes_ Tryd.func17 (by kernel_rfl) rfl #[.slice Ao54 t332.length co54, .slice (some ad311) y335.length co13] (by rfl) rfl rfl (by (try simp only [List.map_toArray, List.map_cons, List.map_nil]); first | done | rfl | (simp only [List.length_drop, List.length_take]; rfl)) ?_
                                  with_reducible refine (postroomref6_Same.calls k2 _ _ t332 _ _ y335 true _ ?side1 ?side2 ?side3 ?side4 A35.out).mono ?_
                                  (case side1 => repeat (first | exact (Kd.R_reads' HO334.out).2.2 | (with_reducible refine Kd.C_alloc ?_ _) | (with_reducible refine Kd.C_drewN ?_ _) | (with_reducible refine Kd.C_drew ?_)))
                                  (case side2 => exact (Kd.R_reads' HO334.out).2.1)
                                  (case side3 => repeat (first | exact (by repeat (first | (with_reducible exact HR338.out) | (with_reducible refine Kd.C_alloc ?_ _) | (with_reducible refine Kd.C_drewN ?_ _) | (with_reducible refine Kd.C_drew ?_) | exact HR338.out)) | (with_reducible refine Kd.C_alloc ?_ _) | (with_reducible refine Kd.C_drewN ?_ _) | (with_reducible refine Kd.C_drew ?_)))
                                  (case side4 => exact HC338.out)
                                  rintro e w' ⟨rfl, ⟨nd, rfl⟩⟩
                                  refine ⟨_, rfl, ?_⟩
                                  refine hK.out _ _ trivial (fun hHeld => ?_)
                                  clear hK K
                                  refine norm_ (a' := ?_) ?_ ?_
                                  rotate_left
                                  · show Act.put _ (some 111) _ = _
                                    simp only [Act.put, List.setIfInBounds_toArray, List.set_cons_zero, List.set_cons_succ, i64_w, i32_w]
                                    rfl
                                  refine pure_ (i := 9) (N := some 112) (v := ?_) (a' := ?_) #[true, true, true, true, true, true, true, true, true, true, false, false, false, false, false, false] rfl rfl (any_of HT_.out (by kernel_rfl)) (fun _ _ _ h => h) (Or.inl ⟨by rfl, ?_⟩) ?_ ?_
                                  rotate_left
                                  · intro w'
                                    go_simp
                                    with_reducible rfl
                                  rotate_left
                                  · simp only [Act.put, List.setIfInBounds_toArray, List.set_cons_zero, List.set_cons_succ, i64_w, i32_w]
                                    rfl
                                  refine pure_ (i := 10) (N := some 113) (v := ?_) (a' := ?_) #[true, true, true, true, true, true, true, true, true, true, true, false, false, false, false, false] rfl rfl (any_of HT_.out (by kernel_rfl)) (fun _ _ _ h => h) (Or.inl ⟨by rfl, ?_⟩) ?_ ?_
                                  rotate_left
                                  · intro w'
                                    go_simp
                                    with_reducible rfl
                                  rotate_left
                                  · simp only [Act.put, List.setIfInBounds_toArray, List.set_cons_zero, List.set_cons_succ, i64_w, i32_w]
                                    rfl
                                  refine pure_ (i := 11) (N := some 114) (v := ?_) (a' := ?_) #[true, true, true, true, true, true, true, true, true, true, true, true, false, false, false, false] rfl rfl (any_of HT_.out (by kernel_rfl)) (fun _ _ _ h => h) (Or.inl ⟨by rfl, ?_⟩) ?_ ?_
                                  rotate_left
                                  · intro w'
                                    go_simp
                                    with_reducible rfl
                                  rotate_left
                                  · simp only [Act.put, List.setIfInBounds_toArray, List.set_cons_zero, List.set_cons_succ, i64_w, i32_w]
                                    rfl
                                  refine pure_ (i := 12) (N := some 115) (v := ?_) (a' := ?_) #[true, true, true, true, true, true, true, true, true, true, true, true, true, false, false, false] rfl rfl (any_of HT_.out (by kernel_rfl)) (fun _ _ _ h => h) (Or.inl ⟨by rfl, ?_⟩) ?_ ?_
                                  rotate_left
                                  · intro w'
                                    go_simp
                                    with_reducible rfl
                                  rotate_left
                                  · simp only [Act.put, List.setIfInBounds_toArray, List.set_cons_zero, List.set_cons_succ, i64_w, i32_w]
                                    rfl
                                  refine pure_ (i := 13) (N := some 116) (v := ?_) (a' := ?_) #[true, true, true, true, true, true, true, true, true, true, true, true, true, true, false, false] rfl rfl (any_of HT_.out (by kernel_rfl)) (fun _ _ _ h => h) (Or.inl ⟨by rfl, ?_⟩) ?_ ?_
                                  rotate_left
                                  · intro w'
                                    go_simp
                                    with_reducible rfl
                                  rotate_left
                                  · simp only [Act.put, List.setIfInBounds_toArray, List.set_cons_zero, List.set_cons_succ, i64_w, i32_w]
                                    rfl
                                  refine pure_ (i := 14) (N := some 117) (v := ?_) (a' := ?_) #[true, true, true, true, true, true, true, true, true, true, true, true, true, true, true, false] rfl rfl (any_of HT_.out (by kernel_rfl)) (fun _ _ _ h => h) (Or.inl ⟨by rfl, ?_⟩) ?_ ?_
                                  rotate_left
                                  · intro w'
                                    go_simp
                                    with_reducible rfl
                                  rotate_left
                                  · simp only [Act.put, List.setIfInBounds_toArray, List.set_cons_zero, List.set_cons_succ, i64_w, i32_w]
                                    rfl
                                  refine pure_ (i := 15) (N := some 8) (v := ?_) (a' := ?_) #[true, true, true, true, true, true, true, true, true, true, true, true, true, true, true, true] rfl rfl (any_of HT_.out (by kernel_rfl)) (fun _ _ _ h => h) (Or.inl ⟨by rfl, ?_⟩) ?_ ?_
                                  rotate_left
                                  · intro w'
                                    go_simp
                                    with_reducible rfl
                                  rotate_left
                                  · simp only [Act.put, List.setIfInBounds_toArray, List.set_cons_zero, List.set_cons_succ, i64_w, i32_w]
                                    rfl
                                  refine done_ (done_of HT_.out (by kernel_rfl)) ?_
                                  try go_wp2
                                  go_ret
                                  exact ⟨by first | rfl | (simp [errW_none, errW_some] <;> rfl) | (simp only [← hji20, ← hji23, ← hji25]; first | rfl | (simp [errW_none, errW_some] <;> rfl)) | (simp [*, errW_none, errW_some] <;> rfl), by repeat (first | (with_reducible first | exact HB.out | apply below_alloc | apply pw_below_drewN | apply below_drew1 | refine below_set ?_ GE331.out) | exact HB.out)⟩
                                · replace c36 := Bool.eq_false_iff.mpr c36
                                  subst c36
                                  have H1 : (some false) = some r := by rw [if_neg (show ¬ (false = true) by decide)] at H; exact H
                                  clear H
                                  have H := H1
                                  clear H1
                                  obtain rfl := Option.some.inj H
                                  have p311 : 0 ≤ (t309 : Int) := of_decide_eq_true (by first | (with_reducible assumption) | assumption)
                                  have q311 : t309 < (t305.length : Int) := of_decide_eq_true (by first | (with_reducible assumption) | assumption)
                                  obtain ⟨ad311, e311, hx311_0, hx311_1, hx311_2⟩ := at_T43 (Kd.R_reads' HO_10.out).2.2 t309 p311 q311
                                  cases e311
                                  replace p311 := eq_true p311
                                  replace q311 := eq_true q311
                                  have p312 : 0 ≤ (t309 : Int) := of_decide_eq_true (by first | (with_reducible assumption) | assumption)
                                  have q312 : t309 < (t305.length : Int) := of_decide_eq_true (by first | (with_reducible assumption) | assumption)
                                  obtain ⟨ad312, e312, hx312_0, hx312_1, hx312_2⟩ := at_T43 (Kd.R_reads' HO_10.out).2.2 t309 p312 q312
                                  obtain rfl : ad311 = ad312 := (by injection e312)
                                  replace p312 := eq_true p312
                                  replace q312 := eq_true q312
                                  try go_wp2_with (first | ((with_reducible refine gate_dst (N := 69) rfl ?_); (try (refine gate_guard (by rfl) ?_; dsimp only)); refine Bt.R_conv ?hg (N := 69) ?hd (s := t306) HSZ.out ?hr (Below.refl _ _) (Nat.le_refl _) ?_; (case hd => rfl); (case hg => rfl); (case hr => exact Bt.conv_run rfl rfl); intro v314 w55 ho56 hb hg_ hnew_; clear hg_ hnew_; rw [← Ny313.out] at ho56; have n0_ := Aside0.mk (Kd.R_below (by (with_reducible repeat (first | apply Kd.R_alloc | apply Kd.R_drewN | apply Kd.R_drew)); exact HO_10.out) hb); have n1_ := Aside0.mk (Bt.R_lower ho56 (below_size (by repeat (first | (with_reducible first | exact HB.out | apply below_alloc | apply pw_below_drewN | apply below_drew1) | exact HB.out)))); have n2_ := Aside0.mk (below_step (by repeat (first | (with_reducible first | exact HB.out | apply below_alloc | apply pw_below_drewN | apply below_drew1) | exact HB.out)) hb); clear HO_10; clear HB; have HO_10 := n0_; have HO315 := n1_; have HB := n2_; clear n0_ n1_ n2_; clear hb ho56) | ((with_reducible refine gate_callee (f := 14) rfl ?_); refine goesL_ (some 73) rfl rfl Tryd.func14 (by kernel_rfl) rfl #[.int .i64 a3, .int .i64 (wrap64 (8 * (wrap64 ((((rd_T43 t305 t309).f1).size : Int) + 4))))] rfl (by (try simp only [List.map_toArray, List.map_cons, List.map_nil]); first | done | rfl | (simp only [List.length_drop, List.length_take]; rfl)) ?_; (with_reducible refine (postroomlaw6_pick.calls a3 (wrap64 (8 * (wrap64 ((((rd_T43 t305 t309).f1).size : Int) + 4)))) t316 _ A19.out).mono ?_); rintro e w' ⟨rfl, ⟨nd, rfl⟩⟩; refine ⟨_, rfl, ?_⟩; (try (rw [drewN_self w55]; generalize hq_ : World.drewN w55 _ = w55; have n0_ : Aside0 (Bt.R w55 w.heap.size (fun _ => True) v314 y313) := ⟨by rw [← hq_]; exact (by (with_reducible repeat (first | apply Bt.R_alloc | apply Bt.R_drewN | apply Bt.R_drew)); exact HO315.out)⟩; have n1_ : Aside0 (Kd.R k43 43 w55 w.heap.size (fun _ => True) (.slice (some ad311) t305.length co13) t305) := ⟨by rw [← hq_]; exact (by (with_reducible repeat (first | apply Kd.R_alloc | apply Kd.R_drewN | apply Kd.R_drew)); exact HO_10.out)⟩; have n2_ : Aside0 (Below w.heap.size w w55) := ⟨by rw [← hq_]; exact (by repeat (first | (with_reducible first | exact HB.out | apply below_alloc | apply pw_below_drewN | apply below_drew1) | exact HB.out))⟩; clear HO315 HO_10 HB hq_; have HO315 := n0_; have HO_10 := n1_; have HB := n2_; clear n0_ n1_ n2_)); obtain ⟨Ao57, co57, eo57⟩ := Bt.R_slice HO315.out; subst eo57; have p317 : 0 ≤ ((ji20) : Int) := of_decide_eq_true (by first | (with_reducible assumption) | assumption); have q317 : (ji20) < (y313.length : Int) := of_decide_eq_true (by first | (with_reducible assumption) | assumption); obtain ⟨ad317, e317, hx317_0⟩ := Kd.at_int (Bt.R_reads' HO315.out).2.2 (ji20) p317 q317; cases e317; replace p317 := eq_true p317; replace q317 := eq_true q317; have p26 : 0 ≤ ((ji20) : Int) := of_decide_eq_true (by first | (with_reducible assumption) | assumption); have q26 : ((ji20) : Int) < ((y313.length : Int) : Int) := of_decide_eq_true (by first | (with_reducible assumption) | assumption); obtain ⟨go26, co26, eo26, gb26, gl26, cl26, HG26⟩ := Bt.R_form HO315.out (by omega); (first | cases eo26 | (injection eo26 with ea_ en_ ec_; (first | subst ea_ | (injection ea_ with ea_; subst ea_)); subst ec_; clear en_)); have GB26 := Aside0.mk gb26; have GG26 := Aside0.mk HG26; clear gb26 gl26 HG26; (first | simp only [add_plain] at hx317_0 | skip); obtain ⟨hx26_0, hf26_0⟩ := Bt.R_celln 0 HO315.out ((ji20) : Int) p26 q26; replace p26 := eq_true p26; replace q26 := eq_true q26; obtain ⟨hy58_, hz58_⟩ := Bt.R_celln 0 HO315.out ((ji20) : Int) (of_decide_eq_true (by first | (with_reducible assumption) | assumption)) (of_decide_eq_true (by first | (with_reducible assumption) | assumption)); have HP58 := Bt.R_putg HO315.out ((ji20) : Int) (Go.bits .xor .u8 (rd y313 (ji20)) (ji25))) | ((with_reducible refine gate_store (t := 5) (p := 88) rfl ?_); refine store_event (t := 5) (p := 88) (v := ?vo_w59) (w1 := (w55.setCell ⟨go26, ((ji20) : Int).toNat, none⟩ (.int .u8 (Go.bits .xor .u8 (rd y313 (ji20)) (ji25))))) ?hg ?ho ?hn ?hr ?_; (case ho => rfl); (case hg => rfl); (case hn => rfl); (case hr => first | (go_simp; done) | (go_simp; rfl)); intro w59 hw; have hg : w55.grownBy w59 (some go26) := (by rw [hw]; exact HP58.2); have hp_ : Bt.R w59 w.heap.size (fun _ => True) (.slice (some ⟨go26, 0, none⟩) y313.length co57) y318 := (by rw [hw, Ny318.out]; exact HP58.1); clear HP58; have n0_ := Aside0.mk (Bt.over (by (with_reducible repeat (first | apply Kd.R_alloc | apply Kd.R_drewN | apply Kd.R_drew)); exact HO_10.out) HO315.out hg); have n1_ := Aside0.mk (hp_); have n2_ := Aside0.mk ((by rw [hw]; exact below_set (HB.out) GB26.out : Below w.heap.size w w59)); clear HO_10; clear HO315; clear HB; have HO_10 := n0_; have HO315 := n1_; have HB := n2_; clear n0_ n1_ n2_; clear hg hw hp_; have hcv60 := Bt.conv Tryd.underlying34 Tryd.underlying5 Tryd.underlying9 HO315.out) | ((with_reducible refine gate_callee (f := 16) rfl ?_); refine goesL_ (some 92) rfl rfl Tryd.func16 (by kernel_rfl) rfl #[.string (strOfNums y318)] rfl (by (try simp only [List.map_toArray, List.map_cons, List.map_nil]); first | done | rfl | (simp only [List.length_drop, List.length_take]; rfl)) ?_; (with_reducible refine (frame_Scan.calls k2 (strOfNums y318) t319 t320 _ ?side1 A27.out).mono ?_); (case side1 => exact Tabs.below HT.out (by repeat (first | (with_reducible first | exact HB.out | apply below_alloc | apply pw_below_drewN | apply below_drew1) | exact HB.out))); rintro e w61 ⟨v321, rfl, ho0, hb⟩; refine ⟨_, rfl, ?_⟩; have n0_ := Aside0.mk (Kd.R_below (by (with_reducible repeat (first | apply Kd.R_alloc | apply Kd.R_drewN | apply Kd.R_drew)); exact HO_10.out) hb); have n1_ := Aside0.mk (Bt.R_below (by (with_reducible repeat (first | apply Bt.R_alloc | apply Bt.R_drewN | apply Bt.R_drew)); exact HO315.out) hb); have n2_ := Aside0.mk (Kd.R_lower ho0 (below_size (by repeat (first | (with_reducible first | exact HB.out | apply below_alloc | apply pw_below_drewN | apply below_drew1) | exact HB.out)))); have n3_ := Aside0.mk (below_step (by repeat (first | (with_reducible first | exact HB.out | apply below_alloc | apply pw_below_drewN | apply below_drew1) | exact HB.out)) hb); clear HO_10; clear HO315; clear HB; have HO_10 := n0_; have HO315 := n1_; have HO322 := n2_; have HB := n3_; clear n0_ n1_ n2_ n3_; (try clear hb); (try clear hb2); (try clear hk); (try clear hi); (try clear ho0); have hlx62 := (Bt.R_reads' HO315.out).1; have q62 : (x13_2 : Int) ≤ ((y313.length : Int) : Int) := of_decide_eq_true (by first | (with_reducible assumption) | assumption); obtain ⟨i062, hi062, _, hsz62, _⟩ := info_parts info5; have hroom62 : y313.length ≤ co57 := (Bt.R_reads' HO315.out).2.1; have hroomc62 : y318.length ≤ co57 := (by rw [← hlx62]; exact hroom62); have hC62 : Kd.C (Kd.int .u8) _ (some ⟨go26, 0, none⟩) y318.length y318 := (Bt.R_reads' HO315.out).2.2; have q062 : (0 : Int) ≤ (x13_2 : Int) := of_decide_eq_true (by first | (with_reducible assumption) | assumption); have hcut62 := cut_from (P := Tryd.prog) 34 5 .i64 Tryd.underlying34 hi062 1 hsz62 (some ⟨go26, 0, none⟩) y313.length co57 x13_2 q062 q62; have hr62 := Kd.C_drop (m := (x13_2 : Int).toNat) (c := co57) hC62 (by omega) hroomc62; obtain ⟨A62, hA62⟩ : ∃ A1, A1 = (if co57 = (x13_2 : Int).toNat then (some ⟨go26, 0, none⟩) else ((some ⟨go26, 0, none⟩) : Option Addr).map (·.add ((x13_2 : Int).toNat * 1))) := ⟨_, rfl⟩; obtain ⟨c62, hc62⟩ : ∃ c1, c1 = co57 - (x13_2 : Int).toNat := ⟨_, rfl⟩; have hy62 : y323.length = y313.length - (x13_2 : Int).toNat := (by rw [Ny323.out, List.length_drop] <;> omega); rw [show (y318).drop (x13_2 : Int).toNat = y323 from Ny323.out.symm] at hr62; replace hr62 : Kd.C (Kd.int .u8) _ A62 y323.length y323 := (by rw [hA62]; exact hr62); rw [← hy62, ← hA62, ← hc62] at hcut62; have HR326 := Aside0.mk hr62; have HC326 := Aside0.mk (show y323.length ≤ c62 from by rw [hy62, hc62]; exact Nat.sub_le_sub_right hroom62 _); clear hr62 hC62 hroom62 hi062 hsz62 hc62 hroomc62; have KY62 := Aside0.mk hy62; have KA62 := Aside0.mk hA62; clear hy62 hA62; have KE62 := Aside0.mk hlx62; have KL62 := Aside0.mk (show (x13_2 : Int).toNat ≤ y318.length from by omega); clear hlx62; replace q62 := eq_true q62; have hcv63 := Kd.C_string (P := Tryd.prog) (A := A62) (c := c62) Tryd.underlying34 Tryd.underlying5 Tryd.underlying9 (by repeat (first | (with_reducible exact HR326.out) | (with_reducible refine Kd.C_alloc ?_ _) | (with_reducible refine Kd.C_drewN ?_ _) | (with_reducible refine Kd.C_drew ?_) | exact HR326.out))) | ((with_reducible refine gate_callee (f := 12) rfl ?_); refine goesL_ (some 100) rfl rfl Tryd.func12 (by kernel_rfl) rfl #[.string (strOfNums y323)] rfl (by (try simp only [List.map_toArray, List.map_cons, List.map_nil]); first | done | rfl | (simp only [List.length_drop, List.length_take]; rfl)) ?_; (with_reducible refine (frame_First.calls k2 (strOfNums y323) t327 t328 t329 t330 _ ?side1 A30.out).mono ?_); (case side1 => exact Tabs.below HT.out (by repeat (first | (with_reducible first | exact HB.out | apply below_alloc | apply pw_below_drewN | apply below_drew1) | exact HB.out))); rintro e w64 ⟨rfl, hb⟩; refine ⟨_, rfl, ?_⟩; have n0_ := Aside0.mk (Kd.R_below (by (with_reducible repeat (first | apply Kd.R_alloc | apply Kd.R_drewN | apply Kd.R_drew)); exact HO_10.out) hb); have n1_ := Aside0.mk (Bt.R_below (by (with_reducible repeat (first | apply Bt.R_alloc | apply Bt.R_drewN | apply Bt.R_drew)); exact HO315.out) hb); have n2_ := Aside0.mk (Kd.R_below (by (with_reducible repeat (first | apply Kd.R_alloc | apply Kd.R_drewN | apply Kd.R_drew)); exact HO322.out) hb); have n3_ := Aside0.mk (Kd.C_below (by repeat (first | (with_reducible exact HR326.out) | (with_reducible refine Kd.C_alloc ?_ _) | (with_reducible refine Kd.C_drewN ?_ _) | (with_reducible refine Kd.C_drew ?_) | exact HR326.out)) hb); have n4_ := Aside0.mk (below_step (by repeat (first | (with_reducible first | exact HB.out | apply below_alloc | apply pw_below_drewN | apply below_drew1) | exact HB.out)) hb); clear HO_10; clear HO315; clear HO322; clear HR326; clear HB; have HO_10 := n0_; have HO315 := n1_; have HO322 := n2_; have HR326 := n3_; have HB := n4_; clear n0_ n1_ n2_ n3_ n4_; (try clear hb); (try clear hb2); (try clear hk); (try clear hi)) | ((with_reducible refine gate_dst (N := 21) rfl ?_); (try (refine gate_guard (by rfl) ?_; dsimp only)); refine box_event ?hg (N := 21) ?hd (cs := #[.int .u64 0, .string (⟨#[]⟩ : ByteArray), .int .i64 0]) (t := 28) ?hr ?_; (case hd => rfl); (case hg => rfl); (case hr => first | (go_simp; done) | (go_simp; rfl)); intro gb331 hg w65 hbox hb; have n0_ := Aside0.mk (Kd.R_below (by (with_reducible repeat (first | apply Kd.R_alloc | apply Kd.R_drewN | apply Kd.R_drew)); exact HO_10.out) hb); have n1_ := Aside0.mk (Bt.R_below (by (with_reducible repeat (first | apply Bt.R_alloc | apply Bt.R_drewN | apply Bt.R_drew)); exact HO315.out) hb); have n2_ := Aside0.mk (Kd.R_below (Kd.R_elderB (by (with_reducible repeat (first | apply Kd.R_alloc | apply Kd.R_drewN | apply Kd.R_drew)); exact HO322.out) gb331 (Nat.le_of_eq hg.symm)) hb); have n3_ := Aside0.mk (Kd.C_below (by repeat (first | (with_reducible exact HR326.out) | (with_reducible refine Kd.C_alloc ?_ _) | (with_reducible refine Kd.C_drewN ?_ _) | (with_reducible refine Kd.C_drew ?_) | exact HR326.out)) hb); have n4_ := Aside0.mk (below_step (by repeat (first | (with_reducible first | exact HB.out | apply below_alloc | apply pw_below_drewN | apply below_drew1) | exact HB.out)) hb); have n5_ := Aside0.mk (hbox); have n6_ := Aside0.mk ((by rw [hg]; exact (below_size (by repeat (first | (with_reducible first | exact HB.out | apply below_alloc | apply pw_below_drewN | apply below_drew1) | exact HB.out))) : w.heap.size ≤ gb331)); have n7_ := Aside0.mk ((by rw [hg]; exact (below_size (by repeat (first | (with_reducible first | exact HB.out | apply below_alloc | apply pw_below_drewN | apply below_drew1) | exact HB.out))) : w.heap.size ≤ gb331)); clear HO_10; clear HO315; clear HO322; clear HR326; clear HB; have HO_10 := n0_; have HO315 := n1_; have HO322 := n2_; have HR326 := n3_; have HB := n4_; have BK331 := n5_; have GW331 := n6_; have GE331 := n7_; clear n0_ n1_ n2_ n3_ n4_ n5_ n6_ n7_; clear hb hbox hg; have hcz66_0 : w65.cell? ⟨gb331, 0, none⟩ = some (.int .u64 0) := (blk_cell BK331.out 0).trans rfl; have hcz66_1 : w65.cell? ⟨gb331, 1, none⟩ = some (.string (⟨#[]⟩ : ByteArray)) := (blk_cell BK331.out 1).trans rfl; have hcz66_2 : w65.cell? ⟨gb331, 2, none⟩ = some (.int .i64 0) := (blk_cell BK331.out 2).trans rfl; have hfz66_0 := blk_frozen BK331.out 0; have hfz66_1 := blk_frozen BK331.out 1; have hfz66_2 := blk_frozen BK331.out 2))
                                  have n0_ : Aside0 (Kd.R k43 43 (((w65.setCell ⟨gb331, 0, none⟩ (.int .u64 t327)).setCell ⟨gb331, 1, none⟩ (.string t328)).setCell ⟨gb331, 2, none⟩ (.int .i64 t329)) w.heap.size (fun _ => True) (.slice (some ad311) t305.length co13) t305) := ⟨by (with_reducible repeat (first | apply Kd.R_alloc | apply Kd.R_drewN | apply Kd.R_drew)); exact Kd.R_mono (Kd.R_far (p := ⟨gb331, 2, none⟩) (Kd.R_far (p := ⟨gb331, 1, none⟩) (Kd.R_far (p := ⟨gb331, 0, none⟩) (Kd.R_types HO_10.out BK331.out (by decide)) (fun _ hk => hk.2) (.int .u64 t327)) (fun _ hk => hk.2) (.string t328)) (fun _ hk => hk.2) (.int .i64 t329)) (fun _ hk => trivial)⟩
                                  have n1_ : Aside0 (Bt.R (((w65.setCell ⟨gb331, 0, none⟩ (.int .u64 t327)).setCell ⟨gb331, 1, none⟩ (.string t328)).setCell ⟨gb331, 2, none⟩ (.int .i64 t329)) w.heap.size (fun _ => True) (.slice (some ⟨go26, 0, none⟩) y313.length co57) y318) := ⟨by (with_reducible repeat (first | apply Bt.R_alloc | apply Bt.R_drewN | apply Bt.R_drew)); exact Bt.R_mono (Bt.R_far (p := ⟨gb331, 2, none⟩) (Bt.R_far (p := ⟨gb331, 1, none⟩) (Bt.R_far (p := ⟨gb331, 0, none⟩) (Bt.R_types HO315.out BK331.out (by decide)) (fun _ hk => hk.2) (.int .u64 t327)) (fun _ hk => hk.2) (.string t328)) (fun _ hk => hk.2) (.int .i64 t329)) (fun _ hk => trivial)⟩
                                  have n2_ : Aside0 (Kd.R k28 28 (((w65.setCell ⟨gb331, 0, none⟩ (.int .u64 t327)).setCell ⟨gb331, 1, none⟩ (.string t328)).setCell ⟨gb331, 2, none⟩ (.int .i64 t329)) w.heap.size (fun k_ => k_ ≠ gb331) v321 t319) := ⟨by (with_reducible repeat (first | apply Kd.R_alloc | apply Kd.R_drewN | apply Kd.R_drew)); exact Kd.R_mono (Kd.R_far (p := ⟨gb331, 2, none⟩) (Kd.R_far (p := ⟨gb331, 1, none⟩) (Kd.R_far (p := ⟨gb331, 0, none⟩) (Kd.R_mono HO322.out (fun k_ hk => (⟨hk, hk.2⟩ : _ ∧ k_ ≠ gb331))) (fun _ hk => hk.2) (.int .u64 t327)) (fun _ hk => hk.2) (.string t328)) (fun _ hk => hk.2) (.int .i64 t329)) (fun _ hk => hk.1.2)⟩
                                  have n3_ : Aside0 ((((w65.setCell ⟨gb331, 0, none⟩ (.int .u64 t327)).setCell ⟨gb331, 1, none⟩ (.string t328)).setCell ⟨gb331, 2, none⟩ (.int .i64 t329)).heap[gb331]? = some (.cells #[.int .u64 t327, .string t328, .int .i64 t329] 28 (0, 0))) := ⟨by (with_reducible repeat (first | refine blk_drewN ?_ _ | refine blk_drew ?_ | refine blk_alloc ?_ _)); refine blk_put (cs := #[.int .u64 t327, .string t328, .int .i64 0]) ?_ 2 _ rfl; (with_reducible repeat (first | refine blk_drewN ?_ _ | refine blk_drew ?_ | refine blk_alloc ?_ _)); refine blk_put (cs := #[.int .u64 t327, .string (⟨#[]⟩ : ByteArray), .int .i64 0]) ?_ 1 _ rfl; (with_reducible repeat (first | refine blk_drewN ?_ _ | refine blk_drew ?_ | refine blk_alloc ?_ _)); refine blk_put (cs := #[.int .u64 0, .string (⟨#[]⟩ : ByteArray), .int .i64 0]) ?_ 0 _ rfl; (with_reducible repeat (first | refine blk_drewN ?_ _ | refine blk_drew ?_ | refine blk_alloc ?_ _)); exact BK331.out⟩
                                  have n4_ : Aside0 (Below w.heap.size w (((w65.setCell ⟨gb331, 0, none⟩ (.int .u64 t327)).setCell ⟨gb331, 1, none⟩ (.string t328)).setCell ⟨gb331, 2, none⟩ (.int .i64 t329))) := ⟨by repeat (first | (with_reducible first | exact HB.out | apply below_alloc | apply pw_below_drewN | apply below_drew1 | refine below_set ?_ GE331.out) | exact HB.out)⟩
                                  (try clear HO_10)
                                  (try clear HO315)
                                  (try clear HO322)
                                  (try clear BK331)
                                  (try clear HB)
                                  generalize (((w65.setCell ⟨gb331, 0, none⟩ (.int .u64 t327)).setCell ⟨gb331, 1, none⟩ (.string t328)).setCell ⟨gb331, 2, none⟩ (.int .i64 t329)) = w67 at n0_ n1_ n2_ n3_ n4_ ⊢
                                  have HO_10 := n0_
                                  have HO315 := n1_
                                  have HO322 := n2_
                                  have BK331 := n3_
                                  have HB := n4_
                                  clear n0_ n1_ n2_ n3_ n4_
                                  have n0_ := Aside0.mk (Kd.R_drew HO_10.out)
                                  have n1_ := Aside0.mk (Bt.R_drew HO315.out)
                                  have n2_ := Aside0.mk (Kd.R_drew HO322.out)
                                  have n3_ := Aside0.mk (blk_drew BK331.out)
                                  have n4_ := Aside0.mk (below_drew1 HB.out)
                                  clear HO_10
                                  clear HO315
                                  clear HO322
                                  clear BK331
                                  clear HB
                                  have HO_10 := n0_
                                  have HO315 := n1_
                                  have HO322 := n2_
                                  have BK331 := n3_
                                  have HB := n4_
                                  clear n0_ n1_ n2_ n3_ n4_
                                  have q69 : (t309 : Int) ≤ ((t305.length : Int) : Int) := of_decide_eq_true (by first | (with_reducible assumption) | assumption)
                                  obtain ⟨i069, hi069, _, hsz69, _⟩ := info_parts info43
                                  have hroom69 : t305.length ≤ co13 := (Kd.R_reads' HO_10.out).2.1
                                  have hC69 : Kd.C k43 _ (some ad311) t305.length t305 := (Kd.R_reads' HO_10.out).2.2
                                  have hcut69 := cut_to (P := Tryd.prog) 37 43 .i64 Tryd.underlying37 hi069 (some ad311) t305.length co13 t309 (of_decide_eq_true (by first | (with_reducible assumption) | assumption)) q69 hroom69
                                  have hr69 := Kd.C_take (m := (t309 : Int).toNat) hC69 (by omega)
                                  have hy69 : y335.length = (t309 : Int).toNat := (by rw [Ny335.out, List.length_take]; omega)
                                  rw [← Ny335.out] at hr69
                                  rw [← hy69] at hcut69
                                  have HR338 := Aside0.mk hr69
                                  have HC338 := Aside0.mk (show y335.length ≤ co13 from by omega)
                                  clear hr69 hC69 hroom69 hi069 hsz69
                                  have KY69 := Aside0.mk hy69
                                  clear hy69
                                  have KL69 := Aside0.mk (show (t309 : Int).toNat ≤ t305.length from by omega)
                                  replace q69 := eq_true q69
                                  obtain ⟨Ao70, co70, eo70⟩ := Kd.R_slice HO322.out
                                  (first | subst eo70 | (injection eo70 with f1_ f2_ f3_; have f4_ := f1_.symm; have f5_ := f3_.symm; clear f1_ f2_ f3_; subst f4_; subst f5_))
                                  refine start_ (n := 16) (S := fun w' => True) (ds := []) #[false, false, false, false, false, false, false, false, false, false, false, false, false, false, false, false] (by kernel_rfl) rfl rfl trivial (fun hHeld => ?_); refine with_tabW postroomlaw6_FrameSpoils.tab18 postroomlaw6_FrameSpoils.bits18 (fun HT_ HW_ => ?_)
                                  generalize w67.drew = w68 at HO_10 HO315 HO322 BK331 HB HR338 hHeld ⊢
                                  refine pure_ (i := 0) (N := some 103) (v := ?_) (a' := ?_) #[true, false, false, false, false, false, false, false, false, false, false, false, false, false, false, false] rfl rfl (any_of HT_.out (by kernel_rfl)) (fun _ _ _ h => h) (Or.inl ⟨by rfl, ?_⟩) ?_ ?_
                                  rotate_left
                                  · intro w'
                                    go_simp
                                    with_reducible rfl
                                  rotate_left
                                  · simp only [Act.put, List.setIfInBounds_toArray, List.set_cons_zero, List.set_cons_succ, i64_w, i32_w]
                                    rfl
                                  refine pure_ (i := 1) (N := some 104) (v := ?_) (a' := ?_) #[true, true, false, false, false, false, false, false, false, false, false, false, false, false, false, false] rfl rfl (any_of HT_.out (by kernel_rfl)) (fun _ _ _ h => h) (Or.inl ⟨by rfl, ?_⟩) ?_ ?_
                                  rotate_left
                                  · intro w'
                                    go_simp
                                    with_reducible rfl
                                  rotate_left
                                  · simp only [Act.put, List.setIfInBounds_toArray, List.set_cons_zero, List.set_cons_succ, i64_w, i32_w]
                                    rfl
                                  refine pure_ (i := 2) (N := some 105) (v := ?_) (a' := ?_) #[true, true, true, false, false, false, false, false, false, false, false, false, false, false, false, false] rfl rfl (any_of HT_.out (by kernel_rfl)) (fun _ _ _ h => h) (Or.inl ⟨by rfl, ?_⟩) ?_ ?_
                                  rotate_left
                                  · intro w'
                                    go_simp
                                    with_reducible rfl
                                  rotate_left
                                  · simp only [Act.put, List.setIfInBounds_toArray, List.set_cons_zero, List.set_cons_succ, i64_w, i32_w]
                                    rfl
                                  refine pure_ (i := 3) (N := some 106) (v := ?_) (a' := ?_) #[true, true, true, true, false, false, false, false, false, false, false, false, false, false, false, false] rfl rfl (any_of HT_.out (by kernel_rfl)) (fun _ _ _ h => h) (Or.inl ⟨by rfl, ?_⟩) ?_ ?_
                                  rotate_left
                                  · intro w'
                                    go_simp
                                    with_reducible rfl
                                  rotate_left
                                  · simp only [Act.put, List.setIfInBounds_toArray, List.set_cons_zero, List.set_cons_succ, i64_w, i32_w]
                                    rfl
                                  refine pure_ (i := 5) (N := some 108) (v := ?_) (a' := ?_) #[true, true, true, true, false, true, false, false, false, false, false, false, false, false, false, false] rfl rfl (any_of HT_.out (by kernel_rfl)) (fun _ _ _ h => h) (Or.inl ⟨by rfl, ?_⟩) ?_ ?_
                                  rotate_left
                                  · intro w'
                                    go_simp
                                    with_reducible rfl
                                  rotate_left
                                  · simp only [Act.put, List.setIfInBounds_toArray, List.set_cons_zero, List.set_cons_succ, i64_w, i32_w]
                                    rfl
                                  refine pure_ (i := 6) (N := some 109) (v := ?_) (a' := ?_) #[true, true, true, true, false, true, true, false, false, false, false, false, false, false, false, false] rfl rfl (any_of HT_.out (by kernel_rfl)) (fun _ _ _ h => h) (Or.inl ⟨by rfl, ?_⟩) ?_ ?_
                                  rotate_left
                                  · intro w'
                                    go_simp
                                    with_reducible rfl
                                  rotate_left
                                  · simp only [Act.put, List.setIfInBounds_toArray, List.set_cons_zero, List.set_cons_succ, i64_w, i32_w]
                                    rfl
                                  refine pure_ (i := 7) (N := some 110) (v := ?_) (a' := ?_) #[true, true, true, true, false, true, true, true, false, false, false, false, false, false, false, false] rfl rfl (any_of HT_.out (by kernel_rfl)) (fun _ _ _ h => h) (Or.inl ⟨by rfl, ?_⟩) ?_ ?_
                                  rotate_left
                                  · intro w'
                                    go_simp
                                    with_reducible rfl
                                  rotate_left
                                  · simp only [Act.put, List.setIfInBounds_toArray, List.set_cons_zero, List.set_cons_succ, i64_w, i32_w]
                                    rfl
                                  refine one_ (i := 4) (N := some 107) #[true, true, true, true, true, true, true, true, false, false, false, false, false, false, false, false] rfl rfl (one_of HT_.out (by kernel_rfl)) (by decide) (fun K hK => ?_)
                                  refine goes_ Tryd.func18 (by kernel_rfl) rfl #[.slice Ao70 t319.length co70] (by rfl) rfl rfl (by (try simp only [List.map_toArray, List.map_cons, List.map_nil]); first | done | rfl | (simp only [List.length_drop, List.length_take]; rfl)) ?_
                                  with_reducible refine (postroomlaw6_as.calls k2 _ _ t319 t332 _ ?side1 ?side2 A32.out).mono ?_
                                  (case side1 => repeat (first | exact (Kd.R_reads' HO322.out).2.2 | (with_reducible refine Kd.C_alloc ?_ _) | (with_reducible refine Kd.C_drewN ?_ _) | (with_reducible refine Kd.C_drew ?_)))
                                  (case side2 => exact (Kd.R_reads' HO322.out).2.1)
                                  rintro e w71 ⟨v333, rfl, ho0, hb⟩
                                  refine ⟨_, rfl, ?_⟩
                                  have n0_ := Aside0.mk (Kd.R_elder' (by (with_reducible repeat (first | apply Kd.R_alloc | apply Kd.R_drewN | apply Kd.R_drew)); exact HO_10.out) (Kd.R_base ho0) hb)
                                  have n1_ := Aside0.mk (Bt.R_below (by (with_reducible repeat (first | apply Bt.R_alloc | apply Bt.R_drewN | apply Bt.R_drew)); exact HO315.out) hb)
                                  have n2_ := Aside0.mk (Kd.R_below (by (with_reducible repeat (first | apply Kd.R_alloc | apply Kd.R_drewN | apply Kd.R_drew)); exact HO322.out) hb)
                                  have n3_ := Aside0.mk (Kd.R_lower (Kd.R_new' ho0 (Kd.R_lt (by (with_reducible repeat (first | apply Kd.R_alloc | apply Kd.R_drewN | apply Kd.R_drew)); exact HO_10.out))) (below_size (by repeat (first | (with_reducible first | exact HB.out | apply below_alloc | apply pw_below_drewN | apply below_drew1 | refine below_set ?_ GE331.out) | exact HB.out))))
                                  have n4_ := Aside0.mk (blk_below (g := gb331) (o := .cells #[.int .u64 t327, .string t328, .int .i64 t329] 28 (0, 0)) (by (with_reducible repeat (first | refine blk_drewN ?_ _ | refine blk_drew ?_ | refine blk_alloc ?_ _)); exact BK331.out) hb)
                                  have n5_ := Aside0.mk (Kd.C_below (by repeat (first | (with_reducible exact HR338.out) | (with_reducible refine Kd.C_alloc ?_ _) | (with_reducible refine Kd.C_drewN ?_ _) | (with_reducible refine Kd.C_drew ?_) | exact HR338.out)) hb)
                                  have n6_ := Aside0.mk (below_step (by repeat (first | (with_reducible first | exact HB.out | apply below_alloc | apply pw_below_drewN | apply below_drew1 | refine below_set ?_ GE331.out) | exact HB.out)) hb)
                                  clear HO_10
                                  clear HO315
                                  clear HO322
                                  clear BK331
                                  clear HR338
                                  clear HB
                                  have HO_10 := n0_
                                  have HO315 := n1_
                                  have HO322 := n2_
                                  have HO334 := n3_
                                  have BK331 := n4_
                                  have HR338 := n5_
                                  have HB := n6_
                                  clear n0_ n1_ n2_ n3_ n4_ n5_ n6_
                                  (try clear hb)
                                  (try clear hb2)
                                  (try clear hk)
                                  (try clear hi)
                                  (try clear ho0)
                                  obtain ⟨Ao72, co72, eo72⟩ := Kd.R_slice HO334.out
                                  (first | subst eo72 | (injection eo72 with f1_ f2_ f3_; have f4_ := f1_.symm; have f5_ := f3_.symm; clear f1_ f2_ f3_; subst f4_; subst f5_))
                                  refine hK.out _ _ trivial (fun hHeld => ?_)
                                  clear hK K
                                  refine norm_ (a' := ?_) ?_ ?_
                                  rotate_left
                                  · show Act.put _ (some 107) _ = _
                                    simp only [Act.put, List.setIfInBounds_toArray, List.set_cons_zero, List.set_cons_succ, i64_w, i32_w]
                                    rfl
                                  refine one_ (i := 8) (N := some 111) #[true, true, true, true, true, true, true, true, true, false, false, false, false, false, false, false] rfl rfl (one_of HT_.out (by kernel_rfl)) (by decide) (fun K hK => ?_)
                                  refine goes_ Tryd.func17 (by kernel_rfl) rfl #[.slice Ao72 t332.length co72, .slice (some ad311) y335.length co13] (by rfl) rfl rfl (by (try simp only [List.map_toArray, List.map_cons, List.map_nil]); first | done | rfl | (simp only [List.length_drop, List.length_take]; rfl)) ?_
                                  with_reducible refine (postroomref6_Same.calls k2 _ _ t332 _ _ y335 false _ ?side1 ?side2 ?side3 ?side4 A35.out).mono ?_
                                  (case side1 => repeat (first | exact (Kd.R_reads' HO334.out).2.2 | (with_reducible refine Kd.C_alloc ?_ _) | (with_reducible refine Kd.C_drewN ?_ _) | (with_reducible refine Kd.C_drew ?_)))
                                  (case side2 => exact (Kd.R_reads' HO334.out).2.1)
                                  (case side3 => repeat (first | exact (by repeat (first | (with_reducible exact HR338.out) | (with_reducible refine Kd.C_alloc ?_ _) | (with_reducible refine Kd.C_drewN ?_ _) | (with_reducible refine Kd.C_drew ?_) | exact HR338.out)) | (with_reducible refine Kd.C_alloc ?_ _) | (with_reducible refine Kd.C_drewN ?_ _) | (with_reducible refine Kd.C_drew ?_)))
                                  (case side4 => exact HC338.out)
                                  rintro e w' ⟨rfl, ⟨nd, rfl⟩⟩
                                  refine ⟨_, rfl, ?_⟩
                                  refine hK.out _ _ trivial (fun hHeld => ?_)
                                  clear hK K
                                  refine norm_ (a' := ?_) ?_ ?_
                                  rotate_left
                                  · show Act.put _ (some 111) _ = _
                                    simp only [Act.put, List.setIfInBounds_toArray, List.set_cons_zero, List.set_cons_succ, i64_w, i32_w]
                                    rfl
                                  refine pure_ (i := 9) (N := some 112) (v := ?_) (a' := ?_) #[true, true, true, true, true, true, true, true, true, true, false, false, false, false, false, false] rfl rfl (any_of HT_.out (by kernel_rfl)) (fun _ _ _ h => h) (Or.inl ⟨by rfl, ?_⟩) ?_ ?_
                                  rotate_left
                                  · intro w'
                                    go_simp
                                    with_reducible rfl
                                  rotate_left
                                  · simp only [Act.put, List.setIfInBounds_toArray, List.set_cons_zero, List.set_cons_succ, i64_w, i32_w]
                                    rfl
                                  refine pure_ (i := 10) (N := some 113) (v := ?_) (a' := ?_) #[true, true, true, true, true, true, true, true, true, true, true, false, false, false, false, false] rfl rfl (any_of HT_.out (by kernel_rfl)) (fun _ _ _ h => h) (Or.inl ⟨by rfl, ?_⟩) ?_ ?_
                                  rotate_left
                                  · intro w'
                                    go_simp
                                    with_reducible rfl
                                  rotate_left
                                  · simp only [Act.put, List.setIfInBounds_toArray, List.set_cons_zero, List.set_cons_succ, i64_w, i32_w]
                                    rfl
                                  refine pure_ (i := 11) (N := some 114) (v := undef) (a' := ?_) #[true, true, true, true, true, true, true, true, true, true, true, true, false, false, false, false] rfl rfl (any_of HT_.out (by kernel_rfl)) (fun _ _ _ h => h) (Or.inr ⟨by rfl, rfl⟩) ?_ ?_
                                  rotate_left
                                  · simp only [Act.put, List.setIfInBounds_toArray, List.set_cons_zero, List.set_cons_succ, i64_w, i32_w]
                                    rfl
                                  refine pure_ (i := 12) (N := some 115) (v := undef) (a' := ?_) #[true, true, true, true, true, true, true, true, true, true, true, true, true, false, false, false] rfl rfl (any_of HT_.out (by kernel_rfl)) (fun _ _ _ h => h) (Or.inr ⟨by rfl, rfl⟩) ?_ ?_
                                  rotate_left
                                  · simp only [Act.put, List.setIfInBounds_toArray, List.set_cons_zero, List.set_cons_succ, i64_w, i32_w]
                                    rfl
                                  refine pure_ (i := 13) (N := some 116) (v := undef) (a' := ?_) #[true, true, true, true, true, true, true, true, true, true, true, true, true, true, false, false] rfl rfl (any_of HT_.out (by kernel_rfl)) (fun _ _ _ h => h) (Or.inr ⟨by rfl, rfl⟩) ?_ ?_
                                  rotate_left
                                  · simp only [Act.put, List.setIfInBounds_toArray, List.set_cons_zero, List.set_cons_succ, i64_w, i32_w]
                                    rfl
                                  refine pure_ (i := 14) (N := some 117) (v := ?_) (a' := ?_) #[true, true, true, true, true, true, true, true, true, true, true, true, true, true, true, false] rfl rfl (any_of HT_.out (by kernel_rfl)) (fun _ _ _ h => h) (Or.inl ⟨by rfl, ?_⟩) ?_ ?_
                                  rotate_left
                                  · intro w'
                                    go_simp
                                    with_reducible rfl
                                  rotate_left
                                  · simp only [Act.put, List.setIfInBounds_toArray, List.set_cons_zero, List.set_cons_succ, i64_w, i32_w]
                                    rfl
                                  refine pure_ (i := 15) (N := some 8) (v := ?_) (a' := ?_) #[true, true, true, true, true, true, true, true, true, true, true, true, true, true, true, true] rfl rfl (any_of HT_.out (by kernel_rfl)) (fun _ _ _ h => h) (Or.inl ⟨by rfl, ?_⟩) ?_ ?_
                                  rotate_left
                                  · intro w'
                                    go_simp
                                    with_reducible rfl
                                  rotate_left
                                  · simp only [Act.put, List.setIfInBounds_toArray, List.set_cons_zero, List.set_cons_succ, i64_w, i32_w]
                                    rfl
                                  refine done_ (done_of HT_.out (by kernel_rfl)) ?_
                                  try go_wp2
                                  go_ret
                                  exact ⟨by first | rfl | (simp [errW_none, errW_some] <;> rfl) | (simp only [← hji20, ← hji23, ← hji25]; first | rfl | (simp [errW_none, errW_some] <;> rfl)) | (simp [*, errW_none, errW_some] <;> rfl), by repeat (first | (with_reducible first | exact HB.out | apply below_alloc | apply pw_below_drewN | apply below_drew1 | refine below_set ?_ GE331.out) | exact HB.out)⟩
                              · rw [if_neg c34] at H
                                exact absurd H (by simp)
                            · rw [if_neg c31] at H
                              have c31b0 : (t330 == 2) = false := beq_eq_false_iff_ne.mpr c31
                              have c31b1 : (t330 != 2) = true := bne_iff_ne.mpr c31
                              obtain rfl := Option.some.inj H
                              have p311 : 0 ≤ (t309 : Int) := of_decide_eq_true (by first | (with_reducible assumption) | assumption)
                              have q311 : t309 < (t305.length : Int) := of_decide_eq_true (by first | (with_reducible assumption) | assumption)
                              obtain ⟨ad311, e311, hx311_0, hx311_1, hx311_2⟩ := at_T43 (Kd.R_reads' HO_10.out).2.2 t309 p311 q311
                              cases e311
                              replace p311 := eq_true p311
                              replace q311 := eq_true q311
                              have p312 : 0 ≤ (t309 : Int) := of_decide_eq_true (by first | (with_reducible assumption) | assumption)
                              have q312 : t309 < (t305.length : Int) := of_decide_eq_true (by first | (with_reducible assumption) | assumption)
                              obtain ⟨ad312, e312, hx312_0, hx312_1, hx312_2⟩ := at_T43 (Kd.R_reads' HO_10.out).2.2 t309 p312 q312
                              obtain rfl : ad311 = ad312 := (by injection e312)
                              replace p312 := eq_true p312
                              replace q312 := eq_true q312
                              try go_wp2_with (first | ((with_reducible refine gate_dst (N := 69) rfl ?_); (try (refine gate_guard (by rfl) ?_; dsimp only)); refine Bt.R_conv ?hg (N := 69) ?hd (s := t306) HSZ.out ?hr (Below.refl _ _) (Nat.le_refl _) ?_; (case hd => rfl); (case hg => rfl); (case hr => exact Bt.conv_run rfl rfl); intro v314 w73 ho74 hb hg_ hnew_; clear hg_ hnew_; rw [← Ny313.out] at ho74; have n0_ := Aside0.mk (Kd.R_below (by (with_reducible repeat (first | apply Kd.R_alloc | apply Kd.R_drewN | apply Kd.R_drew)); exact HO_10.out) hb); have n1_ := Aside0.mk (Bt.R_lower ho74 (below_size (by repeat (first | (with_reducible first | exact HB.out | apply below_alloc | apply pw_below_drewN | apply below_drew1) | exact HB.out)))); have n2_ := Aside0.mk (below_step (by repeat (first | (with_reducible first | exact HB.out | apply below_alloc | apply pw_below_drewN | apply below_drew1) | exact HB.out)) hb); clear HO_10; clear HB; have HO_10 := n0_; have HO315 := n1_; have HB := n2_; clear n0_ n1_ n2_; clear hb ho74) | ((with_reducible refine gate_callee (f := 14) rfl ?_); refine goesL_ (some 73) rfl rfl Tryd.func14 (by kernel_rfl) rfl #[.int .i64 a3, .int .i64 (wrap64 (8 * (wrap64 ((((rd_T43 t305 t309).f1).size : Int) + 4))))] rfl (by (try simp only [List.map_toArray, List.map_cons, List.map_nil]); first | done | rfl | (simp only [List.length_drop, List.length_take]; rfl)) ?_; (with_reducible refine (postroomlaw6_pick.calls a3 (wrap64 (8 * (wrap64 ((((rd_T43 t305 t309).f1).size : Int) + 4)))) t316 _ A19.out).mono ?_); rintro e w' ⟨rfl, ⟨nd, rfl⟩⟩; refine ⟨_, rfl, ?_⟩; (try (rw [drewN_self w73]; generalize hq_ : World.drewN w73 _ = w73; have n0_ : Aside0 (Bt.R w73 w.heap.size (fun _ => True) v314 y313) := ⟨by rw [← hq_]; exact (by (with_reducible repeat (first | apply Bt.R_alloc | apply Bt.R_drewN | apply Bt.R_drew)); exact HO315.out)⟩; have n1_ : Aside0 (Kd.R k43 43 w73 w.heap.size (fun _ => True) (.slice (some ad311) t305.length co13) t305) := ⟨by rw [← hq_]; exact (by (with_reducible repeat (first | apply Kd.R_alloc | apply Kd.R_drewN | apply Kd.R_drew)); exact HO_10.out)⟩; have n2_ : Aside0 (Below w.heap.size w w73) := ⟨by rw [← hq_]; exact (by repeat (first | (with_reducible first | exact HB.out | apply below_alloc | apply pw_below_drewN | apply below_drew1) | exact HB.out))⟩; clear HO315 HO_10 HB hq_; have HO315 := n0_; have HO_10 := n1_; have HB := n2_; clear n0_ n1_ n2_)); obtain ⟨Ao75, co75, eo75⟩ := Bt.R_slice HO315.out; subst eo75; have p317 : 0 ≤ ((ji20) : Int) := of_decide_eq_true (by first | (with_reducible assumption) | assumption); have q317 : (ji20) < (y313.length : Int) := of_decide_eq_true (by first | (with_reducible assumption) | assumption); obtain ⟨ad317, e317, hx317_0⟩ := Kd.at_int (Bt.R_reads' HO315.out).2.2 (ji20) p317 q317; cases e317; replace p317 := eq_true p317; replace q317 := eq_true q317; have p26 : 0 ≤ ((ji20) : Int) := of_decide_eq_true (by first | (with_reducible assumption) | assumption); have q26 : ((ji20) : Int) < ((y313.length : Int) : Int) := of_decide_eq_true (by first | (with_reducible assumption) | assumption); obtain ⟨go26, co26, eo26, gb26, gl26, cl26, HG26⟩ := Bt.R_form HO315.out (by omega); (first | cases eo26 | (injection eo26 with ea_ en_ ec_; (first | subst ea_ | (injection ea_ with ea_; subst ea_)); subst ec_; clear en_)); have GB26 := Aside0.mk gb26; have GG26 := Aside0.mk HG26; clear gb26 gl26 HG26; (first | simp only [add_plain] at hx317_0 | skip); obtain ⟨hx26_0, hf26_0⟩ := Bt.R_celln 0 HO315.out ((ji20) : Int) p26 q26; replace p26 := eq_true p26; replace q26 := eq_true q26; obtain ⟨hy76_, hz76_⟩ := Bt.R_celln 0 HO315.out ((ji20) : Int) (of_decide_eq_true (by first | (with_reducible assumption) | assumption)) (of_decide_eq_true (by first | (with_reducible assumption) | assumption)); have HP76 := Bt.R_putg HO315.out ((ji20) : Int) (Go.bits .xor .u8 (rd y313 (ji20)) (ji25))) | ((with_reducible refine gate_store (t := 5) (p := 88) rfl ?_); refine store_event (t := 5) (p := 88) (v := ?vo_w77) (w1 := (w73.setCell ⟨go26, ((ji20) : Int).toNat, none⟩ (.int .u8 (Go.bits .xor .u8 (rd y313 (ji20)) (ji25))))) ?hg ?ho ?hn ?hr ?_; (case ho => rfl); (case hg => rfl); (case hn => rfl); (case hr => first | (go_simp; done) | (go_simp; rfl)); intro w77 hw; have hg : w73.grownBy w77 (some go26) := (by rw [hw]; exact HP76.2); have hp_ : Bt.R w77 w.heap.size (fun _ => True) (.slice (some ⟨go26, 0, none⟩) y313.length co75) y318 := (by rw [hw, Ny318.out]; exact HP76.1); clear HP76; have n0_ := Aside0.mk (Bt.over (by (with_reducible repeat (first | apply Kd.R_alloc | apply Kd.R_drewN | apply Kd.R_drew)); exact HO_10.out) HO315.out hg); have n1_ := Aside0.mk (hp_); have n2_ := Aside0.mk ((by rw [hw]; exact below_set (HB.out) GB26.out : Below w.heap.size w w77)); clear HO_10; clear HO315; clear HB; have HO_10 := n0_; have HO315 := n1_; have HB := n2_; clear n0_ n1_ n2_; clear hg hw hp_; have hcv78 := Bt.conv Tryd.underlying34 Tryd.underlying5 Tryd.underlying9 HO315.out) | ((with_reducible refine gate_callee (f := 16) rfl ?_); refine goesL_ (some 92) rfl rfl Tryd.func16 (by kernel_rfl) rfl #[.string (strOfNums y318)] rfl (by (try simp only [List.map_toArray, List.map_cons, List.map_nil]); first | done | rfl | (simp only [List.length_drop, List.length_take]; rfl)) ?_; (with_reducible refine (frame_Scan.calls k2 (strOfNums y318) t319 t320 _ ?side1 A27.out).mono ?_); (case side1 => exact Tabs.below HT.out (by repeat (first | (with_reducible first | exact HB.out | apply below_alloc | apply pw_below_drewN | apply below_drew1) | exact HB.out))); rintro e w79 ⟨v321, rfl, ho0, hb⟩; refine ⟨_, rfl, ?_⟩; have n0_ := Aside0.mk (Kd.R_below (by (with_reducible repeat (first | apply Kd.R_alloc | apply Kd.R_drewN | apply Kd.R_drew)); exact HO_10.out) hb); have n1_ := Aside0.mk (Bt.R_below (by (with_reducible repeat (first | apply Bt.R_alloc | apply Bt.R_drewN | apply Bt.R_drew)); exact HO315.out) hb); have n2_ := Aside0.mk (Kd.R_lower ho0 (below_size (by repeat (first | (with_reducible first | exact HB.out | apply below_alloc | apply pw_below_drewN | apply below_drew1) | exact HB.out)))); have n3_ := Aside0.mk (below_step (by repeat (first | (with_reducible first | exact HB.out | apply below_alloc | apply pw_below_drewN | apply below_drew1) | exact HB.out)) hb); clear HO_10; clear HO315; clear HB; have HO_10 := n0_; have HO315 := n1_; have HO322 := n2_; have HB := n3_; clear n0_ n1_ n2_ n3_; (try clear hb); (try clear hb2); (try clear hk); (try clear hi); (try clear ho0); have hlx80 := (Bt.R_reads' HO315.out).1; have q80 : (x13_2 : Int) ≤ ((y313.length : Int) : Int) := of_decide_eq_true (by first | (with_reducible assumption) | assumption); obtain ⟨i080, hi080, _, hsz80, _⟩ := info_parts info5; have hroom80 : y313.length ≤ co75 := (Bt.R_reads' HO315.out).2.1; have hroomc80 : y318.length ≤ co75 := (by rw [← hlx80]; exact hroom80); have hC80 : Kd.C (Kd.int .u8) _ (some ⟨go26, 0, none⟩) y318.length y318 := (Bt.R_reads' HO315.out).2.2; have q080 : (0 : Int) ≤ (x13_2 : Int) := of_decide_eq_true (by first | (with_reducible assumption) | assumption); have hcut80 := cut_from (P := Tryd.prog) 34 5 .i64 Tryd.underlying34 hi080 1 hsz80 (some ⟨go26, 0, none⟩) y313.length co75 x13_2 q080 q80; have hr80 := Kd.C_drop (m := (x13_2 : Int).toNat) (c := co75) hC80 (by omega) hroomc80; obtain ⟨A80, hA80⟩ : ∃ A1, A1 = (if co75 = (x13_2 : Int).toNat then (some ⟨go26, 0, none⟩) else ((some ⟨go26, 0, none⟩) : Option Addr).map (·.add ((x13_2 : Int).toNat * 1))) := ⟨_, rfl⟩; obtain ⟨c80, hc80⟩ : ∃ c1, c1 = co75 - (x13_2 : Int).toNat := ⟨_, rfl⟩; have hy80 : y323.length = y313.length - (x13_2 : Int).toNat := (by rw [Ny323.out, List.length_drop] <;> omega); rw [show (y318).drop (x13_2 : Int).toNat = y323 from Ny323.out.symm] at hr80; replace hr80 : Kd.C (Kd.int .u8) _ A80 y323.length y323 := (by rw [hA80]; exact hr80); rw [← hy80, ← hA80, ← hc80] at hcut80; have HR326 := Aside0.mk hr80; have HC326 := Aside0.mk (show y323.length ≤ c80 from by rw [hy80, hc80]; exact Nat.sub_le_sub_right hroom80 _); clear hr80 hC80 hroom80 hi080 hsz80 hc80 hroomc80; have KY80 := Aside0.mk hy80; have KA80 := Aside0.mk hA80; clear hy80 hA80; have KE80 := Aside0.mk hlx80; have KL80 := Aside0.mk (show (x13_2 : Int).toNat ≤ y318.length from by omega); clear hlx80; replace q80 := eq_true q80; have hcv81 := Kd.C_string (P := Tryd.prog) (A := A80) (c := c80) Tryd.underlying34 Tryd.underlying5 Tryd.underlying9 (by repeat (first | (with_reducible exact HR326.out) | (with_reducible refine Kd.C_alloc ?_ _) | (with_reducible refine Kd.C_drewN ?_ _) | (with_reducible refine Kd.C_drew ?_) | exact HR326.out))) | ((with_reducible refine gate_callee (f := 12) rfl ?_); refine goesL_ (some 100) rfl rfl Tryd.func12 (by kernel_rfl) rfl #[.string (strOfNums y323)] rfl (by (try simp only [List.map_toArray, List.map_cons, List.map_nil]); first | done | rfl | (simp only [List.length_drop, List.length_take]; rfl)) ?_; (with_reducible refine (frame_First.calls k2 (strOfNums y323) t327 t328 t329 t330 _ ?side1 A30.out).mono ?_); (case side1 => exact Tabs.below HT.out (by repeat (first | (with_reducible first | exact HB.out | apply below_alloc | apply pw_below_drewN | apply below_drew1) | exact HB.out))); rintro e w82 ⟨rfl, hb⟩; refine ⟨_, rfl, ?_⟩; have n0_ := Aside0.mk (Kd.R_below (by (with_reducible repeat (first | apply Kd.R_alloc | apply Kd.R_drewN | apply Kd.R_drew)); exact HO_10.out) hb); have n1_ := Aside0.mk (Bt.R_below (by (with_reducible repeat (first | apply Bt.R_alloc | apply Bt.R_drewN | apply Bt.R_drew)); exact HO315.out) hb); have n2_ := Aside0.mk (Kd.R_below (by (with_reducible repeat (first | apply Kd.R_alloc | apply Kd.R_drewN | apply Kd.R_drew)); exact HO322.out) hb); have n3_ := Aside0.mk (Kd.C_below (by repeat (first | (with_reducible exact HR326.out) | (with_reducible refine Kd.C_alloc ?_ _) | (with_reducible refine Kd.C_drewN ?_ _) | (with_reducible refine Kd.C_drew ?_) | exact HR326.out)) hb); have n4_ := Aside0.mk (below_step (by repeat (first | (with_reducible first | exact HB.out | apply below_alloc | apply pw_below_drewN | apply below_drew1) | exact HB.out)) hb); clear HO_10; clear HO315; clear HO322; clear HR326; clear HB; have HO_10 := n0_; have HO315 := n1_; have HO322 := n2_; have HR326 := n3_; have HB := n4_; clear n0_ n1_ n2_ n3_ n4_; (try clear hb); (try clear hb2); (try clear hk); (try clear hi)) | ((with_reducible refine gate_dst (N := 21) rfl ?_); (try (refine gate_guard (by rfl) ?_; dsimp only)); refine box_event ?hg (N := 21) ?hd (cs := #[.int .u64 0, .string (⟨#[]⟩ : ByteArray), .int .i64 0]) (t := 28) ?hr ?_; (case hd => rfl); (case hg => rfl); (case hr => first | (go_simp; done) | (go_simp; rfl)); intro gb331 hg w83 hbox hb; have n0_ := Aside0.mk (Kd.R_below (by (with_reducible repeat (first | apply Kd.R_alloc | apply Kd.R_drewN | apply Kd.R_drew)); exact HO_10.out) hb); have n1_ := Aside0.mk (Bt.R_below (by (with_reducible repeat (first | apply Bt.R_alloc | apply Bt.R_drewN | apply Bt.R_drew)); exact HO315.out) hb); have n2_ := Aside0.mk (Kd.R_below (Kd.R_elderB (by (with_reducible repeat (first | apply Kd.R_alloc | apply Kd.R_drewN | apply Kd.R_drew)); exact HO322.out) gb331 (Nat.le_of_eq hg.symm)) hb); have n3_ := Aside0.mk (Kd.C_below (by repeat (first | (with_reducible exact HR326.out) | (with_reducible refine Kd.C_alloc ?_ _) | (with_reducible refine Kd.C_drewN ?_ _) | (with_reducible refine Kd.C_drew ?_) | exact HR326.out)) hb); have n4_ := Aside0.mk (below_step (by repeat (first | (with_reducible first | exact HB.out | apply below_alloc | apply pw_below_drewN | apply below_drew1) | exact HB.out)) hb); have n5_ := Aside0.mk (hbox); have n6_ := Aside0.mk ((by rw [hg]; exact (below_size (by repeat (first | (with_reducible first | exact HB.out | apply below_alloc | apply pw_below_drewN | apply below_drew1) | exact HB.out))) : w.heap.size ≤ gb331)); have n7_ := Aside0.mk ((by rw [hg]; exact (below_size (by repeat (first | (with_reducible first | exact HB.out | apply below_alloc | apply pw_below_drewN | apply below_drew1) | exact HB.out))) : w.heap.size ≤ gb331)); clear HO_10; clear HO315; clear HO322; clear HR326; clear HB; have HO_10 := n0_; have HO315 := n1_; have HO322 := n2_; have HR326 := n3_; have HB := n4_; have BK331 := n5_; have GW331 := n6_; have GE331 := n7_; clear n0_ n1_ n2_ n3_ n4_ n5_ n6_ n7_; clear hb hbox hg; have hcz84_0 : w83.cell? ⟨gb331, 0, none⟩ = some (.int .u64 0) := (blk_cell BK331.out 0).trans rfl; have hcz84_1 : w83.cell? ⟨gb331, 1, none⟩ = some (.string (⟨#[]⟩ : ByteArray)) := (blk_cell BK331.out 1).trans rfl; have hcz84_2 : w83.cell? ⟨gb331, 2, none⟩ = some (.int .i64 0) := (blk_cell BK331.out 2).trans rfl; have hfz84_0 := blk_frozen BK331.out 0; have hfz84_1 := blk_frozen BK331.out 1; have hfz84_2 := blk_frozen BK331.out 2))
                              have n0_ : Aside0 (Kd.R k43 43 (((w83.setCell ⟨gb331, 0, none⟩ (.int .u64 t327)).setCell ⟨gb331, 1, none⟩ (.string t328)).setCell ⟨gb331, 2, none⟩ (.int .i64 t329)) w.heap.size (fun _ => True) (.slice (some ad311) t305.length co13) t305) := ⟨by (with_reducible repeat (first | apply Kd.R_alloc | apply Kd.R_drewN | apply Kd.R_drew)); exact Kd.R_mono (Kd.R_far (p := ⟨gb331, 2, none⟩) (Kd.R_far (p := ⟨gb331, 1, none⟩) (Kd.R_far (p := ⟨gb331, 0, none⟩) (Kd.R_types HO_10.out BK331.out (by decide)) (fun _ hk => hk.2) (.int .u64 t327)) (fun _ hk => hk.2) (.string t328)) (fun _ hk => hk.2) (.int .i64 t329)) (fun _ hk => trivial)⟩
                              have n1_ : Aside0 (Bt.R (((w83.setCell ⟨gb331, 0, none⟩ (.int .u64 t327)).setCell ⟨gb331, 1, none⟩ (.string t328)).setCell ⟨gb331, 2, none⟩ (.int .i64 t329)) w.heap.size (fun _ => True) (.slice (some ⟨go26, 0, none⟩) y313.length co75) y318) := ⟨by (with_reducible repeat (first | apply Bt.R_alloc | apply Bt.R_drewN | apply Bt.R_drew)); exact Bt.R_mono (Bt.R_far (p := ⟨gb331, 2, none⟩) (Bt.R_far (p := ⟨gb331, 1, none⟩) (Bt.R_far (p := ⟨gb331, 0, none⟩) (Bt.R_types HO315.out BK331.out (by decide)) (fun _ hk => hk.2) (.int .u64 t327)) (fun _ hk => hk.2) (.string t328)) (fun _ hk => hk.2) (.int .i64 t329)) (fun _ hk => trivial)⟩
                              have n2_ : Aside0 (Kd.R k28 28 (((w83.setCell ⟨gb331, 0, none⟩ (.int .u64 t327)).setCell ⟨gb331, 1, none⟩ (.string t328)).setCell ⟨gb331, 2, none⟩ (.int .i64 t329)) w.heap.size (fun k_ => k_ ≠ gb331) v321 t319) := ⟨by (with_reducible repeat (first | apply Kd.R_alloc | apply Kd.R_drewN | apply Kd.R_drew)); exact Kd.R_mono (Kd.R_far (p := ⟨gb331, 2, none⟩) (Kd.R_far (p := ⟨gb331, 1, none⟩) (Kd.R_far (p := ⟨gb331, 0, none⟩) (Kd.R_mono HO322.out (fun k_ hk => (⟨hk, hk.2⟩ : _ ∧ k_ ≠ gb331))) (fun _ hk => hk.2) (.int .u64 t327)) (fun _ hk => hk.2) (.string t328)) (fun _ hk => hk.2) (.int .i64 t329)) (fun _ hk => hk.1.2)⟩
                              have n3_ : Aside0 ((((w83.setCell ⟨gb331, 0, none⟩ (.int .u64 t327)).setCell ⟨gb331, 1, none⟩ (.string t328)).setCell ⟨gb331, 2, none⟩ (.int .i64 t329)).heap[gb331]? = some (.cells #[.int .u64 t327, .string t328, .int .i64 t329] 28 (0, 0))) := ⟨by (with_reducible repeat (first | refine blk_drewN ?_ _ | refine blk_drew ?_ | refine blk_alloc ?_ _)); refine blk_put (cs := #[.int .u64 t327, .string t328, .int .i64 0]) ?_ 2 _ rfl; (with_reducible repeat (first | refine blk_drewN ?_ _ | refine blk_drew ?_ | refine blk_alloc ?_ _)); refine blk_put (cs := #[.int .u64 t327, .string (⟨#[]⟩ : ByteArray), .int .i64 0]) ?_ 1 _ rfl; (with_reducible repeat (first | refine blk_drewN ?_ _ | refine blk_drew ?_ | refine blk_alloc ?_ _)); refine blk_put (cs := #[.int .u64 0, .string (⟨#[]⟩ : ByteArray), .int .i64 0]) ?_ 0 _ rfl; (with_reducible repeat (first | refine blk_drewN ?_ _ | refine blk_drew ?_ | refine blk_alloc ?_ _)); exact BK331.out⟩
                              have n4_ : Aside0 (Below w.heap.size w (((w83.setCell ⟨gb331, 0, none⟩ (.int .u64 t327)).setCell ⟨gb331, 1, none⟩ (.string t328)).setCell ⟨gb331, 2, none⟩ (.int .i64 t329))) := ⟨by repeat (first | (with_reducible first | exact HB.out | apply below_alloc | apply pw_below_drewN | apply below_drew1 | refine below_set ?_ GE331.out) | exact HB.out)⟩
                              (try clear HO_10)
                              (try clear HO315)
                              (try clear HO322)
                              (try clear BK331)
                              (try clear HB)
                              generalize (((w83.setCell ⟨gb331, 0, none⟩ (.int .u64 t327)).setCell ⟨gb331, 1, none⟩ (.string t328)).setCell ⟨gb331, 2, none⟩ (.int .i64 t329)) = w85 at n0_ n1_ n2_ n3_ n4_ ⊢
                              have HO_10 := n0_
                              have HO315 := n1_
                              have HO322 := n2_
                              have BK331 := n3_
                              have HB := n4_
                              clear n0_ n1_ n2_ n3_ n4_
                              have n0_ := Aside0.mk (Kd.R_drew HO_10.out)
                              have n1_ := Aside0.mk (Bt.R_drew HO315.out)
                              have n2_ := Aside0.mk (Kd.R_drew HO322.out)
                              have n3_ := Aside0.mk (blk_drew BK331.out)
                              have n4_ := Aside0.mk (below_drew1 HB.out)
                              clear HO_10
                              clear HO315
                              clear HO322
                              clear BK331
                              clear HB
                              have HO_10 := n0_
                              have HO315 := n1_
                              have HO322 := n2_
                              have BK331 := n3_
                              have HB := n4_
                              clear n0_ n1_ n2_ n3_ n4_
                              refine start_ (n := 16) (S := fun w' => True) (ds := []) #[false, false, false, false, false, false, false, false, false, false, false, false, false, false, false, false] (by kernel_rfl) rfl rfl trivial (fun hHeld => ?_); refine with_tabW postroomlaw6_FrameSpoils.tab18 postroomlaw6_FrameSpoils.bits18 (fun HT_ HW_ => ?_)
                              generalize w85.drew = w86 at HO_10 HO315 HO322 BK331 HB hHeld ⊢
                              refine pure_ (i := 0) (N := some 103) (v := ?_) (a' := ?_) #[true, false, false, false, false, false, false, false, false, false, false, false, false, false, false, false] rfl rfl (any_of HT_.out (by kernel_rfl)) (fun _ _ _ h => h) (Or.inl ⟨by rfl, ?_⟩) ?_ ?_
                              rotate_left
                              · intro w'
                                go_simp
                                with_reducible rfl
                              rotate_left
                              · simp only [Act.put, List.setIfInBounds_toArray, List.set_cons_zero, List.set_cons_succ, i64_w, i32_w]
                                rfl
                              refine pure_ (i := 1) (N := some 104) (v := ?_) (a' := ?_) #[true, true, false, false, false, false, false, false, false, false, false, false, false, false, false, false] rfl rfl (any_of HT_.out (by kernel_rfl)) (fun _ _ _ h => h) (Or.inl ⟨by rfl, ?_⟩) ?_ ?_
                              rotate_left
                              · intro w'
                                go_simp
                                with_reducible rfl
                              rotate_left
                              · simp only [Act.put, List.setIfInBounds_toArray, List.set_cons_zero, List.set_cons_succ, i64_w, i32_w]
                                rfl
                              refine pure_ (i := 2) (N := some 105) (v := ?_) (a' := ?_) #[true, true, true, false, false, false, false, false, false, false, false, false, false, false, false, false] rfl rfl (any_of HT_.out (by kernel_rfl)) (fun _ _ _ h => h) (Or.inl ⟨by rfl, ?_⟩) ?_ ?_
                              rotate_left
                              · intro w'
                                go_simp
                                with_reducible rfl
                              rotate_left
                              · simp only [Act.put, List.setIfInBounds_toArray, List.set_cons_zero, List.set_cons_succ, i64_w, i32_w]
                                rfl
                              refine pure_ (i := 3) (N := some 106) (v := undef) (a' := ?_) #[true, true, true, true, false, false, false, false, false, false, false, false, false, false, false, false] rfl rfl (any_of HT_.out (by kernel_rfl)) (fun _ _ _ h => h) (Or.inr ⟨by rfl, rfl⟩) ?_ ?_
                              rotate_left
                              · simp only [Act.put, List.setIfInBounds_toArray, List.set_cons_zero, List.set_cons_succ, i64_w, i32_w]
                                rfl
                              refine pure_ (i := 4) (N := some 107) (v := undef) (a' := ?_) #[true, true, true, true, true, false, false, false, false, false, false, false, false, false, false, false] rfl rfl (any_of HT_.out (by kernel_rfl)) (fun _ _ _ h => h) (Or.inr ⟨by rfl, rfl⟩) ?_ ?_
                              rotate_left
                              · simp only [Act.put, List.setIfInBounds_toArray, List.set_cons_zero, List.set_cons_succ, i64_w, i32_w]
                                rfl
                              refine pure_ (i := 5) (N := some 108) (v := undef) (a' := ?_) #[true, true, true, true, true, true, false, false, false, false, false, false, false, false, false, false] rfl rfl (any_of HT_.out (by kernel_rfl)) (fun _ _ _ h => h) (Or.inr ⟨by rfl, rfl⟩) ?_ ?_
                              rotate_left
                              · simp only [Act.put, List.setIfInBounds_toArray, List.set_cons_zero, List.set_cons_succ, i64_w, i32_w]
                                rfl
                              refine pure_ (i := 6) (N := some 109) (v := undef) (a' := ?_) #[true, true, true, true, true, true, true, false, false, false, false, false, false, false, false, false] rfl rfl (any_of HT_.out (by kernel_rfl)) (fun _ _ _ h => h) (Or.inr ⟨by rfl, rfl⟩) ?_ ?_
                              rotate_left
                              · simp only [Act.put, List.setIfInBounds_toArray, List.set_cons_zero, List.set_cons_succ, i64_w, i32_w]
                                rfl
                              refine pure_ (i := 7) (N := some 110) (v := undef) (a' := ?_) #[true, true, true, true, true, true, true, true, false, false, false, false, false, false, false, false] rfl rfl (any_of HT_.out (by kernel_rfl)) (fun _ _ _ h => h) (Or.inr ⟨by rfl, rfl⟩) ?_ ?_
                              rotate_left
                              · simp only [Act.put, List.setIfInBounds_toArray, List.set_cons_zero, List.set_cons_succ, i64_w, i32_w]
                                rfl
                              refine pure_ (i := 8) (N := some 111) (v := undef) (a' := ?_) #[true, true, true, true, true, true, true, true, true, false, false, false, false, false, false, false] rfl rfl (any_of HT_.out (by kernel_rfl)) (fun _ _ _ h => h) (Or.inr ⟨by rfl, rfl⟩) ?_ ?_
                              rotate_left
                              · simp only [Act.put, List.setIfInBounds_toArray, List.set_cons_zero, List.set_cons_succ, i64_w, i32_w]
                                rfl
                              refine pure_ (i := 9) (N := some 112) (v := ?_) (a' := ?_) #[true, true, true, true, true, true, true, true, true, true, false, false, false, false, false, false] rfl rfl (any_of HT_.out (by kernel_rfl)) (fun _ _ _ h => h) (Or.inl ⟨by rfl, ?_⟩) ?_ ?_
                              rotate_left
                              · intro w'
                                go_simp
                                with_reducible rfl
                              rotate_left
                              · simp only [Act.put, List.setIfInBounds_toArray, List.set_cons_zero, List.set_cons_succ, i64_w, i32_w]
                                rfl
                              refine pure_ (i := 10) (N := some 113) (v := ?_) (a' := ?_) #[true, true, true, true, true, true, true, true, true, true, true, false, false, false, false, false] rfl rfl (any_of HT_.out (by kernel_rfl)) (fun _ _ _ h => h) (Or.inl ⟨by rfl, ?_⟩) ?_ ?_
                              rotate_left
                              · intro w'
                                go_simp
                                with_reducible rfl
                              rotate_left
                              · simp only [Act.put, List.setIfInBounds_toArray, List.set_cons_zero, List.set_cons_succ, i64_w, i32_w]
                                rfl
                              refine pure_ (i := 11) (N := some 114) (v := undef) (a' := ?_) #[true, true, true, true, true, true, true, true, true, true, true, true, false, false, false, false] rfl rfl (any_of HT_.out (by kernel_rfl)) (fun _ _ _ h => h) (Or.inr ⟨by rfl, rfl⟩) ?_ ?_
                              rotate_left
                              · simp only [Act.put, List.setIfInBounds_toArray, List.set_cons_zero, List.set_cons_succ, i64_w, i32_w]
                                rfl
                              refine pure_ (i := 12) (N := some 115) (v := undef) (a' := ?_) #[true, true, true, true, true, true, true, true, true, true, true, true, true, false, false, false] rfl rfl (any_of HT_.out (by kernel_rfl)) (fun _ _ _ h => h) (Or.inr ⟨by rfl, rfl⟩) ?_ ?_
                              rotate_left
                              · simp only [Act.put, List.setIfInBounds_toArray, List.set_cons_zero, List.set_cons_succ, i64_w, i32_w]
                                rfl
                              refine pure_ (i := 13) (N := some 116) (v := undef) (a' := ?_) #[true, true, true, true, true, true, true, true, true, true, true, true, true, true, false, false] rfl rfl (any_of HT_.out (by kernel_rfl)) (fun _ _ _ h => h) (Or.inr ⟨by rfl, rfl⟩) ?_ ?_
                              rotate_left
                              · simp only [Act.put, List.setIfInBounds_toArray, List.set_cons_zero, List.set_cons_succ, i64_w, i32_w]
                                rfl
                              refine pure_ (i := 14) (N := some 117) (v := ?_) (a' := ?_) #[true, true, true, true, true, true, true, true, true, true, true, true, true, true, true, false] rfl rfl (any_of HT_.out (by kernel_rfl)) (fun _ _ _ h => h) (Or.inl ⟨by rfl, ?_⟩) ?_ ?_
                              rotate_left
                              · intro w'
                                go_simp
                                with_reducible rfl
                              rotate_left
                              · simp only [Act.put, List.setIfInBounds_toArray, List.set_cons_zero, List.set_cons_succ, i64_w, i32_w]
                                rfl
                              refine pure_ (i := 15) (N := some 8) (v := ?_) (a' := ?_) #[true, true, true, true, true, true, true, true, true, true, true, true, true, true, true, true] rfl rfl (any_of HT_.out (by kernel_rfl)) (fun _ _ _ h => h) (Or.inl ⟨by rfl, ?_⟩) ?_ ?_
                              rotate_left
                              · intro w'
                                go_simp
                                with_reducible rfl
                              rotate_left
                              · simp only [Act.put, List.setIfInBounds_toArray, List.set_cons_zero, List.set_cons_succ, i64_w, i32_w]
                                rfl
                              refine done_ (done_of HT_.out (by kernel_rfl)) ?_
                              try go_wp2
                              go_ret
                              exact ⟨by first | rfl | (simp [errW_none, errW_some] <;> rfl) | (simp only [← hji20, ← hji23, ← hji25]; first | rfl | (simp [errW_none, errW_some] <;> rfl)) | (simp [*, errW_none, errW_some] <;> rfl), by repeat (first | (with_reducible first | exact HB.out | apply below_alloc | apply pw_below_drewN | apply below_drew1 | refine below_set ?_ GE331.out) | exact HB.out)⟩
                          · rw [if_neg c29] at H
                            exact absurd H (by simp)
                        · rw [if_neg c28] at H
                          exact absurd H (by simp)
                      · rw [if_neg c24] at H
                        exact absurd H (by simp)
                    · rw [if_neg c22] at H
                      exact absurd H (by simp)
                  · rw [if_neg c21] at H
                    exact absurd H (by simp)
                · rw [if_neg c18] at H
                  exact absurd H (by simp)
              · rw [if_neg c17] at H
                exact absurd H (by simp)

/-- THE ONE PURE STATEMENT of postroomlaw6_FrameSpoils. -/
def postroomlaw6_FrameSpoils.Pure : Prop := ∀ (a0 : Int) (l1 : List ByteArray) (a2 : Int) (a3 : Int), (Lit.int .u64 a0).wf = true → l1.length ≤ maxLen → l1.length * 16 ≤ 140737488351232 → (∀ x ∈ l1, x.size ≤ maxLen) → (Lit.int .i64 a2).wf = true → (Lit.int .i64 a3).wf = true → ∃ k, postroomlaw6_FrameSpoils.f k a0 l1 a2 a3 = some true
theorem postroomlaw6_FrameSpoils.walk (P : postroomlaw6_FrameSpoils.Pure) (a0 : Int) (A1 : Option Addr) (c1 : Nat) (l1 : List ByteArray) (a2 : Int) (a3 : Int) (w : World) (hr1 : Kd.C Kd.string w A1 l1.length l1) (hc1 : l1.length ≤ c1) (hw0 : (Lit.int .u64 a0).wf = true) (hm1 : l1.length ≤ maxLen) (hy1 : l1.length * 16 ≤ 140737488351232) (hw1 : (∀ x ∈ l1, x.size ≤ maxLen)) (hw2 : (Lit.int .i64 a2).wf = true) (hw3 : (Lit.int .i64 a3).wf = true) (hv0 : Tabs w) :
    Calls Tryd.prog 6 #[.int .u64 a0, .slice A1 l1.length c1, .int .i64 a2, .int .i64 a3] w fun e w' => e = .returned (.bool true) ∧ Below w.heap.size w w' := by
  obtain ⟨k, h⟩ := P a0 l1 a2 a3 hw0 hm1 hy1 hw1 hw2 hw3
  refine (postroomlaw6_FrameSpoils.calls k a0 A1 c1 l1 a2 a3 true w hr1 hc1 hv0 h).mono ?_
  rintro e w' ⟨rfl, hd⟩
  exact ⟨rfl, hd⟩

end Go.Proofs.YtbhbbnfkblibfaaDoor.XFrm
