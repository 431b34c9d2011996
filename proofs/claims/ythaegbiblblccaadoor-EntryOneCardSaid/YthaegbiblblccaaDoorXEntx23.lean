/- What the functions of the translation answer, each as a plain Lean function, and that the code comes to it; for a law: its row. Conditions: none but those that each theorem names. Written by a program of this session (wip/xp). -/
import Derived.Test.YthaegbiblblccaaDoorXEntx0
namespace Go.Proofs.YthaegbiblblccaaDoor.XEnt
open Go.RowKit Go.Proofs.YthaegbiblblccaaDoorW.PrintWords Go.Proofs.YthaegbiblblccaaDoorW.PrintLast Go.Proofs.YthaegbiblblccaaDoorW.PrintMore
attribute [local go_sem] max2_int min2_int max_two min_two max_three min_three max_four min_four   -- for this text's walks alone
set_option linter.unusedVariables false
set_option linter.unusedSimpArgs false

/-! ### num_Take: function 35 -/
mutual
def num_Take.l0 : Nat → ByteArray → Int → Int → Int → Int → Option (Int × ByteArray × Int)
  | 0, _, _, _, _, _ => none
  | k + 1, x0, x5, x6, x10, x11 => if x11 < x10 then (if 0 ≤ x11 then (if x11 < (x0.size : Int) then (if x11 = 9 then (num_Take.j1 k x0 x5 x6 x11 (IntKind.u64.wrap (bt x0 x11)) x10 x11 (decide ((IntKind.u64.wrap (bt x0 x11)) > 1))) else (num_Take.j1 k x0 x5 x6 x11 (IntKind.u64.wrap (bt x0 x11)) x10 x11 false)) else (none)) else (none)) else (if x6 < 0 then (some (0, (⟨#[]⟩ : ByteArray), 2)) else (if 0 ≤ x6 then (if x6 ≤ (x0.size : Int) then (some (x5, x0.extract (x6 : Int).toNat x0.size, 0)) else (none)) else (none)))
def num_Take.j1 : Nat → ByteArray → Int → Int → Int → Int → Int → Int → Bool → Option (Int × ByteArray × Int)
  | 0, _, _, _, _, _, _, _, _ => none
  | k + 1, x0, x5, x6, x7, x8, x10, x11, x18 => if x18 = true then (num_Take.j2 k x0 x5 x6 x7 x8 x10 x11 x18) else (if x7 > 0 then (num_Take.j2 k x0 x5 x6 x7 x8 x10 x11 (x8 == 0)) else (num_Take.j2 k x0 x5 x6 x7 x8 x10 x11 false))
def num_Take.j2 : Nat → ByteArray → Int → Int → Int → Int → Int → Int → Bool → Option (Int × ByteArray × Int)
  | 0, _, _, _, _, _, _, _, _ => none
  | k + 1, x0, x5, x6, x7, x8, x10, x11, x18 => if x18 = true then (if x6 < 0 then (some (0, (⟨#[]⟩ : ByteArray), 2)) else (if 0 ≤ x6 then (if x6 ≤ (x0.size : Int) then (some (x5, x0.extract (x6 : Int).toNat x0.size, 0)) else (none)) else (none))) else (if x8 < 128 then (if 0 ≤ (wrap64 (7 * x7)) then (if (wrap64 (x7 + 1)) < 0 then (some (0, (⟨#[]⟩ : ByteArray), 2)) else (if 0 ≤ (wrap64 (x7 + 1)) then (if (wrap64 (x7 + 1)) ≤ (x0.size : Int) then (some (Go.bits .or .u64 x5 (shl .u64 x8 (wrap64 (7 * x7))), x0.extract ((wrap64 (x7 + 1)) : Int).toNat x0.size, 0)) else (none)) else (none))) else (none)) else (if 0 ≤ (wrap64 (7 * x7)) then (num_Take.l0 k x0 (Go.bits .or .u64 x5 (shl .u64 (Go.bits .and .u64 x8 127) (wrap64 (7 * x7)))) x6 x10 (wrap64 (x11 + 1))) else (none)))
end
def num_Take.f (k : Nat) (a0 : ByteArray) : Option (Int × ByteArray × Int) := num_Take.l0 k a0 0 (-1) (a0.size : Int) 0
theorem num_Take.mono_l : ∀ k, (∀ y0 y1 y2 y3 y4, LeO (num_Take.l0 k y0 y1 y2 y3 y4) (num_Take.l0 (k + 1) y0 y1 y2 y3 y4)) ∧ (∀ y0 y1 y2 y3 y4 y5 y6 y7, LeO (num_Take.j1 k y0 y1 y2 y3 y4 y5 y6 y7) (num_Take.j1 (k + 1) y0 y1 y2 y3 y4 y5 y6 y7)) ∧ (∀ y0 y1 y2 y3 y4 y5 y6 y7, LeO (num_Take.j2 k y0 y1 y2 y3 y4 y5 y6 y7) (num_Take.j2 (k + 1) y0 y1 y2 y3 y4 y5 y6 y7))
  | 0 => ⟨fun _ _ _ _ _ r h => by simp [num_Take.l0] at h, fun _ _ _ _ _ _ _ _ r h => by simp [num_Take.j1] at h, fun _ _ _ _ _ _ _ _ r h => by simp [num_Take.j2] at h⟩
  | k + 1 => by
    obtain ⟨ih0, ih1, ih2⟩ := num_Take.mono_l k
    refine ⟨?_, ?_, ?_⟩
    · intro y0 y1 y2 y3 y4
      unfold num_Take.l0
      repeat' first
      | (with_reducible exact ih0 _ _ _ _ _)
      | (with_reducible exact ih1 _ _ _ _ _ _ _ _)
      | (with_reducible exact ih2 _ _ _ _ _ _ _ _)
      | (with_reducible exact LeO.refl _)
      | (with_reducible exact LeO.none _)
      | (with_reducible refine LeO.ite ?_ ?_)
      | (with_reducible refine LeO.bind ?_ (fun _ => ?_))
      | exact ih0 _ _ _ _ _
      | exact ih1 _ _ _ _ _ _ _ _
      | exact ih2 _ _ _ _ _ _ _ _
      | exact LeO.none _
      | refine LeO.ite ?_ ?_
      | refine LeO.bind ?_ (fun _ => ?_)
    · intro y0 y1 y2 y3 y4 y5 y6 y7
      unfold num_Take.j1
      repeat' first
      | (with_reducible exact ih0 _ _ _ _ _)
      | (with_reducible exact ih1 _ _ _ _ _ _ _ _)
      | (with_reducible exact ih2 _ _ _ _ _ _ _ _)
      | (with_reducible exact LeO.refl _)
      | (with_reducible exact LeO.none _)
      | (with_reducible refine LeO.ite ?_ ?_)
      | (with_reducible refine LeO.bind ?_ (fun _ => ?_))
      | exact ih0 _ _ _ _ _
      | exact ih1 _ _ _ _ _ _ _ _
      | exact ih2 _ _ _ _ _ _ _ _
      | exact LeO.none _
      | refine LeO.ite ?_ ?_
      | refine LeO.bind ?_ (fun _ => ?_)
    · intro y0 y1 y2 y3 y4 y5 y6 y7
      unfold num_Take.j2
      repeat' first
      | (with_reducible exact ih0 _ _ _ _ _)
      | (with_reducible exact ih1 _ _ _ _ _ _ _ _)
      | (with_reducible exact ih2 _ _ _ _ _ _ _ _)
      | (with_reducible exact LeO.refl _)
      | (with_reducible exact LeO.none _)
      | (with_reducible refine LeO.ite ?_ ?_)
      | (with_reducible refine LeO.bind ?_ (fun _ => ?_))
      | exact ih0 _ _ _ _ _
      | exact ih1 _ _ _ _ _ _ _ _
      | exact ih2 _ _ _ _ _ _ _ _
      | exact LeO.none _
      | refine LeO.ite ?_ ?_
      | refine LeO.bind ?_ (fun _ => ?_)
theorem num_Take.mono : ∀ a0 k, LeO (num_Take.f k a0) (num_Take.f (k + 1) a0) := by
  intro a0 k
  obtain ⟨ih0, ih1, ih2⟩ := num_Take.mono_l k
  unfold num_Take.f
  repeat' first
      | (with_reducible exact ih0 _ _ _ _ _)
      | (with_reducible exact ih1 _ _ _ _ _ _ _ _)
      | (with_reducible exact ih2 _ _ _ _ _ _ _ _)
      | (with_reducible exact LeO.refl _)
      | (with_reducible exact LeO.none _)
      | (with_reducible refine LeO.ite ?_ ?_)
      | (with_reducible refine LeO.bind ?_ (fun _ => ?_))
      | exact ih0 _ _ _ _ _
      | exact ih1 _ _ _ _ _ _ _ _
      | exact ih2 _ _ _ _ _ _ _ _
      | exact LeO.none _
      | refine LeO.ite ?_ ?_
      | refine LeO.bind ?_ (fun _ => ?_)
set_option maxHeartbeats 8000000 in
set_option maxRecDepth 100000 in
theorem num_Take.calls (k : Nat) (a0 : ByteArray) (r1 : Int) (r2 : ByteArray) (r3 : Int) (w : World) (h : num_Take.f k a0 = some (r1, r2, r3)) :
    Calls Tryd.prog 35 #[.string a0] w fun e w' => e = .returned (.tuple #[.int .u64 r1, .string r2, .int .i64 r3]) ∧ Drawn0 w w' := by
  have H : (num_Take.l0 k a0 0 (-1) (a0.size : Int) 0) = some (r1, r2, r3) := h
  clear h
  have H' := Aside0.mk H
  clear H
  go_enter Tryd.func35, Tryd.ntmps35
  go_wp2; repeat (go_step3; go_wp2)
  repeat (go_quiet (fail); try (go_wp2; repeat (go_step3; go_wp2)))
  (try simp only [Exit.noGoto_ret, Exit.noGoto_normal])
  go_loopg [5, 6, 11] k (fun kq v5 v6 v11 w' => ∃ (x5_1 : Int) (x6_1 : Int) (x11_1 : Int), v5 = .int .u64 x5_1 ∧ v6 = .int .i64 x6_1 ∧ v11 = .int .i64 x11_1 ∧ Aside0 (num_Take.l0 kq a0 x5_1 x6_1 (a0.size : Int) x11_1 = some (r1, r2, r3)) ∧ Aside0 (kq ≤ k) ∧ Drawn0 w w')
  case atStart => exact ⟨(0), ((-1)), (0), (by first | rfl | (simp; done) | (simp [*]; done)), (by first | rfl | (simp; done) | (simp [*]; done)), (by first | rfl | (simp; done) | (simp [*]; done)), H', ⟨Nat.le_refl _⟩, by repeat (first | exact Drawn0.refl _ | apply Drawn0.step)⟩
  case round =>
    clear H'
    obtain ⟨x5_1, x6_1, x11_1, rfl, rfl, rfl, HA, HK1, ⟨m1, rfl⟩⟩ := hrel
    cases gk with
    | zero => exact absurd HA.out (by simp [num_Take.l0])
    | succ k1 =>
      have H := HA.out
      clear HA
      simp only [num_Take.l0] at H
      by_cases c2 : x11_1 < (a0.size : Int)
      · rw [if_pos c2] at H
        have c2b0 : decide (x11_1 < (a0.size : Int)) = true := decide_eq_true c2
        clear c2
        by_cases c3 : 0 ≤ x11_1
        · rw [if_pos c3] at H
          have c3b0 : decide (0 ≤ x11_1) = true := decide_eq_true c3
          clear c3
          by_cases c4 : x11_1 < (a0.size : Int)
          · rw [if_pos c4] at H
            have c4b0 : decide (x11_1 < (a0.size : Int)) = true := decide_eq_true c4
            clear c4
            have HC6 := Aside0.mk H
            clear H
            have p5 : 0 ≤ (x11_1 : Int) := of_decide_eq_true (by first | (with_reducible assumption) | assumption)
            have q5 : x11_1 < (a0.size : Int) := of_decide_eq_true (by first | (with_reducible assumption) | assumption)
            have hx5 := bt_at a0 x11_1
            replace p5 := eq_true p5
            replace q5 := eq_true q5
            go_upto_region 6 with (fail)
            repeat (go_quiet (fail); go_upto_region 6 with (fail))
            go_cut [18] (fun v18 wc => ∃ (kq : Nat) (x18_5 : Bool), v18 = .bool x18_5 ∧ Aside0 (num_Take.j1 kq a0 x5_1 x6_1 x11_1 (IntKind.u64.wrap (bt a0 x11_1)) (a0.size : Int) x11_1 x18_5 = some (r1, r2, r3)) ∧ Aside0 (kq ≤ k1) ∧ Drawn0 w wc)
            case first =>
              have H := HC6.out
              clear HC6
              by_cases c7 : x11_1 = 9
              · rw [if_pos c7] at H
                have c7b0 : (x11_1 == 9) = true := beq_iff_eq.mpr c7
                have c7b1 : (x11_1 != 9) = false := bne_eq_false_iff_eq.mpr c7
                clear c7
                (first | rw [c7b0] | (simp only [i64_w, i32_w]; rw [c7b0]) | skip)
                have H' := Aside0.mk H
                clear H
                go_wp2; repeat (go_step3; go_wp2)
                repeat (go_quiet (fail); try (go_wp2; repeat (go_step3; go_wp2)))
                (try simp only [Exit.noGoto_ret, Exit.noGoto_normal])
                go_meet
                case rel => exact ⟨_, (decide ((IntKind.u64.wrap (bt a0 x11_1)) > 1)), (by first | rfl | (simp; done) | (simp [*]; done)), H', ⟨by have := HK1.out; first | omega | exact Nat.le_refl _⟩, by repeat (first | exact Drawn0.refl _ | apply Drawn0.step)⟩
              · rw [if_neg c7] at H
                have c7b0 : (x11_1 == 9) = false := beq_eq_false_iff_ne.mpr c7
                have c7b1 : (x11_1 != 9) = true := bne_iff_ne.mpr c7
                (first | rw [c7b0] | (simp only [i64_w, i32_w]; rw [c7b0]) | skip)
                have H' := Aside0.mk H
                clear H
                go_wp2; repeat (go_step3; go_wp2)
                repeat (go_quiet (fail); try (go_wp2; repeat (go_step3; go_wp2)))
                (try simp only [Exit.noGoto_ret, Exit.noGoto_normal])
                go_meet
                case rel => exact ⟨_, (false), (by first | rfl | (simp; done) | (simp [*]; done)), H', ⟨by have := HK1.out; first | omega | exact Nat.le_refl _⟩, by repeat (first | exact Drawn0.refl _ | apply Drawn0.step)⟩
            case rest =>
              clear HC6
              try clear c2
              try clear c2b0
              try clear p2
              try clear c3
              try clear c3b0
              try clear p3
              try clear c4
              try clear c4b0
              try clear p5
              try clear q5
              try clear hx5
              try clear c7
              try clear c7b0
              try clear c7b1
              try clear p5
              try clear q5
              obtain ⟨kq, x18_5, rfl, HA, HJ5, ⟨mc5, rfl⟩⟩ := hcut
              cases kq with
              | zero => exact absurd HA.out (by simp [num_Take.j1])
              | succ kj5 =>
                have H := HA.out
                clear HA
                simp only [num_Take.j1] at H
                have HC8 := Aside0.mk H
                clear H
                go_upto_if 18 with (fail)
                repeat (go_quiet (fail); go_upto_if 18 with (fail))
                go_cut [18] (fun v18 wc => ∃ (kq : Nat) (x18_7 : Bool), v18 = .bool x18_7 ∧ Aside0 (num_Take.j2 kq a0 x5_1 x6_1 x11_1 (IntKind.u64.wrap (bt a0 x11_1)) (a0.size : Int) x11_1 x18_7 = some (r1, r2, r3)) ∧ Aside0 (kq ≤ kj5) ∧ Drawn0 w wc)
                case first =>
                  have H := HC8.out
                  clear HC8
                  by_cases c9 : x18_5 = true
                  · subst c9
                    have H1 : (num_Take.j2 kj5 a0 x5_1 x6_1 x11_1 (IntKind.u64.wrap (bt a0 x11_1)) (a0.size : Int) x11_1 true) = some (r1, r2, r3) := by rw [if_pos rfl] at H; exact H
                    clear H
                    have H := H1
                    clear H1
                    have H' := Aside0.mk H
                    clear H
                    go_wp2; repeat (go_step3; go_wp2)
                    repeat (go_quiet (fail); try (go_wp2; repeat (go_step3; go_wp2)))
                    (try simp only [Exit.noGoto_ret, Exit.noGoto_normal])
                    go_meet
                    case rel => exact ⟨_, (true), (by first | rfl | (simp; done) | (simp [*]; done)), H', ⟨by have := HK1.out; have := HJ5.out; first | omega | exact Nat.le_refl _⟩, by repeat (first | exact Drawn0.refl _ | apply Drawn0.step)⟩
                  · replace c9 := Bool.eq_false_iff.mpr c9
                    subst c9
                    have H1 : (if x11_1 > 0 then (num_Take.j2 kj5 a0 x5_1 x6_1 x11_1 (IntKind.u64.wrap (bt a0 x11_1)) (a0.size : Int) x11_1 ((IntKind.u64.wrap (bt a0 x11_1)) == 0)) else (num_Take.j2 kj5 a0 x5_1 x6_1 x11_1 (IntKind.u64.wrap (bt a0 x11_1)) (a0.size : Int) x11_1 false)) = some (r1, r2, r3) := by rw [if_neg (show ¬ (false = true) by decide)] at H; exact H
                    clear H
                    have H := H1
                    clear H1
                    by_cases c10 : x11_1 > 0
                    · rw [if_pos c10] at H
                      have c10b0 : decide (0 < x11_1) = true := decide_eq_true c10
                      clear c10
                      (first | rw [c10b0] | (simp only [i64_w, i32_w]; rw [c10b0]) | skip)
                      have H' := Aside0.mk H
                      clear H
                      go_wp2; repeat (go_step3; go_wp2)
                      repeat (go_quiet (fail); try (go_wp2; repeat (go_step3; go_wp2)))
                      (try simp only [Exit.noGoto_ret, Exit.noGoto_normal])
                      go_meet
                      case rel => exact ⟨_, (((IntKind.u64.wrap (bt a0 x11_1)) == 0)), (by first | rfl | (simp; done) | (simp [*]; done)), H', ⟨by have := HK1.out; have := HJ5.out; first | omega | exact Nat.le_refl _⟩, by repeat (first | exact Drawn0.refl _ | apply Drawn0.step)⟩
                    · rw [if_neg c10] at H
                      have c10b0 : decide (0 < x11_1) = false := decide_eq_false c10
                      clear c10
                      (first | rw [c10b0] | (simp only [i64_w, i32_w]; rw [c10b0]) | skip)
                      have H' := Aside0.mk H
                      clear H
                      go_wp2; repeat (go_step3; go_wp2)
                      repeat (go_quiet (fail); try (go_wp2; repeat (go_step3; go_wp2)))
                      (try simp only [Exit.noGoto_ret, Exit.noGoto_normal])
                      go_meet
                      case rel => exact ⟨_, (false), (by first | rfl | (simp; done) | (simp [*]; done)), H', ⟨by have := HK1.out; have := HJ5.out; first | omega | exact Nat.le_refl _⟩, by repeat (first | exact Drawn0.refl _ | apply Drawn0.step)⟩
                case rest =>
                  clear HC8
                  try clear c1
                  try clear c2
                  try clear c2b0
                  try clear p2
                  try clear c3
                  try clear c3b0
                  try clear p3
                  try clear c4
                  try clear c4b0
                  try clear c5
                  try clear p5
                  try clear q5
                  try clear hx5
                  try clear c7
                  try clear c7b0
                  try clear c7b1
                  try clear c9
                  try clear c10
                  try clear c10b0
                  try clear p2
                  try clear p3
                  try clear p5
                  try clear q5
                  obtain ⟨kq, x18_7, rfl, HA, HJ7, ⟨mc7, rfl⟩⟩ := hcut
                  cases kq with
                  | zero => exact absurd HA.out (by simp [num_Take.j2])
                  | succ kj7 =>
                    have H := HA.out
                    clear HA
                    simp only [num_Take.j2] at H
                    by_cases c11 : x18_7 = true
                    · subst c11
                      have H1 : (if x6_1 < 0 then (some (0, (⟨#[]⟩ : ByteArray), 2)) else (if 0 ≤ x6_1 then (if x6_1 ≤ (a0.size : Int) then (some (x5_1, a0.extract (x6_1 : Int).toNat a0.size, 0)) else (none)) else (none))) = some (r1, r2, r3) := by rw [if_pos rfl] at H; exact H
                      clear H
                      have H := H1
                      clear H1
                      by_cases c12 : x6_1 < 0
                      · rw [if_pos c12] at H
                        have c12b0 : decide (x6_1 < 0) = true := decide_eq_true c12
                        clear c12
                        simp only [Option.some.injEq, Prod.mk.injEq] at H
                        obtain ⟨rfl, rfl, rfl⟩ := H
                        go_wp2; repeat (go_step3; go_wp2)
                        repeat (go_quiet (fail); try (go_wp2; repeat (go_step3; go_wp2)))
                        (try simp only [Exit.noGoto_ret, Exit.noGoto_normal])
                        go_ret3
                        exact ⟨by first | rfl | (simp; done) | (simp [*]; done), by repeat (first | exact Drawn0.refl _ | apply Drawn0.step)⟩
                      · rw [if_neg c12] at H
                        have c12b0 : decide (x6_1 < 0) = false := decide_eq_false c12
                        clear c12
                        by_cases c13 : 0 ≤ x6_1
                        · rw [if_pos c13] at H
                          have c13b0 := eq_true c13
                          have c13b1 : decide (0 ≤ x6_1) = true := decide_eq_true c13
                          clear c13
                          by_cases c14 : x6_1 ≤ (a0.size : Int)
                          · rw [if_pos c14] at H
                            have c14b0 := eq_true c14
                            have c14b1 : decide (x6_1 ≤ (a0.size : Int)) = true := decide_eq_true c14
                            clear c14
                            simp only [Option.some.injEq, Prod.mk.injEq] at H
                            obtain ⟨rfl, rfl, rfl⟩ := H
                            go_wp2; repeat (go_step3; go_wp2)
                            repeat (go_quiet (fail); try (go_wp2; repeat (go_step3; go_wp2)))
                            (try simp only [Exit.noGoto_ret, Exit.noGoto_normal])
                            go_ret3
                            exact ⟨by first | rfl | (simp; done) | (simp [*]; done), by repeat (first | exact Drawn0.refl _ | apply Drawn0.step)⟩
                          · rw [if_neg c14] at H
                            exact absurd H (by simp)
                        · rw [if_neg c13] at H
                          exact absurd H (by simp)
                    · replace c11 := Bool.eq_false_iff.mpr c11
                      subst c11
                      have H1 : (if (IntKind.u64.wrap (bt a0 x11_1)) < 128 then (if 0 ≤ (wrap64 (7 * x11_1)) then (if (wrap64 (x11_1 + 1)) < 0 then (some (0, (⟨#[]⟩ : ByteArray), 2)) else (if 0 ≤ (wrap64 (x11_1 + 1)) then (if (wrap64 (x11_1 + 1)) ≤ (a0.size : Int) then (some (Go.bits .or .u64 x5_1 (shl .u64 (IntKind.u64.wrap (bt a0 x11_1)) (wrap64 (7 * x11_1))), a0.extract ((wrap64 (x11_1 + 1)) : Int).toNat a0.size, 0)) else (none)) else (none))) else (none)) else (if 0 ≤ (wrap64 (7 * x11_1)) then (num_Take.l0 kj7 a0 (Go.bits .or .u64 x5_1 (shl .u64 (Go.bits .and .u64 (IntKind.u64.wrap (bt a0 x11_1)) 127) (wrap64 (7 * x11_1)))) x6_1 (a0.size : Int) (wrap64 (x11_1 + 1))) else (none))) = some (r1, r2, r3) := by rw [if_neg (show ¬ (false = true) by decide)] at H; exact H
                      clear H
                      have H := H1
                      clear H1
                      by_cases c15 : (IntKind.u64.wrap (bt a0 x11_1)) < 128
                      · rw [if_pos c15] at H
                        have c15b0 : decide ((IntKind.u64.wrap (bt a0 x11_1)) < 128) = true := decide_eq_true c15
                        clear c15
                        obtain ⟨ji16, hji16⟩ : ∃ j_ : Int, (wrap64 (7 * x11_1)) = j_ := ⟨_, rfl⟩
                        replace H : (if 0 ≤ (ji16) then (if (wrap64 (x11_1 + 1)) < 0 then (some (0, (⟨#[]⟩ : ByteArray), 2)) else (if 0 ≤ (wrap64 (x11_1 + 1)) then (if (wrap64 (x11_1 + 1)) ≤ (a0.size : Int) then (some (Go.bits .or .u64 x5_1 (shl .u64 (IntKind.u64.wrap (bt a0 x11_1)) (ji16)), a0.extract ((wrap64 (x11_1 + 1)) : Int).toNat a0.size, 0)) else (none)) else (none))) else (none)) = some (r1, r2, r3) := by first | (rw [hji16] at H; exact H) | (simp only [hji16] at H ⊢; exact H)
                        have hji16w : (IntKind.i64.wrap (7 * x11_1)) = ji16 := (i64_w _).trans hji16
                        by_cases c17 : 0 ≤ (ji16)
                        · rw [if_pos c17] at H
                          have c17b0 := eq_true c17
                          have c17b1 : decide (0 ≤ (ji16)) = true := decide_eq_true c17
                          clear c17
                          obtain ⟨ji18, hji18⟩ : ∃ j_ : Int, (shl .u64 (IntKind.u64.wrap (bt a0 x11_1)) (ji16)) = j_ := ⟨_, rfl⟩
                          replace H : (if (wrap64 (x11_1 + 1)) < 0 then (some (0, (⟨#[]⟩ : ByteArray), 2)) else (if 0 ≤ (wrap64 (x11_1 + 1)) then (if (wrap64 (x11_1 + 1)) ≤ (a0.size : Int) then (some (Go.bits .or .u64 x5_1 (ji18), a0.extract ((wrap64 (x11_1 + 1)) : Int).toNat a0.size, 0)) else (none)) else (none))) = some (r1, r2, r3) := by first | (rw [hji18] at H; exact H) | (simp only [hji18] at H ⊢; exact H)
                          have hji18_ : (IntKind.u64.wrap ((IntKind.u64.wrap (bt a0 x11_1)) * 2 ^ min (ji16).toNat 64)) = ji18 := hji18
                          have hji18z : (ji16) ≤ 64 → (IntKind.u64.wrap ((IntKind.u64.wrap (bt a0 x11_1)) * 2 ^ (ji16).toNat)) = ji18 := shl_small hji18
                          by_cases c19 : (wrap64 (x11_1 + 1)) < 0
                          · rw [if_pos c19] at H
                            have c19b0 : decide ((wrap64 (x11_1 + 1)) < 0) = true := decide_eq_true c19
                            clear c19
                            simp only [Option.some.injEq, Prod.mk.injEq] at H
                            obtain ⟨rfl, rfl, rfl⟩ := H
                            go_wp2; repeat (go_step3; go_wp2)
                            repeat (go_quiet (fail); try (go_wp2; repeat (go_step3; go_wp2)))
                            (try simp only [Exit.noGoto_ret, Exit.noGoto_normal])
                            go_ret3
                            exact ⟨by first | rfl | (simp; done) | (simp only [← hji16, ← hji18] <;> (first | rfl | simp)) | (simp [*]; done), by repeat (first | exact Drawn0.refl _ | apply Drawn0.step)⟩
                          · rw [if_neg c19] at H
                            have c19b0 : decide ((wrap64 (x11_1 + 1)) < 0) = false := decide_eq_false c19
                            clear c19
                            obtain ⟨ji20, hji20⟩ : ∃ j_ : Int, (wrap64 (x11_1 + 1)) = j_ := ⟨_, rfl⟩
                            replace H : (if 0 ≤ (ji20) then (if (ji20) ≤ (a0.size : Int) then (some (Go.bits .or .u64 x5_1 (ji18), a0.extract ((ji20) : Int).toNat a0.size, 0)) else (none)) else (none)) = some (r1, r2, r3) := by first | (rw [hji20] at H; exact H) | (simp only [hji20] at H ⊢; exact H)
                            (try rw [hji20] at c19b0)
                            have hji20w : (IntKind.i64.wrap (x11_1 + 1)) = ji20 := (i64_w _).trans hji20
                            by_cases c21 : 0 ≤ (ji20)
                            · rw [if_pos c21] at H
                              have c21b0 := eq_true c21
                              have c21b1 : decide (0 ≤ (ji20)) = true := decide_eq_true c21
                              clear c21
                              by_cases c22 : (ji20) ≤ (a0.size : Int)
                              · rw [if_pos c22] at H
                                have c22b0 := eq_true c22
                                have c22b1 : decide ((ji20) ≤ (a0.size : Int)) = true := decide_eq_true c22
                                clear c22
                                simp only [Option.some.injEq, Prod.mk.injEq] at H
                                obtain ⟨rfl, rfl, rfl⟩ := H
                                go_wp2; repeat (go_step3; go_wp2)
                                repeat (go_quiet (fail); try (go_wp2; repeat (go_step3; go_wp2)))
                                (try simp only [Exit.noGoto_ret, Exit.noGoto_normal])
                                go_ret3
                                exact ⟨by first | rfl | (simp; done) | (simp only [← hji16, ← hji18, ← hji20] <;> (first | rfl | simp)) | (simp [*]; done), by repeat (first | exact Drawn0.refl _ | apply Drawn0.step)⟩
                              · rw [if_neg c22] at H
                                exact absurd H (by simp)
                            · rw [if_neg c21] at H
                              exact absurd H (by simp)
                        · rw [if_neg c17] at H
                          exact absurd H (by simp)
                      · rw [if_neg c15] at H
                        have c15b0 : decide ((IntKind.u64.wrap (bt a0 x11_1)) < 128) = false := decide_eq_false c15
                        clear c15
                        obtain ⟨ji23, hji23⟩ : ∃ j_ : Int, (wrap64 (7 * x11_1)) = j_ := ⟨_, rfl⟩
                        replace H : (if 0 ≤ (ji23) then (num_Take.l0 kj7 a0 (Go.bits .or .u64 x5_1 (shl .u64 (Go.bits .and .u64 (IntKind.u64.wrap (bt a0 x11_1)) 127) (ji23))) x6_1 (a0.size : Int) (wrap64 (x11_1 + 1))) else (none)) = some (r1, r2, r3) := by first | (rw [hji23] at H; exact H) | (simp only [hji23] at H ⊢; exact H)
                        have hji23w : (IntKind.i64.wrap (7 * x11_1)) = ji23 := (i64_w _).trans hji23
                        by_cases c24 : 0 ≤ (ji23)
                        · rw [if_pos c24] at H
                          have c24b0 := eq_true c24
                          have c24b1 : decide (0 ≤ (ji23)) = true := decide_eq_true c24
                          clear c24
                          obtain ⟨ji25, hji25⟩ : ∃ j_ : Int, (shl .u64 (Go.bits .and .u64 (IntKind.u64.wrap (bt a0 x11_1)) 127) (ji23)) = j_ := ⟨_, rfl⟩
                          replace H : (num_Take.l0 kj7 a0 (Go.bits .or .u64 x5_1 (ji25)) x6_1 (a0.size : Int) (wrap64 (x11_1 + 1))) = some (r1, r2, r3) := by first | (rw [hji25] at H; exact H) | (simp only [hji25] at H ⊢; exact H)
                          have hji25_ : (IntKind.u64.wrap ((Go.bits .and .u64 (IntKind.u64.wrap (bt a0 x11_1)) 127) * 2 ^ min (ji23).toNat 64)) = ji25 := hji25
                          have hji25z : (ji23) ≤ 64 → (IntKind.u64.wrap ((Go.bits .and .u64 (IntKind.u64.wrap (bt a0 x11_1)) 127) * 2 ^ (ji23).toNat)) = ji25 := shl_small hji25
                          have H' := Aside0.mk H
                          clear H
                          go_wp2; repeat (go_step3; go_wp2)
                          repeat (go_quiet (fail); try (go_wp2; repeat (go_step3; go_wp2)))
                          (try simp only [Exit.noGoto_ret, Exit.noGoto_normal])
                          go_roundg kj7
                          case measure => have := HK1.out; have := HJ5.out; have := HJ7.out; omega
                          case rel => exact ⟨(Go.bits .or .u64 x5_1 (ji25)), (x6_1), (wrap64 (x11_1 + 1)), (by first | rfl | (simp; done) | (simp only [← hji25] <;> (first | rfl | simp)) | (simp [*]; done)), (by first | rfl | (simp; done) | (simp [*]; done)), (by first | rfl | (simp; done) | (simp [*]; done)), H', ⟨by have := HK1.out; have := HJ5.out; have := HJ7.out; omega⟩, by repeat (first | exact Drawn0.refl _ | apply Drawn0.step)⟩
                        · rw [if_neg c24] at H
                          exact absurd H (by simp)
          · rw [if_neg c4] at H
            exact absurd H (by simp)
        · rw [if_neg c3] at H
          exact absurd H (by simp)
      · rw [if_neg c2] at H
        have c2b0 : decide (x11_1 < (a0.size : Int)) = false := decide_eq_false c2
        clear c2
        by_cases c26 : x6_1 < 0
        · rw [if_pos c26] at H
          have c26b0 : decide (x6_1 < 0) = true := decide_eq_true c26
          clear c26
          simp only [Option.some.injEq, Prod.mk.injEq] at H
          obtain ⟨rfl, rfl, rfl⟩ := H
          go_wp2; repeat (go_step3; go_wp2)
          repeat (go_quiet (fail); try (go_wp2; repeat (go_step3; go_wp2)))
          (try simp only [Exit.noGoto_ret, Exit.noGoto_normal])
          go_ret3
          exact ⟨by first | rfl | (simp; done) | (simp [*]; done), by repeat (first | exact Drawn0.refl _ | apply Drawn0.step)⟩
        · rw [if_neg c26] at H
          have c26b0 : decide (x6_1 < 0) = false := decide_eq_false c26
          clear c26
          by_cases c27 : 0 ≤ x6_1
          · rw [if_pos c27] at H
            have c27b0 := eq_true c27
            have c27b1 : decide (0 ≤ x6_1) = true := decide_eq_true c27
            clear c27
            by_cases c28 : x6_1 ≤ (a0.size : Int)
            · rw [if_pos c28] at H
              have c28b0 := eq_true c28
              have c28b1 : decide (x6_1 ≤ (a0.size : Int)) = true := decide_eq_true c28
              clear c28
              simp only [Option.some.injEq, Prod.mk.injEq] at H
              obtain ⟨rfl, rfl, rfl⟩ := H
              go_wp2; repeat (go_step3; go_wp2)
              repeat (go_quiet (fail); try (go_wp2; repeat (go_step3; go_wp2)))
              (try simp only [Exit.noGoto_ret, Exit.noGoto_normal])
              go_ret3
              exact ⟨by first | rfl | (simp; done) | (simp [*]; done), by repeat (first | exact Drawn0.refl _ | apply Drawn0.step)⟩
            · rw [if_neg c28] at H
              exact absurd H (by simp)
          · rw [if_neg c27] at H
            exact absurd H (by simp)

end Go.Proofs.YthaegbiblblccaaDoor.XEnt
