/- What the functions of the translation answer, each as a plain Lean function, and that the code comes to it; for a law: its row. Conditions: none but those that each theorem names. Written by a program of this session (wip/xp). -/
import Derived.Test.YthaegbiblblccaaDoorXEntx0
import Derived.Test.YthaegbiblblccaaDoorXEntx23
namespace Go.Proofs.YthaegbiblblccaaDoor.XEnt
open Go.RowKit Go.Proofs.YthaegbiblblccaaDoorW.PrintWords Go.Proofs.YthaegbiblblccaaDoorW.PrintLast Go.Proofs.YthaegbiblblccaaDoorW.PrintMore
attribute [local go_sem] max2_int min2_int max_two min_two max_three min_three max_four min_four   -- for this text's walks alone
set_option linter.unusedVariables false
set_option linter.unusedSimpArgs false

/-! ### num_TakeText: function 36 -/
def num_TakeText.f (k : Nat) (a0 : ByteArray) (a1 : Int) : Option (ByteArray × ByteArray × Int) := (num_Take.f k a0).bind fun bt291 => (if bt291.2.2 = 0 then (if bt291.1 > (IntKind.u64.wrap (mx a1 0)) then (some ((⟨#[]⟩ : ByteArray), (⟨#[]⟩ : ByteArray), 7)) else (if bt291.1 > (IntKind.u64.wrap ((bt291.2.1.size : Int))) then (some ((⟨#[]⟩ : ByteArray), (⟨#[]⟩ : ByteArray), 2)) else (if 0 ≤ bt291.1 then (if bt291.1 ≤ (bt291.2.1.size : Int) then (some (bt291.2.1.extract 0 (bt291.1 : Int).toNat, bt291.2.1.extract (bt291.1 : Int).toNat bt291.2.1.size, 0)) else (none)) else (none)))) else (some ((⟨#[]⟩ : ByteArray), (⟨#[]⟩ : ByteArray), bt291.2.2)))
theorem num_TakeText.mono : ∀ a0 a1 k, LeO (num_TakeText.f k a0 a1) (num_TakeText.f (k + 1) a0 a1) := by
  intro a0 a1 k
  unfold num_TakeText.f
  repeat' first
      | (with_reducible exact num_Take.mono _ _)
      | (with_reducible exact LeO.refl _)
      | (with_reducible exact LeO.none _)
      | (with_reducible refine LeO.ite ?_ ?_)
      | (with_reducible refine LeO.bind ?_ (fun _ => ?_))
      | exact num_Take.mono _ _
      | exact LeO.none _
      | refine LeO.ite ?_ ?_
      | refine LeO.bind ?_ (fun _ => ?_)
set_option maxHeartbeats 8000000 in
set_option maxRecDepth 100000 in
theorem num_TakeText.calls (k : Nat) (a0 : ByteArray) (a1 : Int) (r1 : ByteArray) (r2 : ByteArray) (r3 : Int) (w : World) (h : num_TakeText.f k a0 a1 = some (r1, r2, r3)) :
    Calls Tryd.prog 36 #[.string a0, .int .i64 a1] w fun e w' => e = .returned (.tuple #[.string r1, .string r2, .int .i64 r3]) ∧ Below w.heap.size w w' := by
  have HB := Aside0.mk (Below.refl w.heap.size w)
  have H : ((num_Take.f k a0).bind fun bt291 => (if bt291.2.2 = 0 then (if bt291.1 > (IntKind.u64.wrap (mx a1 0)) then (some ((⟨#[]⟩ : ByteArray), (⟨#[]⟩ : ByteArray), 7)) else (if bt291.1 > (IntKind.u64.wrap ((bt291.2.1.size : Int))) then (some ((⟨#[]⟩ : ByteArray), (⟨#[]⟩ : ByteArray), 2)) else (if 0 ≤ bt291.1 then (if bt291.1 ≤ (bt291.2.1.size : Int) then (some (bt291.2.1.extract 0 (bt291.1 : Int).toNat, bt291.2.1.extract (bt291.1 : Int).toNat bt291.2.1.size, 0)) else (none)) else (none)))) else (some ((⟨#[]⟩ : ByteArray), (⟨#[]⟩ : ByteArray), bt291.2.2)))) = some (r1, r2, r3) := h
  clear h
  replace H := Option.bind_eq_some_iff.mp H
  obtain ⟨⟨t291, t292, t293⟩, A30, H⟩ := H
  replace H : (if t293 = 0 then (if t291 > (IntKind.u64.wrap (mx a1 0)) then (some ((⟨#[]⟩ : ByteArray), (⟨#[]⟩ : ByteArray), 7)) else (if t291 > (IntKind.u64.wrap ((t292.size : Int))) then (some ((⟨#[]⟩ : ByteArray), (⟨#[]⟩ : ByteArray), 2)) else (if 0 ≤ t291 then (if t291 ≤ (t292.size : Int) then (some (t292.extract 0 (t291 : Int).toNat, t292.extract (t291 : Int).toNat t292.size, 0)) else (none)) else (none)))) else (some ((⟨#[]⟩ : ByteArray), (⟨#[]⟩ : ByteArray), t293))) = some (r1, r2, r3) := H
  have A3 := Aside0.mk A30
  clear A30
  by_cases c4 : t293 = 0
  · rw [if_pos c4] at H
    have c4b0 : (t293 == 0) = true := beq_iff_eq.mpr c4
    have c4b1 : (t293 != 0) = false := bne_eq_false_iff_eq.mpr c4
    clear c4
    obtain ⟨ji5, hji5⟩ : ∃ j_ : Int, (mx a1 0) = j_ := ⟨_, rfl⟩
    replace H : (if t291 > (IntKind.u64.wrap (ji5)) then (some ((⟨#[]⟩ : ByteArray), (⟨#[]⟩ : ByteArray), 7)) else (if t291 > (IntKind.u64.wrap ((t292.size : Int))) then (some ((⟨#[]⟩ : ByteArray), (⟨#[]⟩ : ByteArray), 2)) else (if 0 ≤ t291 then (if t291 ≤ (t292.size : Int) then (some (t292.extract 0 (t291 : Int).toNat, t292.extract (t291 : Int).toNat t292.size, 0)) else (none)) else (none)))) = some (r1, r2, r3) := by first | (rw [hji5] at H; exact H) | (simp only [hji5] at H ⊢; exact H)
    (try rw [hji5] at A3)
    (try (have hji5l : 0 ≤ ji5 := by (rw [← hji5]; unfold mx; (repeat' split) <;> omega)))
    (try (have hji5m : 0 ≤ ji5 := by omega))
    have hji5_ : (if a1 < 0 then 0 else a1) = ji5 := hji5
    by_cases c6 : t291 > (IntKind.u64.wrap (ji5))
    · rw [if_pos c6] at H
      have c6b0 : decide ((IntKind.u64.wrap (ji5)) < t291) = true := decide_eq_true c6
      clear c6
      simp only [Option.some.injEq, Prod.mk.injEq] at H
      obtain ⟨rfl, rfl, rfl⟩ := H
      go_enter Tryd.func36, Tryd.ntmps36
      go_wp2_with (first | (go_at_call 35; (with_reducible refine (num_Take.calls k a0 t291 t292 t293 _ A3.out).mono ?_); rintro e w' ⟨rfl, ⟨nd, rfl⟩⟩; (try first | exact ⟨rfl, _, World.drewN_drewN _ _ _⟩ | exact ⟨rfl, _, Eq.trans (World.drewN_drewN _ _ _) (congrArg (World.drewN _) (Nat.add_assoc _ _ _))⟩)))
      repeat (go_quiet (first | (go_at_call 35; (with_reducible refine (num_Take.calls k a0 t291 t292 t293 _ A3.out).mono ?_); rintro e w' ⟨rfl, ⟨nd, rfl⟩⟩; (try first | exact ⟨rfl, _, World.drewN_drewN _ _ _⟩ | exact ⟨rfl, _, Eq.trans (World.drewN_drewN _ _ _) (congrArg (World.drewN _) (Nat.add_assoc _ _ _))⟩))); try go_wp2_with (first | (go_at_call 35; (with_reducible refine (num_Take.calls k a0 t291 t292 t293 _ A3.out).mono ?_); rintro e w' ⟨rfl, ⟨nd, rfl⟩⟩; (try first | exact ⟨rfl, _, World.drewN_drewN _ _ _⟩ | exact ⟨rfl, _, Eq.trans (World.drewN_drewN _ _ _) (congrArg (World.drewN _) (Nat.add_assoc _ _ _))⟩))))
      go_ret3
      exact ⟨by first | rfl | (simp [errW_none, errW_some] <;> rfl) | (simp only [← hji5]; first | rfl | (simp [errW_none, errW_some] <;> rfl)) | (simp [*, errW_none, errW_some] <;> rfl), by repeat (first | (with_reducible first | exact HB.out | apply below_alloc | apply pw_below_drewN | apply below_drew1) | exact HB.out)⟩
    · rw [if_neg c6] at H
      have c6b0 : decide ((IntKind.u64.wrap (ji5)) < t291) = false := decide_eq_false c6
      clear c6
      by_cases c7 : t291 > (IntKind.u64.wrap ((t292.size : Int)))
      · rw [if_pos c7] at H
        have c7b0 : decide ((IntKind.u64.wrap ((t292.size : Int))) < t291) = true := decide_eq_true c7
        clear c7
        simp only [Option.some.injEq, Prod.mk.injEq] at H
        obtain ⟨rfl, rfl, rfl⟩ := H
        go_enter Tryd.func36, Tryd.ntmps36
        go_wp2_with (first | (go_at_call 35; (with_reducible refine (num_Take.calls k a0 t291 t292 t293 _ A3.out).mono ?_); rintro e w' ⟨rfl, ⟨nd, rfl⟩⟩; (try first | exact ⟨rfl, _, World.drewN_drewN _ _ _⟩ | exact ⟨rfl, _, Eq.trans (World.drewN_drewN _ _ _) (congrArg (World.drewN _) (Nat.add_assoc _ _ _))⟩)))
        repeat (go_quiet (first | (go_at_call 35; (with_reducible refine (num_Take.calls k a0 t291 t292 t293 _ A3.out).mono ?_); rintro e w' ⟨rfl, ⟨nd, rfl⟩⟩; (try first | exact ⟨rfl, _, World.drewN_drewN _ _ _⟩ | exact ⟨rfl, _, Eq.trans (World.drewN_drewN _ _ _) (congrArg (World.drewN _) (Nat.add_assoc _ _ _))⟩))); try go_wp2_with (first | (go_at_call 35; (with_reducible refine (num_Take.calls k a0 t291 t292 t293 _ A3.out).mono ?_); rintro e w' ⟨rfl, ⟨nd, rfl⟩⟩; (try first | exact ⟨rfl, _, World.drewN_drewN _ _ _⟩ | exact ⟨rfl, _, Eq.trans (World.drewN_drewN _ _ _) (congrArg (World.drewN _) (Nat.add_assoc _ _ _))⟩))))
        go_ret3
        exact ⟨by first | rfl | (simp [errW_none, errW_some] <;> rfl) | (simp only [← hji5]; first | rfl | (simp [errW_none, errW_some] <;> rfl)) | (simp [*, errW_none, errW_some] <;> rfl), by repeat (first | (with_reducible first | exact HB.out | apply below_alloc | apply pw_below_drewN | apply below_drew1) | exact HB.out)⟩
      · rw [if_neg c7] at H
        have c7b0 : decide ((IntKind.u64.wrap ((t292.size : Int))) < t291) = false := decide_eq_false c7
        clear c7
        by_cases c8 : 0 ≤ t291
        · rw [if_pos c8] at H
          have c8b0 := eq_true c8
          have c8b1 : decide (0 ≤ t291) = true := decide_eq_true c8
          clear c8
          by_cases c9 : t291 ≤ (t292.size : Int)
          · rw [if_pos c9] at H
            have c9b0 := eq_true c9
            have c9b1 : decide (t291 ≤ (t292.size : Int)) = true := decide_eq_true c9
            clear c9
            have c10b0 := eq_true (of_decide_eq_true (by first | (with_reducible assumption) | assumption) : 0 ≤ t291)
            have c11b0 := eq_true (of_decide_eq_true (by first | (with_reducible assumption) | assumption) : t291 ≤ (t292.size : Int))
            simp only [Option.some.injEq, Prod.mk.injEq] at H
            obtain ⟨rfl, rfl, rfl⟩ := H
            go_enter Tryd.func36, Tryd.ntmps36
            go_wp2_with (first | (go_at_call 35; (with_reducible refine (num_Take.calls k a0 t291 t292 t293 _ A3.out).mono ?_); rintro e w' ⟨rfl, ⟨nd, rfl⟩⟩; (try first | exact ⟨rfl, _, World.drewN_drewN _ _ _⟩ | exact ⟨rfl, _, Eq.trans (World.drewN_drewN _ _ _) (congrArg (World.drewN _) (Nat.add_assoc _ _ _))⟩)))
            repeat (go_quiet (first | (go_at_call 35; (with_reducible refine (num_Take.calls k a0 t291 t292 t293 _ A3.out).mono ?_); rintro e w' ⟨rfl, ⟨nd, rfl⟩⟩; (try first | exact ⟨rfl, _, World.drewN_drewN _ _ _⟩ | exact ⟨rfl, _, Eq.trans (World.drewN_drewN _ _ _) (congrArg (World.drewN _) (Nat.add_assoc _ _ _))⟩))); try go_wp2_with (first | (go_at_call 35; (with_reducible refine (num_Take.calls k a0 t291 t292 t293 _ A3.out).mono ?_); rintro e w' ⟨rfl, ⟨nd, rfl⟩⟩; (try first | exact ⟨rfl, _, World.drewN_drewN _ _ _⟩ | exact ⟨rfl, _, Eq.trans (World.drewN_drewN _ _ _) (congrArg (World.drewN _) (Nat.add_assoc _ _ _))⟩))))
            go_ret3
            exact ⟨by first | rfl | (simp [errW_none, errW_some] <;> rfl) | (simp only [← hji5]; first | rfl | (simp [errW_none, errW_some] <;> rfl)) | (simp [*, errW_none, errW_some] <;> rfl), by repeat (first | (with_reducible first | exact HB.out | apply below_alloc | apply pw_below_drewN | apply below_drew1) | exact HB.out)⟩
          · rw [if_neg c9] at H
            exact absurd H (by simp)
        · rw [if_neg c8] at H
          exact absurd H (by simp)
  · rw [if_neg c4] at H
    have c4b0 : (t293 == 0) = false := beq_eq_false_iff_ne.mpr c4
    have c4b1 : (t293 != 0) = true := bne_iff_ne.mpr c4
    simp only [Option.some.injEq, Prod.mk.injEq] at H
    obtain ⟨rfl, rfl, rfl⟩ := H
    go_enter Tryd.func36, Tryd.ntmps36
    go_wp2_with (first | (go_at_call 35; (with_reducible refine (num_Take.calls k a0 t291 t292 t293 _ A3.out).mono ?_); rintro e w' ⟨rfl, ⟨nd, rfl⟩⟩; (try first | exact ⟨rfl, _, World.drewN_drewN _ _ _⟩ | exact ⟨rfl, _, Eq.trans (World.drewN_drewN _ _ _) (congrArg (World.drewN _) (Nat.add_assoc _ _ _))⟩)))
    repeat (go_quiet (first | (go_at_call 35; (with_reducible refine (num_Take.calls k a0 t291 t292 t293 _ A3.out).mono ?_); rintro e w' ⟨rfl, ⟨nd, rfl⟩⟩; (try first | exact ⟨rfl, _, World.drewN_drewN _ _ _⟩ | exact ⟨rfl, _, Eq.trans (World.drewN_drewN _ _ _) (congrArg (World.drewN _) (Nat.add_assoc _ _ _))⟩))); try go_wp2_with (first | (go_at_call 35; (with_reducible refine (num_Take.calls k a0 t291 t292 t293 _ A3.out).mono ?_); rintro e w' ⟨rfl, ⟨nd, rfl⟩⟩; (try first | exact ⟨rfl, _, World.drewN_drewN _ _ _⟩ | exact ⟨rfl, _, Eq.trans (World.drewN_drewN _ _ _) (congrArg (World.drewN _) (Nat.add_assoc _ _ _))⟩))))
    go_ret3
    exact ⟨by first | rfl | (simp [errW_none, errW_some] <;> rfl) | (simp [*, errW_none, errW_some] <;> rfl), by repeat (first | (with_reducible first | exact HB.out | apply below_alloc | apply pw_below_drewN | apply below_drew1) | exact HB.out)⟩

end Go.Proofs.YthaegbiblblccaaDoor.XEnt
