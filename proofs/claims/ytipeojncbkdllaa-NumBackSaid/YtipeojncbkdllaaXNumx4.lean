/- What the functions of the translation answer, each as a plain Lean function, and that the code comes to it; for a law: its row. Conditions: none but those that each theorem names. Written by a program of this session (wip/xp). -/
import Derived.Test.YtipeojncbkdllaaXNumx0
import Derived.Test.YtipeojncbkdllaaXNumx1
import Derived.Test.YtipeojncbkdllaaXNumx2
namespace Go.Proofs.Ytipeojncbkdllaa.XNum
open Go.RowKit Go.Proofs.YtipeojncbkdllaaW.PrintWords Go.Proofs.YtipeojncbkdllaaW.PrintLast Go.Proofs.YtipeojncbkdllaaW.PrintMore
attribute [local go_sem] max2_int min2_int max_two min_two max_three min_three max_four min_four   -- for this text's walks alone
set_option linter.unusedVariables false
set_option linter.unusedSimpArgs false

/-! ### postroomlaw1_NumOne: function 9 -/
mutual
def postroomlaw1_NumOne.j0 : Nat → ByteArray → Bool → Bool → Option (Bool)
  | 0, _, _, _ => none
  | k + 1, x0, x3, x20 => if x20 = true then (some x3) else ((num_Take.f k x0).bind fun bt169 => (if bt169.2.2 = 0 then ((num_TakeInt.f k x0).bind fun bt172 => (if bt172.2.2 = 0 then ((num_Put.f k bt169.1).bind fun t175 => (if t175.size + bt169.2.1.size ≤ 9223372036854775807 then (if (t175 ++ bt169.2.1).toList = x0.toList then ((num_PutInt.f k bt172.1).bind fun t176 => (if t176.size + bt172.2.1.size ≤ 9223372036854775807 then (if (t176 ++ bt172.2.1).toList = x0.toList then (postroomlaw1_NumOne.j1 k x0 bt169.1 (bt169.2.1.toList != bt172.2.1.toList)) else (postroomlaw1_NumOne.j1 k x0 bt169.1 true)) else (none))) else (postroomlaw1_NumOne.j1 k x0 bt169.1 true)) else (none))) else (postroomlaw1_NumOne.j1 k x0 bt169.1 true))) else (if bt169.2.2 = 2 then (if bt169.1 = 0 then (some (bt169.2.1.toList == ([] : List UInt8))) else (some false)) else (some false))))
def postroomlaw1_NumOne.j1 : Nat → ByteArray → Int → Bool → Option (Bool)
  | 0, _, _, _ => none
  | k + 1, x0, x4, x68 => if x68 = true then (some false) else ((num_TakeText.f k x0 (x0.size : Int)).bind fun bt177 => (if bt177.2.2 = 0 then ((num_PutText.f k bt177.1).bind fun t180 => (if t180.size + bt177.2.1.size ≤ 9223372036854775807 then (if (t180 ++ bt177.2.1).toList = x0.toList then (some ((IntKind.u64.wrap ((bt177.1.size : Int))) == x4)) else (some false)) else (none))) else (some true)))
end
def postroomlaw1_NumOne.f (k : Nat) (a0 : ByteArray) : Option (Bool) := (postroomlaw1_shown.f k).bind fun t168 => (if t168 = true then (postroomlaw1_NumOne.j0 k a0 t168 (decide ((a0.size : Int) > 3000))) else (postroomlaw1_NumOne.j0 k a0 t168 true))
theorem postroomlaw1_NumOne.mono_l : ∀ k, (∀ y0 y1 y2, LeO (postroomlaw1_NumOne.j0 k y0 y1 y2) (postroomlaw1_NumOne.j0 (k + 1) y0 y1 y2)) ∧ (∀ y0 y1 y2, LeO (postroomlaw1_NumOne.j1 k y0 y1 y2) (postroomlaw1_NumOne.j1 (k + 1) y0 y1 y2))
  | 0 => ⟨fun _ _ _ r h => by simp [postroomlaw1_NumOne.j0] at h, fun _ _ _ r h => by simp [postroomlaw1_NumOne.j1] at h⟩
  | k + 1 => by
    obtain ⟨ih0, ih1⟩ := postroomlaw1_NumOne.mono_l k
    refine ⟨?_, ?_⟩
    · intro y0 y1 y2
      unfold postroomlaw1_NumOne.j0
      repeat' first
      | (with_reducible exact ih0 _ _ _)
      | (with_reducible exact ih1 _ _ _)
      | (with_reducible exact num_Put.mono _ _)
      | (with_reducible exact num_PutInt.mono _ _)
      | (with_reducible exact num_PutText.mono _ _)
      | (with_reducible exact num_Take.mono _ _)
      | (with_reducible exact num_TakeInt.mono _ _)
      | (with_reducible exact num_TakeText.mono _ _ _)
      | (with_reducible exact postroomlaw1_shown.mono _)
      | (with_reducible exact LeO.refl _)
      | (with_reducible exact LeO.none _)
      | (with_reducible refine LeO.ite ?_ ?_)
      | (with_reducible refine LeO.bind ?_ (fun _ => ?_))
      | exact ih0 _ _ _
      | exact ih1 _ _ _
      | exact num_Put.mono _ _
      | exact num_PutInt.mono _ _
      | exact num_PutText.mono _ _
      | exact num_Take.mono _ _
      | exact num_TakeInt.mono _ _
      | exact num_TakeText.mono _ _ _
      | exact postroomlaw1_shown.mono _
      | exact LeO.none _
      | refine LeO.ite ?_ ?_
      | refine LeO.bind ?_ (fun _ => ?_)
    · intro y0 y1 y2
      unfold postroomlaw1_NumOne.j1
      repeat' first
      | (with_reducible exact ih0 _ _ _)
      | (with_reducible exact ih1 _ _ _)
      | (with_reducible exact num_Put.mono _ _)
      | (with_reducible exact num_PutInt.mono _ _)
      | (with_reducible exact num_PutText.mono _ _)
      | (with_reducible exact num_Take.mono _ _)
      | (with_reducible exact num_TakeInt.mono _ _)
      | (with_reducible exact num_TakeText.mono _ _ _)
      | (with_reducible exact postroomlaw1_shown.mono _)
      | (with_reducible exact LeO.refl _)
      | (with_reducible exact LeO.none _)
      | (with_reducible refine LeO.ite ?_ ?_)
      | (with_reducible refine LeO.bind ?_ (fun _ => ?_))
      | exact ih0 _ _ _
      | exact ih1 _ _ _
      | exact num_Put.mono _ _
      | exact num_PutInt.mono _ _
      | exact num_PutText.mono _ _
      | exact num_Take.mono _ _
      | exact num_TakeInt.mono _ _
      | exact num_TakeText.mono _ _ _
      | exact postroomlaw1_shown.mono _
      | exact LeO.none _
      | refine LeO.ite ?_ ?_
      | refine LeO.bind ?_ (fun _ => ?_)
theorem postroomlaw1_NumOne.mono : ∀ a0 k, LeO (postroomlaw1_NumOne.f k a0) (postroomlaw1_NumOne.f (k + 1) a0) := by
  intro a0 k
  obtain ⟨ih0, ih1⟩ := postroomlaw1_NumOne.mono_l k
  unfold postroomlaw1_NumOne.f
  repeat' first
      | (with_reducible exact ih0 _ _ _)
      | (with_reducible exact ih1 _ _ _)
      | (with_reducible exact num_Put.mono _ _)
      | (with_reducible exact num_PutInt.mono _ _)
      | (with_reducible exact num_PutText.mono _ _)
      | (with_reducible exact num_Take.mono _ _)
      | (with_reducible exact num_TakeInt.mono _ _)
      | (with_reducible exact num_TakeText.mono _ _ _)
      | (with_reducible exact postroomlaw1_shown.mono _)
      | (with_reducible exact LeO.refl _)
      | (with_reducible exact LeO.none _)
      | (with_reducible refine LeO.ite ?_ ?_)
      | (with_reducible refine LeO.bind ?_ (fun _ => ?_))
      | exact ih0 _ _ _
      | exact ih1 _ _ _
      | exact num_Put.mono _ _
      | exact num_PutInt.mono _ _
      | exact num_PutText.mono _ _
      | exact num_Take.mono _ _
      | exact num_TakeInt.mono _ _
      | exact num_TakeText.mono _ _ _
      | exact postroomlaw1_shown.mono _
      | exact LeO.none _
      | refine LeO.ite ?_ ?_
      | refine LeO.bind ?_ (fun _ => ?_)
set_option maxHeartbeats 8000000 in
set_option maxRecDepth 100000 in
theorem postroomlaw1_NumOne.calls (k : Nat) (a0 : ByteArray) (r : Bool) (w : World) (h : postroomlaw1_NumOne.f k a0 = some r) :
    Calls Try.prog 9 #[.string a0] w fun e w' => e = .returned (.bool r) ∧ Below w.heap.size w w' := by
  have HB := Aside0.mk (Below.refl w.heap.size w)
  have H : ((postroomlaw1_shown.f k).bind fun t168 => (if t168 = true then (postroomlaw1_NumOne.j0 k a0 t168 (decide ((a0.size : Int) > 3000))) else (postroomlaw1_NumOne.j0 k a0 t168 true))) = some r := h
  clear h
  replace H := Option.bind_eq_some_iff.mp H
  obtain ⟨t168, A20, H⟩ := H
  replace H : (if t168 = true then (postroomlaw1_NumOne.j0 k a0 t168 (decide ((a0.size : Int) > 3000))) else (postroomlaw1_NumOne.j0 k a0 t168 true)) = some r := H
  have A2 := Aside0.mk A20
  clear A20
  have HC3 := Aside0.mk H
  clear H
  go_enter Try.func9, Try.ntmps9
  go_upto_region 2 with (first | ((with_reducible refine gate_callee (f := 10) rfl ?_); refine goesL_ (some 13) rfl rfl Try.func10 (by kernel_rfl) rfl #[] rfl (by (try simp only [List.map_toArray, List.map_cons, List.map_nil]); first | done | rfl | (simp only [List.length_drop, List.length_take]; rfl)) ?_; (with_reducible refine (postroomlaw1_shown.calls k  t168 _ A2.out).mono ?_); rintro e w4 ⟨rfl, hb⟩; refine ⟨_, rfl, ?_⟩; have n0_ := Aside0.mk (below_step (by repeat (first | (with_reducible first | exact HB.out | apply below_alloc | apply pw_below_drewN | apply below_drew1) | exact HB.out)) hb); clear HB; have HB := n0_; clear n0_; (try clear hb); (try clear hb2); (try clear hk); (try clear hi)))
  (try simp only [Act.put, List.setIfInBounds_toArray, List.set_cons_zero, List.set_cons_succ])
  go_cut [20] (fun v20 wc => ∃ (kq : Nat) (x20_2 : Bool), v20 = .bool x20_2 ∧ Aside0 (postroomlaw1_NumOne.j0 kq a0 t168 x20_2 = some r) ∧ Aside0 (kq ≤ k) ∧ Aside0 (Below w.heap.size w wc))
  case first =>
    have H := HC3.out
    clear HC3
    by_cases c5 : t168 = true
    · subst c5
      have H1 : (postroomlaw1_NumOne.j0 k a0 true (decide ((a0.size : Int) > 3000))) = some r := by rw [if_pos rfl] at H; exact H
      clear H
      have H := H1
      clear H1
      have H' := Aside0.mk H
      clear H
      go_wp2
      go_meet
      case rel => exact ⟨_, (decide ((a0.size : Int) > 3000)), (by first | rfl | (simp; done) | (simp [*]; done)), H', ⟨by first | omega | exact Nat.le_refl _⟩, ⟨by repeat (first | (with_reducible first | exact HB.out | apply below_alloc | apply pw_below_drewN | apply below_drew1) | exact HB.out)⟩⟩
    · replace c5 := Bool.eq_false_iff.mpr c5
      subst c5
      have H1 : (postroomlaw1_NumOne.j0 k a0 false true) = some r := by rw [if_neg (show ¬ (false = true) by decide)] at H; exact H
      clear H
      have H := H1
      clear H1
      have H' := Aside0.mk H
      clear H
      go_wp2
      go_meet
      case rel => exact ⟨_, (true), (by first | rfl | (simp; done) | (simp [*]; done)), H', ⟨by first | omega | exact Nat.le_refl _⟩, ⟨by repeat (first | (with_reducible first | exact HB.out | apply below_alloc | apply pw_below_drewN | apply below_drew1) | exact HB.out)⟩⟩
  case rest =>
    clear HC3
    try clear c1
    try clear p2
    try clear c5
    obtain ⟨kq, x20_2, rfl, HA, HJ2, HB⟩ := hcut
    cases kq with
    | zero => exact absurd HA.out (by simp [postroomlaw1_NumOne.j0])
    | succ kj2 =>
      have H := HA.out
      clear HA
      simp only [postroomlaw1_NumOne.j0] at H
      by_cases c6 : x20_2 = true
      · subst c6
        have H1 : (some t168) = some r := by rw [if_pos rfl] at H; exact H
        clear H
        have H := H1
        clear H1
        obtain rfl := Option.some.inj H
        go_wp2
        go_ret
        exact ⟨by first | rfl | (simp [errW_none, errW_some] <;> rfl) | (simp [*, errW_none, errW_some] <;> rfl), by repeat (first | (with_reducible first | exact HB.out | apply below_alloc | apply pw_below_drewN | apply below_drew1) | exact HB.out)⟩
      · replace c6 := Bool.eq_false_iff.mpr c6
        subst c6
        have H1 : ((num_Take.f kj2 a0).bind fun bt169 => (if bt169.2.2 = 0 then ((num_TakeInt.f kj2 a0).bind fun bt172 => (if bt172.2.2 = 0 then ((num_Put.f kj2 bt169.1).bind fun t175 => (if t175.size + bt169.2.1.size ≤ 9223372036854775807 then (if (t175 ++ bt169.2.1).toList = a0.toList then ((num_PutInt.f kj2 bt172.1).bind fun t176 => (if t176.size + bt172.2.1.size ≤ 9223372036854775807 then (if (t176 ++ bt172.2.1).toList = a0.toList then (postroomlaw1_NumOne.j1 kj2 a0 bt169.1 (bt169.2.1.toList != bt172.2.1.toList)) else (postroomlaw1_NumOne.j1 kj2 a0 bt169.1 true)) else (none))) else (postroomlaw1_NumOne.j1 kj2 a0 bt169.1 true)) else (none))) else (postroomlaw1_NumOne.j1 kj2 a0 bt169.1 true))) else (if bt169.2.2 = 2 then (if bt169.1 = 0 then (some (bt169.2.1.toList == ([] : List UInt8))) else (some false)) else (some false)))) = some r := by rw [if_neg (show ¬ (false = true) by decide)] at H; exact H
        clear H
        have H := H1
        clear H1
        replace H := Option.bind_eq_some_iff.mp H
        obtain ⟨⟨t169, t170, t171⟩, A70, H⟩ := H
        replace H : (if t171 = 0 then ((num_TakeInt.f kj2 a0).bind fun bt172 => (if bt172.2.2 = 0 then ((num_Put.f kj2 t169).bind fun t175 => (if t175.size + t170.size ≤ 9223372036854775807 then (if (t175 ++ t170).toList = a0.toList then ((num_PutInt.f kj2 bt172.1).bind fun t176 => (if t176.size + bt172.2.1.size ≤ 9223372036854775807 then (if (t176 ++ bt172.2.1).toList = a0.toList then (postroomlaw1_NumOne.j1 kj2 a0 t169 (t170.toList != bt172.2.1.toList)) else (postroomlaw1_NumOne.j1 kj2 a0 t169 true)) else (none))) else (postroomlaw1_NumOne.j1 kj2 a0 t169 true)) else (none))) else (postroomlaw1_NumOne.j1 kj2 a0 t169 true))) else (if t171 = 2 then (if t169 = 0 then (some (t170.toList == ([] : List UInt8))) else (some false)) else (some false))) = some r := H
        have A7 := Aside0.mk A70
        clear A70
        by_cases c8 : t171 = 0
        · rw [if_pos c8] at H
          have c8b0 : (t171 == 0) = true := beq_iff_eq.mpr c8
          have c8b1 : (t171 != 0) = false := bne_eq_false_iff_eq.mpr c8
          clear c8
          replace H := Option.bind_eq_some_iff.mp H
          obtain ⟨⟨t172, t173, t174⟩, A90, H⟩ := H
          replace H : (if t174 = 0 then ((num_Put.f kj2 t169).bind fun t175 => (if t175.size + t170.size ≤ 9223372036854775807 then (if (t175 ++ t170).toList = a0.toList then ((num_PutInt.f kj2 t172).bind fun t176 => (if t176.size + t173.size ≤ 9223372036854775807 then (if (t176 ++ t173).toList = a0.toList then (postroomlaw1_NumOne.j1 kj2 a0 t169 (t170.toList != t173.toList)) else (postroomlaw1_NumOne.j1 kj2 a0 t169 true)) else (none))) else (postroomlaw1_NumOne.j1 kj2 a0 t169 true)) else (none))) else (postroomlaw1_NumOne.j1 kj2 a0 t169 true)) = some r := H
          have A9 := Aside0.mk A90
          clear A90
          have HC10 := Aside0.mk H
          clear H
          go_upto_region 8 with (first | ((with_reducible refine gate_callee (f := 17) rfl ?_); refine goesL_ (some 24) rfl rfl Try.func17 (by kernel_rfl) rfl #[.string a0] rfl (by (try simp only [List.map_toArray, List.map_cons, List.map_nil]); first | done | rfl | (simp only [List.length_drop, List.length_take]; rfl)) ?_; (with_reducible refine (num_Take.calls kj2 a0 t169 t170 t171 _ A7.out).mono ?_); rintro e w' ⟨rfl, ⟨nd, rfl⟩⟩; refine ⟨_, rfl, ?_⟩) | ((with_reducible refine gate_callee (f := 21) rfl ?_); refine goesL_ (some 42) rfl rfl Try.func21 (by kernel_rfl) rfl #[.string a0] rfl (by (try simp only [List.map_toArray, List.map_cons, List.map_nil]); first | done | rfl | (simp only [List.length_drop, List.length_take]; rfl)) ?_; (with_reducible refine (num_TakeInt.calls kj2 a0 t172 t173 t174 _ A9.out).mono ?_); rintro e w' ⟨rfl, ⟨nd, rfl⟩⟩; refine ⟨_, rfl, ?_⟩))
          (try simp only [Act.put, List.setIfInBounds_toArray, List.set_cons_zero, List.set_cons_succ])
          go_cut [68] (fun v68 wc => ∃ (kq : Nat) (x68_9 : Bool), v68 = .bool x68_9 ∧ Aside0 (postroomlaw1_NumOne.j1 kq a0 t169 x68_9 = some r) ∧ Aside0 (kq ≤ kj2) ∧ Aside0 (Below w.heap.size w wc))
          case first =>
            have H := HC10.out
            clear HC10
            by_cases c11 : t174 = 0
            · rw [if_pos c11] at H
              have c11b0 : (t174 == 0) = true := beq_iff_eq.mpr c11
              have c11b1 : (t174 != 0) = false := bne_eq_false_iff_eq.mpr c11
              clear c11
              (first | rw [c11b0] | (simp only [i64_w, i32_w]; rw [c11b0]) | skip)
              replace H := Option.bind_eq_some_iff.mp H
              obtain ⟨t175, A120, H⟩ := H
              replace H : (if t175.size + t170.size ≤ 9223372036854775807 then (if (t175 ++ t170).toList = a0.toList then ((num_PutInt.f kj2 t172).bind fun t176 => (if t176.size + t173.size ≤ 9223372036854775807 then (if (t176 ++ t173).toList = a0.toList then (postroomlaw1_NumOne.j1 kj2 a0 t169 (t170.toList != t173.toList)) else (postroomlaw1_NumOne.j1 kj2 a0 t169 true)) else (none))) else (postroomlaw1_NumOne.j1 kj2 a0 t169 true)) else (none)) = some r := H
              have A12 := Aside0.mk A120
              clear A120
              by_cases c13 : t175.size + t170.size ≤ 9223372036854775807
              · rw [if_pos c13] at H
                have c13b0 := eq_true c13
                have c13b1 : decide (t175.size + t170.size ≤ 9223372036854775807) = true := decide_eq_true c13
                try have c13b2 : (9223372036854775807 < t175.size + t170.size) = False := eq_false (Nat.not_lt.2 c13)
                clear c13
                by_cases c14 : (t175 ++ t170).toList = a0.toList
                · rw [if_pos c14] at H
                  have c14b0 : ((t175 ++ t170).toList == a0.toList) = true := beq_iff_eq.mpr c14
                  have c14b1 : ((t175 ++ t170).toList != a0.toList) = false := bne_eq_false_iff_eq.mpr c14
                  clear c14
                  replace H := Option.bind_eq_some_iff.mp H
                  obtain ⟨t176, A150, H⟩ := H
                  replace H : (if t176.size + t173.size ≤ 9223372036854775807 then (if (t176 ++ t173).toList = a0.toList then (postroomlaw1_NumOne.j1 kj2 a0 t169 (t170.toList != t173.toList)) else (postroomlaw1_NumOne.j1 kj2 a0 t169 true)) else (none)) = some r := H
                  have A15 := Aside0.mk A150
                  clear A150
                  by_cases c16 : t176.size + t173.size ≤ 9223372036854775807
                  · rw [if_pos c16] at H
                    have c16b0 := eq_true c16
                    have c16b1 : decide (t176.size + t173.size ≤ 9223372036854775807) = true := decide_eq_true c16
                    try have c16b2 : (9223372036854775807 < t176.size + t173.size) = False := eq_false (Nat.not_lt.2 c16)
                    clear c16
                    by_cases c17 : (t176 ++ t173).toList = a0.toList
                    · rw [if_pos c17] at H
                      have c17b0 : ((t176 ++ t173).toList == a0.toList) = true := beq_iff_eq.mpr c17
                      have c17b1 : ((t176 ++ t173).toList != a0.toList) = false := bne_eq_false_iff_eq.mpr c17
                      clear c17
                      have H' := Aside0.mk H
                      clear H
                      go_wp2_with (first | (go_at_call 11; (with_reducible refine (num_Put.calls kj2 t169 t175 _ A12.out).mono ?_); rintro e w18 ⟨rfl, hb⟩; have n0_ := Aside0.mk (below_step (by repeat (first | (with_reducible first | exact HB.out | apply below_alloc | apply pw_below_drewN | apply below_drew1) | exact HB.out)) hb); clear HB; have HB := n0_; clear n0_; (try clear hb); (try clear hb2); (try clear hk); (try clear hi)) | (go_at_call 13; (with_reducible refine (num_PutInt.calls kj2 t172 t176 _ A15.out).mono ?_); rintro e w19 ⟨rfl, hb⟩; have n0_ := Aside0.mk (below_step (by repeat (first | (with_reducible first | exact HB.out | apply below_alloc | apply pw_below_drewN | apply below_drew1) | exact HB.out)) hb); clear HB; have HB := n0_; clear n0_; (try clear hb); (try clear hb2); (try clear hk); (try clear hi)))
                      go_meet
                      case rel => exact ⟨_, ((t170.toList != t173.toList)), (by first | rfl | (simp; done) | (simp [*]; done)), H', ⟨by have := HJ2.out; first | omega | exact Nat.le_refl _⟩, ⟨by repeat (first | (with_reducible first | exact HB.out | apply below_alloc | apply pw_below_drewN | apply below_drew1) | exact HB.out)⟩⟩
                    · rw [if_neg c17] at H
                      have c17b0 : ((t176 ++ t173).toList == a0.toList) = false := beq_eq_false_iff_ne.mpr c17
                      have c17b1 : ((t176 ++ t173).toList != a0.toList) = true := bne_iff_ne.mpr c17
                      have H' := Aside0.mk H
                      clear H
                      go_wp2_with (first | (go_at_call 11; (with_reducible refine (num_Put.calls kj2 t169 t175 _ A12.out).mono ?_); rintro e w20 ⟨rfl, hb⟩; have n0_ := Aside0.mk (below_step (by repeat (first | (with_reducible first | exact HB.out | apply below_alloc | apply pw_below_drewN | apply below_drew1) | exact HB.out)) hb); clear HB; have HB := n0_; clear n0_; (try clear hb); (try clear hb2); (try clear hk); (try clear hi)) | (go_at_call 13; (with_reducible refine (num_PutInt.calls kj2 t172 t176 _ A15.out).mono ?_); rintro e w21 ⟨rfl, hb⟩; have n0_ := Aside0.mk (below_step (by repeat (first | (with_reducible first | exact HB.out | apply below_alloc | apply pw_below_drewN | apply below_drew1) | exact HB.out)) hb); clear HB; have HB := n0_; clear n0_; (try clear hb); (try clear hb2); (try clear hk); (try clear hi)))
                      go_meet
                      case rel => exact ⟨_, (true), (by first | rfl | (simp; done) | (simp [*]; done)), H', ⟨by have := HJ2.out; first | omega | exact Nat.le_refl _⟩, ⟨by repeat (first | (with_reducible first | exact HB.out | apply below_alloc | apply pw_below_drewN | apply below_drew1) | exact HB.out)⟩⟩
                  · rw [if_neg c16] at H
                    exact absurd H (by simp)
                · rw [if_neg c14] at H
                  have c14b0 : ((t175 ++ t170).toList == a0.toList) = false := beq_eq_false_iff_ne.mpr c14
                  have c14b1 : ((t175 ++ t170).toList != a0.toList) = true := bne_iff_ne.mpr c14
                  have H' := Aside0.mk H
                  clear H
                  go_wp2_with (first | (go_at_call 11; (with_reducible refine (num_Put.calls kj2 t169 t175 _ A12.out).mono ?_); rintro e w22 ⟨rfl, hb⟩; have n0_ := Aside0.mk (below_step (by repeat (first | (with_reducible first | exact HB.out | apply below_alloc | apply pw_below_drewN | apply below_drew1) | exact HB.out)) hb); clear HB; have HB := n0_; clear n0_; (try clear hb); (try clear hb2); (try clear hk); (try clear hi)))
                  go_meet
                  case rel => exact ⟨_, (true), (by first | rfl | (simp; done) | (simp [*]; done)), H', ⟨by have := HJ2.out; first | omega | exact Nat.le_refl _⟩, ⟨by repeat (first | (with_reducible first | exact HB.out | apply below_alloc | apply pw_below_drewN | apply below_drew1) | exact HB.out)⟩⟩
              · rw [if_neg c13] at H
                exact absurd H (by simp)
            · rw [if_neg c11] at H
              have c11b0 : (t174 == 0) = false := beq_eq_false_iff_ne.mpr c11
              have c11b1 : (t174 != 0) = true := bne_iff_ne.mpr c11
              (first | rw [c11b0] | (simp only [i64_w, i32_w]; rw [c11b0]) | skip)
              have H' := Aside0.mk H
              clear H
              go_wp2
              go_meet
              case rel => exact ⟨_, (true), (by first | rfl | (simp; done) | (simp [*]; done)), H', ⟨by have := HJ2.out; first | omega | exact Nat.le_refl _⟩, ⟨by repeat (first | (with_reducible first | exact HB.out | apply below_alloc | apply pw_below_drewN | apply below_drew1) | exact HB.out)⟩⟩
          case rest =>
            clear HC10
            try clear c1
            try clear c2
            try clear p2
            try clear c5
            try clear c6
            try clear c8
            try clear c8b0
            try clear c8b1
            try clear c9
            try clear c10
            try clear c11
            try clear c11b0
            try clear c11b1
            try clear c13
            try clear c13b0
            try clear c13b1
            try clear c13b2
            try clear c14
            try clear c14b0
            try clear c14b1
            try clear c16
            try clear c16b0
            try clear c16b1
            try clear c16b2
            try clear c17
            try clear c17b0
            try clear c17b1
            try clear c21
            try clear p2
            obtain ⟨kq, x68_9, rfl, HA, HJ9, HB⟩ := hcut
            cases kq with
            | zero => exact absurd HA.out (by simp [postroomlaw1_NumOne.j1])
            | succ kj9 =>
              have H := HA.out
              clear HA
              simp only [postroomlaw1_NumOne.j1] at H
              by_cases c23 : x68_9 = true
              · subst c23
                have H1 : (some false) = some r := by rw [if_pos rfl] at H; exact H
                clear H
                have H := H1
                clear H1
                obtain rfl := Option.some.inj H
                go_wp2
                go_ret
                exact ⟨by first | rfl | (simp [errW_none, errW_some] <;> rfl) | (simp [*, errW_none, errW_some] <;> rfl), by repeat (first | (with_reducible first | exact HB.out | apply below_alloc | apply pw_below_drewN | apply below_drew1) | exact HB.out)⟩
              · replace c23 := Bool.eq_false_iff.mpr c23
                subst c23
                have H1 : ((num_TakeText.f kj9 a0 (a0.size : Int)).bind fun bt177 => (if bt177.2.2 = 0 then ((num_PutText.f kj9 bt177.1).bind fun t180 => (if t180.size + bt177.2.1.size ≤ 9223372036854775807 then (if (t180 ++ bt177.2.1).toList = a0.toList then (some ((IntKind.u64.wrap ((bt177.1.size : Int))) == t169)) else (some false)) else (none))) else (some true))) = some r := by rw [if_neg (show ¬ (false = true) by decide)] at H; exact H
                clear H
                have H := H1
                clear H1
                replace H := Option.bind_eq_some_iff.mp H
                obtain ⟨⟨t177, t178, t179⟩, A240, H⟩ := H
                replace H : (if t179 = 0 then ((num_PutText.f kj9 t177).bind fun t180 => (if t180.size + t178.size ≤ 9223372036854775807 then (if (t180 ++ t178).toList = a0.toList then (some ((IntKind.u64.wrap ((t177.size : Int))) == t169)) else (some false)) else (none))) else (some true)) = some r := H
                have A24 := Aside0.mk A240
                clear A240
                by_cases c25 : t179 = 0
                · rw [if_pos c25] at H
                  have c25b0 : (t179 == 0) = true := beq_iff_eq.mpr c25
                  have c25b1 : (t179 != 0) = false := bne_eq_false_iff_eq.mpr c25
                  clear c25
                  replace H := Option.bind_eq_some_iff.mp H
                  obtain ⟨t180, A260, H⟩ := H
                  replace H : (if t180.size + t178.size ≤ 9223372036854775807 then (if (t180 ++ t178).toList = a0.toList then (some ((IntKind.u64.wrap ((t177.size : Int))) == t169)) else (some false)) else (none)) = some r := H
                  have A26 := Aside0.mk A260
                  clear A260
                  by_cases c27 : t180.size + t178.size ≤ 9223372036854775807
                  · rw [if_pos c27] at H
                    have c27b0 := eq_true c27
                    have c27b1 : decide (t180.size + t178.size ≤ 9223372036854775807) = true := decide_eq_true c27
                    try have c27b2 : (9223372036854775807 < t180.size + t178.size) = False := eq_false (Nat.not_lt.2 c27)
                    clear c27
                    by_cases c28 : (t180 ++ t178).toList = a0.toList
                    · rw [if_pos c28] at H
                      have c28b0 : ((t180 ++ t178).toList == a0.toList) = true := beq_iff_eq.mpr c28
                      have c28b1 : ((t180 ++ t178).toList != a0.toList) = false := bne_eq_false_iff_eq.mpr c28
                      clear c28
                      obtain rfl := Option.some.inj H
                      go_wp2_with (first | ((with_reducible refine gate_callee (f := 19) rfl ?_); refine goesL_ (some 73) rfl rfl Try.func19 (by kernel_rfl) rfl #[.string a0, .int .i64 (a0.size : Int)] rfl (by (try simp only [List.map_toArray, List.map_cons, List.map_nil]); first | done | rfl | (simp only [List.length_drop, List.length_take]; rfl)) ?_; (with_reducible refine (num_TakeText.calls kj9 a0 (a0.size : Int) t177 t178 t179 _ A24.out).mono ?_); rintro e w29 ⟨rfl, hb⟩; refine ⟨_, rfl, ?_⟩; have n0_ := Aside0.mk (below_step (by repeat (first | (with_reducible first | exact HB.out | apply below_alloc | apply pw_below_drewN | apply below_drew1) | exact HB.out)) hb); clear HB; have HB := n0_; clear n0_; (try clear hb); (try clear hb2); (try clear hk); (try clear hi)) | (go_at_call 15; (with_reducible refine (num_PutText.calls kj9 t177 t180 _ A26.out).mono ?_); rintro e w30 ⟨rfl, hb⟩; have n0_ := Aside0.mk (below_step (by repeat (first | (with_reducible first | exact HB.out | apply below_alloc | apply pw_below_drewN | apply below_drew1) | exact HB.out)) hb); clear HB; have HB := n0_; clear n0_; (try clear hb); (try clear hb2); (try clear hk); (try clear hi)))
                      go_ret
                      exact ⟨by first | rfl | (simp [errW_none, errW_some] <;> rfl) | (simp [*, errW_none, errW_some] <;> rfl), by repeat (first | (with_reducible first | exact HB.out | apply below_alloc | apply pw_below_drewN | apply below_drew1) | exact HB.out)⟩
                    · rw [if_neg c28] at H
                      have c28b0 : ((t180 ++ t178).toList == a0.toList) = false := beq_eq_false_iff_ne.mpr c28
                      have c28b1 : ((t180 ++ t178).toList != a0.toList) = true := bne_iff_ne.mpr c28
                      obtain rfl := Option.some.inj H
                      go_wp2_with (first | ((with_reducible refine gate_callee (f := 19) rfl ?_); refine goesL_ (some 73) rfl rfl Try.func19 (by kernel_rfl) rfl #[.string a0, .int .i64 (a0.size : Int)] rfl (by (try simp only [List.map_toArray, List.map_cons, List.map_nil]); first | done | rfl | (simp only [List.length_drop, List.length_take]; rfl)) ?_; (with_reducible refine (num_TakeText.calls kj9 a0 (a0.size : Int) t177 t178 t179 _ A24.out).mono ?_); rintro e w31 ⟨rfl, hb⟩; refine ⟨_, rfl, ?_⟩; have n0_ := Aside0.mk (below_step (by repeat (first | (with_reducible first | exact HB.out | apply below_alloc | apply pw_below_drewN | apply below_drew1) | exact HB.out)) hb); clear HB; have HB := n0_; clear n0_; (try clear hb); (try clear hb2); (try clear hk); (try clear hi)) | (go_at_call 15; (with_reducible refine (num_PutText.calls kj9 t177 t180 _ A26.out).mono ?_); rintro e w32 ⟨rfl, hb⟩; have n0_ := Aside0.mk (below_step (by repeat (first | (with_reducible first | exact HB.out | apply below_alloc | apply pw_below_drewN | apply below_drew1) | exact HB.out)) hb); clear HB; have HB := n0_; clear n0_; (try clear hb); (try clear hb2); (try clear hk); (try clear hi)))
                      go_ret
                      exact ⟨by first | rfl | (simp [errW_none, errW_some] <;> rfl) | (simp [*, errW_none, errW_some] <;> rfl), by repeat (first | (with_reducible first | exact HB.out | apply below_alloc | apply pw_below_drewN | apply below_drew1) | exact HB.out)⟩
                  · rw [if_neg c27] at H
                    exact absurd H (by simp)
                · rw [if_neg c25] at H
                  have c25b0 : (t179 == 0) = false := beq_eq_false_iff_ne.mpr c25
                  have c25b1 : (t179 != 0) = true := bne_iff_ne.mpr c25
                  obtain rfl := Option.some.inj H
                  go_wp2_with (first | ((with_reducible refine gate_callee (f := 19) rfl ?_); refine goesL_ (some 73) rfl rfl Try.func19 (by kernel_rfl) rfl #[.string a0, .int .i64 (a0.size : Int)] rfl (by (try simp only [List.map_toArray, List.map_cons, List.map_nil]); first | done | rfl | (simp only [List.length_drop, List.length_take]; rfl)) ?_; (with_reducible refine (num_TakeText.calls kj9 a0 (a0.size : Int) t177 t178 t179 _ A24.out).mono ?_); rintro e w33 ⟨rfl, hb⟩; refine ⟨_, rfl, ?_⟩; have n0_ := Aside0.mk (below_step (by repeat (first | (with_reducible first | exact HB.out | apply below_alloc | apply pw_below_drewN | apply below_drew1) | exact HB.out)) hb); clear HB; have HB := n0_; clear n0_; (try clear hb); (try clear hb2); (try clear hk); (try clear hi)))
                  go_ret
                  exact ⟨by first | rfl | (simp [errW_none, errW_some] <;> rfl) | (simp [*, errW_none, errW_some] <;> rfl), by repeat (first | (with_reducible first | exact HB.out | apply below_alloc | apply pw_below_drewN | apply below_drew1) | exact HB.out)⟩
        · rw [if_neg c8] at H
          have c8b0 : (t171 == 0) = false := beq_eq_false_iff_ne.mpr c8
          have c8b1 : (t171 != 0) = true := bne_iff_ne.mpr c8
          by_cases c34 : t171 = 2
          · rw [if_pos c34] at H
            have c34b0 : (t171 == 2) = true := beq_iff_eq.mpr c34
            have c34b1 : (t171 != 2) = false := bne_eq_false_iff_eq.mpr c34
            clear c34
            by_cases c35 : t169 = 0
            · rw [if_pos c35] at H
              have c35b0 : (t169 == 0) = true := beq_iff_eq.mpr c35
              have c35b1 : (t169 != 0) = false := bne_eq_false_iff_eq.mpr c35
              clear c35
              obtain rfl := Option.some.inj H
              go_wp2_with (first | ((with_reducible refine gate_callee (f := 17) rfl ?_); refine goesL_ (some 24) rfl rfl Try.func17 (by kernel_rfl) rfl #[.string a0] rfl (by (try simp only [List.map_toArray, List.map_cons, List.map_nil]); first | done | rfl | (simp only [List.length_drop, List.length_take]; rfl)) ?_; (with_reducible refine (num_Take.calls kj2 a0 t169 t170 t171 _ A7.out).mono ?_); rintro e w' ⟨rfl, ⟨nd, rfl⟩⟩; refine ⟨_, rfl, ?_⟩))
              go_ret
              exact ⟨by first | rfl | (simp [errW_none, errW_some] <;> rfl) | (simp [*, errW_none, errW_some] <;> rfl), by repeat (first | (with_reducible first | exact HB.out | apply below_alloc | apply pw_below_drewN | apply below_drew1) | exact HB.out)⟩
            · rw [if_neg c35] at H
              have c35b0 : (t169 == 0) = false := beq_eq_false_iff_ne.mpr c35
              have c35b1 : (t169 != 0) = true := bne_iff_ne.mpr c35
              obtain rfl := Option.some.inj H
              go_wp2_with (first | ((with_reducible refine gate_callee (f := 17) rfl ?_); refine goesL_ (some 24) rfl rfl Try.func17 (by kernel_rfl) rfl #[.string a0] rfl (by (try simp only [List.map_toArray, List.map_cons, List.map_nil]); first | done | rfl | (simp only [List.length_drop, List.length_take]; rfl)) ?_; (with_reducible refine (num_Take.calls kj2 a0 t169 t170 t171 _ A7.out).mono ?_); rintro e w' ⟨rfl, ⟨nd, rfl⟩⟩; refine ⟨_, rfl, ?_⟩))
              go_ret
              exact ⟨by first | rfl | (simp [errW_none, errW_some] <;> rfl) | (simp [*, errW_none, errW_some] <;> rfl), by repeat (first | (with_reducible first | exact HB.out | apply below_alloc | apply pw_below_drewN | apply below_drew1) | exact HB.out)⟩
          · rw [if_neg c34] at H
            have c34b0 : (t171 == 2) = false := beq_eq_false_iff_ne.mpr c34
            have c34b1 : (t171 != 2) = true := bne_iff_ne.mpr c34
            obtain rfl := Option.some.inj H
            go_wp2_with (first | ((with_reducible refine gate_callee (f := 17) rfl ?_); refine goesL_ (some 24) rfl rfl Try.func17 (by kernel_rfl) rfl #[.string a0] rfl (by (try simp only [List.map_toArray, List.map_cons, List.map_nil]); first | done | rfl | (simp only [List.length_drop, List.length_take]; rfl)) ?_; (with_reducible refine (num_Take.calls kj2 a0 t169 t170 t171 _ A7.out).mono ?_); rintro e w' ⟨rfl, ⟨nd, rfl⟩⟩; refine ⟨_, rfl, ?_⟩))
            go_ret
            exact ⟨by first | rfl | (simp [errW_none, errW_some] <;> rfl) | (simp [*, errW_none, errW_some] <;> rfl), by repeat (first | (with_reducible first | exact HB.out | apply below_alloc | apply pw_below_drewN | apply below_drew1) | exact HB.out)⟩

/-- THE ONE PURE STATEMENT of postroomlaw1_NumOne: yours. -/
def postroomlaw1_NumOne.Pure : Prop := ∀ (a0 : ByteArray), a0.size ≤ 140737488351232 → ∃ k, postroomlaw1_NumOne.f k a0 = some true
theorem postroomlaw1_NumOne.walk (P : postroomlaw1_NumOne.Pure) (a0 : ByteArray) (w : World) (w0 : a0.size ≤ 140737488351232) :
    Calls Try.prog 9 #[.string a0] w fun e w' => e = .returned (.bool true) ∧ Below w.heap.size w w' := by
  obtain ⟨k, h⟩ := P a0 w0
  refine (postroomlaw1_NumOne.calls k a0 true w h).mono ?_
  rintro e w' ⟨rfl, hd⟩
  exact ⟨rfl, hd⟩

/-! ### postroomlaw1_pick: function 18 -/
def postroomlaw1_pick.f (a0 : Int) (a1 : Int) : Option (Int) := if a0 < 0 then (if a1 = 0 then (none) else (some (Int.tmod (wrap64 (-(wrap64 (a0 + 1)))) a1))) else (if a1 = 0 then (none) else (some (Int.tmod a0 a1)))
set_option maxHeartbeats 8000000 in
set_option maxRecDepth 100000 in
theorem postroomlaw1_pick.calls (a0 : Int) (a1 : Int) (r : Int) (w : World) (h : postroomlaw1_pick.f a0 a1 = some r) :
    Calls Try.prog 18 #[.int .i64 a0, .int .i64 a1] w fun e w' => e = .returned (.int .i64 r) ∧ Drawn0 w w' := by
  have H : (if a0 < 0 then (if a1 = 0 then (none) else (some (Int.tmod (wrap64 (-(wrap64 (a0 + 1)))) a1))) else (if a1 = 0 then (none) else (some (Int.tmod a0 a1)))) = some r := h
  clear h
  by_cases c3 : a0 < 0
  · rw [if_pos c3] at H
    have c3b0 : decide (a0 < 0) = true := decide_eq_true c3
    clear c3
    by_cases c4 : a1 = 0
    · rw [if_pos c4] at H
      exact absurd H (by simp)
    · rw [if_neg c4] at H
      have c4b0 : (a1 == 0) = false := beq_eq_false_iff_ne.mpr c4
      have c4b1 : (a1 != 0) = true := bne_iff_ne.mpr c4
      obtain rfl := Option.some.inj H
      go_enter Try.func18, Try.ntmps18
      go_wp2
      go_ret
      exact ⟨by first | rfl | (simp; done) | (simp [*]; done), by repeat (first | exact Drawn0.refl _ | apply Drawn0.step)⟩
  · rw [if_neg c3] at H
    have c3b0 : decide (a0 < 0) = false := decide_eq_false c3
    clear c3
    by_cases c5 : a1 = 0
    · rw [if_pos c5] at H
      exact absurd H (by simp)
    · rw [if_neg c5] at H
      have c5b0 : (a1 == 0) = false := beq_eq_false_iff_ne.mpr c5
      have c5b1 : (a1 != 0) = true := bne_iff_ne.mpr c5
      obtain rfl := Option.some.inj H
      go_enter Try.func18, Try.ntmps18
      go_wp2
      go_ret
      exact ⟨by first | rfl | (simp; done) | (simp [*]; done), by repeat (first | exact Drawn0.refl _ | apply Drawn0.step)⟩

end Go.Proofs.Ytipeojncbkdllaa.XNum
