/- What the functions of the translation answer, each as a plain Lean function, and that the code comes to it; for a law: its row. Conditions: none but those that each theorem names. Written by a program of this session (wip/xp). -/
import Derived.Test.YtipeojncbkdllaaXNumx0
import Derived.Test.YtipeojncbkdllaaXNumx1
import Derived.Test.YtipeojncbkdllaaXNumx6
namespace Go.Proofs.Ytipeojncbkdllaa.XNum
open Go.RowKit Go.Proofs.YtipeojncbkdllaaW.PrintWords Go.Proofs.YtipeojncbkdllaaW.PrintLast Go.Proofs.YtipeojncbkdllaaW.PrintMore
attribute [local go_sem] max2_int min2_int max_two min_two max_three min_three max_four min_four   -- for this text's walks alone
set_option linter.unusedVariables false
set_option linter.unusedSimpArgs false

/-! ### postroomlaw1_NumPuts: function 3 -/
def postroomlaw1_NumPuts.j0 : Nat → Int → Int → ByteArray → Bool → Bool → Option (Bool)
  | 0, _, _, _, _, _ => none
  | k + 1, x0, x1, x2, x7, x15 => if x15 = true then (some x7) else ((num_Put.f k x0).bind fun t222 => ((postroomref1_Put.f k x0).bind fun t223 => (if t222.toList = t223.toList then ((num_PutInt.f k x1).bind fun t224 => ((postroomref1_PutInt.f k x1).bind fun t225 => (if t224.toList = t225.toList then ((num_PutText.f k x2).bind fun t226 => ((postroomref1_PutText.f k x2).bind fun t227 => (some (t226.toList == t227.toList)))) else (some false)))) else (some false))))
def postroomlaw1_NumPuts.f (k : Nat) (a0 : Int) (a1 : Int) (a2 : ByteArray) : Option (Bool) := (postroomlaw1_shown.f k).bind fun t221 => (if t221 = true then (postroomlaw1_NumPuts.j0 k a0 a1 a2 t221 (decide ((a2.size : Int) > 3000))) else (postroomlaw1_NumPuts.j0 k a0 a1 a2 t221 true))
theorem postroomlaw1_NumPuts.mono_l : ∀ k, (∀ y0 y1 y2 y3 y4, LeO (postroomlaw1_NumPuts.j0 k y0 y1 y2 y3 y4) (postroomlaw1_NumPuts.j0 (k + 1) y0 y1 y2 y3 y4))
  | 0 => fun _ _ _ _ _ r h => by simp [postroomlaw1_NumPuts.j0] at h
  | k + 1 => by
    have ih0 := postroomlaw1_NumPuts.mono_l k
    · intro y0 y1 y2 y3 y4
      unfold postroomlaw1_NumPuts.j0
      repeat' first
      | (with_reducible exact ih0 _ _ _ _ _)
      | (with_reducible exact num_Put.mono _ _)
      | (with_reducible exact num_PutInt.mono _ _)
      | (with_reducible exact num_PutText.mono _ _)
      | (with_reducible exact postroomlaw1_shown.mono _)
      | (with_reducible exact postroomref1_Put.mono _ _)
      | (with_reducible exact postroomref1_PutInt.mono _ _)
      | (with_reducible exact postroomref1_PutText.mono _ _)
      | (with_reducible exact LeO.refl _)
      | (with_reducible exact LeO.none _)
      | (with_reducible refine LeO.ite ?_ ?_)
      | (with_reducible refine LeO.bind ?_ (fun _ => ?_))
      | exact ih0 _ _ _ _ _
      | exact num_Put.mono _ _
      | exact num_PutInt.mono _ _
      | exact num_PutText.mono _ _
      | exact postroomlaw1_shown.mono _
      | exact postroomref1_Put.mono _ _
      | exact postroomref1_PutInt.mono _ _
      | exact postroomref1_PutText.mono _ _
      | exact LeO.none _
      | refine LeO.ite ?_ ?_
      | refine LeO.bind ?_ (fun _ => ?_)
theorem postroomlaw1_NumPuts.mono : ∀ a0 a1 a2 k, LeO (postroomlaw1_NumPuts.f k a0 a1 a2) (postroomlaw1_NumPuts.f (k + 1) a0 a1 a2) := by
  intro a0 a1 a2 k
  have ih0 := postroomlaw1_NumPuts.mono_l k
  unfold postroomlaw1_NumPuts.f
  repeat' first
      | (with_reducible exact ih0 _ _ _ _ _)
      | (with_reducible exact num_Put.mono _ _)
      | (with_reducible exact num_PutInt.mono _ _)
      | (with_reducible exact num_PutText.mono _ _)
      | (with_reducible exact postroomlaw1_shown.mono _)
      | (with_reducible exact postroomref1_Put.mono _ _)
      | (with_reducible exact postroomref1_PutInt.mono _ _)
      | (with_reducible exact postroomref1_PutText.mono _ _)
      | (with_reducible exact LeO.refl _)
      | (with_reducible exact LeO.none _)
      | (with_reducible refine LeO.ite ?_ ?_)
      | (with_reducible refine LeO.bind ?_ (fun _ => ?_))
      | exact ih0 _ _ _ _ _
      | exact num_Put.mono _ _
      | exact num_PutInt.mono _ _
      | exact num_PutText.mono _ _
      | exact postroomlaw1_shown.mono _
      | exact postroomref1_Put.mono _ _
      | exact postroomref1_PutInt.mono _ _
      | exact postroomref1_PutText.mono _ _
      | exact LeO.none _
      | refine LeO.ite ?_ ?_
      | refine LeO.bind ?_ (fun _ => ?_)
set_option maxHeartbeats 8000000 in
set_option maxRecDepth 100000 in
theorem postroomlaw1_NumPuts.calls (k : Nat) (a0 : Int) (a1 : Int) (a2 : ByteArray) (r : Bool) (w : World) (h : postroomlaw1_NumPuts.f k a0 a1 a2 = some r) :
    Calls Try.prog 3 #[.int .u64 a0, .int .i64 a1, .string a2] w fun e w' => e = .returned (.bool r) ∧ Below w.heap.size w w' := by
  have HB := Aside0.mk (Below.refl w.heap.size w)
  have H : ((postroomlaw1_shown.f k).bind fun t221 => (if t221 = true then (postroomlaw1_NumPuts.j0 k a0 a1 a2 t221 (decide ((a2.size : Int) > 3000))) else (postroomlaw1_NumPuts.j0 k a0 a1 a2 t221 true))) = some r := h
  clear h
  replace H := Option.bind_eq_some_iff.mp H
  obtain ⟨t221, A40, H⟩ := H
  replace H : (if t221 = true then (postroomlaw1_NumPuts.j0 k a0 a1 a2 t221 (decide ((a2.size : Int) > 3000))) else (postroomlaw1_NumPuts.j0 k a0 a1 a2 t221 true)) = some r := H
  have A4 := Aside0.mk A40
  clear A40
  have HC5 := Aside0.mk H
  clear H
  go_enter Try.func3, Try.ntmps3
  go_upto_region 2 with (first | ((with_reducible refine gate_callee (f := 10) rfl ?_); refine goesL_ (some 8) rfl rfl Try.func10 (by kernel_rfl) rfl #[] rfl (by (try simp only [List.map_toArray, List.map_cons, List.map_nil]); first | done | rfl | (simp only [List.length_drop, List.length_take]; rfl)) ?_; (with_reducible refine (postroomlaw1_shown.calls k  t221 _ A4.out).mono ?_); rintro e w6 ⟨rfl, hb⟩; refine ⟨_, rfl, ?_⟩; have n0_ := Aside0.mk (below_step (by repeat (first | (with_reducible first | exact HB.out | apply below_alloc | apply pw_below_drewN | apply below_drew1) | exact HB.out)) hb); clear HB; have HB := n0_; clear n0_; (try clear hb); (try clear hb2); (try clear hk); (try clear hi)))
  (try simp only [Act.put, List.setIfInBounds_toArray, List.set_cons_zero, List.set_cons_succ])
  go_cut [15] (fun v15 wc => ∃ (kq : Nat) (x15_4 : Bool), v15 = .bool x15_4 ∧ Aside0 (postroomlaw1_NumPuts.j0 kq a0 a1 a2 t221 x15_4 = some r) ∧ Aside0 (kq ≤ k) ∧ Aside0 (Below w.heap.size w wc))
  case first =>
    have H := HC5.out
    clear HC5
    by_cases c7 : t221 = true
    · subst c7
      have H1 : (postroomlaw1_NumPuts.j0 k a0 a1 a2 true (decide ((a2.size : Int) > 3000))) = some r := by rw [if_pos rfl] at H; exact H
      clear H
      have H := H1
      clear H1
      have H' := Aside0.mk H
      clear H
      go_wp2
      go_meet
      case rel => exact ⟨_, (decide ((a2.size : Int) > 3000)), (by first | rfl | (simp; done) | (simp [*]; done)), H', ⟨by first | omega | exact Nat.le_refl _⟩, ⟨by repeat (first | (with_reducible first | exact HB.out | apply below_alloc | apply pw_below_drewN | apply below_drew1) | exact HB.out)⟩⟩
    · replace c7 := Bool.eq_false_iff.mpr c7
      subst c7
      have H1 : (postroomlaw1_NumPuts.j0 k a0 a1 a2 false true) = some r := by rw [if_neg (show ¬ (false = true) by decide)] at H; exact H
      clear H
      have H := H1
      clear H1
      have H' := Aside0.mk H
      clear H
      go_wp2
      go_meet
      case rel => exact ⟨_, (true), (by first | rfl | (simp; done) | (simp [*]; done)), H', ⟨by first | omega | exact Nat.le_refl _⟩, ⟨by repeat (first | (with_reducible first | exact HB.out | apply below_alloc | apply pw_below_drewN | apply below_drew1) | exact HB.out)⟩⟩
  case rest =>
    clear HC5
    try clear c1
    try clear p2
    try clear c3
    try clear c7
    obtain ⟨kq, x15_4, rfl, HA, HJ4, HB⟩ := hcut
    cases kq with
    | zero => exact absurd HA.out (by simp [postroomlaw1_NumPuts.j0])
    | succ kj4 =>
      have H := HA.out
      clear HA
      simp only [postroomlaw1_NumPuts.j0] at H
      by_cases c8 : x15_4 = true
      · subst c8
        have H1 : (some t221) = some r := by rw [if_pos rfl] at H; exact H
        clear H
        have H := H1
        clear H1
        obtain rfl := Option.some.inj H
        go_wp2
        go_ret
        exact ⟨by first | rfl | (simp [errW_none, errW_some] <;> rfl) | (simp [*, errW_none, errW_some] <;> rfl), by repeat (first | (with_reducible first | exact HB.out | apply below_alloc | apply pw_below_drewN | apply below_drew1) | exact HB.out)⟩
      · replace c8 := Bool.eq_false_iff.mpr c8
        subst c8
        have H1 : ((num_Put.f kj4 a0).bind fun t222 => ((postroomref1_Put.f kj4 a0).bind fun t223 => (if t222.toList = t223.toList then ((num_PutInt.f kj4 a1).bind fun t224 => ((postroomref1_PutInt.f kj4 a1).bind fun t225 => (if t224.toList = t225.toList then ((num_PutText.f kj4 a2).bind fun t226 => ((postroomref1_PutText.f kj4 a2).bind fun t227 => (some (t226.toList == t227.toList)))) else (some false)))) else (some false)))) = some r := by rw [if_neg (show ¬ (false = true) by decide)] at H; exact H
        clear H
        have H := H1
        clear H1
        replace H := Option.bind_eq_some_iff.mp H
        obtain ⟨t222, A90, H⟩ := H
        replace H : ((postroomref1_Put.f kj4 a0).bind fun t223 => (if t222.toList = t223.toList then ((num_PutInt.f kj4 a1).bind fun t224 => ((postroomref1_PutInt.f kj4 a1).bind fun t225 => (if t224.toList = t225.toList then ((num_PutText.f kj4 a2).bind fun t226 => ((postroomref1_PutText.f kj4 a2).bind fun t227 => (some (t226.toList == t227.toList)))) else (some false)))) else (some false))) = some r := H
        have A9 := Aside0.mk A90
        clear A90
        replace H := Option.bind_eq_some_iff.mp H
        obtain ⟨t223, A100, H⟩ := H
        replace H : (if t222.toList = t223.toList then ((num_PutInt.f kj4 a1).bind fun t224 => ((postroomref1_PutInt.f kj4 a1).bind fun t225 => (if t224.toList = t225.toList then ((num_PutText.f kj4 a2).bind fun t226 => ((postroomref1_PutText.f kj4 a2).bind fun t227 => (some (t226.toList == t227.toList)))) else (some false)))) else (some false)) = some r := H
        have A10 := Aside0.mk A100
        clear A100
        by_cases c11 : t222.toList = t223.toList
        · rw [if_pos c11] at H
          have c11b0 : (t222.toList == t223.toList) = true := beq_iff_eq.mpr c11
          have c11b1 : (t222.toList != t223.toList) = false := bne_eq_false_iff_eq.mpr c11
          clear c11
          replace H := Option.bind_eq_some_iff.mp H
          obtain ⟨t224, A120, H⟩ := H
          replace H : ((postroomref1_PutInt.f kj4 a1).bind fun t225 => (if t224.toList = t225.toList then ((num_PutText.f kj4 a2).bind fun t226 => ((postroomref1_PutText.f kj4 a2).bind fun t227 => (some (t226.toList == t227.toList)))) else (some false))) = some r := H
          have A12 := Aside0.mk A120
          clear A120
          replace H := Option.bind_eq_some_iff.mp H
          obtain ⟨t225, A130, H⟩ := H
          replace H : (if t224.toList = t225.toList then ((num_PutText.f kj4 a2).bind fun t226 => ((postroomref1_PutText.f kj4 a2).bind fun t227 => (some (t226.toList == t227.toList)))) else (some false)) = some r := H
          have A13 := Aside0.mk A130
          clear A130
          by_cases c14 : t224.toList = t225.toList
          · rw [if_pos c14] at H
            have c14b0 : (t224.toList == t225.toList) = true := beq_iff_eq.mpr c14
            have c14b1 : (t224.toList != t225.toList) = false := bne_eq_false_iff_eq.mpr c14
            clear c14
            replace H := Option.bind_eq_some_iff.mp H
            obtain ⟨t226, A150, H⟩ := H
            replace H : ((postroomref1_PutText.f kj4 a2).bind fun t227 => (some (t226.toList == t227.toList))) = some r := H
            have A15 := Aside0.mk A150
            clear A150
            replace H := Option.bind_eq_some_iff.mp H
            obtain ⟨t227, A160, H⟩ := H
            replace H : (some (t226.toList == t227.toList)) = some r := H
            have A16 := Aside0.mk A160
            clear A160
            obtain rfl := Option.some.inj H
            go_wp2_with (first | ((with_reducible refine gate_callee (f := 11) rfl ?_); refine goesL_ (some 18) rfl rfl Try.func11 (by kernel_rfl) rfl #[.int .u64 a0] rfl (by (try simp only [List.map_toArray, List.map_cons, List.map_nil]); first | done | rfl | (simp only [List.length_drop, List.length_take]; rfl)) ?_; (with_reducible refine (num_Put.calls kj4 a0 t222 _ A9.out).mono ?_); rintro e w17 ⟨rfl, hb⟩; refine ⟨_, rfl, ?_⟩; have n0_ := Aside0.mk (below_step (by repeat (first | (with_reducible first | exact HB.out | apply below_alloc | apply pw_below_drewN | apply below_drew1) | exact HB.out)) hb); clear HB; have HB := n0_; clear n0_; (try clear hb); (try clear hb2); (try clear hk); (try clear hi)) | ((with_reducible refine gate_callee (f := 12) rfl ?_); refine goesL_ (some 20) rfl rfl Try.func12 (by kernel_rfl) rfl #[.int .u64 a0] rfl (by (try simp only [List.map_toArray, List.map_cons, List.map_nil]); first | done | rfl | (simp only [List.length_drop, List.length_take]; rfl)) ?_; (with_reducible refine (postroomref1_Put.calls kj4 a0 t223 _ A10.out).mono ?_); rintro e w18 ⟨rfl, hb⟩; refine ⟨_, rfl, ?_⟩; have n0_ := Aside0.mk (below_step (by repeat (first | (with_reducible first | exact HB.out | apply below_alloc | apply pw_below_drewN | apply below_drew1) | exact HB.out)) hb); clear HB; have HB := n0_; clear n0_; (try clear hb); (try clear hb2); (try clear hk); (try clear hi)) | (go_at_call 13; (with_reducible refine (num_PutInt.calls kj4 a1 t224 _ A12.out).mono ?_); rintro e w19 ⟨rfl, hb⟩; have n0_ := Aside0.mk (below_step (by repeat (first | (with_reducible first | exact HB.out | apply below_alloc | apply pw_below_drewN | apply below_drew1) | exact HB.out)) hb); clear HB; have HB := n0_; clear n0_; (try clear hb); (try clear hb2); (try clear hk); (try clear hi)) | (go_at_call 14; (with_reducible refine (postroomref1_PutInt.calls kj4 a1 t225 _ A13.out).mono ?_); rintro e w20 ⟨rfl, hb⟩; have n0_ := Aside0.mk (below_step (by repeat (first | (with_reducible first | exact HB.out | apply below_alloc | apply pw_below_drewN | apply below_drew1) | exact HB.out)) hb); clear HB; have HB := n0_; clear n0_; (try clear hb); (try clear hb2); (try clear hk); (try clear hi)) | (go_at_call 15; (with_reducible refine (num_PutText.calls kj4 a2 t226 _ A15.out).mono ?_); rintro e w21 ⟨rfl, hb⟩; have n0_ := Aside0.mk (below_step (by repeat (first | (with_reducible first | exact HB.out | apply below_alloc | apply pw_below_drewN | apply below_drew1) | exact HB.out)) hb); clear HB; have HB := n0_; clear n0_; (try clear hb); (try clear hb2); (try clear hk); (try clear hi)) | (go_at_call 16; (with_reducible refine (postroomref1_PutText.calls kj4 a2 t227 _ A16.out).mono ?_); rintro e w22 ⟨rfl, hb⟩; have n0_ := Aside0.mk (below_step (by repeat (first | (with_reducible first | exact HB.out | apply below_alloc | apply pw_below_drewN | apply below_drew1) | exact HB.out)) hb); clear HB; have HB := n0_; clear n0_; (try clear hb); (try clear hb2); (try clear hk); (try clear hi)))
            go_ret
            exact ⟨by first | rfl | (simp [errW_none, errW_some] <;> rfl) | (simp [*, errW_none, errW_some] <;> rfl), by repeat (first | (with_reducible first | exact HB.out | apply below_alloc | apply pw_below_drewN | apply below_drew1) | exact HB.out)⟩
          · rw [if_neg c14] at H
            have c14b0 : (t224.toList == t225.toList) = false := beq_eq_false_iff_ne.mpr c14
            have c14b1 : (t224.toList != t225.toList) = true := bne_iff_ne.mpr c14
            obtain rfl := Option.some.inj H
            go_wp2_with (first | ((with_reducible refine gate_callee (f := 11) rfl ?_); refine goesL_ (some 18) rfl rfl Try.func11 (by kernel_rfl) rfl #[.int .u64 a0] rfl (by (try simp only [List.map_toArray, List.map_cons, List.map_nil]); first | done | rfl | (simp only [List.length_drop, List.length_take]; rfl)) ?_; (with_reducible refine (num_Put.calls kj4 a0 t222 _ A9.out).mono ?_); rintro e w23 ⟨rfl, hb⟩; refine ⟨_, rfl, ?_⟩; have n0_ := Aside0.mk (below_step (by repeat (first | (with_reducible first | exact HB.out | apply below_alloc | apply pw_below_drewN | apply below_drew1) | exact HB.out)) hb); clear HB; have HB := n0_; clear n0_; (try clear hb); (try clear hb2); (try clear hk); (try clear hi)) | ((with_reducible refine gate_callee (f := 12) rfl ?_); refine goesL_ (some 20) rfl rfl Try.func12 (by kernel_rfl) rfl #[.int .u64 a0] rfl (by (try simp only [List.map_toArray, List.map_cons, List.map_nil]); first | done | rfl | (simp only [List.length_drop, List.length_take]; rfl)) ?_; (with_reducible refine (postroomref1_Put.calls kj4 a0 t223 _ A10.out).mono ?_); rintro e w24 ⟨rfl, hb⟩; refine ⟨_, rfl, ?_⟩; have n0_ := Aside0.mk (below_step (by repeat (first | (with_reducible first | exact HB.out | apply below_alloc | apply pw_below_drewN | apply below_drew1) | exact HB.out)) hb); clear HB; have HB := n0_; clear n0_; (try clear hb); (try clear hb2); (try clear hk); (try clear hi)) | (go_at_call 13; (with_reducible refine (num_PutInt.calls kj4 a1 t224 _ A12.out).mono ?_); rintro e w25 ⟨rfl, hb⟩; have n0_ := Aside0.mk (below_step (by repeat (first | (with_reducible first | exact HB.out | apply below_alloc | apply pw_below_drewN | apply below_drew1) | exact HB.out)) hb); clear HB; have HB := n0_; clear n0_; (try clear hb); (try clear hb2); (try clear hk); (try clear hi)) | (go_at_call 14; (with_reducible refine (postroomref1_PutInt.calls kj4 a1 t225 _ A13.out).mono ?_); rintro e w26 ⟨rfl, hb⟩; have n0_ := Aside0.mk (below_step (by repeat (first | (with_reducible first | exact HB.out | apply below_alloc | apply pw_below_drewN | apply below_drew1) | exact HB.out)) hb); clear HB; have HB := n0_; clear n0_; (try clear hb); (try clear hb2); (try clear hk); (try clear hi)))
            go_ret
            exact ⟨by first | rfl | (simp [errW_none, errW_some] <;> rfl) | (simp [*, errW_none, errW_some] <;> rfl), by repeat (first | (with_reducible first | exact HB.out | apply below_alloc | apply pw_below_drewN | apply below_drew1) | exact HB.out)⟩
        · rw [if_neg c11] at H
          have c11b0 : (t222.toList == t223.toList) = false := beq_eq_false_iff_ne.mpr c11
          have c11b1 : (t222.toList != t223.toList) = true := bne_iff_ne.mpr c11
          obtain rfl := Option.some.inj H
          go_wp2_with (first | ((with_reducible refine gate_callee (f := 11) rfl ?_); refine goesL_ (some 18) rfl rfl Try.func11 (by kernel_rfl) rfl #[.int .u64 a0] rfl (by (try simp only [List.map_toArray, List.map_cons, List.map_nil]); first | done | rfl | (simp only [List.length_drop, List.length_take]; rfl)) ?_; (with_reducible refine (num_Put.calls kj4 a0 t222 _ A9.out).mono ?_); rintro e w27 ⟨rfl, hb⟩; refine ⟨_, rfl, ?_⟩; have n0_ := Aside0.mk (below_step (by repeat (first | (with_reducible first | exact HB.out | apply below_alloc | apply pw_below_drewN | apply below_drew1) | exact HB.out)) hb); clear HB; have HB := n0_; clear n0_; (try clear hb); (try clear hb2); (try clear hk); (try clear hi)) | ((with_reducible refine gate_callee (f := 12) rfl ?_); refine goesL_ (some 20) rfl rfl Try.func12 (by kernel_rfl) rfl #[.int .u64 a0] rfl (by (try simp only [List.map_toArray, List.map_cons, List.map_nil]); first | done | rfl | (simp only [List.length_drop, List.length_take]; rfl)) ?_; (with_reducible refine (postroomref1_Put.calls kj4 a0 t223 _ A10.out).mono ?_); rintro e w28 ⟨rfl, hb⟩; refine ⟨_, rfl, ?_⟩; have n0_ := Aside0.mk (below_step (by repeat (first | (with_reducible first | exact HB.out | apply below_alloc | apply pw_below_drewN | apply below_drew1) | exact HB.out)) hb); clear HB; have HB := n0_; clear n0_; (try clear hb); (try clear hb2); (try clear hk); (try clear hi)))
          go_ret
          exact ⟨by first | rfl | (simp [errW_none, errW_some] <;> rfl) | (simp [*, errW_none, errW_some] <;> rfl), by repeat (first | (with_reducible first | exact HB.out | apply below_alloc | apply pw_below_drewN | apply below_drew1) | exact HB.out)⟩

/-- THE ONE PURE STATEMENT of postroomlaw1_NumPuts: yours. -/
def postroomlaw1_NumPuts.Pure : Prop := ∀ (a0 : Int) (a1 : Int) (a2 : ByteArray), (Lit.int .u64 a0).wf = true → (Lit.int .i64 a1).wf = true → a2.size ≤ 140737488351232 → ∃ k, postroomlaw1_NumPuts.f k a0 a1 a2 = some true
theorem postroomlaw1_NumPuts.walk (P : postroomlaw1_NumPuts.Pure) (a0 : Int) (a1 : Int) (a2 : ByteArray) (w : World) (w0 : (Lit.int .u64 a0).wf = true) (w1 : (Lit.int .i64 a1).wf = true) (w2 : a2.size ≤ 140737488351232) :
    Calls Try.prog 3 #[.int .u64 a0, .int .i64 a1, .string a2] w fun e w' => e = .returned (.bool true) ∧ Below w.heap.size w w' := by
  obtain ⟨k, h⟩ := P a0 a1 a2 w0 w1 w2
  refine (postroomlaw1_NumPuts.calls k a0 a1 a2 true w h).mono ?_
  rintro e w' ⟨rfl, hd⟩
  exact ⟨rfl, hd⟩

/-! ### postroomlaw1_NumSigns: function 4 -/
def postroomlaw1_NumSigns.f (k : Nat) (a0 : Int) : Option (Bool) := (postroomlaw1_shown.f k).bind fun t228 => (if t228 = true then ((num_PutInt.f k a0).bind fun t229 => ((num_PutInt.f k (wrap64 (-(wrap64 (a0 + 1))))).bind fun t230 => (if (t229.size : Int) = (t230.size : Int) then (if (t229.size : Int) = 0 then (some false) else (if 0 < (t229.size : Int) then (if 0 < (t230.size : Int) then (if (Go.bits .xor .u8 (bt t229 0) (bt t230 0)) = 1 then (if 1 ≤ (t229.size : Int) then (if 1 ≤ (t230.size : Int) then (if (t229.extract 1 t229.size).toList = (t230.extract 1 t230.size).toList then (if a0 ≥ (-64) then (some (((t229.size : Int) == 1) == (decide (a0 < 64)))) else (some (((t229.size : Int) == 1) == false))) else (some false)) else (none)) else (none)) else (some false)) else (none)) else (none))) else (some false)))) else (some false))
theorem postroomlaw1_NumSigns.mono : ∀ a0 k, LeO (postroomlaw1_NumSigns.f k a0) (postroomlaw1_NumSigns.f (k + 1) a0) := by
  intro a0 k
  unfold postroomlaw1_NumSigns.f
  repeat' first
      | (with_reducible exact num_PutInt.mono _ _)
      | (with_reducible exact postroomlaw1_shown.mono _)
      | (with_reducible exact LeO.refl _)
      | (with_reducible exact LeO.none _)
      | (with_reducible refine LeO.ite ?_ ?_)
      | (with_reducible refine LeO.bind ?_ (fun _ => ?_))
      | exact num_PutInt.mono _ _
      | exact postroomlaw1_shown.mono _
      | exact LeO.none _
      | refine LeO.ite ?_ ?_
      | refine LeO.bind ?_ (fun _ => ?_)
set_option maxHeartbeats 8000000 in
set_option maxRecDepth 100000 in
theorem postroomlaw1_NumSigns.calls (k : Nat) (a0 : Int) (r : Bool) (w : World) (h : postroomlaw1_NumSigns.f k a0 = some r) :
    Calls Try.prog 4 #[.int .i64 a0] w fun e w' => e = .returned (.bool r) ∧ Below w.heap.size w w' := by
  have HB := Aside0.mk (Below.refl w.heap.size w)
  have H : ((postroomlaw1_shown.f k).bind fun t228 => (if t228 = true then ((num_PutInt.f k a0).bind fun t229 => ((num_PutInt.f k (wrap64 (-(wrap64 (a0 + 1))))).bind fun t230 => (if (t229.size : Int) = (t230.size : Int) then (if (t229.size : Int) = 0 then (some false) else (if 0 < (t229.size : Int) then (if 0 < (t230.size : Int) then (if (Go.bits .xor .u8 (bt t229 0) (bt t230 0)) = 1 then (if 1 ≤ (t229.size : Int) then (if 1 ≤ (t230.size : Int) then (if (t229.extract 1 t229.size).toList = (t230.extract 1 t230.size).toList then (if a0 ≥ (-64) then (some (((t229.size : Int) == 1) == (decide (a0 < 64)))) else (some (((t229.size : Int) == 1) == false))) else (some false)) else (none)) else (none)) else (some false)) else (none)) else (none))) else (some false)))) else (some false))) = some r := h
  clear h
  replace H := Option.bind_eq_some_iff.mp H
  obtain ⟨t228, A20, H⟩ := H
  replace H : (if t228 = true then ((num_PutInt.f k a0).bind fun t229 => ((num_PutInt.f k (wrap64 (-(wrap64 (a0 + 1))))).bind fun t230 => (if (t229.size : Int) = (t230.size : Int) then (if (t229.size : Int) = 0 then (some false) else (if 0 < (t229.size : Int) then (if 0 < (t230.size : Int) then (if (Go.bits .xor .u8 (bt t229 0) (bt t230 0)) = 1 then (if 1 ≤ (t229.size : Int) then (if 1 ≤ (t230.size : Int) then (if (t229.extract 1 t229.size).toList = (t230.extract 1 t230.size).toList then (if a0 ≥ (-64) then (some (((t229.size : Int) == 1) == (decide (a0 < 64)))) else (some (((t229.size : Int) == 1) == false))) else (some false)) else (none)) else (none)) else (some false)) else (none)) else (none))) else (some false)))) else (some false)) = some r := H
  have A2 := Aside0.mk A20
  clear A20
  by_cases c3 : t228 = true
  · subst c3
    have H1 : ((num_PutInt.f k a0).bind fun t229 => ((num_PutInt.f k (wrap64 (-(wrap64 (a0 + 1))))).bind fun t230 => (if (t229.size : Int) = (t230.size : Int) then (if (t229.size : Int) = 0 then (some false) else (if 0 < (t229.size : Int) then (if 0 < (t230.size : Int) then (if (Go.bits .xor .u8 (bt t229 0) (bt t230 0)) = 1 then (if 1 ≤ (t229.size : Int) then (if 1 ≤ (t230.size : Int) then (if (t229.extract 1 t229.size).toList = (t230.extract 1 t230.size).toList then (if a0 ≥ (-64) then (some (((t229.size : Int) == 1) == (decide (a0 < 64)))) else (some (((t229.size : Int) == 1) == false))) else (some false)) else (none)) else (none)) else (some false)) else (none)) else (none))) else (some false)))) = some r := by rw [if_pos rfl] at H; exact H
    clear H
    have H := H1
    clear H1
    replace H := Option.bind_eq_some_iff.mp H
    obtain ⟨t229, A40, H⟩ := H
    replace H : ((num_PutInt.f k (wrap64 (-(wrap64 (a0 + 1))))).bind fun t230 => (if (t229.size : Int) = (t230.size : Int) then (if (t229.size : Int) = 0 then (some false) else (if 0 < (t229.size : Int) then (if 0 < (t230.size : Int) then (if (Go.bits .xor .u8 (bt t229 0) (bt t230 0)) = 1 then (if 1 ≤ (t229.size : Int) then (if 1 ≤ (t230.size : Int) then (if (t229.extract 1 t229.size).toList = (t230.extract 1 t230.size).toList then (if a0 ≥ (-64) then (some (((t229.size : Int) == 1) == (decide (a0 < 64)))) else (some (((t229.size : Int) == 1) == false))) else (some false)) else (none)) else (none)) else (some false)) else (none)) else (none))) else (some false))) = some r := H
    have A4 := Aside0.mk A40
    clear A40
    replace H := Option.bind_eq_some_iff.mp H
    obtain ⟨t230, A50, H⟩ := H
    replace H : (if (t229.size : Int) = (t230.size : Int) then (if (t229.size : Int) = 0 then (some false) else (if 0 < (t229.size : Int) then (if 0 < (t230.size : Int) then (if (Go.bits .xor .u8 (bt t229 0) (bt t230 0)) = 1 then (if 1 ≤ (t229.size : Int) then (if 1 ≤ (t230.size : Int) then (if (t229.extract 1 t229.size).toList = (t230.extract 1 t230.size).toList then (if a0 ≥ (-64) then (some (((t229.size : Int) == 1) == (decide (a0 < 64)))) else (some (((t229.size : Int) == 1) == false))) else (some false)) else (none)) else (none)) else (some false)) else (none)) else (none))) else (some false)) = some r := H
    have A5 := Aside0.mk A50
    clear A50
    by_cases c6 : (t229.size : Int) = (t230.size : Int)
    · rw [if_pos c6] at H
      have c6b0 : ((t229.size : Int) == (t230.size : Int)) = true := beq_iff_eq.mpr c6
      have c6b1 : ((t229.size : Int) != (t230.size : Int)) = false := bne_eq_false_iff_eq.mpr c6
      have c6b2 : (t229.size == t230.size) = true := by first | simpa using c6 | (simp at c6 ⊢; omega)
      clear c6
      by_cases c7 : (t229.size : Int) = 0
      · rw [if_pos c7] at H
        have c7b0 : ((t229.size : Int) == 0) = true := beq_iff_eq.mpr c7
        have c7b1 : ((t229.size : Int) != 0) = false := bne_eq_false_iff_eq.mpr c7
        clear c7
        obtain rfl := Option.some.inj H
        go_enter Try.func4, Try.ntmps4
        go_wp2_with (first | (go_at_call 10; (with_reducible refine (postroomlaw1_shown.calls k  true _ A2.out).mono ?_); rintro e w8 ⟨rfl, hb⟩; have n0_ := Aside0.mk (below_step (by repeat (first | (with_reducible first | exact HB.out | apply below_alloc | apply pw_below_drewN | apply below_drew1) | exact HB.out)) hb); clear HB; have HB := n0_; clear n0_; (try clear hb); (try clear hb2); (try clear hk); (try clear hi)) | (go_at_call 13; (with_reducible refine (num_PutInt.calls k a0 t229 _ A4.out).mono ?_); rintro e w9 ⟨rfl, hb⟩; have n0_ := Aside0.mk (below_step (by repeat (first | (with_reducible first | exact HB.out | apply below_alloc | apply pw_below_drewN | apply below_drew1) | exact HB.out)) hb); clear HB; have HB := n0_; clear n0_; (try clear hb); (try clear hb2); (try clear hk); (try clear hi)) | (go_at_call 13; (with_reducible refine (num_PutInt.calls k (wrap64 (-(wrap64 (a0 + 1)))) t230 _ A5.out).mono ?_); rintro e w10 ⟨rfl, hb⟩; have n0_ := Aside0.mk (below_step (by repeat (first | (with_reducible first | exact HB.out | apply below_alloc | apply pw_below_drewN | apply below_drew1) | exact HB.out)) hb); clear HB; have HB := n0_; clear n0_; (try clear hb); (try clear hb2); (try clear hk); (try clear hi)))
        repeat (go_quiet (first | (go_at_call 10; (with_reducible refine (postroomlaw1_shown.calls k  true _ A2.out).mono ?_); rintro e w8 ⟨rfl, hb⟩; have n0_ := Aside0.mk (below_step (by repeat (first | (with_reducible first | exact HB.out | apply below_alloc | apply pw_below_drewN | apply below_drew1) | exact HB.out)) hb); clear HB; have HB := n0_; clear n0_; (try clear hb); (try clear hb2); (try clear hk); (try clear hi)) | (go_at_call 13; (with_reducible refine (num_PutInt.calls k a0 t229 _ A4.out).mono ?_); rintro e w9 ⟨rfl, hb⟩; have n0_ := Aside0.mk (below_step (by repeat (first | (with_reducible first | exact HB.out | apply below_alloc | apply pw_below_drewN | apply below_drew1) | exact HB.out)) hb); clear HB; have HB := n0_; clear n0_; (try clear hb); (try clear hb2); (try clear hk); (try clear hi)) | (go_at_call 13; (with_reducible refine (num_PutInt.calls k (wrap64 (-(wrap64 (a0 + 1)))) t230 _ A5.out).mono ?_); rintro e w10 ⟨rfl, hb⟩; have n0_ := Aside0.mk (below_step (by repeat (first | (with_reducible first | exact HB.out | apply below_alloc | apply pw_below_drewN | apply below_drew1) | exact HB.out)) hb); clear HB; have HB := n0_; clear n0_; (try clear hb); (try clear hb2); (try clear hk); (try clear hi))); try go_wp2_with (first | (go_at_call 10; (with_reducible refine (postroomlaw1_shown.calls k  true _ A2.out).mono ?_); rintro e w8 ⟨rfl, hb⟩; have n0_ := Aside0.mk (below_step (by repeat (first | (with_reducible first | exact HB.out | apply below_alloc | apply pw_below_drewN | apply below_drew1) | exact HB.out)) hb); clear HB; have HB := n0_; clear n0_; (try clear hb); (try clear hb2); (try clear hk); (try clear hi)) | (go_at_call 13; (with_reducible refine (num_PutInt.calls k a0 t229 _ A4.out).mono ?_); rintro e w9 ⟨rfl, hb⟩; have n0_ := Aside0.mk (below_step (by repeat (first | (with_reducible first | exact HB.out | apply below_alloc | apply pw_below_drewN | apply below_drew1) | exact HB.out)) hb); clear HB; have HB := n0_; clear n0_; (try clear hb); (try clear hb2); (try clear hk); (try clear hi)) | (go_at_call 13; (with_reducible refine (num_PutInt.calls k (wrap64 (-(wrap64 (a0 + 1)))) t230 _ A5.out).mono ?_); rintro e w10 ⟨rfl, hb⟩; have n0_ := Aside0.mk (below_step (by repeat (first | (with_reducible first | exact HB.out | apply below_alloc | apply pw_below_drewN | apply below_drew1) | exact HB.out)) hb); clear HB; have HB := n0_; clear n0_; (try clear hb); (try clear hb2); (try clear hk); (try clear hi))))
        go_ret
        exact ⟨by first | rfl | (simp [errW_none, errW_some] <;> rfl) | (simp [*, errW_none, errW_some] <;> rfl), by repeat (first | (with_reducible first | exact HB.out | apply below_alloc | apply pw_below_drewN | apply below_drew1) | exact HB.out)⟩
      · rw [if_neg c7] at H
        have c7b0 : ((t229.size : Int) == 0) = false := beq_eq_false_iff_ne.mpr c7
        have c7b1 : ((t229.size : Int) != 0) = true := bne_iff_ne.mpr c7
        by_cases c11 : 0 < (t229.size : Int)
        · rw [if_pos c11] at H
          have c11b0 : decide (0 < (t229.size : Int)) = true := decide_eq_true c11
          have c11b1 : decide (0 < t229.size) = true := decide_eq_true (by omega)
          clear c11
          by_cases c13 : 0 < (t230.size : Int)
          · rw [if_pos c13] at H
            have c13b0 : decide (0 < (t230.size : Int)) = true := decide_eq_true c13
            have c13b1 : decide (0 < t230.size) = true := decide_eq_true (by omega)
            clear c13
            by_cases c15 : (Go.bits .xor .u8 (bt t229 0) (bt t230 0)) = 1
            · rw [if_pos c15] at H
              have c15b0 : ((Go.bits .xor .u8 (bt t229 0) (bt t230 0)) == 1) = true := beq_iff_eq.mpr c15
              have c15b1 : ((Go.bits .xor .u8 (bt t229 0) (bt t230 0)) != 1) = false := bne_eq_false_iff_eq.mpr c15
              clear c15
              by_cases c16 : 1 ≤ (t229.size : Int)
              · rw [if_pos c16] at H
                have c16b0 := eq_true c16
                have c16b1 : decide (1 ≤ (t229.size : Int)) = true := decide_eq_true c16
                clear c16
                by_cases c17 : 1 ≤ (t230.size : Int)
                · rw [if_pos c17] at H
                  have c17b0 := eq_true c17
                  have c17b1 : decide (1 ≤ (t230.size : Int)) = true := decide_eq_true c17
                  clear c17
                  by_cases c18 : (t229.extract 1 t229.size).toList = (t230.extract 1 t230.size).toList
                  · rw [if_pos c18] at H
                    have c18b0 : ((t229.extract 1 t229.size).toList == (t230.extract 1 t230.size).toList) = true := beq_iff_eq.mpr c18
                    have c18b1 : ((t229.extract 1 t229.size).toList != (t230.extract 1 t230.size).toList) = false := bne_eq_false_iff_eq.mpr c18
                    clear c18
                    by_cases c19 : a0 ≥ (-64)
                    · rw [if_pos c19] at H
                      have c19b0 : decide ((-64) ≤ a0) = true := decide_eq_true c19
                      clear c19
                      obtain rfl := Option.some.inj H
                      go_enter Try.func4, Try.ntmps4
                      go_wp2_with (first | (go_at_call 10; (with_reducible refine (postroomlaw1_shown.calls k  true _ A2.out).mono ?_); rintro e w20 ⟨rfl, hb⟩; have n0_ := Aside0.mk (below_step (by repeat (first | (with_reducible first | exact HB.out | apply below_alloc | apply pw_below_drewN | apply below_drew1) | exact HB.out)) hb); clear HB; have HB := n0_; clear n0_; (try clear hb); (try clear hb2); (try clear hk); (try clear hi)) | (go_at_call 13; (with_reducible refine (num_PutInt.calls k a0 t229 _ A4.out).mono ?_); rintro e w21 ⟨rfl, hb⟩; have n0_ := Aside0.mk (below_step (by repeat (first | (with_reducible first | exact HB.out | apply below_alloc | apply pw_below_drewN | apply below_drew1) | exact HB.out)) hb); clear HB; have HB := n0_; clear n0_; (try clear hb); (try clear hb2); (try clear hk); (try clear hi)) | (go_at_call 13; (with_reducible refine (num_PutInt.calls k (wrap64 (-(wrap64 (a0 + 1)))) t230 _ A5.out).mono ?_); rintro e w22 ⟨rfl, hb⟩; have n0_ := Aside0.mk (below_step (by repeat (first | (with_reducible first | exact HB.out | apply below_alloc | apply pw_below_drewN | apply below_drew1) | exact HB.out)) hb); clear HB; have HB := n0_; clear n0_; (try clear hb); (try clear hb2); (try clear hk); (try clear hi); have p12 : 0 ≤ (0 : Int) := (by omega); have q12 : 0 < t229.size := (by have : (0 : Int) < (t229.size : Int) := of_decide_eq_true (by first | (with_reducible assumption) | assumption); omega); have hx12 : ∀ h : 0 < t229.size, ((t229[0]'h).toNat : Int) = bt t229 0 := bt_at t229 0; clear p12; have qi12 : (0 < (t229.size : Int)) = True := eq_true (of_decide_eq_true (by first | (with_reducible assumption) | assumption)); replace q12 := eq_true q12; have p14 : 0 ≤ (0 : Int) := (by omega); have q14 : 0 < t230.size := (by have : (0 : Int) < (t230.size : Int) := of_decide_eq_true (by first | (with_reducible assumption) | assumption); omega); have hx14 : ∀ h : 0 < t230.size, ((t230[0]'h).toNat : Int) = bt t230 0 := bt_at t230 0; clear p14; have qi14 : (0 < (t230.size : Int)) = True := eq_true (of_decide_eq_true (by first | (with_reducible assumption) | assumption)); replace q14 := eq_true q14))
                      repeat (go_quiet (first | (go_at_call 10; (with_reducible refine (postroomlaw1_shown.calls k  true _ A2.out).mono ?_); rintro e w20 ⟨rfl, hb⟩; have n0_ := Aside0.mk (below_step (by repeat (first | (with_reducible first | exact HB.out | apply below_alloc | apply pw_below_drewN | apply below_drew1) | exact HB.out)) hb); clear HB; have HB := n0_; clear n0_; (try clear hb); (try clear hb2); (try clear hk); (try clear hi)) | (go_at_call 13; (with_reducible refine (num_PutInt.calls k a0 t229 _ A4.out).mono ?_); rintro e w21 ⟨rfl, hb⟩; have n0_ := Aside0.mk (below_step (by repeat (first | (with_reducible first | exact HB.out | apply below_alloc | apply pw_below_drewN | apply below_drew1) | exact HB.out)) hb); clear HB; have HB := n0_; clear n0_; (try clear hb); (try clear hb2); (try clear hk); (try clear hi)) | (go_at_call 13; (with_reducible refine (num_PutInt.calls k (wrap64 (-(wrap64 (a0 + 1)))) t230 _ A5.out).mono ?_); rintro e w22 ⟨rfl, hb⟩; have n0_ := Aside0.mk (below_step (by repeat (first | (with_reducible first | exact HB.out | apply below_alloc | apply pw_below_drewN | apply below_drew1) | exact HB.out)) hb); clear HB; have HB := n0_; clear n0_; (try clear hb); (try clear hb2); (try clear hk); (try clear hi); have p12 : 0 ≤ (0 : Int) := (by omega); have q12 : 0 < t229.size := (by have : (0 : Int) < (t229.size : Int) := of_decide_eq_true (by first | (with_reducible assumption) | assumption); omega); have hx12 : ∀ h : 0 < t229.size, ((t229[0]'h).toNat : Int) = bt t229 0 := bt_at t229 0; clear p12; have qi12 : (0 < (t229.size : Int)) = True := eq_true (of_decide_eq_true (by first | (with_reducible assumption) | assumption)); replace q12 := eq_true q12; have p14 : 0 ≤ (0 : Int) := (by omega); have q14 : 0 < t230.size := (by have : (0 : Int) < (t230.size : Int) := of_decide_eq_true (by first | (with_reducible assumption) | assumption); omega); have hx14 : ∀ h : 0 < t230.size, ((t230[0]'h).toNat : Int) = bt t230 0 := bt_at t230 0; clear p14; have qi14 : (0 < (t230.size : Int)) = True := eq_true (of_decide_eq_true (by first | (with_reducible assumption) | assumption)); replace q14 := eq_true q14)); try go_wp2_with (first | (go_at_call 10; (with_reducible refine (postroomlaw1_shown.calls k  true _ A2.out).mono ?_); rintro e w20 ⟨rfl, hb⟩; have n0_ := Aside0.mk (below_step (by repeat (first | (with_reducible first | exact HB.out | apply below_alloc | apply pw_below_drewN | apply below_drew1) | exact HB.out)) hb); clear HB; have HB := n0_; clear n0_; (try clear hb); (try clear hb2); (try clear hk); (try clear hi)) | (go_at_call 13; (with_reducible refine (num_PutInt.calls k a0 t229 _ A4.out).mono ?_); rintro e w21 ⟨rfl, hb⟩; have n0_ := Aside0.mk (below_step (by repeat (first | (with_reducible first | exact HB.out | apply below_alloc | apply pw_below_drewN | apply below_drew1) | exact HB.out)) hb); clear HB; have HB := n0_; clear n0_; (try clear hb); (try clear hb2); (try clear hk); (try clear hi)) | (go_at_call 13; (with_reducible refine (num_PutInt.calls k (wrap64 (-(wrap64 (a0 + 1)))) t230 _ A5.out).mono ?_); rintro e w22 ⟨rfl, hb⟩; have n0_ := Aside0.mk (below_step (by repeat (first | (with_reducible first | exact HB.out | apply below_alloc | apply pw_below_drewN | apply below_drew1) | exact HB.out)) hb); clear HB; have HB := n0_; clear n0_; (try clear hb); (try clear hb2); (try clear hk); (try clear hi); have p12 : 0 ≤ (0 : Int) := (by omega); have q12 : 0 < t229.size := (by have : (0 : Int) < (t229.size : Int) := of_decide_eq_true (by first | (with_reducible assumption) | assumption); omega); have hx12 : ∀ h : 0 < t229.size, ((t229[0]'h).toNat : Int) = bt t229 0 := bt_at t229 0; clear p12; have qi12 : (0 < (t229.size : Int)) = True := eq_true (of_decide_eq_true (by first | (with_reducible assumption) | assumption)); replace q12 := eq_true q12; have p14 : 0 ≤ (0 : Int) := (by omega); have q14 : 0 < t230.size := (by have : (0 : Int) < (t230.size : Int) := of_decide_eq_true (by first | (with_reducible assumption) | assumption); omega); have hx14 : ∀ h : 0 < t230.size, ((t230[0]'h).toNat : Int) = bt t230 0 := bt_at t230 0; clear p14; have qi14 : (0 < (t230.size : Int)) = True := eq_true (of_decide_eq_true (by first | (with_reducible assumption) | assumption)); replace q14 := eq_true q14)))
                      go_ret
                      exact ⟨by first | rfl | (simp [errW_none, errW_some] <;> rfl) | (simp [*, errW_none, errW_some] <;> rfl), by repeat (first | (with_reducible first | exact HB.out | apply below_alloc | apply pw_below_drewN | apply below_drew1) | exact HB.out)⟩
                    · rw [if_neg c19] at H
                      have c19b0 : decide ((-64) ≤ a0) = false := decide_eq_false c19
                      clear c19
                      obtain rfl := Option.some.inj H
                      go_enter Try.func4, Try.ntmps4
                      go_wp2_with (first | (go_at_call 10; (with_reducible refine (postroomlaw1_shown.calls k  true _ A2.out).mono ?_); rintro e w23 ⟨rfl, hb⟩; have n0_ := Aside0.mk (below_step (by repeat (first | (with_reducible first | exact HB.out | apply below_alloc | apply pw_below_drewN | apply below_drew1) | exact HB.out)) hb); clear HB; have HB := n0_; clear n0_; (try clear hb); (try clear hb2); (try clear hk); (try clear hi)) | (go_at_call 13; (with_reducible refine (num_PutInt.calls k a0 t229 _ A4.out).mono ?_); rintro e w24 ⟨rfl, hb⟩; have n0_ := Aside0.mk (below_step (by repeat (first | (with_reducible first | exact HB.out | apply below_alloc | apply pw_below_drewN | apply below_drew1) | exact HB.out)) hb); clear HB; have HB := n0_; clear n0_; (try clear hb); (try clear hb2); (try clear hk); (try clear hi)) | (go_at_call 13; (with_reducible refine (num_PutInt.calls k (wrap64 (-(wrap64 (a0 + 1)))) t230 _ A5.out).mono ?_); rintro e w25 ⟨rfl, hb⟩; have n0_ := Aside0.mk (below_step (by repeat (first | (with_reducible first | exact HB.out | apply below_alloc | apply pw_below_drewN | apply below_drew1) | exact HB.out)) hb); clear HB; have HB := n0_; clear n0_; (try clear hb); (try clear hb2); (try clear hk); (try clear hi); have p12 : 0 ≤ (0 : Int) := (by omega); have q12 : 0 < t229.size := (by have : (0 : Int) < (t229.size : Int) := of_decide_eq_true (by first | (with_reducible assumption) | assumption); omega); have hx12 : ∀ h : 0 < t229.size, ((t229[0]'h).toNat : Int) = bt t229 0 := bt_at t229 0; clear p12; have qi12 : (0 < (t229.size : Int)) = True := eq_true (of_decide_eq_true (by first | (with_reducible assumption) | assumption)); replace q12 := eq_true q12; have p14 : 0 ≤ (0 : Int) := (by omega); have q14 : 0 < t230.size := (by have : (0 : Int) < (t230.size : Int) := of_decide_eq_true (by first | (with_reducible assumption) | assumption); omega); have hx14 : ∀ h : 0 < t230.size, ((t230[0]'h).toNat : Int) = bt t230 0 := bt_at t230 0; clear p14; have qi14 : (0 < (t230.size : Int)) = True := eq_true (of_decide_eq_true (by first | (with_reducible assumption) | assumption)); replace q14 := eq_true q14))
                      repeat (go_quiet (first | (go_at_call 10; (with_reducible refine (postroomlaw1_shown.calls k  true _ A2.out).mono ?_); rintro e w23 ⟨rfl, hb⟩; have n0_ := Aside0.mk (below_step (by repeat (first | (with_reducible first | exact HB.out | apply below_alloc | apply pw_below_drewN | apply below_drew1) | exact HB.out)) hb); clear HB; have HB := n0_; clear n0_; (try clear hb); (try clear hb2); (try clear hk); (try clear hi)) | (go_at_call 13; (with_reducible refine (num_PutInt.calls k a0 t229 _ A4.out).mono ?_); rintro e w24 ⟨rfl, hb⟩; have n0_ := Aside0.mk (below_step (by repeat (first | (with_reducible first | exact HB.out | apply below_alloc | apply pw_below_drewN | apply below_drew1) | exact HB.out)) hb); clear HB; have HB := n0_; clear n0_; (try clear hb); (try clear hb2); (try clear hk); (try clear hi)) | (go_at_call 13; (with_reducible refine (num_PutInt.calls k (wrap64 (-(wrap64 (a0 + 1)))) t230 _ A5.out).mono ?_); rintro e w25 ⟨rfl, hb⟩; have n0_ := Aside0.mk (below_step (by repeat (first | (with_reducible first | exact HB.out | apply below_alloc | apply pw_below_drewN | apply below_drew1) | exact HB.out)) hb); clear HB; have HB := n0_; clear n0_; (try clear hb); (try clear hb2); (try clear hk); (try clear hi); have p12 : 0 ≤ (0 : Int) := (by omega); have q12 : 0 < t229.size := (by have : (0 : Int) < (t229.size : Int) := of_decide_eq_true (by first | (with_reducible assumption) | assumption); omega); have hx12 : ∀ h : 0 < t229.size, ((t229[0]'h).toNat : Int) = bt t229 0 := bt_at t229 0; clear p12; have qi12 : (0 < (t229.size : Int)) = True := eq_true (of_decide_eq_true (by first | (with_reducible assumption) | assumption)); replace q12 := eq_true q12; have p14 : 0 ≤ (0 : Int) := (by omega); have q14 : 0 < t230.size := (by have : (0 : Int) < (t230.size : Int) := of_decide_eq_true (by first | (with_reducible assumption) | assumption); omega); have hx14 : ∀ h : 0 < t230.size, ((t230[0]'h).toNat : Int) = bt t230 0 := bt_at t230 0; clear p14; have qi14 : (0 < (t230.size : Int)) = True := eq_true (of_decide_eq_true (by first | (with_reducible assumption) | assumption)); replace q14 := eq_true q14)); try go_wp2_with (first | (go_at_call 10; (with_reducible refine (postroomlaw1_shown.calls k  true _ A2.out).mono ?_); rintro e w23 ⟨rfl, hb⟩; have n0_ := Aside0.mk (below_step (by repeat (first | (with_reducible first | exact HB.out | apply below_alloc | apply pw_below_drewN | apply below_drew1) | exact HB.out)) hb); clear HB; have HB := n0_; clear n0_; (try clear hb); (try clear hb2); (try clear hk); (try clear hi)) | (go_at_call 13; (with_reducible refine (num_PutInt.calls k a0 t229 _ A4.out).mono ?_); rintro e w24 ⟨rfl, hb⟩; have n0_ := Aside0.mk (below_step (by repeat (first | (with_reducible first | exact HB.out | apply below_alloc | apply pw_below_drewN | apply below_drew1) | exact HB.out)) hb); clear HB; have HB := n0_; clear n0_; (try clear hb); (try clear hb2); (try clear hk); (try clear hi)) | (go_at_call 13; (with_reducible refine (num_PutInt.calls k (wrap64 (-(wrap64 (a0 + 1)))) t230 _ A5.out).mono ?_); rintro e w25 ⟨rfl, hb⟩; have n0_ := Aside0.mk (below_step (by repeat (first | (with_reducible first | exact HB.out | apply below_alloc | apply pw_below_drewN | apply below_drew1) | exact HB.out)) hb); clear HB; have HB := n0_; clear n0_; (try clear hb); (try clear hb2); (try clear hk); (try clear hi); have p12 : 0 ≤ (0 : Int) := (by omega); have q12 : 0 < t229.size := (by have : (0 : Int) < (t229.size : Int) := of_decide_eq_true (by first | (with_reducible assumption) | assumption); omega); have hx12 : ∀ h : 0 < t229.size, ((t229[0]'h).toNat : Int) = bt t229 0 := bt_at t229 0; clear p12; have qi12 : (0 < (t229.size : Int)) = True := eq_true (of_decide_eq_true (by first | (with_reducible assumption) | assumption)); replace q12 := eq_true q12; have p14 : 0 ≤ (0 : Int) := (by omega); have q14 : 0 < t230.size := (by have : (0 : Int) < (t230.size : Int) := of_decide_eq_true (by first | (with_reducible assumption) | assumption); omega); have hx14 : ∀ h : 0 < t230.size, ((t230[0]'h).toNat : Int) = bt t230 0 := bt_at t230 0; clear p14; have qi14 : (0 < (t230.size : Int)) = True := eq_true (of_decide_eq_true (by first | (with_reducible assumption) | assumption)); replace q14 := eq_true q14)))
                      go_ret
                      exact ⟨by first | rfl | (simp [errW_none, errW_some] <;> rfl) | (simp [*, errW_none, errW_some] <;> rfl), by repeat (first | (with_reducible first | exact HB.out | apply below_alloc | apply pw_below_drewN | apply below_drew1) | exact HB.out)⟩
                  · rw [if_neg c18] at H
                    have c18b0 : ((t229.extract 1 t229.size).toList == (t230.extract 1 t230.size).toList) = false := beq_eq_false_iff_ne.mpr c18
                    have c18b1 : ((t229.extract 1 t229.size).toList != (t230.extract 1 t230.size).toList) = true := bne_iff_ne.mpr c18
                    obtain rfl := Option.some.inj H
                    go_enter Try.func4, Try.ntmps4
                    go_wp2_with (first | (go_at_call 10; (with_reducible refine (postroomlaw1_shown.calls k  true _ A2.out).mono ?_); rintro e w26 ⟨rfl, hb⟩; have n0_ := Aside0.mk (below_step (by repeat (first | (with_reducible first | exact HB.out | apply below_alloc | apply pw_below_drewN | apply below_drew1) | exact HB.out)) hb); clear HB; have HB := n0_; clear n0_; (try clear hb); (try clear hb2); (try clear hk); (try clear hi)) | (go_at_call 13; (with_reducible refine (num_PutInt.calls k a0 t229 _ A4.out).mono ?_); rintro e w27 ⟨rfl, hb⟩; have n0_ := Aside0.mk (below_step (by repeat (first | (with_reducible first | exact HB.out | apply below_alloc | apply pw_below_drewN | apply below_drew1) | exact HB.out)) hb); clear HB; have HB := n0_; clear n0_; (try clear hb); (try clear hb2); (try clear hk); (try clear hi)) | (go_at_call 13; (with_reducible refine (num_PutInt.calls k (wrap64 (-(wrap64 (a0 + 1)))) t230 _ A5.out).mono ?_); rintro e w28 ⟨rfl, hb⟩; have n0_ := Aside0.mk (below_step (by repeat (first | (with_reducible first | exact HB.out | apply below_alloc | apply pw_below_drewN | apply below_drew1) | exact HB.out)) hb); clear HB; have HB := n0_; clear n0_; (try clear hb); (try clear hb2); (try clear hk); (try clear hi); have p12 : 0 ≤ (0 : Int) := (by omega); have q12 : 0 < t229.size := (by have : (0 : Int) < (t229.size : Int) := of_decide_eq_true (by first | (with_reducible assumption) | assumption); omega); have hx12 : ∀ h : 0 < t229.size, ((t229[0]'h).toNat : Int) = bt t229 0 := bt_at t229 0; clear p12; have qi12 : (0 < (t229.size : Int)) = True := eq_true (of_decide_eq_true (by first | (with_reducible assumption) | assumption)); replace q12 := eq_true q12; have p14 : 0 ≤ (0 : Int) := (by omega); have q14 : 0 < t230.size := (by have : (0 : Int) < (t230.size : Int) := of_decide_eq_true (by first | (with_reducible assumption) | assumption); omega); have hx14 : ∀ h : 0 < t230.size, ((t230[0]'h).toNat : Int) = bt t230 0 := bt_at t230 0; clear p14; have qi14 : (0 < (t230.size : Int)) = True := eq_true (of_decide_eq_true (by first | (with_reducible assumption) | assumption)); replace q14 := eq_true q14))
                    repeat (go_quiet (first | (go_at_call 10; (with_reducible refine (postroomlaw1_shown.calls k  true _ A2.out).mono ?_); rintro e w26 ⟨rfl, hb⟩; have n0_ := Aside0.mk (below_step (by repeat (first | (with_reducible first | exact HB.out | apply below_alloc | apply pw_below_drewN | apply below_drew1) | exact HB.out)) hb); clear HB; have HB := n0_; clear n0_; (try clear hb); (try clear hb2); (try clear hk); (try clear hi)) | (go_at_call 13; (with_reducible refine (num_PutInt.calls k a0 t229 _ A4.out).mono ?_); rintro e w27 ⟨rfl, hb⟩; have n0_ := Aside0.mk (below_step (by repeat (first | (with_reducible first | exact HB.out | apply below_alloc | apply pw_below_drewN | apply below_drew1) | exact HB.out)) hb); clear HB; have HB := n0_; clear n0_; (try clear hb); (try clear hb2); (try clear hk); (try clear hi)) | (go_at_call 13; (with_reducible refine (num_PutInt.calls k (wrap64 (-(wrap64 (a0 + 1)))) t230 _ A5.out).mono ?_); rintro e w28 ⟨rfl, hb⟩; have n0_ := Aside0.mk (below_step (by repeat (first | (with_reducible first | exact HB.out | apply below_alloc | apply pw_below_drewN | apply below_drew1) | exact HB.out)) hb); clear HB; have HB := n0_; clear n0_; (try clear hb); (try clear hb2); (try clear hk); (try clear hi); have p12 : 0 ≤ (0 : Int) := (by omega); have q12 : 0 < t229.size := (by have : (0 : Int) < (t229.size : Int) := of_decide_eq_true (by first | (with_reducible assumption) | assumption); omega); have hx12 : ∀ h : 0 < t229.size, ((t229[0]'h).toNat : Int) = bt t229 0 := bt_at t229 0; clear p12; have qi12 : (0 < (t229.size : Int)) = True := eq_true (of_decide_eq_true (by first | (with_reducible assumption) | assumption)); replace q12 := eq_true q12; have p14 : 0 ≤ (0 : Int) := (by omega); have q14 : 0 < t230.size := (by have : (0 : Int) < (t230.size : Int) := of_decide_eq_true (by first | (with_reducible assumption) | assumption); omega); have hx14 : ∀ h : 0 < t230.size, ((t230[0]'h).toNat : Int) = bt t230 0 := bt_at t230 0; clear p14; have qi14 : (0 < (t230.size : Int)) = True := eq_true (of_decide_eq_true (by first | (with_reducible assumption) | assumption)); replace q14 := eq_true q14)); try go_wp2_with (first | (go_at_call 10; (with_reducible refine (postroomlaw1_shown.calls k  true _ A2.out).mono ?_); rintro e w26 ⟨rfl, hb⟩; have n0_ := Aside0.mk (below_step (by repeat (first | (with_reducible first | exact HB.out | apply below_alloc | apply pw_below_drewN | apply below_drew1) | exact HB.out)) hb); clear HB; have HB := n0_; clear n0_; (try clear hb); (try clear hb2); (try clear hk); (try clear hi)) | (go_at_call 13; (with_reducible refine (num_PutInt.calls k a0 t229 _ A4.out).mono ?_); rintro e w27 ⟨rfl, hb⟩; have n0_ := Aside0.mk (below_step (by repeat (first | (with_reducible first | exact HB.out | apply below_alloc | apply pw_below_drewN | apply below_drew1) | exact HB.out)) hb); clear HB; have HB := n0_; clear n0_; (try clear hb); (try clear hb2); (try clear hk); (try clear hi)) | (go_at_call 13; (with_reducible refine (num_PutInt.calls k (wrap64 (-(wrap64 (a0 + 1)))) t230 _ A5.out).mono ?_); rintro e w28 ⟨rfl, hb⟩; have n0_ := Aside0.mk (below_step (by repeat (first | (with_reducible first | exact HB.out | apply below_alloc | apply pw_below_drewN | apply below_drew1) | exact HB.out)) hb); clear HB; have HB := n0_; clear n0_; (try clear hb); (try clear hb2); (try clear hk); (try clear hi); have p12 : 0 ≤ (0 : Int) := (by omega); have q12 : 0 < t229.size := (by have : (0 : Int) < (t229.size : Int) := of_decide_eq_true (by first | (with_reducible assumption) | assumption); omega); have hx12 : ∀ h : 0 < t229.size, ((t229[0]'h).toNat : Int) = bt t229 0 := bt_at t229 0; clear p12; have qi12 : (0 < (t229.size : Int)) = True := eq_true (of_decide_eq_true (by first | (with_reducible assumption) | assumption)); replace q12 := eq_true q12; have p14 : 0 ≤ (0 : Int) := (by omega); have q14 : 0 < t230.size := (by have : (0 : Int) < (t230.size : Int) := of_decide_eq_true (by first | (with_reducible assumption) | assumption); omega); have hx14 : ∀ h : 0 < t230.size, ((t230[0]'h).toNat : Int) = bt t230 0 := bt_at t230 0; clear p14; have qi14 : (0 < (t230.size : Int)) = True := eq_true (of_decide_eq_true (by first | (with_reducible assumption) | assumption)); replace q14 := eq_true q14)))
                    go_ret
                    exact ⟨by first | rfl | (simp [errW_none, errW_some] <;> rfl) | (simp [*, errW_none, errW_some] <;> rfl), by repeat (first | (with_reducible first | exact HB.out | apply below_alloc | apply pw_below_drewN | apply below_drew1) | exact HB.out)⟩
                · rw [if_neg c17] at H
                  exact absurd H (by simp)
              · rw [if_neg c16] at H
                exact absurd H (by simp)
            · rw [if_neg c15] at H
              have c15b0 : ((Go.bits .xor .u8 (bt t229 0) (bt t230 0)) == 1) = false := beq_eq_false_iff_ne.mpr c15
              have c15b1 : ((Go.bits .xor .u8 (bt t229 0) (bt t230 0)) != 1) = true := bne_iff_ne.mpr c15
              obtain rfl := Option.some.inj H
              go_enter Try.func4, Try.ntmps4
              go_wp2_with (first | (go_at_call 10; (with_reducible refine (postroomlaw1_shown.calls k  true _ A2.out).mono ?_); rintro e w29 ⟨rfl, hb⟩; have n0_ := Aside0.mk (below_step (by repeat (first | (with_reducible first | exact HB.out | apply below_alloc | apply pw_below_drewN | apply below_drew1) | exact HB.out)) hb); clear HB; have HB := n0_; clear n0_; (try clear hb); (try clear hb2); (try clear hk); (try clear hi)) | (go_at_call 13; (with_reducible refine (num_PutInt.calls k a0 t229 _ A4.out).mono ?_); rintro e w30 ⟨rfl, hb⟩; have n0_ := Aside0.mk (below_step (by repeat (first | (with_reducible first | exact HB.out | apply below_alloc | apply pw_below_drewN | apply below_drew1) | exact HB.out)) hb); clear HB; have HB := n0_; clear n0_; (try clear hb); (try clear hb2); (try clear hk); (try clear hi)) | (go_at_call 13; (with_reducible refine (num_PutInt.calls k (wrap64 (-(wrap64 (a0 + 1)))) t230 _ A5.out).mono ?_); rintro e w31 ⟨rfl, hb⟩; have n0_ := Aside0.mk (below_step (by repeat (first | (with_reducible first | exact HB.out | apply below_alloc | apply pw_below_drewN | apply below_drew1) | exact HB.out)) hb); clear HB; have HB := n0_; clear n0_; (try clear hb); (try clear hb2); (try clear hk); (try clear hi); have p12 : 0 ≤ (0 : Int) := (by omega); have q12 : 0 < t229.size := (by have : (0 : Int) < (t229.size : Int) := of_decide_eq_true (by first | (with_reducible assumption) | assumption); omega); have hx12 : ∀ h : 0 < t229.size, ((t229[0]'h).toNat : Int) = bt t229 0 := bt_at t229 0; clear p12; have qi12 : (0 < (t229.size : Int)) = True := eq_true (of_decide_eq_true (by first | (with_reducible assumption) | assumption)); replace q12 := eq_true q12; have p14 : 0 ≤ (0 : Int) := (by omega); have q14 : 0 < t230.size := (by have : (0 : Int) < (t230.size : Int) := of_decide_eq_true (by first | (with_reducible assumption) | assumption); omega); have hx14 : ∀ h : 0 < t230.size, ((t230[0]'h).toNat : Int) = bt t230 0 := bt_at t230 0; clear p14; have qi14 : (0 < (t230.size : Int)) = True := eq_true (of_decide_eq_true (by first | (with_reducible assumption) | assumption)); replace q14 := eq_true q14))
              repeat (go_quiet (first | (go_at_call 10; (with_reducible refine (postroomlaw1_shown.calls k  true _ A2.out).mono ?_); rintro e w29 ⟨rfl, hb⟩; have n0_ := Aside0.mk (below_step (by repeat (first | (with_reducible first | exact HB.out | apply below_alloc | apply pw_below_drewN | apply below_drew1) | exact HB.out)) hb); clear HB; have HB := n0_; clear n0_; (try clear hb); (try clear hb2); (try clear hk); (try clear hi)) | (go_at_call 13; (with_reducible refine (num_PutInt.calls k a0 t229 _ A4.out).mono ?_); rintro e w30 ⟨rfl, hb⟩; have n0_ := Aside0.mk (below_step (by repeat (first | (with_reducible first | exact HB.out | apply below_alloc | apply pw_below_drewN | apply below_drew1) | exact HB.out)) hb); clear HB; have HB := n0_; clear n0_; (try clear hb); (try clear hb2); (try clear hk); (try clear hi)) | (go_at_call 13; (with_reducible refine (num_PutInt.calls k (wrap64 (-(wrap64 (a0 + 1)))) t230 _ A5.out).mono ?_); rintro e w31 ⟨rfl, hb⟩; have n0_ := Aside0.mk (below_step (by repeat (first | (with_reducible first | exact HB.out | apply below_alloc | apply pw_below_drewN | apply below_drew1) | exact HB.out)) hb); clear HB; have HB := n0_; clear n0_; (try clear hb); (try clear hb2); (try clear hk); (try clear hi); have p12 : 0 ≤ (0 : Int) := (by omega); have q12 : 0 < t229.size := (by have : (0 : Int) < (t229.size : Int) := of_decide_eq_true (by first | (with_reducible assumption) | assumption); omega); have hx12 : ∀ h : 0 < t229.size, ((t229[0]'h).toNat : Int) = bt t229 0 := bt_at t229 0; clear p12; have qi12 : (0 < (t229.size : Int)) = True := eq_true (of_decide_eq_true (by first | (with_reducible assumption) | assumption)); replace q12 := eq_true q12; have p14 : 0 ≤ (0 : Int) := (by omega); have q14 : 0 < t230.size := (by have : (0 : Int) < (t230.size : Int) := of_decide_eq_true (by first | (with_reducible assumption) | assumption); omega); have hx14 : ∀ h : 0 < t230.size, ((t230[0]'h).toNat : Int) = bt t230 0 := bt_at t230 0; clear p14; have qi14 : (0 < (t230.size : Int)) = True := eq_true (of_decide_eq_true (by first | (with_reducible assumption) | assumption)); replace q14 := eq_true q14)); try go_wp2_with (first | (go_at_call 10; (with_reducible refine (postroomlaw1_shown.calls k  true _ A2.out).mono ?_); rintro e w29 ⟨rfl, hb⟩; have n0_ := Aside0.mk (below_step (by repeat (first | (with_reducible first | exact HB.out | apply below_alloc | apply pw_below_drewN | apply below_drew1) | exact HB.out)) hb); clear HB; have HB := n0_; clear n0_; (try clear hb); (try clear hb2); (try clear hk); (try clear hi)) | (go_at_call 13; (with_reducible refine (num_PutInt.calls k a0 t229 _ A4.out).mono ?_); rintro e w30 ⟨rfl, hb⟩; have n0_ := Aside0.mk (below_step (by repeat (first | (with_reducible first | exact HB.out | apply below_alloc | apply pw_below_drewN | apply below_drew1) | exact HB.out)) hb); clear HB; have HB := n0_; clear n0_; (try clear hb); (try clear hb2); (try clear hk); (try clear hi)) | (go_at_call 13; (with_reducible refine (num_PutInt.calls k (wrap64 (-(wrap64 (a0 + 1)))) t230 _ A5.out).mono ?_); rintro e w31 ⟨rfl, hb⟩; have n0_ := Aside0.mk (below_step (by repeat (first | (with_reducible first | exact HB.out | apply below_alloc | apply pw_below_drewN | apply below_drew1) | exact HB.out)) hb); clear HB; have HB := n0_; clear n0_; (try clear hb); (try clear hb2); (try clear hk); (try clear hi); have p12 : 0 ≤ (0 : Int) := (by omega); have q12 : 0 < t229.size := (by have : (0 : Int) < (t229.size : Int) := of_decide_eq_true (by first | (with_reducible assumption) | assumption); omega); have hx12 : ∀ h : 0 < t229.size, ((t229[0]'h).toNat : Int) = bt t229 0 := bt_at t229 0; clear p12; have qi12 : (0 < (t229.size : Int)) = True := eq_true (of_decide_eq_true (by first | (with_reducible assumption) | assumption)); replace q12 := eq_true q12; have p14 : 0 ≤ (0 : Int) := (by omega); have q14 : 0 < t230.size := (by have : (0 : Int) < (t230.size : Int) := of_decide_eq_true (by first | (with_reducible assumption) | assumption); omega); have hx14 : ∀ h : 0 < t230.size, ((t230[0]'h).toNat : Int) = bt t230 0 := bt_at t230 0; clear p14; have qi14 : (0 < (t230.size : Int)) = True := eq_true (of_decide_eq_true (by first | (with_reducible assumption) | assumption)); replace q14 := eq_true q14)))
              go_ret
              exact ⟨by first | rfl | (simp [errW_none, errW_some] <;> rfl) | (simp [*, errW_none, errW_some] <;> rfl), by repeat (first | (with_reducible first | exact HB.out | apply below_alloc | apply pw_below_drewN | apply below_drew1) | exact HB.out)⟩
          · rw [if_neg c13] at H
            exact absurd H (by simp)
        · rw [if_neg c11] at H
          exact absurd H (by simp)
    · rw [if_neg c6] at H
      have c6b0 : ((t229.size : Int) == (t230.size : Int)) = false := beq_eq_false_iff_ne.mpr c6
      have c6b1 : ((t229.size : Int) != (t230.size : Int)) = true := bne_iff_ne.mpr c6
      have c6b2 : (t229.size == t230.size) = false := by first | simpa using c6 | (simp at c6 ⊢; omega)
      obtain rfl := Option.some.inj H
      go_enter Try.func4, Try.ntmps4
      go_wp2_with (first | (go_at_call 10; (with_reducible refine (postroomlaw1_shown.calls k  true _ A2.out).mono ?_); rintro e w32 ⟨rfl, hb⟩; have n0_ := Aside0.mk (below_step (by repeat (first | (with_reducible first | exact HB.out | apply below_alloc | apply pw_below_drewN | apply below_drew1) | exact HB.out)) hb); clear HB; have HB := n0_; clear n0_; (try clear hb); (try clear hb2); (try clear hk); (try clear hi)) | (go_at_call 13; (with_reducible refine (num_PutInt.calls k a0 t229 _ A4.out).mono ?_); rintro e w33 ⟨rfl, hb⟩; have n0_ := Aside0.mk (below_step (by repeat (first | (with_reducible first | exact HB.out | apply below_alloc | apply pw_below_drewN | apply below_drew1) | exact HB.out)) hb); clear HB; have HB := n0_; clear n0_; (try clear hb); (try clear hb2); (try clear hk); (try clear hi)) | (go_at_call 13; (with_reducible refine (num_PutInt.calls k (wrap64 (-(wrap64 (a0 + 1)))) t230 _ A5.out).mono ?_); rintro e w34 ⟨rfl, hb⟩; have n0_ := Aside0.mk (below_step (by repeat (first | (with_reducible first | exact HB.out | apply below_alloc | apply pw_below_drewN | apply below_drew1) | exact HB.out)) hb); clear HB; have HB := n0_; clear n0_; (try clear hb); (try clear hb2); (try clear hk); (try clear hi)))
      repeat (go_quiet (first | (go_at_call 10; (with_reducible refine (postroomlaw1_shown.calls k  true _ A2.out).mono ?_); rintro e w32 ⟨rfl, hb⟩; have n0_ := Aside0.mk (below_step (by repeat (first | (with_reducible first | exact HB.out | apply below_alloc | apply pw_below_drewN | apply below_drew1) | exact HB.out)) hb); clear HB; have HB := n0_; clear n0_; (try clear hb); (try clear hb2); (try clear hk); (try clear hi)) | (go_at_call 13; (with_reducible refine (num_PutInt.calls k a0 t229 _ A4.out).mono ?_); rintro e w33 ⟨rfl, hb⟩; have n0_ := Aside0.mk (below_step (by repeat (first | (with_reducible first | exact HB.out | apply below_alloc | apply pw_below_drewN | apply below_drew1) | exact HB.out)) hb); clear HB; have HB := n0_; clear n0_; (try clear hb); (try clear hb2); (try clear hk); (try clear hi)) | (go_at_call 13; (with_reducible refine (num_PutInt.calls k (wrap64 (-(wrap64 (a0 + 1)))) t230 _ A5.out).mono ?_); rintro e w34 ⟨rfl, hb⟩; have n0_ := Aside0.mk (below_step (by repeat (first | (with_reducible first | exact HB.out | apply below_alloc | apply pw_below_drewN | apply below_drew1) | exact HB.out)) hb); clear HB; have HB := n0_; clear n0_; (try clear hb); (try clear hb2); (try clear hk); (try clear hi))); try go_wp2_with (first | (go_at_call 10; (with_reducible refine (postroomlaw1_shown.calls k  true _ A2.out).mono ?_); rintro e w32 ⟨rfl, hb⟩; have n0_ := Aside0.mk (below_step (by repeat (first | (with_reducible first | exact HB.out | apply below_alloc | apply pw_below_drewN | apply below_drew1) | exact HB.out)) hb); clear HB; have HB := n0_; clear n0_; (try clear hb); (try clear hb2); (try clear hk); (try clear hi)) | (go_at_call 13; (with_reducible refine (num_PutInt.calls k a0 t229 _ A4.out).mono ?_); rintro e w33 ⟨rfl, hb⟩; have n0_ := Aside0.mk (below_step (by repeat (first | (with_reducible first | exact HB.out | apply below_alloc | apply pw_below_drewN | apply below_drew1) | exact HB.out)) hb); clear HB; have HB := n0_; clear n0_; (try clear hb); (try clear hb2); (try clear hk); (try clear hi)) | (go_at_call 13; (with_reducible refine (num_PutInt.calls k (wrap64 (-(wrap64 (a0 + 1)))) t230 _ A5.out).mono ?_); rintro e w34 ⟨rfl, hb⟩; have n0_ := Aside0.mk (below_step (by repeat (first | (with_reducible first | exact HB.out | apply below_alloc | apply pw_below_drewN | apply below_drew1) | exact HB.out)) hb); clear HB; have HB := n0_; clear n0_; (try clear hb); (try clear hb2); (try clear hk); (try clear hi))))
      go_ret
      exact ⟨by first | rfl | (simp [errW_none, errW_some] <;> rfl) | (simp [*, errW_none, errW_some] <;> rfl), by repeat (first | (with_reducible first | exact HB.out | apply below_alloc | apply pw_below_drewN | apply below_drew1) | exact HB.out)⟩
  · replace c3 := Bool.eq_false_iff.mpr c3
    subst c3
    have H1 : (some false) = some r := by rw [if_neg (show ¬ (false = true) by decide)] at H; exact H
    clear H
    have H := H1
    clear H1
    obtain rfl := Option.some.inj H
    go_enter Try.func4, Try.ntmps4
    go_wp2_with (first | (go_at_call 10; (with_reducible refine (postroomlaw1_shown.calls k  false _ A2.out).mono ?_); rintro e w35 ⟨rfl, hb⟩; have n0_ := Aside0.mk (below_step (by repeat (first | (with_reducible first | exact HB.out | apply below_alloc | apply pw_below_drewN | apply below_drew1) | exact HB.out)) hb); clear HB; have HB := n0_; clear n0_; (try clear hb); (try clear hb2); (try clear hk); (try clear hi)))
    repeat (go_quiet (first | (go_at_call 10; (with_reducible refine (postroomlaw1_shown.calls k  false _ A2.out).mono ?_); rintro e w35 ⟨rfl, hb⟩; have n0_ := Aside0.mk (below_step (by repeat (first | (with_reducible first | exact HB.out | apply below_alloc | apply pw_below_drewN | apply below_drew1) | exact HB.out)) hb); clear HB; have HB := n0_; clear n0_; (try clear hb); (try clear hb2); (try clear hk); (try clear hi))); try go_wp2_with (first | (go_at_call 10; (with_reducible refine (postroomlaw1_shown.calls k  false _ A2.out).mono ?_); rintro e w35 ⟨rfl, hb⟩; have n0_ := Aside0.mk (below_step (by repeat (first | (with_reducible first | exact HB.out | apply below_alloc | apply pw_below_drewN | apply below_drew1) | exact HB.out)) hb); clear HB; have HB := n0_; clear n0_; (try clear hb); (try clear hb2); (try clear hk); (try clear hi))))
    go_ret
    exact ⟨by first | rfl | (simp [errW_none, errW_some] <;> rfl) | (simp [*, errW_none, errW_some] <;> rfl), by repeat (first | (with_reducible first | exact HB.out | apply below_alloc | apply pw_below_drewN | apply below_drew1) | exact HB.out)⟩

/-- THE ONE PURE STATEMENT of postroomlaw1_NumSigns: yours. -/
def postroomlaw1_NumSigns.Pure : Prop := ∀ (a0 : Int), (Lit.int .i64 a0).wf = true → ∃ k, postroomlaw1_NumSigns.f k a0 = some true
theorem postroomlaw1_NumSigns.walk (P : postroomlaw1_NumSigns.Pure) (a0 : Int) (w : World) (w0 : (Lit.int .i64 a0).wf = true) :
    Calls Try.prog 4 #[.int .i64 a0] w fun e w' => e = .returned (.bool true) ∧ Below w.heap.size w w' := by
  obtain ⟨k, h⟩ := P a0 w0
  refine (postroomlaw1_NumSigns.calls k a0 true w h).mono ?_
  rintro e w' ⟨rfl, hd⟩
  exact ⟨rfl, hd⟩

end Go.Proofs.Ytipeojncbkdllaa.XNum
