/- What the functions of the translation answer, each as a plain Lean function, and that the code comes to it; for a law: its row. Conditions: none but those that each theorem names. Written by a program of this session (wip/xp). -/
import Derived.Test.YtkgelkdaodcjcaaDoorXLblx0
import Derived.Test.YtkgelkdaodcjcaaDoorXLblx7
import Derived.Test.YtkgelkdaodcjcaaDoorXLblx24
import Derived.Test.YtkgelkdaodcjcaaDoorGLabelMatch
namespace Go.Proofs.YtkgelkdaodcjcaaDoor.XLbl
open Go.RowKit Go.Proofs.YtkgelkdaodcjcaaDoorW.PrintWords Go.Proofs.YtkgelkdaodcjcaaDoorW.PrintLast Go.Proofs.YtkgelkdaodcjcaaDoorW.PrintMore
attribute [local go_sem] max2_int min2_int max_two min_two max_three min_three max_four min_four   -- for this text's walks alone
set_option linter.unusedVariables false
set_option linter.unusedSimpArgs false

/-! ### postroomlaw3_LabelNot: function 5 -/
def postroomlaw3_LabelNot.j0 : Nat → List Int → List (S41) → Bool → Bool → ByteArray → ByteArray → Bool → Option (Bool)
  | 0, _, _, _, _, _, _, _ => none
  | k + 1, x0, x1, x7, x21, x370000, x370001, x370002 => if x21 = true then (some x7) else ((postroomlaw3_labelsOf.f k x0).bind fun t371 => ((label_Match.f (([(⟨x370000, x370001, x370002⟩ : S41)] : List (S41))) t371).bind fun t378 => ((label_Match.f (([(⟨x370000, x370001, !x370002⟩ : S41)] : List (S41))) t371).bind fun t382 => ((label_Match.f x1 t371).bind fun t383 => ((some (([] : List (S41)) : List (S41))).bind fun y384 => (if y384.length + x1.length < 3518437208883 then ((some (y384 ++ x1 : List (S41))).bind fun y387 => ((some (([(⟨x370000, x370001, x370002⟩ : S41)] : List (S41)) : List (S41))).bind fun y390 => (if y387.length + y390.length < 3518437208883 then ((label_Match.f (y387 ++ y390) t371).bind fun t396 => (if (t378 != t382) = true then (if t383 = true then (if (t396 == t378) = true then ((label_Match.f ([] : List (S41)) t371).bind fun t397 => (some t397)) else (some false)) else (if (t396 == false) = true then ((label_Match.f ([] : List (S41)) t371).bind fun t398 => (some t398)) else (some false))) else (some false))) else (none)))) else (none)))))))
def postroomlaw3_LabelNot.f (k : Nat) (l0 : List Int) (l1 : List (S41)) (a2_0 : ByteArray) (a2_1 : ByteArray) (a2_2 : Bool) : Option (Bool) := (postroomlaw3_shown.f k).bind fun t370 => (if t370 = true then (postroomlaw3_LabelNot.j0 k l0 l1 t370 (decide ((l1.length : Int) > 20)) a2_0 a2_1 a2_2) else (postroomlaw3_LabelNot.j0 k l0 l1 t370 true a2_0 a2_1 a2_2))
theorem postroomlaw3_LabelNot.mono_l : ∀ k, (∀ y0 y1 y2 y3 y4 y5 y6, LeO (postroomlaw3_LabelNot.j0 k y0 y1 y2 y3 y4 y5 y6) (postroomlaw3_LabelNot.j0 (k + 1) y0 y1 y2 y3 y4 y5 y6))
  | 0 => fun _ _ _ _ _ _ _ r h => by simp [postroomlaw3_LabelNot.j0] at h
  | k + 1 => by
    have ih0 := postroomlaw3_LabelNot.mono_l k
    · intro y0 y1 y2 y3 y4 y5 y6
      unfold postroomlaw3_LabelNot.j0
      repeat' first
      | (with_reducible exact ih0 _ _ _ _ _ _ _)
      | (with_reducible exact postroomlaw3_labelsOf.mono _ _)
      | (with_reducible exact postroomlaw3_shown.mono _)
      | (with_reducible exact LeO.refl _)
      | (with_reducible exact LeO.none _)
      | (with_reducible refine LeO.ite ?_ ?_)
      | (with_reducible refine LeO.bind ?_ (fun _ => ?_))
      | exact ih0 _ _ _ _ _ _ _
      | exact postroomlaw3_labelsOf.mono _ _
      | exact postroomlaw3_shown.mono _
      | exact LeO.none _
      | refine LeO.ite ?_ ?_
      | refine LeO.bind ?_ (fun _ => ?_)
theorem postroomlaw3_LabelNot.mono : ∀ a0 a1 a2 a3 a4 k, LeO (postroomlaw3_LabelNot.f k a0 a1 a2 a3 a4) (postroomlaw3_LabelNot.f (k + 1) a0 a1 a2 a3 a4) := by
  intro a0 a1 a2 a3 a4 k
  have ih0 := postroomlaw3_LabelNot.mono_l k
  unfold postroomlaw3_LabelNot.f
  repeat' first
      | (with_reducible exact ih0 _ _ _ _ _ _ _)
      | (with_reducible exact postroomlaw3_labelsOf.mono _ _)
      | (with_reducible exact postroomlaw3_shown.mono _)
      | (with_reducible exact LeO.refl _)
      | (with_reducible exact LeO.none _)
      | (with_reducible refine LeO.ite ?_ ?_)
      | (with_reducible refine LeO.bind ?_ (fun _ => ?_))
      | exact ih0 _ _ _ _ _ _ _
      | exact postroomlaw3_labelsOf.mono _ _
      | exact postroomlaw3_shown.mono _
      | exact LeO.none _
      | refine LeO.ite ?_ ?_
      | refine LeO.bind ?_ (fun _ => ?_)
def postroomlaw3_LabelNot.T10 : Bool × List (List Nat × List Nat) := (true, [([], []), ([], []), ([0, 1], [0, 1]), ([], []), ([3], [3]), ([2, 4, 2], [2, 4]), ([], []), ([5, 6, 5], [5, 6]), ([7, 7, 0, 1, 2, 3, 4, 5, 6, 7], [7])])
def postroomlaw3_LabelNot.B10 : List Nat := [0, 0, 3, 0, 8, 31, 0, 127, 255]
theorem postroomlaw3_LabelNot.tab10 : rtab .any (opsOf Tryd.f5 10) = postroomlaw3_LabelNot.T10 := by kernel_rfl
theorem postroomlaw3_LabelNot.bits10 : waitsOk postroomlaw3_LabelNot.T10.2 postroomlaw3_LabelNot.B10 = true := by kernel_rfl
set_option maxHeartbeats 8000000 in
set_option maxRecDepth 100000 in
theorem postroomlaw3_LabelNot.calls (k : Nat) (A0 : Option Addr) (c0 : Nat) (l0 : List Int) (A1 : Option Addr) (c1 : Nat) (l1 : List (S41)) (a2_0 : ByteArray) (a2_1 : ByteArray) (a2_2 : Bool) (r : Bool) (w : World) (hr0 : Kd.C (Kd.int .i64) w A0 l0.length l0) (hc0 : l0.length ≤ c0) (hr1 : Kd.C k41 w A1 l1.length l1) (hc1 : l1.length ≤ c1) (h : postroomlaw3_LabelNot.f k l0 l1 a2_0 a2_1 a2_2 = some r) :
    Calls Tryd.prog 5 #[.slice A0 l0.length c0, .slice A1 l1.length c1, .agg #[.string a2_0, .string a2_1, .bool a2_2]] w fun e w' => e = .returned (.bool r) ∧ Below w.heap.size w w' := by
  have hu41 := Tryd.underlying41
  have HR0 := Aside0.mk hr0
  have HC0 := Aside0.mk hc0
  clear hr0 hc0
  have HR1 := Aside0.mk hr1
  have HC1 := Aside0.mk hc1
  clear hr1 hc1
  have HB := Aside0.mk (Below.refl w.heap.size w)
  have H : ((postroomlaw3_shown.f k).bind fun t370 => (if t370 = true then (postroomlaw3_LabelNot.j0 k l0 l1 t370 (decide ((l1.length : Int) > 20)) a2_0 a2_1 a2_2) else (postroomlaw3_LabelNot.j0 k l0 l1 t370 true a2_0 a2_1 a2_2))) = some r := h
  clear h
  replace H := Option.bind_eq_some_iff.mp H
  obtain ⟨t370, A40, H⟩ := H
  replace H : (if t370 = true then (postroomlaw3_LabelNot.j0 k l0 l1 t370 (decide ((l1.length : Int) > 20)) a2_0 a2_1 a2_2) else (postroomlaw3_LabelNot.j0 k l0 l1 t370 true a2_0 a2_1 a2_2)) = some r := H
  have A4 := Aside0.mk A40
  clear A40
  have HC5 := Aside0.mk H
  clear H
  go_enter Tryd.func5, Tryd.ntmps5
  go_upto_region 2 with (first | ((with_reducible refine gate_dst (N := 5) rfl ?_); (try (refine gate_guard (by rfl) ?_; dsimp only)); refine box_event ?hg (N := 5) ?hd (cs := #[.string a2_0, .string a2_1, .bool a2_2]) (t := 41) ?hr ?_; (case hd => rfl); (case hg => rfl); (case hr => first | (go_simp; done) | (go_simp; rfl)); intro gb369 hg w6 hbox hb; have n0_ := Aside0.mk (below_step (by repeat (first | (with_reducible first | exact HB.out | apply below_alloc | apply pw_below_drewN | apply below_drew1) | exact HB.out)) hb); have n1_ := Aside0.mk (hbox); have n2_ := Aside0.mk ((by rw [hg]; exact (below_size (by repeat (first | (with_reducible first | exact HB.out | apply below_alloc | apply pw_below_drewN | apply below_drew1) | exact HB.out))) : w.heap.size ≤ gb369)); have n3_ := Aside0.mk ((by rw [hg]; exact (below_size (by repeat (first | (with_reducible first | exact HB.out | apply below_alloc | apply pw_below_drewN | apply below_drew1) | exact HB.out))) : w.heap.size ≤ gb369)); clear HB; have HB := n0_; have BK369 := n1_; have GW369 := n2_; have GE369 := n3_; clear n0_ n1_ n2_ n3_; clear hb hbox hg) | ((with_reducible refine gate_callee (f := 10) rfl ?_); refine goesL_ (some 14) rfl rfl Tryd.func10 (by kernel_rfl) rfl #[] rfl (by (try simp only [List.map_toArray, List.map_cons, List.map_nil]); first | done | rfl | (simp only [List.length_drop, List.length_take]; rfl)) ?_; (with_reducible refine (postroomlaw3_shown.calls k  t370 _ A4.out).mono ?_); rintro e w7 ⟨rfl, hb⟩; refine ⟨_, rfl, ?_⟩; have n0_ := Aside0.mk (blk_below (g := gb369) (o := .cells #[.string a2_0, .string a2_1, .bool a2_2] 41 (0, 0)) (by (with_reducible repeat (first | refine blk_drewN ?_ _ | refine blk_drew ?_ | refine blk_alloc ?_ _)); exact BK369.out) hb); have n1_ := Aside0.mk (below_step (by repeat (first | (with_reducible first | exact HB.out | apply below_alloc | apply pw_below_drewN | apply below_drew1 | refine below_set ?_ GE369.out) | exact HB.out)) hb); clear BK369; clear HB; have BK369 := n0_; have HB := n1_; clear n0_ n1_; (try clear hb); (try clear hb2); (try clear hk); (try clear hi)))
  (try simp only [Act.put, List.setIfInBounds_toArray, List.set_cons_zero, List.set_cons_succ])
  go_cut [21] (fun v21 wc => ∃ (kq : Nat) (x21_4 : Bool), v21 = .bool x21_4 ∧ Aside0 (postroomlaw3_LabelNot.j0 kq l0 l1 t370 x21_4 a2_0 a2_1 a2_2 = some r) ∧ Aside0 (kq ≤ k) ∧ Aside0 (wc.heap[gb369]? = some (.cells #[.string a2_0, .string a2_1, .bool a2_2] 41 (0, 0))) ∧ Aside0 (Below w.heap.size w wc))
  case first =>
    have H := HC5.out
    clear HC5
    by_cases c8 : t370 = true
    · subst c8
      have H1 : (postroomlaw3_LabelNot.j0 k l0 l1 true (decide ((l1.length : Int) > 20)) a2_0 a2_1 a2_2) = some r := by rw [if_pos rfl] at H; exact H
      clear H
      have H := H1
      clear H1
      have H' := Aside0.mk H
      clear H
      go_wp2
      go_meet
      case rel => exact ⟨_, (decide ((l1.length : Int) > 20)), (by first | rfl | (simp; done) | (simp [*]; done)), H', ⟨by first | omega | exact Nat.le_refl _⟩, ⟨by (with_reducible repeat (first | refine blk_drewN ?_ _ | refine blk_drew ?_ | refine blk_alloc ?_ _)); exact BK369.out⟩, ⟨by repeat (first | (with_reducible first | exact HB.out | apply below_alloc | apply pw_below_drewN | apply below_drew1 | refine below_set ?_ GE369.out) | exact HB.out)⟩⟩
    · replace c8 := Bool.eq_false_iff.mpr c8
      subst c8
      have H1 : (postroomlaw3_LabelNot.j0 k l0 l1 false true a2_0 a2_1 a2_2) = some r := by rw [if_neg (show ¬ (false = true) by decide)] at H; exact H
      clear H
      have H := H1
      clear H1
      have H' := Aside0.mk H
      clear H
      go_wp2
      go_meet
      case rel => exact ⟨_, (true), (by first | rfl | (simp; done) | (simp [*]; done)), H', ⟨by first | omega | exact Nat.le_refl _⟩, ⟨by (with_reducible repeat (first | refine blk_drewN ?_ _ | refine blk_drew ?_ | refine blk_alloc ?_ _)); exact BK369.out⟩, ⟨by repeat (first | (with_reducible first | exact HB.out | apply below_alloc | apply pw_below_drewN | apply below_drew1 | refine below_set ?_ GE369.out) | exact HB.out)⟩⟩
  case rest =>
    clear HC5
    try clear c1
    try clear p2
    try clear c5
    try clear c8
    obtain ⟨kq, x21_4, rfl, HA, HJ4, BK369, HB⟩ := hcut
    cases kq with
    | zero => exact absurd HA.out (by simp [postroomlaw3_LabelNot.j0])
    | succ kj4 =>
      have H := HA.out
      clear HA
      simp only [postroomlaw3_LabelNot.j0] at H
      by_cases c9 : x21_4 = true
      · subst c9
        have H1 : (some t370) = some r := by rw [if_pos rfl] at H; exact H
        clear H
        have H := H1
        clear H1
        obtain rfl := Option.some.inj H
        go_wp2
        go_ret
        exact ⟨by first | rfl | (simp [errW_none, errW_some] <;> rfl) | (simp [*, errW_none, errW_some] <;> rfl), by repeat (first | (with_reducible first | exact HB.out | apply below_alloc | apply pw_below_drewN | apply below_drew1 | refine below_set ?_ GE369.out) | exact HB.out)⟩
      · replace c9 := Bool.eq_false_iff.mpr c9
        subst c9
        have H1 : ((postroomlaw3_labelsOf.f kj4 l0).bind fun t371 => ((label_Match.f (([(⟨a2_0, a2_1, a2_2⟩ : S41)] : List (S41))) t371).bind fun t378 => ((label_Match.f (([(⟨a2_0, a2_1, !a2_2⟩ : S41)] : List (S41))) t371).bind fun t382 => ((label_Match.f l1 t371).bind fun t383 => ((some (([] : List (S41)) : List (S41))).bind fun y384 => (if y384.length + l1.length < 3518437208883 then ((some (y384 ++ l1 : List (S41))).bind fun y387 => ((some (([(⟨a2_0, a2_1, a2_2⟩ : S41)] : List (S41)) : List (S41))).bind fun y390 => (if y387.length + y390.length < 3518437208883 then ((label_Match.f (y387 ++ y390) t371).bind fun t396 => (if (t378 != t382) = true then (if t383 = true then (if (t396 == t378) = true then ((label_Match.f ([] : List (S41)) t371).bind fun t397 => (some t397)) else (some false)) else (if (t396 == false) = true then ((label_Match.f ([] : List (S41)) t371).bind fun t398 => (some t398)) else (some false))) else (some false))) else (none)))) else (none))))))) = some r := by rw [if_neg (show ¬ (false = true) by decide)] at H; exact H
        clear H
        have H := H1
        clear H1
        replace H := Option.bind_eq_some_iff.mp H
        obtain ⟨t371, A100, H⟩ := H
        replace H : ((label_Match.f (([(⟨a2_0, a2_1, a2_2⟩ : S41)] : List (S41))) t371).bind fun t378 => ((label_Match.f (([(⟨a2_0, a2_1, !a2_2⟩ : S41)] : List (S41))) t371).bind fun t382 => ((label_Match.f l1 t371).bind fun t383 => ((some (([] : List (S41)) : List (S41))).bind fun y384 => (if y384.length + l1.length < 3518437208883 then ((some (y384 ++ l1 : List (S41))).bind fun y387 => ((some (([(⟨a2_0, a2_1, a2_2⟩ : S41)] : List (S41)) : List (S41))).bind fun y390 => (if y387.length + y390.length < 3518437208883 then ((label_Match.f (y387 ++ y390) t371).bind fun t396 => (if (t378 != t382) = true then (if t383 = true then (if (t396 == t378) = true then ((label_Match.f ([] : List (S41)) t371).bind fun t397 => (some t397)) else (some false)) else (if (t396 == false) = true then ((label_Match.f ([] : List (S41)) t371).bind fun t398 => (some t398)) else (some false))) else (some false))) else (none)))) else (none)))))) = some r := H
        have A10 := Aside0.mk A100
        clear A100
        obtain ⟨y375, hy375⟩ : ∃ y_ : List (S41), y_ = (([(⟨a2_0, a2_1, a2_2⟩ : S41)] : List (S41))) := ⟨_, rfl⟩
        replace H : ((label_Match.f y375 t371).bind fun t378 => ((label_Match.f (([(⟨a2_0, a2_1, !a2_2⟩ : S41)] : List (S41))) t371).bind fun t382 => ((label_Match.f l1 t371).bind fun t383 => ((some (([] : List (S41)) : List (S41))).bind fun y384 => (if y384.length + l1.length < 3518437208883 then ((some (y384 ++ l1 : List (S41))).bind fun y387 => ((some (([(⟨a2_0, a2_1, a2_2⟩ : S41)] : List (S41)) : List (S41))).bind fun y390 => (if y387.length + y390.length < 3518437208883 then ((label_Match.f (y387 ++ y390) t371).bind fun t396 => (if (t378 != t382) = true then (if t383 = true then (if (t396 == t378) = true then ((label_Match.f ([] : List (S41)) t371).bind fun t397 => (some t397)) else (some false)) else (if (t396 == false) = true then ((label_Match.f ([] : List (S41)) t371).bind fun t398 => (some t398)) else (some false))) else (some false))) else (none)))) else (none)))))) = some r := by first | (rw [hy375]; with_reducible exact H) | (have H2_ := (Option.bind_some _ _).symm.trans H; rw [hy375]; with_reducible exact H2_) | (have H2_ := (Option.bind_some _ _).symm.trans H; with_reducible exact H2_) | with_reducible exact H | (rw [hy375]; exact H) | exact H
        have Ny375 := Aside0.mk hy375
        clear hy375
        replace H := Option.bind_eq_some_iff.mp H
        obtain ⟨t378, A110, H⟩ := H
        replace H : ((label_Match.f (([(⟨a2_0, a2_1, !a2_2⟩ : S41)] : List (S41))) t371).bind fun t382 => ((label_Match.f l1 t371).bind fun t383 => ((some (([] : List (S41)) : List (S41))).bind fun y384 => (if y384.length + l1.length < 3518437208883 then ((some (y384 ++ l1 : List (S41))).bind fun y387 => ((some (([(⟨a2_0, a2_1, a2_2⟩ : S41)] : List (S41)) : List (S41))).bind fun y390 => (if y387.length + y390.length < 3518437208883 then ((label_Match.f (y387 ++ y390) t371).bind fun t396 => (if (t378 != t382) = true then (if t383 = true then (if (t396 == t378) = true then ((label_Match.f ([] : List (S41)) t371).bind fun t397 => (some t397)) else (some false)) else (if (t396 == false) = true then ((label_Match.f ([] : List (S41)) t371).bind fun t398 => (some t398)) else (some false))) else (some false))) else (none)))) else (none))))) = some r := H
        have A11 := Aside0.mk A110
        clear A110
        obtain ⟨y379, hy379⟩ : ∃ y_ : List (S41), y_ = (([(⟨a2_0, a2_1, !a2_2⟩ : S41)] : List (S41))) := ⟨_, rfl⟩
        replace H : ((label_Match.f y379 t371).bind fun t382 => ((label_Match.f l1 t371).bind fun t383 => ((some (([] : List (S41)) : List (S41))).bind fun y384 => (if y384.length + l1.length < 3518437208883 then ((some (y384 ++ l1 : List (S41))).bind fun y387 => ((some (([(⟨a2_0, a2_1, a2_2⟩ : S41)] : List (S41)) : List (S41))).bind fun y390 => (if y387.length + y390.length < 3518437208883 then ((label_Match.f (y387 ++ y390) t371).bind fun t396 => (if (t378 != t382) = true then (if t383 = true then (if (t396 == t378) = true then ((label_Match.f ([] : List (S41)) t371).bind fun t397 => (some t397)) else (some false)) else (if (t396 == false) = true then ((label_Match.f ([] : List (S41)) t371).bind fun t398 => (some t398)) else (some false))) else (some false))) else (none)))) else (none))))) = some r := by first | (rw [hy379]; with_reducible exact H) | (have H2_ := (Option.bind_some _ _).symm.trans H; rw [hy379]; with_reducible exact H2_) | (have H2_ := (Option.bind_some _ _).symm.trans H; with_reducible exact H2_) | with_reducible exact H | (rw [hy379]; exact H) | exact H
        have Ny379 := Aside0.mk hy379
        clear hy379
        replace H := Option.bind_eq_some_iff.mp H
        obtain ⟨t382, A120, H⟩ := H
        replace H : ((label_Match.f l1 t371).bind fun t383 => ((some (([] : List (S41)) : List (S41))).bind fun y384 => (if y384.length + l1.length < 3518437208883 then ((some (y384 ++ l1 : List (S41))).bind fun y387 => ((some (([(⟨a2_0, a2_1, a2_2⟩ : S41)] : List (S41)) : List (S41))).bind fun y390 => (if y387.length + y390.length < 3518437208883 then ((label_Match.f (y387 ++ y390) t371).bind fun t396 => (if (t378 != t382) = true then (if t383 = true then (if (t396 == t378) = true then ((label_Match.f ([] : List (S41)) t371).bind fun t397 => (some t397)) else (some false)) else (if (t396 == false) = true then ((label_Match.f ([] : List (S41)) t371).bind fun t398 => (some t398)) else (some false))) else (some false))) else (none)))) else (none)))) = some r := H
        have A12 := Aside0.mk A120
        clear A120
        replace H := Option.bind_eq_some_iff.mp H
        obtain ⟨t383, A130, H⟩ := H
        replace H : ((some (([] : List (S41)) : List (S41))).bind fun y384 => (if y384.length + l1.length < 3518437208883 then ((some (y384 ++ l1 : List (S41))).bind fun y387 => ((some (([(⟨a2_0, a2_1, a2_2⟩ : S41)] : List (S41)) : List (S41))).bind fun y390 => (if y387.length + y390.length < 3518437208883 then ((label_Match.f (y387 ++ y390) t371).bind fun t396 => (if (t378 != t382) = true then (if t383 = true then (if (t396 == t378) = true then ((label_Match.f ([] : List (S41)) t371).bind fun t397 => (some t397)) else (some false)) else (if (t396 == false) = true then ((label_Match.f ([] : List (S41)) t371).bind fun t398 => (some t398)) else (some false))) else (some false))) else (none)))) else (none))) = some r := H
        have A13 := Aside0.mk A130
        clear A130
        obtain ⟨y384, hy384⟩ : ∃ y_ : List (S41), y_ = (([] : List (S41))) := ⟨_, rfl⟩
        replace H : (if y384.length + l1.length < 3518437208883 then ((some (y384 ++ l1 : List (S41))).bind fun y387 => ((some (([(⟨a2_0, a2_1, a2_2⟩ : S41)] : List (S41)) : List (S41))).bind fun y390 => (if y387.length + y390.length < 3518437208883 then ((label_Match.f (y387 ++ y390) t371).bind fun t396 => (if (t378 != t382) = true then (if t383 = true then (if (t396 == t378) = true then ((label_Match.f ([] : List (S41)) t371).bind fun t397 => (some t397)) else (some false)) else (if (t396 == false) = true then ((label_Match.f ([] : List (S41)) t371).bind fun t398 => (some t398)) else (some false))) else (some false))) else (none)))) else (none)) = some r := by first | (rw [hy384]; with_reducible exact H) | (have H2_ := (Option.bind_some _ _).symm.trans H; rw [hy384]; with_reducible exact H2_) | (have H2_ := (Option.bind_some _ _).symm.trans H; with_reducible exact H2_) | with_reducible exact H | (rw [hy384]; exact H) | exact H
        have Ny384 := Aside0.mk hy384
        clear hy384
        by_cases c14 : y384.length + l1.length < 3518437208883
        · rw [if_pos c14] at H
          have LMc14 := Aside0.mk c14
          clear c14
          obtain ⟨y387, hy387⟩ : ∃ y_ : List (S41), y_ = (y384 ++ l1) := ⟨_, rfl⟩
          replace H : ((some (([(⟨a2_0, a2_1, a2_2⟩ : S41)] : List (S41)) : List (S41))).bind fun y390 => (if y387.length + y390.length < 3518437208883 then ((label_Match.f (y387 ++ y390) t371).bind fun t396 => (if (t378 != t382) = true then (if t383 = true then (if (t396 == t378) = true then ((label_Match.f ([] : List (S41)) t371).bind fun t397 => (some t397)) else (some false)) else (if (t396 == false) = true then ((label_Match.f ([] : List (S41)) t371).bind fun t398 => (some t398)) else (some false))) else (some false))) else (none))) = some r := by first | (rw [hy387]; with_reducible exact H) | (have H2_ := (Option.bind_some _ _).symm.trans H; rw [hy387]; with_reducible exact H2_) | (have H2_ := (Option.bind_some _ _).symm.trans H; with_reducible exact H2_) | with_reducible exact H | (rw [hy387]; exact H) | exact H
          have Ny387 := Aside0.mk hy387
          clear hy387
          obtain ⟨y390, hy390⟩ : ∃ y_ : List (S41), y_ = (([(⟨a2_0, a2_1, a2_2⟩ : S41)] : List (S41))) := ⟨_, rfl⟩
          replace H : (if y387.length + y390.length < 3518437208883 then ((label_Match.f (y387 ++ y390) t371).bind fun t396 => (if (t378 != t382) = true then (if t383 = true then (if (t396 == t378) = true then ((label_Match.f ([] : List (S41)) t371).bind fun t397 => (some t397)) else (some false)) else (if (t396 == false) = true then ((label_Match.f ([] : List (S41)) t371).bind fun t398 => (some t398)) else (some false))) else (some false))) else (none)) = some r := by first | (rw [hy390]; with_reducible exact H) | (have H2_ := (Option.bind_some _ _).symm.trans H; rw [hy390]; with_reducible exact H2_) | (have H2_ := (Option.bind_some _ _).symm.trans H; with_reducible exact H2_) | with_reducible exact H | (rw [hy390]; exact H) | exact H
          have Ny390 := Aside0.mk hy390
          clear hy390
          by_cases c15 : y387.length + y390.length < 3518437208883
          · rw [if_pos c15] at H
            have LMc15 := Aside0.mk c15
            clear c15
            obtain ⟨y393, hy393⟩ : ∃ y_ : List (S41), y_ = (y387 ++ y390) := ⟨_, rfl⟩
            replace H : ((label_Match.f y393 t371).bind fun t396 => (if (t378 != t382) = true then (if t383 = true then (if (t396 == t378) = true then ((label_Match.f ([] : List (S41)) t371).bind fun t397 => (some t397)) else (some false)) else (if (t396 == false) = true then ((label_Match.f ([] : List (S41)) t371).bind fun t398 => (some t398)) else (some false))) else (some false))) = some r := by first | (rw [hy393]; with_reducible exact H) | (have H2_ := (Option.bind_some _ _).symm.trans H; rw [hy393]; with_reducible exact H2_) | (have H2_ := (Option.bind_some _ _).symm.trans H; with_reducible exact H2_) | with_reducible exact H | (rw [hy393]; exact H) | exact H
            have Ny393 := Aside0.mk hy393
            clear hy393
            replace H := Option.bind_eq_some_iff.mp H
            obtain ⟨t396, A160, H⟩ := H
            replace H : (if (t378 != t382) = true then (if t383 = true then (if (t396 == t378) = true then ((label_Match.f ([] : List (S41)) t371).bind fun t397 => (some t397)) else (some false)) else (if (t396 == false) = true then ((label_Match.f ([] : List (S41)) t371).bind fun t398 => (some t398)) else (some false))) else (some false)) = some r := H
            have A16 := Aside0.mk A160
            clear A160
            refine (if c17 : (t378 != t382) = true then ?pos_c17 else ?neg_c17)
            case' neg_c17 =>
              rw [if_neg c17] at H
              have c17b0 : (t378 != t382) = false := by simpa using c17
              (try (have c17b1 : decide (t378 = t382) = true := by simpa using c17))
              (try (have c17b2 : (t378 == t382) = true := by simpa using c17))
              clear c17
              obtain rfl := Option.some.inj H
            case' pos_c17 =>
              rw [if_pos c17] at H
              have c17b0 : (t378 != t382) = true := c17
              (try (have c17b1 : decide (t378 = t382) = false := by simpa using c17))
              (try (have c17b2 : (t378 == t382) = false := by simpa using c17))
              (try (have c17b3 : ¬ (t378 = t382) := by simpa using c17))
              clear c17
              refine (if c18 : t383 = true then ?pos_c18 else ?neg_c18)
              case' neg_c18 =>
                replace c18 := Bool.eq_false_iff.mpr c18
                subst c18
                have H1 : (if (t396 == false) = true then ((label_Match.f ([] : List (S41)) t371).bind fun t398 => (some t398)) else (some false)) = some r := by rw [if_neg (show ¬ (false = true) by decide)] at H; exact H
                clear H
                have H := H1
                clear H1
                refine (if c78 : (t396 == false) = true then ?pos_c78 else ?neg_c78)
                case' neg_c78 =>
                  rw [if_neg c78] at H
                  have c78b0 : (t396 == false) = false := by simpa using c78
                  (try (have c78b1 : decide (t396 = false) = false := by simpa using c78))
                  (try (have c78b2 : (t396 == false) = false := by simpa using c78))
                  (try (have c78b3 : ¬ (t396 = false) := by simpa using c78))
                  clear c78
                  obtain rfl := Option.some.inj H
                case' pos_c78 =>
                  rw [if_pos c78] at H
                  have c78b0 : (t396 == false) = true := c78
                  (try (have c78b1 : decide (t396 = false) = true := by simpa using c78))
                  (try (have c78b2 : (t396 == false) = true := by simpa using c78))
                  clear c78
                  replace H := Option.bind_eq_some_iff.mp H
                  obtain ⟨t398, A790, H⟩ := H
                  replace H : (some t398) = some r := H
                  have A79 := Aside0.mk A790
                  clear A790
                  obtain rfl := Option.some.inj H
              case' pos_c18 =>
                subst c18
                have H1 : (if (t396 == t378) = true then ((label_Match.f ([] : List (S41)) t371).bind fun t397 => (some t397)) else (some false)) = some r := by rw [if_pos rfl] at H; exact H
                clear H
                have H := H1
                clear H1
                refine (if c19 : (t396 == t378) = true then ?pos_c19 else ?neg_c19)
                case' neg_c19 =>
                  rw [if_neg c19] at H
                  have c19b0 : (t396 == t378) = false := by simpa using c19
                  (try (have c19b1 : decide (t396 = t378) = false := by simpa using c19))
                  (try (have c19b2 : (t396 == t378) = false := by simpa using c19))
                  (try (have c19b3 : ¬ (t396 = t378) := by simpa using c19))
                  clear c19
                  obtain rfl := Option.some.inj H
                case' pos_c19 =>
                  rw [if_pos c19] at H
                  have c19b0 : (t396 == t378) = true := c19
                  (try (have c19b1 : decide (t396 = t378) = true := by simpa using c19))
                  (try (have c19b2 : (t396 == t378) = true := by simpa using c19))
                  clear c19
                  replace H := Option.bind_eq_some_iff.mp H
                  obtain ⟨t397, A200, H⟩ := H
                  replace H : (some t397) = some r := H
                  have A20 := Aside0.mk A200
                  clear A200
                  obtain rfl := Option.some.inj H
            all_goals
              try go_wp2_with (first | ((with_reducible refine gate_callee (f := 11) rfl ?_); refine goesL_ (some 24) rfl rfl Tryd.func11 (by kernel_rfl) rfl #[.slice A0 l0.length c0] rfl (by (try simp only [List.map_toArray, List.map_cons, List.map_nil]); first | done | rfl | (simp only [List.length_drop, List.length_take]; rfl)) ?_; (with_reducible refine (postroomlaw3_labelsOf.calls kj4 _ _ l0 t371 _ ?side1 ?side2 A10.out).mono ?_); (case side1 => repeat (first | exact (Kd.C_below HR0.out HB.out) | (with_reducible refine Kd.C_alloc ?_ _) | (with_reducible refine Kd.C_drewN ?_ _) | (with_reducible refine Kd.C_drew ?_))); (case side2 => exact HC0.out); rintro e w21 ⟨v372, rfl, ho0, hb⟩; refine ⟨_, rfl, ?_⟩; have n0_ := Aside0.mk (Kd.R_lower ho0 (below_size (by repeat (first | (with_reducible first | exact HB.out | apply below_alloc | apply pw_below_drewN | apply below_drew1 | refine below_set ?_ GE369.out) | exact HB.out)))); have n1_ := Aside0.mk (blk_below (g := gb369) (o := .cells #[.string a2_0, .string a2_1, .bool a2_2] 41 (0, 0)) (by (with_reducible repeat (first | refine blk_drewN ?_ _ | refine blk_drew ?_ | refine blk_alloc ?_ _)); exact BK369.out) hb); have n2_ := Aside0.mk (below_step (by repeat (first | (with_reducible first | exact HB.out | apply below_alloc | apply pw_below_drewN | apply below_drew1 | refine below_set ?_ GE369.out) | exact HB.out)) hb); clear BK369; clear HB; have HO373 := n0_; have BK369 := n1_; have HB := n2_; clear n0_ n1_ n2_; (try clear hb); (try clear hb2); (try clear hk); (try clear hi); (try clear ho0); have hcz22_0 : w21.cell? ⟨gb369, 0, none⟩ = some (.string a2_0) := (blk_cell BK369.out 0).trans rfl; have hcz22_1 : w21.cell? ⟨gb369, 1, none⟩ = some (.string a2_1) := (blk_cell BK369.out 1).trans rfl; have hcz22_2 : w21.cell? ⟨gb369, 2, none⟩ = some (.bool a2_2) := (blk_cell BK369.out 2).trans rfl; have hfz22_0 := blk_frozen BK369.out 0; have hfz22_1 := blk_frozen BK369.out 1; have hfz22_2 := blk_frozen BK369.out 2) | ((with_reducible refine gate_dst (N := 9) rfl ?_); (try (refine gate_guard (by rfl) ?_; dsimp only)); refine box_event ?hg (N := 9) ?hd (cs := #[.string (⟨#[]⟩ : ByteArray), .string (⟨#[]⟩ : ByteArray), .bool false]) (t := 41) ?hr ?_; (case hd => rfl); (case hg => rfl); (case hr => first | (go_simp; done) | (go_simp; rfl)); intro gb374 hg w23 hbox hb; have n0_ := Aside0.mk (Kd.R_below (by (with_reducible repeat (first | apply Kd.R_alloc | apply Kd.R_drewN | apply Kd.R_drew)); exact HO373.out) hb); have n1_ := Aside0.mk (blk_below (g := gb369) (o := .cells #[.string a2_0, .string a2_1, .bool a2_2] 41 (0, 0)) (by (with_reducible repeat (first | refine blk_drewN ?_ _ | refine blk_drew ?_ | refine blk_alloc ?_ _)); exact BK369.out) hb); have n2_ := Aside0.mk (below_step (by repeat (first | (with_reducible first | exact HB.out | apply below_alloc | apply pw_below_drewN | apply below_drew1 | refine below_set ?_ GE369.out) | exact HB.out)) hb); have n3_ := Aside0.mk (hbox); have n4_ := Aside0.mk ((by rw [hg]; exact (below_size (by repeat (first | (with_reducible first | exact HB.out | apply below_alloc | apply pw_below_drewN | apply below_drew1 | refine below_set ?_ GE369.out) | exact HB.out))) : w.heap.size ≤ gb374)); have n5_ := Aside0.mk ((by rw [hg]; exact (below_size (by repeat (first | (with_reducible first | exact HB.out | apply below_alloc | apply pw_below_drewN | apply below_drew1 | refine below_set ?_ GE369.out) | exact HB.out))) : w.heap.size ≤ gb374)); have n6_ := Aside0.mk ((by rw [hg]; exact Nat.ne_of_lt (blk_lt (g := gb369) (o := .cells #[.string a2_0, .string a2_1, .bool a2_2] 41 (0, 0)) (by (with_reducible repeat (first | refine blk_drewN ?_ _ | refine blk_drew ?_ | refine blk_alloc ?_ _)); exact BK369.out)) : gb369 ≠ gb374)); have n7_ := Aside0.mk ((by rw [hg]; exact Nat.ne_of_gt (blk_lt (g := gb369) (o := .cells #[.string a2_0, .string a2_1, .bool a2_2] 41 (0, 0)) (by (with_reducible repeat (first | refine blk_drewN ?_ _ | refine blk_drew ?_ | refine blk_alloc ?_ _)); exact BK369.out)) : gb374 ≠ gb369)); clear HO373; clear BK369; clear HB; have HO373 := n0_; have BK369 := n1_; have HB := n2_; have BK374 := n3_; have GW374 := n4_; have GE374 := n5_; have NB369_374 := n6_; have NB374_369 := n7_; clear n0_ n1_ n2_ n3_ n4_ n5_ n6_ n7_; clear hb hbox hg; have hnb24 := NB374_369.out; have hnc24 := NB369_374.out; have hcz25_0 : w23.cell? ⟨gb374, 0, none⟩ = some (.string (⟨#[]⟩ : ByteArray)) := (blk_cell BK374.out 0).trans rfl; have hcz25_1 : w23.cell? ⟨gb374, 1, none⟩ = some (.string (⟨#[]⟩ : ByteArray)) := (blk_cell BK374.out 1).trans rfl; have hcz25_2 : w23.cell? ⟨gb374, 2, none⟩ = some (.bool false) := (blk_cell BK374.out 2).trans rfl; have hfz25_0 := blk_frozen BK374.out 0; have hfz25_1 := blk_frozen BK374.out 1; have hfz25_2 := blk_frozen BK374.out 2; have hcz26_0 : w23.cell? ⟨gb369, 0, none⟩ = some (.string a2_0) := (blk_cell BK369.out 0).trans rfl; have hcz26_1 : w23.cell? ⟨gb369, 1, none⟩ = some (.string a2_1) := (blk_cell BK369.out 1).trans rfl; have hcz26_2 : w23.cell? ⟨gb369, 2, none⟩ = some (.bool a2_2) := (blk_cell BK369.out 2).trans rfl; have hfz26_0 := blk_frozen BK369.out 0; have hfz26_1 := blk_frozen BK369.out 1; have hfz26_2 := blk_frozen BK369.out 2) | ((with_reducible refine gate_dst (N := 31) rfl ?_); (try (refine gate_guard (by rfl) ?_; dsimp only)); refine Kd.R_lit k41 _ 41 ?hg (N := 31) ?hd (xs := ([(⟨a2_0, a2_1, a2_2⟩ : S41)] : List (S41))) (inner := [.string a2_0, .string a2_1, .bool a2_2]) (ok := fun _ => True) (okp := fun _ => True) ?hr ?hp (fun _ hk => hk) trivial (Below.refl _ _) (Nat.le_refl _) (by simp) ?_; (case hd => rfl); (case hg => rfl); (case hr => first | (go_simp; done) | (go_simp; rfl)); (case hp => exact (Reps.c3 (show Kd.M k41 _ _ _ (⟨a2_0, a2_1, a2_2⟩ : S41) [.string a2_0, .string a2_1, .bool a2_2] from (k41_mkM _ _ _ (⟨a2_0, a2_1, a2_2⟩ : S41) )) (Reps.none _ _))); intro v376 w27 ho28 hb hg_ hnew_; clear hg_ hnew_; (first | rw [← Ny375.out] at ho28 | (simp only [Int.reduceToNat] at ho28; rw [← Ny375.out] at ho28)); have n0_ := Aside0.mk (Kd.R_below (by (with_reducible repeat (first | apply Kd.R_alloc | apply Kd.R_drewN | apply Kd.R_drew)); exact (Kd.R_mono (Kd.R_far (p := ⟨gb374, 2, none⟩) (Kd.R_far (p := ⟨gb374, 2, none⟩) (Kd.R_far (p := ⟨gb374, 1, none⟩) (Kd.R_far (p := ⟨gb374, 0, none⟩) (Kd.R_types HO373.out BK374.out (by decide)) (fun _ hk => hk.2) (.string a2_0)) (fun _ hk => hk.2) (.string a2_1)) (fun _ hk => hk.2) (.bool a2_2)) (fun _ hk => hk.2) (.bool (!a2_2))) (fun _ h_ => h_.1))) hb); have n1_ := Aside0.mk (Kd.R_lower (Kd.R_newB (Kd.R_newB ho28 (g := gb369) (o := .cells #[.string a2_0, .string a2_1, .bool a2_2] 41 (0, 0)) (by (with_reducible repeat (first | refine blk_drewN ?_ _ | refine blk_drew ?_ | refine blk_alloc ?_ _)); refine blk_far ?_ NB369_374.out _; (with_reducible repeat (first | refine blk_drewN ?_ _ | refine blk_drew ?_ | refine blk_alloc ?_ _)); refine blk_far ?_ NB369_374.out _; (with_reducible repeat (first | refine blk_drewN ?_ _ | refine blk_drew ?_ | refine blk_alloc ?_ _)); refine blk_far ?_ NB369_374.out _; (with_reducible repeat (first | refine blk_drewN ?_ _ | refine blk_drew ?_ | refine blk_alloc ?_ _)); refine blk_far ?_ NB369_374.out _; (with_reducible repeat (first | refine blk_drewN ?_ _ | refine blk_drew ?_ | refine blk_alloc ?_ _)); exact BK369.out)) (g := gb374) (o := .cells #[.string a2_0, .string a2_1, .bool (!a2_2)] 41 (0, 0)) (by (with_reducible repeat (first | refine blk_drewN ?_ _ | refine blk_drew ?_ | refine blk_alloc ?_ _)); refine blk_put (cs := #[.string a2_0, .string a2_1, .bool a2_2]) ?_ 2 _ rfl; (with_reducible repeat (first | refine blk_drewN ?_ _ | refine blk_drew ?_ | refine blk_alloc ?_ _)); refine blk_put (cs := #[.string a2_0, .string a2_1, .bool false]) ?_ 2 _ rfl; (with_reducible repeat (first | refine blk_drewN ?_ _ | refine blk_drew ?_ | refine blk_alloc ?_ _)); refine blk_put (cs := #[.string a2_0, .string (⟨#[]⟩ : ByteArray), .bool false]) ?_ 1 _ rfl; (with_reducible repeat (first | refine blk_drewN ?_ _ | refine blk_drew ?_ | refine blk_alloc ?_ _)); refine blk_put (cs := #[.string (⟨#[]⟩ : ByteArray), .string (⟨#[]⟩ : ByteArray), .bool false]) ?_ 0 _ rfl; (with_reducible repeat (first | refine blk_drewN ?_ _ | refine blk_drew ?_ | refine blk_alloc ?_ _)); exact BK374.out)) (below_size (by repeat (first | (with_reducible first | exact HB.out | apply below_alloc | apply pw_below_drewN | apply below_drew1 | refine below_set ?_ GE369.out | refine below_set ?_ GE374.out) | exact HB.out)))); have n2_ := Aside0.mk (blk_below (g := gb369) (o := .cells #[.string a2_0, .string a2_1, .bool a2_2] 41 (0, 0)) (by (with_reducible repeat (first | refine blk_drewN ?_ _ | refine blk_drew ?_ | refine blk_alloc ?_ _)); refine blk_far ?_ NB369_374.out _; (with_reducible repeat (first | refine blk_drewN ?_ _ | refine blk_drew ?_ | refine blk_alloc ?_ _)); refine blk_far ?_ NB369_374.out _; (with_reducible repeat (first | refine blk_drewN ?_ _ | refine blk_drew ?_ | refine blk_alloc ?_ _)); refine blk_far ?_ NB369_374.out _; (with_reducible repeat (first | refine blk_drewN ?_ _ | refine blk_drew ?_ | refine blk_alloc ?_ _)); refine blk_far ?_ NB369_374.out _; (with_reducible repeat (first | refine blk_drewN ?_ _ | refine blk_drew ?_ | refine blk_alloc ?_ _)); exact BK369.out) hb); have n3_ := Aside0.mk (blk_below (g := gb374) (o := .cells #[.string a2_0, .string a2_1, .bool (!a2_2)] 41 (0, 0)) (by (with_reducible repeat (first | refine blk_drewN ?_ _ | refine blk_drew ?_ | refine blk_alloc ?_ _)); refine blk_put (cs := #[.string a2_0, .string a2_1, .bool a2_2]) ?_ 2 _ rfl; (with_reducible repeat (first | refine blk_drewN ?_ _ | refine blk_drew ?_ | refine blk_alloc ?_ _)); refine blk_put (cs := #[.string a2_0, .string a2_1, .bool false]) ?_ 2 _ rfl; (with_reducible repeat (first | refine blk_drewN ?_ _ | refine blk_drew ?_ | refine blk_alloc ?_ _)); refine blk_put (cs := #[.string a2_0, .string (⟨#[]⟩ : ByteArray), .bool false]) ?_ 1 _ rfl; (with_reducible repeat (first | refine blk_drewN ?_ _ | refine blk_drew ?_ | refine blk_alloc ?_ _)); refine blk_put (cs := #[.string (⟨#[]⟩ : ByteArray), .string (⟨#[]⟩ : ByteArray), .bool false]) ?_ 0 _ rfl; (with_reducible repeat (first | refine blk_drewN ?_ _ | refine blk_drew ?_ | refine blk_alloc ?_ _)); exact BK374.out) hb); have n4_ := Aside0.mk (below_step (by repeat (first | (with_reducible first | exact HB.out | apply below_alloc | apply pw_below_drewN | apply below_drew1 | refine below_set ?_ GE369.out | refine below_set ?_ GE374.out) | exact HB.out)) hb); clear HO373; clear BK369; clear BK374; clear HB; have HO373 := n0_; have HO377 := n1_; have BK369 := n2_; have BK374 := n3_; have HB := n4_; clear n0_ n1_ n2_ n3_ n4_; clear hb ho28; obtain ⟨Ao29, co29, eo29⟩ := Kd.R_slice HO377.out; subst eo29; obtain ⟨Ao30, co30, eo30⟩ := Kd.R_slice HO373.out; subst eo30) | ((with_reducible refine gate_callee (f := 19) rfl ?_); refine goesL_ (some 33) rfl rfl Tryd.func19 (by kernel_rfl) rfl #[.slice Ao29 y375.length co29, .slice Ao30 t371.length co30] rfl (by (try simp only [List.map_toArray, List.map_cons, List.map_nil]); first | done | rfl | (simp only [List.length_drop, List.length_take]; rfl)) ?_; (with_reducible refine (label_Match.calls _ _ y375 _ _ t371 _ _ ?side1 ?side2 ?side3 ?side4 A11.out).mono ?_); (case side1 => repeat (first | exact (Kd.R_reads' HO377.out).2.2 | (with_reducible refine Kd.C_alloc ?_ _) | (with_reducible refine Kd.C_drewN ?_ _) | (with_reducible refine Kd.C_drew ?_))); (case side2 => exact (Kd.R_reads' HO377.out).2.1); (case side3 => repeat (first | exact (Kd.R_reads' HO373.out).2.2 | (with_reducible refine Kd.C_alloc ?_ _) | (with_reducible refine Kd.C_drewN ?_ _) | (with_reducible refine Kd.C_drew ?_))); (case side4 => exact (Kd.R_reads' HO373.out).2.1); rintro e w31 ⟨rfl, hb⟩; refine ⟨_, rfl, ?_⟩; have n0_ := Aside0.mk (Kd.R_below (by (with_reducible repeat (first | apply Kd.R_alloc | apply Kd.R_drewN | apply Kd.R_drew)); exact HO373.out) hb); have n1_ := Aside0.mk (Kd.R_below (by (with_reducible repeat (first | apply Kd.R_alloc | apply Kd.R_drewN | apply Kd.R_drew)); exact HO377.out) hb); have n2_ := Aside0.mk (blk_below (g := gb369) (o := .cells #[.string a2_0, .string a2_1, .bool a2_2] 41 (0, 0)) (by (with_reducible repeat (first | refine blk_drewN ?_ _ | refine blk_drew ?_ | refine blk_alloc ?_ _)); exact BK369.out) hb); have n3_ := Aside0.mk (blk_below (g := gb374) (o := .cells #[.string a2_0, .string a2_1, .bool (!a2_2)] 41 (0, 0)) (by (with_reducible repeat (first | refine blk_drewN ?_ _ | refine blk_drew ?_ | refine blk_alloc ?_ _)); exact BK374.out) hb); have n4_ := Aside0.mk (below_step (by repeat (first | (with_reducible first | exact HB.out | apply below_alloc | apply pw_below_drewN | apply below_drew1 | refine below_set ?_ GE369.out | refine below_set ?_ GE374.out) | exact HB.out)) hb); clear HO373; clear HO377; clear BK369; clear BK374; clear HB; have HO373 := n0_; have HO377 := n1_; have BK369 := n2_; have BK374 := n3_; have HB := n4_; clear n0_ n1_ n2_ n3_ n4_; (try clear hb); (try clear hb2); (try clear hk); (try clear hi); have hcz32_0 : w31.cell? ⟨gb374, 0, none⟩ = some (.string a2_0) := (blk_cell BK374.out 0).trans rfl; have hcz32_1 : w31.cell? ⟨gb374, 1, none⟩ = some (.string a2_1) := (blk_cell BK374.out 1).trans rfl; have hcz32_2 : w31.cell? ⟨gb374, 2, none⟩ = some (.bool (!a2_2)) := (blk_cell BK374.out 2).trans rfl; have hfz32_0 := blk_frozen BK374.out 0; have hfz32_1 := blk_frozen BK374.out 1; have hfz32_2 := blk_frozen BK374.out 2) | ((with_reducible refine gate_dst (N := 35) rfl ?_); (try (refine gate_guard (by rfl) ?_; dsimp only)); refine Kd.R_lit k41 _ 41 ?hg (N := 35) ?hd (xs := ([(⟨a2_0, a2_1, !a2_2⟩ : S41)] : List (S41))) (inner := [.string a2_0, .string a2_1, .bool (!a2_2)]) (ok := fun _ => True) (okp := fun _ => True) ?hr ?hp (fun _ hk => hk) trivial (Below.refl _ _) (Nat.le_refl _) (by simp) ?_; (case hd => rfl); (case hg => rfl); (case hr => first | (go_simp; done) | (go_simp; rfl)); (case hp => exact (Reps.c3 (show Kd.M k41 _ _ _ (⟨a2_0, a2_1, !a2_2⟩ : S41) [.string a2_0, .string a2_1, .bool (!a2_2)] from (k41_mkM _ _ _ (⟨a2_0, a2_1, !a2_2⟩ : S41) )) (Reps.none _ _))); intro v380 w33 ho34 hb hg_ hnew_; clear hg_ hnew_; (first | rw [← Ny379.out] at ho34 | (simp only [Int.reduceToNat] at ho34; rw [← Ny379.out] at ho34)); have n0_ := Aside0.mk (Kd.R_below (by (with_reducible repeat (first | apply Kd.R_alloc | apply Kd.R_drewN | apply Kd.R_drew)); exact HO373.out) hb); have n1_ := Aside0.mk (Kd.R_elder' (by (with_reducible repeat (first | apply Kd.R_alloc | apply Kd.R_drewN | apply Kd.R_drew)); exact HO377.out) (Kd.R_base ho34) hb); have n2_ := Aside0.mk (Kd.R_lower (Kd.R_newB (Kd.R_newB (Kd.R_new' ho34 (Kd.R_lt (by (with_reducible repeat (first | apply Kd.R_alloc | apply Kd.R_drewN | apply Kd.R_drew)); exact HO377.out))) (g := gb369) (o := .cells #[.string a2_0, .string a2_1, .bool a2_2] 41 (0, 0)) (by (with_reducible repeat (first | refine blk_drewN ?_ _ | refine blk_drew ?_ | refine blk_alloc ?_ _)); exact BK369.out)) (g := gb374) (o := .cells #[.string a2_0, .string a2_1, .bool (!a2_2)] 41 (0, 0)) (by (with_reducible repeat (first | refine blk_drewN ?_ _ | refine blk_drew ?_ | refine blk_alloc ?_ _)); exact BK374.out)) (below_size (by repeat (first | (with_reducible first | exact HB.out | apply below_alloc | apply pw_below_drewN | apply below_drew1 | refine below_set ?_ GE369.out | refine below_set ?_ GE374.out) | exact HB.out)))); have n3_ := Aside0.mk (blk_below (g := gb369) (o := .cells #[.string a2_0, .string a2_1, .bool a2_2] 41 (0, 0)) (by (with_reducible repeat (first | refine blk_drewN ?_ _ | refine blk_drew ?_ | refine blk_alloc ?_ _)); exact BK369.out) hb); have n4_ := Aside0.mk (blk_below (g := gb374) (o := .cells #[.string a2_0, .string a2_1, .bool (!a2_2)] 41 (0, 0)) (by (with_reducible repeat (first | refine blk_drewN ?_ _ | refine blk_drew ?_ | refine blk_alloc ?_ _)); exact BK374.out) hb); have n5_ := Aside0.mk (below_step (by repeat (first | (with_reducible first | exact HB.out | apply below_alloc | apply pw_below_drewN | apply below_drew1 | refine below_set ?_ GE369.out | refine below_set ?_ GE374.out) | exact HB.out)) hb); clear HO373; clear HO377; clear BK369; clear BK374; clear HB; have HO373 := n0_; have HO377 := n1_; have HO381 := n2_; have BK369 := n3_; have BK374 := n4_; have HB := n5_; clear n0_ n1_ n2_ n3_ n4_ n5_; clear hb ho34; obtain ⟨Ao35, co35, eo35⟩ := Kd.R_slice HO381.out; subst eo35) | ((with_reducible refine gate_callee (f := 19) rfl ?_); refine goesL_ (some 37) rfl rfl Tryd.func19 (by kernel_rfl) rfl #[.slice Ao35 y379.length co35, .slice Ao30 t371.length co30] rfl (by (try simp only [List.map_toArray, List.map_cons, List.map_nil]); first | done | rfl | (simp only [List.length_drop, List.length_take]; rfl)) ?_; (with_reducible refine (label_Match.calls _ _ y379 _ _ t371 _ _ ?side1 ?side2 ?side3 ?side4 A12.out).mono ?_); (case side1 => repeat (first | exact (Kd.R_reads' HO381.out).2.2 | (with_reducible refine Kd.C_alloc ?_ _) | (with_reducible refine Kd.C_drewN ?_ _) | (with_reducible refine Kd.C_drew ?_))); (case side2 => exact (Kd.R_reads' HO381.out).2.1); (case side3 => repeat (first | exact (Kd.R_reads' HO373.out).2.2 | (with_reducible refine Kd.C_alloc ?_ _) | (with_reducible refine Kd.C_drewN ?_ _) | (with_reducible refine Kd.C_drew ?_))); (case side4 => exact (Kd.R_reads' HO373.out).2.1); rintro e w36 ⟨rfl, hb⟩; refine ⟨_, rfl, ?_⟩; have n0_ := Aside0.mk (Kd.R_below (by (with_reducible repeat (first | apply Kd.R_alloc | apply Kd.R_drewN | apply Kd.R_drew)); exact HO373.out) hb); have n1_ := Aside0.mk (Kd.R_below (by (with_reducible repeat (first | apply Kd.R_alloc | apply Kd.R_drewN | apply Kd.R_drew)); exact HO377.out) hb); have n2_ := Aside0.mk (Kd.R_below (by (with_reducible repeat (first | apply Kd.R_alloc | apply Kd.R_drewN | apply Kd.R_drew)); exact HO381.out) hb); have n3_ := Aside0.mk (blk_below (g := gb369) (o := .cells #[.string a2_0, .string a2_1, .bool a2_2] 41 (0, 0)) (by (with_reducible repeat (first | refine blk_drewN ?_ _ | refine blk_drew ?_ | refine blk_alloc ?_ _)); exact BK369.out) hb); have n4_ := Aside0.mk (blk_below (g := gb374) (o := .cells #[.string a2_0, .string a2_1, .bool (!a2_2)] 41 (0, 0)) (by (with_reducible repeat (first | refine blk_drewN ?_ _ | refine blk_drew ?_ | refine blk_alloc ?_ _)); exact BK374.out) hb); have n5_ := Aside0.mk (below_step (by repeat (first | (with_reducible first | exact HB.out | apply below_alloc | apply pw_below_drewN | apply below_drew1 | refine below_set ?_ GE369.out | refine below_set ?_ GE374.out) | exact HB.out)) hb); clear HO373; clear HO377; clear HO381; clear BK369; clear BK374; clear HB; have HO373 := n0_; have HO377 := n1_; have HO381 := n2_; have BK369 := n3_; have BK374 := n4_; have HB := n5_; clear n0_ n1_ n2_ n3_ n4_ n5_; (try clear hb); (try clear hb2); (try clear hk); (try clear hi)) | ((with_reducible refine gate_callee (f := 19) rfl ?_); refine goesL_ (some 40) rfl rfl Tryd.func19 (by kernel_rfl) rfl #[.slice A1 l1.length c1, .slice Ao30 t371.length co30] rfl (by (try simp only [List.map_toArray, List.map_cons, List.map_nil]); first | done | rfl | (simp only [List.length_drop, List.length_take]; rfl)) ?_; (with_reducible refine (label_Match.calls _ _ l1 _ _ t371 _ _ ?side1 ?side2 ?side3 ?side4 A13.out).mono ?_); (case side1 => repeat (first | exact (Kd.C_below HR1.out HB.out) | (with_reducible refine Kd.C_alloc ?_ _) | (with_reducible refine Kd.C_drewN ?_ _) | (with_reducible refine Kd.C_drew ?_))); (case side2 => exact HC1.out); (case side3 => repeat (first | exact (Kd.R_reads' HO373.out).2.2 | (with_reducible refine Kd.C_alloc ?_ _) | (with_reducible refine Kd.C_drewN ?_ _) | (with_reducible refine Kd.C_drew ?_))); (case side4 => exact (Kd.R_reads' HO373.out).2.1); rintro e w37 ⟨rfl, hb⟩; refine ⟨_, rfl, ?_⟩; have n0_ := Aside0.mk (Kd.R_below (by (with_reducible repeat (first | apply Kd.R_alloc | apply Kd.R_drewN | apply Kd.R_drew)); exact HO373.out) hb); have n1_ := Aside0.mk (Kd.R_below (by (with_reducible repeat (first | apply Kd.R_alloc | apply Kd.R_drewN | apply Kd.R_drew)); exact HO377.out) hb); have n2_ := Aside0.mk (Kd.R_below (by (with_reducible repeat (first | apply Kd.R_alloc | apply Kd.R_drewN | apply Kd.R_drew)); exact HO381.out) hb); have n3_ := Aside0.mk (blk_below (g := gb369) (o := .cells #[.string a2_0, .string a2_1, .bool a2_2] 41 (0, 0)) (by (with_reducible repeat (first | refine blk_drewN ?_ _ | refine blk_drew ?_ | refine blk_alloc ?_ _)); exact BK369.out) hb); have n4_ := Aside0.mk (blk_below (g := gb374) (o := .cells #[.string a2_0, .string a2_1, .bool (!a2_2)] 41 (0, 0)) (by (with_reducible repeat (first | refine blk_drewN ?_ _ | refine blk_drew ?_ | refine blk_alloc ?_ _)); exact BK374.out) hb); have n5_ := Aside0.mk (below_step (by repeat (first | (with_reducible first | exact HB.out | apply below_alloc | apply pw_below_drewN | apply below_drew1 | refine below_set ?_ GE369.out | refine below_set ?_ GE374.out) | exact HB.out)) hb); clear HO373; clear HO377; clear HO381; clear BK369; clear BK374; clear HB; have HO373 := n0_; have HO377 := n1_; have HO381 := n2_; have BK369 := n3_; have BK374 := n4_; have HB := n5_; clear n0_ n1_ n2_ n3_ n4_ n5_; (try clear hb); (try clear hb2); (try clear hk); (try clear hi)))
              have n0_ := Aside0.mk (Kd.R_drew HO373.out)
              have n1_ := Aside0.mk (Kd.R_drew HO377.out)
              have n2_ := Aside0.mk (Kd.R_drew HO381.out)
              have n3_ := Aside0.mk (blk_drew BK369.out)
              have n4_ := Aside0.mk (blk_drew BK374.out)
              have n5_ := Aside0.mk (below_drew1 HB.out)
              clear HO373
              clear HO377
              clear HO381
              clear BK369
              clear BK374
              clear HB
              have HO373 := n0_
              have HO377 := n1_
              have HO381 := n2_
              have BK369 := n3_
              have BK374 := n4_
              have HB := n5_
              clear n0_ n1_ n2_ n3_ n4_ n5_
              refine start_ (n := 9) (S := fun w' => w'.cell? ⟨gb369, 0, none⟩ = some (.string a2_0) ∧ w'.cell? ⟨gb369, 1, none⟩ = some (.string a2_1) ∧ w'.cell? ⟨gb369, 2, none⟩ = some (.bool a2_2)) (ds := []) #[false, false, false, false, false, false, false, false, false] (by kernel_rfl) rfl rfl ⟨(blk_cell BK369.out 0).trans rfl, (blk_cell BK369.out 1).trans rfl, (blk_cell BK369.out 2).trans rfl⟩ (fun hHeld => ?_); refine with_tabW postroomlaw3_LabelNot.tab10 postroomlaw3_LabelNot.bits10 (fun HT_ HW_ => ?_)
              generalize w37.drew = w38 at HO373 HO377 HO381 BK369 BK374 HB hHeld ⊢
              refine pure_ (i := 1) (N := some 42) (v := ?_) (a' := ?_) #[false, true, false, false, false, false, false, false, false] rfl rfl (any_of HT_.out (by kernel_rfl)) (fun _ _ _ h => h) (Or.inl ⟨by rfl, ?_⟩) ?_ ?_
              rotate_left
              · intro w'
                go_simp
                with_reducible rfl
              rotate_left
              · simp only [Act.put, List.setIfInBounds_toArray, List.set_cons_zero, List.set_cons_succ, i64_w, i32_w]
                rfl
              refine pure_ (i := 6) (N := some 47) (v := ?_) (a' := ?_) #[false, true, false, false, false, false, true, false, false] rfl rfl (any_of HT_.out (by kernel_rfl)) (fun _ _ _ h => h) (Or.inl ⟨by rfl, ?_⟩) ?_ ?_
              rotate_left
              · intro w'
                go_simp
                with_reducible rfl
              rotate_left
              · simp only [Act.put, List.setIfInBounds_toArray, List.set_cons_zero, List.set_cons_succ, i64_w, i32_w]
                rfl
              refine take_ (i := 3) (N := some 44) (v := ?_) (a' := ?_) #[false, true, false, true, false, false, true, false, false] rfl rfl (take_ofW HT_.out HW_.out (by kernel_rfl)) (fun _ _ _ h => h) (Or.inl ⟨by rfl, ?_⟩) hHeld ?_ ?_
              rotate_left
              · rintro w' ⟨s0, s1, s2⟩
                go_simp
                with_reducible rfl
              rotate_left
              · simp only [Act.put, List.setIfInBounds_toArray, List.set_cons_zero, List.set_cons_succ, i64_w, i32_w]
                rfl
              refine join_ (σ := Value × Value × Value) 3 #[true, true, true, true, true, false, true, false, false] (fun s_ => [(41, s_.1), (43, s_.2.1), (45, s_.2.2)]) (fun s_ w' => (w'.cell? ⟨gb369, 0, none⟩ = some (.string a2_0) ∧ w'.cell? ⟨gb369, 1, none⟩ = some (.string a2_1) ∧ w'.cell? ⟨gb369, 2, none⟩ = some (.bool a2_2)) ∧ (Kd.R k30 30 w' w.heap.size (fun _ => True) (.slice Ao30 t371.length co30) t371) ∧ (Kd.R k41 41 w' w.heap.size (fun k_ => some k_ ≠ (.slice Ao35 y379.length co35 : Value).ownBlock ∧ some k_ ≠ (s_.2.1 : Value).ownBlock ∧ some k_ ≠ (s_.2.2 : Value).ownBlock ∧ k_ ≠ gb369 ∧ k_ ≠ gb374) (.slice Ao29 y375.length co29) y375) ∧ (Kd.R k41 41 w' w.heap.size (fun k_ => some k_ ≠ (.slice Ao29 y375.length co29 : Value).ownBlock ∧ some k_ ≠ (s_.2.1 : Value).ownBlock ∧ some k_ ≠ (s_.2.2 : Value).ownBlock ∧ k_ ≠ gb369 ∧ k_ ≠ gb374) (.slice Ao35 y379.length co35) y379) ∧ (Kd.R k41 41 w' w.heap.size (fun k_ => some k_ ≠ (.slice Ao29 y375.length co29 : Value).ownBlock ∧ some k_ ≠ (.slice Ao35 y379.length co35 : Value).ownBlock ∧ some k_ ≠ (s_.2.2 : Value).ownBlock ∧ k_ ≠ gb369 ∧ k_ ≠ gb374) s_.2.1 y387) ∧ (Kd.R k41 41 w' w.heap.size (fun k_ => some k_ ≠ (.slice Ao29 y375.length co29 : Value).ownBlock ∧ some k_ ≠ (.slice Ao35 y379.length co35 : Value).ownBlock ∧ some k_ ≠ (s_.2.1 : Value).ownBlock ∧ k_ ≠ gb369 ∧ k_ ≠ gb374) s_.2.2 y390) ∧ (w'.heap[gb369]? = some (.cells #[.string a2_0, .string a2_1, .bool a2_2] 41 (0, 0))) ∧ (w'.heap[gb374]? = some (.cells #[.string a2_0, .string a2_1, .bool (!a2_2)] 41 (0, 0))) ∧ (Below w.heap.size w w')) ?_ ?_
              rotate_left
              · intro hCont
                refine two_ (i := 0) (j := 4) (Ni := some 41) (Nj := some 45) #[true, true, false, true, false, false, true, false, false] #[false, true, false, true, true, false, true, false, false] rfl rfl rfl rfl (two_of HT_.out (by kernel_rfl)) (by decide) (by decide) (fun K hK => ?_) (fun K hK => ?_)
                · skip
                  refine Kd.R_lit_step k41 _ 41 ?hg (N := 41) ?hd (xs := ([] : List (S41))) (inner := []) (ok := fun _ => True) (okp := fun _ => True) ?hr ?hp (fun _ hk => hk) trivial (Below.refl _ _) (Nat.le_refl _) (by simp) ?_; (case hd => rfl); (case hg => rfl); (case hr => first | (go_simp; done) | (go_simp; rfl)); (case hp => exact (Reps.none _ _))
                  intro v385 w39 ho40 hb hg_ hnew_
                  clear hg_ hnew_
                  (first | rw [← Ny384.out] at ho40 | (simp only [Int.reduceToNat] at ho40; rw [← Ny384.out] at ho40))
                  have n0_ := Aside0.mk (Kd.R_below (by (with_reducible repeat (first | apply Kd.R_alloc | apply Kd.R_drewN | apply Kd.R_drew)); exact HO373.out) hb)
                  have n1_ := Aside0.mk (Kd.R_elder' (by (with_reducible repeat (first | apply Kd.R_alloc | apply Kd.R_drewN | apply Kd.R_drew)); exact HO377.out) (Kd.R_base ho40) hb)
                  have n2_ := Aside0.mk (Kd.R_elder' (by (with_reducible repeat (first | apply Kd.R_alloc | apply Kd.R_drewN | apply Kd.R_drew)); exact HO381.out) (Kd.R_base ho40) hb)
                  have n3_ := Aside0.mk (Kd.R_lower (Kd.R_newB (Kd.R_newB (Kd.R_new' (Kd.R_new' ho40 (Kd.R_lt (by (with_reducible repeat (first | apply Kd.R_alloc | apply Kd.R_drewN | apply Kd.R_drew)); exact HO377.out))) (Kd.R_lt (by (with_reducible repeat (first | apply Kd.R_alloc | apply Kd.R_drewN | apply Kd.R_drew)); exact HO381.out))) (g := gb369) (o := .cells #[.string a2_0, .string a2_1, .bool a2_2] 41 (0, 0)) (by (with_reducible repeat (first | refine blk_drewN ?_ _ | refine blk_drew ?_ | refine blk_alloc ?_ _)); exact BK369.out)) (g := gb374) (o := .cells #[.string a2_0, .string a2_1, .bool (!a2_2)] 41 (0, 0)) (by (with_reducible repeat (first | refine blk_drewN ?_ _ | refine blk_drew ?_ | refine blk_alloc ?_ _)); exact BK374.out)) (below_size (by repeat (first | (with_reducible first | exact HB.out | apply below_alloc | apply pw_below_drewN | apply below_drew1 | refine below_set ?_ GE369.out | refine below_set ?_ GE374.out) | exact HB.out))))
                  have n4_ := Aside0.mk (blk_below (g := gb369) (o := .cells #[.string a2_0, .string a2_1, .bool a2_2] 41 (0, 0)) (by (with_reducible repeat (first | refine blk_drewN ?_ _ | refine blk_drew ?_ | refine blk_alloc ?_ _)); exact BK369.out) hb)
                  have n5_ := Aside0.mk (blk_below (g := gb374) (o := .cells #[.string a2_0, .string a2_1, .bool (!a2_2)] 41 (0, 0)) (by (with_reducible repeat (first | refine blk_drewN ?_ _ | refine blk_drew ?_ | refine blk_alloc ?_ _)); exact BK374.out) hb)
                  have n6_ := Aside0.mk (below_step (by repeat (first | (with_reducible first | exact HB.out | apply below_alloc | apply pw_below_drewN | apply below_drew1 | refine below_set ?_ GE369.out | refine below_set ?_ GE374.out) | exact HB.out)) hb)
                  clear HO373
                  clear HO377
                  clear HO381
                  clear BK369
                  clear BK374
                  clear HB
                  have HO373 := n0_
                  have HO377 := n1_
                  have HO381 := n2_
                  have HO386 := n3_
                  have BK369 := n4_
                  have BK374 := n5_
                  have HB := n6_
                  clear n0_ n1_ n2_ n3_ n4_ n5_ n6_
                  clear hb ho40
                  refine hK.out _ _ ⟨(blk_cell BK369.out 0).trans rfl, (blk_cell BK369.out 1).trans rfl, (blk_cell BK369.out 2).trans rfl⟩ (fun hHeld => ?_)
                  clear hK K
                  refine norm_ (a' := ?_) ?_ ?_
                  rotate_left
                  · show Act.put _ (some 41) _ = _
                    simp only [Act.put, List.setIfInBounds_toArray, List.set_cons_zero, List.set_cons_succ, i64_w, i32_w]
                    rfl
                  refine two_ (i := 2) (j := 4) (Ni := some 43) (Nj := some 45) #[true, true, true, true, false, false, true, false, false] #[true, true, false, true, true, false, true, false, false] rfl rfl rfl rfl (two_of HT_.out (by kernel_rfl)) (by decide) (by decide) (fun K hK => ?_) (fun K hK => ?_)
                  · skip
                    refine Kd.R_append_rows_step k41 (w0 := w) w.heap.size (by rfl) (.tmp 41) (.tmp 42) 37 41 (.agg #[(.string ⟨#[]⟩), (.string ⟨#[]⟩), (.bool false)]) 40 rfl Tryd.underlying37 info41 rfl (by decide) (by omega) v385 y384 l1 _ _ _ (fun k_ => some k_ ≠ (.slice Ao29 y375.length co29 : Value).ownBlock ∧ some k_ ≠ (.slice Ao35 y379.length co35 : Value).ownBlock ∧ k_ ≠ gb369 ∧ k_ ≠ gb374) (fun _ => False) rfl rfl ?aO ?aR (fun _ _ h => h) (fun _ h => h.elim) ?aF ?aB ?aS ?aL ?_
                    (case aR => repeat (first | exact (Kd.C_below HR1.out HB.out) | (with_reducible refine Kd.C_alloc ?_ _) | (with_reducible refine Kd.C_drewN ?_ _) | (with_reducible refine Kd.C_drew ?_)))
                    (case aB => exact (by repeat (first | (with_reducible first | exact HB.out | apply below_alloc | apply pw_below_drewN | apply below_drew1 | refine below_set ?_ GE369.out | refine below_set ?_ GE374.out) | exact HB.out)))
                    (case aF => exact (fun k_ hk => ⟨Kd.fresh' (Kd.R_lt (by (with_reducible repeat (first | apply Kd.R_alloc | apply Kd.R_drewN | apply Kd.R_drew)); exact HO377.out)) k_ hk, Kd.fresh' (Kd.R_lt (by (with_reducible repeat (first | apply Kd.R_alloc | apply Kd.R_drewN | apply Kd.R_drew)); exact HO381.out)) k_ hk, Kd.freshB (g := gb369) (o := .cells #[.string a2_0, .string a2_1, .bool a2_2] 41 (0, 0)) (by (with_reducible repeat (first | refine blk_drewN ?_ _ | refine blk_drew ?_ | refine blk_alloc ?_ _)); exact BK369.out) k_ hk, Kd.freshB (g := gb374) (o := .cells #[.string a2_0, .string a2_1, .bool (!a2_2)] 41 (0, 0)) (by (with_reducible repeat (first | refine blk_drewN ?_ _ | refine blk_drew ?_ | refine blk_alloc ?_ _)); exact BK374.out) k_ hk⟩))
                    (case aO => exact (by (with_reducible repeat (first | apply Kd.R_alloc | apply Kd.R_drewN | apply Kd.R_drew)); exact Kd.R_mono HO386.out (fun _ hk => ⟨hk.1.1.1.2, ⟨hk.1.1.2, ⟨hk.1.2, hk.2⟩⟩⟩)))
                    (case aS => exact (below_size (by repeat (first | (with_reducible first | exact HB.out | apply below_alloc | apply pw_below_drewN | apply below_drew1 | refine below_set ?_ GE369.out | refine below_set ?_ GE374.out) | exact HB.out))))
                    (case aL => have := LMc14.out; omega)
                    intro v388 w41 ho hb hg hat
                    rw [← Ny387.out] at ho
                    have n0_ := Aside0.mk (blk_grown (g := gb369) (o := .cells #[.string a2_0, .string a2_1, .bool a2_2] 41 (0, 0)) (by (with_reducible repeat (first | refine blk_drewN ?_ _ | refine blk_drew ?_ | refine blk_alloc ?_ _)); exact BK369.out) hg (Kd.R_away HO386.out (fun _ hk => hk.1.2)))
                    have n1_ := Aside0.mk (Kd.R_over' (by (with_reducible repeat (first | apply Kd.R_alloc | apply Kd.R_drewN | apply Kd.R_drew)); exact HO373.out) (Kd.R_typed (by (with_reducible repeat (first | apply Kd.R_alloc | apply Kd.R_drewN | apply Kd.R_drew)); exact HO386.out)) (by decide) hg)
                    have n2_ := Aside0.mk (blk_grown (g := gb374) (o := .cells #[.string a2_0, .string a2_1, .bool (!a2_2)] 41 (0, 0)) (by (with_reducible repeat (first | refine blk_drewN ?_ _ | refine blk_drew ?_ | refine blk_alloc ?_ _)); exact BK374.out) hg (Kd.R_away HO386.out (fun _ hk => hk.2)))
                    have n3_ := Aside0.mk (Kd.R_after (ok := (fun k_ => some k_ ≠ (.slice Ao35 y379.length co35 : Value).ownBlock ∧ k_ ≠ gb369 ∧ k_ ≠ gb374)) (by (with_reducible repeat (first | apply Kd.R_alloc | apply Kd.R_drewN | apply Kd.R_drew)); exact Kd.R_mono HO377.out (fun _ hk => ⟨⟨hk.1.2, ⟨hk.1.1.1.2, hk.1.1.2⟩⟩, hk.2⟩)) hg hat)
                    have n4_ := Aside0.mk (Kd.R_after (ok := (fun k_ => some k_ ≠ (.slice Ao29 y375.length co29 : Value).ownBlock ∧ k_ ≠ gb369 ∧ k_ ≠ gb374)) (by (with_reducible repeat (first | apply Kd.R_alloc | apply Kd.R_drewN | apply Kd.R_drew)); exact Kd.R_mono HO381.out (fun _ hk => ⟨⟨hk.1.1.1.2, ⟨hk.1.1.2, hk.1.2⟩⟩, hk.2⟩)) hg hat)
                    have n5_ := Aside0.mk (hb)
                    have n6_ := Aside0.mk (ho)
                    clear BK369
                    clear HO373
                    clear BK374
                    clear HO377
                    clear HO381
                    clear HB
                    clear HO386
                    have BK369 := n0_
                    have HO373 := n1_
                    have BK374 := n2_
                    have HO377 := n3_
                    have HO381 := n4_
                    have HB := n5_
                    have HO389 := n6_
                    clear n0_ n1_ n2_ n3_ n4_ n5_ n6_
                    clear ho hb hg hat
                    refine hK.out _ _ ⟨(blk_cell BK369.out 0).trans rfl, (blk_cell BK369.out 1).trans rfl, (blk_cell BK369.out 2).trans rfl⟩ (fun hHeld => ?_)
                    clear hK K
                    refine norm_ (a' := ?_) ?_ ?_
                    rotate_left
                    · show Act.put _ (some 43) _ = _
                      simp only [Act.put, List.setIfInBounds_toArray, List.set_cons_zero, List.set_cons_succ, i64_w, i32_w]
                      rfl
                    refine one_ (i := 4) (N := some 45) #[true, true, true, true, true, false, true, false, false] rfl rfl (one_of HT_.out (by kernel_rfl)) (by decide) (fun K hK => ?_)
                    refine Kd.R_lit_step k41 _ 41 ?hg (N := 45) ?hd (xs := ([(⟨a2_0, a2_1, a2_2⟩ : S41)] : List (S41))) (inner := [.string a2_0, .string a2_1, .bool a2_2]) (ok := fun _ => True) (okp := fun _ => True) ?hr ?hp (fun _ hk => hk) trivial (Below.refl _ _) (Nat.le_refl _) (by simp) ?_; (case hd => rfl); (case hg => rfl); (case hr => first | (go_simp; done) | (go_simp; rfl)); (case hp => exact (Reps.c3 (show Kd.M k41 _ _ _ (⟨a2_0, a2_1, a2_2⟩ : S41) [.string a2_0, .string a2_1, .bool a2_2] from (k41_mkM _ _ _ (⟨a2_0, a2_1, a2_2⟩ : S41) )) (Reps.none _ _)))
                    intro v391 w42 ho43 hb hg_ hnew_
                    clear hg_ hnew_
                    (first | rw [← Ny390.out] at ho43 | (simp only [Int.reduceToNat] at ho43; rw [← Ny390.out] at ho43))
                    have n0_ := Aside0.mk (Kd.R_below (by (with_reducible repeat (first | apply Kd.R_alloc | apply Kd.R_drewN | apply Kd.R_drew)); exact HO373.out) hb)
                    have n1_ := Aside0.mk (Kd.R_elder' (by (with_reducible repeat (first | apply Kd.R_alloc | apply Kd.R_drewN | apply Kd.R_drew)); exact HO377.out) (Kd.R_base ho43) hb)
                    have n2_ := Aside0.mk (Kd.R_elder' (by (with_reducible repeat (first | apply Kd.R_alloc | apply Kd.R_drewN | apply Kd.R_drew)); exact HO381.out) (Kd.R_base ho43) hb)
                    have n3_ := Aside0.mk (Kd.R_elder' (by (with_reducible repeat (first | apply Kd.R_alloc | apply Kd.R_drewN | apply Kd.R_drew)); exact HO389.out) (Kd.R_base ho43) hb)
                    have n4_ := Aside0.mk (Kd.R_lower (Kd.R_newB (Kd.R_newB (Kd.R_new' (Kd.R_new' (Kd.R_new' ho43 (Kd.R_lt (by (with_reducible repeat (first | apply Kd.R_alloc | apply Kd.R_drewN | apply Kd.R_drew)); exact HO377.out))) (Kd.R_lt (by (with_reducible repeat (first | apply Kd.R_alloc | apply Kd.R_drewN | apply Kd.R_drew)); exact HO381.out))) (Kd.R_lt (by (with_reducible repeat (first | apply Kd.R_alloc | apply Kd.R_drewN | apply Kd.R_drew)); exact HO389.out))) (g := gb369) (o := .cells #[.string a2_0, .string a2_1, .bool a2_2] 41 (0, 0)) (by (with_reducible repeat (first | refine blk_drewN ?_ _ | refine blk_drew ?_ | refine blk_alloc ?_ _)); exact BK369.out)) (g := gb374) (o := .cells #[.string a2_0, .string a2_1, .bool (!a2_2)] 41 (0, 0)) (by (with_reducible repeat (first | refine blk_drewN ?_ _ | refine blk_drew ?_ | refine blk_alloc ?_ _)); exact BK374.out)) (below_size (by repeat (first | (with_reducible first | exact HB.out | apply below_alloc | apply pw_below_drewN | apply below_drew1 | refine below_set ?_ GE369.out | refine below_set ?_ GE374.out) | exact HB.out))))
                    have n5_ := Aside0.mk (blk_below (g := gb369) (o := .cells #[.string a2_0, .string a2_1, .bool a2_2] 41 (0, 0)) (by (with_reducible repeat (first | refine blk_drewN ?_ _ | refine blk_drew ?_ | refine blk_alloc ?_ _)); exact BK369.out) hb)
                    have n6_ := Aside0.mk (blk_below (g := gb374) (o := .cells #[.string a2_0, .string a2_1, .bool (!a2_2)] 41 (0, 0)) (by (with_reducible repeat (first | refine blk_drewN ?_ _ | refine blk_drew ?_ | refine blk_alloc ?_ _)); exact BK374.out) hb)
                    have n7_ := Aside0.mk (below_step (by repeat (first | (with_reducible first | exact HB.out | apply below_alloc | apply pw_below_drewN | apply below_drew1 | refine below_set ?_ GE369.out | refine below_set ?_ GE374.out) | exact HB.out)) hb)
                    clear HO373
                    clear HO377
                    clear HO381
                    clear HO389
                    clear BK369
                    clear BK374
                    clear HB
                    have HO373 := n0_
                    have HO377 := n1_
                    have HO381 := n2_
                    have HO389 := n3_
                    have HO392 := n4_
                    have BK369 := n5_
                    have BK374 := n6_
                    have HB := n7_
                    clear n0_ n1_ n2_ n3_ n4_ n5_ n6_ n7_
                    clear hb ho43
                    refine hK.out _ _ ⟨(blk_cell BK369.out 0).trans rfl, (blk_cell BK369.out 1).trans rfl, (blk_cell BK369.out 2).trans rfl⟩ (fun hHeld => ?_)
                    clear hK K
                    refine norm_ (a' := ?_) ?_ ?_
                    rotate_left
                    · show Act.put _ (some 45) _ = _
                      simp only [Act.put, List.setIfInBounds_toArray, List.set_cons_zero, List.set_cons_succ, i64_w, i32_w]
                      rfl
                    exact norm_ (by simp only [putAll, Act.put, List.setIfInBounds_toArray, List.set_cons_zero, List.set_cons_succ]) (hCont (v385, v388, v391) _ ⟨hHeld, (by (with_reducible repeat (first | apply Kd.R_alloc | apply Kd.R_drewN | apply Kd.R_drew)); exact HO373.out), (by (with_reducible repeat (first | apply Kd.R_alloc | apply Kd.R_drewN | apply Kd.R_drew)); exact Kd.R_mono HO377.out (fun _ hk => ⟨hk.1.1.1, ⟨hk.1.2, ⟨hk.2, ⟨hk.1.1.2.1, hk.1.1.2.2⟩⟩⟩⟩)), (by (with_reducible repeat (first | apply Kd.R_alloc | apply Kd.R_drewN | apply Kd.R_drew)); exact Kd.R_mono HO381.out (fun _ hk => ⟨hk.1.1.1, ⟨hk.1.2, ⟨hk.2, ⟨hk.1.1.2.1, hk.1.1.2.2⟩⟩⟩⟩)), (by (with_reducible repeat (first | apply Kd.R_alloc | apply Kd.R_drewN | apply Kd.R_drew)); exact Kd.R_mono HO389.out (fun _ hk => ⟨hk.1.1, ⟨hk.1.2.1, ⟨hk.2, ⟨hk.1.2.2.1, hk.1.2.2.2⟩⟩⟩⟩)), (by (with_reducible repeat (first | apply Kd.R_alloc | apply Kd.R_drewN | apply Kd.R_drew)); exact Kd.R_mono HO392.out (fun _ hk => ⟨hk.1.1.1.1.2, ⟨hk.1.1.1.2, ⟨hk.1.1.2, ⟨hk.1.2, hk.2⟩⟩⟩⟩)), (by (with_reducible repeat (first | refine blk_drewN ?_ _ | refine blk_drew ?_ | refine blk_alloc ?_ _)); exact BK369.out), (by (with_reducible repeat (first | refine blk_drewN ?_ _ | refine blk_drew ?_ | refine blk_alloc ?_ _)); exact BK374.out), (by repeat (first | (with_reducible first | exact HB.out | apply below_alloc | apply pw_below_drewN | apply below_drew1 | refine below_set ?_ GE369.out | refine below_set ?_ GE374.out) | exact HB.out))⟩)
                  · skip
                    refine Kd.R_lit_step k41 _ 41 ?hg (N := 45) ?hd (xs := ([(⟨a2_0, a2_1, a2_2⟩ : S41)] : List (S41))) (inner := [.string a2_0, .string a2_1, .bool a2_2]) (ok := fun _ => True) (okp := fun _ => True) ?hr ?hp (fun _ hk => hk) trivial (Below.refl _ _) (Nat.le_refl _) (by simp) ?_; (case hd => rfl); (case hg => rfl); (case hr => first | (go_simp; done) | (go_simp; rfl)); (case hp => exact (Reps.c3 (show Kd.M k41 _ _ _ (⟨a2_0, a2_1, a2_2⟩ : S41) [.string a2_0, .string a2_1, .bool a2_2] from (k41_mkM _ _ _ (⟨a2_0, a2_1, a2_2⟩ : S41) )) (Reps.none _ _)))
                    intro v391 w41 ho42 hb hg_ hnew_
                    clear hg_ hnew_
                    (first | rw [← Ny390.out] at ho42 | (simp only [Int.reduceToNat] at ho42; rw [← Ny390.out] at ho42))
                    have n0_ := Aside0.mk (Kd.R_below (by (with_reducible repeat (first | apply Kd.R_alloc | apply Kd.R_drewN | apply Kd.R_drew)); exact HO373.out) hb)
                    have n1_ := Aside0.mk (Kd.R_elder' (by (with_reducible repeat (first | apply Kd.R_alloc | apply Kd.R_drewN | apply Kd.R_drew)); exact HO377.out) (Kd.R_base ho42) hb)
                    have n2_ := Aside0.mk (Kd.R_elder' (by (with_reducible repeat (first | apply Kd.R_alloc | apply Kd.R_drewN | apply Kd.R_drew)); exact HO381.out) (Kd.R_base ho42) hb)
                    have n3_ := Aside0.mk (Kd.R_elder' (by (with_reducible repeat (first | apply Kd.R_alloc | apply Kd.R_drewN | apply Kd.R_drew)); exact HO386.out) (Kd.R_base ho42) hb)
                    have n4_ := Aside0.mk (Kd.R_lower (Kd.R_newB (Kd.R_newB (Kd.R_new' (Kd.R_new' (Kd.R_new' ho42 (Kd.R_lt (by (with_reducible repeat (first | apply Kd.R_alloc | apply Kd.R_drewN | apply Kd.R_drew)); exact HO377.out))) (Kd.R_lt (by (with_reducible repeat (first | apply Kd.R_alloc | apply Kd.R_drewN | apply Kd.R_drew)); exact HO381.out))) (Kd.R_lt (by (with_reducible repeat (first | apply Kd.R_alloc | apply Kd.R_drewN | apply Kd.R_drew)); exact HO386.out))) (g := gb369) (o := .cells #[.string a2_0, .string a2_1, .bool a2_2] 41 (0, 0)) (by (with_reducible repeat (first | refine blk_drewN ?_ _ | refine blk_drew ?_ | refine blk_alloc ?_ _)); exact BK369.out)) (g := gb374) (o := .cells #[.string a2_0, .string a2_1, .bool (!a2_2)] 41 (0, 0)) (by (with_reducible repeat (first | refine blk_drewN ?_ _ | refine blk_drew ?_ | refine blk_alloc ?_ _)); exact BK374.out)) (below_size (by repeat (first | (with_reducible first | exact HB.out | apply below_alloc | apply pw_below_drewN | apply below_drew1 | refine below_set ?_ GE369.out | refine below_set ?_ GE374.out) | exact HB.out))))
                    have n5_ := Aside0.mk (blk_below (g := gb369) (o := .cells #[.string a2_0, .string a2_1, .bool a2_2] 41 (0, 0)) (by (with_reducible repeat (first | refine blk_drewN ?_ _ | refine blk_drew ?_ | refine blk_alloc ?_ _)); exact BK369.out) hb)
                    have n6_ := Aside0.mk (blk_below (g := gb374) (o := .cells #[.string a2_0, .string a2_1, .bool (!a2_2)] 41 (0, 0)) (by (with_reducible repeat (first | refine blk_drewN ?_ _ | refine blk_drew ?_ | refine blk_alloc ?_ _)); exact BK374.out) hb)
                    have n7_ := Aside0.mk (below_step (by repeat (first | (with_reducible first | exact HB.out | apply below_alloc | apply pw_below_drewN | apply below_drew1 | refine below_set ?_ GE369.out | refine below_set ?_ GE374.out) | exact HB.out)) hb)
                    clear HO373
                    clear HO377
                    clear HO381
                    clear HO386
                    clear BK369
                    clear BK374
                    clear HB
                    have HO373 := n0_
                    have HO377 := n1_
                    have HO381 := n2_
                    have HO386 := n3_
                    have HO392 := n4_
                    have BK369 := n5_
                    have BK374 := n6_
                    have HB := n7_
                    clear n0_ n1_ n2_ n3_ n4_ n5_ n6_ n7_
                    clear hb ho42
                    refine hK.out _ _ ⟨(blk_cell BK369.out 0).trans rfl, (blk_cell BK369.out 1).trans rfl, (blk_cell BK369.out 2).trans rfl⟩ (fun hHeld => ?_)
                    clear hK K
                    refine norm_ (a' := ?_) ?_ ?_
                    rotate_left
                    · show Act.put _ (some 45) _ = _
                      simp only [Act.put, List.setIfInBounds_toArray, List.set_cons_zero, List.set_cons_succ, i64_w, i32_w]
                      rfl
                    refine one_ (i := 2) (N := some 43) #[true, true, true, true, true, false, true, false, false] rfl rfl (one_of HT_.out (by kernel_rfl)) (by decide) (fun K hK => ?_)
                    refine Kd.R_append_rows_step k41 (w0 := w) w.heap.size (by rfl) (.tmp 41) (.tmp 42) 37 41 (.agg #[(.string ⟨#[]⟩), (.string ⟨#[]⟩), (.bool false)]) 40 rfl Tryd.underlying37 info41 rfl (by decide) (by omega) v385 y384 l1 _ _ _ (fun k_ => some k_ ≠ (.slice Ao29 y375.length co29 : Value).ownBlock ∧ some k_ ≠ (.slice Ao35 y379.length co35 : Value).ownBlock ∧ some k_ ≠ (v391 : Value).ownBlock ∧ k_ ≠ gb369 ∧ k_ ≠ gb374) (fun _ => False) rfl rfl ?aO ?aR (fun _ _ h => h) (fun _ h => h.elim) ?aF ?aB ?aS ?aL ?_
                    (case aR => repeat (first | exact (Kd.C_below HR1.out HB.out) | (with_reducible refine Kd.C_alloc ?_ _) | (with_reducible refine Kd.C_drewN ?_ _) | (with_reducible refine Kd.C_drew ?_)))
                    (case aB => exact (by repeat (first | (with_reducible first | exact HB.out | apply below_alloc | apply pw_below_drewN | apply below_drew1 | refine below_set ?_ GE369.out | refine below_set ?_ GE374.out) | exact HB.out)))
                    (case aF => exact (fun k_ hk => ⟨Kd.fresh' (Kd.R_lt (by (with_reducible repeat (first | apply Kd.R_alloc | apply Kd.R_drewN | apply Kd.R_drew)); exact HO377.out)) k_ hk, Kd.fresh' (Kd.R_lt (by (with_reducible repeat (first | apply Kd.R_alloc | apply Kd.R_drewN | apply Kd.R_drew)); exact HO381.out)) k_ hk, Kd.fresh' (Kd.R_lt (by (with_reducible repeat (first | apply Kd.R_alloc | apply Kd.R_drewN | apply Kd.R_drew)); exact HO392.out)) k_ hk, Kd.freshB (g := gb369) (o := .cells #[.string a2_0, .string a2_1, .bool a2_2] 41 (0, 0)) (by (with_reducible repeat (first | refine blk_drewN ?_ _ | refine blk_drew ?_ | refine blk_alloc ?_ _)); exact BK369.out) k_ hk, Kd.freshB (g := gb374) (o := .cells #[.string a2_0, .string a2_1, .bool (!a2_2)] 41 (0, 0)) (by (with_reducible repeat (first | refine blk_drewN ?_ _ | refine blk_drew ?_ | refine blk_alloc ?_ _)); exact BK374.out) k_ hk⟩))
                    (case aO => exact (by (with_reducible repeat (first | apply Kd.R_alloc | apply Kd.R_drewN | apply Kd.R_drew)); exact Kd.R_mono HO386.out (fun _ hk => ⟨hk.1.1.1.1.2, ⟨hk.1.1.1.2, ⟨hk.2, ⟨hk.1.1.2, hk.1.2⟩⟩⟩⟩)))
                    (case aS => exact (below_size (by repeat (first | (with_reducible first | exact HB.out | apply below_alloc | apply pw_below_drewN | apply below_drew1 | refine below_set ?_ GE369.out | refine below_set ?_ GE374.out) | exact HB.out))))
                    (case aL => have := LMc14.out; omega)
                    intro v388 w43 ho hb hg hat
                    rw [← Ny387.out] at ho
                    have n0_ := Aside0.mk (blk_grown (g := gb369) (o := .cells #[.string a2_0, .string a2_1, .bool a2_2] 41 (0, 0)) (by (with_reducible repeat (first | refine blk_drewN ?_ _ | refine blk_drew ?_ | refine blk_alloc ?_ _)); exact BK369.out) hg (Kd.R_away HO386.out (fun _ hk => hk.1.1.2)))
                    have n1_ := Aside0.mk (Kd.R_over' (by (with_reducible repeat (first | apply Kd.R_alloc | apply Kd.R_drewN | apply Kd.R_drew)); exact HO373.out) (Kd.R_typed (by (with_reducible repeat (first | apply Kd.R_alloc | apply Kd.R_drewN | apply Kd.R_drew)); exact HO386.out)) (by decide) hg)
                    have n2_ := Aside0.mk (blk_grown (g := gb374) (o := .cells #[.string a2_0, .string a2_1, .bool (!a2_2)] 41 (0, 0)) (by (with_reducible repeat (first | refine blk_drewN ?_ _ | refine blk_drew ?_ | refine blk_alloc ?_ _)); exact BK374.out) hg (Kd.R_away HO386.out (fun _ hk => hk.1.2)))
                    have n3_ := Aside0.mk (Kd.R_after (ok := (fun k_ => some k_ ≠ (.slice Ao35 y379.length co35 : Value).ownBlock ∧ some k_ ≠ (v391 : Value).ownBlock ∧ k_ ≠ gb369 ∧ k_ ≠ gb374)) (by (with_reducible repeat (first | apply Kd.R_alloc | apply Kd.R_drewN | apply Kd.R_drew)); exact Kd.R_mono HO377.out (fun _ hk => ⟨⟨hk.1.1.2, ⟨hk.2, ⟨hk.1.1.1.1.2, hk.1.1.1.2⟩⟩⟩, hk.1.2⟩)) hg hat)
                    have n4_ := Aside0.mk (Kd.R_after (ok := (fun k_ => some k_ ≠ (.slice Ao29 y375.length co29 : Value).ownBlock ∧ some k_ ≠ (v391 : Value).ownBlock ∧ k_ ≠ gb369 ∧ k_ ≠ gb374)) (by (with_reducible repeat (first | apply Kd.R_alloc | apply Kd.R_drewN | apply Kd.R_drew)); exact Kd.R_mono HO381.out (fun _ hk => ⟨⟨hk.1.1.1.1.2, ⟨hk.2, ⟨hk.1.1.1.2, hk.1.1.2⟩⟩⟩, hk.1.2⟩)) hg hat)
                    have n5_ := Aside0.mk (Kd.R_after (ok := (fun k_ => some k_ ≠ (.slice Ao29 y375.length co29 : Value).ownBlock ∧ some k_ ≠ (.slice Ao35 y379.length co35 : Value).ownBlock ∧ k_ ≠ gb369 ∧ k_ ≠ gb374)) (by (with_reducible repeat (first | apply Kd.R_alloc | apply Kd.R_drewN | apply Kd.R_drew)); exact Kd.R_mono HO392.out (fun _ hk => ⟨⟨hk.1.1.1.1.2, ⟨hk.1.1.1.2, ⟨hk.1.2, hk.2⟩⟩⟩, hk.1.1.2⟩)) hg hat)
                    have n6_ := Aside0.mk (hb)
                    have n7_ := Aside0.mk (ho)
                    clear BK369
                    clear HO373
                    clear BK374
                    clear HO377
                    clear HO381
                    clear HO392
                    clear HB
                    clear HO386
                    have BK369 := n0_
                    have HO373 := n1_
                    have BK374 := n2_
                    have HO377 := n3_
                    have HO381 := n4_
                    have HO392 := n5_
                    have HB := n6_
                    have HO389 := n7_
                    clear n0_ n1_ n2_ n3_ n4_ n5_ n6_ n7_
                    clear ho hb hg hat
                    refine hK.out _ _ ⟨(blk_cell BK369.out 0).trans rfl, (blk_cell BK369.out 1).trans rfl, (blk_cell BK369.out 2).trans rfl⟩ (fun hHeld => ?_)
                    clear hK K
                    refine norm_ (a' := ?_) ?_ ?_
                    rotate_left
                    · show Act.put _ (some 43) _ = _
                      simp only [Act.put, List.setIfInBounds_toArray, List.set_cons_zero, List.set_cons_succ, i64_w, i32_w]
                      rfl
                    exact norm_ (by simp only [putAll, Act.put, List.setIfInBounds_toArray, List.set_cons_zero, List.set_cons_succ]) (hCont (v385, v388, v391) _ ⟨hHeld, (by (with_reducible repeat (first | apply Kd.R_alloc | apply Kd.R_drewN | apply Kd.R_drew)); exact HO373.out), (by (with_reducible repeat (first | apply Kd.R_alloc | apply Kd.R_drewN | apply Kd.R_drew)); exact Kd.R_mono HO377.out (fun _ hk => ⟨hk.1.1, ⟨hk.2, ⟨hk.1.2.1, ⟨hk.1.2.2.1, hk.1.2.2.2⟩⟩⟩⟩)), (by (with_reducible repeat (first | apply Kd.R_alloc | apply Kd.R_drewN | apply Kd.R_drew)); exact Kd.R_mono HO381.out (fun _ hk => ⟨hk.1.1, ⟨hk.2, ⟨hk.1.2.1, ⟨hk.1.2.2.1, hk.1.2.2.2⟩⟩⟩⟩)), (by (with_reducible repeat (first | apply Kd.R_alloc | apply Kd.R_drewN | apply Kd.R_drew)); exact HO389.out), (by (with_reducible repeat (first | apply Kd.R_alloc | apply Kd.R_drewN | apply Kd.R_drew)); exact Kd.R_mono HO392.out (fun _ hk => ⟨hk.1.1, ⟨hk.1.2.1, ⟨hk.2, ⟨hk.1.2.2.1, hk.1.2.2.2⟩⟩⟩⟩)), (by (with_reducible repeat (first | refine blk_drewN ?_ _ | refine blk_drew ?_ | refine blk_alloc ?_ _)); exact BK369.out), (by (with_reducible repeat (first | refine blk_drewN ?_ _ | refine blk_drew ?_ | refine blk_alloc ?_ _)); exact BK374.out), (by repeat (first | (with_reducible first | exact HB.out | apply below_alloc | apply pw_below_drewN | apply below_drew1 | refine below_set ?_ GE369.out | refine below_set ?_ GE374.out) | exact HB.out))⟩)
                · skip
                  refine Kd.R_lit_step k41 _ 41 ?hg (N := 45) ?hd (xs := ([(⟨a2_0, a2_1, a2_2⟩ : S41)] : List (S41))) (inner := [.string a2_0, .string a2_1, .bool a2_2]) (ok := fun _ => True) (okp := fun _ => True) ?hr ?hp (fun _ hk => hk) trivial (Below.refl _ _) (Nat.le_refl _) (by simp) ?_; (case hd => rfl); (case hg => rfl); (case hr => first | (go_simp; done) | (go_simp; rfl)); (case hp => exact (Reps.c3 (show Kd.M k41 _ _ _ (⟨a2_0, a2_1, a2_2⟩ : S41) [.string a2_0, .string a2_1, .bool a2_2] from (k41_mkM _ _ _ (⟨a2_0, a2_1, a2_2⟩ : S41) )) (Reps.none _ _)))
                  intro v391 w39 ho40 hb hg_ hnew_
                  clear hg_ hnew_
                  (first | rw [← Ny390.out] at ho40 | (simp only [Int.reduceToNat] at ho40; rw [← Ny390.out] at ho40))
                  have n0_ := Aside0.mk (Kd.R_below (by (with_reducible repeat (first | apply Kd.R_alloc | apply Kd.R_drewN | apply Kd.R_drew)); exact HO373.out) hb)
                  have n1_ := Aside0.mk (Kd.R_elder' (by (with_reducible repeat (first | apply Kd.R_alloc | apply Kd.R_drewN | apply Kd.R_drew)); exact HO377.out) (Kd.R_base ho40) hb)
                  have n2_ := Aside0.mk (Kd.R_elder' (by (with_reducible repeat (first | apply Kd.R_alloc | apply Kd.R_drewN | apply Kd.R_drew)); exact HO381.out) (Kd.R_base ho40) hb)
                  have n3_ := Aside0.mk (Kd.R_lower (Kd.R_newB (Kd.R_newB (Kd.R_new' (Kd.R_new' ho40 (Kd.R_lt (by (with_reducible repeat (first | apply Kd.R_alloc | apply Kd.R_drewN | apply Kd.R_drew)); exact HO377.out))) (Kd.R_lt (by (with_reducible repeat (first | apply Kd.R_alloc | apply Kd.R_drewN | apply Kd.R_drew)); exact HO381.out))) (g := gb369) (o := .cells #[.string a2_0, .string a2_1, .bool a2_2] 41 (0, 0)) (by (with_reducible repeat (first | refine blk_drewN ?_ _ | refine blk_drew ?_ | refine blk_alloc ?_ _)); exact BK369.out)) (g := gb374) (o := .cells #[.string a2_0, .string a2_1, .bool (!a2_2)] 41 (0, 0)) (by (with_reducible repeat (first | refine blk_drewN ?_ _ | refine blk_drew ?_ | refine blk_alloc ?_ _)); exact BK374.out)) (below_size (by repeat (first | (with_reducible first | exact HB.out | apply below_alloc | apply pw_below_drewN | apply below_drew1 | refine below_set ?_ GE369.out | refine below_set ?_ GE374.out) | exact HB.out))))
                  have n4_ := Aside0.mk (blk_below (g := gb369) (o := .cells #[.string a2_0, .string a2_1, .bool a2_2] 41 (0, 0)) (by (with_reducible repeat (first | refine blk_drewN ?_ _ | refine blk_drew ?_ | refine blk_alloc ?_ _)); exact BK369.out) hb)
                  have n5_ := Aside0.mk (blk_below (g := gb374) (o := .cells #[.string a2_0, .string a2_1, .bool (!a2_2)] 41 (0, 0)) (by (with_reducible repeat (first | refine blk_drewN ?_ _ | refine blk_drew ?_ | refine blk_alloc ?_ _)); exact BK374.out) hb)
                  have n6_ := Aside0.mk (below_step (by repeat (first | (with_reducible first | exact HB.out | apply below_alloc | apply pw_below_drewN | apply below_drew1 | refine below_set ?_ GE369.out | refine below_set ?_ GE374.out) | exact HB.out)) hb)
                  clear HO373
                  clear HO377
                  clear HO381
                  clear BK369
                  clear BK374
                  clear HB
                  have HO373 := n0_
                  have HO377 := n1_
                  have HO381 := n2_
                  have HO392 := n3_
                  have BK369 := n4_
                  have BK374 := n5_
                  have HB := n6_
                  clear n0_ n1_ n2_ n3_ n4_ n5_ n6_
                  clear hb ho40
                  refine hK.out _ _ ⟨(blk_cell BK369.out 0).trans rfl, (blk_cell BK369.out 1).trans rfl, (blk_cell BK369.out 2).trans rfl⟩ (fun hHeld => ?_)
                  clear hK K
                  refine norm_ (a' := ?_) ?_ ?_
                  rotate_left
                  · show Act.put _ (some 45) _ = _
                    simp only [Act.put, List.setIfInBounds_toArray, List.set_cons_zero, List.set_cons_succ, i64_w, i32_w]
                    rfl
                  refine one_ (i := 0) (N := some 41) #[true, true, false, true, true, false, true, false, false] rfl rfl (one_of HT_.out (by kernel_rfl)) (by decide) (fun K hK => ?_)
                  refine Kd.R_lit_step k41 _ 41 ?hg (N := 41) ?hd (xs := ([] : List (S41))) (inner := []) (ok := fun _ => True) (okp := fun _ => True) ?hr ?hp (fun _ hk => hk) trivial (Below.refl _ _) (Nat.le_refl _) (by simp) ?_; (case hd => rfl); (case hg => rfl); (case hr => first | (go_simp; done) | (go_simp; rfl)); (case hp => exact (Reps.none _ _))
                  intro v385 w41 ho42 hb hg_ hnew_
                  clear hg_ hnew_
                  (first | rw [← Ny384.out] at ho42 | (simp only [Int.reduceToNat] at ho42; rw [← Ny384.out] at ho42))
                  have n0_ := Aside0.mk (Kd.R_below (by (with_reducible repeat (first | apply Kd.R_alloc | apply Kd.R_drewN | apply Kd.R_drew)); exact HO373.out) hb)
                  have n1_ := Aside0.mk (Kd.R_elder' (by (with_reducible repeat (first | apply Kd.R_alloc | apply Kd.R_drewN | apply Kd.R_drew)); exact HO377.out) (Kd.R_base ho42) hb)
                  have n2_ := Aside0.mk (Kd.R_elder' (by (with_reducible repeat (first | apply Kd.R_alloc | apply Kd.R_drewN | apply Kd.R_drew)); exact HO381.out) (Kd.R_base ho42) hb)
                  have n3_ := Aside0.mk (Kd.R_elder' (by (with_reducible repeat (first | apply Kd.R_alloc | apply Kd.R_drewN | apply Kd.R_drew)); exact HO392.out) (Kd.R_base ho42) hb)
                  have n4_ := Aside0.mk (Kd.R_lower (Kd.R_newB (Kd.R_newB (Kd.R_new' (Kd.R_new' (Kd.R_new' ho42 (Kd.R_lt (by (with_reducible repeat (first | apply Kd.R_alloc | apply Kd.R_drewN | apply Kd.R_drew)); exact HO377.out))) (Kd.R_lt (by (with_reducible repeat (first | apply Kd.R_alloc | apply Kd.R_drewN | apply Kd.R_drew)); exact HO381.out))) (Kd.R_lt (by (with_reducible repeat (first | apply Kd.R_alloc | apply Kd.R_drewN | apply Kd.R_drew)); exact HO392.out))) (g := gb369) (o := .cells #[.string a2_0, .string a2_1, .bool a2_2] 41 (0, 0)) (by (with_reducible repeat (first | refine blk_drewN ?_ _ | refine blk_drew ?_ | refine blk_alloc ?_ _)); exact BK369.out)) (g := gb374) (o := .cells #[.string a2_0, .string a2_1, .bool (!a2_2)] 41 (0, 0)) (by (with_reducible repeat (first | refine blk_drewN ?_ _ | refine blk_drew ?_ | refine blk_alloc ?_ _)); exact BK374.out)) (below_size (by repeat (first | (with_reducible first | exact HB.out | apply below_alloc | apply pw_below_drewN | apply below_drew1 | refine below_set ?_ GE369.out | refine below_set ?_ GE374.out) | exact HB.out))))
                  have n5_ := Aside0.mk (blk_below (g := gb369) (o := .cells #[.string a2_0, .string a2_1, .bool a2_2] 41 (0, 0)) (by (with_reducible repeat (first | refine blk_drewN ?_ _ | refine blk_drew ?_ | refine blk_alloc ?_ _)); exact BK369.out) hb)
                  have n6_ := Aside0.mk (blk_below (g := gb374) (o := .cells #[.string a2_0, .string a2_1, .bool (!a2_2)] 41 (0, 0)) (by (with_reducible repeat (first | refine blk_drewN ?_ _ | refine blk_drew ?_ | refine blk_alloc ?_ _)); exact BK374.out) hb)
                  have n7_ := Aside0.mk (below_step (by repeat (first | (with_reducible first | exact HB.out | apply below_alloc | apply pw_below_drewN | apply below_drew1 | refine below_set ?_ GE369.out | refine below_set ?_ GE374.out) | exact HB.out)) hb)
                  clear HO373
                  clear HO377
                  clear HO381
                  clear HO392
                  clear BK369
                  clear BK374
                  clear HB
                  have HO373 := n0_
                  have HO377 := n1_
                  have HO381 := n2_
                  have HO392 := n3_
                  have HO386 := n4_
                  have BK369 := n5_
                  have BK374 := n6_
                  have HB := n7_
                  clear n0_ n1_ n2_ n3_ n4_ n5_ n6_ n7_
                  clear hb ho42
                  refine hK.out _ _ ⟨(blk_cell BK369.out 0).trans rfl, (blk_cell BK369.out 1).trans rfl, (blk_cell BK369.out 2).trans rfl⟩ (fun hHeld => ?_)
                  clear hK K
                  refine norm_ (a' := ?_) ?_ ?_
                  rotate_left
                  · show Act.put _ (some 41) _ = _
                    simp only [Act.put, List.setIfInBounds_toArray, List.set_cons_zero, List.set_cons_succ, i64_w, i32_w]
                    rfl
                  refine one_ (i := 2) (N := some 43) #[true, true, true, true, true, false, true, false, false] rfl rfl (one_of HT_.out (by kernel_rfl)) (by decide) (fun K hK => ?_)
                  refine Kd.R_append_rows_step k41 (w0 := w) w.heap.size (by rfl) (.tmp 41) (.tmp 42) 37 41 (.agg #[(.string ⟨#[]⟩), (.string ⟨#[]⟩), (.bool false)]) 40 rfl Tryd.underlying37 info41 rfl (by decide) (by omega) v385 y384 l1 _ _ _ (fun k_ => some k_ ≠ (.slice Ao29 y375.length co29 : Value).ownBlock ∧ some k_ ≠ (.slice Ao35 y379.length co35 : Value).ownBlock ∧ some k_ ≠ (v391 : Value).ownBlock ∧ k_ ≠ gb369 ∧ k_ ≠ gb374) (fun _ => False) rfl rfl ?aO ?aR (fun _ _ h => h) (fun _ h => h.elim) ?aF ?aB ?aS ?aL ?_
                  (case aR => repeat (first | exact (Kd.C_below HR1.out HB.out) | (with_reducible refine Kd.C_alloc ?_ _) | (with_reducible refine Kd.C_drewN ?_ _) | (with_reducible refine Kd.C_drew ?_)))
                  (case aB => exact (by repeat (first | (with_reducible first | exact HB.out | apply below_alloc | apply pw_below_drewN | apply below_drew1 | refine below_set ?_ GE369.out | refine below_set ?_ GE374.out) | exact HB.out)))
                  (case aF => exact (fun k_ hk => ⟨Kd.fresh' (Kd.R_lt (by (with_reducible repeat (first | apply Kd.R_alloc | apply Kd.R_drewN | apply Kd.R_drew)); exact HO377.out)) k_ hk, Kd.fresh' (Kd.R_lt (by (with_reducible repeat (first | apply Kd.R_alloc | apply Kd.R_drewN | apply Kd.R_drew)); exact HO381.out)) k_ hk, Kd.fresh' (Kd.R_lt (by (with_reducible repeat (first | apply Kd.R_alloc | apply Kd.R_drewN | apply Kd.R_drew)); exact HO392.out)) k_ hk, Kd.freshB (g := gb369) (o := .cells #[.string a2_0, .string a2_1, .bool a2_2] 41 (0, 0)) (by (with_reducible repeat (first | refine blk_drewN ?_ _ | refine blk_drew ?_ | refine blk_alloc ?_ _)); exact BK369.out) k_ hk, Kd.freshB (g := gb374) (o := .cells #[.string a2_0, .string a2_1, .bool (!a2_2)] 41 (0, 0)) (by (with_reducible repeat (first | refine blk_drewN ?_ _ | refine blk_drew ?_ | refine blk_alloc ?_ _)); exact BK374.out) k_ hk⟩))
                  (case aO => exact (by (with_reducible repeat (first | apply Kd.R_alloc | apply Kd.R_drewN | apply Kd.R_drew)); exact Kd.R_mono HO386.out (fun _ hk => ⟨hk.1.1.1.1.2, ⟨hk.1.1.1.2, ⟨hk.1.1.2, ⟨hk.1.2, hk.2⟩⟩⟩⟩)))
                  (case aS => exact (below_size (by repeat (first | (with_reducible first | exact HB.out | apply below_alloc | apply pw_below_drewN | apply below_drew1 | refine below_set ?_ GE369.out | refine below_set ?_ GE374.out) | exact HB.out))))
                  (case aL => have := LMc14.out; omega)
                  intro v388 w43 ho hb hg hat
                  rw [← Ny387.out] at ho
                  have n0_ := Aside0.mk (blk_grown (g := gb369) (o := .cells #[.string a2_0, .string a2_1, .bool a2_2] 41 (0, 0)) (by (with_reducible repeat (first | refine blk_drewN ?_ _ | refine blk_drew ?_ | refine blk_alloc ?_ _)); exact BK369.out) hg (Kd.R_away HO386.out (fun _ hk => hk.1.2)))
                  have n1_ := Aside0.mk (Kd.R_over' (by (with_reducible repeat (first | apply Kd.R_alloc | apply Kd.R_drewN | apply Kd.R_drew)); exact HO373.out) (Kd.R_typed (by (with_reducible repeat (first | apply Kd.R_alloc | apply Kd.R_drewN | apply Kd.R_drew)); exact HO386.out)) (by decide) hg)
                  have n2_ := Aside0.mk (blk_grown (g := gb374) (o := .cells #[.string a2_0, .string a2_1, .bool (!a2_2)] 41 (0, 0)) (by (with_reducible repeat (first | refine blk_drewN ?_ _ | refine blk_drew ?_ | refine blk_alloc ?_ _)); exact BK374.out) hg (Kd.R_away HO386.out (fun _ hk => hk.2)))
                  have n3_ := Aside0.mk (Kd.R_after (ok := (fun k_ => some k_ ≠ (.slice Ao35 y379.length co35 : Value).ownBlock ∧ some k_ ≠ (v391 : Value).ownBlock ∧ k_ ≠ gb369 ∧ k_ ≠ gb374)) (by (with_reducible repeat (first | apply Kd.R_alloc | apply Kd.R_drewN | apply Kd.R_drew)); exact Kd.R_mono HO377.out (fun _ hk => ⟨⟨hk.1.1.2, ⟨hk.1.2, ⟨hk.1.1.1.1.2, hk.1.1.1.2⟩⟩⟩, hk.2⟩)) hg hat)
                  have n4_ := Aside0.mk (Kd.R_after (ok := (fun k_ => some k_ ≠ (.slice Ao29 y375.length co29 : Value).ownBlock ∧ some k_ ≠ (v391 : Value).ownBlock ∧ k_ ≠ gb369 ∧ k_ ≠ gb374)) (by (with_reducible repeat (first | apply Kd.R_alloc | apply Kd.R_drewN | apply Kd.R_drew)); exact Kd.R_mono HO381.out (fun _ hk => ⟨⟨hk.1.1.1.1.2, ⟨hk.1.2, ⟨hk.1.1.1.2, hk.1.1.2⟩⟩⟩, hk.2⟩)) hg hat)
                  have n5_ := Aside0.mk (Kd.R_after (ok := (fun k_ => some k_ ≠ (.slice Ao29 y375.length co29 : Value).ownBlock ∧ some k_ ≠ (.slice Ao35 y379.length co35 : Value).ownBlock ∧ k_ ≠ gb369 ∧ k_ ≠ gb374)) (by (with_reducible repeat (first | apply Kd.R_alloc | apply Kd.R_drewN | apply Kd.R_drew)); exact Kd.R_mono HO392.out (fun _ hk => ⟨⟨hk.1.1.1.1.2, ⟨hk.1.1.1.2, ⟨hk.1.1.2, hk.1.2⟩⟩⟩, hk.2⟩)) hg hat)
                  have n6_ := Aside0.mk (hb)
                  have n7_ := Aside0.mk (ho)
                  clear BK369
                  clear HO373
                  clear BK374
                  clear HO377
                  clear HO381
                  clear HO392
                  clear HB
                  clear HO386
                  have BK369 := n0_
                  have HO373 := n1_
                  have BK374 := n2_
                  have HO377 := n3_
                  have HO381 := n4_
                  have HO392 := n5_
                  have HB := n6_
                  have HO389 := n7_
                  clear n0_ n1_ n2_ n3_ n4_ n5_ n6_ n7_
                  clear ho hb hg hat
                  refine hK.out _ _ ⟨(blk_cell BK369.out 0).trans rfl, (blk_cell BK369.out 1).trans rfl, (blk_cell BK369.out 2).trans rfl⟩ (fun hHeld => ?_)
                  clear hK K
                  refine norm_ (a' := ?_) ?_ ?_
                  rotate_left
                  · show Act.put _ (some 43) _ = _
                    simp only [Act.put, List.setIfInBounds_toArray, List.set_cons_zero, List.set_cons_succ, i64_w, i32_w]
                    rfl
                  exact norm_ (by simp only [putAll, Act.put, List.setIfInBounds_toArray, List.set_cons_zero, List.set_cons_succ]) (hCont (v385, v388, v391) _ ⟨hHeld, (by (with_reducible repeat (first | apply Kd.R_alloc | apply Kd.R_drewN | apply Kd.R_drew)); exact HO373.out), (by (with_reducible repeat (first | apply Kd.R_alloc | apply Kd.R_drewN | apply Kd.R_drew)); exact Kd.R_mono HO377.out (fun _ hk => ⟨hk.1.1, ⟨hk.2, ⟨hk.1.2.1, ⟨hk.1.2.2.1, hk.1.2.2.2⟩⟩⟩⟩)), (by (with_reducible repeat (first | apply Kd.R_alloc | apply Kd.R_drewN | apply Kd.R_drew)); exact Kd.R_mono HO381.out (fun _ hk => ⟨hk.1.1, ⟨hk.2, ⟨hk.1.2.1, ⟨hk.1.2.2.1, hk.1.2.2.2⟩⟩⟩⟩)), (by (with_reducible repeat (first | apply Kd.R_alloc | apply Kd.R_drewN | apply Kd.R_drew)); exact HO389.out), (by (with_reducible repeat (first | apply Kd.R_alloc | apply Kd.R_drewN | apply Kd.R_drew)); exact Kd.R_mono HO392.out (fun _ hk => ⟨hk.1.1, ⟨hk.1.2.1, ⟨hk.2, ⟨hk.1.2.2.1, hk.1.2.2.2⟩⟩⟩⟩)), (by (with_reducible repeat (first | refine blk_drewN ?_ _ | refine blk_drew ?_ | refine blk_alloc ?_ _)); exact BK369.out), (by (with_reducible repeat (first | refine blk_drewN ?_ _ | refine blk_drew ?_ | refine blk_alloc ?_ _)); exact BK374.out), (by repeat (first | (with_reducible first | exact HB.out | apply below_alloc | apply pw_below_drewN | apply below_drew1 | refine below_set ?_ GE369.out | refine below_set ?_ GE374.out) | exact HB.out))⟩)
              rintro ⟨v385, v388, v391⟩ w44 ⟨hS_, h0_, h1_, h2_, h3_, h4_, h5_, h6_, h7_⟩
              have n0_ : Aside0 (Kd.R k30 30 w44 w.heap.size (fun _ => True) (.slice Ao30 t371.length co30) t371) := ⟨h0_⟩
              have n1_ : Aside0 (Kd.R k41 41 w44 w.heap.size (fun k_ => some k_ ≠ (.slice Ao35 y379.length co35 : Value).ownBlock ∧ some k_ ≠ (v388 : Value).ownBlock ∧ some k_ ≠ (v391 : Value).ownBlock ∧ k_ ≠ gb369 ∧ k_ ≠ gb374) (.slice Ao29 y375.length co29) y375) := ⟨h1_⟩
              have n2_ : Aside0 (Kd.R k41 41 w44 w.heap.size (fun k_ => some k_ ≠ (.slice Ao29 y375.length co29 : Value).ownBlock ∧ some k_ ≠ (v388 : Value).ownBlock ∧ some k_ ≠ (v391 : Value).ownBlock ∧ k_ ≠ gb369 ∧ k_ ≠ gb374) (.slice Ao35 y379.length co35) y379) := ⟨h2_⟩
              have n3_ : Aside0 (Kd.R k41 41 w44 w.heap.size (fun k_ => some k_ ≠ (.slice Ao29 y375.length co29 : Value).ownBlock ∧ some k_ ≠ (.slice Ao35 y379.length co35 : Value).ownBlock ∧ some k_ ≠ (v391 : Value).ownBlock ∧ k_ ≠ gb369 ∧ k_ ≠ gb374) v388 y387) := ⟨h3_⟩
              have n4_ : Aside0 (Kd.R k41 41 w44 w.heap.size (fun k_ => some k_ ≠ (.slice Ao29 y375.length co29 : Value).ownBlock ∧ some k_ ≠ (.slice Ao35 y379.length co35 : Value).ownBlock ∧ some k_ ≠ (v388 : Value).ownBlock ∧ k_ ≠ gb369 ∧ k_ ≠ gb374) v391 y390) := ⟨h4_⟩
              have n5_ : Aside0 (w44.heap[gb369]? = some (.cells #[.string a2_0, .string a2_1, .bool a2_2] 41 (0, 0))) := ⟨h5_⟩
              have n6_ : Aside0 (w44.heap[gb374]? = some (.cells #[.string a2_0, .string a2_1, .bool (!a2_2)] 41 (0, 0))) := ⟨h6_⟩
              have n7_ : Aside0 (Below w.heap.size w w44) := ⟨h7_⟩
              clear HO373
              clear HO377
              clear HO381
              clear BK369
              clear BK374
              clear HB
              clear h0_ h1_ h2_ h3_ h4_ h5_ h6_ h7_
              have HO373 := n0_
              have HO377 := n1_
              have HO381 := n2_
              have HO389 := n3_
              have HO392 := n4_
              have BK369 := n5_
              have BK374 := n6_
              have HB := n7_
              clear n0_ n1_ n2_ n3_ n4_ n5_ n6_ n7_
              have hHeld : w44.cell? ⟨gb369, 0, none⟩ = some (.string a2_0) ∧ w44.cell? ⟨gb369, 1, none⟩ = some (.string a2_1) ∧ w44.cell? ⟨gb369, 2, none⟩ = some (.bool a2_2) := hS_
              obtain ⟨Ao46, co46, eo46⟩ := Kd.R_slice HO392.out
              (first | subst eo46 | (injection eo46 with f1_ f2_ f3_; have f4_ := f1_.symm; have f5_ := f3_.symm; clear f1_ f2_ f3_; subst f4_; subst f5_))
              refine norm_ (a' := ?_) ?_ ?_
              rotate_left
              · simp only [putAll, Act.put, List.setIfInBounds_toArray, List.set_cons_zero, List.set_cons_succ]
                rfl
              refine one_ (i := 5) (N := some 46) #[true, true, true, true, true, true, true, false, false] rfl rfl (one_of HT_.out (by kernel_rfl)) (by decide) (fun K hK => ?_)
              refine Kd.R_append_rows_step k41 (w0 := w) w.heap.size (by rfl) (.tmp 43) (.tmp 45) 37 41 (.agg #[(.string ⟨#[]⟩), (.string ⟨#[]⟩), (.bool false)]) 40 rfl Tryd.underlying37 info41 rfl (by decide) (by omega) v388 y387 y390 _ _ _ (fun k_ => some k_ ≠ (.slice Ao29 y375.length co29 : Value).ownBlock ∧ some k_ ≠ (.slice Ao35 y379.length co35 : Value).ownBlock ∧ some k_ ≠ (.slice Ao46 y390.length co46 : Value).ownBlock ∧ k_ ≠ gb369 ∧ k_ ≠ gb374) (fun _ => False) rfl rfl ?aO ?aR (fun _ _ h => h) (fun _ h => h.elim) ?aF ?aB ?aS ?aL ?_
              (case aR => repeat (first | exact (Kd.R_reads' HO392.out).2.2 | (with_reducible refine Kd.C_alloc ?_ _) | (with_reducible refine Kd.C_drewN ?_ _) | (with_reducible refine Kd.C_drew ?_)))
              (case aB => exact (by repeat (first | (with_reducible first | exact HB.out | apply below_alloc | apply pw_below_drewN | apply below_drew1 | refine below_set ?_ GE369.out | refine below_set ?_ GE374.out) | exact HB.out)))
              (case aF => exact (fun k_ hk => ⟨Kd.fresh' (Kd.R_lt (by (with_reducible repeat (first | apply Kd.R_alloc | apply Kd.R_drewN | apply Kd.R_drew)); exact HO377.out)) k_ hk, Kd.fresh' (Kd.R_lt (by (with_reducible repeat (first | apply Kd.R_alloc | apply Kd.R_drewN | apply Kd.R_drew)); exact HO381.out)) k_ hk, Kd.fresh' (Kd.R_lt (by (with_reducible repeat (first | apply Kd.R_alloc | apply Kd.R_drewN | apply Kd.R_drew)); exact HO392.out)) k_ hk, Kd.freshB (g := gb369) (o := .cells #[.string a2_0, .string a2_1, .bool a2_2] 41 (0, 0)) (by (with_reducible repeat (first | refine blk_drewN ?_ _ | refine blk_drew ?_ | refine blk_alloc ?_ _)); exact BK369.out) k_ hk, Kd.freshB (g := gb374) (o := .cells #[.string a2_0, .string a2_1, .bool (!a2_2)] 41 (0, 0)) (by (with_reducible repeat (first | refine blk_drewN ?_ _ | refine blk_drew ?_ | refine blk_alloc ?_ _)); exact BK374.out) k_ hk⟩))
              (case aO => exact (by (with_reducible repeat (first | apply Kd.R_alloc | apply Kd.R_drewN | apply Kd.R_drew)); exact HO389.out))
              (case aS => exact (below_size (by repeat (first | (with_reducible first | exact HB.out | apply below_alloc | apply pw_below_drewN | apply below_drew1 | refine below_set ?_ GE369.out | refine below_set ?_ GE374.out) | exact HB.out))))
              (case aL => have := LMc15.out; omega)
              intro v394 w45 ho hb hg hat
              rw [← Ny393.out] at ho
              have n0_ := Aside0.mk (blk_grown (g := gb369) (o := .cells #[.string a2_0, .string a2_1, .bool a2_2] 41 (0, 0)) (by (with_reducible repeat (first | refine blk_drewN ?_ _ | refine blk_drew ?_ | refine blk_alloc ?_ _)); exact BK369.out) hg (Kd.R_away HO389.out (fun _ hk => hk.2.2.2.1)))
              have n1_ := Aside0.mk (Kd.R_over' (by (with_reducible repeat (first | apply Kd.R_alloc | apply Kd.R_drewN | apply Kd.R_drew)); exact HO373.out) (Kd.R_typed (by (with_reducible repeat (first | apply Kd.R_alloc | apply Kd.R_drewN | apply Kd.R_drew)); exact HO389.out)) (by decide) hg)
              have n2_ := Aside0.mk (blk_grown (g := gb374) (o := .cells #[.string a2_0, .string a2_1, .bool (!a2_2)] 41 (0, 0)) (by (with_reducible repeat (first | refine blk_drewN ?_ _ | refine blk_drew ?_ | refine blk_alloc ?_ _)); exact BK374.out) hg (Kd.R_away HO389.out (fun _ hk => hk.2.2.2.2)))
              have n3_ := Aside0.mk (Kd.R_after (ok := (fun k_ => some k_ ≠ (.slice Ao35 y379.length co35 : Value).ownBlock ∧ some k_ ≠ (.slice Ao46 y390.length co46 : Value).ownBlock ∧ k_ ≠ gb369 ∧ k_ ≠ gb374)) (by (with_reducible repeat (first | apply Kd.R_alloc | apply Kd.R_drewN | apply Kd.R_drew)); exact Kd.R_mono HO377.out (fun _ hk => ⟨⟨hk.1, ⟨hk.2.2.1, ⟨hk.2.2.2.1, hk.2.2.2.2⟩⟩⟩, hk.2.1⟩)) hg hat)
              have n4_ := Aside0.mk (Kd.R_after (ok := (fun k_ => some k_ ≠ (.slice Ao29 y375.length co29 : Value).ownBlock ∧ some k_ ≠ (.slice Ao46 y390.length co46 : Value).ownBlock ∧ k_ ≠ gb369 ∧ k_ ≠ gb374)) (by (with_reducible repeat (first | apply Kd.R_alloc | apply Kd.R_drewN | apply Kd.R_drew)); exact Kd.R_mono HO381.out (fun _ hk => ⟨⟨hk.1, ⟨hk.2.2.1, ⟨hk.2.2.2.1, hk.2.2.2.2⟩⟩⟩, hk.2.1⟩)) hg hat)
              have n5_ := Aside0.mk (Kd.R_after (ok := (fun k_ => some k_ ≠ (.slice Ao29 y375.length co29 : Value).ownBlock ∧ some k_ ≠ (.slice Ao35 y379.length co35 : Value).ownBlock ∧ k_ ≠ gb369 ∧ k_ ≠ gb374)) (by (with_reducible repeat (first | apply Kd.R_alloc | apply Kd.R_drewN | apply Kd.R_drew)); exact Kd.R_mono HO392.out (fun _ hk => ⟨⟨hk.1, ⟨hk.2.1, ⟨hk.2.2.2.1, hk.2.2.2.2⟩⟩⟩, hk.2.2.1⟩)) hg hat)
              have n6_ := Aside0.mk (hb)
              have n7_ := Aside0.mk (ho)
              clear BK369
              clear HO373
              clear BK374
              clear HO377
              clear HO381
              clear HO392
              clear HB
              clear HO389
              have BK369 := n0_
              have HO373 := n1_
              have BK374 := n2_
              have HO377 := n3_
              have HO381 := n4_
              have HO392 := n5_
              have HB := n6_
              have HO395 := n7_
              clear n0_ n1_ n2_ n3_ n4_ n5_ n6_ n7_
              clear ho hb hg hat
              obtain ⟨Ao47, co47, eo47⟩ := Kd.R_slice HO395.out
              (first | subst eo47 | (injection eo47 with f1_ f2_ f3_; have f4_ := f1_.symm; have f5_ := f3_.symm; clear f1_ f2_ f3_; subst f4_; subst f5_))
              refine hK.out _ _ ⟨(blk_cell BK369.out 0).trans rfl, (blk_cell BK369.out 1).trans rfl, (blk_cell BK369.out 2).trans rfl⟩ (fun hHeld => ?_)
              clear hK K
              refine norm_ (a' := ?_) ?_ ?_
              rotate_left
              · show Act.put _ (some 46) _ = _
                simp only [Act.put, List.setIfInBounds_toArray, List.set_cons_zero, List.set_cons_succ, i64_w, i32_w]
                rfl
              refine one_ (i := 7) (N := some 48) #[true, true, true, true, true, true, true, true, false] rfl rfl (one_of HT_.out (by kernel_rfl)) (by decide) (fun K hK => ?_)
              refine goes_ Tryd.func19 (by kernel_rfl) rfl #[.slice Ao47 y393.length co47, .slice Ao30 t371.length co30] (by rfl) rfl rfl (by (try simp only [List.map_toArray, List.map_cons, List.map_nil]); first | done | rfl | (simp only [List.length_drop, List.length_take]; rfl)) ?_
              with_reducible refine (label_Match.calls _ _ y393 _ _ t371 _ _ ?side1 ?side2 ?side3 ?side4 A16.out).mono ?_
              (case side1 => repeat (first | exact (Kd.R_reads' HO395.out).2.2 | (with_reducible refine Kd.C_alloc ?_ _) | (with_reducible refine Kd.C_drewN ?_ _) | (with_reducible refine Kd.C_drew ?_)))
              (case side2 => exact (Kd.R_reads' HO395.out).2.1)
              (case side3 => repeat (first | exact (Kd.R_reads' HO373.out).2.2 | (with_reducible refine Kd.C_alloc ?_ _) | (with_reducible refine Kd.C_drewN ?_ _) | (with_reducible refine Kd.C_drew ?_)))
              (case side4 => exact (Kd.R_reads' HO373.out).2.1)
              rintro e w48 ⟨rfl, hb⟩
              refine ⟨_, rfl, ?_⟩
              have n0_ := Aside0.mk (Kd.R_below (by (with_reducible repeat (first | apply Kd.R_alloc | apply Kd.R_drewN | apply Kd.R_drew)); exact HO373.out) hb)
              have n1_ := Aside0.mk (Kd.R_below (by (with_reducible repeat (first | apply Kd.R_alloc | apply Kd.R_drewN | apply Kd.R_drew)); exact HO377.out) hb)
              have n2_ := Aside0.mk (Kd.R_below (by (with_reducible repeat (first | apply Kd.R_alloc | apply Kd.R_drewN | apply Kd.R_drew)); exact HO381.out) hb)
              have n3_ := Aside0.mk (Kd.R_below (by (with_reducible repeat (first | apply Kd.R_alloc | apply Kd.R_drewN | apply Kd.R_drew)); exact HO392.out) hb)
              have n4_ := Aside0.mk (Kd.R_below (by (with_reducible repeat (first | apply Kd.R_alloc | apply Kd.R_drewN | apply Kd.R_drew)); exact HO395.out) hb)
              have n5_ := Aside0.mk (blk_below (g := gb369) (o := .cells #[.string a2_0, .string a2_1, .bool a2_2] 41 (0, 0)) (by (with_reducible repeat (first | refine blk_drewN ?_ _ | refine blk_drew ?_ | refine blk_alloc ?_ _)); exact BK369.out) hb)
              have n6_ := Aside0.mk (blk_below (g := gb374) (o := .cells #[.string a2_0, .string a2_1, .bool (!a2_2)] 41 (0, 0)) (by (with_reducible repeat (first | refine blk_drewN ?_ _ | refine blk_drew ?_ | refine blk_alloc ?_ _)); exact BK374.out) hb)
              have n7_ := Aside0.mk (below_step (by repeat (first | (with_reducible first | exact HB.out | apply below_alloc | apply pw_below_drewN | apply below_drew1 | refine below_set ?_ GE369.out | refine below_set ?_ GE374.out) | exact HB.out)) hb)
              clear HO373
              clear HO377
              clear HO381
              clear HO392
              clear HO395
              clear BK369
              clear BK374
              clear HB
              have HO373 := n0_
              have HO377 := n1_
              have HO381 := n2_
              have HO392 := n3_
              have HO395 := n4_
              have BK369 := n5_
              have BK374 := n6_
              have HB := n7_
              clear n0_ n1_ n2_ n3_ n4_ n5_ n6_ n7_
              (try clear hb)
              (try clear hb2)
              (try clear hk)
              (try clear hi)
              refine hK.out _ _ ⟨(blk_cell BK369.out 0).trans rfl, (blk_cell BK369.out 1).trans rfl, (blk_cell BK369.out 2).trans rfl⟩ (fun hHeld => ?_)
              clear hK K
              refine norm_ (a' := ?_) ?_ ?_
              rotate_left
              · show Act.put _ (some 48) _ = _
                simp only [Act.put, List.setIfInBounds_toArray, List.set_cons_zero, List.set_cons_succ, i64_w, i32_w]
                rfl
              refine pure_ (i := 8) (N := some 13) (v := ?_) (a' := ?_) #[true, true, true, true, true, true, true, true, true] rfl rfl (any_of HT_.out (by kernel_rfl)) (fun _ _ _ h => h) (Or.inl ⟨by rfl, ?_⟩) ?_ ?_
              rotate_left
              · intro w'
                go_simp
                with_reducible rfl
              rotate_left
              · simp only [Act.put, List.setIfInBounds_toArray, List.set_cons_zero, List.set_cons_succ, i64_w, i32_w]
                rfl
              refine done_ (done_of HT_.out (by kernel_rfl)) ?_
              first
                | ((try go_wp2_with (first | (go_at_call 19; (refine (label_Match.calls _ _ ([] : List (S41)) _ _ t371 t397 _ ?side1 ?side2 ?side3 ?side4 A20.out).mono ?_); (case side1 => exact Kd.C_nil _ _); (case side2 => exact Nat.le_refl _); (case side3 => repeat (first | exact (Kd.R_reads' HO373.out).2.2 | (with_reducible refine Kd.C_alloc ?_ _) | (with_reducible refine Kd.C_drewN ?_ _) | (with_reducible refine Kd.C_drew ?_))); (case side4 => exact (Kd.R_reads' HO373.out).2.1); rintro e w49 ⟨rfl, hb⟩; have n0_ := Aside0.mk (Kd.R_below (by (with_reducible repeat (first | apply Kd.R_alloc | apply Kd.R_drewN | apply Kd.R_drew)); exact HO373.out) hb); have n1_ := Aside0.mk (Kd.R_below (by (with_reducible repeat (first | apply Kd.R_alloc | apply Kd.R_drewN | apply Kd.R_drew)); exact HO377.out) hb); have n2_ := Aside0.mk (Kd.R_below (by (with_reducible repeat (first | apply Kd.R_alloc | apply Kd.R_drewN | apply Kd.R_drew)); exact HO381.out) hb); have n3_ := Aside0.mk (Kd.R_below (by (with_reducible repeat (first | apply Kd.R_alloc | apply Kd.R_drewN | apply Kd.R_drew)); exact HO392.out) hb); have n4_ := Aside0.mk (Kd.R_below (by (with_reducible repeat (first | apply Kd.R_alloc | apply Kd.R_drewN | apply Kd.R_drew)); exact HO395.out) hb); have n5_ := Aside0.mk (blk_below (g := gb369) (o := .cells #[.string a2_0, .string a2_1, .bool a2_2] 41 (0, 0)) (by (with_reducible repeat (first | refine blk_drewN ?_ _ | refine blk_drew ?_ | refine blk_alloc ?_ _)); exact BK369.out) hb); have n6_ := Aside0.mk (blk_below (g := gb374) (o := .cells #[.string a2_0, .string a2_1, .bool (!a2_2)] 41 (0, 0)) (by (with_reducible repeat (first | refine blk_drewN ?_ _ | refine blk_drew ?_ | refine blk_alloc ?_ _)); exact BK374.out) hb); have n7_ := Aside0.mk (below_step (by repeat (first | (with_reducible first | exact HB.out | apply below_alloc | apply pw_below_drewN | apply below_drew1 | refine below_set ?_ GE369.out | refine below_set ?_ GE374.out) | exact HB.out)) hb); clear HO373; clear HO377; clear HO381; clear HO392; clear HO395; clear BK369; clear BK374; clear HB; have HO373 := n0_; have HO377 := n1_; have HO381 := n2_; have HO392 := n3_; have HO395 := n4_; have BK369 := n5_; have BK374 := n6_; have HB := n7_; clear n0_ n1_ n2_ n3_ n4_ n5_ n6_ n7_; (try clear hb); (try clear hb2); (try clear hk); (try clear hi)))); (go_ret); (exact ⟨by first | rfl | (simp [errW_none, errW_some] <;> rfl) | (simp [*, errW_none, errW_some] <;> rfl), by repeat (first | (with_reducible first | exact HB.out | apply below_alloc | apply pw_below_drewN | apply below_drew1 | refine below_set ?_ GE369.out | refine below_set ?_ GE374.out) | exact HB.out)⟩))
                | ((try go_wp2); (go_ret); (exact ⟨by first | rfl | (simp [errW_none, errW_some] <;> rfl) | (simp [*, errW_none, errW_some] <;> rfl), by repeat (first | (with_reducible first | exact HB.out | apply below_alloc | apply pw_below_drewN | apply below_drew1 | refine below_set ?_ GE369.out | refine below_set ?_ GE374.out) | exact HB.out)⟩))
                | ((try go_wp2_with (first | (go_at_call 19; (refine (label_Match.calls _ _ ([] : List (S41)) _ _ t371 t398 _ ?side1 ?side2 ?side3 ?side4 A79.out).mono ?_); (case side1 => exact Kd.C_nil _ _); (case side2 => exact Nat.le_refl _); (case side3 => repeat (first | exact (Kd.R_reads' HO373.out).2.2 | (with_reducible refine Kd.C_alloc ?_ _) | (with_reducible refine Kd.C_drewN ?_ _) | (with_reducible refine Kd.C_drew ?_))); (case side4 => exact (Kd.R_reads' HO373.out).2.1); rintro e w49 ⟨rfl, hb⟩; have n0_ := Aside0.mk (Kd.R_below (by (with_reducible repeat (first | apply Kd.R_alloc | apply Kd.R_drewN | apply Kd.R_drew)); exact HO373.out) hb); have n1_ := Aside0.mk (Kd.R_below (by (with_reducible repeat (first | apply Kd.R_alloc | apply Kd.R_drewN | apply Kd.R_drew)); exact HO377.out) hb); have n2_ := Aside0.mk (Kd.R_below (by (with_reducible repeat (first | apply Kd.R_alloc | apply Kd.R_drewN | apply Kd.R_drew)); exact HO381.out) hb); have n3_ := Aside0.mk (Kd.R_below (by (with_reducible repeat (first | apply Kd.R_alloc | apply Kd.R_drewN | apply Kd.R_drew)); exact HO392.out) hb); have n4_ := Aside0.mk (Kd.R_below (by (with_reducible repeat (first | apply Kd.R_alloc | apply Kd.R_drewN | apply Kd.R_drew)); exact HO395.out) hb); have n5_ := Aside0.mk (blk_below (g := gb369) (o := .cells #[.string a2_0, .string a2_1, .bool a2_2] 41 (0, 0)) (by (with_reducible repeat (first | refine blk_drewN ?_ _ | refine blk_drew ?_ | refine blk_alloc ?_ _)); exact BK369.out) hb); have n6_ := Aside0.mk (blk_below (g := gb374) (o := .cells #[.string a2_0, .string a2_1, .bool (!a2_2)] 41 (0, 0)) (by (with_reducible repeat (first | refine blk_drewN ?_ _ | refine blk_drew ?_ | refine blk_alloc ?_ _)); exact BK374.out) hb); have n7_ := Aside0.mk (below_step (by repeat (first | (with_reducible first | exact HB.out | apply below_alloc | apply pw_below_drewN | apply below_drew1 | refine below_set ?_ GE369.out | refine below_set ?_ GE374.out) | exact HB.out)) hb); clear HO373; clear HO377; clear HO381; clear HO392; clear HO395; clear BK369; clear BK374; clear HB; have HO373 := n0_; have HO377 := n1_; have HO381 := n2_; have HO392 := n3_; have HO395 := n4_; have BK369 := n5_; have BK374 := n6_; have HB := n7_; clear n0_ n1_ n2_ n3_ n4_ n5_ n6_ n7_; (try clear hb); (try clear hb2); (try clear hk); (try clear hi)))); (go_ret); (exact ⟨by first | rfl | (simp [errW_none, errW_some] <;> rfl) | (simp [*, errW_none, errW_some] <;> rfl), by repeat (first | (with_reducible first | exact HB.out | apply below_alloc | apply pw_below_drewN | apply below_drew1 | refine below_set ?_ GE369.out | refine below_set ?_ GE374.out) | exact HB.out)⟩))
          · rw [if_neg c15] at H
            exact absurd H (by simp)
        · rw [if_neg c14] at H
          exact absurd H (by simp)

/-- THE ONE PURE STATEMENT of postroomlaw3_LabelNot. -/
def postroomlaw3_LabelNot.Pure : Prop := ∀ (l0 : List Int) (l1 : List (S41)) (a2_0 : ByteArray) (a2_1 : ByteArray) (a2_2 : Bool), l0.length ≤ maxLen → l0.length * 8 ≤ 140737488351232 → (∀ x ∈ l0, (Lit.int .i64 x).wf = true) → l1.length ≤ maxLen → l1.length * 40 ≤ 140737488351232 → (∀ x ∈ l1, (x.f0.size ≤ maxLen ∧ x.f1.size ≤ maxLen ∧ True)) → a2_0.size ≤ maxLen → a2_1.size ≤ maxLen → ∃ k, postroomlaw3_LabelNot.f k l0 l1 a2_0 a2_1 a2_2 = some true
theorem postroomlaw3_LabelNot.walk (P : postroomlaw3_LabelNot.Pure) (A0 : Option Addr) (c0 : Nat) (l0 : List Int) (A1 : Option Addr) (c1 : Nat) (l1 : List (S41)) (a2_0 : ByteArray) (a2_1 : ByteArray) (a2_2 : Bool) (w : World) (hr0 : Kd.C (Kd.int .i64) w A0 l0.length l0) (hc0 : l0.length ≤ c0) (hr1 : Kd.C k41 w A1 l1.length l1) (hc1 : l1.length ≤ c1) (hm0 : l0.length ≤ maxLen) (hy0 : l0.length * 8 ≤ 140737488351232) (hw0 : (∀ x ∈ l0, (Lit.int .i64 x).wf = true)) (hm1 : l1.length ≤ maxLen) (hy1 : l1.length * 40 ≤ 140737488351232) (hw1 : (∀ x ∈ l1, (x.f0.size ≤ maxLen ∧ x.f1.size ≤ maxLen ∧ True))) (hw2_0 : a2_0.size ≤ maxLen) (hw2_1 : a2_1.size ≤ maxLen) :
    Calls Tryd.prog 5 #[.slice A0 l0.length c0, .slice A1 l1.length c1, .agg #[.string a2_0, .string a2_1, .bool a2_2]] w fun e w' => e = .returned (.bool true) ∧ Below w.heap.size w w' := by
  obtain ⟨k, h⟩ := P l0 l1 a2_0 a2_1 a2_2 hm0 hy0 hw0 hm1 hy1 hw1 hw2_0 hw2_1
  refine (postroomlaw3_LabelNot.calls k A0 c0 l0 A1 c1 l1 a2_0 a2_1 a2_2 true w hr0 hc0 hr1 hc1 h).mono ?_
  rintro e w' ⟨rfl, hd⟩
  exact ⟨rfl, hd⟩

end Go.Proofs.YtkgelkdaodcjcaaDoor.XLbl
