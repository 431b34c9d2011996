/- What the functions of the translation answer, each as a plain Lean function, and that the code comes to it; for a law: its row. Conditions: none but those that each theorem names. Written by a program of this session (wip/xp). -/
import Derived.Test.YthaegbiblblccaaGreatDoorXEntP1
import Derived.Test.YthaegbiblblccaaGreatDoorXEntP3
namespace Go.Proofs.YthaegbiblblccaaGreatDoor.XEnt
open Go.RowKit Go.Proofs.YthaegbiblblccaaGreatDoorW.PrintWords Go.Proofs.YthaegbiblblccaaGreatDoorW.PrintLast Go.Proofs.YthaegbiblblccaaGreatDoorW.PrintMore
attribute [local go_sem] max2_int min2_int max_two min_two max_three min_three max_four min_four   -- for this text's walks alone
theorem zPtB_5 {p : Prop} (h : p := by (with_reducible repeat (first | apply Kd.R_alloc | apply Kd.R_drewN | apply Kd.R_drew)); exact HO383.out) : p := h
theorem zPtB_8 {p : Prop} (h : p := by (with_reducible repeat (first | apply Kd.R_alloc | apply Kd.R_drewN | apply Kd.R_drew)); exact HO390.out) : p := h
theorem zPtB_9 {p : Prop} (h : p := by (with_reducible repeat (first | apply Kd.R_alloc | apply Kd.R_drewN | apply Kd.R_drew)); exact HO406.out) : p := h
theorem zPtB_11 {p : Prop} (h : p := by (with_reducible repeat (first | apply Kd.R_alloc | apply Kd.R_drewN | apply Kd.R_drew)); exact HO380.out) : p := h
theorem zPtB_12 {p : Prop} (h : p := by (with_reducible repeat (first | apply Kd.R_alloc | apply Kd.R_drewN | apply Kd.R_drew)); exact HO398.out) : p := h
theorem zPtB_13 {p : Prop} (h : p := by (with_reducible repeat (first | apply Kd.R_alloc | apply Kd.R_drewN | apply Kd.R_drew)); exact HO414.out) : p := h
theorem zPtB_16 {p : Prop} (h : p := by (with_reducible repeat (first | apply Kd.R_alloc | apply Kd.R_drewN | apply Kd.R_drew)); exact HO387.out) : p := h
theorem zPtB_17 {p : Prop} (h : p := by (with_reducible repeat (first | apply Kd.R_alloc | apply Kd.R_drewN | apply Kd.R_drew)); exact HO403.out) : p := h
theorem zPtB_18 {p : Prop} (h : p := by (with_reducible repeat (first | apply Kd.R_alloc | apply Kd.R_drewN | apply Kd.R_drew)); exact HO395.out) : p := h
theorem zPtB_19 {p : Prop} (h : p := by (with_reducible repeat (first | apply Kd.R_alloc | apply Kd.R_drewN | apply Kd.R_drew)); exact HO411.out) : p := h
theorem zPtB_23 {p : Prop} (h : p := by (with_reducible repeat (first | apply Kd.R_alloc | apply Kd.R_drewN | apply Kd.R_drew)); exact HO425.out) : p := h
theorem zPtB_24 {p : Prop} (h : p := by (with_reducible repeat (first | apply Kd.R_alloc | apply Kd.R_drewN | apply Kd.R_drew)); exact HO433.out) : p := h
theorem zPtB_34 {p : Prop} (h : p := by (with_reducible repeat (first | apply Kd.R_alloc | apply Kd.R_drewN | apply Kd.R_drew)); exact HO430.out) : p := h
theorem zPtB_35 {p : Prop} (h : p := by (with_reducible repeat (first | apply Kd.R_alloc | apply Kd.R_drewN | apply Kd.R_drew)); exact HO419.out) : p := h
theorem zPtB_36 {p : Prop} (h : p := by (with_reducible repeat (first | apply Kd.R_alloc | apply Kd.R_drewN | apply Kd.R_drew)); exact HO422.out) : p := h
theorem zPtB_49 {p : Prop} (h : p := by (with_reducible repeat (first | apply Kd.R_alloc | apply Kd.R_drewN | apply Kd.R_drew)); exact HO436.out) : p := h
theorem zPtB_1 {p : Prop} (h : p := by (with_reducible repeat (first | refine blk_drewN ?_ _ | refine blk_drew ?_ | refine blk_alloc ?_ _)); exact BK384.out) : p := h
theorem zPtB_2 {p : Prop} (h : p := by (with_reducible repeat (first | refine blk_drewN ?_ _ | refine blk_drew ?_ | refine blk_alloc ?_ _)); exact BK392.out) : p := h
theorem zPtB_4 {p : Prop} (h : p := by (with_reducible repeat (first | refine blk_drewN ?_ _ | refine blk_drew ?_ | refine blk_alloc ?_ _)); exact BK400.out) : p := h
theorem zPtB_6 {p : Prop} (h : p := by (with_reducible repeat (first | refine blk_drewN ?_ _ | refine blk_drew ?_ | refine blk_alloc ?_ _)); exact BK408.out) : p := h
theorem zPtB_14 {p : Prop} (h : p := by (with_reducible repeat (first | refine blk_drewN ?_ _ | refine blk_drew ?_ | refine blk_alloc ?_ _)); exact BK416.out) : p := h
theorem zPtB_25 {p : Prop} (h : p := by (with_reducible repeat (first | refine blk_drewN ?_ _ | refine blk_drew ?_ | refine blk_alloc ?_ _)); exact BK427.out) : p := h
theorem zPtB_22 {p : Prop} (h : p := by repeat (first | (with_reducible first | exact HB.out | apply below_alloc | apply pw_below_drewN | apply below_drew1) | exact HB.out)) : p := h
theorem zPtB_7 {p : Prop} (h : p := by (try simp only [List.map_toArray, List.map_cons, List.map_nil]); first | done | rfl | (simp only [List.length_drop, List.length_take]; rfl)) : p := h
theorem zPtB_21 {p : Prop} (h : p := by repeat (first | (with_reducible first | exact HB.out | apply below_alloc | apply pw_below_drewN | apply below_drew1 | refine below_set ?_ GE384.out) | exact HB.out)) : p := h
theorem zPtB_20 {p : Prop} (h : p := by repeat (first | (with_reducible first | exact HB.out | apply below_alloc | apply pw_below_drewN | apply below_drew1 | refine below_set ?_ GE384.out | refine below_set ?_ GE392.out) | exact HB.out)) : p := h
theorem zPtB_15 {p : Prop} (h : p := by repeat (first | (with_reducible first | exact HB.out | apply below_alloc | apply pw_below_drewN | apply below_drew1 | refine below_set ?_ GE384.out | refine below_set ?_ GE392.out | refine below_set ?_ GE400.out) | exact HB.out)) : p := h
theorem zPtB_10 {p : Prop} (h : p := by repeat (first | (with_reducible first | exact HB.out | apply below_alloc | apply pw_below_drewN | apply below_drew1 | refine below_set ?_ GE384.out | refine below_set ?_ GE392.out | refine below_set ?_ GE400.out | refine below_set ?_ GE408.out) | exact HB.out)) : p := h
theorem zPtB_3 {p : Prop} (h : p := by repeat (first | (with_reducible first | exact HB.out | apply below_alloc | apply pw_below_drewN | apply below_drew1 | refine below_set ?_ GE384.out | refine below_set ?_ GE392.out | refine below_set ?_ GE400.out | refine below_set ?_ GE408.out | refine below_set ?_ GE416.out) | exact HB.out)) : p := h
theorem zPtB_0 {p : Prop} (h : p := by repeat (first | (with_reducible first | exact HB.out | apply below_alloc | apply pw_below_drewN | apply below_drew1 | refine below_set ?_ GE384.out | refine below_set ?_ GE392.out | refine below_set ?_ GE400.out | refine below_set ?_ GE408.out | refine below_set ?_ GE416.out | refine below_set ?_ GE427.out) | exact HB.out)) : p := h
theorem zPtB_26 {p : Prop} (h : p := by (with_reducible repeat (first | apply Kd.R_alloc | apply Kd.R_drewN | apply Kd.R_drew)); exact (Kd.R_mono (Kd.R_far (p := ⟨gb384, 1, none⟩) (Kd.R_far (p := ⟨gb384, 0, none⟩) (Kd.R_types HO380.out BK384.out (by decide)) (fun _ hk => hk.2) (.slice Ao593 t378.length co593)) (fun _ hk => hk.2) (.slice Ao595 t381.length co595)) (fun _ h_ => h_.1))) : p := h
theorem zPtB_27 {p : Prop} (h : p := by (with_reducible repeat (first | apply Kd.R_alloc | apply Kd.R_drewN | apply Kd.R_drew)); exact (Kd.R_mono (Kd.R_far (p := ⟨gb384, 1, none⟩) (Kd.R_far (p := ⟨gb384, 0, none⟩) (Kd.R_types HO383.out BK384.out (by decide)) (fun _ hk => hk.2) (.slice Ao593 t378.length co593)) (fun _ hk => hk.2) (.slice Ao595 t381.length co595)) (fun _ h_ => h_.1))) : p := h
theorem zPtB_28 {p : Prop} (h : p := by (with_reducible repeat (first | apply Kd.R_alloc | apply Kd.R_drewN | apply Kd.R_drew)); exact (Kd.R_mono (Kd.R_far (p := ⟨gb392, 1, none⟩) (Kd.R_far (p := ⟨gb392, 0, none⟩) (Kd.R_types HO380.out BK392.out (by decide)) (fun _ hk => hk.2) (.slice Ao598 t385.length co598)) (fun _ hk => hk.2) (.slice Ao601 t388.length co601)) (fun _ h_ => h_.1))) : p := h
theorem zPtB_29 {p : Prop} (h : p := by (with_reducible repeat (first | apply Kd.R_alloc | apply Kd.R_drewN | apply Kd.R_drew)); exact (Kd.R_mono (Kd.R_far (p := ⟨gb392, 1, none⟩) (Kd.R_far (p := ⟨gb392, 0, none⟩) (Kd.R_types HO383.out BK392.out (by decide)) (fun _ hk => hk.2) (.slice Ao598 t385.length co598)) (fun _ hk => hk.2) (.slice Ao601 t388.length co601)) (fun _ h_ => h_.1))) : p := h
theorem zPtB_30 {p : Prop} (h : p := by (with_reducible repeat (first | apply Kd.R_alloc | apply Kd.R_drewN | apply Kd.R_drew)); exact (Kd.R_mono (Kd.R_far (p := ⟨gb400, 1, none⟩) (Kd.R_far (p := ⟨gb400, 0, none⟩) (Kd.R_types HO380.out BK400.out (by decide)) (fun _ hk => hk.2) (.slice Ao605 t393.length co605)) (fun _ hk => hk.2) (.slice Ao609 t396.length co609)) (fun _ h_ => h_.1))) : p := h
theorem zPtB_31 {p : Prop} (h : p := by (with_reducible repeat (first | apply Kd.R_alloc | apply Kd.R_drewN | apply Kd.R_drew)); exact (Kd.R_mono (Kd.R_far (p := ⟨gb400, 1, none⟩) (Kd.R_far (p := ⟨gb400, 0, none⟩) (Kd.R_types HO383.out BK400.out (by decide)) (fun _ hk => hk.2) (.slice Ao605 t393.length co605)) (fun _ hk => hk.2) (.slice Ao609 t396.length co609)) (fun _ h_ => h_.1))) : p := h
theorem zPtB_32 {p : Prop} (h : p := by (with_reducible repeat (first | apply Kd.R_alloc | apply Kd.R_drewN | apply Kd.R_drew)); exact (Kd.R_mono (Kd.R_far (p := ⟨gb408, 1, none⟩) (Kd.R_far (p := ⟨gb408, 0, none⟩) (Kd.R_types HO403.out BK408.out (by decide)) (fun _ hk => hk.2) (.slice Ao613 t401.length co613)) (fun _ hk => hk.2) (.slice Ao618 t404.length co618)) (fun _ h_ => h_.1))) : p := h
theorem zPtB_33 {p : Prop} (h : p := by (with_reducible repeat (first | apply Kd.R_alloc | apply Kd.R_drewN | apply Kd.R_drew)); exact (Kd.R_mono (Kd.R_far (p := ⟨gb408, 1, none⟩) (Kd.R_far (p := ⟨gb408, 0, none⟩) (Kd.R_types HO406.out BK408.out (by decide)) (fun _ hk => hk.2) (.slice Ao613 t401.length co613)) (fun _ hk => hk.2) (.slice Ao618 t404.length co618)) (fun _ h_ => h_.1))) : p := h
theorem zPtB_37 {p : Prop} (h : p := by (with_reducible repeat (first | apply Kd.R_alloc | apply Kd.R_drewN | apply Kd.R_drew)); exact (Kd.R_mono (Kd.R_far (p := ⟨gb392, 1, none⟩) (Kd.R_far (p := ⟨gb392, 0, none⟩) (Kd.R_types HO387.out BK392.out (by decide)) (fun _ hk => hk.2) (.slice Ao598 t385.length co598)) (fun _ hk => hk.2) (.slice Ao601 t388.length co601)) (fun _ h_ => h_.1))) : p := h
theorem zPtB_38 {p : Prop} (h : p := by (with_reducible repeat (first | apply Kd.R_alloc | apply Kd.R_drewN | apply Kd.R_drew)); exact (Kd.R_mono (Kd.R_far (p := ⟨gb392, 1, none⟩) (Kd.R_far (p := ⟨gb392, 0, none⟩) (Kd.R_types HO390.out BK392.out (by decide)) (fun _ hk => hk.2) (.slice Ao598 t385.length co598)) (fun _ hk => hk.2) (.slice Ao601 t388.length co601)) (fun _ h_ => h_.1))) : p := h
theorem zPtB_39 {p : Prop} (h : p := by (with_reducible repeat (first | apply Kd.R_alloc | apply Kd.R_drewN | apply Kd.R_drew)); exact (Kd.R_mono (Kd.R_far (p := ⟨gb400, 1, none⟩) (Kd.R_far (p := ⟨gb400, 0, none⟩) (Kd.R_types HO387.out BK400.out (by decide)) (fun _ hk => hk.2) (.slice Ao605 t393.length co605)) (fun _ hk => hk.2) (.slice Ao609 t396.length co609)) (fun _ h_ => h_.1))) : p := h
theorem zPtB_40 {p : Prop} (h : p := by (with_reducible repeat (first | apply Kd.R_alloc | apply Kd.R_drewN | apply Kd.R_drew)); exact (Kd.R_mono (Kd.R_far (p := ⟨gb400, 1, none⟩) (Kd.R_far (p := ⟨gb400, 0, none⟩) (Kd.R_types HO390.out BK400.out (by decide)) (fun _ hk => hk.2) (.slice Ao605 t393.length co605)) (fun _ hk => hk.2) (.slice Ao609 t396.length co609)) (fun _ h_ => h_.1))) : p := h
theorem zPtB_41 {p : Prop} (h : p := by (with_reducible repeat (first | apply Kd.R_alloc | apply Kd.R_drewN | apply Kd.R_drew)); exact (Kd.R_mono (Kd.R_far (p := ⟨gb400, 1, none⟩) (Kd.R_far (p := ⟨gb400, 0, none⟩) (Kd.R_types HO395.out BK400.out (by decide)) (fun _ hk => hk.2) (.slice Ao605 t393.length co605)) (fun _ hk => hk.2) (.slice Ao609 t396.length co609)) (fun _ h_ => h_.1))) : p := h
theorem zPtB_42 {p : Prop} (h : p := by (with_reducible repeat (first | apply Kd.R_alloc | apply Kd.R_drewN | apply Kd.R_drew)); exact (Kd.R_mono (Kd.R_far (p := ⟨gb400, 1, none⟩) (Kd.R_far (p := ⟨gb400, 0, none⟩) (Kd.R_types HO398.out BK400.out (by decide)) (fun _ hk => hk.2) (.slice Ao605 t393.length co605)) (fun _ hk => hk.2) (.slice Ao609 t396.length co609)) (fun _ h_ => h_.1))) : p := h
theorem zPtB_43 {p : Prop} (h : p := by (with_reducible repeat (first | apply Kd.R_alloc | apply Kd.R_drewN | apply Kd.R_drew)); exact (Kd.R_mono (Kd.R_far (p := ⟨gb408, 1, none⟩) (Kd.R_far (p := ⟨gb408, 0, none⟩) (Kd.R_types HO380.out BK408.out (by decide)) (fun _ hk => hk.2) (.slice Ao613 t401.length co613)) (fun _ hk => hk.2) (.slice Ao618 t404.length co618)) (fun _ h_ => h_.1))) : p := h
theorem zPtB_44 {p : Prop} (h : p := by (with_reducible repeat (first | apply Kd.R_alloc | apply Kd.R_drewN | apply Kd.R_drew)); exact (Kd.R_mono (Kd.R_far (p := ⟨gb408, 1, none⟩) (Kd.R_far (p := ⟨gb408, 0, none⟩) (Kd.R_types HO383.out BK408.out (by decide)) (fun _ hk => hk.2) (.slice Ao613 t401.length co613)) (fun _ hk => hk.2) (.slice Ao618 t404.length co618)) (fun _ h_ => h_.1))) : p := h
theorem zPtB_45 {p : Prop} (h : p := by (with_reducible repeat (first | apply Kd.R_alloc | apply Kd.R_drewN | apply Kd.R_drew)); exact (Kd.R_mono (Kd.R_far (p := ⟨gb408, 1, none⟩) (Kd.R_far (p := ⟨gb408, 0, none⟩) (Kd.R_types HO387.out BK408.out (by decide)) (fun _ hk => hk.2) (.slice Ao613 t401.length co613)) (fun _ hk => hk.2) (.slice Ao618 t404.length co618)) (fun _ h_ => h_.1))) : p := h
theorem zPtB_46 {p : Prop} (h : p := by (with_reducible repeat (first | apply Kd.R_alloc | apply Kd.R_drewN | apply Kd.R_drew)); exact (Kd.R_mono (Kd.R_far (p := ⟨gb408, 1, none⟩) (Kd.R_far (p := ⟨gb408, 0, none⟩) (Kd.R_types HO390.out BK408.out (by decide)) (fun _ hk => hk.2) (.slice Ao613 t401.length co613)) (fun _ hk => hk.2) (.slice Ao618 t404.length co618)) (fun _ h_ => h_.1))) : p := h
theorem zPtB_47 {p : Prop} (h : p := by (with_reducible repeat (first | apply Kd.R_alloc | apply Kd.R_drewN | apply Kd.R_drew)); exact (Kd.R_mono (Kd.R_far (p := ⟨gb408, 1, none⟩) (Kd.R_far (p := ⟨gb408, 0, none⟩) (Kd.R_types HO395.out BK408.out (by decide)) (fun _ hk => hk.2) (.slice Ao613 t401.length co613)) (fun _ hk => hk.2) (.slice Ao618 t404.length co618)) (fun _ h_ => h_.1))) : p := h
theorem zPtB_48 {p : Prop} (h : p := by (with_reducible repeat (first | apply Kd.R_alloc | apply Kd.R_drewN | apply Kd.R_drew)); exact (Kd.R_mono (Kd.R_far (p := ⟨gb408, 1, none⟩) (Kd.R_far (p := ⟨gb408, 0, none⟩) (Kd.R_types HO398.out BK408.out (by decide)) (fun _ hk => hk.2) (.slice Ao613 t401.length co613)) (fun _ hk => hk.2) (.slice Ao618 t404.length co618)) (fun _ h_ => h_.1))) : p := h
set_option linter.unusedVariables false
set_option linter.unusedSimpArgs false

/-! ### postroomlaw5_EntryParts: function 5 -/
def postroomlaw5_EntryPartsB.j0 : Nat → List Int → Int → List Int → Int → Bool → Bool → Option (Bool)
  | 0, _, _, _, _, _, _ => none
  | k + 1, x0, x1, x2, x3, x9, x28 => if x28 = true then (some x9) else ((postroomlaw5_entryOf.f k x0 x1 x2).bind fun bt378 => ((entry_Only.f k bt378.1 bt378.2 ([] : List (S43)) 0 (IntKind.u64.wrap (x3 - 1))).bind fun bt385 => ((entry_Only.f k bt378.1 bt378.2 ([] : List (S43)) x3 18446744073709551615).bind fun bt393 => ((entry_Only.f k bt378.1 bt378.2 ([] : List (S43)) 0 18446744073709551615).bind fun bt401 => ((entry_Only.f k bt401.1 bt401.2.1 ([] : List (S43)) 0 18446744073709551615).bind fun bt409 => ((entry_Only.f k bt378.1 bt378.2 (([(⟨(⟨#[110, 111, 110, 101]⟩ : ByteArray), (⟨#[120]⟩ : ByteArray), false⟩ : S43)] : List (S43))) 0 18446744073709551615).bind fun bt420 => ((some (([] : List (S54)) : List (S54))).bind fun y428 => (if y428.length + bt385.2.1.length < 8796093022208 then ((some (y428 ++ bt385.2.1 : List (S54))).bind fun y431 => (if y431.length + bt393.2.1.length < 8796093022208 then ((some (y431 ++ bt393.2.1 : List (S54))).bind fun y434 => (if bt385.2.2 = true then (none) else (if bt393.2.2 = true then (if bt401.2.2 = true then (if bt409.2.2 = true then (if bt420.2.2 = true then (some false) else ((postroomref5_Canon.f k bt378.1 bt378.2).bind fun bt446 => ((postroomref5_Same.f k bt401.1 bt401.2.1 bt446.1 bt446.2).bind fun t452 => (if t452 = true then ((postroomref5_Same.f k bt409.1 bt409.2.1 bt401.1 bt401.2.1).bind fun t453 => (if t453 = true then ((postroomref4_Same.f k y434 bt378.2).bind fun t454 => (if t454 = true then (if (bt385.2.2 == (decide ((bt385.2.1.length : Int) > 0))) = true then (some (bt393.2.2 == (decide ((bt393.2.1.length : Int) > 0)))) else (some false)) else (some false))) else (some false))) else (some false))))) else (some false)) else (some false)) else (some false)))) else (none))) else (none)))))))))
def postroomlaw5_EntryPartsB.f (k : Nat) (l0 : List Int) (a1 : Int) (l2 : List Int) (a3 : Int) : Option (Bool) := (postroomlaw5_shown.f k).bind fun t377 => (if t377 = true then (postroomlaw5_EntryPartsB.j0 k l0 a1 l2 a3 t377 (a3 == 0)) else (postroomlaw5_EntryPartsB.j0 k l0 a1 l2 a3 t377 true))
theorem postroomlaw5_EntryPartsB.mono_l : ∀ k, (∀ y0 y1 y2 y3 y4 y5, LeO (postroomlaw5_EntryPartsB.j0 k y0 y1 y2 y3 y4 y5) (postroomlaw5_EntryPartsB.j0 (k + 1) y0 y1 y2 y3 y4 y5))
  | 0 => fun _ _ _ _ _ _ r h => by simp [postroomlaw5_EntryPartsB.j0] at h
  | k + 1 => by
    have ih0 := postroomlaw5_EntryPartsB.mono_l k
    · intro y0 y1 y2 y3 y4 y5
      unfold postroomlaw5_EntryPartsB.j0
      repeat' first
      | (with_reducible exact ih0 _ _ _ _ _ _)
      | (with_reducible exact entry_Only.mono _ _ _ _ _ _)
      | (with_reducible exact postroomlaw5_entryOf.mono _ _ _ _)
      | (with_reducible exact postroomlaw5_shown.mono _)
      | (with_reducible exact postroomref4_Same.mono _ _ _)
      | (with_reducible exact postroomref5_Canon.mono _ _ _)
      | (with_reducible exact postroomref5_Same.mono _ _ _ _ _)
      | (with_reducible exact LeO.refl _)
      | (with_reducible exact LeO.none _)
      | (with_reducible refine LeO.ite ?_ ?_)
      | (with_reducible refine LeO.bind ?_ (fun _ => ?_))
      | exact ih0 _ _ _ _ _ _
      | exact entry_Only.mono _ _ _ _ _ _
      | exact postroomlaw5_entryOf.mono _ _ _ _
      | exact postroomlaw5_shown.mono _
      | exact postroomref4_Same.mono _ _ _
      | exact postroomref5_Canon.mono _ _ _
      | exact postroomref5_Same.mono _ _ _ _ _
      | exact LeO.none _
      | refine LeO.ite ?_ ?_
      | refine LeO.bind ?_ (fun _ => ?_)
theorem postroomlaw5_EntryPartsB.mono : ∀ a0 a1 a2 a3 k, LeO (postroomlaw5_EntryPartsB.f k a0 a1 a2 a3) (postroomlaw5_EntryPartsB.f (k + 1) a0 a1 a2 a3) := by
  intro a0 a1 a2 a3 k
  have ih0 := postroomlaw5_EntryPartsB.mono_l k
  unfold postroomlaw5_EntryPartsB.f
  repeat' first
      | (with_reducible exact ih0 _ _ _ _ _ _)
      | (with_reducible exact entry_Only.mono _ _ _ _ _ _)
      | (with_reducible exact postroomlaw5_entryOf.mono _ _ _ _)
      | (with_reducible exact postroomlaw5_shown.mono _)
      | (with_reducible exact postroomref4_Same.mono _ _ _)
      | (with_reducible exact postroomref5_Canon.mono _ _ _)
      | (with_reducible exact postroomref5_Same.mono _ _ _ _ _)
      | (with_reducible exact LeO.refl _)
      | (with_reducible exact LeO.none _)
      | (with_reducible refine LeO.ite ?_ ?_)
      | (with_reducible refine LeO.bind ?_ (fun _ => ?_))
      | exact ih0 _ _ _ _ _ _
      | exact entry_Only.mono _ _ _ _ _ _
      | exact postroomlaw5_entryOf.mono _ _ _ _
      | exact postroomlaw5_shown.mono _
      | exact postroomref4_Same.mono _ _ _
      | exact postroomref5_Canon.mono _ _ _
      | exact postroomref5_Same.mono _ _ _ _ _
      | exact LeO.none _
      | refine LeO.ite ?_ ?_
      | refine LeO.bind ?_ (fun _ => ?_)
def postroomlaw5_EntryPartsB.T10 : Bool × List (List Nat × List Nat) := (true, [([], []), ([], []), ([1], [1]), ([0, 2], [0, 2]), ([], []), ([4], [4]), ([3, 5, 3], [3, 5]), ([6, 6, 0, 1, 2, 3, 4, 5, 6], [6])])
def postroomlaw5_EntryPartsB.B10 : List Nat := [0, 0, 2, 7, 0, 16, 63, 127]
theorem postroomlaw5_EntryPartsB.tab10 : rtab .any (opsOf Tryz.f5 10) = postroomlaw5_EntryPartsB.T10 := by kernel_rfl
theorem postroomlaw5_EntryPartsB.bits10 : waitsOk postroomlaw5_EntryPartsB.T10.2 postroomlaw5_EntryPartsB.B10 = true := by kernel_rfl
def postroomlaw5_EntryPartsB.T11 : Bool × List (List Nat × List Nat) := (true, [([], []), ([0], [0]), ([1], [1]), ([1, 2], [1, 2]), ([3, 1], [3]), ([4], [4]), ([4, 5], [4, 5]), ([6, 4], [6]), ([7], [7]), ([7, 8], [7, 8]), ([9, 7], [9]), ([10], [10]), ([11, 10], [10, 11]), ([10, 12], [10, 12]), ([13, 10], [13]), ([14], [14]), ([14], [14]), ([16, 14, 14], [14, 16]), ([15, 17, 17, 14], [14, 15, 17]), ([14, 18], [14, 18]), ([19, 18], [19]), ([20], [20]), ([20], [20]), ([21, 22, 20, 20], [20, 21, 22]), ([20, 23], [20, 23]), ([24, 23], [24]), ([25], [25]), ([25], [25]), ([27, 25], [25, 27]), ([26, 28, 25, 25], [25, 26, 28]), ([25, 29], [25, 29]), ([30, 29], [30]), ([31], [31]), ([31], [31]), ([33, 31], [31, 33]), ([34, 31], [31, 34]), ([35, 31], [31, 35]), ([32, 36, 31], [31, 32, 36]), ([31, 37], [31, 37]), ([38, 31], [38]), ([39], [39]), ([39], [39]), ([41, 39], [39, 41]), ([42, 39], [39, 42]), ([43, 39], [39, 43]), ([40, 44, 39], [39, 40, 44]), ([39, 45], [39, 45]), ([46, 39, 0, 1, 2, 3, 4, 5, 6, 7, 8, 9, 10, 11, 12, 13, 14, 15, 16, 17, 18, 19, 20, 21, 22, 23, 24, 25, 26, 27, 28, 29, 30, 31, 32, 33, 34, 35, 36, 37, 38, 39, 40, 41, 42, 43, 44, 45, 46], [46])])
def postroomlaw5_EntryPartsB.B11 : List Nat := [0, 1, 3, 7, 15, 31, 63, 127, 255, 511, 1023, 2047, 4095, 8191, 16383, 32767, 32767, 98303, 262143, 524287, 1048575, 2097151, 2097151, 8388607, 16777215, 33554431, 67108863, 67108863, 201326591, 536870911, 1073741823, 2147483647, 4294967295, 4294967295, 12884901887, 30064771071, 64424509439, 137438953471, 274877906943, 549755813887, 1099511627775, 1099511627775, 3298534883327, 7696581394431, 16492674416639, 35184372088831, 70368744177663, 140737488355327]
theorem postroomlaw5_EntryPartsB.tab11 : rtab .any (opsOf Tryz.f5 11) = postroomlaw5_EntryPartsB.T11 := by kernel_rfl
theorem postroomlaw5_EntryPartsB.bits11 : waitsOk postroomlaw5_EntryPartsB.T11.2 postroomlaw5_EntryPartsB.B11 = true := by kernel_rfl
set_option maxHeartbeats 8000000 in
set_option maxRecDepth 100000 in
theorem postroomlaw5_EntryPartsB.calls (k : Nat) (A0 : Option Addr) (c0 : Nat) (l0 : List Int) (a1 : Int) (A2 : Option Addr) (c2 : Nat) (l2 : List Int) (a3 : Int) (r : Bool) (w : World) (hr0 : Kd.C (Kd.int .i64) w A0 l0.length l0) (hc0 : l0.length ≤ c0) (hr2 : Kd.C (Kd.int .i64) w A2 l2.length l2) (hc2 : l2.length ≤ c2) (hrt : Aside0 (r = true)) (h : postroomlaw5_EntryPartsB.f k l0 a1 l2 a3 = some r) :
    Calls Tryz.prog 5 #[.slice A0 l0.length c0, .int .u64 a1, .slice A2 l2.length c2, .int .u64 a3] w fun e w' => e = .returned (.bool r) ∧ Below w.heap.size w w' := by
  have hu25 := Tryz.underlying25
  have hu43 := Tryz.underlying43
  have HR0 := Aside0.mk hr0
  have HC0 := Aside0.mk hc0
  clear hr0 hc0
  have HR2 := Aside0.mk hr2
  have HC2 := Aside0.mk hc2
  clear hr2 hc2
  have HB := Aside0.mk (Below.refl w.heap.size w)
  have H : ((postroomlaw5_shown.f k).bind fun t377 => (if t377 = true then (postroomlaw5_EntryPartsB.j0 k l0 a1 l2 a3 t377 (a3 == 0)) else (postroomlaw5_EntryPartsB.j0 k l0 a1 l2 a3 t377 true))) = some r := h
  clear h
  replace H := Option.bind_eq_some_iff.mp H
  obtain ⟨t377, A50, H⟩ := H
  replace H : (if t377 = true then (postroomlaw5_EntryPartsB.j0 k l0 a1 l2 a3 t377 (a3 == 0)) else (postroomlaw5_EntryPartsB.j0 k l0 a1 l2 a3 t377 true)) = some r := H
  have A5 := Aside0.mk A50
  clear A50
  have HC6 := Aside0.mk H
  clear H
  go_enter Tryz.func5, Tryz.ntmps5
  go_upto_region 2 with (first | ((with_reducible refine gate_callee (f := 6) rfl ?_); refine goesL_ (some 22) rfl rfl Tryz.func6 (by kernel_rfl) rfl #[] rfl zPtB_7 ?_; (with_reducible refine (postroomlaw5_shown.calls k  t377 _ A5.out).mono ?_); rintro e w7 ⟨rfl, hb⟩; refine ⟨_, rfl, ?_⟩; have n0_ := Aside0.mk (below_step zPtB_22 hb); clear HB; have HB := n0_; clear n0_; (try clear hb); (try clear hb2); (try clear hk); (try clear hi)))
  (try simp only [Act.put, List.setIfInBounds_toArray, List.set_cons_zero, List.set_cons_succ])
  go_cut [28] (fun v28 wc => ∃ (kq : Nat) (x28_5 : Bool), v28 = .bool x28_5 ∧ Aside0 (postroomlaw5_EntryPartsB.j0 kq l0 a1 l2 a3 t377 x28_5 = some r) ∧ Aside0 (kq ≤ k) ∧ Aside0 (Below w.heap.size w wc))
  case first =>
    have H := HC6.out
    clear HC6
    by_cases c8 : t377 = true
    · subst c8
      have H1 : (postroomlaw5_EntryPartsB.j0 k l0 a1 l2 a3 true (a3 == 0)) = some r := by rw [if_pos rfl] at H; exact H
      clear H
      have H := H1
      clear H1
      have H' := Aside0.mk H
      clear H
      go_wp2
      go_meet
      case rel => exact ⟨_, ((a3 == 0)), (by first | rfl | (simp; done) | (simp [*]; done)), H', ⟨by first | omega | exact Nat.le_refl _⟩, ⟨by repeat (first | (with_reducible first | exact HB.out | apply below_alloc | apply pw_below_drewN | apply below_drew1) | exact HB.out)⟩⟩
    · replace c8 := Bool.eq_false_iff.mpr c8
      subst c8
      have H1 : (postroomlaw5_EntryPartsB.j0 k l0 a1 l2 a3 false true) = some r := by rw [if_neg (show ¬ (false = true) by decide)] at H; exact H
      clear H
      have H := H1
      clear H1
      have H' := Aside0.mk H
      clear H
      go_wp2
      go_meet
      case rel => exact ⟨_, (true), (by first | rfl | (simp; done) | (simp [*]; done)), H', ⟨by first | omega | exact Nat.le_refl _⟩, ⟨by repeat (first | (with_reducible first | exact HB.out | apply below_alloc | apply pw_below_drewN | apply below_drew1) | exact HB.out)⟩⟩
  case rest =>
    clear HC6
    try clear c2
    try clear p2
    try clear c5
    try clear c6
    try clear c8
    obtain ⟨kq, x28_5, rfl, HA, HJ5, HB⟩ := hcut
    cases kq with
    | zero => exact absurd HA.out (by simp [postroomlaw5_EntryPartsB.j0])
    | succ kj5 =>
      have H := HA.out
      clear HA
      simp only [postroomlaw5_EntryPartsB.j0] at H
      by_cases c9 : x28_5 = true
      · subst c9
        have H1 : (some t377) = some r := by rw [if_pos rfl] at H; exact H
        clear H
        have H := H1
        clear H1
        obtain rfl := Option.some.inj H
        go_wp2
        go_ret
        exact ⟨by first | rfl | (simp [errW_none, errW_some] <;> rfl) | (simp [*, errW_none, errW_some] <;> rfl), by repeat (first | (with_reducible first | exact HB.out | apply below_alloc | apply pw_below_drewN | apply below_drew1) | exact HB.out)⟩
      · replace c9 := Bool.eq_false_iff.mpr c9
        subst c9
        have H1 : ((postroomlaw5_entryOf.f kj5 l0 a1 l2).bind fun bt378 => ((entry_Only.f kj5 bt378.1 bt378.2 ([] : List (S43)) 0 (IntKind.u64.wrap (a3 - 1))).bind fun bt385 => ((entry_Only.f kj5 bt378.1 bt378.2 ([] : List (S43)) a3 18446744073709551615).bind fun bt393 => ((entry_Only.f kj5 bt378.1 bt378.2 ([] : List (S43)) 0 18446744073709551615).bind fun bt401 => ((entry_Only.f kj5 bt401.1 bt401.2.1 ([] : List (S43)) 0 18446744073709551615).bind fun bt409 => ((entry_Only.f kj5 bt378.1 bt378.2 (([(⟨(⟨#[110, 111, 110, 101]⟩ : ByteArray), (⟨#[120]⟩ : ByteArray), false⟩ : S43)] : List (S43))) 0 18446744073709551615).bind fun bt420 => ((some (([] : List (S54)) : List (S54))).bind fun y428 => (if y428.length + bt385.2.1.length < 8796093022208 then ((some (y428 ++ bt385.2.1 : List (S54))).bind fun y431 => (if y431.length + bt393.2.1.length < 8796093022208 then ((some (y431 ++ bt393.2.1 : List (S54))).bind fun y434 => (if bt385.2.2 = true then (none) else (if bt393.2.2 = true then (if bt401.2.2 = true then (if bt409.2.2 = true then (if bt420.2.2 = true then (some false) else ((postroomref5_Canon.f kj5 bt378.1 bt378.2).bind fun bt446 => ((postroomref5_Same.f kj5 bt401.1 bt401.2.1 bt446.1 bt446.2).bind fun t452 => (if t452 = true then ((postroomref5_Same.f kj5 bt409.1 bt409.2.1 bt401.1 bt401.2.1).bind fun t453 => (if t453 = true then ((postroomref4_Same.f kj5 y434 bt378.2).bind fun t454 => (if t454 = true then (if (bt385.2.2 == (decide ((bt385.2.1.length : Int) > 0))) = true then (some (bt393.2.2 == (decide ((bt393.2.1.length : Int) > 0)))) else (some false)) else (some false))) else (some false))) else (some false))))) else (some false)) else (some false)) else (some false)))) else (none))) else (none))))))))) = some r := by rw [if_neg (show ¬ (false = true) by decide)] at H; exact H
        clear H
        have H := H1
        clear H1
        replace H := Option.bind_eq_some_iff.mp H
        obtain ⟨⟨t378, t381⟩, A100, H⟩ := H
        replace H : ((entry_Only.f kj5 t378 t381 ([] : List (S43)) 0 (IntKind.u64.wrap (a3 - 1))).bind fun bt385 => ((entry_Only.f kj5 t378 t381 ([] : List (S43)) a3 18446744073709551615).bind fun bt393 => ((entry_Only.f kj5 t378 t381 ([] : List (S43)) 0 18446744073709551615).bind fun bt401 => ((entry_Only.f kj5 bt401.1 bt401.2.1 ([] : List (S43)) 0 18446744073709551615).bind fun bt409 => ((entry_Only.f kj5 t378 t381 (([(⟨(⟨#[110, 111, 110, 101]⟩ : ByteArray), (⟨#[120]⟩ : ByteArray), false⟩ : S43)] : List (S43))) 0 18446744073709551615).bind fun bt420 => ((some (([] : List (S54)) : List (S54))).bind fun y428 => (if y428.length + bt385.2.1.length < 8796093022208 then ((some (y428 ++ bt385.2.1 : List (S54))).bind fun y431 => (if y431.length + bt393.2.1.length < 8796093022208 then ((some (y431 ++ bt393.2.1 : List (S54))).bind fun y434 => (if bt385.2.2 = true then (none) else (if bt393.2.2 = true then (if bt401.2.2 = true then (if bt409.2.2 = true then (if bt420.2.2 = true then (some false) else ((postroomref5_Canon.f kj5 t378 t381).bind fun bt446 => ((postroomref5_Same.f kj5 bt401.1 bt401.2.1 bt446.1 bt446.2).bind fun t452 => (if t452 = true then ((postroomref5_Same.f kj5 bt409.1 bt409.2.1 bt401.1 bt401.2.1).bind fun t453 => (if t453 = true then ((postroomref4_Same.f kj5 y434 t381).bind fun t454 => (if t454 = true then (if (bt385.2.2 == (decide ((bt385.2.1.length : Int) > 0))) = true then (some (bt393.2.2 == (decide ((bt393.2.1.length : Int) > 0)))) else (some false)) else (some false))) else (some false))) else (some false))))) else (some false)) else (some false)) else (some false)))) else (none))) else (none)))))))) = some r := H
        have A10 := Aside0.mk A100
        clear A100
        replace H := Option.bind_eq_some_iff.mp H
        obtain ⟨⟨t385, t388, t391⟩, A110, H⟩ := H
        replace H : ((entry_Only.f kj5 t378 t381 ([] : List (S43)) a3 18446744073709551615).bind fun bt393 => ((entry_Only.f kj5 t378 t381 ([] : List (S43)) 0 18446744073709551615).bind fun bt401 => ((entry_Only.f kj5 bt401.1 bt401.2.1 ([] : List (S43)) 0 18446744073709551615).bind fun bt409 => ((entry_Only.f kj5 t378 t381 (([(⟨(⟨#[110, 111, 110, 101]⟩ : ByteArray), (⟨#[120]⟩ : ByteArray), false⟩ : S43)] : List (S43))) 0 18446744073709551615).bind fun bt420 => ((some (([] : List (S54)) : List (S54))).bind fun y428 => (if y428.length + t388.length < 8796093022208 then ((some (y428 ++ t388 : List (S54))).bind fun y431 => (if y431.length + bt393.2.1.length < 8796093022208 then ((some (y431 ++ bt393.2.1 : List (S54))).bind fun y434 => (if t391 = true then (none) else (if bt393.2.2 = true then (if bt401.2.2 = true then (if bt409.2.2 = true then (if bt420.2.2 = true then (some false) else ((postroomref5_Canon.f kj5 t378 t381).bind fun bt446 => ((postroomref5_Same.f kj5 bt401.1 bt401.2.1 bt446.1 bt446.2).bind fun t452 => (if t452 = true then ((postroomref5_Same.f kj5 bt409.1 bt409.2.1 bt401.1 bt401.2.1).bind fun t453 => (if t453 = true then ((postroomref4_Same.f kj5 y434 t381).bind fun t454 => (if t454 = true then (if (t391 == (decide ((t388.length : Int) > 0))) = true then (some (bt393.2.2 == (decide ((bt393.2.1.length : Int) > 0)))) else (some false)) else (some false))) else (some false))) else (some false))))) else (some false)) else (some false)) else (some false)))) else (none))) else (none))))))) = some r := H
        have A11 := Aside0.mk A110
        clear A110
        replace H := Option.bind_eq_some_iff.mp H
        obtain ⟨⟨t393, t396, t399⟩, A120, H⟩ := H
        replace H : ((entry_Only.f kj5 t378 t381 ([] : List (S43)) 0 18446744073709551615).bind fun bt401 => ((entry_Only.f kj5 bt401.1 bt401.2.1 ([] : List (S43)) 0 18446744073709551615).bind fun bt409 => ((entry_Only.f kj5 t378 t381 (([(⟨(⟨#[110, 111, 110, 101]⟩ : ByteArray), (⟨#[120]⟩ : ByteArray), false⟩ : S43)] : List (S43))) 0 18446744073709551615).bind fun bt420 => ((some (([] : List (S54)) : List (S54))).bind fun y428 => (if y428.length + t388.length < 8796093022208 then ((some (y428 ++ t388 : List (S54))).bind fun y431 => (if y431.length + t396.length < 8796093022208 then ((some (y431 ++ t396 : List (S54))).bind fun y434 => (if t391 = true then (none) else (if t399 = true then (if bt401.2.2 = true then (if bt409.2.2 = true then (if bt420.2.2 = true then (some false) else ((postroomref5_Canon.f kj5 t378 t381).bind fun bt446 => ((postroomref5_Same.f kj5 bt401.1 bt401.2.1 bt446.1 bt446.2).bind fun t452 => (if t452 = true then ((postroomref5_Same.f kj5 bt409.1 bt409.2.1 bt401.1 bt401.2.1).bind fun t453 => (if t453 = true then ((postroomref4_Same.f kj5 y434 t381).bind fun t454 => (if t454 = true then (if (t391 == (decide ((t388.length : Int) > 0))) = true then (some (t399 == (decide ((t396.length : Int) > 0)))) else (some false)) else (some false))) else (some false))) else (some false))))) else (some false)) else (some false)) else (some false)))) else (none))) else (none)))))) = some r := H
        have A12 := Aside0.mk A120
        clear A120
        replace H := Option.bind_eq_some_iff.mp H
        obtain ⟨⟨t401, t404, t407⟩, A130, H⟩ := H
        replace H : ((entry_Only.f kj5 t401 t404 ([] : List (S43)) 0 18446744073709551615).bind fun bt409 => ((entry_Only.f kj5 t378 t381 (([(⟨(⟨#[110, 111, 110, 101]⟩ : ByteArray), (⟨#[120]⟩ : ByteArray), false⟩ : S43)] : List (S43))) 0 18446744073709551615).bind fun bt420 => ((some (([] : List (S54)) : List (S54))).bind fun y428 => (if y428.length + t388.length < 8796093022208 then ((some (y428 ++ t388 : List (S54))).bind fun y431 => (if y431.length + t396.length < 8796093022208 then ((some (y431 ++ t396 : List (S54))).bind fun y434 => (if t391 = true then (none) else (if t399 = true then (if t407 = true then (if bt409.2.2 = true then (if bt420.2.2 = true then (some false) else ((postroomref5_Canon.f kj5 t378 t381).bind fun bt446 => ((postroomref5_Same.f kj5 t401 t404 bt446.1 bt446.2).bind fun t452 => (if t452 = true then ((postroomref5_Same.f kj5 bt409.1 bt409.2.1 t401 t404).bind fun t453 => (if t453 = true then ((postroomref4_Same.f kj5 y434 t381).bind fun t454 => (if t454 = true then (if (t391 == (decide ((t388.length : Int) > 0))) = true then (some (t399 == (decide ((t396.length : Int) > 0)))) else (some false)) else (some false))) else (some false))) else (some false))))) else (some false)) else (some false)) else (some false)))) else (none))) else (none))))) = some r := H
        have A13 := Aside0.mk A130
        clear A130
        replace H := Option.bind_eq_some_iff.mp H
        obtain ⟨⟨t409, t412, t415⟩, A140, H⟩ := H
        replace H : ((entry_Only.f kj5 t378 t381 (([(⟨(⟨#[110, 111, 110, 101]⟩ : ByteArray), (⟨#[120]⟩ : ByteArray), false⟩ : S43)] : List (S43))) 0 18446744073709551615).bind fun bt420 => ((some (([] : List (S54)) : List (S54))).bind fun y428 => (if y428.length + t388.length < 8796093022208 then ((some (y428 ++ t388 : List (S54))).bind fun y431 => (if y431.length + t396.length < 8796093022208 then ((some (y431 ++ t396 : List (S54))).bind fun y434 => (if t391 = true then (none) else (if t399 = true then (if t407 = true then (if t415 = true then (if bt420.2.2 = true then (some false) else ((postroomref5_Canon.f kj5 t378 t381).bind fun bt446 => ((postroomref5_Same.f kj5 t401 t404 bt446.1 bt446.2).bind fun t452 => (if t452 = true then ((postroomref5_Same.f kj5 t409 t412 t401 t404).bind fun t453 => (if t453 = true then ((postroomref4_Same.f kj5 y434 t381).bind fun t454 => (if t454 = true then (if (t391 == (decide ((t388.length : Int) > 0))) = true then (some (t399 == (decide ((t396.length : Int) > 0)))) else (some false)) else (some false))) else (some false))) else (some false))))) else (some false)) else (some false)) else (some false)))) else (none))) else (none)))) = some r := H
        have A14 := Aside0.mk A140
        clear A140
        obtain ⟨y417, hy417⟩ : ∃ y_ : List (S43), y_ = (([(⟨(⟨#[110, 111, 110, 101]⟩ : ByteArray), (⟨#[120]⟩ : ByteArray), false⟩ : S43)] : List (S43))) := ⟨_, rfl⟩
        replace H : ((entry_Only.f kj5 t378 t381 y417 0 18446744073709551615).bind fun bt420 => ((some (([] : List (S54)) : List (S54))).bind fun y428 => (if y428.length + t388.length < 8796093022208 then ((some (y428 ++ t388 : List (S54))).bind fun y431 => (if y431.length + t396.length < 8796093022208 then ((some (y431 ++ t396 : List (S54))).bind fun y434 => (if t391 = true then (none) else (if t399 = true then (if t407 = true then (if t415 = true then (if bt420.2.2 = true then (some false) else ((postroomref5_Canon.f kj5 t378 t381).bind fun bt446 => ((postroomref5_Same.f kj5 t401 t404 bt446.1 bt446.2).bind fun t452 => (if t452 = true then ((postroomref5_Same.f kj5 t409 t412 t401 t404).bind fun t453 => (if t453 = true then ((postroomref4_Same.f kj5 y434 t381).bind fun t454 => (if t454 = true then (if (t391 == (decide ((t388.length : Int) > 0))) = true then (some (t399 == (decide ((t396.length : Int) > 0)))) else (some false)) else (some false))) else (some false))) else (some false))))) else (some false)) else (some false)) else (some false)))) else (none))) else (none)))) = some r := by first | (rw [hy417]; with_reducible exact H) | (have H2_ := (Option.bind_some _ _).symm.trans H; rw [hy417]; with_reducible exact H2_) | (have H2_ := (Option.bind_some _ _).symm.trans H; with_reducible exact H2_) | with_reducible exact H | (rw [hy417]; exact H) | exact H
        have Ny417 := Aside0.mk hy417
        clear hy417
        replace H := Option.bind_eq_some_iff.mp H
        obtain ⟨⟨t420, t423, t426⟩, A150, H⟩ := H
        replace H : ((some (([] : List (S54)) : List (S54))).bind fun y428 => (if y428.length + t388.length < 8796093022208 then ((some (y428 ++ t388 : List (S54))).bind fun y431 => (if y431.length + t396.length < 8796093022208 then ((some (y431 ++ t396 : List (S54))).bind fun y434 => (if t391 = true then (none) else (if t399 = true then (if t407 = true then (if t415 = true then (if t426 = true then (some false) else ((postroomref5_Canon.f kj5 t378 t381).bind fun bt446 => ((postroomref5_Same.f kj5 t401 t404 bt446.1 bt446.2).bind fun t452 => (if t452 = true then ((postroomref5_Same.f kj5 t409 t412 t401 t404).bind fun t453 => (if t453 = true then ((postroomref4_Same.f kj5 y434 t381).bind fun t454 => (if t454 = true then (if (t391 == (decide ((t388.length : Int) > 0))) = true then (some (t399 == (decide ((t396.length : Int) > 0)))) else (some false)) else (some false))) else (some false))) else (some false))))) else (some false)) else (some false)) else (some false)))) else (none))) else (none))) = some r := H
        have A15 := Aside0.mk A150
        clear A150
        obtain ⟨y428, hy428⟩ : ∃ y_ : List (S54), y_ = (([] : List (S54))) := ⟨_, rfl⟩
        replace H : (if y428.length + t388.length < 8796093022208 then ((some (y428 ++ t388 : List (S54))).bind fun y431 => (if y431.length + t396.length < 8796093022208 then ((some (y431 ++ t396 : List (S54))).bind fun y434 => (if t391 = true then (none) else (if t399 = true then (if t407 = true then (if t415 = true then (if t426 = true then (some false) else ((postroomref5_Canon.f kj5 t378 t381).bind fun bt446 => ((postroomref5_Same.f kj5 t401 t404 bt446.1 bt446.2).bind fun t452 => (if t452 = true then ((postroomref5_Same.f kj5 t409 t412 t401 t404).bind fun t453 => (if t453 = true then ((postroomref4_Same.f kj5 y434 t381).bind fun t454 => (if t454 = true then (if (t391 == (decide ((t388.length : Int) > 0))) = true then (some (t399 == (decide ((t396.length : Int) > 0)))) else (some false)) else (some false))) else (some false))) else (some false))))) else (some false)) else (some false)) else (some false)))) else (none))) else (none)) = some r := by first | (rw [hy428]; with_reducible exact H) | (have H2_ := (Option.bind_some _ _).symm.trans H; rw [hy428]; with_reducible exact H2_) | (have H2_ := (Option.bind_some _ _).symm.trans H; with_reducible exact H2_) | with_reducible exact H | (rw [hy428]; exact H) | exact H
        have Ny428 := Aside0.mk hy428
        clear hy428
        by_cases c16 : y428.length + t388.length < 8796093022208
        · rw [if_pos c16] at H
          have LMc16 := Aside0.mk c16
          clear c16
          obtain ⟨y431, hy431⟩ : ∃ y_ : List (S54), y_ = (y428 ++ t388) := ⟨_, rfl⟩
          replace H : (if y431.length + t396.length < 8796093022208 then ((some (y431 ++ t396 : List (S54))).bind fun y434 => (if t391 = true then (none) else (if t399 = true then (if t407 = true then (if t415 = true then (if t426 = true then (some false) else ((postroomref5_Canon.f kj5 t378 t381).bind fun bt446 => ((postroomref5_Same.f kj5 t401 t404 bt446.1 bt446.2).bind fun t452 => (if t452 = true then ((postroomref5_Same.f kj5 t409 t412 t401 t404).bind fun t453 => (if t453 = true then ((postroomref4_Same.f kj5 y434 t381).bind fun t454 => (if t454 = true then (if (t391 == (decide ((t388.length : Int) > 0))) = true then (some (t399 == (decide ((t396.length : Int) > 0)))) else (some false)) else (some false))) else (some false))) else (some false))))) else (some false)) else (some false)) else (some false)))) else (none)) = some r := by first | (rw [hy431]; with_reducible exact H) | (have H2_ := (Option.bind_some _ _).symm.trans H; rw [hy431]; with_reducible exact H2_) | (have H2_ := (Option.bind_some _ _).symm.trans H; with_reducible exact H2_) | with_reducible exact H | (rw [hy431]; exact H) | exact H
          have Ny431 := Aside0.mk hy431
          clear hy431
          by_cases c17 : y431.length + t396.length < 8796093022208
          · rw [if_pos c17] at H
            have LMc17 := Aside0.mk c17
            clear c17
            obtain ⟨y434, hy434⟩ : ∃ y_ : List (S54), y_ = (y431 ++ t396) := ⟨_, rfl⟩
            replace H : (if t391 = true then (none) else (if t399 = true then (if t407 = true then (if t415 = true then (if t426 = true then (some false) else ((postroomref5_Canon.f kj5 t378 t381).bind fun bt446 => ((postroomref5_Same.f kj5 t401 t404 bt446.1 bt446.2).bind fun t452 => (if t452 = true then ((postroomref5_Same.f kj5 t409 t412 t401 t404).bind fun t453 => (if t453 = true then ((postroomref4_Same.f kj5 y434 t381).bind fun t454 => (if t454 = true then (if (t391 == (decide ((t388.length : Int) > 0))) = true then (some (t399 == (decide ((t396.length : Int) > 0)))) else (some false)) else (some false))) else (some false))) else (some false))))) else (some false)) else (some false)) else (some false))) = some r := by first | (rw [hy434]; with_reducible exact H) | (have H2_ := (Option.bind_some _ _).symm.trans H; rw [hy434]; with_reducible exact H2_) | (have H2_ := (Option.bind_some _ _).symm.trans H; with_reducible exact H2_) | with_reducible exact H | (rw [hy434]; exact H) | exact H
            have Ny434 := Aside0.mk hy434
            clear hy434
            by_cases c18 : t391 = true
            · rw [if_pos c18] at H
              exact absurd H (by simp)
            · replace c18 := Bool.eq_false_iff.mpr c18
              subst c18
              have H1 : (if t399 = true then (if t407 = true then (if t415 = true then (if t426 = true then (some false) else ((postroomref5_Canon.f kj5 t378 t381).bind fun bt446 => ((postroomref5_Same.f kj5 t401 t404 bt446.1 bt446.2).bind fun t452 => (if t452 = true then ((postroomref5_Same.f kj5 t409 t412 t401 t404).bind fun t453 => (if t453 = true then ((postroomref4_Same.f kj5 y434 t381).bind fun t454 => (if t454 = true then (if (false == (decide ((t388.length : Int) > 0))) = true then (some (t399 == (decide ((t396.length : Int) > 0)))) else (some false)) else (some false))) else (some false))) else (some false))))) else (some false)) else (some false)) else (some false)) = some r := by rw [if_neg (show ¬ (false = true) by decide)] at H; exact H
              clear H
              have H := H1
              clear H1
              by_cases c521 : t399 = true
              · subst c521
                have H1 : (if t407 = true then (if t415 = true then (if t426 = true then (some false) else ((postroomref5_Canon.f kj5 t378 t381).bind fun bt446 => ((postroomref5_Same.f kj5 t401 t404 bt446.1 bt446.2).bind fun t452 => (if t452 = true then ((postroomref5_Same.f kj5 t409 t412 t401 t404).bind fun t453 => (if t453 = true then ((postroomref4_Same.f kj5 y434 t381).bind fun t454 => (if t454 = true then (if (false == (decide ((t388.length : Int) > 0))) = true then (some (true == (decide ((t396.length : Int) > 0)))) else (some false)) else (some false))) else (some false))) else (some false))))) else (some false)) else (some false)) = some r := by rw [if_pos rfl] at H; exact H
                clear H
                have H := H1
                clear H1
                by_cases c522 : t407 = true
                · subst c522
                  have H1 : (if t415 = true then (if t426 = true then (some false) else ((postroomref5_Canon.f kj5 t378 t381).bind fun bt446 => ((postroomref5_Same.f kj5 t401 t404 bt446.1 bt446.2).bind fun t452 => (if t452 = true then ((postroomref5_Same.f kj5 t409 t412 t401 t404).bind fun t453 => (if t453 = true then ((postroomref4_Same.f kj5 y434 t381).bind fun t454 => (if t454 = true then (if (false == (decide ((t388.length : Int) > 0))) = true then (some (true == (decide ((t396.length : Int) > 0)))) else (some false)) else (some false))) else (some false))) else (some false))))) else (some false)) = some r := by rw [if_pos rfl] at H; exact H
                  clear H
                  have H := H1
                  clear H1
                  by_cases c523 : t415 = true
                  · subst c523
                    have H1 : (if t426 = true then (some false) else ((postroomref5_Canon.f kj5 t378 t381).bind fun bt446 => ((postroomref5_Same.f kj5 t401 t404 bt446.1 bt446.2).bind fun t452 => (if t452 = true then ((postroomref5_Same.f kj5 t409 t412 t401 t404).bind fun t453 => (if t453 = true then ((postroomref4_Same.f kj5 y434 t381).bind fun t454 => (if t454 = true then (if (false == (decide ((t388.length : Int) > 0))) = true then (some (true == (decide ((t396.length : Int) > 0)))) else (some false)) else (some false))) else (some false))) else (some false))))) = some r := by rw [if_pos rfl] at H; exact H
                    clear H
                    have H := H1
                    clear H1
                    by_cases c524 : t426 = true
                    · subst c524
                      have H1 : (some false) = some r := by rw [if_pos rfl] at H; exact H
                      clear H
                      have H := H1
                      clear H1
                      exact absurd ((Option.some.inj H).trans hrt.out) (by decide)
                    · replace c524 := Bool.eq_false_iff.mpr c524
                      subst c524
                      have H1 : ((postroomref5_Canon.f kj5 t378 t381).bind fun bt446 => ((postroomref5_Same.f kj5 t401 t404 bt446.1 bt446.2).bind fun t452 => (if t452 = true then ((postroomref5_Same.f kj5 t409 t412 t401 t404).bind fun t453 => (if t453 = true then ((postroomref4_Same.f kj5 y434 t381).bind fun t454 => (if t454 = true then (if (false == (decide ((t388.length : Int) > 0))) = true then (some (true == (decide ((t396.length : Int) > 0)))) else (some false)) else (some false))) else (some false))) else (some false)))) = some r := by rw [if_neg (show ¬ (false = true) by decide)] at H; exact H
                      clear H
                      have H := H1
                      clear H1
                      replace H := Option.bind_eq_some_iff.mp H
                      obtain ⟨⟨t446, t449⟩, A5830, H⟩ := H
                      replace H : ((postroomref5_Same.f kj5 t401 t404 t446 t449).bind fun t452 => (if t452 = true then ((postroomref5_Same.f kj5 t409 t412 t401 t404).bind fun t453 => (if t453 = true then ((postroomref4_Same.f kj5 y434 t381).bind fun t454 => (if t454 = true then (if (false == (decide ((t388.length : Int) > 0))) = true then (some (true == (decide ((t396.length : Int) > 0)))) else (some false)) else (some false))) else (some false))) else (some false))) = some r := H
                      have A583 := Aside0.mk A5830
                      clear A5830
                      replace H := Option.bind_eq_some_iff.mp H
                      obtain ⟨t452, A5840, H⟩ := H
                      replace H : (if t452 = true then ((postroomref5_Same.f kj5 t409 t412 t401 t404).bind fun t453 => (if t453 = true then ((postroomref4_Same.f kj5 y434 t381).bind fun t454 => (if t454 = true then (if (false == (decide ((t388.length : Int) > 0))) = true then (some (true == (decide ((t396.length : Int) > 0)))) else (some false)) else (some false))) else (some false))) else (some false)) = some r := H
                      have A584 := Aside0.mk A5840
                      clear A5840
                      by_cases c585 : t452 = true
                      · subst c585
                        have H1 : ((postroomref5_Same.f kj5 t409 t412 t401 t404).bind fun t453 => (if t453 = true then ((postroomref4_Same.f kj5 y434 t381).bind fun t454 => (if t454 = true then (if (false == (decide ((t388.length : Int) > 0))) = true then (some (true == (decide ((t396.length : Int) > 0)))) else (some false)) else (some false))) else (some false))) = some r := by rw [if_pos rfl] at H; exact H
                        clear H
                        have H := H1
                        clear H1
                        replace H := Option.bind_eq_some_iff.mp H
                        obtain ⟨t453, A5860, H⟩ := H
                        replace H : (if t453 = true then ((postroomref4_Same.f kj5 y434 t381).bind fun t454 => (if t454 = true then (if (false == (decide ((t388.length : Int) > 0))) = true then (some (true == (decide ((t396.length : Int) > 0)))) else (some false)) else (some false))) else (some false)) = some r := H
                        have A586 := Aside0.mk A5860
                        clear A5860
                        by_cases c587 : t453 = true
                        · subst c587
                          have H1 : ((postroomref4_Same.f kj5 y434 t381).bind fun t454 => (if t454 = true then (if (false == (decide ((t388.length : Int) > 0))) = true then (some (true == (decide ((t396.length : Int) > 0)))) else (some false)) else (some false))) = some r := by rw [if_pos rfl] at H; exact H
                          clear H
                          have H := H1
                          clear H1
                          replace H := Option.bind_eq_some_iff.mp H
                          obtain ⟨t454, A5880, H⟩ := H
                          replace H : (if t454 = true then (if (false == (decide ((t388.length : Int) > 0))) = true then (some (true == (decide ((t396.length : Int) > 0)))) else (some false)) else (some false)) = some r := H
                          have A588 := Aside0.mk A5880
                          clear A5880
                          by_cases c589 : t454 = true
                          · subst c589
                            have H1 : (if (false == (decide ((t388.length : Int) > 0))) = true then (some (true == (decide ((t396.length : Int) > 0)))) else (some false)) = some r := by rw [if_pos rfl] at H; exact H
                            clear H
                            have H := H1
                            clear H1
                            by_cases c590 : (false == (decide ((t388.length : Int) > 0))) = true
                            · rw [if_pos c590] at H
                              have c590b0 : (false == (decide ((t388.length : Int) > 0))) = true := c590
                              (try (have c590b1 : decide (false = (decide ((t388.length : Int) > 0))) = true := by simpa using c590))
                              (try (have c590b2 : (false == (decide ((t388.length : Int) > 0))) = true := by simpa using c590))
                              (try (have c590b3 : decide (0 < (t388.length : Int)) = false := by simpa using c590))
                              (try (have c590b4 : decide ((t388.length : Int) > 0) = false := by simpa using c590))
                              (try (have c590b5 : decide (0 < t388.length) = false := by simpa using c590))
                              clear c590
                              obtain rfl := Option.some.inj H
                              try go_wp2_with (first | ((with_reducible refine gate_callee (f := 21) rfl ?_); refine goesL_ (some 33) rfl rfl Tryz.func21 (by kernel_rfl) rfl #[.slice A0 l0.length c0, .int .u64 a1, .slice A2 l2.length c2] rfl zPtB_7 ?_; (with_reducible refine (postroomlaw5_entryOf.calls kj5 _ _ l0 a1 _ _ l2 t378 t381 _ ?side1 ?side2 ?side3 ?side4 A10.out).mono ?_); (case side1 => repeat (first | exact (Kd.C_below HR0.out HB.out) | (with_reducible refine Kd.C_alloc ?_ _) | (with_reducible refine Kd.C_drewN ?_ _) | (with_reducible refine Kd.C_drew ?_))); (case side2 => exact HC0.out); (case side3 => repeat (first | exact (Kd.C_below HR2.out HB.out) | (with_reducible refine Kd.C_alloc ?_ _) | (with_reducible refine Kd.C_drewN ?_ _) | (with_reducible refine Kd.C_drew ?_))); (case side4 => exact HC2.out); rintro e w591 ⟨v379, v382, rfl, ho0, ho1, hb⟩; refine ⟨_, rfl, ?_⟩; have n0_ := Aside0.mk (Kd.R_lower ho0 (below_size zPtB_22)); have n1_ := Aside0.mk (Kd.R_lower ho1 (below_size zPtB_22)); have n2_ := Aside0.mk (below_step zPtB_22 hb); clear HB; have HO380 := n0_; have HO383 := n1_; have HB := n2_; clear n0_ n1_ n2_; (try clear hb); (try clear hb2); (try clear hk); (try clear hi); (try clear ho0); (try clear ho1)) | ((with_reducible refine gate_dst (N := 10) rfl ?_); (try (refine gate_guard (by rfl) ?_; dsimp only)); refine box_event ?hg (N := 10) ?hd (cs := #[.slice none 0 0, .slice none 0 0]) (t := 25) ?hr ?_; (case hd => rfl); (case hg => rfl); (case hr => first | (go_simp; done) | (go_simp; rfl)); intro gb384 hg w592 hbox hb; have n0_ := Aside0.mk (Kd.R_below zPtB_11 hb); have n1_ := Aside0.mk (Kd.R_below zPtB_5 hb); have n2_ := Aside0.mk (below_step zPtB_22 hb); have n3_ := Aside0.mk (hbox); have n4_ := Aside0.mk ((by rw [hg]; exact (below_size zPtB_22) : w.heap.size ≤ gb384)); have n5_ := Aside0.mk ((by rw [hg]; exact (below_size zPtB_22) : w.heap.size ≤ gb384)); (try clear HO380); (try clear HO383); clear HB; have HO380 := n0_; have HO383 := n1_; have HB := n2_; have BK384 := n3_; have GW384 := n4_; have GE384 := n5_; clear n0_ n1_ n2_ n3_ n4_ n5_; clear hb hbox hg; obtain ⟨Ao593, co593, eo593⟩ := Kd.R_slice HO380.out; subst eo593; have hcz594_0 : w592.cell? ⟨gb384, 0, none⟩ = some (.slice none 0 0) := (blk_cell BK384.out 0).trans rfl; have hcz594_1 : w592.cell? ⟨gb384, 1, none⟩ = some (.slice none 0 0) := (blk_cell BK384.out 1).trans rfl; have hfz594_0 := blk_frozen BK384.out 0; have hfz594_1 := blk_frozen BK384.out 1; obtain ⟨Ao595, co595, eo595⟩ := Kd.R_slice HO383.out; subst eo595) | ((with_reducible refine gate_callee (f := 17) rfl ?_); refine goesL_ (some 38) rfl rfl Tryz.func17 (by kernel_rfl) rfl #[.agg #[.slice Ao593 t378.length co593, .slice Ao595 t381.length co595], .slice none 0 0, .int .u64 0, .int .u64 (IntKind.u64.wrap (a3 - 1))] rfl zPtB_7 ?_; (refine (entry_Only.calls kj5 _ _ t378 _ _ t381 _ _ ([] : List (S43)) 0 (IntKind.u64.wrap (a3 - 1)) t385 t388 false _ ?side1 ?side2 ?side3 ?side4 ?side5 ?side6 A11.out).mono ?_); (case side1 => refine (Kd.R_reads' (e := 52) (base := w.heap.size) (ok := fun k_ => True) (n := t378.length) (c := co593) ?_).2.2; exact zPtB_26); (case side2 => exact (Kd.R_reads' HO380.out).2.1); (case side3 => refine (Kd.R_reads' (e := 54) (base := w.heap.size) (ok := fun k_ => True) (n := t381.length) (c := co595) ?_).2.2; exact zPtB_27); (case side4 => exact (Kd.R_reads' HO383.out).2.1); (case side5 => exact Kd.C_nil _ _); (case side6 => exact Nat.le_refl _); rintro e w596 ⟨v386, v389, rfl, ho0, ho1, hb⟩; refine ⟨_, rfl, ?_⟩; have n0_ := Aside0.mk (Kd.R_elder' zPtB_26 (Kd.R_base ho0) hb); have n1_ := Aside0.mk (Kd.R_elder' zPtB_27 (Kd.R_base ho1) hb); have n2_ := Aside0.mk (Kd.R_lower (Kd.R_new' ho0 (Kd.R_lt zPtB_26)) (below_size zPtB_21)); have n3_ := Aside0.mk (Kd.R_lower (Kd.R_new' ho1 (Kd.R_lt zPtB_27)) (below_size zPtB_21)); have n4_ := Aside0.mk (blk_below (g := gb384) (o := .cells #[.slice Ao593 t378.length co593, .slice Ao595 t381.length co595] 25 (0, 0)) (by (with_reducible repeat (first | refine blk_drewN ?_ _ | refine blk_drew ?_ | refine blk_alloc ?_ _)); refine blk_put (cs := #[.slice Ao593 t378.length co593, .slice none 0 0]) ?_ 1 _ rfl; (with_reducible repeat (first | refine blk_drewN ?_ _ | refine blk_drew ?_ | refine blk_alloc ?_ _)); refine blk_put (cs := #[.slice none 0 0, .slice none 0 0]) ?_ 0 _ rfl; (with_reducible repeat (first | refine blk_drewN ?_ _ | refine blk_drew ?_ | refine blk_alloc ?_ _)); exact BK384.out) hb); have n5_ := Aside0.mk (below_step zPtB_21 hb); (try clear HO380); (try clear HO383); clear BK384; clear HB; have HO380 := n0_; have HO383 := n1_; have HO387 := n2_; have HO390 := n3_; have BK384 := n4_; have HB := n5_; clear n0_ n1_ n2_ n3_ n4_ n5_; (try clear hb); (try clear hb2); (try clear hk); (try clear hi); (try clear ho0); (try clear ho1)) | ((with_reducible refine gate_dst (N := 11) rfl ?_); (try (refine gate_guard (by rfl) ?_; dsimp only)); refine box_event ?hg (N := 11) ?hd (cs := #[.slice none 0 0, .slice none 0 0]) (t := 25) ?hr ?_; (case hd => rfl); (case hg => rfl); (case hr => first | (go_simp; done) | (go_simp; rfl)); intro gb392 hg w597 hbox hb; have n0_ := Aside0.mk (Kd.R_below zPtB_11 hb); have n1_ := Aside0.mk (Kd.R_below zPtB_5 hb); have n2_ := Aside0.mk (Kd.R_below zPtB_16 hb); have n3_ := Aside0.mk (Kd.R_below zPtB_8 hb); have n4_ := Aside0.mk (blk_below (g := gb384) (o := .cells #[.slice Ao593 t378.length co593, .slice Ao595 t381.length co595] 25 (0, 0)) zPtB_1 hb); have n5_ := Aside0.mk (below_step zPtB_21 hb); have n6_ := Aside0.mk (hbox); have n7_ := Aside0.mk ((by rw [hg]; exact (below_size zPtB_21) : w.heap.size ≤ gb392)); have n8_ := Aside0.mk ((by rw [hg]; exact (below_size zPtB_21) : w.heap.size ≤ gb392)); have n9_ := Aside0.mk ((by rw [hg]; exact Nat.ne_of_lt (blk_lt (g := gb384) (o := .cells #[.slice Ao593 t378.length co593, .slice Ao595 t381.length co595] 25 (0, 0)) zPtB_1) : gb384 ≠ gb392)); have n10_ := Aside0.mk ((by rw [hg]; exact Nat.ne_of_gt (blk_lt (g := gb384) (o := .cells #[.slice Ao593 t378.length co593, .slice Ao595 t381.length co595] 25 (0, 0)) zPtB_1) : gb392 ≠ gb384)); (try clear HO380); (try clear HO383); (try clear HO387); (try clear HO390); clear BK384; clear HB; have HO380 := n0_; have HO383 := n1_; have HO387 := n2_; have HO390 := n3_; have BK384 := n4_; have HB := n5_; have BK392 := n6_; have GW392 := n7_; have GE392 := n8_; have NB384_392 := n9_; have NB392_384 := n10_; clear n0_ n1_ n2_ n3_ n4_ n5_ n6_ n7_ n8_ n9_ n10_; clear hb hbox hg; obtain ⟨Ao598, co598, eo598⟩ := Kd.R_slice HO387.out; subst eo598; have hnb599 := NB392_384.out; have hnc599 := NB384_392.out; have hcz600_0 : w597.cell? ⟨gb392, 0, none⟩ = some (.slice none 0 0) := (blk_cell BK392.out 0).trans rfl; have hcz600_1 : w597.cell? ⟨gb392, 1, none⟩ = some (.slice none 0 0) := (blk_cell BK392.out 1).trans rfl; have hfz600_0 := blk_frozen BK392.out 0; have hfz600_1 := blk_frozen BK392.out 1; obtain ⟨Ao601, co601, eo601⟩ := Kd.R_slice HO390.out; subst eo601; have hcz602_0 : w597.cell? ⟨gb384, 0, none⟩ = some (.slice Ao593 t378.length co593) := (blk_cell BK384.out 0).trans rfl; have hcz602_1 : w597.cell? ⟨gb384, 1, none⟩ = some (.slice Ao595 t381.length co595) := (blk_cell BK384.out 1).trans rfl; have hfz602_0 := blk_frozen BK384.out 0; have hfz602_1 := blk_frozen BK384.out 1) | ((with_reducible refine gate_callee (f := 17) rfl ?_); refine goesL_ (some 44) rfl rfl Tryz.func17 (by kernel_rfl) rfl #[.agg #[.slice Ao593 t378.length co593, .slice Ao595 t381.length co595], .slice none 0 0, .int .u64 a3, .int .u64 18446744073709551615] rfl zPtB_7 ?_; (refine (entry_Only.calls kj5 _ _ t378 _ _ t381 _ _ ([] : List (S43)) a3 18446744073709551615 t393 t396 true _ ?side1 ?side2 ?side3 ?side4 ?side5 ?side6 A12.out).mono ?_); (case side1 => refine (Kd.R_reads' (e := 52) (base := w.heap.size) (ok := fun k_ => (True ∧ some k_ ≠ (.slice Ao598 t385.length co598 : Value).ownBlock)) (n := t378.length) (c := co593) ?_).2.2; exact zPtB_28); (case side2 => exact (Kd.R_reads' HO380.out).2.1); (case side3 => refine (Kd.R_reads' (e := 54) (base := w.heap.size) (ok := fun k_ => (True ∧ some k_ ≠ (.slice Ao601 t388.length co601 : Value).ownBlock)) (n := t381.length) (c := co595) ?_).2.2; exact zPtB_29); (case side4 => exact (Kd.R_reads' HO383.out).2.1); (case side5 => exact Kd.C_nil _ _); (case side6 => exact Nat.le_refl _); rintro e w603 ⟨v394, v397, rfl, ho0, ho1, hb⟩; refine ⟨_, rfl, ?_⟩; have n0_ := Aside0.mk (Kd.R_elder' zPtB_28 (Kd.R_base ho0) hb); have n1_ := Aside0.mk (Kd.R_elder' zPtB_29 (Kd.R_base ho1) hb); have n2_ := Aside0.mk (Kd.R_elder' zPtB_37 (Kd.R_base ho0) hb); have n3_ := Aside0.mk (Kd.R_elder' zPtB_38 (Kd.R_base ho1) hb); have n4_ := Aside0.mk (Kd.R_lower (Kd.R_new' (Kd.R_new' ho0 (Kd.R_lt zPtB_28)) (Kd.R_lt zPtB_37)) (below_size zPtB_20)); have n5_ := Aside0.mk (Kd.R_lower (Kd.R_new' (Kd.R_new' ho1 (Kd.R_lt zPtB_29)) (Kd.R_lt zPtB_38)) (below_size zPtB_20)); have n6_ := Aside0.mk (blk_below (g := gb384) (o := .cells #[.slice Ao593 t378.length co593, .slice Ao595 t381.length co595] 25 (0, 0)) (by (with_reducible repeat (first | refine blk_drewN ?_ _ | refine blk_drew ?_ | refine blk_alloc ?_ _)); refine blk_far ?_ NB384_392.out _; (with_reducible repeat (first | refine blk_drewN ?_ _ | refine blk_drew ?_ | refine blk_alloc ?_ _)); refine blk_far ?_ NB384_392.out _; (with_reducible repeat (first | refine blk_drewN ?_ _ | refine blk_drew ?_ | refine blk_alloc ?_ _)); exact BK384.out) hb); have n7_ := Aside0.mk (blk_below (g := gb392) (o := .cells #[.slice Ao598 t385.length co598, .slice Ao601 t388.length co601] 25 (0, 0)) (by (with_reducible repeat (first | refine blk_drewN ?_ _ | refine blk_drew ?_ | refine blk_alloc ?_ _)); refine blk_put (cs := #[.slice Ao598 t385.length co598, .slice none 0 0]) ?_ 1 _ rfl; (with_reducible repeat (first | refine blk_drewN ?_ _ | refine blk_drew ?_ | refine blk_alloc ?_ _)); refine blk_put (cs := #[.slice none 0 0, .slice none 0 0]) ?_ 0 _ rfl; (with_reducible repeat (first | refine blk_drewN ?_ _ | refine blk_drew ?_ | refine blk_alloc ?_ _)); exact BK392.out) hb); have n8_ := Aside0.mk (below_step zPtB_20 hb); (try clear HO380); (try clear HO383); (try clear HO387); (try clear HO390); clear BK384; clear BK392; clear HB; have HO380 := n0_; have HO383 := n1_; have HO387 := n2_; have HO390 := n3_; have HO395 := n4_; have HO398 := n5_; have BK384 := n6_; have BK392 := n7_; have HB := n8_; clear n0_ n1_ n2_ n3_ n4_ n5_ n6_ n7_ n8_; (try clear hb); (try clear hb2); (try clear hk); (try clear hi); (try clear ho0); (try clear ho1)) | ((with_reducible refine gate_dst (N := 13) rfl ?_); (try (refine gate_guard (by rfl) ?_; dsimp only)); refine box_event ?hg (N := 13) ?hd (cs := #[.slice none 0 0, .slice none 0 0]) (t := 25) ?hr ?_; (case hd => rfl); (case hg => rfl); (case hr => first | (go_simp; done) | (go_simp; rfl)); intro gb400 hg w604 hbox hb; have n0_ := Aside0.mk (Kd.R_below zPtB_11 hb); have n1_ := Aside0.mk (Kd.R_below zPtB_5 hb); have n2_ := Aside0.mk (Kd.R_below zPtB_16 hb); have n3_ := Aside0.mk (Kd.R_below zPtB_8 hb); have n4_ := Aside0.mk (Kd.R_below zPtB_18 hb); have n5_ := Aside0.mk (Kd.R_below zPtB_12 hb); have n6_ := Aside0.mk (blk_below (g := gb384) (o := .cells #[.slice Ao593 t378.length co593, .slice Ao595 t381.length co595] 25 (0, 0)) zPtB_1 hb); have n7_ := Aside0.mk (blk_below (g := gb392) (o := .cells #[.slice Ao598 t385.length co598, .slice Ao601 t388.length co601] 25 (0, 0)) zPtB_2 hb); have n8_ := Aside0.mk (below_step zPtB_20 hb); have n9_ := Aside0.mk (hbox); have n10_ := Aside0.mk ((by rw [hg]; exact (below_size zPtB_20) : w.heap.size ≤ gb400)); have n11_ := Aside0.mk ((by rw [hg]; exact (below_size zPtB_20) : w.heap.size ≤ gb400)); have n12_ := Aside0.mk ((by rw [hg]; exact Nat.ne_of_lt (blk_lt (g := gb384) (o := .cells #[.slice Ao593 t378.length co593, .slice Ao595 t381.length co595] 25 (0, 0)) zPtB_1) : gb384 ≠ gb400)); have n13_ := Aside0.mk ((by rw [hg]; exact Nat.ne_of_gt (blk_lt (g := gb384) (o := .cells #[.slice Ao593 t378.length co593, .slice Ao595 t381.length co595] 25 (0, 0)) zPtB_1) : gb400 ≠ gb384)); have n14_ := Aside0.mk ((by rw [hg]; exact Nat.ne_of_lt (blk_lt (g := gb392) (o := .cells #[.slice Ao598 t385.length co598, .slice Ao601 t388.length co601] 25 (0, 0)) zPtB_2) : gb392 ≠ gb400)); have n15_ := Aside0.mk ((by rw [hg]; exact Nat.ne_of_gt (blk_lt (g := gb392) (o := .cells #[.slice Ao598 t385.length co598, .slice Ao601 t388.length co601] 25 (0, 0)) zPtB_2) : gb400 ≠ gb392)); (try clear HO380); (try clear HO383); (try clear HO387); (try clear HO390); (try clear HO395); (try clear HO398); clear BK384; clear BK392; clear HB; have HO380 := n0_; have HO383 := n1_; have HO387 := n2_; have HO390 := n3_; have HO395 := n4_; have HO398 := n5_; have BK384 := n6_; have BK392 := n7_; have HB := n8_; have BK400 := n9_; have GW400 := n10_; have GE400 := n11_; have NB384_400 := n12_; have NB400_384 := n13_; have NB392_400 := n14_; have NB400_392 := n15_; clear n0_ n1_ n2_ n3_ n4_ n5_ n6_ n7_ n8_ n9_ n10_ n11_ n12_ n13_ n14_ n15_; clear hb hbox hg; obtain ⟨Ao605, co605, eo605⟩ := Kd.R_slice HO395.out; subst eo605; have hnb606 := NB400_384.out; have hnc606 := NB384_400.out; have hnb607 := NB400_392.out; have hnc607 := NB392_400.out; have hcz608_0 : w604.cell? ⟨gb400, 0, none⟩ = some (.slice none 0 0) := (blk_cell BK400.out 0).trans rfl; have hcz608_1 : w604.cell? ⟨gb400, 1, none⟩ = some (.slice none 0 0) := (blk_cell BK400.out 1).trans rfl; have hfz608_0 := blk_frozen BK400.out 0; have hfz608_1 := blk_frozen BK400.out 1; obtain ⟨Ao609, co609, eo609⟩ := Kd.R_slice HO398.out; subst eo609; have hcz610_0 : w604.cell? ⟨gb384, 0, none⟩ = some (.slice Ao593 t378.length co593) := (blk_cell BK384.out 0).trans rfl; have hcz610_1 : w604.cell? ⟨gb384, 1, none⟩ = some (.slice Ao595 t381.length co595) := (blk_cell BK384.out 1).trans rfl; have hfz610_0 := blk_frozen BK384.out 0; have hfz610_1 := blk_frozen BK384.out 1) | ((with_reducible refine gate_callee (f := 17) rfl ?_); refine goesL_ (some 49) rfl rfl Tryz.func17 (by kernel_rfl) rfl #[.agg #[.slice Ao593 t378.length co593, .slice Ao595 t381.length co595], .slice none 0 0, .int .u64 0, .int .u64 18446744073709551615] rfl zPtB_7 ?_; (refine (entry_Only.calls kj5 _ _ t378 _ _ t381 _ _ ([] : List (S43)) 0 18446744073709551615 t401 t404 true _ ?side1 ?side2 ?side3 ?side4 ?side5 ?side6 A13.out).mono ?_); (case side1 => refine (Kd.R_reads' (e := 52) (base := w.heap.size) (ok := fun k_ => ((True ∧ some k_ ≠ (.slice Ao598 t385.length co598 : Value).ownBlock) ∧ some k_ ≠ (.slice Ao605 t393.length co605 : Value).ownBlock)) (n := t378.length) (c := co593) ?_).2.2; exact zPtB_30); (case side2 => exact (Kd.R_reads' HO380.out).2.1); (case side3 => refine (Kd.R_reads' (e := 54) (base := w.heap.size) (ok := fun k_ => ((True ∧ some k_ ≠ (.slice Ao601 t388.length co601 : Value).ownBlock) ∧ some k_ ≠ (.slice Ao609 t396.length co609 : Value).ownBlock)) (n := t381.length) (c := co595) ?_).2.2; exact zPtB_31); (case side4 => exact (Kd.R_reads' HO383.out).2.1); (case side5 => exact Kd.C_nil _ _); (case side6 => exact Nat.le_refl _); rintro e w611 ⟨v402, v405, rfl, ho0, ho1, hb⟩; refine ⟨_, rfl, ?_⟩; have n0_ := Aside0.mk (Kd.R_elder' zPtB_30 (Kd.R_base ho0) hb); have n1_ := Aside0.mk (Kd.R_elder' zPtB_31 (Kd.R_base ho1) hb); have n2_ := Aside0.mk (Kd.R_elder' zPtB_39 (Kd.R_base ho0) hb); have n3_ := Aside0.mk (Kd.R_elder' zPtB_40 (Kd.R_base ho1) hb); have n4_ := Aside0.mk (Kd.R_elder' zPtB_41 (Kd.R_base ho0) hb); have n5_ := Aside0.mk (Kd.R_elder' zPtB_42 (Kd.R_base ho1) hb); have n6_ := Aside0.mk (Kd.R_lower (Kd.R_new' (Kd.R_new' (Kd.R_new' ho0 (Kd.R_lt zPtB_30)) (Kd.R_lt zPtB_39)) (Kd.R_lt zPtB_41)) (below_size zPtB_15)); have n7_ := Aside0.mk (Kd.R_lower (Kd.R_new' (Kd.R_new' (Kd.R_new' ho1 (Kd.R_lt zPtB_31)) (Kd.R_lt zPtB_40)) (Kd.R_lt zPtB_42)) (below_size zPtB_15)); have n8_ := Aside0.mk (blk_below (g := gb384) (o := .cells #[.slice Ao593 t378.length co593, .slice Ao595 t381.length co595] 25 (0, 0)) (by (with_reducible repeat (first | refine blk_drewN ?_ _ | refine blk_drew ?_ | refine blk_alloc ?_ _)); refine blk_far ?_ NB384_400.out _; (with_reducible repeat (first | refine blk_drewN ?_ _ | refine blk_drew ?_ | refine blk_alloc ?_ _)); refine blk_far ?_ NB384_400.out _; (with_reducible repeat (first | refine blk_drewN ?_ _ | refine blk_drew ?_ | refine blk_alloc ?_ _)); exact BK384.out) hb); have n9_ := Aside0.mk (blk_below (g := gb392) (o := .cells #[.slice Ao598 t385.length co598, .slice Ao601 t388.length co601] 25 (0, 0)) (by (with_reducible repeat (first | refine blk_drewN ?_ _ | refine blk_drew ?_ | refine blk_alloc ?_ _)); refine blk_far ?_ NB392_400.out _; (with_reducible repeat (first | refine blk_drewN ?_ _ | refine blk_drew ?_ | refine blk_alloc ?_ _)); refine blk_far ?_ NB392_400.out _; (with_reducible repeat (first | refine blk_drewN ?_ _ | refine blk_drew ?_ | refine blk_alloc ?_ _)); exact BK392.out) hb); have n10_ := Aside0.mk (blk_below (g := gb400) (o := .cells #[.slice Ao605 t393.length co605, .slice Ao609 t396.length co609] 25 (0, 0)) (by (with_reducible repeat (first | refine blk_drewN ?_ _ | refine blk_drew ?_ | refine blk_alloc ?_ _)); refine blk_put (cs := #[.slice Ao605 t393.length co605, .slice none 0 0]) ?_ 1 _ rfl; (with_reducible repeat (first | refine blk_drewN ?_ _ | refine blk_drew ?_ | refine blk_alloc ?_ _)); refine blk_put (cs := #[.slice none 0 0, .slice none 0 0]) ?_ 0 _ rfl; (with_reducible repeat (first | refine blk_drewN ?_ _ | refine blk_drew ?_ | refine blk_alloc ?_ _)); exact BK400.out) hb); have n11_ := Aside0.mk (below_step zPtB_15 hb); (try clear HO380); (try clear HO383); (try clear HO387); (try clear HO390); (try clear HO395); (try clear HO398); clear BK384; clear BK392; clear BK400; clear HB; have HO380 := n0_; have HO383 := n1_; have HO387 := n2_; have HO390 := n3_; have HO395 := n4_; have HO398 := n5_; have HO403 := n6_; have HO406 := n7_; have BK384 := n8_; have BK392 := n9_; have BK400 := n10_; have HB := n11_; clear n0_ n1_ n2_ n3_ n4_ n5_ n6_ n7_ n8_ n9_ n10_ n11_; (try clear hb); (try clear hb2); (try clear hk); (try clear hi); (try clear ho0); (try clear ho1)) | ((with_reducible refine gate_dst (N := 15) rfl ?_); (try (refine gate_guard (by rfl) ?_; dsimp only)); refine box_event ?hg (N := 15) ?hd (cs := #[.slice none 0 0, .slice none 0 0]) (t := 25) ?hr ?_; (case hd => rfl); (case hg => rfl); (case hr => first | (go_simp; done) | (go_simp; rfl)); intro gb408 hg w612 hbox hb; have n0_ := Aside0.mk (Kd.R_below zPtB_11 hb); have n1_ := Aside0.mk (Kd.R_below zPtB_5 hb); have n2_ := Aside0.mk (Kd.R_below zPtB_16 hb); have n3_ := Aside0.mk (Kd.R_below zPtB_8 hb); have n4_ := Aside0.mk (Kd.R_below zPtB_18 hb); have n5_ := Aside0.mk (Kd.R_below zPtB_12 hb); have n6_ := Aside0.mk (Kd.R_below zPtB_17 hb); have n7_ := Aside0.mk (Kd.R_below zPtB_9 hb); have n8_ := Aside0.mk (blk_below (g := gb384) (o := .cells #[.slice Ao593 t378.length co593, .slice Ao595 t381.length co595] 25 (0, 0)) zPtB_1 hb); have n9_ := Aside0.mk (blk_below (g := gb392) (o := .cells #[.slice Ao598 t385.length co598, .slice Ao601 t388.length co601] 25 (0, 0)) zPtB_2 hb); have n10_ := Aside0.mk (blk_below (g := gb400) (o := .cells #[.slice Ao605 t393.length co605, .slice Ao609 t396.length co609] 25 (0, 0)) zPtB_4 hb); have n11_ := Aside0.mk (below_step zPtB_15 hb); have n12_ := Aside0.mk (hbox); have n13_ := Aside0.mk ((by rw [hg]; exact (below_size zPtB_15) : w.heap.size ≤ gb408)); have n14_ := Aside0.mk ((by rw [hg]; exact (below_size zPtB_15) : w.heap.size ≤ gb408)); have n15_ := Aside0.mk ((by rw [hg]; exact Nat.ne_of_lt (blk_lt (g := gb384) (o := .cells #[.slice Ao593 t378.length co593, .slice Ao595 t381.length co595] 25 (0, 0)) zPtB_1) : gb384 ≠ gb408)); have n16_ := Aside0.mk ((by rw [hg]; exact Nat.ne_of_gt (blk_lt (g := gb384) (o := .cells #[.slice Ao593 t378.length co593, .slice Ao595 t381.length co595] 25 (0, 0)) zPtB_1) : gb408 ≠ gb384)); have n17_ := Aside0.mk ((by rw [hg]; exact Nat.ne_of_lt (blk_lt (g := gb392) (o := .cells #[.slice Ao598 t385.length co598, .slice Ao601 t388.length co601] 25 (0, 0)) zPtB_2) : gb392 ≠ gb408)); have n18_ := Aside0.mk ((by rw [hg]; exact Nat.ne_of_gt (blk_lt (g := gb392) (o := .cells #[.slice Ao598 t385.length co598, .slice Ao601 t388.length co601] 25 (0, 0)) zPtB_2) : gb408 ≠ gb392)); have n19_ := Aside0.mk ((by rw [hg]; exact Nat.ne_of_lt (blk_lt (g := gb400) (o := .cells #[.slice Ao605 t393.length co605, .slice Ao609 t396.length co609] 25 (0, 0)) zPtB_4) : gb400 ≠ gb408)); have n20_ := Aside0.mk ((by rw [hg]; exact Nat.ne_of_gt (blk_lt (g := gb400) (o := .cells #[.slice Ao605 t393.length co605, .slice Ao609 t396.length co609] 25 (0, 0)) zPtB_4) : gb408 ≠ gb400)); (try clear HO380); (try clear HO383); (try clear HO387); (try clear HO390); (try clear HO395); (try clear HO398); (try clear HO403); (try clear HO406); clear BK384; clear BK392; clear BK400; clear HB; have HO380 := n0_; have HO383 := n1_; have HO387 := n2_; have HO390 := n3_; have HO395 := n4_; have HO398 := n5_; have HO403 := n6_; have HO406 := n7_; have BK384 := n8_; have BK392 := n9_; have BK400 := n10_; have HB := n11_; have BK408 := n12_; have GW408 := n13_; have GE408 := n14_; have NB384_408 := n15_; have NB408_384 := n16_; have NB392_408 := n17_; have NB408_392 := n18_; have NB400_408 := n19_; have NB408_400 := n20_; clear n0_ n1_ n2_ n3_ n4_ n5_ n6_ n7_ n8_ n9_ n10_ n11_ n12_ n13_ n14_ n15_ n16_ n17_ n18_ n19_ n20_; clear hb hbox hg; obtain ⟨Ao613, co613, eo613⟩ := Kd.R_slice HO403.out; subst eo613; have hnb614 := NB408_384.out; have hnc614 := NB384_408.out; have hnb615 := NB408_392.out; have hnc615 := NB392_408.out; have hnb616 := NB408_400.out; have hnc616 := NB400_408.out; have hcz617_0 : w612.cell? ⟨gb408, 0, none⟩ = some (.slice none 0 0) := (blk_cell BK408.out 0).trans rfl; have hcz617_1 : w612.cell? ⟨gb408, 1, none⟩ = some (.slice none 0 0) := (blk_cell BK408.out 1).trans rfl; have hfz617_0 := blk_frozen BK408.out 0; have hfz617_1 := blk_frozen BK408.out 1; obtain ⟨Ao618, co618, eo618⟩ := Kd.R_slice HO406.out; subst eo618) | ((with_reducible refine gate_callee (f := 17) rfl ?_); refine goesL_ (some 54) rfl rfl Tryz.func17 (by kernel_rfl) rfl #[.agg #[.slice Ao613 t401.length co613, .slice Ao618 t404.length co618], .slice none 0 0, .int .u64 0, .int .u64 18446744073709551615] rfl zPtB_7 ?_; (refine (entry_Only.calls kj5 _ _ t401 _ _ t404 _ _ ([] : List (S43)) 0 18446744073709551615 t409 t412 true _ ?side1 ?side2 ?side3 ?side4 ?side5 ?side6 A14.out).mono ?_); (case side1 => refine (Kd.R_reads' (e := 52) (base := w.heap.size) (ok := fun k_ => (((True ∧ some k_ ≠ (.slice Ao593 t378.length co593 : Value).ownBlock) ∧ some k_ ≠ (.slice Ao598 t385.length co598 : Value).ownBlock) ∧ some k_ ≠ (.slice Ao605 t393.length co605 : Value).ownBlock)) (n := t401.length) (c := co613) ?_).2.2; exact zPtB_32); (case side2 => exact (Kd.R_reads' HO403.out).2.1); (case side3 => refine (Kd.R_reads' (e := 54) (base := w.heap.size) (ok := fun k_ => (((True ∧ some k_ ≠ (.slice Ao595 t381.length co595 : Value).ownBlock) ∧ some k_ ≠ (.slice Ao601 t388.length co601 : Value).ownBlock) ∧ some k_ ≠ (.slice Ao609 t396.length co609 : Value).ownBlock)) (n := t404.length) (c := co618) ?_).2.2; exact zPtB_33); (case side4 => exact (Kd.R_reads' HO406.out).2.1); (case side5 => exact Kd.C_nil _ _); (case side6 => exact Nat.le_refl _); rintro e w619 ⟨v410, v413, rfl, ho0, ho1, hb⟩; refine ⟨_, rfl, ?_⟩; have n0_ := Aside0.mk (Kd.R_elder' zPtB_43 (Kd.R_base ho0) hb); have n1_ := Aside0.mk (Kd.R_elder' zPtB_44 (Kd.R_base ho1) hb); have n2_ := Aside0.mk (Kd.R_elder' zPtB_45 (Kd.R_base ho0) hb); have n3_ := Aside0.mk (Kd.R_elder' zPtB_46 (Kd.R_base ho1) hb); have n4_ := Aside0.mk (Kd.R_elder' zPtB_47 (Kd.R_base ho0) hb); have n5_ := Aside0.mk (Kd.R_elder' zPtB_48 (Kd.R_base ho1) hb); have n6_ := Aside0.mk (Kd.R_elder' zPtB_32 (Kd.R_base ho0) hb); have n7_ := Aside0.mk (Kd.R_elder' zPtB_33 (Kd.R_base ho1) hb); have n8_ := Aside0.mk (Kd.R_lower (Kd.R_new' (Kd.R_new' (Kd.R_new' (Kd.R_new' ho0 (Kd.R_lt zPtB_43)) (Kd.R_lt zPtB_45)) (Kd.R_lt zPtB_47)) (Kd.R_lt zPtB_32)) (below_size zPtB_10)); have n9_ := Aside0.mk (Kd.R_lower (Kd.R_new' (Kd.R_new' (Kd.R_new' (Kd.R_new' ho1 (Kd.R_lt zPtB_44)) (Kd.R_lt zPtB_46)) (Kd.R_lt zPtB_48)) (Kd.R_lt zPtB_33)) (below_size zPtB_10)); have n10_ := Aside0.mk (blk_below (g := gb384) (o := .cells #[.slice Ao593 t378.length co593, .slice Ao595 t381.length co595] 25 (0, 0)) (by (with_reducible repeat (first | refine blk_drewN ?_ _ | refine blk_drew ?_ | refine blk_alloc ?_ _)); refine blk_far ?_ NB384_408.out _; (with_reducible repeat (first | refine blk_drewN ?_ _ | refine blk_drew ?_ | refine blk_alloc ?_ _)); refine blk_far ?_ NB384_408.out _; (with_reducible repeat (first | refine blk_drewN ?_ _ | refine blk_drew ?_ | refine blk_alloc ?_ _)); exact BK384.out) hb); have n11_ := Aside0.mk (blk_below (g := gb392) (o := .cells #[.slice Ao598 t385.length co598, .slice Ao601 t388.length co601] 25 (0, 0)) (by (with_reducible repeat (first | refine blk_drewN ?_ _ | refine blk_drew ?_ | refine blk_alloc ?_ _)); refine blk_far ?_ NB392_408.out _; (with_reducible repeat (first | refine blk_drewN ?_ _ | refine blk_drew ?_ | refine blk_alloc ?_ _)); refine blk_far ?_ NB392_408.out _; (with_reducible repeat (first | refine blk_drewN ?_ _ | refine blk_drew ?_ | refine blk_alloc ?_ _)); exact BK392.out) hb); have n12_ := Aside0.mk (blk_below (g := gb400) (o := .cells #[.slice Ao605 t393.length co605, .slice Ao609 t396.length co609] 25 (0, 0)) (by (with_reducible repeat (first | refine blk_drewN ?_ _ | refine blk_drew ?_ | refine blk_alloc ?_ _)); refine blk_far ?_ NB400_408.out _; (with_reducible repeat (first | refine blk_drewN ?_ _ | refine blk_drew ?_ | refine blk_alloc ?_ _)); refine blk_far ?_ NB400_408.out _; (with_reducible repeat (first | refine blk_drewN ?_ _ | refine blk_drew ?_ | refine blk_alloc ?_ _)); exact BK400.out) hb); have n13_ := Aside0.mk (blk_below (g := gb408) (o := .cells #[.slice Ao613 t401.length co613, .slice Ao618 t404.length co618] 25 (0, 0)) (by (with_reducible repeat (first | refine blk_drewN ?_ _ | refine blk_drew ?_ | refine blk_alloc ?_ _)); refine blk_put (cs := #[.slice Ao613 t401.length co613, .slice none 0 0]) ?_ 1 _ rfl; (with_reducible repeat (first | refine blk_drewN ?_ _ | refine blk_drew ?_ | refine blk_alloc ?_ _)); refine blk_put (cs := #[.slice none 0 0, .slice none 0 0]) ?_ 0 _ rfl; (with_reducible repeat (first | refine blk_drewN ?_ _ | refine blk_drew ?_ | refine blk_alloc ?_ _)); exact BK408.out) hb); have n14_ := Aside0.mk (below_step zPtB_10 hb); (try clear HO380); (try clear HO383); (try clear HO387); (try clear HO390); (try clear HO395); (try clear HO398); (try clear HO403); (try clear HO406); clear BK384; clear BK392; clear BK400; clear BK408; clear HB; have HO380 := n0_; have HO383 := n1_; have HO387 := n2_; have HO390 := n3_; have HO395 := n4_; have HO398 := n5_; have HO403 := n6_; have HO406 := n7_; have HO411 := n8_; have HO414 := n9_; have BK384 := n10_; have BK392 := n11_; have BK400 := n12_; have BK408 := n13_; have HB := n14_; clear n0_ n1_ n2_ n3_ n4_ n5_ n6_ n7_ n8_ n9_ n10_ n11_ n12_ n13_ n14_; (try clear hb); (try clear hb2); (try clear hk); (try clear hi); (try clear ho0); (try clear ho1)) | ((with_reducible refine gate_dst (N := 17) rfl ?_); (try (refine gate_guard (by rfl) ?_; dsimp only)); refine box_event ?hg (N := 17) ?hd (cs := #[.slice none 0 0, .slice none 0 0]) (t := 25) ?hr ?_; (case hd => rfl); (case hg => rfl); (case hr => first | (go_simp; done) | (go_simp; rfl)); intro gb416 hg w620 hbox hb; have n0_ := Aside0.mk (Kd.R_below zPtB_11 hb); have n1_ := Aside0.mk (Kd.R_below zPtB_5 hb); have n2_ := Aside0.mk (Kd.R_below zPtB_16 hb); have n3_ := Aside0.mk (Kd.R_below zPtB_8 hb); have n4_ := Aside0.mk (Kd.R_below zPtB_18 hb); have n5_ := Aside0.mk (Kd.R_below zPtB_12 hb); have n6_ := Aside0.mk (Kd.R_below zPtB_17 hb); have n7_ := Aside0.mk (Kd.R_below zPtB_9 hb); have n8_ := Aside0.mk (Kd.R_below zPtB_19 hb); have n9_ := Aside0.mk (Kd.R_below zPtB_13 hb); have n10_ := Aside0.mk (blk_below (g := gb384) (o := .cells #[.slice Ao593 t378.length co593, .slice Ao595 t381.length co595] 25 (0, 0)) zPtB_1 hb); have n11_ := Aside0.mk (blk_below (g := gb392) (o := .cells #[.slice Ao598 t385.length co598, .slice Ao601 t388.length co601] 25 (0, 0)) zPtB_2 hb); have n12_ := Aside0.mk (blk_below (g := gb400) (o := .cells #[.slice Ao605 t393.length co605, .slice Ao609 t396.length co609] 25 (0, 0)) zPtB_4 hb); have n13_ := Aside0.mk (blk_below (g := gb408) (o := .cells #[.slice Ao613 t401.length co613, .slice Ao618 t404.length co618] 25 (0, 0)) zPtB_6 hb); have n14_ := Aside0.mk (below_step zPtB_10 hb); have n15_ := Aside0.mk (hbox); have n16_ := Aside0.mk ((by rw [hg]; exact (below_size zPtB_10) : w.heap.size ≤ gb416)); have n17_ := Aside0.mk ((by rw [hg]; exact (below_size zPtB_10) : w.heap.size ≤ gb416)); have n18_ := Aside0.mk ((by rw [hg]; exact Nat.ne_of_lt (blk_lt (g := gb384) (o := .cells #[.slice Ao593 t378.length co593, .slice Ao595 t381.length co595] 25 (0, 0)) zPtB_1) : gb384 ≠ gb416)); have n19_ := Aside0.mk ((by rw [hg]; exact Nat.ne_of_gt (blk_lt (g := gb384) (o := .cells #[.slice Ao593 t378.length co593, .slice Ao595 t381.length co595] 25 (0, 0)) zPtB_1) : gb416 ≠ gb384)); have n20_ := Aside0.mk ((by rw [hg]; exact Nat.ne_of_lt (blk_lt (g := gb392) (o := .cells #[.slice Ao598 t385.length co598, .slice Ao601 t388.length co601] 25 (0, 0)) zPtB_2) : gb392 ≠ gb416)); have n21_ := Aside0.mk ((by rw [hg]; exact Nat.ne_of_gt (blk_lt (g := gb392) (o := .cells #[.slice Ao598 t385.length co598, .slice Ao601 t388.length co601] 25 (0, 0)) zPtB_2) : gb416 ≠ gb392)); have n22_ := Aside0.mk ((by rw [hg]; exact Nat.ne_of_lt (blk_lt (g := gb400) (o := .cells #[.slice Ao605 t393.length co605, .slice Ao609 t396.length co609] 25 (0, 0)) zPtB_4) : gb400 ≠ gb416)); have n23_ := Aside0.mk ((by rw [hg]; exact Nat.ne_of_gt (blk_lt (g := gb400) (o := .cells #[.slice Ao605 t393.length co605, .slice Ao609 t396.length co609] 25 (0, 0)) zPtB_4) : gb416 ≠ gb400)); have n24_ := Aside0.mk ((by rw [hg]; exact Nat.ne_of_lt (blk_lt (g := gb408) (o := .cells #[.slice Ao613 t401.length co613, .slice Ao618 t404.length co618] 25 (0, 0)) zPtB_6) : gb408 ≠ gb416)); have n25_ := Aside0.mk ((by rw [hg]; exact Nat.ne_of_gt (blk_lt (g := gb408) (o := .cells #[.slice Ao613 t401.length co613, .slice Ao618 t404.length co618] 25 (0, 0)) zPtB_6) : gb416 ≠ gb408)); (try clear HO380); (try clear HO383); (try clear HO387); (try clear HO390); (try clear HO395); (try clear HO398); (try clear HO403); (try clear HO406); (try clear HO411); (try clear HO414); clear BK384; clear BK392; clear BK400; clear BK408; clear HB; have HO380 := n0_; have HO383 := n1_; have HO387 := n2_; have HO390 := n3_; have HO395 := n4_; have HO398 := n5_; have HO403 := n6_; have HO406 := n7_; have HO411 := n8_; have HO414 := n9_; have BK384 := n10_; have BK392 := n11_; have BK400 := n12_; have BK408 := n13_; have HB := n14_; have BK416 := n15_; have GW416 := n16_; have GE416 := n17_; have NB384_416 := n18_; have NB416_384 := n19_; have NB392_416 := n20_; have NB416_392 := n21_; have NB400_416 := n22_; have NB416_400 := n23_; have NB408_416 := n24_; have NB416_408 := n25_; clear n0_ n1_ n2_ n3_ n4_ n5_ n6_ n7_ n8_ n9_ n10_ n11_ n12_ n13_ n14_ n15_ n16_ n17_ n18_ n19_ n20_ n21_ n22_ n23_ n24_ n25_; clear hb hbox hg; obtain ⟨Ao621, co621, eo621⟩ := Kd.R_slice HO411.out; subst eo621; have hnb622 := NB416_384.out; have hnc622 := NB384_416.out; have hnb623 := NB416_392.out; have hnc623 := NB392_416.out; have hnb624 := NB416_400.out; have hnc624 := NB400_416.out; have hnb625 := NB416_408.out; have hnc625 := NB408_416.out; have hcz626_0 : w620.cell? ⟨gb416, 0, none⟩ = some (.slice none 0 0) := (blk_cell BK416.out 0).trans rfl; have hcz626_1 : w620.cell? ⟨gb416, 1, none⟩ = some (.slice none 0 0) := (blk_cell BK416.out 1).trans rfl; have hfz626_0 := blk_frozen BK416.out 0; have hfz626_1 := blk_frozen BK416.out 1; obtain ⟨Ao627, co627, eo627⟩ := Kd.R_slice HO414.out; subst eo627; have hcz628_0 : w620.cell? ⟨gb384, 0, none⟩ = some (.slice Ao593 t378.length co593) := (blk_cell BK384.out 0).trans rfl; have hcz628_1 : w620.cell? ⟨gb384, 1, none⟩ = some (.slice Ao595 t381.length co595) := (blk_cell BK384.out 1).trans rfl; have hfz628_0 := blk_frozen BK384.out 0; have hfz628_1 := blk_frozen BK384.out 1) | ((with_reducible refine gate_dst (N := 60) rfl ?_); (try (refine gate_guard (by rfl) ?_; dsimp only)); refine Kd.R_lit k43 _ 43 ?hg (N := 60) ?hd (xs := ([(⟨(⟨#[110, 111, 110, 101]⟩ : ByteArray), (⟨#[120]⟩ : ByteArray), false⟩ : S43)] : List (S43))) (inner := [.string (⟨#[110, 111, 110, 101]⟩ : ByteArray), .string (⟨#[120]⟩ : ByteArray), .bool false]) (ok := fun _ => True) (okp := fun _ => True) ?hr ?hp (fun _ hk => hk) trivial (Below.refl _ _) (Nat.le_refl _) (by simp) ?_; (case hd => rfl); (case hg => rfl); (case hr => first | (go_simp; done) | (go_simp; rfl)); (case hp => exact (Reps.c3 (show Kd.M k43 _ _ _ (⟨(⟨#[110, 111, 110, 101]⟩ : ByteArray), (⟨#[120]⟩ : ByteArray), false⟩ : S43) [.string (⟨#[110, 111, 110, 101]⟩ : ByteArray), .string (⟨#[120]⟩ : ByteArray), .bool false] from (k43_mkM _ _ _ (⟨(⟨#[110, 111, 110, 101]⟩ : ByteArray), (⟨#[120]⟩ : ByteArray), false⟩ : S43) )) (Reps.none _ _))); intro v418 w629 ho630 hb hg_ hnew_; clear hg_ hnew_; (first | rw [← Ny417.out] at ho630 | (simp only [Int.reduceToNat] at ho630; rw [← Ny417.out] at ho630)); have n0_ := Aside0.mk (Kd.R_below (by (with_reducible repeat (first | apply Kd.R_alloc | apply Kd.R_drewN | apply Kd.R_drew)); exact (Kd.R_mono (Kd.R_far (p := ⟨gb416, 1, none⟩) (Kd.R_far (p := ⟨gb416, 0, none⟩) (Kd.R_types HO380.out BK416.out (by decide)) (fun _ hk => hk.2) (.slice Ao621 t409.length co621)) (fun _ hk => hk.2) (.slice Ao627 t412.length co627)) (fun _ h_ => h_.1))) hb); have n1_ := Aside0.mk (Kd.R_below (by (with_reducible repeat (first | apply Kd.R_alloc | apply Kd.R_drewN | apply Kd.R_drew)); exact (Kd.R_mono (Kd.R_far (p := ⟨gb416, 1, none⟩) (Kd.R_far (p := ⟨gb416, 0, none⟩) (Kd.R_types HO383.out BK416.out (by decide)) (fun _ hk => hk.2) (.slice Ao621 t409.length co621)) (fun _ hk => hk.2) (.slice Ao627 t412.length co627)) (fun _ h_ => h_.1))) hb); have n2_ := Aside0.mk (Kd.R_below (by (with_reducible repeat (first | apply Kd.R_alloc | apply Kd.R_drewN | apply Kd.R_drew)); exact (Kd.R_mono (Kd.R_far (p := ⟨gb416, 1, none⟩) (Kd.R_far (p := ⟨gb416, 0, none⟩) (Kd.R_types HO387.out BK416.out (by decide)) (fun _ hk => hk.2) (.slice Ao621 t409.length co621)) (fun _ hk => hk.2) (.slice Ao627 t412.length co627)) (fun _ h_ => h_.1))) hb); have n3_ := Aside0.mk (Kd.R_below (by (with_reducible repeat (first | apply Kd.R_alloc | apply Kd.R_drewN | apply Kd.R_drew)); exact (Kd.R_mono (Kd.R_far (p := ⟨gb416, 1, none⟩) (Kd.R_far (p := ⟨gb416, 0, none⟩) (Kd.R_types HO390.out BK416.out (by decide)) (fun _ hk => hk.2) (.slice Ao621 t409.length co621)) (fun _ hk => hk.2) (.slice Ao627 t412.length co627)) (fun _ h_ => h_.1))) hb); have n4_ := Aside0.mk (Kd.R_below (by (with_reducible repeat (first | apply Kd.R_alloc | apply Kd.R_drewN | apply Kd.R_drew)); exact (Kd.R_mono (Kd.R_far (p := ⟨gb416, 1, none⟩) (Kd.R_far (p := ⟨gb416, 0, none⟩) (Kd.R_types HO395.out BK416.out (by decide)) (fun _ hk => hk.2) (.slice Ao621 t409.length co621)) (fun _ hk => hk.2) (.slice Ao627 t412.length co627)) (fun _ h_ => h_.1))) hb); have n5_ := Aside0.mk (Kd.R_below (by (with_reducible repeat (first | apply Kd.R_alloc | apply Kd.R_drewN | apply Kd.R_drew)); exact (Kd.R_mono (Kd.R_far (p := ⟨gb416, 1, none⟩) (Kd.R_far (p := ⟨gb416, 0, none⟩) (Kd.R_types HO398.out BK416.out (by decide)) (fun _ hk => hk.2) (.slice Ao621 t409.length co621)) (fun _ hk => hk.2) (.slice Ao627 t412.length co627)) (fun _ h_ => h_.1))) hb); have n6_ := Aside0.mk (Kd.R_below (by (with_reducible repeat (first | apply Kd.R_alloc | apply Kd.R_drewN | apply Kd.R_drew)); exact (Kd.R_mono (Kd.R_far (p := ⟨gb416, 1, none⟩) (Kd.R_far (p := ⟨gb416, 0, none⟩) (Kd.R_types HO403.out BK416.out (by decide)) (fun _ hk => hk.2) (.slice Ao621 t409.length co621)) (fun _ hk => hk.2) (.slice Ao627 t412.length co627)) (fun _ h_ => h_.1))) hb); have n7_ := Aside0.mk (Kd.R_below (by (with_reducible repeat (first | apply Kd.R_alloc | apply Kd.R_drewN | apply Kd.R_drew)); exact (Kd.R_mono (Kd.R_far (p := ⟨gb416, 1, none⟩) (Kd.R_far (p := ⟨gb416, 0, none⟩) (Kd.R_types HO406.out BK416.out (by decide)) (fun _ hk => hk.2) (.slice Ao621 t409.length co621)) (fun _ hk => hk.2) (.slice Ao627 t412.length co627)) (fun _ h_ => h_.1))) hb); have n8_ := Aside0.mk (Kd.R_below (by (with_reducible repeat (first | apply Kd.R_alloc | apply Kd.R_drewN | apply Kd.R_drew)); exact (Kd.R_mono (Kd.R_far (p := ⟨gb416, 1, none⟩) (Kd.R_far (p := ⟨gb416, 0, none⟩) (Kd.R_types HO411.out BK416.out (by decide)) (fun _ hk => hk.2) (.slice Ao621 t409.length co621)) (fun _ hk => hk.2) (.slice Ao627 t412.length co627)) (fun _ h_ => h_.1))) hb); have n9_ := Aside0.mk (Kd.R_below (by (with_reducible repeat (first | apply Kd.R_alloc | apply Kd.R_drewN | apply Kd.R_drew)); exact (Kd.R_mono (Kd.R_far (p := ⟨gb416, 1, none⟩) (Kd.R_far (p := ⟨gb416, 0, none⟩) (Kd.R_types HO414.out BK416.out (by decide)) (fun _ hk => hk.2) (.slice Ao621 t409.length co621)) (fun _ hk => hk.2) (.slice Ao627 t412.length co627)) (fun _ h_ => h_.1))) hb); have n10_ := Aside0.mk (Kd.R_lower ho630 (below_size zPtB_3)); have n11_ := Aside0.mk (blk_below (g := gb384) (o := .cells #[.slice Ao593 t378.length co593, .slice Ao595 t381.length co595] 25 (0, 0)) (by (with_reducible repeat (first | refine blk_drewN ?_ _ | refine blk_drew ?_ | refine blk_alloc ?_ _)); refine blk_far ?_ NB384_416.out _; (with_reducible repeat (first | refine blk_drewN ?_ _ | refine blk_drew ?_ | refine blk_alloc ?_ _)); refine blk_far ?_ NB384_416.out _; (with_reducible repeat (first | refine blk_drewN ?_ _ | refine blk_drew ?_ | refine blk_alloc ?_ _)); exact BK384.out) hb); have n12_ := Aside0.mk (blk_below (g := gb392) (o := .cells #[.slice Ao598 t385.length co598, .slice Ao601 t388.length co601] 25 (0, 0)) (by (with_reducible repeat (first | refine blk_drewN ?_ _ | refine blk_drew ?_ | refine blk_alloc ?_ _)); refine blk_far ?_ NB392_416.out _; (with_reducible repeat (first | refine blk_drewN ?_ _ | refine blk_drew ?_ | refine blk_alloc ?_ _)); refine blk_far ?_ NB392_416.out _; (with_reducible repeat (first | refine blk_drewN ?_ _ | refine blk_drew ?_ | refine blk_alloc ?_ _)); exact BK392.out) hb); have n13_ := Aside0.mk (blk_below (g := gb400) (o := .cells #[.slice Ao605 t393.length co605, .slice Ao609 t396.length co609] 25 (0, 0)) (by (with_reducible repeat (first | refine blk_drewN ?_ _ | refine blk_drew ?_ | refine blk_alloc ?_ _)); refine blk_far ?_ NB400_416.out _; (with_reducible repeat (first | refine blk_drewN ?_ _ | refine blk_drew ?_ | refine blk_alloc ?_ _)); refine blk_far ?_ NB400_416.out _; (with_reducible repeat (first | refine blk_drewN ?_ _ | refine blk_drew ?_ | refine blk_alloc ?_ _)); exact BK400.out) hb); have n14_ := Aside0.mk (blk_below (g := gb408) (o := .cells #[.slice Ao613 t401.length co613, .slice Ao618 t404.length co618] 25 (0, 0)) (by (with_reducible repeat (first | refine blk_drewN ?_ _ | refine blk_drew ?_ | refine blk_alloc ?_ _)); refine blk_far ?_ NB408_416.out _; (with_reducible repeat (first | refine blk_drewN ?_ _ | refine blk_drew ?_ | refine blk_alloc ?_ _)); refine blk_far ?_ NB408_416.out _; (with_reducible repeat (first | refine blk_drewN ?_ _ | refine blk_drew ?_ | refine blk_alloc ?_ _)); exact BK408.out) hb); have n15_ := Aside0.mk (blk_below (g := gb416) (o := .cells #[.slice Ao621 t409.length co621, .slice Ao627 t412.length co627] 25 (0, 0)) (by (with_reducible repeat (first | refine blk_drewN ?_ _ | refine blk_drew ?_ | refine blk_alloc ?_ _)); refine blk_put (cs := #[.slice Ao621 t409.length co621, .slice none 0 0]) ?_ 1 _ rfl; (with_reducible repeat (first | refine blk_drewN ?_ _ | refine blk_drew ?_ | refine blk_alloc ?_ _)); refine blk_put (cs := #[.slice none 0 0, .slice none 0 0]) ?_ 0 _ rfl; (with_reducible repeat (first | refine blk_drewN ?_ _ | refine blk_drew ?_ | refine blk_alloc ?_ _)); exact BK416.out) hb); have n16_ := Aside0.mk (below_step zPtB_3 hb); (try clear HO380); (try clear HO383); (try clear HO387); (try clear HO390); (try clear HO395); (try clear HO398); (try clear HO403); (try clear HO406); (try clear HO411); (try clear HO414); clear BK384; clear BK392; clear BK400; clear BK408; clear BK416; clear HB; have HO380 := n0_; have HO383 := n1_; have HO387 := n2_; have HO390 := n3_; have HO395 := n4_; have HO398 := n5_; have HO403 := n6_; have HO406 := n7_; have HO411 := n8_; have HO414 := n9_; have HO419 := n10_; have BK384 := n11_; have BK392 := n12_; have BK400 := n13_; have BK408 := n14_; have BK416 := n15_; have HB := n16_; clear n0_ n1_ n2_ n3_ n4_ n5_ n6_ n7_ n8_ n9_ n10_ n11_ n12_ n13_ n14_ n15_ n16_; clear hb ho630; obtain ⟨Ao631, co631, eo631⟩ := Kd.R_slice HO419.out; subst eo631) | ((with_reducible refine gate_callee (f := 17) rfl ?_); refine goesL_ (some 61) rfl rfl Tryz.func17 (by kernel_rfl) rfl #[.agg #[.slice Ao593 t378.length co593, .slice Ao595 t381.length co595], .slice Ao631 y417.length co631, .int .u64 0, .int .u64 18446744073709551615] rfl zPtB_7 ?_; (with_reducible refine (entry_Only.calls kj5 _ _ t378 _ _ t381 _ _ y417 0 18446744073709551615 t420 t423 false _ ?side1 ?side2 ?side3 ?side4 ?side5 ?side6 A15.out).mono ?_); (case side1 => repeat (first | exact (Kd.R_reads' HO380.out).2.2 | (with_reducible refine Kd.C_alloc ?_ _) | (with_reducible refine Kd.C_drewN ?_ _) | (with_reducible refine Kd.C_drew ?_))); (case side2 => exact (Kd.R_reads' HO380.out).2.1); (case side3 => repeat (first | exact (Kd.R_reads' HO383.out).2.2 | (with_reducible refine Kd.C_alloc ?_ _) | (with_reducible refine Kd.C_drewN ?_ _) | (with_reducible refine Kd.C_drew ?_))); (case side4 => exact (Kd.R_reads' HO383.out).2.1); (case side5 => repeat (first | exact (Kd.R_reads' HO419.out).2.2 | (with_reducible refine Kd.C_alloc ?_ _) | (with_reducible refine Kd.C_drewN ?_ _) | (with_reducible refine Kd.C_drew ?_))); (case side6 => exact (Kd.R_reads' HO419.out).2.1); rintro e w632 ⟨v421, v424, rfl, ho0, ho1, hb⟩; refine ⟨_, rfl, ?_⟩; have n0_ := Aside0.mk (Kd.R_elder' zPtB_11 (Kd.R_base ho0) hb); have n1_ := Aside0.mk (Kd.R_elder' zPtB_5 (Kd.R_base ho1) hb); have n2_ := Aside0.mk (Kd.R_elder' zPtB_16 (Kd.R_base ho0) hb); have n3_ := Aside0.mk (Kd.R_elder' zPtB_8 (Kd.R_base ho1) hb); have n4_ := Aside0.mk (Kd.R_elder' zPtB_18 (Kd.R_base ho0) hb); have n5_ := Aside0.mk (Kd.R_elder' zPtB_12 (Kd.R_base ho1) hb); have n6_ := Aside0.mk (Kd.R_elder' zPtB_17 (Kd.R_base ho0) hb); have n7_ := Aside0.mk (Kd.R_elder' zPtB_9 (Kd.R_base ho1) hb); have n8_ := Aside0.mk (Kd.R_elder' zPtB_19 (Kd.R_base ho0) hb); have n9_ := Aside0.mk (Kd.R_elder' zPtB_13 (Kd.R_base ho1) hb); have n10_ := Aside0.mk (Kd.R_below zPtB_35 hb); have n11_ := Aside0.mk (Kd.R_lower (Kd.R_new' (Kd.R_new' (Kd.R_new' (Kd.R_new' (Kd.R_new' ho0 (Kd.R_lt zPtB_11)) (Kd.R_lt zPtB_16)) (Kd.R_lt zPtB_18)) (Kd.R_lt zPtB_17)) (Kd.R_lt zPtB_19)) (below_size zPtB_3)); have n12_ := Aside0.mk (Kd.R_lower (Kd.R_new' (Kd.R_new' (Kd.R_new' (Kd.R_new' (Kd.R_new' ho1 (Kd.R_lt zPtB_5)) (Kd.R_lt zPtB_8)) (Kd.R_lt zPtB_12)) (Kd.R_lt zPtB_9)) (Kd.R_lt zPtB_13)) (below_size zPtB_3)); have n13_ := Aside0.mk (blk_below (g := gb384) (o := .cells #[.slice Ao593 t378.length co593, .slice Ao595 t381.length co595] 25 (0, 0)) zPtB_1 hb); have n14_ := Aside0.mk (blk_below (g := gb392) (o := .cells #[.slice Ao598 t385.length co598, .slice Ao601 t388.length co601] 25 (0, 0)) zPtB_2 hb); have n15_ := Aside0.mk (blk_below (g := gb400) (o := .cells #[.slice Ao605 t393.length co605, .slice Ao609 t396.length co609] 25 (0, 0)) zPtB_4 hb); have n16_ := Aside0.mk (blk_below (g := gb408) (o := .cells #[.slice Ao613 t401.length co613, .slice Ao618 t404.length co618] 25 (0, 0)) zPtB_6 hb); have n17_ := Aside0.mk (blk_below (g := gb416) (o := .cells #[.slice Ao621 t409.length co621, .slice Ao627 t412.length co627] 25 (0, 0)) zPtB_14 hb); have n18_ := Aside0.mk (below_step zPtB_3 hb); (try clear HO380); (try clear HO383); (try clear HO387); (try clear HO390); (try clear HO395); (try clear HO398); (try clear HO403); (try clear HO406); (try clear HO411); (try clear HO414); (try clear HO419); clear BK384; clear BK392; clear BK400; clear BK408; clear BK416; clear HB; have HO380 := n0_; have HO383 := n1_; have HO387 := n2_; have HO390 := n3_; have HO395 := n4_; have HO398 := n5_; have HO403 := n6_; have HO406 := n7_; have HO411 := n8_; have HO414 := n9_; have HO419 := n10_; have HO422 := n11_; have HO425 := n12_; have BK384 := n13_; have BK392 := n14_; have BK400 := n15_; have BK408 := n16_; have BK416 := n17_; have HB := n18_; clear n0_ n1_ n2_ n3_ n4_ n5_ n6_ n7_ n8_ n9_ n10_ n11_ n12_ n13_ n14_ n15_ n16_ n17_ n18_; (try clear hb); (try clear hb2); (try clear hk); (try clear hi); (try clear ho0); (try clear ho1)) | ((with_reducible refine gate_dst (N := 19) rfl ?_); (try (refine gate_guard (by rfl) ?_; dsimp only)); refine box_event ?hg (N := 19) ?hd (cs := #[.slice none 0 0, .slice none 0 0]) (t := 25) ?hr ?_; (case hd => rfl); (case hg => rfl); (case hr => first | (go_simp; done) | (go_simp; rfl)); intro gb427 hg w633 hbox hb; have n0_ := Aside0.mk (Kd.R_below zPtB_11 hb); have n1_ := Aside0.mk (Kd.R_below zPtB_5 hb); have n2_ := Aside0.mk (Kd.R_below zPtB_16 hb); have n3_ := Aside0.mk (Kd.R_below zPtB_8 hb); have n4_ := Aside0.mk (Kd.R_below zPtB_18 hb); have n5_ := Aside0.mk (Kd.R_below zPtB_12 hb); have n6_ := Aside0.mk (Kd.R_below zPtB_17 hb); have n7_ := Aside0.mk (Kd.R_below zPtB_9 hb); have n8_ := Aside0.mk (Kd.R_below zPtB_19 hb); have n9_ := Aside0.mk (Kd.R_below zPtB_13 hb); have n10_ := Aside0.mk (Kd.R_below zPtB_35 hb); have n11_ := Aside0.mk (Kd.R_below zPtB_36 hb); have n12_ := Aside0.mk (Kd.R_below zPtB_23 hb); have n13_ := Aside0.mk (blk_below (g := gb384) (o := .cells #[.slice Ao593 t378.length co593, .slice Ao595 t381.length co595] 25 (0, 0)) zPtB_1 hb); have n14_ := Aside0.mk (blk_below (g := gb392) (o := .cells #[.slice Ao598 t385.length co598, .slice Ao601 t388.length co601] 25 (0, 0)) zPtB_2 hb); have n15_ := Aside0.mk (blk_below (g := gb400) (o := .cells #[.slice Ao605 t393.length co605, .slice Ao609 t396.length co609] 25 (0, 0)) zPtB_4 hb); have n16_ := Aside0.mk (blk_below (g := gb408) (o := .cells #[.slice Ao613 t401.length co613, .slice Ao618 t404.length co618] 25 (0, 0)) zPtB_6 hb); have n17_ := Aside0.mk (blk_below (g := gb416) (o := .cells #[.slice Ao621 t409.length co621, .slice Ao627 t412.length co627] 25 (0, 0)) zPtB_14 hb); have n18_ := Aside0.mk (below_step zPtB_3 hb); have n19_ := Aside0.mk (hbox); have n20_ := Aside0.mk ((by rw [hg]; exact (below_size zPtB_3) : w.heap.size ≤ gb427)); have n21_ := Aside0.mk ((by rw [hg]; exact (below_size zPtB_3) : w.heap.size ≤ gb427)); have n22_ := Aside0.mk ((by rw [hg]; exact Nat.ne_of_lt (blk_lt (g := gb384) (o := .cells #[.slice Ao593 t378.length co593, .slice Ao595 t381.length co595] 25 (0, 0)) zPtB_1) : gb384 ≠ gb427)); have n23_ := Aside0.mk ((by rw [hg]; exact Nat.ne_of_gt (blk_lt (g := gb384) (o := .cells #[.slice Ao593 t378.length co593, .slice Ao595 t381.length co595] 25 (0, 0)) zPtB_1) : gb427 ≠ gb384)); have n24_ := Aside0.mk ((by rw [hg]; exact Nat.ne_of_lt (blk_lt (g := gb392) (o := .cells #[.slice Ao598 t385.length co598, .slice Ao601 t388.length co601] 25 (0, 0)) zPtB_2) : gb392 ≠ gb427)); have n25_ := Aside0.mk ((by rw [hg]; exact Nat.ne_of_gt (blk_lt (g := gb392) (o := .cells #[.slice Ao598 t385.length co598, .slice Ao601 t388.length co601] 25 (0, 0)) zPtB_2) : gb427 ≠ gb392)); have n26_ := Aside0.mk ((by rw [hg]; exact Nat.ne_of_lt (blk_lt (g := gb400) (o := .cells #[.slice Ao605 t393.length co605, .slice Ao609 t396.length co609] 25 (0, 0)) zPtB_4) : gb400 ≠ gb427)); have n27_ := Aside0.mk ((by rw [hg]; exact Nat.ne_of_gt (blk_lt (g := gb400) (o := .cells #[.slice Ao605 t393.length co605, .slice Ao609 t396.length co609] 25 (0, 0)) zPtB_4) : gb427 ≠ gb400)); have n28_ := Aside0.mk ((by rw [hg]; exact Nat.ne_of_lt (blk_lt (g := gb408) (o := .cells #[.slice Ao613 t401.length co613, .slice Ao618 t404.length co618] 25 (0, 0)) zPtB_6) : gb408 ≠ gb427)); have n29_ := Aside0.mk ((by rw [hg]; exact Nat.ne_of_gt (blk_lt (g := gb408) (o := .cells #[.slice Ao613 t401.length co613, .slice Ao618 t404.length co618] 25 (0, 0)) zPtB_6) : gb427 ≠ gb408)); have n30_ := Aside0.mk ((by rw [hg]; exact Nat.ne_of_lt (blk_lt (g := gb416) (o := .cells #[.slice Ao621 t409.length co621, .slice Ao627 t412.length co627] 25 (0, 0)) zPtB_14) : gb416 ≠ gb427)); have n31_ := Aside0.mk ((by rw [hg]; exact Nat.ne_of_gt (blk_lt (g := gb416) (o := .cells #[.slice Ao621 t409.length co621, .slice Ao627 t412.length co627] 25 (0, 0)) zPtB_14) : gb427 ≠ gb416)); (try clear HO380); (try clear HO383); (try clear HO387); (try clear HO390); (try clear HO395); (try clear HO398); (try clear HO403); (try clear HO406); (try clear HO411); (try clear HO414); (try clear HO419); (try clear HO422); (try clear HO425); clear BK384; clear BK392; clear BK400; clear BK408; clear BK416; clear HB; have HO380 := n0_; have HO383 := n1_; have HO387 := n2_; have HO390 := n3_; have HO395 := n4_; have HO398 := n5_; have HO403 := n6_; have HO406 := n7_; have HO411 := n8_; have HO414 := n9_; have HO419 := n10_; have HO422 := n11_; have HO425 := n12_; have BK384 := n13_; have BK392 := n14_; have BK400 := n15_; have BK408 := n16_; have BK416 := n17_; have HB := n18_; have BK427 := n19_; have GW427 := n20_; have GE427 := n21_; have NB384_427 := n22_; have NB427_384 := n23_; have NB392_427 := n24_; have NB427_392 := n25_; have NB400_427 := n26_; have NB427_400 := n27_; have NB408_427 := n28_; have NB427_408 := n29_; have NB416_427 := n30_; have NB427_416 := n31_; clear n0_ n1_ n2_ n3_ n4_ n5_ n6_ n7_ n8_ n9_ n10_ n11_ n12_ n13_ n14_ n15_ n16_ n17_ n18_ n19_ n20_ n21_ n22_ n23_ n24_ n25_ n26_ n27_ n28_ n29_ n30_ n31_; clear hb hbox hg; obtain ⟨Ao634, co634, eo634⟩ := Kd.R_slice HO422.out; subst eo634; have hnb635 := NB427_384.out; have hnc635 := NB384_427.out; have hnb636 := NB427_392.out; have hnc636 := NB392_427.out; have hnb637 := NB427_400.out; have hnc637 := NB400_427.out; have hnb638 := NB427_408.out; have hnc638 := NB408_427.out; have hnb639 := NB427_416.out; have hnc639 := NB416_427.out; have hcz640_0 : w633.cell? ⟨gb427, 0, none⟩ = some (.slice none 0 0) := (blk_cell BK427.out 0).trans rfl; have hcz640_1 : w633.cell? ⟨gb427, 1, none⟩ = some (.slice none 0 0) := (blk_cell BK427.out 1).trans rfl; have hfz640_0 := blk_frozen BK427.out 0; have hfz640_1 := blk_frozen BK427.out 1; obtain ⟨Ao641, co641, eo641⟩ := Kd.R_slice HO425.out; subst eo641))
                              have n0_ : Aside0 (Kd.R k52 52 ((w633.setCell ⟨gb427, 0, none⟩ (.slice Ao634 t420.length co634)).setCell ⟨gb427, 1, none⟩ (.slice Ao641 t423.length co641)) w.heap.size (fun k_ => some k_ ≠ (.slice Ao598 t385.length co598 : Value).ownBlock ∧ some k_ ≠ (.slice Ao605 t393.length co605 : Value).ownBlock ∧ some k_ ≠ (.slice Ao613 t401.length co613 : Value).ownBlock ∧ some k_ ≠ (.slice Ao621 t409.length co621 : Value).ownBlock ∧ some k_ ≠ (.slice Ao634 t420.length co634 : Value).ownBlock) (.slice Ao593 t378.length co593) t378) := ⟨by (with_reducible repeat (first | apply Kd.R_alloc | apply Kd.R_drewN | apply Kd.R_drew)); exact Kd.R_mono (Kd.R_far (p := ⟨gb427, 1, none⟩) (Kd.R_far (p := ⟨gb427, 0, none⟩) (Kd.R_types HO380.out BK427.out (by decide)) (fun _ hk => hk.2) (.slice Ao634 t420.length co634)) (fun _ hk => hk.2) (.slice Ao641 t423.length co641)) (fun _ hk => ⟨hk.1.1.1.1.1.2, ⟨hk.1.1.1.1.2, ⟨hk.1.1.1.2, ⟨hk.1.1.2, hk.1.2⟩⟩⟩⟩)⟩
                              have n1_ : Aside0 (Kd.R k54 54 ((w633.setCell ⟨gb427, 0, none⟩ (.slice Ao634 t420.length co634)).setCell ⟨gb427, 1, none⟩ (.slice Ao641 t423.length co641)) w.heap.size (fun k_ => some k_ ≠ (.slice Ao601 t388.length co601 : Value).ownBlock ∧ some k_ ≠ (.slice Ao609 t396.length co609 : Value).ownBlock ∧ some k_ ≠ (.slice Ao618 t404.length co618 : Value).ownBlock ∧ some k_ ≠ (.slice Ao627 t412.length co627 : Value).ownBlock ∧ some k_ ≠ (.slice Ao641 t423.length co641 : Value).ownBlock) (.slice Ao595 t381.length co595) t381) := ⟨by (with_reducible repeat (first | apply Kd.R_alloc | apply Kd.R_drewN | apply Kd.R_drew)); exact Kd.R_mono (Kd.R_far (p := ⟨gb427, 1, none⟩) (Kd.R_far (p := ⟨gb427, 0, none⟩) (Kd.R_types HO383.out BK427.out (by decide)) (fun _ hk => hk.2) (.slice Ao634 t420.length co634)) (fun _ hk => hk.2) (.slice Ao641 t423.length co641)) (fun _ hk => ⟨hk.1.1.1.1.1.2, ⟨hk.1.1.1.1.2, ⟨hk.1.1.1.2, ⟨hk.1.1.2, hk.1.2⟩⟩⟩⟩)⟩
                              have n2_ : Aside0 (Kd.R k52 52 ((w633.setCell ⟨gb427, 0, none⟩ (.slice Ao634 t420.length co634)).setCell ⟨gb427, 1, none⟩ (.slice Ao641 t423.length co641)) w.heap.size (fun k_ => some k_ ≠ (.slice Ao593 t378.length co593 : Value).ownBlock ∧ some k_ ≠ (.slice Ao605 t393.length co605 : Value).ownBlock ∧ some k_ ≠ (.slice Ao613 t401.length co613 : Value).ownBlock ∧ some k_ ≠ (.slice Ao621 t409.length co621 : Value).ownBlock ∧ some k_ ≠ (.slice Ao634 t420.length co634 : Value).ownBlock) (.slice Ao598 t385.length co598) t385) := ⟨by (with_reducible repeat (first | apply Kd.R_alloc | apply Kd.R_drewN | apply Kd.R_drew)); exact Kd.R_mono (Kd.R_far (p := ⟨gb427, 1, none⟩) (Kd.R_far (p := ⟨gb427, 0, none⟩) (Kd.R_types HO387.out BK427.out (by decide)) (fun _ hk => hk.2) (.slice Ao634 t420.length co634)) (fun _ hk => hk.2) (.slice Ao641 t423.length co641)) (fun _ hk => ⟨hk.1.1.1.1.1.2, ⟨hk.1.1.1.1.2, ⟨hk.1.1.1.2, ⟨hk.1.1.2, hk.1.2⟩⟩⟩⟩)⟩
                              have n3_ : Aside0 (Kd.R k54 54 ((w633.setCell ⟨gb427, 0, none⟩ (.slice Ao634 t420.length co634)).setCell ⟨gb427, 1, none⟩ (.slice Ao641 t423.length co641)) w.heap.size (fun k_ => some k_ ≠ (.slice Ao595 t381.length co595 : Value).ownBlock ∧ some k_ ≠ (.slice Ao609 t396.length co609 : Value).ownBlock ∧ some k_ ≠ (.slice Ao618 t404.length co618 : Value).ownBlock ∧ some k_ ≠ (.slice Ao627 t412.length co627 : Value).ownBlock ∧ some k_ ≠ (.slice Ao641 t423.length co641 : Value).ownBlock) (.slice Ao601 t388.length co601) t388) := ⟨by (with_reducible repeat (first | apply Kd.R_alloc | apply Kd.R_drewN | apply Kd.R_drew)); exact Kd.R_mono (Kd.R_far (p := ⟨gb427, 1, none⟩) (Kd.R_far (p := ⟨gb427, 0, none⟩) (Kd.R_types HO390.out BK427.out (by decide)) (fun _ hk => hk.2) (.slice Ao634 t420.length co634)) (fun _ hk => hk.2) (.slice Ao641 t423.length co641)) (fun _ hk => ⟨hk.1.1.1.1.1.2, ⟨hk.1.1.1.1.2, ⟨hk.1.1.1.2, ⟨hk.1.1.2, hk.1.2⟩⟩⟩⟩)⟩
                              have n4_ : Aside0 (Kd.R k52 52 ((w633.setCell ⟨gb427, 0, none⟩ (.slice Ao634 t420.length co634)).setCell ⟨gb427, 1, none⟩ (.slice Ao641 t423.length co641)) w.heap.size (fun k_ => some k_ ≠ (.slice Ao593 t378.length co593 : Value).ownBlock ∧ some k_ ≠ (.slice Ao598 t385.length co598 : Value).ownBlock ∧ some k_ ≠ (.slice Ao613 t401.length co613 : Value).ownBlock ∧ some k_ ≠ (.slice Ao621 t409.length co621 : Value).ownBlock ∧ some k_ ≠ (.slice Ao634 t420.length co634 : Value).ownBlock) (.slice Ao605 t393.length co605) t393) := ⟨by (with_reducible repeat (first | apply Kd.R_alloc | apply Kd.R_drewN | apply Kd.R_drew)); exact Kd.R_mono (Kd.R_far (p := ⟨gb427, 1, none⟩) (Kd.R_far (p := ⟨gb427, 0, none⟩) (Kd.R_types HO395.out BK427.out (by decide)) (fun _ hk => hk.2) (.slice Ao634 t420.length co634)) (fun _ hk => hk.2) (.slice Ao641 t423.length co641)) (fun _ hk => ⟨hk.1.1.1.1.1.2, ⟨hk.1.1.1.1.2, ⟨hk.1.1.1.2, ⟨hk.1.1.2, hk.1.2⟩⟩⟩⟩)⟩
                              have n5_ : Aside0 (Kd.R k54 54 ((w633.setCell ⟨gb427, 0, none⟩ (.slice Ao634 t420.length co634)).setCell ⟨gb427, 1, none⟩ (.slice Ao641 t423.length co641)) w.heap.size (fun k_ => some k_ ≠ (.slice Ao595 t381.length co595 : Value).ownBlock ∧ some k_ ≠ (.slice Ao601 t388.length co601 : Value).ownBlock ∧ some k_ ≠ (.slice Ao618 t404.length co618 : Value).ownBlock ∧ some k_ ≠ (.slice Ao627 t412.length co627 : Value).ownBlock ∧ some k_ ≠ (.slice Ao641 t423.length co641 : Value).ownBlock) (.slice Ao609 t396.length co609) t396) := ⟨by (with_reducible repeat (first | apply Kd.R_alloc | apply Kd.R_drewN | apply Kd.R_drew)); exact Kd.R_mono (Kd.R_far (p := ⟨gb427, 1, none⟩) (Kd.R_far (p := ⟨gb427, 0, none⟩) (Kd.R_types HO398.out BK427.out (by decide)) (fun _ hk => hk.2) (.slice Ao634 t420.length co634)) (fun _ hk => hk.2) (.slice Ao641 t423.length co641)) (fun _ hk => ⟨hk.1.1.1.1.1.2, ⟨hk.1.1.1.1.2, ⟨hk.1.1.1.2, ⟨hk.1.1.2, hk.1.2⟩⟩⟩⟩)⟩
                              have n6_ : Aside0 (Kd.R k52 52 ((w633.setCell ⟨gb427, 0, none⟩ (.slice Ao634 t420.length co634)).setCell ⟨gb427, 1, none⟩ (.slice Ao641 t423.length co641)) w.heap.size (fun k_ => some k_ ≠ (.slice Ao593 t378.length co593 : Value).ownBlock ∧ some k_ ≠ (.slice Ao598 t385.length co598 : Value).ownBlock ∧ some k_ ≠ (.slice Ao605 t393.length co605 : Value).ownBlock ∧ some k_ ≠ (.slice Ao621 t409.length co621 : Value).ownBlock ∧ some k_ ≠ (.slice Ao634 t420.length co634 : Value).ownBlock) (.slice Ao613 t401.length co613) t401) := ⟨by (with_reducible repeat (first | apply Kd.R_alloc | apply Kd.R_drewN | apply Kd.R_drew)); exact Kd.R_mono (Kd.R_far (p := ⟨gb427, 1, none⟩) (Kd.R_far (p := ⟨gb427, 0, none⟩) (Kd.R_types HO403.out BK427.out (by decide)) (fun _ hk => hk.2) (.slice Ao634 t420.length co634)) (fun _ hk => hk.2) (.slice Ao641 t423.length co641)) (fun _ hk => ⟨hk.1.1.1.1.1.2, ⟨hk.1.1.1.1.2, ⟨hk.1.1.1.2, ⟨hk.1.1.2, hk.1.2⟩⟩⟩⟩)⟩
                              have n7_ : Aside0 (Kd.R k54 54 ((w633.setCell ⟨gb427, 0, none⟩ (.slice Ao634 t420.length co634)).setCell ⟨gb427, 1, none⟩ (.slice Ao641 t423.length co641)) w.heap.size (fun k_ => some k_ ≠ (.slice Ao595 t381.length co595 : Value).ownBlock ∧ some k_ ≠ (.slice Ao601 t388.length co601 : Value).ownBlock ∧ some k_ ≠ (.slice Ao609 t396.length co609 : Value).ownBlock ∧ some k_ ≠ (.slice Ao627 t412.length co627 : Value).ownBlock ∧ some k_ ≠ (.slice Ao641 t423.length co641 : Value).ownBlock) (.slice Ao618 t404.length co618) t404) := ⟨by (with_reducible repeat (first | apply Kd.R_alloc | apply Kd.R_drewN | apply Kd.R_drew)); exact Kd.R_mono (Kd.R_far (p := ⟨gb427, 1, none⟩) (Kd.R_far (p := ⟨gb427, 0, none⟩) (Kd.R_types HO406.out BK427.out (by decide)) (fun _ hk => hk.2) (.slice Ao634 t420.length co634)) (fun _ hk => hk.2) (.slice Ao641 t423.length co641)) (fun _ hk => ⟨hk.1.1.1.1.1.2, ⟨hk.1.1.1.1.2, ⟨hk.1.1.1.2, ⟨hk.1.1.2, hk.1.2⟩⟩⟩⟩)⟩
                              have n8_ : Aside0 (Kd.R k52 52 ((w633.setCell ⟨gb427, 0, none⟩ (.slice Ao634 t420.length co634)).setCell ⟨gb427, 1, none⟩ (.slice Ao641 t423.length co641)) w.heap.size (fun k_ => some k_ ≠ (.slice Ao593 t378.length co593 : Value).ownBlock ∧ some k_ ≠ (.slice Ao598 t385.length co598 : Value).ownBlock ∧ some k_ ≠ (.slice Ao605 t393.length co605 : Value).ownBlock ∧ some k_ ≠ (.slice Ao613 t401.length co613 : Value).ownBlock ∧ some k_ ≠ (.slice Ao634 t420.length co634 : Value).ownBlock) (.slice Ao621 t409.length co621) t409) := ⟨by (with_reducible repeat (first | apply Kd.R_alloc | apply Kd.R_drewN | apply Kd.R_drew)); exact Kd.R_mono (Kd.R_far (p := ⟨gb427, 1, none⟩) (Kd.R_far (p := ⟨gb427, 0, none⟩) (Kd.R_types HO411.out BK427.out (by decide)) (fun _ hk => hk.2) (.slice Ao634 t420.length co634)) (fun _ hk => hk.2) (.slice Ao641 t423.length co641)) (fun _ hk => ⟨hk.1.1.1.1.1.2, ⟨hk.1.1.1.1.2, ⟨hk.1.1.1.2, ⟨hk.1.1.2, hk.1.2⟩⟩⟩⟩)⟩
                              have n9_ : Aside0 (Kd.R k54 54 ((w633.setCell ⟨gb427, 0, none⟩ (.slice Ao634 t420.length co634)).setCell ⟨gb427, 1, none⟩ (.slice Ao641 t423.length co641)) w.heap.size (fun k_ => some k_ ≠ (.slice Ao595 t381.length co595 : Value).ownBlock ∧ some k_ ≠ (.slice Ao601 t388.length co601 : Value).ownBlock ∧ some k_ ≠ (.slice Ao609 t396.length co609 : Value).ownBlock ∧ some k_ ≠ (.slice Ao618 t404.length co618 : Value).ownBlock ∧ some k_ ≠ (.slice Ao641 t423.length co641 : Value).ownBlock) (.slice Ao627 t412.length co627) t412) := ⟨by (with_reducible repeat (first | apply Kd.R_alloc | apply Kd.R_drewN | apply Kd.R_drew)); exact Kd.R_mono (Kd.R_far (p := ⟨gb427, 1, none⟩) (Kd.R_far (p := ⟨gb427, 0, none⟩) (Kd.R_types HO414.out BK427.out (by decide)) (fun _ hk => hk.2) (.slice Ao634 t420.length co634)) (fun _ hk => hk.2) (.slice Ao641 t423.length co641)) (fun _ hk => ⟨hk.1.1.1.1.1.2, ⟨hk.1.1.1.1.2, ⟨hk.1.1.1.2, ⟨hk.1.1.2, hk.1.2⟩⟩⟩⟩)⟩
                              have n10_ : Aside0 (Kd.R k43 43 ((w633.setCell ⟨gb427, 0, none⟩ (.slice Ao634 t420.length co634)).setCell ⟨gb427, 1, none⟩ (.slice Ao641 t423.length co641)) w.heap.size (fun _ => True) (.slice Ao631 y417.length co631) y417) := ⟨by (with_reducible repeat (first | apply Kd.R_alloc | apply Kd.R_drewN | apply Kd.R_drew)); exact Kd.R_mono (Kd.R_far (p := ⟨gb427, 1, none⟩) (Kd.R_far (p := ⟨gb427, 0, none⟩) (Kd.R_types HO419.out BK427.out (by decide)) (fun _ hk => hk.2) (.slice Ao634 t420.length co634)) (fun _ hk => hk.2) (.slice Ao641 t423.length co641)) (fun _ hk => trivial)⟩
                              have n11_ : Aside0 (Kd.R k52 52 ((w633.setCell ⟨gb427, 0, none⟩ (.slice Ao634 t420.length co634)).setCell ⟨gb427, 1, none⟩ (.slice Ao641 t423.length co641)) w.heap.size (fun k_ => some k_ ≠ (.slice Ao593 t378.length co593 : Value).ownBlock ∧ some k_ ≠ (.slice Ao598 t385.length co598 : Value).ownBlock ∧ some k_ ≠ (.slice Ao605 t393.length co605 : Value).ownBlock ∧ some k_ ≠ (.slice Ao613 t401.length co613 : Value).ownBlock ∧ some k_ ≠ (.slice Ao621 t409.length co621 : Value).ownBlock) (.slice Ao634 t420.length co634) t420) := ⟨by (with_reducible repeat (first | apply Kd.R_alloc | apply Kd.R_drewN | apply Kd.R_drew)); exact Kd.R_mono (Kd.R_far (p := ⟨gb427, 1, none⟩) (Kd.R_far (p := ⟨gb427, 0, none⟩) (Kd.R_types HO422.out BK427.out (by decide)) (fun _ hk => hk.2) (.slice Ao634 t420.length co634)) (fun _ hk => hk.2) (.slice Ao641 t423.length co641)) (fun _ hk => ⟨hk.1.1.1.1.1.2, ⟨hk.1.1.1.1.2, ⟨hk.1.1.1.2, ⟨hk.1.1.2, hk.1.2⟩⟩⟩⟩)⟩
                              have n12_ : Aside0 (Kd.R k54 54 ((w633.setCell ⟨gb427, 0, none⟩ (.slice Ao634 t420.length co634)).setCell ⟨gb427, 1, none⟩ (.slice Ao641 t423.length co641)) w.heap.size (fun k_ => some k_ ≠ (.slice Ao595 t381.length co595 : Value).ownBlock ∧ some k_ ≠ (.slice Ao601 t388.length co601 : Value).ownBlock ∧ some k_ ≠ (.slice Ao609 t396.length co609 : Value).ownBlock ∧ some k_ ≠ (.slice Ao618 t404.length co618 : Value).ownBlock ∧ some k_ ≠ (.slice Ao627 t412.length co627 : Value).ownBlock) (.slice Ao641 t423.length co641) t423) := ⟨by (with_reducible repeat (first | apply Kd.R_alloc | apply Kd.R_drewN | apply Kd.R_drew)); exact Kd.R_mono (Kd.R_far (p := ⟨gb427, 1, none⟩) (Kd.R_far (p := ⟨gb427, 0, none⟩) (Kd.R_types HO425.out BK427.out (by decide)) (fun _ hk => hk.2) (.slice Ao634 t420.length co634)) (fun _ hk => hk.2) (.slice Ao641 t423.length co641)) (fun _ hk => ⟨hk.1.1.1.1.1.2, ⟨hk.1.1.1.1.2, ⟨hk.1.1.1.2, ⟨hk.1.1.2, hk.1.2⟩⟩⟩⟩)⟩
                              have n13_ : Aside0 (((w633.setCell ⟨gb427, 0, none⟩ (.slice Ao634 t420.length co634)).setCell ⟨gb427, 1, none⟩ (.slice Ao641 t423.length co641)).heap[gb384]? = some (.cells #[.slice Ao593 t378.length co593, .slice Ao595 t381.length co595] 25 (0, 0))) := ⟨by (with_reducible repeat (first | refine blk_drewN ?_ _ | refine blk_drew ?_ | refine blk_alloc ?_ _)); refine blk_far ?_ NB384_427.out _; (with_reducible repeat (first | refine blk_drewN ?_ _ | refine blk_drew ?_ | refine blk_alloc ?_ _)); refine blk_far ?_ NB384_427.out _; (with_reducible repeat (first | refine blk_drewN ?_ _ | refine blk_drew ?_ | refine blk_alloc ?_ _)); exact BK384.out⟩
                              have n14_ : Aside0 (((w633.setCell ⟨gb427, 0, none⟩ (.slice Ao634 t420.length co634)).setCell ⟨gb427, 1, none⟩ (.slice Ao641 t423.length co641)).heap[gb392]? = some (.cells #[.slice Ao598 t385.length co598, .slice Ao601 t388.length co601] 25 (0, 0))) := ⟨by (with_reducible repeat (first | refine blk_drewN ?_ _ | refine blk_drew ?_ | refine blk_alloc ?_ _)); refine blk_far ?_ NB392_427.out _; (with_reducible repeat (first | refine blk_drewN ?_ _ | refine blk_drew ?_ | refine blk_alloc ?_ _)); refine blk_far ?_ NB392_427.out _; (with_reducible repeat (first | refine blk_drewN ?_ _ | refine blk_drew ?_ | refine blk_alloc ?_ _)); exact BK392.out⟩
                              have n15_ : Aside0 (((w633.setCell ⟨gb427, 0, none⟩ (.slice Ao634 t420.length co634)).setCell ⟨gb427, 1, none⟩ (.slice Ao641 t423.length co641)).heap[gb400]? = some (.cells #[.slice Ao605 t393.length co605, .slice Ao609 t396.length co609] 25 (0, 0))) := ⟨by (with_reducible repeat (first | refine blk_drewN ?_ _ | refine blk_drew ?_ | refine blk_alloc ?_ _)); refine blk_far ?_ NB400_427.out _; (with_reducible repeat (first | refine blk_drewN ?_ _ | refine blk_drew ?_ | refine blk_alloc ?_ _)); refine blk_far ?_ NB400_427.out _; (with_reducible repeat (first | refine blk_drewN ?_ _ | refine blk_drew ?_ | refine blk_alloc ?_ _)); exact BK400.out⟩
                              have n16_ : Aside0 (((w633.setCell ⟨gb427, 0, none⟩ (.slice Ao634 t420.length co634)).setCell ⟨gb427, 1, none⟩ (.slice Ao641 t423.length co641)).heap[gb408]? = some (.cells #[.slice Ao613 t401.length co613, .slice Ao618 t404.length co618] 25 (0, 0))) := ⟨by (with_reducible repeat (first | refine blk_drewN ?_ _ | refine blk_drew ?_ | refine blk_alloc ?_ _)); refine blk_far ?_ NB408_427.out _; (with_reducible repeat (first | refine blk_drewN ?_ _ | refine blk_drew ?_ | refine blk_alloc ?_ _)); refine blk_far ?_ NB408_427.out _; (with_reducible repeat (first | refine blk_drewN ?_ _ | refine blk_drew ?_ | refine blk_alloc ?_ _)); exact BK408.out⟩
                              have n17_ : Aside0 (((w633.setCell ⟨gb427, 0, none⟩ (.slice Ao634 t420.length co634)).setCell ⟨gb427, 1, none⟩ (.slice Ao641 t423.length co641)).heap[gb416]? = some (.cells #[.slice Ao621 t409.length co621, .slice Ao627 t412.length co627] 25 (0, 0))) := ⟨by (with_reducible repeat (first | refine blk_drewN ?_ _ | refine blk_drew ?_ | refine blk_alloc ?_ _)); refine blk_far ?_ NB416_427.out _; (with_reducible repeat (first | refine blk_drewN ?_ _ | refine blk_drew ?_ | refine blk_alloc ?_ _)); refine blk_far ?_ NB416_427.out _; (with_reducible repeat (first | refine blk_drewN ?_ _ | refine blk_drew ?_ | refine blk_alloc ?_ _)); exact BK416.out⟩
                              have n18_ : Aside0 (((w633.setCell ⟨gb427, 0, none⟩ (.slice Ao634 t420.length co634)).setCell ⟨gb427, 1, none⟩ (.slice Ao641 t423.length co641)).heap[gb427]? = some (.cells #[.slice Ao634 t420.length co634, .slice Ao641 t423.length co641] 25 (0, 0))) := ⟨by (with_reducible repeat (first | refine blk_drewN ?_ _ | refine blk_drew ?_ | refine blk_alloc ?_ _)); refine blk_put (cs := #[.slice Ao634 t420.length co634, .slice none 0 0]) ?_ 1 _ rfl; (with_reducible repeat (first | refine blk_drewN ?_ _ | refine blk_drew ?_ | refine blk_alloc ?_ _)); refine blk_put (cs := #[.slice none 0 0, .slice none 0 0]) ?_ 0 _ rfl; (with_reducible repeat (first | refine blk_drewN ?_ _ | refine blk_drew ?_ | refine blk_alloc ?_ _)); exact BK427.out⟩
                              have n19_ : Aside0 (Below w.heap.size w ((w633.setCell ⟨gb427, 0, none⟩ (.slice Ao634 t420.length co634)).setCell ⟨gb427, 1, none⟩ (.slice Ao641 t423.length co641))) := ⟨by repeat (first | (with_reducible first | exact HB.out | apply below_alloc | apply pw_below_drewN | apply below_drew1 | refine below_set ?_ GE384.out | refine below_set ?_ GE392.out | refine below_set ?_ GE400.out | refine below_set ?_ GE408.out | refine below_set ?_ GE416.out | refine below_set ?_ GE427.out) | exact HB.out)⟩
                              (try clear HO380)
                              (try clear HO383)
                              (try clear HO387)
                              (try clear HO390)
                              (try clear HO395)
                              (try clear HO398)
                              (try clear HO403)
                              (try clear HO406)
                              (try clear HO411)
                              (try clear HO414)
                              (try clear HO419)
                              (try clear HO422)
                              (try clear HO425)
                              (try clear BK384)
                              (try clear BK392)
                              (try clear BK400)
                              (try clear BK408)
                              (try clear BK416)
                              (try clear BK427)
                              (try clear HB)
                              generalize ((w633.setCell ⟨gb427, 0, none⟩ (.slice Ao634 t420.length co634)).setCell ⟨gb427, 1, none⟩ (.slice Ao641 t423.length co641)) = w642 at n0_ n1_ n2_ n3_ n4_ n5_ n6_ n7_ n8_ n9_ n10_ n11_ n12_ n13_ n14_ n15_ n16_ n17_ n18_ n19_ ⊢
                              have HO380 := n0_
                              have HO383 := n1_
                              have HO387 := n2_
                              have HO390 := n3_
                              have HO395 := n4_
                              have HO398 := n5_
                              have HO403 := n6_
                              have HO406 := n7_
                              have HO411 := n8_
                              have HO414 := n9_
                              have HO419 := n10_
                              have HO422 := n11_
                              have HO425 := n12_
                              have BK384 := n13_
                              have BK392 := n14_
                              have BK400 := n15_
                              have BK408 := n16_
                              have BK416 := n17_
                              have BK427 := n18_
                              have HB := n19_
                              clear n0_ n1_ n2_ n3_ n4_ n5_ n6_ n7_ n8_ n9_ n10_ n11_ n12_ n13_ n14_ n15_ n16_ n17_ n18_ n19_
                              have n0_ := Aside0.mk (Kd.R_drew HO380.out)
                              have n1_ := Aside0.mk (Kd.R_drew HO383.out)
                              have n2_ := Aside0.mk (Kd.R_drew HO387.out)
                              have n3_ := Aside0.mk (Kd.R_drew HO390.out)
                              have n4_ := Aside0.mk (Kd.R_drew HO395.out)
                              have n5_ := Aside0.mk (Kd.R_drew HO398.out)
                              have n6_ := Aside0.mk (Kd.R_drew HO403.out)
                              have n7_ := Aside0.mk (Kd.R_drew HO406.out)
                              have n8_ := Aside0.mk (Kd.R_drew HO411.out)
                              have n9_ := Aside0.mk (Kd.R_drew HO414.out)
                              have n10_ := Aside0.mk (Kd.R_drew HO419.out)
                              have n11_ := Aside0.mk (Kd.R_drew HO422.out)
                              have n12_ := Aside0.mk (Kd.R_drew HO425.out)
                              have n13_ := Aside0.mk (blk_drew BK384.out)
                              have n14_ := Aside0.mk (blk_drew BK392.out)
                              have n15_ := Aside0.mk (blk_drew BK400.out)
                              have n16_ := Aside0.mk (blk_drew BK408.out)
                              have n17_ := Aside0.mk (blk_drew BK416.out)
                              have n18_ := Aside0.mk (blk_drew BK427.out)
                              have n19_ := Aside0.mk (below_drew1 HB.out)
                              (try clear HO380)
                              (try clear HO383)
                              (try clear HO387)
                              (try clear HO390)
                              (try clear HO395)
                              (try clear HO398)
                              (try clear HO403)
                              (try clear HO406)
                              (try clear HO411)
                              (try clear HO414)
                              (try clear HO419)
                              (try clear HO422)
                              (try clear HO425)
                              clear BK384
                              clear BK392
                              clear BK400
                              clear BK408
                              clear BK416
                              clear BK427
                              clear HB
                              have HO380 := n0_
                              have HO383 := n1_
                              have HO387 := n2_
                              have HO390 := n3_
                              have HO395 := n4_
                              have HO398 := n5_
                              have HO403 := n6_
                              have HO406 := n7_
                              have HO411 := n8_
                              have HO414 := n9_
                              have HO419 := n10_
                              have HO422 := n11_
                              have HO425 := n12_
                              have BK384 := n13_
                              have BK392 := n14_
                              have BK400 := n15_
                              have BK408 := n16_
                              have BK416 := n17_
                              have BK427 := n18_
                              have HB := n19_
                              clear n0_ n1_ n2_ n3_ n4_ n5_ n6_ n7_ n8_ n9_ n10_ n11_ n12_ n13_ n14_ n15_ n16_ n17_ n18_ n19_
                              refine start_ (n := 8) (S := fun w' => w'.cell? ⟨gb392, 0, none⟩ = some (.slice Ao598 t385.length co598) ∧ w'.cell? ⟨gb392, 1, none⟩ = some (.slice Ao601 t388.length co601) ∧ w'.cell? ⟨gb400, 0, none⟩ = some (.slice Ao605 t393.length co605) ∧ w'.cell? ⟨gb400, 1, none⟩ = some (.slice Ao609 t396.length co609)) (ds := []) #[false, false, false, false, false, false, false, false] (by kernel_rfl) rfl rfl ⟨(blk_cell BK392.out 0).trans rfl, (blk_cell BK392.out 1).trans rfl, (blk_cell BK400.out 0).trans rfl, (blk_cell BK400.out 1).trans rfl⟩ (fun hHeld => ?_); refine with_tabW postroomlaw5_EntryPartsB.tab10 postroomlaw5_EntryPartsB.bits10 (fun HT_ HW_ => ?_)
                              generalize w642.drew = w643 at HO380 HO383 HO387 HO390 HO395 HO398 HO403 HO406 HO411 HO414 HO419 HO422 HO425 BK384 BK392 BK400 BK408 BK416 BK427 HB hHeld ⊢
                              refine pure_ (i := 1) (N := some 65) (v := ?_) (a' := ?_) #[false, true, false, false, false, false, false, false] rfl rfl (any_of HT_.out (by kernel_rfl)) (fun _ _ _ h => h) (Or.inl ⟨by rfl, ?_⟩) ?_ ?_
                              rotate_left
                              · intro w'
                                go_simp
                                with_reducible rfl
                              rotate_left
                              · simp only [Act.put, List.setIfInBounds_toArray, List.set_cons_zero, List.set_cons_succ, i64_w, i32_w]
                                rfl
                              refine pure_ (i := 4) (N := some 68) (v := ?_) (a' := ?_) #[false, true, false, false, true, false, false, false] rfl rfl (any_of HT_.out (by kernel_rfl)) (fun _ _ _ h => h) (Or.inl ⟨by rfl, ?_⟩) ?_ ?_
                              rotate_left
                              · intro w'
                                go_simp
                                with_reducible rfl
                              rotate_left
                              · simp only [Act.put, List.setIfInBounds_toArray, List.set_cons_zero, List.set_cons_succ, i64_w, i32_w]
                                rfl
                              refine take_ (i := 2) (N := some 66) (v := ?_) (a' := ?_) #[false, true, true, false, true, false, false, false] rfl rfl (take_ofW HT_.out HW_.out (by kernel_rfl)) (fun _ _ _ h => h) (Or.inl ⟨by rfl, ?_⟩) hHeld ?_ ?_
                              rotate_left
                              · rintro w' ⟨s0, s1, s2, s3⟩
                                go_simp
                                with_reducible rfl
                              rotate_left
                              · simp only [Act.put, List.setIfInBounds_toArray, List.set_cons_zero, List.set_cons_succ, i64_w, i32_w]
                                rfl
                              refine take_ (i := 5) (N := some 69) (v := ?_) (a' := ?_) #[false, true, true, false, true, true, false, false] rfl rfl (take_ofW HT_.out HW_.out (by kernel_rfl)) (fun _ _ _ h => h) (Or.inl ⟨by rfl, ?_⟩) hHeld ?_ ?_
                              rotate_left
                              · rintro w' ⟨s0, s1, s2, s3⟩
                                go_simp
                                with_reducible rfl
                              rotate_left
                              · simp only [Act.put, List.setIfInBounds_toArray, List.set_cons_zero, List.set_cons_succ, i64_w, i32_w]
                                rfl
                              refine one_ (i := 0) (N := some 64) #[true, true, true, false, true, true, false, false] rfl rfl (one_of HT_.out (by kernel_rfl)) (by decide) (fun K hK => ?_)
                              refine Kd.R_lit_step k54 _ 54 ?hg (N := 64) ?hd (xs := ([] : List (S54))) (inner := []) (ok := fun _ => True) (okp := fun _ => True) ?hr ?hp (fun _ hk => hk) trivial (Below.refl _ _) (Nat.le_refl _) (by simp) ?_; (case hd => rfl); (case hg => rfl); (case hr => first | (go_simp; done) | (go_simp; rfl)); (case hp => exact (Reps.none _ _))
                              intro v429 w644 ho645 hb hg_ hnew_
                              clear hg_ hnew_
                              (first | rw [← Ny428.out] at ho645 | (simp only [Int.reduceToNat] at ho645; rw [← Ny428.out] at ho645))
                              have n0_ := Aside0.mk (Kd.R_below zPtB_11 hb)
                              have n1_ := Aside0.mk (Kd.R_elder' zPtB_5 (Kd.R_base ho645) hb)
                              have n2_ := Aside0.mk (Kd.R_below zPtB_16 hb)
                              have n3_ := Aside0.mk (Kd.R_elder' zPtB_8 (Kd.R_base ho645) hb)
                              have n4_ := Aside0.mk (Kd.R_below zPtB_18 hb)
                              have n5_ := Aside0.mk (Kd.R_elder' zPtB_12 (Kd.R_base ho645) hb)
                              have n6_ := Aside0.mk (Kd.R_below zPtB_17 hb)
                              have n7_ := Aside0.mk (Kd.R_elder' zPtB_9 (Kd.R_base ho645) hb)
                              have n8_ := Aside0.mk (Kd.R_below zPtB_19 hb)
                              have n9_ := Aside0.mk (Kd.R_elder' zPtB_13 (Kd.R_base ho645) hb)
                              have n10_ := Aside0.mk (Kd.R_below zPtB_35 hb)
                              have n11_ := Aside0.mk (Kd.R_below zPtB_36 hb)
                              have n12_ := Aside0.mk (Kd.R_elder' zPtB_23 (Kd.R_base ho645) hb)
                              have n13_ := Aside0.mk (Kd.R_lower (Kd.R_new' (Kd.R_new' (Kd.R_new' (Kd.R_new' (Kd.R_new' (Kd.R_new' ho645 (Kd.R_lt zPtB_5)) (Kd.R_lt zPtB_8)) (Kd.R_lt zPtB_12)) (Kd.R_lt zPtB_9)) (Kd.R_lt zPtB_13)) (Kd.R_lt zPtB_23)) (below_size zPtB_0))
                              have n14_ := Aside0.mk (blk_below (g := gb384) (o := .cells #[.slice Ao593 t378.length co593, .slice Ao595 t381.length co595] 25 (0, 0)) zPtB_1 hb)
                              have n15_ := Aside0.mk (blk_below (g := gb392) (o := .cells #[.slice Ao598 t385.length co598, .slice Ao601 t388.length co601] 25 (0, 0)) zPtB_2 hb)
                              have n16_ := Aside0.mk (blk_below (g := gb400) (o := .cells #[.slice Ao605 t393.length co605, .slice Ao609 t396.length co609] 25 (0, 0)) zPtB_4 hb)
                              have n17_ := Aside0.mk (blk_below (g := gb408) (o := .cells #[.slice Ao613 t401.length co613, .slice Ao618 t404.length co618] 25 (0, 0)) zPtB_6 hb)
                              have n18_ := Aside0.mk (blk_below (g := gb416) (o := .cells #[.slice Ao621 t409.length co621, .slice Ao627 t412.length co627] 25 (0, 0)) zPtB_14 hb)
                              have n19_ := Aside0.mk (blk_below (g := gb427) (o := .cells #[.slice Ao634 t420.length co634, .slice Ao641 t423.length co641] 25 (0, 0)) zPtB_25 hb)
                              have n20_ := Aside0.mk (below_step zPtB_0 hb)
                              (try clear HO380)
                              (try clear HO383)
                              (try clear HO387)
                              (try clear HO390)
                              (try clear HO395)
                              (try clear HO398)
                              (try clear HO403)
                              (try clear HO406)
                              (try clear HO411)
                              (try clear HO414)
                              (try clear HO419)
                              (try clear HO422)
                              (try clear HO425)
                              clear BK384
                              clear BK392
                              clear BK400
                              clear BK408
                              clear BK416
                              clear BK427
                              clear HB
                              have HO380 := n0_
                              have HO383 := n1_
                              have HO387 := n2_
                              have HO390 := n3_
                              have HO395 := n4_
                              have HO398 := n5_
                              have HO403 := n6_
                              have HO406 := n7_
                              have HO411 := n8_
                              have HO414 := n9_
                              have HO419 := n10_
                              have HO422 := n11_
                              have HO425 := n12_
                              have HO430 := n13_
                              have BK384 := n14_
                              have BK392 := n15_
                              have BK400 := n16_
                              have BK408 := n17_
                              have BK416 := n18_
                              have BK427 := n19_
                              have HB := n20_
                              clear n0_ n1_ n2_ n3_ n4_ n5_ n6_ n7_ n8_ n9_ n10_ n11_ n12_ n13_ n14_ n15_ n16_ n17_ n18_ n19_ n20_
                              clear hb ho645
                              refine hK.out _ _ ⟨(blk_cell BK392.out 0).trans rfl, (blk_cell BK392.out 1).trans rfl, (blk_cell BK400.out 0).trans rfl, (blk_cell BK400.out 1).trans rfl⟩ (fun hHeld => ?_)
                              clear hK K
                              refine norm_ (a' := ?_) ?_ ?_
                              rotate_left
                              · show Act.put _ (some 64) _ = _
                                simp only [Act.put, List.setIfInBounds_toArray, List.set_cons_zero, List.set_cons_succ, i64_w, i32_w]
                                rfl
                              refine one_ (i := 3) (N := some 67) #[true, true, true, true, true, true, false, false] rfl rfl (one_of HT_.out (by kernel_rfl)) (by decide) (fun K hK => ?_)
                              refine Kd.R_append_rows_step k54 (w0 := w) w.heap.size (by rfl) (.tmp 64) (.tmp 66) 23 54 (.agg #[(.int .u64 0), (.int .i64 0)]) 16 rfl Tryz.underlying23 info54 rfl (by decide) (by omega) v429 y428 t388 _ _ _ (fun k_ => some k_ ≠ (.slice Ao595 t381.length co595 : Value).ownBlock ∧ some k_ ≠ (.slice Ao601 t388.length co601 : Value).ownBlock ∧ some k_ ≠ (.slice Ao609 t396.length co609 : Value).ownBlock ∧ some k_ ≠ (.slice Ao618 t404.length co618 : Value).ownBlock ∧ some k_ ≠ (.slice Ao627 t412.length co627 : Value).ownBlock ∧ some k_ ≠ (.slice Ao641 t423.length co641 : Value).ownBlock) (fun _ => False) rfl rfl ?aO ?aR (fun _ _ h => h) (fun _ h => h.elim) ?aF ?aB ?aS ?aL ?_
                              (case aR => repeat (first | exact (Kd.R_reads' HO390.out).2.2 | (with_reducible refine Kd.C_alloc ?_ _) | (with_reducible refine Kd.C_drewN ?_ _) | (with_reducible refine Kd.C_drew ?_)))
                              (case aB => exact zPtB_0)
                              (case aF => exact (fun k_ hk => ⟨Kd.fresh' (Kd.R_lt zPtB_5) k_ hk, Kd.fresh' (Kd.R_lt zPtB_8) k_ hk, Kd.fresh' (Kd.R_lt zPtB_12) k_ hk, Kd.fresh' (Kd.R_lt zPtB_9) k_ hk, Kd.fresh' (Kd.R_lt zPtB_13) k_ hk, Kd.fresh' (Kd.R_lt zPtB_23) k_ hk⟩))
                              (case aO => exact (by (with_reducible repeat (first | apply Kd.R_alloc | apply Kd.R_drewN | apply Kd.R_drew)); exact Kd.R_mono HO430.out (fun _ hk => ⟨hk.1.1.1.1.1.2, ⟨hk.1.1.1.1.2, ⟨hk.1.1.1.2, ⟨hk.1.1.2, ⟨hk.1.2, hk.2⟩⟩⟩⟩⟩)))
                              (case aS => exact (below_size zPtB_0))
                              (case aL => have := LMc16.out; omega)
                              intro v432 w646 ho hb hg hat
                              rw [← Ny431.out] at ho
                              have n0_ := Aside0.mk (Kd.R_over' zPtB_11 (Kd.R_typed zPtB_34) (by decide) hg)
                              have n1_ := Aside0.mk (Kd.R_after (ok := (fun k_ => some k_ ≠ (.slice Ao601 t388.length co601 : Value).ownBlock ∧ some k_ ≠ (.slice Ao609 t396.length co609 : Value).ownBlock ∧ some k_ ≠ (.slice Ao618 t404.length co618 : Value).ownBlock ∧ some k_ ≠ (.slice Ao627 t412.length co627 : Value).ownBlock ∧ some k_ ≠ (.slice Ao641 t423.length co641 : Value).ownBlock)) zPtB_5 hg hat)
                              have n2_ := Aside0.mk (blk_grown (g := gb384) (o := .cells #[.slice Ao593 t378.length co593, .slice Ao595 t381.length co595] 25 (0, 0)) zPtB_1 hg (Kd.R_ne HO430.out BK384.out (by decide)))
                              have n3_ := Aside0.mk (Kd.R_over' zPtB_16 (Kd.R_typed zPtB_34) (by decide) hg)
                              have n4_ := Aside0.mk (Kd.R_after (ok := (fun k_ => some k_ ≠ (.slice Ao595 t381.length co595 : Value).ownBlock ∧ some k_ ≠ (.slice Ao609 t396.length co609 : Value).ownBlock ∧ some k_ ≠ (.slice Ao618 t404.length co618 : Value).ownBlock ∧ some k_ ≠ (.slice Ao627 t412.length co627 : Value).ownBlock ∧ some k_ ≠ (.slice Ao641 t423.length co641 : Value).ownBlock)) zPtB_8 hg hat)
                              have n5_ := Aside0.mk (blk_grown (g := gb392) (o := .cells #[.slice Ao598 t385.length co598, .slice Ao601 t388.length co601] 25 (0, 0)) zPtB_2 hg (Kd.R_ne HO430.out BK392.out (by decide)))
                              have n6_ := Aside0.mk (Kd.R_over' zPtB_18 (Kd.R_typed zPtB_34) (by decide) hg)
                              have n7_ := Aside0.mk (Kd.R_after (ok := (fun k_ => some k_ ≠ (.slice Ao595 t381.length co595 : Value).ownBlock ∧ some k_ ≠ (.slice Ao601 t388.length co601 : Value).ownBlock ∧ some k_ ≠ (.slice Ao618 t404.length co618 : Value).ownBlock ∧ some k_ ≠ (.slice Ao627 t412.length co627 : Value).ownBlock ∧ some k_ ≠ (.slice Ao641 t423.length co641 : Value).ownBlock)) zPtB_12 hg hat)
                              have n8_ := Aside0.mk (blk_grown (g := gb400) (o := .cells #[.slice Ao605 t393.length co605, .slice Ao609 t396.length co609] 25 (0, 0)) zPtB_4 hg (Kd.R_ne HO430.out BK400.out (by decide)))
                              have n9_ := Aside0.mk (Kd.R_over' zPtB_17 (Kd.R_typed zPtB_34) (by decide) hg)
                              have n10_ := Aside0.mk (Kd.R_after (ok := (fun k_ => some k_ ≠ (.slice Ao595 t381.length co595 : Value).ownBlock ∧ some k_ ≠ (.slice Ao601 t388.length co601 : Value).ownBlock ∧ some k_ ≠ (.slice Ao609 t396.length co609 : Value).ownBlock ∧ some k_ ≠ (.slice Ao627 t412.length co627 : Value).ownBlock ∧ some k_ ≠ (.slice Ao641 t423.length co641 : Value).ownBlock)) zPtB_9 hg hat)
                              have n11_ := Aside0.mk (blk_grown (g := gb408) (o := .cells #[.slice Ao613 t401.length co613, .slice Ao618 t404.length co618] 25 (0, 0)) zPtB_6 hg (Kd.R_ne HO430.out BK408.out (by decide)))
                              have n12_ := Aside0.mk (Kd.R_over' zPtB_19 (Kd.R_typed zPtB_34) (by decide) hg)
                              have n13_ := Aside0.mk (Kd.R_after (ok := (fun k_ => some k_ ≠ (.slice Ao595 t381.length co595 : Value).ownBlock ∧ some k_ ≠ (.slice Ao601 t388.length co601 : Value).ownBlock ∧ some k_ ≠ (.slice Ao609 t396.length co609 : Value).ownBlock ∧ some k_ ≠ (.slice Ao618 t404.length co618 : Value).ownBlock ∧ some k_ ≠ (.slice Ao641 t423.length co641 : Value).ownBlock)) zPtB_13 hg hat)
                              have n14_ := Aside0.mk (blk_grown (g := gb416) (o := .cells #[.slice Ao621 t409.length co621, .slice Ao627 t412.length co627] 25 (0, 0)) zPtB_14 hg (Kd.R_ne HO430.out BK416.out (by decide)))
                              have n15_ := Aside0.mk (Kd.R_over' zPtB_35 (Kd.R_typed zPtB_34) (by decide) hg)
                              have n16_ := Aside0.mk (Kd.R_over' zPtB_36 (Kd.R_typed zPtB_34) (by decide) hg)
                              have n17_ := Aside0.mk (Kd.R_after (ok := (fun k_ => some k_ ≠ (.slice Ao595 t381.length co595 : Value).ownBlock ∧ some k_ ≠ (.slice Ao601 t388.length co601 : Value).ownBlock ∧ some k_ ≠ (.slice Ao609 t396.length co609 : Value).ownBlock ∧ some k_ ≠ (.slice Ao618 t404.length co618 : Value).ownBlock ∧ some k_ ≠ (.slice Ao627 t412.length co627 : Value).ownBlock)) zPtB_23 hg hat)
                              have n18_ := Aside0.mk (blk_grown (g := gb427) (o := .cells #[.slice Ao634 t420.length co634, .slice Ao641 t423.length co641] 25 (0, 0)) zPtB_25 hg (Kd.R_ne HO430.out BK427.out (by decide)))
                              have n19_ := Aside0.mk (hb)
                              have n20_ := Aside0.mk (ho)
                              (try clear HO380)
                              (try clear HO383)
                              clear BK384
                              (try clear HO387)
                              (try clear HO390)
                              clear BK392
                              (try clear HO395)
                              (try clear HO398)
                              clear BK400
                              (try clear HO403)
                              (try clear HO406)
                              clear BK408
                              (try clear HO411)
                              (try clear HO414)
                              clear BK416
                              (try clear HO419)
                              (try clear HO422)
                              (try clear HO425)
                              clear BK427
                              clear HB
                              (try clear HO430)
                              have HO380 := n0_
                              have HO383 := n1_
                              have BK384 := n2_
                              have HO387 := n3_
                              have HO390 := n4_
                              have BK392 := n5_
                              have HO395 := n6_
                              have HO398 := n7_
                              have BK400 := n8_
                              have HO403 := n9_
                              have HO406 := n10_
                              have BK408 := n11_
                              have HO411 := n12_
                              have HO414 := n13_
                              have BK416 := n14_
                              have HO419 := n15_
                              have HO422 := n16_
                              have HO425 := n17_
                              have BK427 := n18_
                              have HB := n19_
                              have HO433 := n20_
                              clear n0_ n1_ n2_ n3_ n4_ n5_ n6_ n7_ n8_ n9_ n10_ n11_ n12_ n13_ n14_ n15_ n16_ n17_ n18_ n19_ n20_
                              clear ho hb hg hat
                              refine hK.out _ _ ⟨(blk_cell BK392.out 0).trans rfl, (blk_cell BK392.out 1).trans rfl, (blk_cell BK400.out 0).trans rfl, (blk_cell BK400.out 1).trans rfl⟩ (fun hHeld => ?_)
                              clear hK K
                              refine norm_ (a' := ?_) ?_ ?_
                              rotate_left
                              · show Act.put _ (some 67) _ = _
                                simp only [Act.put, List.setIfInBounds_toArray, List.set_cons_zero, List.set_cons_succ, i64_w, i32_w]
                                rfl
                              refine one_ (i := 6) (N := some 70) #[true, true, true, true, true, true, true, false] rfl rfl (one_of HT_.out (by kernel_rfl)) (by decide) (fun K hK => ?_)
                              refine Kd.R_append_rows_step k54 (w0 := w) w.heap.size (by rfl) (.tmp 67) (.tmp 69) 23 54 (.agg #[(.int .u64 0), (.int .i64 0)]) 16 rfl Tryz.underlying23 info54 rfl (by decide) (by omega) v432 y431 t396 _ _ _ (fun k_ => some k_ ≠ (.slice Ao595 t381.length co595 : Value).ownBlock ∧ some k_ ≠ (.slice Ao601 t388.length co601 : Value).ownBlock ∧ some k_ ≠ (.slice Ao609 t396.length co609 : Value).ownBlock ∧ some k_ ≠ (.slice Ao618 t404.length co618 : Value).ownBlock ∧ some k_ ≠ (.slice Ao627 t412.length co627 : Value).ownBlock ∧ some k_ ≠ (.slice Ao641 t423.length co641 : Value).ownBlock) (fun _ => False) rfl rfl ?aO ?aR (fun _ _ h => h) (fun _ h => h.elim) ?aF ?aB ?aS ?aL ?_
                              (case aR => repeat (first | exact (Kd.R_reads' HO398.out).2.2 | (with_reducible refine Kd.C_alloc ?_ _) | (with_reducible refine Kd.C_drewN ?_ _) | (with_reducible refine Kd.C_drew ?_)))
                              (case aB => exact zPtB_0)
                              (case aF => exact (fun k_ hk => ⟨Kd.fresh' (Kd.R_lt zPtB_5) k_ hk, Kd.fresh' (Kd.R_lt zPtB_8) k_ hk, Kd.fresh' (Kd.R_lt zPtB_12) k_ hk, Kd.fresh' (Kd.R_lt zPtB_9) k_ hk, Kd.fresh' (Kd.R_lt zPtB_13) k_ hk, Kd.fresh' (Kd.R_lt zPtB_23) k_ hk⟩))
                              (case aO => exact zPtB_24)
                              (case aS => exact (below_size zPtB_0))
                              (case aL => have := LMc17.out; omega)
                              intro v435 w647 ho hb hg hat
                              rw [← Ny434.out] at ho
                              have n0_ := Aside0.mk (Kd.R_over' zPtB_11 (Kd.R_typed zPtB_24) (by decide) hg)
                              have n1_ := Aside0.mk (Kd.R_after (ok := (fun k_ => some k_ ≠ (.slice Ao601 t388.length co601 : Value).ownBlock ∧ some k_ ≠ (.slice Ao609 t396.length co609 : Value).ownBlock ∧ some k_ ≠ (.slice Ao618 t404.length co618 : Value).ownBlock ∧ some k_ ≠ (.slice Ao627 t412.length co627 : Value).ownBlock ∧ some k_ ≠ (.slice Ao641 t423.length co641 : Value).ownBlock)) zPtB_5 hg hat)
                              have n2_ := Aside0.mk (blk_grown (g := gb384) (o := .cells #[.slice Ao593 t378.length co593, .slice Ao595 t381.length co595] 25 (0, 0)) zPtB_1 hg (Kd.R_ne HO433.out BK384.out (by decide)))
                              have n3_ := Aside0.mk (Kd.R_over' zPtB_16 (Kd.R_typed zPtB_24) (by decide) hg)
                              have n4_ := Aside0.mk (Kd.R_after (ok := (fun k_ => some k_ ≠ (.slice Ao595 t381.length co595 : Value).ownBlock ∧ some k_ ≠ (.slice Ao609 t396.length co609 : Value).ownBlock ∧ some k_ ≠ (.slice Ao618 t404.length co618 : Value).ownBlock ∧ some k_ ≠ (.slice Ao627 t412.length co627 : Value).ownBlock ∧ some k_ ≠ (.slice Ao641 t423.length co641 : Value).ownBlock)) zPtB_8 hg hat)
                              have n5_ := Aside0.mk (blk_grown (g := gb392) (o := .cells #[.slice Ao598 t385.length co598, .slice Ao601 t388.length co601] 25 (0, 0)) zPtB_2 hg (Kd.R_ne HO433.out BK392.out (by decide)))
                              have n6_ := Aside0.mk (Kd.R_over' zPtB_18 (Kd.R_typed zPtB_24) (by decide) hg)
                              have n7_ := Aside0.mk (Kd.R_after (ok := (fun k_ => some k_ ≠ (.slice Ao595 t381.length co595 : Value).ownBlock ∧ some k_ ≠ (.slice Ao601 t388.length co601 : Value).ownBlock ∧ some k_ ≠ (.slice Ao618 t404.length co618 : Value).ownBlock ∧ some k_ ≠ (.slice Ao627 t412.length co627 : Value).ownBlock ∧ some k_ ≠ (.slice Ao641 t423.length co641 : Value).ownBlock)) zPtB_12 hg hat)
                              have n8_ := Aside0.mk (blk_grown (g := gb400) (o := .cells #[.slice Ao605 t393.length co605, .slice Ao609 t396.length co609] 25 (0, 0)) zPtB_4 hg (Kd.R_ne HO433.out BK400.out (by decide)))
                              have n9_ := Aside0.mk (Kd.R_over' zPtB_17 (Kd.R_typed zPtB_24) (by decide) hg)
                              have n10_ := Aside0.mk (Kd.R_after (ok := (fun k_ => some k_ ≠ (.slice Ao595 t381.length co595 : Value).ownBlock ∧ some k_ ≠ (.slice Ao601 t388.length co601 : Value).ownBlock ∧ some k_ ≠ (.slice Ao609 t396.length co609 : Value).ownBlock ∧ some k_ ≠ (.slice Ao627 t412.length co627 : Value).ownBlock ∧ some k_ ≠ (.slice Ao641 t423.length co641 : Value).ownBlock)) zPtB_9 hg hat)
                              have n11_ := Aside0.mk (blk_grown (g := gb408) (o := .cells #[.slice Ao613 t401.length co613, .slice Ao618 t404.length co618] 25 (0, 0)) zPtB_6 hg (Kd.R_ne HO433.out BK408.out (by decide)))
                              have n12_ := Aside0.mk (Kd.R_over' zPtB_19 (Kd.R_typed zPtB_24) (by decide) hg)
                              have n13_ := Aside0.mk (Kd.R_after (ok := (fun k_ => some k_ ≠ (.slice Ao595 t381.length co595 : Value).ownBlock ∧ some k_ ≠ (.slice Ao601 t388.length co601 : Value).ownBlock ∧ some k_ ≠ (.slice Ao609 t396.length co609 : Value).ownBlock ∧ some k_ ≠ (.slice Ao618 t404.length co618 : Value).ownBlock ∧ some k_ ≠ (.slice Ao641 t423.length co641 : Value).ownBlock)) zPtB_13 hg hat)
                              have n14_ := Aside0.mk (blk_grown (g := gb416) (o := .cells #[.slice Ao621 t409.length co621, .slice Ao627 t412.length co627] 25 (0, 0)) zPtB_14 hg (Kd.R_ne HO433.out BK416.out (by decide)))
                              have n15_ := Aside0.mk (Kd.R_over' zPtB_35 (Kd.R_typed zPtB_24) (by decide) hg)
                              have n16_ := Aside0.mk (Kd.R_over' zPtB_36 (Kd.R_typed zPtB_24) (by decide) hg)
                              have n17_ := Aside0.mk (Kd.R_after (ok := (fun k_ => some k_ ≠ (.slice Ao595 t381.length co595 : Value).ownBlock ∧ some k_ ≠ (.slice Ao601 t388.length co601 : Value).ownBlock ∧ some k_ ≠ (.slice Ao609 t396.length co609 : Value).ownBlock ∧ some k_ ≠ (.slice Ao618 t404.length co618 : Value).ownBlock ∧ some k_ ≠ (.slice Ao627 t412.length co627 : Value).ownBlock)) zPtB_23 hg hat)
                              have n18_ := Aside0.mk (blk_grown (g := gb427) (o := .cells #[.slice Ao634 t420.length co634, .slice Ao641 t423.length co641] 25 (0, 0)) zPtB_25 hg (Kd.R_ne HO433.out BK427.out (by decide)))
                              have n19_ := Aside0.mk (hb)
                              have n20_ := Aside0.mk (ho)
                              (try clear HO380)
                              (try clear HO383)
                              clear BK384
                              (try clear HO387)
                              (try clear HO390)
                              clear BK392
                              (try clear HO395)
                              (try clear HO398)
                              clear BK400
                              (try clear HO403)
                              (try clear HO406)
                              clear BK408
                              (try clear HO411)
                              (try clear HO414)
                              clear BK416
                              (try clear HO419)
                              (try clear HO422)
                              (try clear HO425)
                              clear BK427
                              clear HB
                              (try clear HO433)
                              have HO380 := n0_
                              have HO383 := n1_
                              have BK384 := n2_
                              have HO387 := n3_
                              have HO390 := n4_
                              have BK392 := n5_
                              have HO395 := n6_
                              have HO398 := n7_
                              have BK400 := n8_
                              have HO403 := n9_
                              have HO406 := n10_
                              have BK408 := n11_
                              have HO411 := n12_
                              have HO414 := n13_
                              have BK416 := n14_
                              have HO419 := n15_
                              have HO422 := n16_
                              have HO425 := n17_
                              have BK427 := n18_
                              have HB := n19_
                              have HO436 := n20_
                              clear n0_ n1_ n2_ n3_ n4_ n5_ n6_ n7_ n8_ n9_ n10_ n11_ n12_ n13_ n14_ n15_ n16_ n17_ n18_ n19_ n20_
                              clear ho hb hg hat
                              refine hK.out _ _ ⟨(blk_cell BK392.out 0).trans rfl, (blk_cell BK392.out 1).trans rfl, (blk_cell BK400.out 0).trans rfl, (blk_cell BK400.out 1).trans rfl⟩ (fun hHeld => ?_)
                              clear hK K
                              refine norm_ (a' := ?_) ?_ ?_
                              rotate_left
                              · show Act.put _ (some 70) _ = _
                                simp only [Act.put, List.setIfInBounds_toArray, List.set_cons_zero, List.set_cons_succ, i64_w, i32_w]
                                rfl
                              refine pure_ (i := 7) (N := some 21) (v := ?_) (a' := ?_) #[true, true, true, true, true, true, true, true] rfl rfl (any_of HT_.out (by kernel_rfl)) (fun _ _ _ h => h) (Or.inl ⟨by rfl, ?_⟩) ?_ ?_
                              rotate_left
                              · intro w'
                                go_simp
                                with_reducible rfl
                              rotate_left
                              · simp only [Act.put, List.setIfInBounds_toArray, List.set_cons_zero, List.set_cons_succ, i64_w, i32_w]
                                rfl
                              refine done_ (done_of HT_.out (by kernel_rfl)) ?_
                              try go_wp2
                              have n0_ := Aside0.mk (Kd.R_drew HO380.out)
                              have n1_ := Aside0.mk (Kd.R_drew HO383.out)
                              have n2_ := Aside0.mk (Kd.R_drew HO387.out)
                              have n3_ := Aside0.mk (Kd.R_drew HO390.out)
                              have n4_ := Aside0.mk (Kd.R_drew HO395.out)
                              have n5_ := Aside0.mk (Kd.R_drew HO398.out)
                              have n6_ := Aside0.mk (Kd.R_drew HO403.out)
                              have n7_ := Aside0.mk (Kd.R_drew HO406.out)
                              have n8_ := Aside0.mk (Kd.R_drew HO411.out)
                              have n9_ := Aside0.mk (Kd.R_drew HO414.out)
                              have n10_ := Aside0.mk (Kd.R_drew HO419.out)
                              have n11_ := Aside0.mk (Kd.R_drew HO422.out)
                              have n12_ := Aside0.mk (Kd.R_drew HO425.out)
                              have n13_ := Aside0.mk (Kd.R_drew HO436.out)
                              have n14_ := Aside0.mk (blk_drew BK384.out)
                              have n15_ := Aside0.mk (blk_drew BK392.out)
                              have n16_ := Aside0.mk (blk_drew BK400.out)
                              have n17_ := Aside0.mk (blk_drew BK408.out)
                              have n18_ := Aside0.mk (blk_drew BK416.out)
                              have n19_ := Aside0.mk (blk_drew BK427.out)
                              have n20_ := Aside0.mk (below_drew1 HB.out)
                              (try clear HO380)
                              (try clear HO383)
                              (try clear HO387)
                              (try clear HO390)
                              (try clear HO395)
                              (try clear HO398)
                              (try clear HO403)
                              (try clear HO406)
                              (try clear HO411)
                              (try clear HO414)
                              (try clear HO419)
                              (try clear HO422)
                              (try clear HO425)
                              (try clear HO436)
                              clear BK384
                              clear BK392
                              clear BK400
                              clear BK408
                              clear BK416
                              clear BK427
                              clear HB
                              have HO380 := n0_
                              have HO383 := n1_
                              have HO387 := n2_
                              have HO390 := n3_
                              have HO395 := n4_
                              have HO398 := n5_
                              have HO403 := n6_
                              have HO406 := n7_
                              have HO411 := n8_
                              have HO414 := n9_
                              have HO419 := n10_
                              have HO422 := n11_
                              have HO425 := n12_
                              have HO436 := n13_
                              have BK384 := n14_
                              have BK392 := n15_
                              have BK400 := n16_
                              have BK408 := n17_
                              have BK416 := n18_
                              have BK427 := n19_
                              have HB := n20_
                              clear n0_ n1_ n2_ n3_ n4_ n5_ n6_ n7_ n8_ n9_ n10_ n11_ n12_ n13_ n14_ n15_ n16_ n17_ n18_ n19_ n20_
                              refine start_ (n := 48) (S := fun w' => w'.cell? ⟨gb408, 0, none⟩ = some (.slice Ao613 t401.length co613) ∧ w'.cell? ⟨gb408, 1, none⟩ = some (.slice Ao618 t404.length co618) ∧ w'.cell? ⟨gb384, 0, none⟩ = some (.slice Ao593 t378.length co593) ∧ w'.cell? ⟨gb384, 1, none⟩ = some (.slice Ao595 t381.length co595) ∧ w'.cell? ⟨gb416, 0, none⟩ = some (.slice Ao621 t409.length co621) ∧ w'.cell? ⟨gb416, 1, none⟩ = some (.slice Ao627 t412.length co627) ∧ w'.cell? ⟨gb392, 0, none⟩ = some (.slice Ao598 t385.length co598) ∧ w'.cell? ⟨gb392, 1, none⟩ = some (.slice Ao601 t388.length co601) ∧ w'.cell? ⟨gb400, 0, none⟩ = some (.slice Ao605 t393.length co605) ∧ w'.cell? ⟨gb400, 1, none⟩ = some (.slice Ao609 t396.length co609)) (ds := []) #[false, false, false, false, false, false, false, false, false, false, false, false, false, false, false, false, false, false, false, false, false, false, false, false, false, false, false, false, false, false, false, false, false, false, false, false, false, false, false, false, false, false, false, false, false, false, false, false] (by kernel_rfl) rfl rfl ⟨(blk_cell BK408.out 0).trans rfl, (blk_cell BK408.out 1).trans rfl, (blk_cell BK384.out 0).trans rfl, (blk_cell BK384.out 1).trans rfl, (blk_cell BK416.out 0).trans rfl, (blk_cell BK416.out 1).trans rfl, (blk_cell BK392.out 0).trans rfl, (blk_cell BK392.out 1).trans rfl, (blk_cell BK400.out 0).trans rfl, (blk_cell BK400.out 1).trans rfl⟩ (fun hHeld => ?_); refine with_tabW postroomlaw5_EntryPartsB.tab11 postroomlaw5_EntryPartsB.bits11 (fun HT_ HW_ => ?_)
                              generalize w647.drew = w648 at HO380 HO383 HO387 HO390 HO395 HO398 HO403 HO406 HO411 HO414 HO419 HO422 HO425 HO436 BK384 BK392 BK400 BK408 BK416 BK427 HB hHeld ⊢
                              refine pure_ (i := 0) (N := some 71) (v := ?_) (a' := ?_) #[true, false, false, false, false, false, false, false, false, false, false, false, false, false, false, false, false, false, false, false, false, false, false, false, false, false, false, false, false, false, false, false, false, false, false, false, false, false, false, false, false, false, false, false, false, false, false, false] rfl rfl (any_of HT_.out (by kernel_rfl)) (fun _ _ _ h => h) (Or.inl ⟨by rfl, ?_⟩) ?_ ?_
                              rotate_left
                              · intro w'
                                go_simp
                                with_reducible rfl
                              rotate_left
                              · simp only [Act.put, List.setIfInBounds_toArray, List.set_cons_zero, List.set_cons_succ, i64_w, i32_w]
                                rfl
                              refine pure_ (i := 1) (N := some 72) (v := ?_) (a' := ?_) #[true, true, false, false, false, false, false, false, false, false, false, false, false, false, false, false, false, false, false, false, false, false, false, false, false, false, false, false, false, false, false, false, false, false, false, false, false, false, false, false, false, false, false, false, false, false, false, false] rfl rfl (any_of HT_.out (by kernel_rfl)) (fun _ _ _ h => h) (Or.inl ⟨by rfl, ?_⟩) ?_ ?_
                              rotate_left
                              · intro w'
                                go_simp
                                with_reducible rfl
                              rotate_left
                              · simp only [Act.put, List.setIfInBounds_toArray, List.set_cons_zero, List.set_cons_succ, i64_w, i32_w]
                                rfl
                              refine pure_ (i := 2) (N := some 73) (v := ?_) (a' := ?_) #[true, true, true, false, false, false, false, false, false, false, false, false, false, false, false, false, false, false, false, false, false, false, false, false, false, false, false, false, false, false, false, false, false, false, false, false, false, false, false, false, false, false, false, false, false, false, false, false] rfl rfl (any_of HT_.out (by kernel_rfl)) (fun _ _ _ h => h) (Or.inl ⟨by rfl, ?_⟩) ?_ ?_
                              rotate_left
                              · intro w'
                                go_simp
                                with_reducible rfl
                              rotate_left
                              · simp only [Act.put, List.setIfInBounds_toArray, List.set_cons_zero, List.set_cons_succ, i64_w, i32_w]
                                rfl
                              refine pure_ (i := 3) (N := some 74) (v := ?_) (a' := ?_) #[true, true, true, true, false, false, false, false, false, false, false, false, false, false, false, false, false, false, false, false, false, false, false, false, false, false, false, false, false, false, false, false, false, false, false, false, false, false, false, false, false, false, false, false, false, false, false, false] rfl rfl (any_of HT_.out (by kernel_rfl)) (fun _ _ _ h => h) (Or.inl ⟨by rfl, ?_⟩) ?_ ?_
                              rotate_left
                              · intro w'
                                go_simp
                                with_reducible rfl
                              rotate_left
                              · simp only [Act.put, List.setIfInBounds_toArray, List.set_cons_zero, List.set_cons_succ, i64_w, i32_w]
                                rfl
                              refine pure_ (i := 4) (N := some 75) (v := ?_) (a' := ?_) #[true, true, true, true, true, false, false, false, false, false, false, false, false, false, false, false, false, false, false, false, false, false, false, false, false, false, false, false, false, false, false, false, false, false, false, false, false, false, false, false, false, false, false, false, false, false, false, false] rfl rfl (any_of HT_.out (by kernel_rfl)) (fun _ _ _ h => h) (Or.inl ⟨by rfl, ?_⟩) ?_ ?_
                              rotate_left
                              · intro w'
                                go_simp
                                with_reducible rfl
                              rotate_left
                              · simp only [Act.put, List.setIfInBounds_toArray, List.set_cons_zero, List.set_cons_succ, i64_w, i32_w]
                                rfl
                              refine pure_ (i := 5) (N := some 76) (v := ?_) (a' := ?_) #[true, true, true, true, true, true, false, false, false, false, false, false, false, false, false, false, false, false, false, false, false, false, false, false, false, false, false, false, false, false, false, false, false, false, false, false, false, false, false, false, false, false, false, false, false, false, false, false] rfl rfl (any_of HT_.out (by kernel_rfl)) (fun _ _ _ h => h) (Or.inl ⟨by rfl, ?_⟩) ?_ ?_
                              rotate_left
                              · intro w'
                                go_simp
                                with_reducible rfl
                              rotate_left
                              · simp only [Act.put, List.setIfInBounds_toArray, List.set_cons_zero, List.set_cons_succ, i64_w, i32_w]
                                rfl
                              refine pure_ (i := 6) (N := some 77) (v := ?_) (a' := ?_) #[true, true, true, true, true, true, true, false, false, false, false, false, false, false, false, false, false, false, false, false, false, false, false, false, false, false, false, false, false, false, false, false, false, false, false, false, false, false, false, false, false, false, false, false, false, false, false, false] rfl rfl (any_of HT_.out (by kernel_rfl)) (fun _ _ _ h => h) (Or.inl ⟨by rfl, ?_⟩) ?_ ?_
                              rotate_left
                              · intro w'
                                go_simp
                                with_reducible rfl
                              rotate_left
                              · simp only [Act.put, List.setIfInBounds_toArray, List.set_cons_zero, List.set_cons_succ, i64_w, i32_w]
                                rfl
                              refine pure_ (i := 7) (N := some 78) (v := ?_) (a' := ?_) #[true, true, true, true, true, true, true, true, false, false, false, false, false, false, false, false, false, false, false, false, false, false, false, false, false, false, false, false, false, false, false, false, false, false, false, false, false, false, false, false, false, false, false, false, false, false, false, false] rfl rfl (any_of HT_.out (by kernel_rfl)) (fun _ _ _ h => h) (Or.inl ⟨by rfl, ?_⟩) ?_ ?_
                              rotate_left
                              · intro w'
                                go_simp
                                with_reducible rfl
                              rotate_left
                              · simp only [Act.put, List.setIfInBounds_toArray, List.set_cons_zero, List.set_cons_succ, i64_w, i32_w]
                                rfl
                              refine pure_ (i := 8) (N := some 79) (v := ?_) (a' := ?_) #[true, true, true, true, true, true, true, true, true, false, false, false, false, false, false, false, false, false, false, false, false, false, false, false, false, false, false, false, false, false, false, false, false, false, false, false, false, false, false, false, false, false, false, false, false, false, false, false] rfl rfl (any_of HT_.out (by kernel_rfl)) (fun _ _ _ h => h) (Or.inl ⟨by rfl, ?_⟩) ?_ ?_
                              rotate_left
                              · intro w'
                                go_simp
                                with_reducible rfl
                              rotate_left
                              · simp only [Act.put, List.setIfInBounds_toArray, List.set_cons_zero, List.set_cons_succ, i64_w, i32_w]
                                rfl
                              refine pure_ (i := 9) (N := some 80) (v := ?_) (a' := ?_) #[true, true, true, true, true, true, true, true, true, true, false, false, false, false, false, false, false, false, false, false, false, false, false, false, false, false, false, false, false, false, false, false, false, false, false, false, false, false, false, false, false, false, false, false, false, false, false, false] rfl rfl (any_of HT_.out (by kernel_rfl)) (fun _ _ _ h => h) (Or.inl ⟨by rfl, ?_⟩) ?_ ?_
                              rotate_left
                              · intro w'
                                go_simp
                                with_reducible rfl
                              rotate_left
                              · simp only [Act.put, List.setIfInBounds_toArray, List.set_cons_zero, List.set_cons_succ, i64_w, i32_w]
                                rfl
                              refine pure_ (i := 10) (N := some 81) (v := ?_) (a' := ?_) #[true, true, true, true, true, true, true, true, true, true, true, false, false, false, false, false, false, false, false, false, false, false, false, false, false, false, false, false, false, false, false, false, false, false, false, false, false, false, false, false, false, false, false, false, false, false, false, false] rfl rfl (any_of HT_.out (by kernel_rfl)) (fun _ _ _ h => h) (Or.inl ⟨by rfl, ?_⟩) ?_ ?_
                              rotate_left
                              · intro w'
                                go_simp
                                with_reducible rfl
                              rotate_left
                              · simp only [Act.put, List.setIfInBounds_toArray, List.set_cons_zero, List.set_cons_succ, i64_w, i32_w]
                                rfl
                              refine pure_ (i := 11) (N := some 82) (v := ?_) (a' := ?_) #[true, true, true, true, true, true, true, true, true, true, true, true, false, false, false, false, false, false, false, false, false, false, false, false, false, false, false, false, false, false, false, false, false, false, false, false, false, false, false, false, false, false, false, false, false, false, false, false] rfl rfl (any_of HT_.out (by kernel_rfl)) (fun _ _ _ h => h) (Or.inl ⟨by rfl, ?_⟩) ?_ ?_
                              rotate_left
                              · intro w'
                                go_simp
                                with_reducible rfl
                              rotate_left
                              · simp only [Act.put, List.setIfInBounds_toArray, List.set_cons_zero, List.set_cons_succ, i64_w, i32_w]
                                rfl
                              refine pure_ (i := 12) (N := some 83) (v := ?_) (a' := ?_) #[true, true, true, true, true, true, true, true, true, true, true, true, true, false, false, false, false, false, false, false, false, false, false, false, false, false, false, false, false, false, false, false, false, false, false, false, false, false, false, false, false, false, false, false, false, false, false, false] rfl rfl (any_of HT_.out (by kernel_rfl)) (fun _ _ _ h => h) (Or.inl ⟨by rfl, ?_⟩) ?_ ?_
                              rotate_left
                              · intro w'
                                go_simp
                                with_reducible rfl
                              rotate_left
                              · simp only [Act.put, List.setIfInBounds_toArray, List.set_cons_zero, List.set_cons_succ, i64_w, i32_w]
                                rfl
                              refine pure_ (i := 13) (N := some 84) (v := ?_) (a' := ?_) #[true, true, true, true, true, true, true, true, true, true, true, true, true, true, false, false, false, false, false, false, false, false, false, false, false, false, false, false, false, false, false, false, false, false, false, false, false, false, false, false, false, false, false, false, false, false, false, false] rfl rfl (any_of HT_.out (by kernel_rfl)) (fun _ _ _ h => h) (Or.inl ⟨by rfl, ?_⟩) ?_ ?_
                              rotate_left
                              · intro w'
                                go_simp
                                with_reducible rfl
                              rotate_left
                              · simp only [Act.put, List.setIfInBounds_toArray, List.set_cons_zero, List.set_cons_succ, i64_w, i32_w]
                                rfl
                              refine pure_ (i := 14) (N := some 85) (v := ?_) (a' := ?_) #[true, true, true, true, true, true, true, true, true, true, true, true, true, true, true, false, false, false, false, false, false, false, false, false, false, false, false, false, false, false, false, false, false, false, false, false, false, false, false, false, false, false, false, false, false, false, false, false] rfl rfl (any_of HT_.out (by kernel_rfl)) (fun _ _ _ h => h) (Or.inl ⟨by rfl, ?_⟩) ?_ ?_
                              rotate_left
                              · intro w'
                                go_simp
                                with_reducible rfl
                              rotate_left
                              · simp only [Act.put, List.setIfInBounds_toArray, List.set_cons_zero, List.set_cons_succ, i64_w, i32_w]
                                rfl
                              refine take_ (i := 15) (N := some 86) (v := ?_) (a' := ?_) #[true, true, true, true, true, true, true, true, true, true, true, true, true, true, true, true, false, false, false, false, false, false, false, false, false, false, false, false, false, false, false, false, false, false, false, false, false, false, false, false, false, false, false, false, false, false, false, false] rfl rfl (take_ofW HT_.out HW_.out (by kernel_rfl)) (fun _ _ _ h => h) (Or.inl ⟨by rfl, ?_⟩) hHeld ?_ ?_
                              rotate_left
                              · rintro w' ⟨s0, s1, s2, s3, s4, s5, s6, s7, s8, s9⟩
                                go_simp
                                with_reducible rfl
                              rotate_left
                              · simp only [Act.put, List.setIfInBounds_toArray, List.set_cons_zero, List.set_cons_succ, i64_w, i32_w]
                                rfl
                              refine take_ (i := 16) (N := some 87) (v := ?_) (a' := ?_) #[true, true, true, true, true, true, true, true, true, true, true, true, true, true, true, true, true, false, false, false, false, false, false, false, false, false, false, false, false, false, false, false, false, false, false, false, false, false, false, false, false, false, false, false, false, false, false, false] rfl rfl (take_ofW HT_.out HW_.out (by kernel_rfl)) (fun _ _ _ h => h) (Or.inl ⟨by rfl, ?_⟩) hHeld ?_ ?_
                              rotate_left
                              · rintro w' ⟨s0, s1, s2, s3, s4, s5, s6, s7, s8, s9⟩
                                go_simp
                                with_reducible rfl
                              rotate_left
                              · simp only [Act.put, List.setIfInBounds_toArray, List.set_cons_zero, List.set_cons_succ, i64_w, i32_w]
                                rfl
                              refine one_ (i := 17) (N := some 88) #[true, true, true, true, true, true, true, true, true, true, true, true, true, true, true, true, true, true, false, false, false, false, false, false, false, false, false, false, false, false, false, false, false, false, false, false, false, false, false, false, false, false, false, false, false, false, false, false] rfl rfl (one_of HT_.out (by kernel_rfl)) (by decide) (fun K hK => ?_)
                              refine goes_ Tryz.func20 (by kernel_rfl) rfl #[.agg #[.slice Ao593 t378.length co593, .slice Ao595 t381.length co595]] (by rfl) rfl rfl zPtB_7 ?_
                              with_reducible refine (postroomref5_Canon.calls kj5 _ _ t378 (fun k_ => some k_ = (.slice Ao595 t381.length co595 : Value).ownBlock) _ _ t381 t446 t449 _ ?side1 ?side2 ?side3 A583.out).mono ?_
                              (case side1 => repeat (first | exact (Kd.R_reads' HO380.out).2.2 | (with_reducible refine Kd.C_alloc ?_ _) | (with_reducible refine Kd.C_drewN ?_ _) | (with_reducible refine Kd.C_drew ?_)))
                              (case side2 => exact (Kd.R_reads' HO380.out).2.1)
                              (case side3 => exact Kd.R_V (Kd.R_tight rfl (Kd.R_types (Kd.R_types (Kd.R_types (Kd.R_types (Kd.R_types (Kd.R_types (Kd.R_apart' (Kd.R_apart' (Kd.R_apart' (Kd.R_apart' (Kd.R_apart' (Kd.R_apart' (Kd.R_apart' (HO383.out) (Kd.R_typed HO380.out) (by decide)) (Kd.R_typed HO387.out) (by decide)) (Kd.R_typed HO395.out) (by decide)) (Kd.R_typed HO403.out) (by decide)) (Kd.R_typed HO411.out) (by decide)) (Kd.R_typed HO419.out) (by decide)) (Kd.R_typed HO422.out) (by decide)) BK384.out (by decide)) BK392.out (by decide)) BK400.out (by decide)) BK408.out (by decide)) BK416.out (by decide)) BK427.out (by decide))))
                              rintro e w649 ⟨v447, v450, rfl, ho0, ho1, hb⟩
                              refine ⟨_, rfl, ?_⟩
                              have n1_ := Aside0.mk (Kd.R_below zPtB_5 hb)
                              have n6_ := Aside0.mk (Kd.R_elder' zPtB_17 (Kd.R_base ho0) hb)
                              have n7_ := Aside0.mk (Kd.R_below zPtB_9 hb)
                              have n8_ := Aside0.mk (Kd.R_elder' zPtB_19 (Kd.R_base ho0) hb)
                              have n9_ := Aside0.mk (Kd.R_below zPtB_13 hb)
                              have n13_ := Aside0.mk (Kd.R_below zPtB_49 hb)
                              have n14_ := Aside0.mk (Kd.R_lower (Kd.R_new' (Kd.R_new' (Kd.R_new' (Kd.R_new' (Kd.R_new' (Kd.R_new' (Kd.R_mono (ok' := fun k_ => True) ho0 (fun _ hk_ => trivial)) (Kd.R_lt zPtB_11)) (Kd.R_lt zPtB_16)) (Kd.R_lt zPtB_18)) (Kd.R_lt zPtB_17)) (Kd.R_lt zPtB_19)) (Kd.R_lt zPtB_36)) (below_size zPtB_0))
                              have n15_ := Aside0.mk (Kd.V_lower (Kd.V_mono (ok' := fun k_ => some k_ ≠ (v447 : Value).ownBlock ∧ some k_ ≠ (.slice Ao593 t378.length co593 : Value).ownBlock ∧ some k_ ≠ (.slice Ao598 t385.length co598 : Value).ownBlock ∧ some k_ ≠ (.slice Ao601 t388.length co601 : Value).ownBlock ∧ some k_ ≠ (.slice Ao605 t393.length co605 : Value).ownBlock ∧ some k_ ≠ (.slice Ao609 t396.length co609 : Value).ownBlock ∧ some k_ ≠ (.slice Ao613 t401.length co613 : Value).ownBlock ∧ some k_ ≠ (.slice Ao618 t404.length co618 : Value).ownBlock ∧ some k_ ≠ (.slice Ao621 t409.length co621 : Value).ownBlock ∧ some k_ ≠ (.slice Ao627 t412.length co627 : Value).ownBlock ∧ some k_ ≠ (.slice Ao631 y417.length co631 : Value).ownBlock ∧ some k_ ≠ (.slice Ao634 t420.length co634 : Value).ownBlock ∧ some k_ ≠ (.slice Ao641 t423.length co641 : Value).ownBlock ∧ some k_ ≠ (v435 : Value).ownBlock ∧ k_ ≠ gb384 ∧ k_ ≠ gb392 ∧ k_ ≠ gb400 ∧ k_ ≠ gb408 ∧ k_ ≠ gb416 ∧ k_ ≠ gb427) ho1 (fun k_ hk_ => ⟨hk_.2, Or.elim hk_.1 (fun hs_ => ((Kd.R_types (Kd.R_types (Kd.R_types (Kd.R_types (Kd.R_types (Kd.R_types (Kd.R_apart' (Kd.R_apart' (Kd.R_apart' (Kd.R_apart' (Kd.R_apart' (Kd.R_apart' (Kd.R_apart' (HO383.out) (Kd.R_typed HO380.out) (by decide)) (Kd.R_typed HO387.out) (by decide)) (Kd.R_typed HO395.out) (by decide)) (Kd.R_typed HO403.out) (by decide)) (Kd.R_typed HO411.out) (by decide)) (Kd.R_typed HO419.out) (by decide)) (Kd.R_typed HO422.out) (by decide)) BK384.out (by decide)) BK392.out (by decide)) BK400.out (by decide)) BK408.out (by decide)) BK416.out (by decide)) BK427.out (by decide)).1 k_ hs_.symm).1.1.1.1.1.1.1.1.1.1.1.1.2) (fun hn_ => (Kd.fresh' (Kd.R_lt zPtB_11) k_ hn_)), Or.elim hk_.1 (fun hs_ => ((Kd.R_types (Kd.R_types (Kd.R_types (Kd.R_types (Kd.R_types (Kd.R_types (Kd.R_apart' (Kd.R_apart' (Kd.R_apart' (Kd.R_apart' (Kd.R_apart' (Kd.R_apart' (Kd.R_apart' (HO383.out) (Kd.R_typed HO380.out) (by decide)) (Kd.R_typed HO387.out) (by decide)) (Kd.R_typed HO395.out) (by decide)) (Kd.R_typed HO403.out) (by decide)) (Kd.R_typed HO411.out) (by decide)) (Kd.R_typed HO419.out) (by decide)) (Kd.R_typed HO422.out) (by decide)) BK384.out (by decide)) BK392.out (by decide)) BK400.out (by decide)) BK408.out (by decide)) BK416.out (by decide)) BK427.out (by decide)).1 k_ hs_.symm).1.1.1.1.1.1.1.1.1.1.1.2) (fun hn_ => (Kd.fresh' (Kd.R_lt zPtB_16) k_ hn_)), Or.elim hk_.1 (fun hs_ => ((Kd.R_types (Kd.R_types (Kd.R_types (Kd.R_types (Kd.R_types (Kd.R_types (Kd.R_apart' (Kd.R_apart' (Kd.R_apart' (Kd.R_apart' (Kd.R_apart' (Kd.R_apart' (Kd.R_apart' (HO383.out) (Kd.R_typed HO380.out) (by decide)) (Kd.R_typed HO387.out) (by decide)) (Kd.R_typed HO395.out) (by decide)) (Kd.R_typed HO403.out) (by decide)) (Kd.R_typed HO411.out) (by decide)) (Kd.R_typed HO419.out) (by decide)) (Kd.R_typed HO422.out) (by decide)) BK384.out (by decide)) BK392.out (by decide)) BK400.out (by decide)) BK408.out (by decide)) BK416.out (by decide)) BK427.out (by decide)).1 k_ hs_.symm).1.1.1.1.1.1.1.1.1.1.1.1.1.1.1) (fun hn_ => (Kd.fresh' (Kd.R_lt zPtB_8) k_ hn_)), Or.elim hk_.1 (fun hs_ => ((Kd.R_types (Kd.R_types (Kd.R_types (Kd.R_types (Kd.R_types (Kd.R_types (Kd.R_apart' (Kd.R_apart' (Kd.R_apart' (Kd.R_apart' (Kd.R_apart' (Kd.R_apart' (Kd.R_apart' (HO383.out) (Kd.R_typed HO380.out) (by decide)) (Kd.R_typed HO387.out) (by decide)) (Kd.R_typed HO395.out) (by decide)) (Kd.R_typed HO403.out) (by decide)) (Kd.R_typed HO411.out) (by decide)) (Kd.R_typed HO419.out) (by decide)) (Kd.R_typed HO422.out) (by decide)) BK384.out (by decide)) BK392.out (by decide)) BK400.out (by decide)) BK408.out (by decide)) BK416.out (by decide)) BK427.out (by decide)).1 k_ hs_.symm).1.1.1.1.1.1.1.1.1.1.2) (fun hn_ => (Kd.fresh' (Kd.R_lt zPtB_18) k_ hn_)), Or.elim hk_.1 (fun hs_ => ((Kd.R_types (Kd.R_types (Kd.R_types (Kd.R_types (Kd.R_types (Kd.R_types (Kd.R_apart' (Kd.R_apart' (Kd.R_apart' (Kd.R_apart' (Kd.R_apart' (Kd.R_apart' (Kd.R_apart' (HO383.out) (Kd.R_typed HO380.out) (by decide)) (Kd.R_typed HO387.out) (by decide)) (Kd.R_typed HO395.out) (by decide)) (Kd.R_typed HO403.out) (by decide)) (Kd.R_typed HO411.out) (by decide)) (Kd.R_typed HO419.out) (by decide)) (Kd.R_typed HO422.out) (by decide)) BK384.out (by decide)) BK392.out (by decide)) BK400.out (by decide)) BK408.out (by decide)) BK416.out (by decide)) BK427.out (by decide)).1 k_ hs_.symm).1.1.1.1.1.1.1.1.1.1.1.1.1.1.2.1) (fun hn_ => (Kd.fresh' (Kd.R_lt zPtB_12) k_ hn_)), Or.elim hk_.1 (fun hs_ => ((Kd.R_types (Kd.R_types (Kd.R_types (Kd.R_types (Kd.R_types (Kd.R_types (Kd.R_apart' (Kd.R_apart' (Kd.R_apart' (Kd.R_apart' (Kd.R_apart' (Kd.R_apart' (Kd.R_apart' (HO383.out) (Kd.R_typed HO380.out) (by decide)) (Kd.R_typed HO387.out) (by decide)) (Kd.R_typed HO395.out) (by decide)) (Kd.R_typed HO403.out) (by decide)) (Kd.R_typed HO411.out) (by decide)) (Kd.R_typed HO419.out) (by decide)) (Kd.R_typed HO422.out) (by decide)) BK384.out (by decide)) BK392.out (by decide)) BK400.out (by decide)) BK408.out (by decide)) BK416.out (by decide)) BK427.out (by decide)).1 k_ hs_.symm).1.1.1.1.1.1.1.1.1.2) (fun hn_ => (Kd.fresh' (Kd.R_lt zPtB_17) k_ hn_)), Or.elim hk_.1 (fun hs_ => ((Kd.R_types (Kd.R_types (Kd.R_types (Kd.R_types (Kd.R_types (Kd.R_types (Kd.R_apart' (Kd.R_apart' (Kd.R_apart' (Kd.R_apart' (Kd.R_apart' (Kd.R_apart' (Kd.R_apart' (HO383.out) (Kd.R_typed HO380.out) (by decide)) (Kd.R_typed HO387.out) (by decide)) (Kd.R_typed HO395.out) (by decide)) (Kd.R_typed HO403.out) (by decide)) (Kd.R_typed HO411.out) (by decide)) (Kd.R_typed HO419.out) (by decide)) (Kd.R_typed HO422.out) (by decide)) BK384.out (by decide)) BK392.out (by decide)) BK400.out (by decide)) BK408.out (by decide)) BK416.out (by decide)) BK427.out (by decide)).1 k_ hs_.symm).1.1.1.1.1.1.1.1.1.1.1.1.1.1.2.2.1) (fun hn_ => (Kd.fresh' (Kd.R_lt zPtB_9) k_ hn_)), Or.elim hk_.1 (fun hs_ => ((Kd.R_types (Kd.R_types (Kd.R_types (Kd.R_types (Kd.R_types (Kd.R_types (Kd.R_apart' (Kd.R_apart' (Kd.R_apart' (Kd.R_apart' (Kd.R_apart' (Kd.R_apart' (Kd.R_apart' (HO383.out) (Kd.R_typed HO380.out) (by decide)) (Kd.R_typed HO387.out) (by decide)) (Kd.R_typed HO395.out) (by decide)) (Kd.R_typed HO403.out) (by decide)) (Kd.R_typed HO411.out) (by decide)) (Kd.R_typed HO419.out) (by decide)) (Kd.R_typed HO422.out) (by decide)) BK384.out (by decide)) BK392.out (by decide)) BK400.out (by decide)) BK408.out (by decide)) BK416.out (by decide)) BK427.out (by decide)).1 k_ hs_.symm).1.1.1.1.1.1.1.1.2) (fun hn_ => (Kd.fresh' (Kd.R_lt zPtB_19) k_ hn_)), Or.elim hk_.1 (fun hs_ => ((Kd.R_types (Kd.R_types (Kd.R_types (Kd.R_types (Kd.R_types (Kd.R_types (Kd.R_apart' (Kd.R_apart' (Kd.R_apart' (Kd.R_apart' (Kd.R_apart' (Kd.R_apart' (Kd.R_apart' (HO383.out) (Kd.R_typed HO380.out) (by decide)) (Kd.R_typed HO387.out) (by decide)) (Kd.R_typed HO395.out) (by decide)) (Kd.R_typed HO403.out) (by decide)) (Kd.R_typed HO411.out) (by decide)) (Kd.R_typed HO419.out) (by decide)) (Kd.R_typed HO422.out) (by decide)) BK384.out (by decide)) BK392.out (by decide)) BK400.out (by decide)) BK408.out (by decide)) BK416.out (by decide)) BK427.out (by decide)).1 k_ hs_.symm).1.1.1.1.1.1.1.1.1.1.1.1.1.1.2.2.2.1) (fun hn_ => (Kd.fresh' (Kd.R_lt zPtB_13) k_ hn_)), Or.elim hk_.1 (fun hs_ => ((Kd.R_types (Kd.R_types (Kd.R_types (Kd.R_types (Kd.R_types (Kd.R_types (Kd.R_apart' (Kd.R_apart' (Kd.R_apart' (Kd.R_apart' (Kd.R_apart' (Kd.R_apart' (Kd.R_apart' (HO383.out) (Kd.R_typed HO380.out) (by decide)) (Kd.R_typed HO387.out) (by decide)) (Kd.R_typed HO395.out) (by decide)) (Kd.R_typed HO403.out) (by decide)) (Kd.R_typed HO411.out) (by decide)) (Kd.R_typed HO419.out) (by decide)) (Kd.R_typed HO422.out) (by decide)) BK384.out (by decide)) BK392.out (by decide)) BK400.out (by decide)) BK408.out (by decide)) BK416.out (by decide)) BK427.out (by decide)).1 k_ hs_.symm).1.1.1.1.1.1.1.2) (fun hn_ => (Kd.fresh' (Kd.R_lt zPtB_35) k_ hn_)), Or.elim hk_.1 (fun hs_ => ((Kd.R_types (Kd.R_types (Kd.R_types (Kd.R_types (Kd.R_types (Kd.R_types (Kd.R_apart' (Kd.R_apart' (Kd.R_apart' (Kd.R_apart' (Kd.R_apart' (Kd.R_apart' (Kd.R_apart' (HO383.out) (Kd.R_typed HO380.out) (by decide)) (Kd.R_typed HO387.out) (by decide)) (Kd.R_typed HO395.out) (by decide)) (Kd.R_typed HO403.out) (by decide)) (Kd.R_typed HO411.out) (by decide)) (Kd.R_typed HO419.out) (by decide)) (Kd.R_typed HO422.out) (by decide)) BK384.out (by decide)) BK392.out (by decide)) BK400.out (by decide)) BK408.out (by decide)) BK416.out (by decide)) BK427.out (by decide)).1 k_ hs_.symm).1.1.1.1.1.1.2) (fun hn_ => (Kd.fresh' (Kd.R_lt zPtB_36) k_ hn_)), Or.elim hk_.1 (fun hs_ => ((Kd.R_types (Kd.R_types (Kd.R_types (Kd.R_types (Kd.R_types (Kd.R_types (Kd.R_apart' (Kd.R_apart' (Kd.R_apart' (Kd.R_apart' (Kd.R_apart' (Kd.R_apart' (Kd.R_apart' (HO383.out) (Kd.R_typed HO380.out) (by decide)) (Kd.R_typed HO387.out) (by decide)) (Kd.R_typed HO395.out) (by decide)) (Kd.R_typed HO403.out) (by decide)) (Kd.R_typed HO411.out) (by decide)) (Kd.R_typed HO419.out) (by decide)) (Kd.R_typed HO422.out) (by decide)) BK384.out (by decide)) BK392.out (by decide)) BK400.out (by decide)) BK408.out (by decide)) BK416.out (by decide)) BK427.out (by decide)).1 k_ hs_.symm).1.1.1.1.1.1.1.1.1.1.1.1.1.1.2.2.2.2) (fun hn_ => (Kd.fresh' (Kd.R_lt zPtB_23) k_ hn_)), Or.elim hk_.1 (fun hs_ => ((Kd.R_types (Kd.R_types (Kd.R_types (Kd.R_types (Kd.R_types (Kd.R_types (Kd.R_apart' (Kd.R_apart' (Kd.R_apart' (Kd.R_apart' (Kd.R_apart' (Kd.R_apart' (Kd.R_apart' (HO383.out) (Kd.R_typed HO380.out) (by decide)) (Kd.R_typed HO387.out) (by decide)) (Kd.R_typed HO395.out) (by decide)) (Kd.R_typed HO403.out) (by decide)) (Kd.R_typed HO411.out) (by decide)) (Kd.R_typed HO419.out) (by decide)) (Kd.R_typed HO422.out) (by decide)) BK384.out (by decide)) BK392.out (by decide)) BK400.out (by decide)) BK408.out (by decide)) BK416.out (by decide)) BK427.out (by decide)).1 k_ hs_.symm).1.1.1.1.1.1.1.1.1.1.1.1.1.2) (fun hn_ => (Kd.fresh' (Kd.R_lt zPtB_49) k_ hn_)), Or.elim hk_.1 (fun hs_ => ((Kd.R_types (Kd.R_types (Kd.R_types (Kd.R_types (Kd.R_types (Kd.R_types (Kd.R_apart' (Kd.R_apart' (Kd.R_apart' (Kd.R_apart' (Kd.R_apart' (Kd.R_apart' (Kd.R_apart' (HO383.out) (Kd.R_typed HO380.out) (by decide)) (Kd.R_typed HO387.out) (by decide)) (Kd.R_typed HO395.out) (by decide)) (Kd.R_typed HO403.out) (by decide)) (Kd.R_typed HO411.out) (by decide)) (Kd.R_typed HO419.out) (by decide)) (Kd.R_typed HO422.out) (by decide)) BK384.out (by decide)) BK392.out (by decide)) BK400.out (by decide)) BK408.out (by decide)) BK416.out (by decide)) BK427.out (by decide)).1 k_ hs_.symm).1.1.1.1.1.2) (fun hn_ => (Kd.freshB (g := gb384) (o := .cells #[.slice Ao593 t378.length co593, .slice Ao595 t381.length co595] 25 (0, 0)) zPtB_1 k_ hn_)), Or.elim hk_.1 (fun hs_ => ((Kd.R_types (Kd.R_types (Kd.R_types (Kd.R_types (Kd.R_types (Kd.R_types (Kd.R_apart' (Kd.R_apart' (Kd.R_apart' (Kd.R_apart' (Kd.R_apart' (Kd.R_apart' (Kd.R_apart' (HO383.out) (Kd.R_typed HO380.out) (by decide)) (Kd.R_typed HO387.out) (by decide)) (Kd.R_typed HO395.out) (by decide)) (Kd.R_typed HO403.out) (by decide)) (Kd.R_typed HO411.out) (by decide)) (Kd.R_typed HO419.out) (by decide)) (Kd.R_typed HO422.out) (by decide)) BK384.out (by decide)) BK392.out (by decide)) BK400.out (by decide)) BK408.out (by decide)) BK416.out (by decide)) BK427.out (by decide)).1 k_ hs_.symm).1.1.1.1.2) (fun hn_ => (Kd.freshB (g := gb392) (o := .cells #[.slice Ao598 t385.length co598, .slice Ao601 t388.length co601] 25 (0, 0)) zPtB_2 k_ hn_)), Or.elim hk_.1 (fun hs_ => ((Kd.R_types (Kd.R_types (Kd.R_types (Kd.R_types (Kd.R_types (Kd.R_types (Kd.R_apart' (Kd.R_apart' (Kd.R_apart' (Kd.R_apart' (Kd.R_apart' (Kd.R_apart' (Kd.R_apart' (HO383.out) (Kd.R_typed HO380.out) (by decide)) (Kd.R_typed HO387.out) (by decide)) (Kd.R_typed HO395.out) (by decide)) (Kd.R_typed HO403.out) (by decide)) (Kd.R_typed HO411.out) (by decide)) (Kd.R_typed HO419.out) (by decide)) (Kd.R_typed HO422.out) (by decide)) BK384.out (by decide)) BK392.out (by decide)) BK400.out (by decide)) BK408.out (by decide)) BK416.out (by decide)) BK427.out (by decide)).1 k_ hs_.symm).1.1.1.2) (fun hn_ => (Kd.freshB (g := gb400) (o := .cells #[.slice Ao605 t393.length co605, .slice Ao609 t396.length co609] 25 (0, 0)) zPtB_4 k_ hn_)), Or.elim hk_.1 (fun hs_ => ((Kd.R_types (Kd.R_types (Kd.R_types (Kd.R_types (Kd.R_types (Kd.R_types (Kd.R_apart' (Kd.R_apart' (Kd.R_apart' (Kd.R_apart' (Kd.R_apart' (Kd.R_apart' (Kd.R_apart' (HO383.out) (Kd.R_typed HO380.out) (by decide)) (Kd.R_typed HO387.out) (by decide)) (Kd.R_typed HO395.out) (by decide)) (Kd.R_typed HO403.out) (by decide)) (Kd.R_typed HO411.out) (by decide)) (Kd.R_typed HO419.out) (by decide)) (Kd.R_typed HO422.out) (by decide)) BK384.out (by decide)) BK392.out (by decide)) BK400.out (by decide)) BK408.out (by decide)) BK416.out (by decide)) BK427.out (by decide)).1 k_ hs_.symm).1.1.2) (fun hn_ => (Kd.freshB (g := gb408) (o := .cells #[.slice Ao613 t401.length co613, .slice Ao618 t404.length co618] 25 (0, 0)) zPtB_6 k_ hn_)), Or.elim hk_.1 (fun hs_ => ((Kd.R_types (Kd.R_types (Kd.R_types (Kd.R_types (Kd.R_types (Kd.R_types (Kd.R_apart' (Kd.R_apart' (Kd.R_apart' (Kd.R_apart' (Kd.R_apart' (Kd.R_apart' (Kd.R_apart' (HO383.out) (Kd.R_typed HO380.out) (by decide)) (Kd.R_typed HO387.out) (by decide)) (Kd.R_typed HO395.out) (by decide)) (Kd.R_typed HO403.out) (by decide)) (Kd.R_typed HO411.out) (by decide)) (Kd.R_typed HO419.out) (by decide)) (Kd.R_typed HO422.out) (by decide)) BK384.out (by decide)) BK392.out (by decide)) BK400.out (by decide)) BK408.out (by decide)) BK416.out (by decide)) BK427.out (by decide)).1 k_ hs_.symm).1.2) (fun hn_ => (Kd.freshB (g := gb416) (o := .cells #[.slice Ao621 t409.length co621, .slice Ao627 t412.length co627] 25 (0, 0)) zPtB_14 k_ hn_)), Or.elim hk_.1 (fun hs_ => ((Kd.R_types (Kd.R_types (Kd.R_types (Kd.R_types (Kd.R_types (Kd.R_types (Kd.R_apart' (Kd.R_apart' (Kd.R_apart' (Kd.R_apart' (Kd.R_apart' (Kd.R_apart' (Kd.R_apart' (HO383.out) (Kd.R_typed HO380.out) (by decide)) (Kd.R_typed HO387.out) (by decide)) (Kd.R_typed HO395.out) (by decide)) (Kd.R_typed HO403.out) (by decide)) (Kd.R_typed HO411.out) (by decide)) (Kd.R_typed HO419.out) (by decide)) (Kd.R_typed HO422.out) (by decide)) BK384.out (by decide)) BK392.out (by decide)) BK400.out (by decide)) BK408.out (by decide)) BK416.out (by decide)) BK427.out (by decide)).1 k_ hs_.symm).2) (fun hn_ => (Kd.freshB (g := gb427) (o := .cells #[.slice Ao634 t420.length co634, .slice Ao641 t423.length co641] 25 (0, 0)) zPtB_25 k_ hn_))⟩)) (below_size zPtB_0))
                              have n16_ := Aside0.mk (blk_below (g := gb384) (o := .cells #[.slice Ao593 t378.length co593, .slice Ao595 t381.length co595] 25 (0, 0)) zPtB_1 hb)
                              have n17_ := Aside0.mk (blk_below (g := gb392) (o := .cells #[.slice Ao598 t385.length co598, .slice Ao601 t388.length co601] 25 (0, 0)) zPtB_2 hb)
                              have n18_ := Aside0.mk (blk_below (g := gb400) (o := .cells #[.slice Ao605 t393.length co605, .slice Ao609 t396.length co609] 25 (0, 0)) zPtB_4 hb)
                              have n19_ := Aside0.mk (blk_below (g := gb408) (o := .cells #[.slice Ao613 t401.length co613, .slice Ao618 t404.length co618] 25 (0, 0)) zPtB_6 hb)
                              have n20_ := Aside0.mk (blk_below (g := gb416) (o := .cells #[.slice Ao621 t409.length co621, .slice Ao627 t412.length co627] 25 (0, 0)) zPtB_14 hb)
                              have n21_ := Aside0.mk (blk_below (g := gb427) (o := .cells #[.slice Ao634 t420.length co634, .slice Ao641 t423.length co641] 25 (0, 0)) zPtB_25 hb)
                              have n22_ := Aside0.mk (below_step zPtB_0 hb)
                              (try clear HO380)
                              (try clear HO383)
                              (try clear HO387)
                              (try clear HO390)
                              (try clear HO395)
                              (try clear HO398)
                              (try clear HO403)
                              (try clear HO406)
                              (try clear HO411)
                              (try clear HO414)
                              (try clear HO419)
                              (try clear HO422)
                              (try clear HO425)
                              (try clear HO436)
                              clear BK384
                              clear BK392
                              clear BK400
                              clear BK408
                              clear BK416
                              clear BK427
                              clear HB
                              have HO383 := n1_
                              have HO403 := n6_
                              have HO406 := n7_
                              have HO411 := n8_
                              have HO414 := n9_
                              have HO436 := n13_
                              have HO448 := n14_
                              have HO451 := n15_
                              have BK384 := n16_
                              have BK392 := n17_
                              have BK400 := n18_
                              have BK408 := n19_
                              have BK416 := n20_
                              have BK427 := n21_
                              have HB := n22_
                              clear n1_ n6_ n7_ n8_ n9_ n13_ n14_ n15_ n16_ n17_ n18_ n19_ n20_ n21_ n22_
                              (try clear hb)
                              (try clear hb2)
                              (try clear hk)
                              (try clear hi)
                              (try clear ho0)
                              (try clear ho1)
                              obtain ⟨Ao650, co650, eo650⟩ := Kd.R_slice HO448.out
                              (first | subst eo650 | (injection eo650 with f1_ f2_ f3_; have f4_ := f1_.symm; have f5_ := f3_.symm; clear f1_ f2_ f3_; subst f4_; subst f5_))
                              obtain ⟨Ao651, co651, eo651⟩ := Kd.V_slice HO451.out
                              (first | subst eo651 | (injection eo651 with f1_ f2_ f3_; have f4_ := f1_.symm; have f5_ := f3_.symm; clear f1_ f2_ f3_; subst f4_; subst f5_))
                              refine hK.out _ _ ⟨(blk_cell BK408.out 0).trans rfl, (blk_cell BK408.out 1).trans rfl, (blk_cell BK384.out 0).trans rfl, (blk_cell BK384.out 1).trans rfl, (blk_cell BK416.out 0).trans rfl, (blk_cell BK416.out 1).trans rfl, (blk_cell BK392.out 0).trans rfl, (blk_cell BK392.out 1).trans rfl, (blk_cell BK400.out 0).trans rfl, (blk_cell BK400.out 1).trans rfl⟩ (fun hHeld => ?_)
                              clear hK K
                              refine norm_ (a' := ?_) ?_ ?_
                              rotate_left
                              · show Act.put _ (some 88) _ = _
                                simp only [Act.put, List.setIfInBounds_toArray, List.set_cons_zero, List.set_cons_succ, i64_w, i32_w]
                                rfl
                              refine one_ (i := 18) (N := some 89) #[true, true, true, true, true, true, true, true, true, true, true, true, true, true, true, true, true, true, true, false, false, false, false, false, false, false, false, false, false, false, false, false, false, false, false, false, false, false, false, false, false, false, false, false, false, false, false, false] rfl rfl (one_of HT_.out (by kernel_rfl)) (by decide) (fun K hK => ?_)
                              refine goes_ Tryz.func16 (by kernel_rfl) rfl #[.agg #[.slice Ao613 t401.length co613, .slice Ao618 t404.length co618], .agg #[.slice Ao650 t446.length co650, .slice Ao651 t449.length co651]] (by rfl) rfl rfl zPtB_7 ?_
                              with_reducible refine (postroomref5_Same.calls kj5 _ _ t401 _ _ t404 _ _ t446 _ _ t449 true _ ?side1 ?side2 ?side3 ?side4 ?side5 ?side6 ?side7 ?side8 A584.out).mono ?_
                              (case side1 => repeat (first | exact (Kd.R_reads' HO403.out).2.2 | (with_reducible refine Kd.C_alloc ?_ _) | (with_reducible refine Kd.C_drewN ?_ _) | (with_reducible refine Kd.C_drew ?_)))
                              (case side2 => exact (Kd.R_reads' HO403.out).2.1)
                              (case side3 => repeat (first | exact (Kd.R_reads' HO406.out).2.2 | (with_reducible refine Kd.C_alloc ?_ _) | (with_reducible refine Kd.C_drewN ?_ _) | (with_reducible refine Kd.C_drew ?_)))
                              (case side4 => exact (Kd.R_reads' HO406.out).2.1)
                              (case side5 => repeat (first | exact (Kd.R_reads' HO448.out).2.2 | (with_reducible refine Kd.C_alloc ?_ _) | (with_reducible refine Kd.C_drewN ?_ _) | (with_reducible refine Kd.C_drew ?_)))
                              (case side6 => exact (Kd.R_reads' HO448.out).2.1)
                              (case side7 => repeat (first | exact (Kd.V_reads' HO451.out).2.2 | (with_reducible refine Kd.C_alloc ?_ _) | (with_reducible refine Kd.C_drewN ?_ _) | (with_reducible refine Kd.C_drew ?_)))
                              (case side8 => exact (Kd.V_reads' HO451.out).2.1)
                              rintro e w652 ⟨rfl, hb⟩
                              refine ⟨_, rfl, ?_⟩
                              have n1_ := Aside0.mk (Kd.R_below zPtB_5 hb)
                              have n6_ := Aside0.mk (Kd.R_below zPtB_17 hb)
                              have n7_ := Aside0.mk (Kd.R_below zPtB_9 hb)
                              have n8_ := Aside0.mk (Kd.R_below zPtB_19 hb)
                              have n9_ := Aside0.mk (Kd.R_below zPtB_13 hb)
                              have n13_ := Aside0.mk (Kd.R_below zPtB_49 hb)
                              have n16_ := Aside0.mk (blk_below (g := gb384) (o := .cells #[.slice Ao593 t378.length co593, .slice Ao595 t381.length co595] 25 (0, 0)) zPtB_1 hb)
                              have n17_ := Aside0.mk (blk_below (g := gb392) (o := .cells #[.slice Ao598 t385.length co598, .slice Ao601 t388.length co601] 25 (0, 0)) zPtB_2 hb)
                              have n18_ := Aside0.mk (blk_below (g := gb400) (o := .cells #[.slice Ao605 t393.length co605, .slice Ao609 t396.length co609] 25 (0, 0)) zPtB_4 hb)
                              have n19_ := Aside0.mk (blk_below (g := gb408) (o := .cells #[.slice Ao613 t401.length co613, .slice Ao618 t404.length co618] 25 (0, 0)) zPtB_6 hb)
                              have n20_ := Aside0.mk (blk_below (g := gb416) (o := .cells #[.slice Ao621 t409.length co621, .slice Ao627 t412.length co627] 25 (0, 0)) zPtB_14 hb)
                              have n21_ := Aside0.mk (blk_below (g := gb427) (o := .cells #[.slice Ao634 t420.length co634, .slice Ao641 t423.length co641] 25 (0, 0)) zPtB_25 hb)
                              have n22_ := Aside0.mk (below_step zPtB_0 hb)
                              (try clear HO380)
                              (try clear HO383)
                              (try clear HO387)
                              (try clear HO390)
                              (try clear HO395)
                              (try clear HO398)
                              (try clear HO403)
                              (try clear HO406)
                              (try clear HO411)
                              (try clear HO414)
                              (try clear HO419)
                              (try clear HO422)
                              (try clear HO425)
                              (try clear HO436)
                              (try clear HO448)
                              (try clear HO451)
                              clear BK384
                              clear BK392
                              clear BK400
                              clear BK408
                              clear BK416
                              clear BK427
                              clear HB
                              have HO383 := n1_
                              have HO403 := n6_
                              have HO406 := n7_
                              have HO411 := n8_
                              have HO414 := n9_
                              have HO436 := n13_
                              have BK384 := n16_
                              have BK392 := n17_
                              have BK400 := n18_
                              have BK408 := n19_
                              have BK416 := n20_
                              have BK427 := n21_
                              have HB := n22_
                              clear n1_ n6_ n7_ n8_ n9_ n13_ n16_ n17_ n18_ n19_ n20_ n21_ n22_
                              (try clear hb)
                              (try clear hb2)
                              (try clear hk)
                              (try clear hi)
                              refine hK.out _ _ ⟨(blk_cell BK408.out 0).trans rfl, (blk_cell BK408.out 1).trans rfl, (blk_cell BK384.out 0).trans rfl, (blk_cell BK384.out 1).trans rfl, (blk_cell BK416.out 0).trans rfl, (blk_cell BK416.out 1).trans rfl, (blk_cell BK392.out 0).trans rfl, (blk_cell BK392.out 1).trans rfl, (blk_cell BK400.out 0).trans rfl, (blk_cell BK400.out 1).trans rfl⟩ (fun hHeld => ?_)
                              clear hK K
                              refine norm_ (a' := ?_) ?_ ?_
                              rotate_left
                              · show Act.put _ (some 89) _ = _
                                simp only [Act.put, List.setIfInBounds_toArray, List.set_cons_zero, List.set_cons_succ, i64_w, i32_w]
                                rfl
                              refine pure_ (i := 19) (N := some 90) (v := ?_) (a' := ?_) #[true, true, true, true, true, true, true, true, true, true, true, true, true, true, true, true, true, true, true, true, false, false, false, false, false, false, false, false, false, false, false, false, false, false, false, false, false, false, false, false, false, false, false, false, false, false, false, false] rfl rfl (any_of HT_.out (by kernel_rfl)) (fun _ _ _ h => h) (Or.inl ⟨by rfl, ?_⟩) ?_ ?_
                              rotate_left
                              · intro w'
                                go_simp
                                with_reducible rfl
                              rotate_left
                              · simp only [Act.put, List.setIfInBounds_toArray, List.set_cons_zero, List.set_cons_succ, i64_w, i32_w]
                                rfl
                              refine pure_ (i := 20) (N := some 91) (v := ?_) (a' := ?_) #[true, true, true, true, true, true, true, true, true, true, true, true, true, true, true, true, true, true, true, true, true, false, false, false, false, false, false, false, false, false, false, false, false, false, false, false, false, false, false, false, false, false, false, false, false, false, false, false] rfl rfl (any_of HT_.out (by kernel_rfl)) (fun _ _ _ h => h) (Or.inl ⟨by rfl, ?_⟩) ?_ ?_
                              rotate_left
                              · intro w'
                                go_simp
                                with_reducible rfl
                              rotate_left
                              · simp only [Act.put, List.setIfInBounds_toArray, List.set_cons_zero, List.set_cons_succ, i64_w, i32_w]
                                rfl
                              refine take_ (i := 21) (N := some 92) (v := ?_) (a' := ?_) #[true, true, true, true, true, true, true, true, true, true, true, true, true, true, true, true, true, true, true, true, true, true, false, false, false, false, false, false, false, false, false, false, false, false, false, false, false, false, false, false, false, false, false, false, false, false, false, false] rfl rfl (take_ofW HT_.out HW_.out (by kernel_rfl)) (fun _ _ _ h => h) (Or.inl ⟨by rfl, ?_⟩) hHeld ?_ ?_
                              rotate_left
                              · rintro w' ⟨s0, s1, s2, s3, s4, s5, s6, s7, s8, s9⟩
                                go_simp
                                with_reducible rfl
                              rotate_left
                              · simp only [Act.put, List.setIfInBounds_toArray, List.set_cons_zero, List.set_cons_succ, i64_w, i32_w]
                                rfl
                              refine take_ (i := 22) (N := some 93) (v := ?_) (a' := ?_) #[true, true, true, true, true, true, true, true, true, true, true, true, true, true, true, true, true, true, true, true, true, true, true, false, false, false, false, false, false, false, false, false, false, false, false, false, false, false, false, false, false, false, false, false, false, false, false, false] rfl rfl (take_ofW HT_.out HW_.out (by kernel_rfl)) (fun _ _ _ h => h) (Or.inl ⟨by rfl, ?_⟩) hHeld ?_ ?_
                              rotate_left
                              · rintro w' ⟨s0, s1, s2, s3, s4, s5, s6, s7, s8, s9⟩
                                go_simp
                                with_reducible rfl
                              rotate_left
                              · simp only [Act.put, List.setIfInBounds_toArray, List.set_cons_zero, List.set_cons_succ, i64_w, i32_w]
                                rfl
                              refine one_ (i := 23) (N := some 94) #[true, true, true, true, true, true, true, true, true, true, true, true, true, true, true, true, true, true, true, true, true, true, true, true, false, false, false, false, false, false, false, false, false, false, false, false, false, false, false, false, false, false, false, false, false, false, false, false] rfl rfl (one_of HT_.out (by kernel_rfl)) (by decide) (fun K hK => ?_)
                              refine goes_ Tryz.func16 (by kernel_rfl) rfl #[.agg #[.slice Ao621 t409.length co621, .slice Ao627 t412.length co627], .agg #[.slice Ao613 t401.length co613, .slice Ao618 t404.length co618]] (by rfl) rfl rfl zPtB_7 ?_
                              with_reducible refine (postroomref5_Same.calls kj5 _ _ t409 _ _ t412 _ _ t401 _ _ t404 true _ ?side1 ?side2 ?side3 ?side4 ?side5 ?side6 ?side7 ?side8 A586.out).mono ?_
                              (case side1 => repeat (first | exact (Kd.R_reads' HO411.out).2.2 | (with_reducible refine Kd.C_alloc ?_ _) | (with_reducible refine Kd.C_drewN ?_ _) | (with_reducible refine Kd.C_drew ?_)))
                              (case side2 => exact (Kd.R_reads' HO411.out).2.1)
                              (case side3 => repeat (first | exact (Kd.R_reads' HO414.out).2.2 | (with_reducible refine Kd.C_alloc ?_ _) | (with_reducible refine Kd.C_drewN ?_ _) | (with_reducible refine Kd.C_drew ?_)))
                              (case side4 => exact (Kd.R_reads' HO414.out).2.1)
                              (case side5 => repeat (first | exact (Kd.R_reads' HO403.out).2.2 | (with_reducible refine Kd.C_alloc ?_ _) | (with_reducible refine Kd.C_drewN ?_ _) | (with_reducible refine Kd.C_drew ?_)))
                              (case side6 => exact (Kd.R_reads' HO403.out).2.1)
                              (case side7 => repeat (first | exact (Kd.R_reads' HO406.out).2.2 | (with_reducible refine Kd.C_alloc ?_ _) | (with_reducible refine Kd.C_drewN ?_ _) | (with_reducible refine Kd.C_drew ?_)))
                              (case side8 => exact (Kd.R_reads' HO406.out).2.1)
                              rintro e w653 ⟨rfl, hb⟩
                              refine ⟨_, rfl, ?_⟩
                              have n1_ := Aside0.mk (Kd.R_below zPtB_5 hb)
                              have n13_ := Aside0.mk (Kd.R_below zPtB_49 hb)
                              have n16_ := Aside0.mk (blk_below (g := gb384) (o := .cells #[.slice Ao593 t378.length co593, .slice Ao595 t381.length co595] 25 (0, 0)) zPtB_1 hb)
                              have n17_ := Aside0.mk (blk_below (g := gb392) (o := .cells #[.slice Ao598 t385.length co598, .slice Ao601 t388.length co601] 25 (0, 0)) zPtB_2 hb)
                              have n18_ := Aside0.mk (blk_below (g := gb400) (o := .cells #[.slice Ao605 t393.length co605, .slice Ao609 t396.length co609] 25 (0, 0)) zPtB_4 hb)
                              have n19_ := Aside0.mk (blk_below (g := gb408) (o := .cells #[.slice Ao613 t401.length co613, .slice Ao618 t404.length co618] 25 (0, 0)) zPtB_6 hb)
                              have n20_ := Aside0.mk (blk_below (g := gb416) (o := .cells #[.slice Ao621 t409.length co621, .slice Ao627 t412.length co627] 25 (0, 0)) zPtB_14 hb)
                              have n21_ := Aside0.mk (blk_below (g := gb427) (o := .cells #[.slice Ao634 t420.length co634, .slice Ao641 t423.length co641] 25 (0, 0)) zPtB_25 hb)
                              have n22_ := Aside0.mk (below_step zPtB_0 hb)
                              (try clear HO380)
                              (try clear HO383)
                              (try clear HO387)
                              (try clear HO390)
                              (try clear HO395)
                              (try clear HO398)
                              (try clear HO403)
                              (try clear HO406)
                              (try clear HO411)
                              (try clear HO414)
                              (try clear HO419)
                              (try clear HO422)
                              (try clear HO425)
                              (try clear HO436)
                              (try clear HO448)
                              (try clear HO451)
                              clear BK384
                              clear BK392
                              clear BK400
                              clear BK408
                              clear BK416
                              clear BK427
                              clear HB
                              have HO383 := n1_
                              have HO436 := n13_
                              have BK384 := n16_
                              have BK392 := n17_
                              have BK400 := n18_
                              have BK408 := n19_
                              have BK416 := n20_
                              have BK427 := n21_
                              have HB := n22_
                              clear n1_ n13_ n16_ n17_ n18_ n19_ n20_ n21_ n22_
                              (try clear hb)
                              (try clear hb2)
                              (try clear hk)
                              (try clear hi)
                              obtain ⟨Ao654, co654, eo654⟩ := Kd.R_slice HO436.out
                              (first | subst eo654 | (injection eo654 with f1_ f2_ f3_; have f4_ := f1_.symm; have f5_ := f3_.symm; clear f1_ f2_ f3_; subst f4_; subst f5_))
                              refine hK.out _ _ ⟨(blk_cell BK408.out 0).trans rfl, (blk_cell BK408.out 1).trans rfl, (blk_cell BK384.out 0).trans rfl, (blk_cell BK384.out 1).trans rfl, (blk_cell BK416.out 0).trans rfl, (blk_cell BK416.out 1).trans rfl, (blk_cell BK392.out 0).trans rfl, (blk_cell BK392.out 1).trans rfl, (blk_cell BK400.out 0).trans rfl, (blk_cell BK400.out 1).trans rfl⟩ (fun hHeld => ?_)
                              clear hK K
                              refine norm_ (a' := ?_) ?_ ?_
                              rotate_left
                              · show Act.put _ (some 94) _ = _
                                simp only [Act.put, List.setIfInBounds_toArray, List.set_cons_zero, List.set_cons_succ, i64_w, i32_w]
                                rfl
                              refine pure_ (i := 24) (N := some 95) (v := ?_) (a' := ?_) #[true, true, true, true, true, true, true, true, true, true, true, true, true, true, true, true, true, true, true, true, true, true, true, true, true, false, false, false, false, false, false, false, false, false, false, false, false, false, false, false, false, false, false, false, false, false, false, false] rfl rfl (any_of HT_.out (by kernel_rfl)) (fun _ _ _ h => h) (Or.inl ⟨by rfl, ?_⟩) ?_ ?_
                              rotate_left
                              · intro w'
                                go_simp
                                with_reducible rfl
                              rotate_left
                              · simp only [Act.put, List.setIfInBounds_toArray, List.set_cons_zero, List.set_cons_succ, i64_w, i32_w]
                                rfl
                              refine pure_ (i := 25) (N := some 96) (v := ?_) (a' := ?_) #[true, true, true, true, true, true, true, true, true, true, true, true, true, true, true, true, true, true, true, true, true, true, true, true, true, true, false, false, false, false, false, false, false, false, false, false, false, false, false, false, false, false, false, false, false, false, false, false] rfl rfl (any_of HT_.out (by kernel_rfl)) (fun _ _ _ h => h) (Or.inl ⟨by rfl, ?_⟩) ?_ ?_
                              rotate_left
                              · intro w'
                                go_simp
                                with_reducible rfl
                              rotate_left
                              · simp only [Act.put, List.setIfInBounds_toArray, List.set_cons_zero, List.set_cons_succ, i64_w, i32_w]
                                rfl
                              refine pure_ (i := 26) (N := some 97) (v := ?_) (a' := ?_) #[true, true, true, true, true, true, true, true, true, true, true, true, true, true, true, true, true, true, true, true, true, true, true, true, true, true, true, false, false, false, false, false, false, false, false, false, false, false, false, false, false, false, false, false, false, false, false, false] rfl rfl (any_of HT_.out (by kernel_rfl)) (fun _ _ _ h => h) (Or.inl ⟨by rfl, ?_⟩) ?_ ?_
                              rotate_left
                              · intro w'
                                go_simp
                                with_reducible rfl
                              rotate_left
                              · simp only [Act.put, List.setIfInBounds_toArray, List.set_cons_zero, List.set_cons_succ, i64_w, i32_w]
                                rfl
                              refine pure_ (i := 27) (N := some 98) (v := ?_) (a' := ?_) #[true, true, true, true, true, true, true, true, true, true, true, true, true, true, true, true, true, true, true, true, true, true, true, true, true, true, true, true, false, false, false, false, false, false, false, false, false, false, false, false, false, false, false, false, false, false, false, false] rfl rfl (any_of HT_.out (by kernel_rfl)) (fun _ _ _ h => h) (Or.inl ⟨by rfl, ?_⟩) ?_ ?_
                              rotate_left
                              · intro w'
                                go_simp
                                with_reducible rfl
                              rotate_left
                              · simp only [Act.put, List.setIfInBounds_toArray, List.set_cons_zero, List.set_cons_succ, i64_w, i32_w]
                                rfl
                              refine take_ (i := 28) (N := some 99) (v := ?_) (a' := ?_) #[true, true, true, true, true, true, true, true, true, true, true, true, true, true, true, true, true, true, true, true, true, true, true, true, true, true, true, true, true, false, false, false, false, false, false, false, false, false, false, false, false, false, false, false, false, false, false, false] rfl rfl (take_ofW HT_.out HW_.out (by kernel_rfl)) (fun _ _ _ h => h) (Or.inl ⟨by rfl, ?_⟩) hHeld ?_ ?_
                              rotate_left
                              · rintro w' ⟨s0, s1, s2, s3, s4, s5, s6, s7, s8, s9⟩
                                go_simp
                                with_reducible rfl
                              rotate_left
                              · simp only [Act.put, List.setIfInBounds_toArray, List.set_cons_zero, List.set_cons_succ, i64_w, i32_w]
                                rfl
                              refine one_ (i := 29) (N := some 100) #[true, true, true, true, true, true, true, true, true, true, true, true, true, true, true, true, true, true, true, true, true, true, true, true, true, true, true, true, true, true, false, false, false, false, false, false, false, false, false, false, false, false, false, false, false, false, false, false] rfl rfl (one_of HT_.out (by kernel_rfl)) (by decide) (fun K hK => ?_)
                              refine goes_ Tryz.func22 (by kernel_rfl) rfl #[.slice Ao654 y434.length co654, .slice Ao595 t381.length co595] (by rfl) rfl rfl zPtB_7 ?_
                              with_reducible refine (postroomref4_Same.calls kj5 _ _ y434 _ _ t381 true _ ?side1 ?side2 ?side3 ?side4 A588.out).mono ?_
                              (case side1 => repeat (first | exact (Kd.R_reads' HO436.out).2.2 | (with_reducible refine Kd.C_alloc ?_ _) | (with_reducible refine Kd.C_drewN ?_ _) | (with_reducible refine Kd.C_drew ?_)))
                              (case side2 => exact (Kd.R_reads' HO436.out).2.1)
                              (case side3 => repeat (first | exact (Kd.R_reads' HO383.out).2.2 | (with_reducible refine Kd.C_alloc ?_ _) | (with_reducible refine Kd.C_drewN ?_ _) | (with_reducible refine Kd.C_drew ?_)))
                              (case side4 => exact (Kd.R_reads' HO383.out).2.1)
                              rintro e w' ⟨rfl, ⟨nd, rfl⟩⟩
                              refine ⟨_, rfl, ?_⟩
                              refine hK.out _ _ ⟨(blk_cell BK408.out 0).trans rfl, (blk_cell BK408.out 1).trans rfl, (blk_cell BK384.out 0).trans rfl, (blk_cell BK384.out 1).trans rfl, (blk_cell BK416.out 0).trans rfl, (blk_cell BK416.out 1).trans rfl, (blk_cell BK392.out 0).trans rfl, (blk_cell BK392.out 1).trans rfl, (blk_cell BK400.out 0).trans rfl, (blk_cell BK400.out 1).trans rfl⟩ (fun hHeld => ?_)
                              clear hK K
                              refine norm_ (a' := ?_) ?_ ?_
                              rotate_left
                              · show Act.put _ (some 100) _ = _
                                simp only [Act.put, List.setIfInBounds_toArray, List.set_cons_zero, List.set_cons_succ, i64_w, i32_w]
                                rfl
                              refine pure_ (i := 30) (N := some 101) (v := ?_) (a' := ?_) #[true, true, true, true, true, true, true, true, true, true, true, true, true, true, true, true, true, true, true, true, true, true, true, true, true, true, true, true, true, true, true, false, false, false, false, false, false, false, false, false, false, false, false, false, false, false, false, false] rfl rfl (any_of HT_.out (by kernel_rfl)) (fun _ _ _ h => h) (Or.inl ⟨by rfl, ?_⟩) ?_ ?_
                              rotate_left
                              · intro w'
                                go_simp
                                with_reducible rfl
                              rotate_left
                              · simp only [Act.put, List.setIfInBounds_toArray, List.set_cons_zero, List.set_cons_succ, i64_w, i32_w]
                                rfl
                              refine pure_ (i := 31) (N := some 102) (v := ?_) (a' := ?_) #[true, true, true, true, true, true, true, true, true, true, true, true, true, true, true, true, true, true, true, true, true, true, true, true, true, true, true, true, true, true, true, true, false, false, false, false, false, false, false, false, false, false, false, false, false, false, false, false] rfl rfl (any_of HT_.out (by kernel_rfl)) (fun _ _ _ h => h) (Or.inl ⟨by rfl, ?_⟩) ?_ ?_
                              rotate_left
                              · intro w'
                                go_simp
                                with_reducible rfl
                              rotate_left
                              · simp only [Act.put, List.setIfInBounds_toArray, List.set_cons_zero, List.set_cons_succ, i64_w, i32_w]
                                rfl
                              refine pure_ (i := 32) (N := some 103) (v := ?_) (a' := ?_) #[true, true, true, true, true, true, true, true, true, true, true, true, true, true, true, true, true, true, true, true, true, true, true, true, true, true, true, true, true, true, true, true, true, false, false, false, false, false, false, false, false, false, false, false, false, false, false, false] rfl rfl (any_of HT_.out (by kernel_rfl)) (fun _ _ _ h => h) (Or.inl ⟨by rfl, ?_⟩) ?_ ?_
                              rotate_left
                              · intro w'
                                go_simp
                                with_reducible rfl
                              rotate_left
                              · simp only [Act.put, List.setIfInBounds_toArray, List.set_cons_zero, List.set_cons_succ, i64_w, i32_w]
                                rfl
                              refine pure_ (i := 33) (N := some 104) (v := ?_) (a' := ?_) #[true, true, true, true, true, true, true, true, true, true, true, true, true, true, true, true, true, true, true, true, true, true, true, true, true, true, true, true, true, true, true, true, true, true, false, false, false, false, false, false, false, false, false, false, false, false, false, false] rfl rfl (any_of HT_.out (by kernel_rfl)) (fun _ _ _ h => h) (Or.inl ⟨by rfl, ?_⟩) ?_ ?_
                              rotate_left
                              · intro w'
                                go_simp
                                with_reducible rfl
                              rotate_left
                              · simp only [Act.put, List.setIfInBounds_toArray, List.set_cons_zero, List.set_cons_succ, i64_w, i32_w]
                                rfl
                              refine take_ (i := 34) (N := some 105) (v := ?_) (a' := ?_) #[true, true, true, true, true, true, true, true, true, true, true, true, true, true, true, true, true, true, true, true, true, true, true, true, true, true, true, true, true, true, true, true, true, true, true, false, false, false, false, false, false, false, false, false, false, false, false, false] rfl rfl (take_ofW HT_.out HW_.out (by kernel_rfl)) (fun _ _ _ h => h) (Or.inl ⟨by rfl, ?_⟩) hHeld ?_ ?_
                              rotate_left
                              · rintro w' ⟨s0, s1, s2, s3, s4, s5, s6, s7, s8, s9⟩
                                go_simp
                                with_reducible rfl
                              rotate_left
                              · simp only [Act.put, List.setIfInBounds_toArray, List.set_cons_zero, List.set_cons_succ, i64_w, i32_w]
                                rfl
                              refine pure_ (i := 35) (N := some 106) (v := ?_) (a' := ?_) #[true, true, true, true, true, true, true, true, true, true, true, true, true, true, true, true, true, true, true, true, true, true, true, true, true, true, true, true, true, true, true, true, true, true, true, true, false, false, false, false, false, false, false, false, false, false, false, false] rfl rfl (any_of HT_.out (by kernel_rfl)) (fun _ _ _ h => h) (Or.inl ⟨by rfl, ?_⟩) ?_ ?_
                              rotate_left
                              · intro w'
                                go_simp
                                with_reducible rfl
                              rotate_left
                              · simp only [Act.put, List.setIfInBounds_toArray, List.set_cons_zero, List.set_cons_succ, i64_w, i32_w]
                                rfl
                              refine pure_ (i := 36) (N := some 107) (v := ?_) (a' := ?_) #[true, true, true, true, true, true, true, true, true, true, true, true, true, true, true, true, true, true, true, true, true, true, true, true, true, true, true, true, true, true, true, true, true, true, true, true, true, false, false, false, false, false, false, false, false, false, false, false] rfl rfl (any_of HT_.out (by kernel_rfl)) (fun _ _ _ h => h) (Or.inl ⟨by rfl, ?_⟩) ?_ ?_
                              rotate_left
                              · intro w'
                                go_simp
                                with_reducible rfl
                              rotate_left
                              · simp only [Act.put, List.setIfInBounds_toArray, List.set_cons_zero, List.set_cons_succ, i64_w, i32_w]
                                rfl
                              refine pure_ (i := 37) (N := some 108) (v := ?_) (a' := ?_) #[true, true, true, true, true, true, true, true, true, true, true, true, true, true, true, true, true, true, true, true, true, true, true, true, true, true, true, true, true, true, true, true, true, true, true, true, true, true, false, false, false, false, false, false, false, false, false, false] rfl rfl (any_of HT_.out (by kernel_rfl)) (fun _ _ _ h => h) (Or.inl ⟨by rfl, ?_⟩) ?_ ?_
                              rotate_left
                              · intro w'
                                go_simp
                                with_reducible rfl
                              rotate_left
                              · simp only [Act.put, List.setIfInBounds_toArray, List.set_cons_zero, List.set_cons_succ, i64_w, i32_w]
                                rfl
                              refine pure_ (i := 38) (N := some 109) (v := ?_) (a' := ?_) #[true, true, true, true, true, true, true, true, true, true, true, true, true, true, true, true, true, true, true, true, true, true, true, true, true, true, true, true, true, true, true, true, true, true, true, true, true, true, true, false, false, false, false, false, false, false, false, false] rfl rfl (any_of HT_.out (by kernel_rfl)) (fun _ _ _ h => h) (Or.inl ⟨by rfl, ?_⟩) ?_ ?_
                              rotate_left
                              · intro w'
                                go_simp
                                with_reducible rfl
                              rotate_left
                              · simp only [Act.put, List.setIfInBounds_toArray, List.set_cons_zero, List.set_cons_succ, i64_w, i32_w]
                                rfl
                              refine pure_ (i := 39) (N := some 110) (v := ?_) (a' := ?_) #[true, true, true, true, true, true, true, true, true, true, true, true, true, true, true, true, true, true, true, true, true, true, true, true, true, true, true, true, true, true, true, true, true, true, true, true, true, true, true, true, false, false, false, false, false, false, false, false] rfl rfl (any_of HT_.out (by kernel_rfl)) (fun _ _ _ h => h) (Or.inl ⟨by rfl, ?_⟩) ?_ ?_
                              rotate_left
                              · intro w'
                                go_simp
                                with_reducible rfl
                              rotate_left
                              · simp only [Act.put, List.setIfInBounds_toArray, List.set_cons_zero, List.set_cons_succ, i64_w, i32_w]
                                rfl
                              refine pure_ (i := 40) (N := some 111) (v := ?_) (a' := ?_) #[true, true, true, true, true, true, true, true, true, true, true, true, true, true, true, true, true, true, true, true, true, true, true, true, true, true, true, true, true, true, true, true, true, true, true, true, true, true, true, true, true, false, false, false, false, false, false, false] rfl rfl (any_of HT_.out (by kernel_rfl)) (fun _ _ _ h => h) (Or.inl ⟨by rfl, ?_⟩) ?_ ?_
                              rotate_left
                              · intro w'
                                go_simp
                                with_reducible rfl
                              rotate_left
                              · simp only [Act.put, List.setIfInBounds_toArray, List.set_cons_zero, List.set_cons_succ, i64_w, i32_w]
                                rfl
                              refine pure_ (i := 41) (N := some 112) (v := ?_) (a' := ?_) #[true, true, true, true, true, true, true, true, true, true, true, true, true, true, true, true, true, true, true, true, true, true, true, true, true, true, true, true, true, true, true, true, true, true, true, true, true, true, true, true, true, true, false, false, false, false, false, false] rfl rfl (any_of HT_.out (by kernel_rfl)) (fun _ _ _ h => h) (Or.inl ⟨by rfl, ?_⟩) ?_ ?_
                              rotate_left
                              · intro w'
                                go_simp
                                with_reducible rfl
                              rotate_left
                              · simp only [Act.put, List.setIfInBounds_toArray, List.set_cons_zero, List.set_cons_succ, i64_w, i32_w]
                                rfl
                              refine take_ (i := 42) (N := some 113) (v := ?_) (a' := ?_) #[true, true, true, true, true, true, true, true, true, true, true, true, true, true, true, true, true, true, true, true, true, true, true, true, true, true, true, true, true, true, true, true, true, true, true, true, true, true, true, true, true, true, true, false, false, false, false, false] rfl rfl (take_ofW HT_.out HW_.out (by kernel_rfl)) (fun _ _ _ h => h) (Or.inl ⟨by rfl, ?_⟩) hHeld ?_ ?_
                              rotate_left
                              · rintro w' ⟨s0, s1, s2, s3, s4, s5, s6, s7, s8, s9⟩
                                go_simp
                                with_reducible rfl
                              rotate_left
                              · simp only [Act.put, List.setIfInBounds_toArray, List.set_cons_zero, List.set_cons_succ, i64_w, i32_w]
                                rfl
                              refine pure_ (i := 43) (N := some 114) (v := ?_) (a' := ?_) #[true, true, true, true, true, true, true, true, true, true, true, true, true, true, true, true, true, true, true, true, true, true, true, true, true, true, true, true, true, true, true, true, true, true, true, true, true, true, true, true, true, true, true, true, false, false, false, false] rfl rfl (any_of HT_.out (by kernel_rfl)) (fun _ _ _ h => h) (Or.inl ⟨by rfl, ?_⟩) ?_ ?_
                              rotate_left
                              · intro w'
                                go_simp
                                with_reducible rfl
                              rotate_left
                              · simp only [Act.put, List.setIfInBounds_toArray, List.set_cons_zero, List.set_cons_succ, i64_w, i32_w]
                                rfl
                              refine pure_ (i := 44) (N := some 115) (v := ?_) (a' := ?_) #[true, true, true, true, true, true, true, true, true, true, true, true, true, true, true, true, true, true, true, true, true, true, true, true, true, true, true, true, true, true, true, true, true, true, true, true, true, true, true, true, true, true, true, true, true, false, false, false] rfl rfl (any_of HT_.out (by kernel_rfl)) (fun _ _ _ h => h) (Or.inl ⟨by rfl, ?_⟩) ?_ ?_
                              rotate_left
                              · intro w'
                                go_simp
                                with_reducible rfl
                              rotate_left
                              · simp only [Act.put, List.setIfInBounds_toArray, List.set_cons_zero, List.set_cons_succ, i64_w, i32_w]
                                rfl
                              refine pure_ (i := 45) (N := some 116) (v := ?_) (a' := ?_) #[true, true, true, true, true, true, true, true, true, true, true, true, true, true, true, true, true, true, true, true, true, true, true, true, true, true, true, true, true, true, true, true, true, true, true, true, true, true, true, true, true, true, true, true, true, true, false, false] rfl rfl (any_of HT_.out (by kernel_rfl)) (fun _ _ _ h => h) (Or.inl ⟨by rfl, ?_⟩) ?_ ?_
                              rotate_left
                              · intro w'
                                go_simp
                                with_reducible rfl
                              rotate_left
                              · simp only [Act.put, List.setIfInBounds_toArray, List.set_cons_zero, List.set_cons_succ, i64_w, i32_w]
                                rfl
                              refine pure_ (i := 46) (N := some 117) (v := ?_) (a' := ?_) #[true, true, true, true, true, true, true, true, true, true, true, true, true, true, true, true, true, true, true, true, true, true, true, true, true, true, true, true, true, true, true, true, true, true, true, true, true, true, true, true, true, true, true, true, true, true, true, false] rfl rfl (any_of HT_.out (by kernel_rfl)) (fun _ _ _ h => h) (Or.inl ⟨by rfl, ?_⟩) ?_ ?_
                              rotate_left
                              · intro w'
                                go_simp
                                with_reducible rfl
                              rotate_left
                              · simp only [Act.put, List.setIfInBounds_toArray, List.set_cons_zero, List.set_cons_succ, i64_w, i32_w]
                                rfl
                              refine pure_ (i := 47) (N := some 8) (v := ?_) (a' := ?_) #[true, true, true, true, true, true, true, true, true, true, true, true, true, true, true, true, true, true, true, true, true, true, true, true, true, true, true, true, true, true, true, true, true, true, true, true, true, true, true, true, true, true, true, true, true, true, true, true] rfl rfl (any_of HT_.out (by kernel_rfl)) (fun _ _ _ h => h) (Or.inl ⟨by rfl, ?_⟩) ?_ ?_
                              rotate_left
                              · intro w'
                                go_simp
                                with_reducible rfl
                              rotate_left
                              · simp only [Act.put, List.setIfInBounds_toArray, List.set_cons_zero, List.set_cons_succ, i64_w, i32_w]
                                rfl
                              refine done_ (done_of HT_.out (by kernel_rfl)) ?_
                              try go_wp2
                              go_ret
                              exact ⟨by first | rfl | (simp [errW_none, errW_some] <;> rfl) | (simp [*, errW_none, errW_some] <;> rfl), by repeat (first | (with_reducible first | exact HB.out | apply below_alloc | apply pw_below_drewN | apply below_drew1 | refine below_set ?_ GE384.out | refine below_set ?_ GE392.out | refine below_set ?_ GE400.out | refine below_set ?_ GE408.out | refine below_set ?_ GE416.out | refine below_set ?_ GE427.out) | exact HB.out)⟩
                            · rw [if_neg c590] at H
                              have c590b0 : (false == (decide ((t388.length : Int) > 0))) = false := Bool.eq_false_iff.mpr c590
                              (try (have c590b1 : decide (false = (decide ((t388.length : Int) > 0))) = false := by simpa using c590))
                              (try (have c590b2 : (false == (decide ((t388.length : Int) > 0))) = false := by simpa using c590))
                              (try (have c590b3 : ¬ (false = (decide ((t388.length : Int) > 0))) := by simpa using c590))
                              clear c590
                              exact absurd ((Option.some.inj H).trans hrt.out) (by decide)
                          · replace c589 := Bool.eq_false_iff.mpr c589
                            subst c589
                            have H1 : (some false) = some r := by rw [if_neg (show ¬ (false = true) by decide)] at H; exact H
                            clear H
                            have H := H1
                            clear H1
                            exact absurd ((Option.some.inj H).trans hrt.out) (by decide)
                        · replace c587 := Bool.eq_false_iff.mpr c587
                          subst c587
                          have H1 : (some false) = some r := by rw [if_neg (show ¬ (false = true) by decide)] at H; exact H
                          clear H
                          have H := H1
                          clear H1
                          exact absurd ((Option.some.inj H).trans hrt.out) (by decide)
                      · replace c585 := Bool.eq_false_iff.mpr c585
                        subst c585
                        have H1 : (some false) = some r := by rw [if_neg (show ¬ (false = true) by decide)] at H; exact H
                        clear H
                        have H := H1
                        clear H1
                        exact absurd ((Option.some.inj H).trans hrt.out) (by decide)
                  · replace c523 := Bool.eq_false_iff.mpr c523
                    subst c523
                    have H1 : (some false) = some r := by rw [if_neg (show ¬ (false = true) by decide)] at H; exact H
                    clear H
                    have H := H1
                    clear H1
                    exact absurd ((Option.some.inj H).trans hrt.out) (by decide)
                · replace c522 := Bool.eq_false_iff.mpr c522
                  subst c522
                  have H1 : (some false) = some r := by rw [if_neg (show ¬ (false = true) by decide)] at H; exact H
                  clear H
                  have H := H1
                  clear H1
                  exact absurd ((Option.some.inj H).trans hrt.out) (by decide)
              · replace c521 := Bool.eq_false_iff.mpr c521
                subst c521
                have H1 : (some false) = some r := by rw [if_neg (show ¬ (false = true) by decide)] at H; exact H
                clear H
                have H := H1
                clear H1
                exact absurd ((Option.some.inj H).trans hrt.out) (by decide)
          · rw [if_neg c17] at H
            exact absurd H (by simp)
        · rw [if_neg c16] at H
          exact absurd H (by simp)

end Go.Proofs.YthaegbiblblccaaGreatDoor.XEnt
