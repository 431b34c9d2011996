/- What the functions of the translation answer, each as a plain Lean function, and that the code comes to it; for a law: its row. Conditions: none but those that each theorem names. Written by a program of this session (wip/xp). -/
import Derived.Test.YthaegbiblblccaaGreatDoorXEntP1
import Derived.Test.YthaegbiblblccaaGreatDoorXEntP3
namespace Go.Proofs.YthaegbiblblccaaGreatDoor.XEnt
open Go.RowKit Go.Proofs.YthaegbiblblccaaGreatDoorW.PrintWords Go.Proofs.YthaegbiblblccaaGreatDoorW.PrintLast Go.Proofs.YthaegbiblblccaaGreatDoorW.PrintMore
attribute [local go_sem] max2_int min2_int max_two min_two max_three min_three max_four min_four   -- for this text's walks alone
theorem zPtA_5 {p : Prop} (h : p := by (with_reducible repeat (first | apply Kd.R_alloc | apply Kd.R_drewN | apply Kd.R_drew)); exact HO383.out) : p := h
theorem zPtA_8 {p : Prop} (h : p := by (with_reducible repeat (first | apply Kd.R_alloc | apply Kd.R_drewN | apply Kd.R_drew)); exact HO390.out) : p := h
theorem zPtA_9 {p : Prop} (h : p := by (with_reducible repeat (first | apply Kd.R_alloc | apply Kd.R_drewN | apply Kd.R_drew)); exact HO406.out) : p := h
theorem zPtA_11 {p : Prop} (h : p := by (with_reducible repeat (first | apply Kd.R_alloc | apply Kd.R_drewN | apply Kd.R_drew)); exact HO380.out) : p := h
theorem zPtA_12 {p : Prop} (h : p := by (with_reducible repeat (first | apply Kd.R_alloc | apply Kd.R_drewN | apply Kd.R_drew)); exact HO398.out) : p := h
theorem zPtA_13 {p : Prop} (h : p := by (with_reducible repeat (first | apply Kd.R_alloc | apply Kd.R_drewN | apply Kd.R_drew)); exact HO414.out) : p := h
theorem zPtA_16 {p : Prop} (h : p := by (with_reducible repeat (first | apply Kd.R_alloc | apply Kd.R_drewN | apply Kd.R_drew)); exact HO387.out) : p := h
theorem zPtA_17 {p : Prop} (h : p := by (with_reducible repeat (first | apply Kd.R_alloc | apply Kd.R_drewN | apply Kd.R_drew)); exact HO403.out) : p := h
theorem zPtA_18 {p : Prop} (h : p := by (with_reducible repeat (first | apply Kd.R_alloc | apply Kd.R_drewN | apply Kd.R_drew)); exact HO395.out) : p := h
theorem zPtA_19 {p : Prop} (h : p := by (with_reducible repeat (first | apply Kd.R_alloc | apply Kd.R_drewN | apply Kd.R_drew)); exact HO411.out) : p := h
theorem zPtA_23 {p : Prop} (h : p := by (with_reducible repeat (first | apply Kd.R_alloc | apply Kd.R_drewN | apply Kd.R_drew)); exact HO425.out) : p := h
theorem zPtA_24 {p : Prop} (h : p := by (with_reducible repeat (first | apply Kd.R_alloc | apply Kd.R_drewN | apply Kd.R_drew)); exact HO433.out) : p := h
theorem zPtA_34 {p : Prop} (h : p := by (with_reducible repeat (first | apply Kd.R_alloc | apply Kd.R_drewN | apply Kd.R_drew)); exact HO430.out) : p := h
theorem zPtA_35 {p : Prop} (h : p := by (with_reducible repeat (first | apply Kd.R_alloc | apply Kd.R_drewN | apply Kd.R_drew)); exact HO419.out) : p := h
theorem zPtA_36 {p : Prop} (h : p := by (with_reducible repeat (first | apply Kd.R_alloc | apply Kd.R_drewN | apply Kd.R_drew)); exact HO422.out) : p := h
theorem zPtA_49 {p : Prop} (h : p := by (with_reducible repeat (first | apply Kd.R_alloc | apply Kd.R_drewN | apply Kd.R_drew)); exact HO436.out) : p := h
theorem zPtA_1 {p : Prop} (h : p := by (with_reducible repeat (first | refine blk_drewN ?_ _ | refine blk_drew ?_ | refine blk_alloc ?_ _)); exact BK384.out) : p := h
theorem zPtA_2 {p : Prop} (h : p := by (with_reducible repeat (first | refine blk_drewN ?_ _ | refine blk_drew ?_ | refine blk_alloc ?_ _)); exact BK392.out) : p := h
theorem zPtA_4 {p : Prop} (h : p := by (with_reducible repeat (first | refine blk_drewN ?_ _ | refine blk_drew ?_ | refine blk_alloc ?_ _)); exact BK400.out) : p := h
theorem zPtA_6 {p : Prop} (h : p := by (with_reducible repeat (first | refine blk_drewN ?_ _ | refine blk_drew ?_ | refine blk_alloc ?_ _)); exact BK408.out) : p := h
theorem zPtA_14 {p : Prop} (h : p := by (with_reducible repeat (first | refine blk_drewN ?_ _ | refine blk_drew ?_ | refine blk_alloc ?_ _)); exact BK416.out) : p := h
theorem zPtA_25 {p : Prop} (h : p := by (with_reducible repeat (first | refine blk_drewN ?_ _ | refine blk_drew ?_ | refine blk_alloc ?_ _)); exact BK427.out) : p := h
theorem zPtA_22 {p : Prop} (h : p := by repeat (first | (with_reducible first | exact HB.out | apply below_alloc | apply pw_below_drewN | apply below_drew1) | exact HB.out)) : p := h
theorem zPtA_7 {p : Prop} (h : p := by (try simp only [List.map_toArray, List.map_cons, List.map_nil]); first | done | rfl | (simp only [List.length_drop, List.length_take]; rfl)) : p := h
theorem zPtA_21 {p : Prop} (h : p := by repeat (first | (with_reducible first | exact HB.out | apply below_alloc | apply pw_below_drewN | apply below_drew1 | refine below_set ?_ GE384.out) | exact HB.out)) : p := h
theorem zPtA_20 {p : Prop} (h : p := by repeat (first | (with_reducible first | exact HB.out | apply below_alloc | apply pw_below_drewN | apply below_drew1 | refine below_set ?_ GE384.out | refine below_set ?_ GE392.out) | exact HB.out)) : p := h
theorem zPtA_15 {p : Prop} (h : p := by repeat (first | (with_reducible first | exact HB.out | apply below_alloc | apply pw_below_drewN | apply below_drew1 | refine below_set ?_ GE384.out | refine below_set ?_ GE392.out | refine below_set ?_ GE400.out) | exact HB.out)) : p := h
theorem zPtA_10 {p : Prop} (h : p := by repeat (first | (with_reducible first | exact HB.out | apply below_alloc | apply pw_below_drewN | apply below_drew1 | refine below_set ?_ GE384.out | refine below_set ?_ GE392.out | refine below_set ?_ GE400.out | refine below_set ?_ GE408.out) | exact HB.out)) : p := h
theorem zPtA_3 {p : Prop} (h : p := by repeat (first | (with_reducible first | exact HB.out | apply below_alloc | apply pw_below_drewN | apply below_drew1 | refine below_set ?_ GE384.out | refine below_set ?_ GE392.out | refine below_set ?_ GE400.out | refine below_set ?_ GE408.out | refine below_set ?_ GE416.out) | exact HB.out)) : p := h
theorem zPtA_0 {p : Prop} (h : p := by repeat (first | (with_reducible first | exact HB.out | apply below_alloc | apply pw_below_drewN | apply below_drew1 | refine below_set ?_ GE384.out | refine below_set ?_ GE392.out | refine below_set ?_ GE400.out | refine below_set ?_ GE408.out | refine below_set ?_ GE416.out | refine below_set ?_ GE427.out) | exact HB.out)) : p := h
theorem zPtA_30 {p : Prop} (h : p := by (with_reducible repeat (first | apply Kd.R_alloc | apply Kd.R_drewN | apply Kd.R_drew)); exact (Kd.R_mono (Kd.R_far (p := ⟨gb384, 1, none⟩) (Kd.R_far (p := ⟨gb384, 0, none⟩) (Kd.R_types HO380.out BK384.out (by decide)) (fun _ hk => hk.2) (.slice Ao90 t378.length co90)) (fun _ hk => hk.2) (.slice Ao92 t381.length co92)) (fun _ h_ => h_.1))) : p := h
theorem zPtA_31 {p : Prop} (h : p := by (with_reducible repeat (first | apply Kd.R_alloc | apply Kd.R_drewN | apply Kd.R_drew)); exact (Kd.R_mono (Kd.R_far (p := ⟨gb384, 1, none⟩) (Kd.R_far (p := ⟨gb384, 0, none⟩) (Kd.R_types HO383.out BK384.out (by decide)) (fun _ hk => hk.2) (.slice Ao90 t378.length co90)) (fun _ hk => hk.2) (.slice Ao92 t381.length co92)) (fun _ h_ => h_.1))) : p := h
theorem zPtA_32 {p : Prop} (h : p := by (with_reducible repeat (first | apply Kd.R_alloc | apply Kd.R_drewN | apply Kd.R_drew)); exact (Kd.R_mono (Kd.R_far (p := ⟨gb392, 1, none⟩) (Kd.R_far (p := ⟨gb392, 0, none⟩) (Kd.R_types HO380.out BK392.out (by decide)) (fun _ hk => hk.2) (.slice Ao95 t385.length co95)) (fun _ hk => hk.2) (.slice Ao98 t388.length co98)) (fun _ h_ => h_.1))) : p := h
theorem zPtA_33 {p : Prop} (h : p := by (with_reducible repeat (first | apply Kd.R_alloc | apply Kd.R_drewN | apply Kd.R_drew)); exact (Kd.R_mono (Kd.R_far (p := ⟨gb392, 1, none⟩) (Kd.R_far (p := ⟨gb392, 0, none⟩) (Kd.R_types HO383.out BK392.out (by decide)) (fun _ hk => hk.2) (.slice Ao95 t385.length co95)) (fun _ hk => hk.2) (.slice Ao98 t388.length co98)) (fun _ h_ => h_.1))) : p := h
theorem zPtA_47 {p : Prop} (h : p := by (with_reducible repeat (first | apply Kd.R_alloc | apply Kd.R_drewN | apply Kd.R_drew)); exact (Kd.R_mono (Kd.R_far (p := ⟨gb392, 1, none⟩) (Kd.R_far (p := ⟨gb392, 0, none⟩) (Kd.R_types HO387.out BK392.out (by decide)) (fun _ hk => hk.2) (.slice Ao95 t385.length co95)) (fun _ hk => hk.2) (.slice Ao98 t388.length co98)) (fun _ h_ => h_.1))) : p := h
theorem zPtA_48 {p : Prop} (h : p := by (with_reducible repeat (first | apply Kd.R_alloc | apply Kd.R_drewN | apply Kd.R_drew)); exact (Kd.R_mono (Kd.R_far (p := ⟨gb392, 1, none⟩) (Kd.R_far (p := ⟨gb392, 0, none⟩) (Kd.R_types HO390.out BK392.out (by decide)) (fun _ hk => hk.2) (.slice Ao95 t385.length co95)) (fun _ hk => hk.2) (.slice Ao98 t388.length co98)) (fun _ h_ => h_.1))) : p := h
theorem zPtA_26 {p : Prop} (h : p := by (with_reducible repeat (first | apply Kd.R_alloc | apply Kd.R_drewN | apply Kd.R_drew)); exact (Kd.R_mono (Kd.R_far (p := ⟨gb400, 1, none⟩) (Kd.R_far (p := ⟨gb400, 0, none⟩) (Kd.R_types HO380.out BK400.out (by decide)) (fun _ hk => hk.2) (.slice Ao102 t393.length co102)) (fun _ hk => hk.2) (.slice Ao106 t396.length co106)) (fun _ h_ => h_.1))) : p := h
theorem zPtA_27 {p : Prop} (h : p := by (with_reducible repeat (first | apply Kd.R_alloc | apply Kd.R_drewN | apply Kd.R_drew)); exact (Kd.R_mono (Kd.R_far (p := ⟨gb400, 1, none⟩) (Kd.R_far (p := ⟨gb400, 0, none⟩) (Kd.R_types HO383.out BK400.out (by decide)) (fun _ hk => hk.2) (.slice Ao102 t393.length co102)) (fun _ hk => hk.2) (.slice Ao106 t396.length co106)) (fun _ h_ => h_.1))) : p := h
theorem zPtA_28 {p : Prop} (h : p := by (with_reducible repeat (first | apply Kd.R_alloc | apply Kd.R_drewN | apply Kd.R_drew)); exact (Kd.R_mono (Kd.R_far (p := ⟨gb408, 1, none⟩) (Kd.R_far (p := ⟨gb408, 0, none⟩) (Kd.R_types HO403.out BK408.out (by decide)) (fun _ hk => hk.2) (.slice Ao110 t401.length co110)) (fun _ hk => hk.2) (.slice Ao115 t404.length co115)) (fun _ h_ => h_.1))) : p := h
theorem zPtA_29 {p : Prop} (h : p := by (with_reducible repeat (first | apply Kd.R_alloc | apply Kd.R_drewN | apply Kd.R_drew)); exact (Kd.R_mono (Kd.R_far (p := ⟨gb408, 1, none⟩) (Kd.R_far (p := ⟨gb408, 0, none⟩) (Kd.R_types HO406.out BK408.out (by decide)) (fun _ hk => hk.2) (.slice Ao110 t401.length co110)) (fun _ hk => hk.2) (.slice Ao115 t404.length co115)) (fun _ h_ => h_.1))) : p := h
theorem zPtA_37 {p : Prop} (h : p := by (with_reducible repeat (first | apply Kd.R_alloc | apply Kd.R_drewN | apply Kd.R_drew)); exact (Kd.R_mono (Kd.R_far (p := ⟨gb400, 1, none⟩) (Kd.R_far (p := ⟨gb400, 0, none⟩) (Kd.R_types HO387.out BK400.out (by decide)) (fun _ hk => hk.2) (.slice Ao102 t393.length co102)) (fun _ hk => hk.2) (.slice Ao106 t396.length co106)) (fun _ h_ => h_.1))) : p := h
theorem zPtA_38 {p : Prop} (h : p := by (with_reducible repeat (first | apply Kd.R_alloc | apply Kd.R_drewN | apply Kd.R_drew)); exact (Kd.R_mono (Kd.R_far (p := ⟨gb400, 1, none⟩) (Kd.R_far (p := ⟨gb400, 0, none⟩) (Kd.R_types HO390.out BK400.out (by decide)) (fun _ hk => hk.2) (.slice Ao102 t393.length co102)) (fun _ hk => hk.2) (.slice Ao106 t396.length co106)) (fun _ h_ => h_.1))) : p := h
theorem zPtA_39 {p : Prop} (h : p := by (with_reducible repeat (first | apply Kd.R_alloc | apply Kd.R_drewN | apply Kd.R_drew)); exact (Kd.R_mono (Kd.R_far (p := ⟨gb400, 1, none⟩) (Kd.R_far (p := ⟨gb400, 0, none⟩) (Kd.R_types HO395.out BK400.out (by decide)) (fun _ hk => hk.2) (.slice Ao102 t393.length co102)) (fun _ hk => hk.2) (.slice Ao106 t396.length co106)) (fun _ h_ => h_.1))) : p := h
theorem zPtA_40 {p : Prop} (h : p := by (with_reducible repeat (first | apply Kd.R_alloc | apply Kd.R_drewN | apply Kd.R_drew)); exact (Kd.R_mono (Kd.R_far (p := ⟨gb400, 1, none⟩) (Kd.R_far (p := ⟨gb400, 0, none⟩) (Kd.R_types HO398.out BK400.out (by decide)) (fun _ hk => hk.2) (.slice Ao102 t393.length co102)) (fun _ hk => hk.2) (.slice Ao106 t396.length co106)) (fun _ h_ => h_.1))) : p := h
theorem zPtA_41 {p : Prop} (h : p := by (with_reducible repeat (first | apply Kd.R_alloc | apply Kd.R_drewN | apply Kd.R_drew)); exact (Kd.R_mono (Kd.R_far (p := ⟨gb408, 1, none⟩) (Kd.R_far (p := ⟨gb408, 0, none⟩) (Kd.R_types HO380.out BK408.out (by decide)) (fun _ hk => hk.2) (.slice Ao110 t401.length co110)) (fun _ hk => hk.2) (.slice Ao115 t404.length co115)) (fun _ h_ => h_.1))) : p := h
theorem zPtA_42 {p : Prop} (h : p := by (with_reducible repeat (first | apply Kd.R_alloc | apply Kd.R_drewN | apply Kd.R_drew)); exact (Kd.R_mono (Kd.R_far (p := ⟨gb408, 1, none⟩) (Kd.R_far (p := ⟨gb408, 0, none⟩) (Kd.R_types HO383.out BK408.out (by decide)) (fun _ hk => hk.2) (.slice Ao110 t401.length co110)) (fun _ hk => hk.2) (.slice Ao115 t404.length co115)) (fun _ h_ => h_.1))) : p := h
theorem zPtA_43 {p : Prop} (h : p := by (with_reducible repeat (first | apply Kd.R_alloc | apply Kd.R_drewN | apply Kd.R_drew)); exact (Kd.R_mono (Kd.R_far (p := ⟨gb408, 1, none⟩) (Kd.R_far (p := ⟨gb408, 0, none⟩) (Kd.R_types HO387.out BK408.out (by decide)) (fun _ hk => hk.2) (.slice Ao110 t401.length co110)) (fun _ hk => hk.2) (.slice Ao115 t404.length co115)) (fun _ h_ => h_.1))) : p := h
theorem zPtA_44 {p : Prop} (h : p := by (with_reducible repeat (first | apply Kd.R_alloc | apply Kd.R_drewN | apply Kd.R_drew)); exact (Kd.R_mono (Kd.R_far (p := ⟨gb408, 1, none⟩) (Kd.R_far (p := ⟨gb408, 0, none⟩) (Kd.R_types HO390.out BK408.out (by decide)) (fun _ hk => hk.2) (.slice Ao110 t401.length co110)) (fun _ hk => hk.2) (.slice Ao115 t404.length co115)) (fun _ h_ => h_.1))) : p := h
theorem zPtA_45 {p : Prop} (h : p := by (with_reducible repeat (first | apply Kd.R_alloc | apply Kd.R_drewN | apply Kd.R_drew)); exact (Kd.R_mono (Kd.R_far (p := ⟨gb408, 1, none⟩) (Kd.R_far (p := ⟨gb408, 0, none⟩) (Kd.R_types HO395.out BK408.out (by decide)) (fun _ hk => hk.2) (.slice Ao110 t401.length co110)) (fun _ hk => hk.2) (.slice Ao115 t404.length co115)) (fun _ h_ => h_.1))) : p := h
theorem zPtA_46 {p : Prop} (h : p := by (with_reducible repeat (first | apply Kd.R_alloc | apply Kd.R_drewN | apply Kd.R_drew)); exact (Kd.R_mono (Kd.R_far (p := ⟨gb408, 1, none⟩) (Kd.R_far (p := ⟨gb408, 0, none⟩) (Kd.R_types HO398.out BK408.out (by decide)) (fun _ hk => hk.2) (.slice Ao110 t401.length co110)) (fun _ hk => hk.2) (.slice Ao115 t404.length co115)) (fun _ h_ => h_.1))) : p := h
set_option linter.unusedVariables false
set_option linter.unusedSimpArgs false

/-! ### postroomlaw5_EntryParts: function 5 -/
def postroomlaw5_EntryPartsA.j0 : Nat → List Int → Int → List Int → Int → Bool → Bool → Option (Bool)
  | 0, _, _, _, _, _, _ => none
  | k + 1, x0, x1, x2, x3, x9, x28 => if x28 = true then (some x9) else ((postroomlaw5_entryOf.f k x0 x1 x2).bind fun bt378 => ((entry_Only.f k bt378.1 bt378.2 ([] : List (S43)) 0 (IntKind.u64.wrap (x3 - 1))).bind fun bt385 => ((entry_Only.f k bt378.1 bt378.2 ([] : List (S43)) x3 18446744073709551615).bind fun bt393 => ((entry_Only.f k bt378.1 bt378.2 ([] : List (S43)) 0 18446744073709551615).bind fun bt401 => ((entry_Only.f k bt401.1 bt401.2.1 ([] : List (S43)) 0 18446744073709551615).bind fun bt409 => ((entry_Only.f k bt378.1 bt378.2 (([(⟨(⟨#[110, 111, 110, 101]⟩ : ByteArray), (⟨#[120]⟩ : ByteArray), false⟩ : S43)] : List (S43))) 0 18446744073709551615).bind fun bt420 => ((some (([] : List (S54)) : List (S54))).bind fun y428 => (if y428.length + bt385.2.1.length < 8796093022208 then ((some (y428 ++ bt385.2.1 : List (S54))).bind fun y431 => (if y431.length + bt393.2.1.length < 8796093022208 then ((some (y431 ++ bt393.2.1 : List (S54))).bind fun y434 => (if bt385.2.2 = true then (if bt401.2.2 = true then (if bt409.2.2 = true then (if bt420.2.2 = true then (some false) else ((postroomref5_Canon.f k bt378.1 bt378.2).bind fun bt437 => ((postroomref5_Same.f k bt401.1 bt401.2.1 bt437.1 bt437.2).bind fun t443 => (if t443 = true then ((postroomref5_Same.f k bt409.1 bt409.2.1 bt401.1 bt401.2.1).bind fun t444 => (if t444 = true then ((postroomref4_Same.f k y434 bt378.2).bind fun t445 => (if t445 = true then (if (bt385.2.2 == (decide ((bt385.2.1.length : Int) > 0))) = true then (some (bt393.2.2 == (decide ((bt393.2.1.length : Int) > 0)))) else (some false)) else (some false))) else (some false))) else (some false))))) else (some false)) else (some false)) else (none))) else (none))) else (none)))))))))
def postroomlaw5_EntryPartsA.f (k : Nat) (l0 : List Int) (a1 : Int) (l2 : List Int) (a3 : Int) : Option (Bool) := (postroomlaw5_shown.f k).bind fun t377 => (if t377 = true then (postroomlaw5_EntryPartsA.j0 k l0 a1 l2 a3 t377 (a3 == 0)) else (postroomlaw5_EntryPartsA.j0 k l0 a1 l2 a3 t377 true))
theorem postroomlaw5_EntryPartsA.mono_l : ∀ k, (∀ y0 y1 y2 y3 y4 y5, LeO (postroomlaw5_EntryPartsA.j0 k y0 y1 y2 y3 y4 y5) (postroomlaw5_EntryPartsA.j0 (k + 1) y0 y1 y2 y3 y4 y5))
  | 0 => fun _ _ _ _ _ _ r h => by simp [postroomlaw5_EntryPartsA.j0] at h
  | k + 1 => by
    have ih0 := postroomlaw5_EntryPartsA.mono_l k
    · intro y0 y1 y2 y3 y4 y5
      unfold postroomlaw5_EntryPartsA.j0
      repeat' first
      | (with_reducible exact ih0 _ _ _ _ _ _)
      | (with_reducible exact entry_Only.mono _ _ _ _ _ _)
      | (with_reducible exact postroomlaw5_entryOf.mono _ _ _ _)
      | (with_reducible exact postroomlaw5_shown.mono _)
      | (with_reducible exact postroomref4_Same.mono _ _ _)
      | (with_reducible exact postroomref5_Canon.mono _ _ _)
      | (with_reducible exact postroomref5_Same.mono _ _ _ _ _)
      | (with_reducible exact LeO.refl _)
      | (with_reducible exact LeO.none _)
      | (with_reducible refine LeO.ite ?_ ?_)
      | (with_reducible refine LeO.bind ?_ (fun _ => ?_))
      | exact ih0 _ _ _ _ _ _
      | exact entry_Only.mono _ _ _ _ _ _
      | exact postroomlaw5_entryOf.mono _ _ _ _
      | exact postroomlaw5_shown.mono _
      | exact postroomref4_Same.mono _ _ _
      | exact postroomref5_Canon.mono _ _ _
      | exact postroomref5_Same.mono _ _ _ _ _
      | exact LeO.none _
      | refine LeO.ite ?_ ?_
      | refine LeO.bind ?_ (fun _ => ?_)
theorem postroomlaw5_EntryPartsA.mono : ∀ a0 a1 a2 a3 k, LeO (postroomlaw5_EntryPartsA.f k a0 a1 a2 a3) (postroomlaw5_EntryPartsA.f (k + 1) a0 a1 a2 a3) := by
  intro a0 a1 a2 a3 k
  have ih0 := postroomlaw5_EntryPartsA.mono_l k
  unfold postroomlaw5_EntryPartsA.f
  repeat' first
      | (with_reducible exact ih0 _ _ _ _ _ _)
      | (with_reducible exact entry_Only.mono _ _ _ _ _ _)
      | (with_reducible exact postroomlaw5_entryOf.mono _ _ _ _)
      | (with_reducible exact postroomlaw5_shown.mono _)
      | (with_reducible exact postroomref4_Same.mono _ _ _)
      | (with_reducible exact postroomref5_Canon.mono _ _ _)
      | (with_reducible exact postroomref5_Same.mono _ _ _ _ _)
      | (with_reducible exact LeO.refl _)
      | (with_reducible exact LeO.none _)
      | (with_reducible refine LeO.ite ?_ ?_)
      | (with_reducible refine LeO.bind ?_ (fun _ => ?_))
      | exact ih0 _ _ _ _ _ _
      | exact entry_Only.mono _ _ _ _ _ _
      | exact postroomlaw5_entryOf.mono _ _ _ _
      | exact postroomlaw5_shown.mono _
      | exact postroomref4_Same.mono _ _ _
      | exact postroomref5_Canon.mono _ _ _
      | exact postroomref5_Same.mono _ _ _ _ _
      | exact LeO.none _
      | refine LeO.ite ?_ ?_
      | refine LeO.bind ?_ (fun _ => ?_)
def postroomlaw5_EntryPartsA.T10 : Bool × List (List Nat × List Nat) := (true, [([], []), ([], []), ([1], [1]), ([0, 2], [0, 2]), ([], []), ([4], [4]), ([3, 5, 3], [3, 5]), ([6, 6, 0, 1, 2, 3, 4, 5, 6], [6])])
def postroomlaw5_EntryPartsA.B10 : List Nat := [0, 0, 2, 7, 0, 16, 63, 127]
theorem postroomlaw5_EntryPartsA.tab10 : rtab .any (opsOf Tryz.f5 10) = postroomlaw5_EntryPartsA.T10 := by kernel_rfl
theorem postroomlaw5_EntryPartsA.bits10 : waitsOk postroomlaw5_EntryPartsA.T10.2 postroomlaw5_EntryPartsA.B10 = true := by kernel_rfl
def postroomlaw5_EntryPartsA.T11 : Bool × List (List Nat × List Nat) := (true, [([], []), ([0], [0]), ([1], [1]), ([1, 2], [1, 2]), ([3, 1], [3]), ([4], [4]), ([4, 5], [4, 5]), ([6, 4], [6]), ([7], [7]), ([7, 8], [7, 8]), ([9, 7], [9]), ([10], [10]), ([11, 10], [10, 11]), ([10, 12], [10, 12]), ([13, 10], [13]), ([14], [14]), ([14], [14]), ([16, 14, 14], [14, 16]), ([15, 17, 17, 14], [14, 15, 17]), ([14, 18], [14, 18]), ([19, 18], [19]), ([20], [20]), ([20], [20]), ([21, 22, 20, 20], [20, 21, 22]), ([20, 23], [20, 23]), ([24, 23], [24]), ([25], [25]), ([25], [25]), ([27, 25], [25, 27]), ([26, 28, 25, 25], [25, 26, 28]), ([25, 29], [25, 29]), ([30, 29], [30]), ([31], [31]), ([31], [31]), ([33, 31], [31, 33]), ([34, 31], [31, 34]), ([35, 31], [31, 35]), ([32, 36, 31], [31, 32, 36]), ([31, 37], [31, 37]), ([38, 31], [38]), ([39], [39]), ([39], [39]), ([41, 39], [39, 41]), ([42, 39], [39, 42]), ([43, 39], [39, 43]), ([40, 44, 39], [39, 40, 44]), ([39, 45], [39, 45]), ([46, 39, 0, 1, 2, 3, 4, 5, 6, 7, 8, 9, 10, 11, 12, 13, 14, 15, 16, 17, 18, 19, 20, 21, 22, 23, 24, 25, 26, 27, 28, 29, 30, 31, 32, 33, 34, 35, 36, 37, 38, 39, 40, 41, 42, 43, 44, 45, 46], [46])])
def postroomlaw5_EntryPartsA.B11 : List Nat := [0, 1, 3, 7, 15, 31, 63, 127, 255, 511, 1023, 2047, 4095, 8191, 16383, 32767, 32767, 98303, 262143, 524287, 1048575, 2097151, 2097151, 8388607, 16777215, 33554431, 67108863, 67108863, 201326591, 536870911, 1073741823, 2147483647, 4294967295, 4294967295, 12884901887, 30064771071, 64424509439, 137438953471, 274877906943, 549755813887, 1099511627775, 1099511627775, 3298534883327, 7696581394431, 16492674416639, 35184372088831, 70368744177663, 140737488355327]
theorem postroomlaw5_EntryPartsA.tab11 : rtab .any (opsOf Tryz.f5 11) = postroomlaw5_EntryPartsA.T11 := by kernel_rfl
theorem postroomlaw5_EntryPartsA.bits11 : waitsOk postroomlaw5_EntryPartsA.T11.2 postroomlaw5_EntryPartsA.B11 = true := by kernel_rfl
set_option maxHeartbeats 8000000 in
set_option maxRecDepth 100000 in
theorem postroomlaw5_EntryPartsA.calls (k : Nat) (A0 : Option Addr) (c0 : Nat) (l0 : List Int) (a1 : Int) (A2 : Option Addr) (c2 : Nat) (l2 : List Int) (a3 : Int) (r : Bool) (w : World) (hr0 : Kd.C (Kd.int .i64) w A0 l0.length l0) (hc0 : l0.length ≤ c0) (hr2 : Kd.C (Kd.int .i64) w A2 l2.length l2) (hc2 : l2.length ≤ c2) (hrt : Aside0 (r = true)) (h : postroomlaw5_EntryPartsA.f k l0 a1 l2 a3 = some r) :
    Calls Tryz.prog 5 #[.slice A0 l0.length c0, .int .u64 a1, .slice A2 l2.length c2, .int .u64 a3] w fun e w' => e = .returned (.bool r) ∧ Below w.heap.size w w' := by
  have hu25 := Tryz.underlying25
  have hu43 := Tryz.underlying43
  have HR0 := Aside0.mk hr0
  have HC0 := Aside0.mk hc0
  clear hr0 hc0
  have HR2 := Aside0.mk hr2
  have HC2 := Aside0.mk hc2
  clear hr2 hc2
  have HB := Aside0.mk (Below.refl w.heap.size w)
  have H : ((postroomlaw5_shown.f k).bind fun t377 => (if t377 = true then (postroomlaw5_EntryPartsA.j0 k l0 a1 l2 a3 t377 (a3 == 0)) else (postroomlaw5_EntryPartsA.j0 k l0 a1 l2 a3 t377 true))) = some r := h
  clear h
  replace H := Option.bind_eq_some_iff.mp H
  obtain ⟨t377, A50, H⟩ := H
  replace H : (if t377 = true then (postroomlaw5_EntryPartsA.j0 k l0 a1 l2 a3 t377 (a3 == 0)) else (postroomlaw5_EntryPartsA.j0 k l0 a1 l2 a3 t377 true)) = some r := H
  have A5 := Aside0.mk A50
  clear A50
  have HC6 := Aside0.mk H
  clear H
  go_enter Tryz.func5, Tryz.ntmps5
  go_upto_region 2 with (first | ((with_reducible refine gate_callee (f := 6) rfl ?_); refine goesL_ (some 22) rfl rfl Tryz.func6 (by kernel_rfl) rfl #[] rfl zPtA_7 ?_; (with_reducible refine (postroomlaw5_shown.calls k  t377 _ A5.out).mono ?_); rintro e w7 ⟨rfl, hb⟩; refine ⟨_, rfl, ?_⟩; have n0_ := Aside0.mk (below_step zPtA_22 hb); clear HB; have HB := n0_; clear n0_; (try clear hb); (try clear hb2); (try clear hk); (try clear hi)))
  (try simp only [Act.put, List.setIfInBounds_toArray, List.set_cons_zero, List.set_cons_succ])
  go_cut [28] (fun v28 wc => ∃ (kq : Nat) (x28_5 : Bool), v28 = .bool x28_5 ∧ Aside0 (postroomlaw5_EntryPartsA.j0 kq l0 a1 l2 a3 t377 x28_5 = some r) ∧ Aside0 (kq ≤ k) ∧ Aside0 (Below w.heap.size w wc))
  case first =>
    have H := HC6.out
    clear HC6
    by_cases c8 : t377 = true
    · subst c8
      have H1 : (postroomlaw5_EntryPartsA.j0 k l0 a1 l2 a3 true (a3 == 0)) = some r := by rw [if_pos rfl] at H; exact H
      clear H
      have H := H1
      clear H1
      have H' := Aside0.mk H
      clear H
      go_wp2
      go_meet
      case rel => exact ⟨_, ((a3 == 0)), (by first | rfl | (simp; done) | (simp [*]; done)), H', ⟨by first | omega | exact Nat.le_refl _⟩, ⟨by repeat (first | (with_reducible first | exact HB.out | apply below_alloc | apply pw_below_drewN | apply below_drew1) | exact HB.out)⟩⟩
    · replace c8 := Bool.eq_false_iff.mpr c8
      subst c8
      have H1 : (postroomlaw5_EntryPartsA.j0 k l0 a1 l2 a3 false true) = some r := by rw [if_neg (show ¬ (false = true) by decide)] at H; exact H
      clear H
      have H := H1
      clear H1
      have H' := Aside0.mk H
      clear H
      go_wp2
      go_meet
      case rel => exact ⟨_, (true), (by first | rfl | (simp; done) | (simp [*]; done)), H', ⟨by first | omega | exact Nat.le_refl _⟩, ⟨by repeat (first | (with_reducible first | exact HB.out | apply below_alloc | apply pw_below_drewN | apply below_drew1) | exact HB.out)⟩⟩
  case rest =>
    clear HC6
    try clear c2
    try clear p2
    try clear c5
    try clear c6
    try clear c8
    obtain ⟨kq, x28_5, rfl, HA, HJ5, HB⟩ := hcut
    cases kq with
    | zero => exact absurd HA.out (by simp [postroomlaw5_EntryPartsA.j0])
    | succ kj5 =>
      have H := HA.out
      clear HA
      simp only [postroomlaw5_EntryPartsA.j0] at H
      by_cases c9 : x28_5 = true
      · subst c9
        have H1 : (some t377) = some r := by rw [if_pos rfl] at H; exact H
        clear H
        have H := H1
        clear H1
        obtain rfl := Option.some.inj H
        go_wp2
        go_ret
        exact ⟨by first | rfl | (simp [errW_none, errW_some] <;> rfl) | (simp [*, errW_none, errW_some] <;> rfl), by repeat (first | (with_reducible first | exact HB.out | apply below_alloc | apply pw_below_drewN | apply below_drew1) | exact HB.out)⟩
      · replace c9 := Bool.eq_false_iff.mpr c9
        subst c9
        have H1 : ((postroomlaw5_entryOf.f kj5 l0 a1 l2).bind fun bt378 => ((entry_Only.f kj5 bt378.1 bt378.2 ([] : List (S43)) 0 (IntKind.u64.wrap (a3 - 1))).bind fun bt385 => ((entry_Only.f kj5 bt378.1 bt378.2 ([] : List (S43)) a3 18446744073709551615).bind fun bt393 => ((entry_Only.f kj5 bt378.1 bt378.2 ([] : List (S43)) 0 18446744073709551615).bind fun bt401 => ((entry_Only.f kj5 bt401.1 bt401.2.1 ([] : List (S43)) 0 18446744073709551615).bind fun bt409 => ((entry_Only.f kj5 bt378.1 bt378.2 (([(⟨(⟨#[110, 111, 110, 101]⟩ : ByteArray), (⟨#[120]⟩ : ByteArray), false⟩ : S43)] : List (S43))) 0 18446744073709551615).bind fun bt420 => ((some (([] : List (S54)) : List (S54))).bind fun y428 => (if y428.length + bt385.2.1.length < 8796093022208 then ((some (y428 ++ bt385.2.1 : List (S54))).bind fun y431 => (if y431.length + bt393.2.1.length < 8796093022208 then ((some (y431 ++ bt393.2.1 : List (S54))).bind fun y434 => (if bt385.2.2 = true then (if bt401.2.2 = true then (if bt409.2.2 = true then (if bt420.2.2 = true then (some false) else ((postroomref5_Canon.f kj5 bt378.1 bt378.2).bind fun bt437 => ((postroomref5_Same.f kj5 bt401.1 bt401.2.1 bt437.1 bt437.2).bind fun t443 => (if t443 = true then ((postroomref5_Same.f kj5 bt409.1 bt409.2.1 bt401.1 bt401.2.1).bind fun t444 => (if t444 = true then ((postroomref4_Same.f kj5 y434 bt378.2).bind fun t445 => (if t445 = true then (if (bt385.2.2 == (decide ((bt385.2.1.length : Int) > 0))) = true then (some (bt393.2.2 == (decide ((bt393.2.1.length : Int) > 0)))) else (some false)) else (some false))) else (some false))) else (some false))))) else (some false)) else (some false)) else (none))) else (none))) else (none))))))))) = some r := by rw [if_neg (show ¬ (false = true) by decide)] at H; exact H
        clear H
        have H := H1
        clear H1
        replace H := Option.bind_eq_some_iff.mp H
        obtain ⟨⟨t378, t381⟩, A100, H⟩ := H
        replace H : ((entry_Only.f kj5 t378 t381 ([] : List (S43)) 0 (IntKind.u64.wrap (a3 - 1))).bind fun bt385 => ((entry_Only.f kj5 t378 t381 ([] : List (S43)) a3 18446744073709551615).bind fun bt393 => ((entry_Only.f kj5 t378 t381 ([] : List (S43)) 0 18446744073709551615).bind fun bt401 => ((entry_Only.f kj5 bt401.1 bt401.2.1 ([] : List (S43)) 0 18446744073709551615).bind fun bt409 => ((entry_Only.f kj5 t378 t381 (([(⟨(⟨#[110, 111, 110, 101]⟩ : ByteArray), (⟨#[120]⟩ : ByteArray), false⟩ : S43)] : List (S43))) 0 18446744073709551615).bind fun bt420 => ((some (([] : List (S54)) : List (S54))).bind fun y428 => (if y428.length + bt385.2.1.length < 8796093022208 then ((some (y428 ++ bt385.2.1 : List (S54))).bind fun y431 => (if y431.length + bt393.2.1.length < 8796093022208 then ((some (y431 ++ bt393.2.1 : List (S54))).bind fun y434 => (if bt385.2.2 = true then (if bt401.2.2 = true then (if bt409.2.2 = true then (if bt420.2.2 = true then (some false) else ((postroomref5_Canon.f kj5 t378 t381).bind fun bt437 => ((postroomref5_Same.f kj5 bt401.1 bt401.2.1 bt437.1 bt437.2).bind fun t443 => (if t443 = true then ((postroomref5_Same.f kj5 bt409.1 bt409.2.1 bt401.1 bt401.2.1).bind fun t444 => (if t444 = true then ((postroomref4_Same.f kj5 y434 t381).bind fun t445 => (if t445 = true then (if (bt385.2.2 == (decide ((bt385.2.1.length : Int) > 0))) = true then (some (bt393.2.2 == (decide ((bt393.2.1.length : Int) > 0)))) else (some false)) else (some false))) else (some false))) else (some false))))) else (some false)) else (some false)) else (none))) else (none))) else (none)))))))) = some r := H
        have A10 := Aside0.mk A100
        clear A100
        replace H := Option.bind_eq_some_iff.mp H
        obtain ⟨⟨t385, t388, t391⟩, A110, H⟩ := H
        replace H : ((entry_Only.f kj5 t378 t381 ([] : List (S43)) a3 18446744073709551615).bind fun bt393 => ((entry_Only.f kj5 t378 t381 ([] : List (S43)) 0 18446744073709551615).bind fun bt401 => ((entry_Only.f kj5 bt401.1 bt401.2.1 ([] : List (S43)) 0 18446744073709551615).bind fun bt409 => ((entry_Only.f kj5 t378 t381 (([(⟨(⟨#[110, 111, 110, 101]⟩ : ByteArray), (⟨#[120]⟩ : ByteArray), false⟩ : S43)] : List (S43))) 0 18446744073709551615).bind fun bt420 => ((some (([] : List (S54)) : List (S54))).bind fun y428 => (if y428.length + t388.length < 8796093022208 then ((some (y428 ++ t388 : List (S54))).bind fun y431 => (if y431.length + bt393.2.1.length < 8796093022208 then ((some (y431 ++ bt393.2.1 : List (S54))).bind fun y434 => (if t391 = true then (if bt401.2.2 = true then (if bt409.2.2 = true then (if bt420.2.2 = true then (some false) else ((postroomref5_Canon.f kj5 t378 t381).bind fun bt437 => ((postroomref5_Same.f kj5 bt401.1 bt401.2.1 bt437.1 bt437.2).bind fun t443 => (if t443 = true then ((postroomref5_Same.f kj5 bt409.1 bt409.2.1 bt401.1 bt401.2.1).bind fun t444 => (if t444 = true then ((postroomref4_Same.f kj5 y434 t381).bind fun t445 => (if t445 = true then (if (t391 == (decide ((t388.length : Int) > 0))) = true then (some (bt393.2.2 == (decide ((bt393.2.1.length : Int) > 0)))) else (some false)) else (some false))) else (some false))) else (some false))))) else (some false)) else (some false)) else (none))) else (none))) else (none))))))) = some r := H
        have A11 := Aside0.mk A110
        clear A110
        replace H := Option.bind_eq_some_iff.mp H
        obtain ⟨⟨t393, t396, t399⟩, A120, H⟩ := H
        replace H : ((entry_Only.f kj5 t378 t381 ([] : List (S43)) 0 18446744073709551615).bind fun bt401 => ((entry_Only.f kj5 bt401.1 bt401.2.1 ([] : List (S43)) 0 18446744073709551615).bind fun bt409 => ((entry_Only.f kj5 t378 t381 (([(⟨(⟨#[110, 111, 110, 101]⟩ : ByteArray), (⟨#[120]⟩ : ByteArray), false⟩ : S43)] : List (S43))) 0 18446744073709551615).bind fun bt420 => ((some (([] : List (S54)) : List (S54))).bind fun y428 => (if y428.length + t388.length < 8796093022208 then ((some (y428 ++ t388 : List (S54))).bind fun y431 => (if y431.length + t396.length < 8796093022208 then ((some (y431 ++ t396 : List (S54))).bind fun y434 => (if t391 = true then (if bt401.2.2 = true then (if bt409.2.2 = true then (if bt420.2.2 = true then (some false) else ((postroomref5_Canon.f kj5 t378 t381).bind fun bt437 => ((postroomref5_Same.f kj5 bt401.1 bt401.2.1 bt437.1 bt437.2).bind fun t443 => (if t443 = true then ((postroomref5_Same.f kj5 bt409.1 bt409.2.1 bt401.1 bt401.2.1).bind fun t444 => (if t444 = true then ((postroomref4_Same.f kj5 y434 t381).bind fun t445 => (if t445 = true then (if (t391 == (decide ((t388.length : Int) > 0))) = true then (some (t399 == (decide ((t396.length : Int) > 0)))) else (some false)) else (some false))) else (some false))) else (some false))))) else (some false)) else (some false)) else (none))) else (none))) else (none)))))) = some r := H
        have A12 := Aside0.mk A120
        clear A120
        replace H := Option.bind_eq_some_iff.mp H
        obtain ⟨⟨t401, t404, t407⟩, A130, H⟩ := H
        replace H : ((entry_Only.f kj5 t401 t404 ([] : List (S43)) 0 18446744073709551615).bind fun bt409 => ((entry_Only.f kj5 t378 t381 (([(⟨(⟨#[110, 111, 110, 101]⟩ : ByteArray), (⟨#[120]⟩ : ByteArray), false⟩ : S43)] : List (S43))) 0 18446744073709551615).bind fun bt420 => ((some (([] : List (S54)) : List (S54))).bind fun y428 => (if y428.length + t388.length < 8796093022208 then ((some (y428 ++ t388 : List (S54))).bind fun y431 => (if y431.length + t396.length < 8796093022208 then ((some (y431 ++ t396 : List (S54))).bind fun y434 => (if t391 = true then (if t407 = true then (if bt409.2.2 = true then (if bt420.2.2 = true then (some false) else ((postroomref5_Canon.f kj5 t378 t381).bind fun bt437 => ((postroomref5_Same.f kj5 t401 t404 bt437.1 bt437.2).bind fun t443 => (if t443 = true then ((postroomref5_Same.f kj5 bt409.1 bt409.2.1 t401 t404).bind fun t444 => (if t444 = true then ((postroomref4_Same.f kj5 y434 t381).bind fun t445 => (if t445 = true then (if (t391 == (decide ((t388.length : Int) > 0))) = true then (some (t399 == (decide ((t396.length : Int) > 0)))) else (some false)) else (some false))) else (some false))) else (some false))))) else (some false)) else (some false)) else (none))) else (none))) else (none))))) = some r := H
        have A13 := Aside0.mk A130
        clear A130
        replace H := Option.bind_eq_some_iff.mp H
        obtain ⟨⟨t409, t412, t415⟩, A140, H⟩ := H
        replace H : ((entry_Only.f kj5 t378 t381 (([(⟨(⟨#[110, 111, 110, 101]⟩ : ByteArray), (⟨#[120]⟩ : ByteArray), false⟩ : S43)] : List (S43))) 0 18446744073709551615).bind fun bt420 => ((some (([] : List (S54)) : List (S54))).bind fun y428 => (if y428.length + t388.length < 8796093022208 then ((some (y428 ++ t388 : List (S54))).bind fun y431 => (if y431.length + t396.length < 8796093022208 then ((some (y431 ++ t396 : List (S54))).bind fun y434 => (if t391 = true then (if t407 = true then (if t415 = true then (if bt420.2.2 = true then (some false) else ((postroomref5_Canon.f kj5 t378 t381).bind fun bt437 => ((postroomref5_Same.f kj5 t401 t404 bt437.1 bt437.2).bind fun t443 => (if t443 = true then ((postroomref5_Same.f kj5 t409 t412 t401 t404).bind fun t444 => (if t444 = true then ((postroomref4_Same.f kj5 y434 t381).bind fun t445 => (if t445 = true then (if (t391 == (decide ((t388.length : Int) > 0))) = true then (some (t399 == (decide ((t396.length : Int) > 0)))) else (some false)) else (some false))) else (some false))) else (some false))))) else (some false)) else (some false)) else (none))) else (none))) else (none)))) = some r := H
        have A14 := Aside0.mk A140
        clear A140
        obtain ⟨y417, hy417⟩ : ∃ y_ : List (S43), y_ = (([(⟨(⟨#[110, 111, 110, 101]⟩ : ByteArray), (⟨#[120]⟩ : ByteArray), false⟩ : S43)] : List (S43))) := ⟨_, rfl⟩
        replace H : ((entry_Only.f kj5 t378 t381 y417 0 18446744073709551615).bind fun bt420 => ((some (([] : List (S54)) : List (S54))).bind fun y428 => (if y428.length + t388.length < 8796093022208 then ((some (y428 ++ t388 : List (S54))).bind fun y431 => (if y431.length + t396.length < 8796093022208 then ((some (y431 ++ t396 : List (S54))).bind fun y434 => (if t391 = true then (if t407 = true then (if t415 = true then (if bt420.2.2 = true then (some false) else ((postroomref5_Canon.f kj5 t378 t381).bind fun bt437 => ((postroomref5_Same.f kj5 t401 t404 bt437.1 bt437.2).bind fun t443 => (if t443 = true then ((postroomref5_Same.f kj5 t409 t412 t401 t404).bind fun t444 => (if t444 = true then ((postroomref4_Same.f kj5 y434 t381).bind fun t445 => (if t445 = true then (if (t391 == (decide ((t388.length : Int) > 0))) = true then (some (t399 == (decide ((t396.length : Int) > 0)))) else (some false)) else (some false))) else (some false))) else (some false))))) else (some false)) else (some false)) else (none))) else (none))) else (none)))) = some r := by first | (rw [hy417]; with_reducible exact H) | (have H2_ := (Option.bind_some _ _).symm.trans H; rw [hy417]; with_reducible exact H2_) | (have H2_ := (Option.bind_some _ _).symm.trans H; with_reducible exact H2_) | with_reducible exact H | (rw [hy417]; exact H) | exact H
        have Ny417 := Aside0.mk hy417
        clear hy417
        replace H := Option.bind_eq_some_iff.mp H
        obtain ⟨⟨t420, t423, t426⟩, A150, H⟩ := H
        replace H : ((some (([] : List (S54)) : List (S54))).bind fun y428 => (if y428.length + t388.length < 8796093022208 then ((some (y428 ++ t388 : List (S54))).bind fun y431 => (if y431.length + t396.length < 8796093022208 then ((some (y431 ++ t396 : List (S54))).bind fun y434 => (if t391 = true then (if t407 = true then (if t415 = true then (if t426 = true then (some false) else ((postroomref5_Canon.f kj5 t378 t381).bind fun bt437 => ((postroomref5_Same.f kj5 t401 t404 bt437.1 bt437.2).bind fun t443 => (if t443 = true then ((postroomref5_Same.f kj5 t409 t412 t401 t404).bind fun t444 => (if t444 = true then ((postroomref4_Same.f kj5 y434 t381).bind fun t445 => (if t445 = true then (if (t391 == (decide ((t388.length : Int) > 0))) = true then (some (t399 == (decide ((t396.length : Int) > 0)))) else (some false)) else (some false))) else (some false))) else (some false))))) else (some false)) else (some false)) else (none))) else (none))) else (none))) = some r := H
        have A15 := Aside0.mk A150
        clear A150
        obtain ⟨y428, hy428⟩ : ∃ y_ : List (S54), y_ = (([] : List (S54))) := ⟨_, rfl⟩
        replace H : (if y428.length + t388.length < 8796093022208 then ((some (y428 ++ t388 : List (S54))).bind fun y431 => (if y431.length + t396.length < 8796093022208 then ((some (y431 ++ t396 : List (S54))).bind fun y434 => (if t391 = true then (if t407 = true then (if t415 = true then (if t426 = true then (some false) else ((postroomref5_Canon.f kj5 t378 t381).bind fun bt437 => ((postroomref5_Same.f kj5 t401 t404 bt437.1 bt437.2).bind fun t443 => (if t443 = true then ((postroomref5_Same.f kj5 t409 t412 t401 t404).bind fun t444 => (if t444 = true then ((postroomref4_Same.f kj5 y434 t381).bind fun t445 => (if t445 = true then (if (t391 == (decide ((t388.length : Int) > 0))) = true then (some (t399 == (decide ((t396.length : Int) > 0)))) else (some false)) else (some false))) else (some false))) else (some false))))) else (some false)) else (some false)) else (none))) else (none))) else (none)) = some r := by first | (rw [hy428]; with_reducible exact H) | (have H2_ := (Option.bind_some _ _).symm.trans H; rw [hy428]; with_reducible exact H2_) | (have H2_ := (Option.bind_some _ _).symm.trans H; with_reducible exact H2_) | with_reducible exact H | (rw [hy428]; exact H) | exact H
        have Ny428 := Aside0.mk hy428
        clear hy428
        by_cases c16 : y428.length + t388.length < 8796093022208
        · rw [if_pos c16] at H
          have LMc16 := Aside0.mk c16
          clear c16
          obtain ⟨y431, hy431⟩ : ∃ y_ : List (S54), y_ = (y428 ++ t388) := ⟨_, rfl⟩
          replace H : (if y431.length + t396.length < 8796093022208 then ((some (y431 ++ t396 : List (S54))).bind fun y434 => (if t391 = true then (if t407 = true then (if t415 = true then (if t426 = true then (some false) else ((postroomref5_Canon.f kj5 t378 t381).bind fun bt437 => ((postroomref5_Same.f kj5 t401 t404 bt437.1 bt437.2).bind fun t443 => (if t443 = true then ((postroomref5_Same.f kj5 t409 t412 t401 t404).bind fun t444 => (if t444 = true then ((postroomref4_Same.f kj5 y434 t381).bind fun t445 => (if t445 = true then (if (t391 == (decide ((t388.length : Int) > 0))) = true then (some (t399 == (decide ((t396.length : Int) > 0)))) else (some false)) else (some false))) else (some false))) else (some false))))) else (some false)) else (some false)) else (none))) else (none)) = some r := by first | (rw [hy431]; with_reducible exact H) | (have H2_ := (Option.bind_some _ _).symm.trans H; rw [hy431]; with_reducible exact H2_) | (have H2_ := (Option.bind_some _ _).symm.trans H; with_reducible exact H2_) | with_reducible exact H | (rw [hy431]; exact H) | exact H
          have Ny431 := Aside0.mk hy431
          clear hy431
          by_cases c17 : y431.length + t396.length < 8796093022208
          · rw [if_pos c17] at H
            have LMc17 := Aside0.mk c17
            clear c17
            obtain ⟨y434, hy434⟩ : ∃ y_ : List (S54), y_ = (y431 ++ t396) := ⟨_, rfl⟩
            replace H : (if t391 = true then (if t407 = true then (if t415 = true then (if t426 = true then (some false) else ((postroomref5_Canon.f kj5 t378 t381).bind fun bt437 => ((postroomref5_Same.f kj5 t401 t404 bt437.1 bt437.2).bind fun t443 => (if t443 = true then ((postroomref5_Same.f kj5 t409 t412 t401 t404).bind fun t444 => (if t444 = true then ((postroomref4_Same.f kj5 y434 t381).bind fun t445 => (if t445 = true then (if (t391 == (decide ((t388.length : Int) > 0))) = true then (some (t399 == (decide ((t396.length : Int) > 0)))) else (some false)) else (some false))) else (some false))) else (some false))))) else (some false)) else (some false)) else (none)) = some r := by first | (rw [hy434]; with_reducible exact H) | (have H2_ := (Option.bind_some _ _).symm.trans H; rw [hy434]; with_reducible exact H2_) | (have H2_ := (Option.bind_some _ _).symm.trans H; with_reducible exact H2_) | with_reducible exact H | (rw [hy434]; exact H) | exact H
            have Ny434 := Aside0.mk hy434
            clear hy434
            by_cases c18 : t391 = true
            · subst c18
              have H1 : (if t407 = true then (if t415 = true then (if t426 = true then (some false) else ((postroomref5_Canon.f kj5 t378 t381).bind fun bt437 => ((postroomref5_Same.f kj5 t401 t404 bt437.1 bt437.2).bind fun t443 => (if t443 = true then ((postroomref5_Same.f kj5 t409 t412 t401 t404).bind fun t444 => (if t444 = true then ((postroomref4_Same.f kj5 y434 t381).bind fun t445 => (if t445 = true then (if (true == (decide ((t388.length : Int) > 0))) = true then (some (t399 == (decide ((t396.length : Int) > 0)))) else (some false)) else (some false))) else (some false))) else (some false))))) else (some false)) else (some false)) = some r := by rw [if_pos rfl] at H; exact H
              clear H
              have H := H1
              clear H1
              by_cases c19 : t407 = true
              · subst c19
                have H1 : (if t415 = true then (if t426 = true then (some false) else ((postroomref5_Canon.f kj5 t378 t381).bind fun bt437 => ((postroomref5_Same.f kj5 t401 t404 bt437.1 bt437.2).bind fun t443 => (if t443 = true then ((postroomref5_Same.f kj5 t409 t412 t401 t404).bind fun t444 => (if t444 = true then ((postroomref4_Same.f kj5 y434 t381).bind fun t445 => (if t445 = true then (if (true == (decide ((t388.length : Int) > 0))) = true then (some (t399 == (decide ((t396.length : Int) > 0)))) else (some false)) else (some false))) else (some false))) else (some false))))) else (some false)) = some r := by rw [if_pos rfl] at H; exact H
                clear H
                have H := H1
                clear H1
                by_cases c20 : t415 = true
                · subst c20
                  have H1 : (if t426 = true then (some false) else ((postroomref5_Canon.f kj5 t378 t381).bind fun bt437 => ((postroomref5_Same.f kj5 t401 t404 bt437.1 bt437.2).bind fun t443 => (if t443 = true then ((postroomref5_Same.f kj5 t409 t412 t401 t404).bind fun t444 => (if t444 = true then ((postroomref4_Same.f kj5 y434 t381).bind fun t445 => (if t445 = true then (if (true == (decide ((t388.length : Int) > 0))) = true then (some (t399 == (decide ((t396.length : Int) > 0)))) else (some false)) else (some false))) else (some false))) else (some false))))) = some r := by rw [if_pos rfl] at H; exact H
                  clear H
                  have H := H1
                  clear H1
                  by_cases c21 : t426 = true
                  · subst c21
                    have H1 : (some false) = some r := by rw [if_pos rfl] at H; exact H
                    clear H
                    have H := H1
                    clear H1
                    exact absurd ((Option.some.inj H).trans hrt.out) (by decide)
                  · replace c21 := Bool.eq_false_iff.mpr c21
                    subst c21
                    have H1 : ((postroomref5_Canon.f kj5 t378 t381).bind fun bt437 => ((postroomref5_Same.f kj5 t401 t404 bt437.1 bt437.2).bind fun t443 => (if t443 = true then ((postroomref5_Same.f kj5 t409 t412 t401 t404).bind fun t444 => (if t444 = true then ((postroomref4_Same.f kj5 y434 t381).bind fun t445 => (if t445 = true then (if (true == (decide ((t388.length : Int) > 0))) = true then (some (t399 == (decide ((t396.length : Int) > 0)))) else (some false)) else (some false))) else (some false))) else (some false)))) = some r := by rw [if_neg (show ¬ (false = true) by decide)] at H; exact H
                    clear H
                    have H := H1
                    clear H1
                    replace H := Option.bind_eq_some_iff.mp H
                    obtain ⟨⟨t437, t440⟩, A800, H⟩ := H
                    replace H : ((postroomref5_Same.f kj5 t401 t404 t437 t440).bind fun t443 => (if t443 = true then ((postroomref5_Same.f kj5 t409 t412 t401 t404).bind fun t444 => (if t444 = true then ((postroomref4_Same.f kj5 y434 t381).bind fun t445 => (if t445 = true then (if (true == (decide ((t388.length : Int) > 0))) = true then (some (t399 == (decide ((t396.length : Int) > 0)))) else (some false)) else (some false))) else (some false))) else (some false))) = some r := H
                    have A80 := Aside0.mk A800
                    clear A800
                    replace H := Option.bind_eq_some_iff.mp H
                    obtain ⟨t443, A810, H⟩ := H
                    replace H : (if t443 = true then ((postroomref5_Same.f kj5 t409 t412 t401 t404).bind fun t444 => (if t444 = true then ((postroomref4_Same.f kj5 y434 t381).bind fun t445 => (if t445 = true then (if (true == (decide ((t388.length : Int) > 0))) = true then (some (t399 == (decide ((t396.length : Int) > 0)))) else (some false)) else (some false))) else (some false))) else (some false)) = some r := H
                    have A81 := Aside0.mk A810
                    clear A810
                    by_cases c82 : t443 = true
                    · subst c82
                      have H1 : ((postroomref5_Same.f kj5 t409 t412 t401 t404).bind fun t444 => (if t444 = true then ((postroomref4_Same.f kj5 y434 t381).bind fun t445 => (if t445 = true then (if (true == (decide ((t388.length : Int) > 0))) = true then (some (t399 == (decide ((t396.length : Int) > 0)))) else (some false)) else (some false))) else (some false))) = some r := by rw [if_pos rfl] at H; exact H
                      clear H
                      have H := H1
                      clear H1
                      replace H := Option.bind_eq_some_iff.mp H
                      obtain ⟨t444, A830, H⟩ := H
                      replace H : (if t444 = true then ((postroomref4_Same.f kj5 y434 t381).bind fun t445 => (if t445 = true then (if (true == (decide ((t388.length : Int) > 0))) = true then (some (t399 == (decide ((t396.length : Int) > 0)))) else (some false)) else (some false))) else (some false)) = some r := H
                      have A83 := Aside0.mk A830
                      clear A830
                      by_cases c84 : t444 = true
                      · subst c84
                        have H1 : ((postroomref4_Same.f kj5 y434 t381).bind fun t445 => (if t445 = true then (if (true == (decide ((t388.length : Int) > 0))) = true then (some (t399 == (decide ((t396.length : Int) > 0)))) else (some false)) else (some false))) = some r := by rw [if_pos rfl] at H; exact H
                        clear H
                        have H := H1
                        clear H1
                        replace H := Option.bind_eq_some_iff.mp H
                        obtain ⟨t445, A850, H⟩ := H
                        replace H : (if t445 = true then (if (true == (decide ((t388.length : Int) > 0))) = true then (some (t399 == (decide ((t396.length : Int) > 0)))) else (some false)) else (some false)) = some r := H
                        have A85 := Aside0.mk A850
                        clear A850
                        by_cases c86 : t445 = true
                        · subst c86
                          have H1 : (if (true == (decide ((t388.length : Int) > 0))) = true then (some (t399 == (decide ((t396.length : Int) > 0)))) else (some false)) = some r := by rw [if_pos rfl] at H; exact H
                          clear H
                          have H := H1
                          clear H1
                          by_cases c87 : (true == (decide ((t388.length : Int) > 0))) = true
                          · rw [if_pos c87] at H
                            have c87b0 : (true == (decide ((t388.length : Int) > 0))) = true := c87
                            (try (have c87b1 : decide (true = (decide ((t388.length : Int) > 0))) = true := by simpa using c87))
                            (try (have c87b2 : (true == (decide ((t388.length : Int) > 0))) = true := by simpa using c87))
                            (try (have c87b3 : decide (0 < (t388.length : Int)) = true := by simpa using c87))
                            (try (have c87b4 : decide ((t388.length : Int) > 0) = true := by simpa using c87))
                            (try (have c87b5 : decide (0 < t388.length) = true := by simpa using c87))
                            clear c87
                            obtain rfl := Option.some.inj H
                            try go_wp2_with (first | ((with_reducible refine gate_callee (f := 21) rfl ?_); refine goesL_ (some 33) rfl rfl Tryz.func21 (by kernel_rfl) rfl #[.slice A0 l0.length c0, .int .u64 a1, .slice A2 l2.length c2] rfl zPtA_7 ?_; (with_reducible refine (postroomlaw5_entryOf.calls kj5 _ _ l0 a1 _ _ l2 t378 t381 _ ?side1 ?side2 ?side3 ?side4 A10.out).mono ?_); (case side1 => repeat (first | exact (Kd.C_below HR0.out HB.out) | (with_reducible refine Kd.C_alloc ?_ _) | (with_reducible refine Kd.C_drewN ?_ _) | (with_reducible refine Kd.C_drew ?_))); (case side2 => exact HC0.out); (case side3 => repeat (first | exact (Kd.C_below HR2.out HB.out) | (with_reducible refine Kd.C_alloc ?_ _) | (with_reducible refine Kd.C_drewN ?_ _) | (with_reducible refine Kd.C_drew ?_))); (case side4 => exact HC2.out); rintro e w88 ⟨v379, v382, rfl, ho0, ho1, hb⟩; refine ⟨_, rfl, ?_⟩; have n0_ := Aside0.mk (Kd.R_lower ho0 (below_size zPtA_22)); have n1_ := Aside0.mk (Kd.R_lower ho1 (below_size zPtA_22)); have n2_ := Aside0.mk (below_step zPtA_22 hb); clear HB; have HO380 := n0_; have HO383 := n1_; have HB := n2_; clear n0_ n1_ n2_; (try clear hb); (try clear hb2); (try clear hk); (try clear hi); (try clear ho0); (try clear ho1)) | ((with_reducible refine gate_dst (N := 10) rfl ?_); (try (refine gate_guard (by rfl) ?_; dsimp only)); refine box_event ?hg (N := 10) ?hd (cs := #[.slice none 0 0, .slice none 0 0]) (t := 25) ?hr ?_; (case hd => rfl); (case hg => rfl); (case hr => first | (go_simp; done) | (go_simp; rfl)); intro gb384 hg w89 hbox hb; have n0_ := Aside0.mk (Kd.R_below zPtA_11 hb); have n1_ := Aside0.mk (Kd.R_below zPtA_5 hb); have n2_ := Aside0.mk (below_step zPtA_22 hb); have n3_ := Aside0.mk (hbox); have n4_ := Aside0.mk ((by rw [hg]; exact (below_size zPtA_22) : w.heap.size ≤ gb384)); have n5_ := Aside0.mk ((by rw [hg]; exact (below_size zPtA_22) : w.heap.size ≤ gb384)); (try clear HO380); (try clear HO383); clear HB; have HO380 := n0_; have HO383 := n1_; have HB := n2_; have BK384 := n3_; have GW384 := n4_; have GE384 := n5_; clear n0_ n1_ n2_ n3_ n4_ n5_; clear hb hbox hg; obtain ⟨Ao90, co90, eo90⟩ := Kd.R_slice HO380.out; subst eo90; have hcz91_0 : w89.cell? ⟨gb384, 0, none⟩ = some (.slice none 0 0) := (blk_cell BK384.out 0).trans rfl; have hcz91_1 : w89.cell? ⟨gb384, 1, none⟩ = some (.slice none 0 0) := (blk_cell BK384.out 1).trans rfl; have hfz91_0 := blk_frozen BK384.out 0; have hfz91_1 := blk_frozen BK384.out 1; obtain ⟨Ao92, co92, eo92⟩ := Kd.R_slice HO383.out; subst eo92) | ((with_reducible refine gate_callee (f := 17) rfl ?_); refine goesL_ (some 38) rfl rfl Tryz.func17 (by kernel_rfl) rfl #[.agg #[.slice Ao90 t378.length co90, .slice Ao92 t381.length co92], .slice none 0 0, .int .u64 0, .int .u64 (IntKind.u64.wrap (a3 - 1))] rfl zPtA_7 ?_; (refine (entry_Only.calls kj5 _ _ t378 _ _ t381 _ _ ([] : List (S43)) 0 (IntKind.u64.wrap (a3 - 1)) t385 t388 true _ ?side1 ?side2 ?side3 ?side4 ?side5 ?side6 A11.out).mono ?_); (case side1 => refine (Kd.R_reads' (e := 52) (base := w.heap.size) (ok := fun k_ => True) (n := t378.length) (c := co90) ?_).2.2; exact zPtA_30); (case side2 => exact (Kd.R_reads' HO380.out).2.1); (case side3 => refine (Kd.R_reads' (e := 54) (base := w.heap.size) (ok := fun k_ => True) (n := t381.length) (c := co92) ?_).2.2; exact zPtA_31); (case side4 => exact (Kd.R_reads' HO383.out).2.1); (case side5 => exact Kd.C_nil _ _); (case side6 => exact Nat.le_refl _); rintro e w93 ⟨v386, v389, rfl, ho0, ho1, hb⟩; refine ⟨_, rfl, ?_⟩; have n0_ := Aside0.mk (Kd.R_elder' zPtA_30 (Kd.R_base ho0) hb); have n1_ := Aside0.mk (Kd.R_elder' zPtA_31 (Kd.R_base ho1) hb); have n2_ := Aside0.mk (Kd.R_lower (Kd.R_new' ho0 (Kd.R_lt zPtA_30)) (below_size zPtA_21)); have n3_ := Aside0.mk (Kd.R_lower (Kd.R_new' ho1 (Kd.R_lt zPtA_31)) (below_size zPtA_21)); have n4_ := Aside0.mk (blk_below (g := gb384) (o := .cells #[.slice Ao90 t378.length co90, .slice Ao92 t381.length co92] 25 (0, 0)) (by (with_reducible repeat (first | refine blk_drewN ?_ _ | refine blk_drew ?_ | refine blk_alloc ?_ _)); refine blk_put (cs := #[.slice Ao90 t378.length co90, .slice none 0 0]) ?_ 1 _ rfl; (with_reducible repeat (first | refine blk_drewN ?_ _ | refine blk_drew ?_ | refine blk_alloc ?_ _)); refine blk_put (cs := #[.slice none 0 0, .slice none 0 0]) ?_ 0 _ rfl; (with_reducible repeat (first | refine blk_drewN ?_ _ | refine blk_drew ?_ | refine blk_alloc ?_ _)); exact BK384.out) hb); have n5_ := Aside0.mk (below_step zPtA_21 hb); (try clear HO380); (try clear HO383); clear BK384; clear HB; have HO380 := n0_; have HO383 := n1_; have HO387 := n2_; have HO390 := n3_; have BK384 := n4_; have HB := n5_; clear n0_ n1_ n2_ n3_ n4_ n5_; (try clear hb); (try clear hb2); (try clear hk); (try clear hi); (try clear ho0); (try clear ho1)) | ((with_reducible refine gate_dst (N := 11) rfl ?_); (try (refine gate_guard (by rfl) ?_; dsimp only)); refine box_event ?hg (N := 11) ?hd (cs := #[.slice none 0 0, .slice none 0 0]) (t := 25) ?hr ?_; (case hd => rfl); (case hg => rfl); (case hr => first | (go_simp; done) | (go_simp; rfl)); intro gb392 hg w94 hbox hb; have n0_ := Aside0.mk (Kd.R_below zPtA_11 hb); have n1_ := Aside0.mk (Kd.R_below zPtA_5 hb); have n2_ := Aside0.mk (Kd.R_below zPtA_16 hb); have n3_ := Aside0.mk (Kd.R_below zPtA_8 hb); have n4_ := Aside0.mk (blk_below (g := gb384) (o := .cells #[.slice Ao90 t378.length co90, .slice Ao92 t381.length co92] 25 (0, 0)) zPtA_1 hb); have n5_ := Aside0.mk (below_step zPtA_21 hb); have n6_ := Aside0.mk (hbox); have n7_ := Aside0.mk ((by rw [hg]; exact (below_size zPtA_21) : w.heap.size ≤ gb392)); have n8_ := Aside0.mk ((by rw [hg]; exact (below_size zPtA_21) : w.heap.size ≤ gb392)); have n9_ := Aside0.mk ((by rw [hg]; exact Nat.ne_of_lt (blk_lt (g := gb384) (o := .cells #[.slice Ao90 t378.length co90, .slice Ao92 t381.length co92] 25 (0, 0)) zPtA_1) : gb384 ≠ gb392)); have n10_ := Aside0.mk ((by rw [hg]; exact Nat.ne_of_gt (blk_lt (g := gb384) (o := .cells #[.slice Ao90 t378.length co90, .slice Ao92 t381.length co92] 25 (0, 0)) zPtA_1) : gb392 ≠ gb384)); (try clear HO380); (try clear HO383); (try clear HO387); (try clear HO390); clear BK384; clear HB; have HO380 := n0_; have HO383 := n1_; have HO387 := n2_; have HO390 := n3_; have BK384 := n4_; have HB := n5_; have BK392 := n6_; have GW392 := n7_; have GE392 := n8_; have NB384_392 := n9_; have NB392_384 := n10_; clear n0_ n1_ n2_ n3_ n4_ n5_ n6_ n7_ n8_ n9_ n10_; clear hb hbox hg; obtain ⟨Ao95, co95, eo95⟩ := Kd.R_slice HO387.out; subst eo95; have hnb96 := NB392_384.out; have hnc96 := NB384_392.out; have hcz97_0 : w94.cell? ⟨gb392, 0, none⟩ = some (.slice none 0 0) := (blk_cell BK392.out 0).trans rfl; have hcz97_1 : w94.cell? ⟨gb392, 1, none⟩ = some (.slice none 0 0) := (blk_cell BK392.out 1).trans rfl; have hfz97_0 := blk_frozen BK392.out 0; have hfz97_1 := blk_frozen BK392.out 1; obtain ⟨Ao98, co98, eo98⟩ := Kd.R_slice HO390.out; subst eo98; have hcz99_0 : w94.cell? ⟨gb384, 0, none⟩ = some (.slice Ao90 t378.length co90) := (blk_cell BK384.out 0).trans rfl; have hcz99_1 : w94.cell? ⟨gb384, 1, none⟩ = some (.slice Ao92 t381.length co92) := (blk_cell BK384.out 1).trans rfl; have hfz99_0 := blk_frozen BK384.out 0; have hfz99_1 := blk_frozen BK384.out 1) | ((with_reducible refine gate_callee (f := 17) rfl ?_); refine goesL_ (some 44) rfl rfl Tryz.func17 (by kernel_rfl) rfl #[.agg #[.slice Ao90 t378.length co90, .slice Ao92 t381.length co92], .slice none 0 0, .int .u64 a3, .int .u64 18446744073709551615] rfl zPtA_7 ?_; (refine (entry_Only.calls kj5 _ _ t378 _ _ t381 _ _ ([] : List (S43)) a3 18446744073709551615 t393 t396 t399 _ ?side1 ?side2 ?side3 ?side4 ?side5 ?side6 A12.out).mono ?_); (case side1 => refine (Kd.R_reads' (e := 52) (base := w.heap.size) (ok := fun k_ => (True ∧ some k_ ≠ (.slice Ao95 t385.length co95 : Value).ownBlock)) (n := t378.length) (c := co90) ?_).2.2; exact zPtA_32); (case side2 => exact (Kd.R_reads' HO380.out).2.1); (case side3 => refine (Kd.R_reads' (e := 54) (base := w.heap.size) (ok := fun k_ => (True ∧ some k_ ≠ (.slice Ao98 t388.length co98 : Value).ownBlock)) (n := t381.length) (c := co92) ?_).2.2; exact zPtA_33); (case side4 => exact (Kd.R_reads' HO383.out).2.1); (case side5 => exact Kd.C_nil _ _); (case side6 => exact Nat.le_refl _); rintro e w100 ⟨v394, v397, rfl, ho0, ho1, hb⟩; refine ⟨_, rfl, ?_⟩; have n0_ := Aside0.mk (Kd.R_elder' zPtA_32 (Kd.R_base ho0) hb); have n1_ := Aside0.mk (Kd.R_elder' zPtA_33 (Kd.R_base ho1) hb); have n2_ := Aside0.mk (Kd.R_elder' zPtA_47 (Kd.R_base ho0) hb); have n3_ := Aside0.mk (Kd.R_elder' zPtA_48 (Kd.R_base ho1) hb); have n4_ := Aside0.mk (Kd.R_lower (Kd.R_new' (Kd.R_new' ho0 (Kd.R_lt zPtA_32)) (Kd.R_lt zPtA_47)) (below_size zPtA_20)); have n5_ := Aside0.mk (Kd.R_lower (Kd.R_new' (Kd.R_new' ho1 (Kd.R_lt zPtA_33)) (Kd.R_lt zPtA_48)) (below_size zPtA_20)); have n6_ := Aside0.mk (blk_below (g := gb384) (o := .cells #[.slice Ao90 t378.length co90, .slice Ao92 t381.length co92] 25 (0, 0)) (by (with_reducible repeat (first | refine blk_drewN ?_ _ | refine blk_drew ?_ | refine blk_alloc ?_ _)); refine blk_far ?_ NB384_392.out _; (with_reducible repeat (first | refine blk_drewN ?_ _ | refine blk_drew ?_ | refine blk_alloc ?_ _)); refine blk_far ?_ NB384_392.out _; (with_reducible repeat (first | refine blk_drewN ?_ _ | refine blk_drew ?_ | refine blk_alloc ?_ _)); exact BK384.out) hb); have n7_ := Aside0.mk (blk_below (g := gb392) (o := .cells #[.slice Ao95 t385.length co95, .slice Ao98 t388.length co98] 25 (0, 0)) (by (with_reducible repeat (first | refine blk_drewN ?_ _ | refine blk_drew ?_ | refine blk_alloc ?_ _)); refine blk_put (cs := #[.slice Ao95 t385.length co95, .slice none 0 0]) ?_ 1 _ rfl; (with_reducible repeat (first | refine blk_drewN ?_ _ | refine blk_drew ?_ | refine blk_alloc ?_ _)); refine blk_put (cs := #[.slice none 0 0, .slice none 0 0]) ?_ 0 _ rfl; (with_reducible repeat (first | refine blk_drewN ?_ _ | refine blk_drew ?_ | refine blk_alloc ?_ _)); exact BK392.out) hb); have n8_ := Aside0.mk (below_step zPtA_20 hb); (try clear HO380); (try clear HO383); (try clear HO387); (try clear HO390); clear BK384; clear BK392; clear HB; have HO380 := n0_; have HO383 := n1_; have HO387 := n2_; have HO390 := n3_; have HO395 := n4_; have HO398 := n5_; have BK384 := n6_; have BK392 := n7_; have HB := n8_; clear n0_ n1_ n2_ n3_ n4_ n5_ n6_ n7_ n8_; (try clear hb); (try clear hb2); (try clear hk); (try clear hi); (try clear ho0); (try clear ho1)) | ((with_reducible refine gate_dst (N := 13) rfl ?_); (try (refine gate_guard (by rfl) ?_; dsimp only)); refine box_event ?hg (N := 13) ?hd (cs := #[.slice none 0 0, .slice none 0 0]) (t := 25) ?hr ?_; (case hd => rfl); (case hg => rfl); (case hr => first | (go_simp; done) | (go_simp; rfl)); intro gb400 hg w101 hbox hb; have n0_ := Aside0.mk (Kd.R_below zPtA_11 hb); have n1_ := Aside0.mk (Kd.R_below zPtA_5 hb); have n2_ := Aside0.mk (Kd.R_below zPtA_16 hb); have n3_ := Aside0.mk (Kd.R_below zPtA_8 hb); have n4_ := Aside0.mk (Kd.R_below zPtA_18 hb); have n5_ := Aside0.mk (Kd.R_below zPtA_12 hb); have n6_ := Aside0.mk (blk_below (g := gb384) (o := .cells #[.slice Ao90 t378.length co90, .slice Ao92 t381.length co92] 25 (0, 0)) zPtA_1 hb); have n7_ := Aside0.mk (blk_below (g := gb392) (o := .cells #[.slice Ao95 t385.length co95, .slice Ao98 t388.length co98] 25 (0, 0)) zPtA_2 hb); have n8_ := Aside0.mk (below_step zPtA_20 hb); have n9_ := Aside0.mk (hbox); have n10_ := Aside0.mk ((by rw [hg]; exact (below_size zPtA_20) : w.heap.size ≤ gb400)); have n11_ := Aside0.mk ((by rw [hg]; exact (below_size zPtA_20) : w.heap.size ≤ gb400)); have n12_ := Aside0.mk ((by rw [hg]; exact Nat.ne_of_lt (blk_lt (g := gb384) (o := .cells #[.slice Ao90 t378.length co90, .slice Ao92 t381.length co92] 25 (0, 0)) zPtA_1) : gb384 ≠ gb400)); have n13_ := Aside0.mk ((by rw [hg]; exact Nat.ne_of_gt (blk_lt (g := gb384) (o := .cells #[.slice Ao90 t378.length co90, .slice Ao92 t381.length co92] 25 (0, 0)) zPtA_1) : gb400 ≠ gb384)); have n14_ := Aside0.mk ((by rw [hg]; exact Nat.ne_of_lt (blk_lt (g := gb392) (o := .cells #[.slice Ao95 t385.length co95, .slice Ao98 t388.length co98] 25 (0, 0)) zPtA_2) : gb392 ≠ gb400)); have n15_ := Aside0.mk ((by rw [hg]; exact Nat.ne_of_gt (blk_lt (g := gb392) (o := .cells #[.slice Ao95 t385.length co95, .slice Ao98 t388.length co98] 25 (0, 0)) zPtA_2) : gb400 ≠ gb392)); (try clear HO380); (try clear HO383); (try clear HO387); (try clear HO390); (try clear HO395); (try clear HO398); clear BK384; clear BK392; clear HB; have HO380 := n0_; have HO383 := n1_; have HO387 := n2_; have HO390 := n3_; have HO395 := n4_; have HO398 := n5_; have BK384 := n6_; have BK392 := n7_; have HB := n8_; have BK400 := n9_; have GW400 := n10_; have GE400 := n11_; have NB384_400 := n12_; have NB400_384 := n13_; have NB392_400 := n14_; have NB400_392 := n15_; clear n0_ n1_ n2_ n3_ n4_ n5_ n6_ n7_ n8_ n9_ n10_ n11_ n12_ n13_ n14_ n15_; clear hb hbox hg; obtain ⟨Ao102, co102, eo102⟩ := Kd.R_slice HO395.out; subst eo102; have hnb103 := NB400_384.out; have hnc103 := NB384_400.out; have hnb104 := NB400_392.out; have hnc104 := NB392_400.out; have hcz105_0 : w101.cell? ⟨gb400, 0, none⟩ = some (.slice none 0 0) := (blk_cell BK400.out 0).trans rfl; have hcz105_1 : w101.cell? ⟨gb400, 1, none⟩ = some (.slice none 0 0) := (blk_cell BK400.out 1).trans rfl; have hfz105_0 := blk_frozen BK400.out 0; have hfz105_1 := blk_frozen BK400.out 1; obtain ⟨Ao106, co106, eo106⟩ := Kd.R_slice HO398.out; subst eo106; have hcz107_0 : w101.cell? ⟨gb384, 0, none⟩ = some (.slice Ao90 t378.length co90) := (blk_cell BK384.out 0).trans rfl; have hcz107_1 : w101.cell? ⟨gb384, 1, none⟩ = some (.slice Ao92 t381.length co92) := (blk_cell BK384.out 1).trans rfl; have hfz107_0 := blk_frozen BK384.out 0; have hfz107_1 := blk_frozen BK384.out 1) | ((with_reducible refine gate_callee (f := 17) rfl ?_); refine goesL_ (some 49) rfl rfl Tryz.func17 (by kernel_rfl) rfl #[.agg #[.slice Ao90 t378.length co90, .slice Ao92 t381.length co92], .slice none 0 0, .int .u64 0, .int .u64 18446744073709551615] rfl zPtA_7 ?_; (refine (entry_Only.calls kj5 _ _ t378 _ _ t381 _ _ ([] : List (S43)) 0 18446744073709551615 t401 t404 true _ ?side1 ?side2 ?side3 ?side4 ?side5 ?side6 A13.out).mono ?_); (case side1 => refine (Kd.R_reads' (e := 52) (base := w.heap.size) (ok := fun k_ => ((True ∧ some k_ ≠ (.slice Ao95 t385.length co95 : Value).ownBlock) ∧ some k_ ≠ (.slice Ao102 t393.length co102 : Value).ownBlock)) (n := t378.length) (c := co90) ?_).2.2; exact zPtA_26); (case side2 => exact (Kd.R_reads' HO380.out).2.1); (case side3 => refine (Kd.R_reads' (e := 54) (base := w.heap.size) (ok := fun k_ => ((True ∧ some k_ ≠ (.slice Ao98 t388.length co98 : Value).ownBlock) ∧ some k_ ≠ (.slice Ao106 t396.length co106 : Value).ownBlock)) (n := t381.length) (c := co92) ?_).2.2; exact zPtA_27); (case side4 => exact (Kd.R_reads' HO383.out).2.1); (case side5 => exact Kd.C_nil _ _); (case side6 => exact Nat.le_refl _); rintro e w108 ⟨v402, v405, rfl, ho0, ho1, hb⟩; refine ⟨_, rfl, ?_⟩; have n0_ := Aside0.mk (Kd.R_elder' zPtA_26 (Kd.R_base ho0) hb); have n1_ := Aside0.mk (Kd.R_elder' zPtA_27 (Kd.R_base ho1) hb); have n2_ := Aside0.mk (Kd.R_elder' zPtA_37 (Kd.R_base ho0) hb); have n3_ := Aside0.mk (Kd.R_elder' zPtA_38 (Kd.R_base ho1) hb); have n4_ := Aside0.mk (Kd.R_elder' zPtA_39 (Kd.R_base ho0) hb); have n5_ := Aside0.mk (Kd.R_elder' zPtA_40 (Kd.R_base ho1) hb); have n6_ := Aside0.mk (Kd.R_lower (Kd.R_new' (Kd.R_new' (Kd.R_new' ho0 (Kd.R_lt zPtA_26)) (Kd.R_lt zPtA_37)) (Kd.R_lt zPtA_39)) (below_size zPtA_15)); have n7_ := Aside0.mk (Kd.R_lower (Kd.R_new' (Kd.R_new' (Kd.R_new' ho1 (Kd.R_lt zPtA_27)) (Kd.R_lt zPtA_38)) (Kd.R_lt zPtA_40)) (below_size zPtA_15)); have n8_ := Aside0.mk (blk_below (g := gb384) (o := .cells #[.slice Ao90 t378.length co90, .slice Ao92 t381.length co92] 25 (0, 0)) (by (with_reducible repeat (first | refine blk_drewN ?_ _ | refine blk_drew ?_ | refine blk_alloc ?_ _)); refine blk_far ?_ NB384_400.out _; (with_reducible repeat (first | refine blk_drewN ?_ _ | refine blk_drew ?_ | refine blk_alloc ?_ _)); refine blk_far ?_ NB384_400.out _; (with_reducible repeat (first | refine blk_drewN ?_ _ | refine blk_drew ?_ | refine blk_alloc ?_ _)); exact BK384.out) hb); have n9_ := Aside0.mk (blk_below (g := gb392) (o := .cells #[.slice Ao95 t385.length co95, .slice Ao98 t388.length co98] 25 (0, 0)) (by (with_reducible repeat (first | refine blk_drewN ?_ _ | refine blk_drew ?_ | refine blk_alloc ?_ _)); refine blk_far ?_ NB392_400.out _; (with_reducible repeat (first | refine blk_drewN ?_ _ | refine blk_drew ?_ | refine blk_alloc ?_ _)); refine blk_far ?_ NB392_400.out _; (with_reducible repeat (first | refine blk_drewN ?_ _ | refine blk_drew ?_ | refine blk_alloc ?_ _)); exact BK392.out) hb); have n10_ := Aside0.mk (blk_below (g := gb400) (o := .cells #[.slice Ao102 t393.length co102, .slice Ao106 t396.length co106] 25 (0, 0)) (by (with_reducible repeat (first | refine blk_drewN ?_ _ | refine blk_drew ?_ | refine blk_alloc ?_ _)); refine blk_put (cs := #[.slice Ao102 t393.length co102, .slice none 0 0]) ?_ 1 _ rfl; (with_reducible repeat (first | refine blk_drewN ?_ _ | refine blk_drew ?_ | refine blk_alloc ?_ _)); refine blk_put (cs := #[.slice none 0 0, .slice none 0 0]) ?_ 0 _ rfl; (with_reducible repeat (first | refine blk_drewN ?_ _ | refine blk_drew ?_ | refine blk_alloc ?_ _)); exact BK400.out) hb); have n11_ := Aside0.mk (below_step zPtA_15 hb); (try clear HO380); (try clear HO383); (try clear HO387); (try clear HO390); (try clear HO395); (try clear HO398); clear BK384; clear BK392; clear BK400; clear HB; have HO380 := n0_; have HO383 := n1_; have HO387 := n2_; have HO390 := n3_; have HO395 := n4_; have HO398 := n5_; have HO403 := n6_; have HO406 := n7_; have BK384 := n8_; have BK392 := n9_; have BK400 := n10_; have HB := n11_; clear n0_ n1_ n2_ n3_ n4_ n5_ n6_ n7_ n8_ n9_ n10_ n11_; (try clear hb); (try clear hb2); (try clear hk); (try clear hi); (try clear ho0); (try clear ho1)) | ((with_reducible refine gate_dst (N := 15) rfl ?_); (try (refine gate_guard (by rfl) ?_; dsimp only)); refine box_event ?hg (N := 15) ?hd (cs := #[.slice none 0 0, .slice none 0 0]) (t := 25) ?hr ?_; (case hd => rfl); (case hg => rfl); (case hr => first | (go_simp; done) | (go_simp; rfl)); intro gb408 hg w109 hbox hb; have n0_ := Aside0.mk (Kd.R_below zPtA_11 hb); have n1_ := Aside0.mk (Kd.R_below zPtA_5 hb); have n2_ := Aside0.mk (Kd.R_below zPtA_16 hb); have n3_ := Aside0.mk (Kd.R_below zPtA_8 hb); have n4_ := Aside0.mk (Kd.R_below zPtA_18 hb); have n5_ := Aside0.mk (Kd.R_below zPtA_12 hb); have n6_ := Aside0.mk (Kd.R_below zPtA_17 hb); have n7_ := Aside0.mk (Kd.R_below zPtA_9 hb); have n8_ := Aside0.mk (blk_below (g := gb384) (o := .cells #[.slice Ao90 t378.length co90, .slice Ao92 t381.length co92] 25 (0, 0)) zPtA_1 hb); have n9_ := Aside0.mk (blk_below (g := gb392) (o := .cells #[.slice Ao95 t385.length co95, .slice Ao98 t388.length co98] 25 (0, 0)) zPtA_2 hb); have n10_ := Aside0.mk (blk_below (g := gb400) (o := .cells #[.slice Ao102 t393.length co102, .slice Ao106 t396.length co106] 25 (0, 0)) zPtA_4 hb); have n11_ := Aside0.mk (below_step zPtA_15 hb); have n12_ := Aside0.mk (hbox); have n13_ := Aside0.mk ((by rw [hg]; exact (below_size zPtA_15) : w.heap.size ≤ gb408)); have n14_ := Aside0.mk ((by rw [hg]; exact (below_size zPtA_15) : w.heap.size ≤ gb408)); have n15_ := Aside0.mk ((by rw [hg]; exact Nat.ne_of_lt (blk_lt (g := gb384) (o := .cells #[.slice Ao90 t378.length co90, .slice Ao92 t381.length co92] 25 (0, 0)) zPtA_1) : gb384 ≠ gb408)); have n16_ := Aside0.mk ((by rw [hg]; exact Nat.ne_of_gt (blk_lt (g := gb384) (o := .cells #[.slice Ao90 t378.length co90, .slice Ao92 t381.length co92] 25 (0, 0)) zPtA_1) : gb408 ≠ gb384)); have n17_ := Aside0.mk ((by rw [hg]; exact Nat.ne_of_lt (blk_lt (g := gb392) (o := .cells #[.slice Ao95 t385.length co95, .slice Ao98 t388.length co98] 25 (0, 0)) zPtA_2) : gb392 ≠ gb408)); have n18_ := Aside0.mk ((by rw [hg]; exact Nat.ne_of_gt (blk_lt (g := gb392) (o := .cells #[.slice Ao95 t385.length co95, .slice Ao98 t388.length co98] 25 (0, 0)) zPtA_2) : gb408 ≠ gb392)); have n19_ := Aside0.mk ((by rw [hg]; exact Nat.ne_of_lt (blk_lt (g := gb400) (o := .cells #[.slice Ao102 t393.length co102, .slice Ao106 t396.length co106] 25 (0, 0)) zPtA_4) : gb400 ≠ gb408)); have n20_ := Aside0.mk ((by rw [hg]; exact Nat.ne_of_gt (blk_lt (g := gb400) (o := .cells #[.slice Ao102 t393.length co102, .slice Ao106 t396.length co106] 25 (0, 0)) zPtA_4) : gb408 ≠ gb400)); (try clear HO380); (try clear HO383); (try clear HO387); (try clear HO390); (try clear HO395); (try clear HO398); (try clear HO403); (try clear HO406); clear BK384; clear BK392; clear BK400; clear HB; have HO380 := n0_; have HO383 := n1_; have HO387 := n2_; have HO390 := n3_; have HO395 := n4_; have HO398 := n5_; have HO403 := n6_; have HO406 := n7_; have BK384 := n8_; have BK392 := n9_; have BK400 := n10_; have HB := n11_; have BK408 := n12_; have GW408 := n13_; have GE408 := n14_; have NB384_408 := n15_; have NB408_384 := n16_; have NB392_408 := n17_; have NB408_392 := n18_; have NB400_408 := n19_; have NB408_400 := n20_; clear n0_ n1_ n2_ n3_ n4_ n5_ n6_ n7_ n8_ n9_ n10_ n11_ n12_ n13_ n14_ n15_ n16_ n17_ n18_ n19_ n20_; clear hb hbox hg; obtain ⟨Ao110, co110, eo110⟩ := Kd.R_slice HO403.out; subst eo110; have hnb111 := NB408_384.out; have hnc111 := NB384_408.out; have hnb112 := NB408_392.out; have hnc112 := NB392_408.out; have hnb113 := NB408_400.out; have hnc113 := NB400_408.out; have hcz114_0 : w109.cell? ⟨gb408, 0, none⟩ = some (.slice none 0 0) := (blk_cell BK408.out 0).trans rfl; have hcz114_1 : w109.cell? ⟨gb408, 1, none⟩ = some (.slice none 0 0) := (blk_cell BK408.out 1).trans rfl; have hfz114_0 := blk_frozen BK408.out 0; have hfz114_1 := blk_frozen BK408.out 1; obtain ⟨Ao115, co115, eo115⟩ := Kd.R_slice HO406.out; subst eo115) | ((with_reducible refine gate_callee (f := 17) rfl ?_); refine goesL_ (some 54) rfl rfl Tryz.func17 (by kernel_rfl) rfl #[.agg #[.slice Ao110 t401.length co110, .slice Ao115 t404.length co115], .slice none 0 0, .int .u64 0, .int .u64 18446744073709551615] rfl zPtA_7 ?_; (refine (entry_Only.calls kj5 _ _ t401 _ _ t404 _ _ ([] : List (S43)) 0 18446744073709551615 t409 t412 true _ ?side1 ?side2 ?side3 ?side4 ?side5 ?side6 A14.out).mono ?_); (case side1 => refine (Kd.R_reads' (e := 52) (base := w.heap.size) (ok := fun k_ => (((True ∧ some k_ ≠ (.slice Ao90 t378.length co90 : Value).ownBlock) ∧ some k_ ≠ (.slice Ao95 t385.length co95 : Value).ownBlock) ∧ some k_ ≠ (.slice Ao102 t393.length co102 : Value).ownBlock)) (n := t401.length) (c := co110) ?_).2.2; exact zPtA_28); (case side2 => exact (Kd.R_reads' HO403.out).2.1); (case side3 => refine (Kd.R_reads' (e := 54) (base := w.heap.size) (ok := fun k_ => (((True ∧ some k_ ≠ (.slice Ao92 t381.length co92 : Value).ownBlock) ∧ some k_ ≠ (.slice Ao98 t388.length co98 : Value).ownBlock) ∧ some k_ ≠ (.slice Ao106 t396.length co106 : Value).ownBlock)) (n := t404.length) (c := co115) ?_).2.2; exact zPtA_29); (case side4 => exact (Kd.R_reads' HO406.out).2.1); (case side5 => exact Kd.C_nil _ _); (case side6 => exact Nat.le_refl _); rintro e w116 ⟨v410, v413, rfl, ho0, ho1, hb⟩; refine ⟨_, rfl, ?_⟩; have n0_ := Aside0.mk (Kd.R_elder' zPtA_41 (Kd.R_base ho0) hb); have n1_ := Aside0.mk (Kd.R_elder' zPtA_42 (Kd.R_base ho1) hb); have n2_ := Aside0.mk (Kd.R_elder' zPtA_43 (Kd.R_base ho0) hb); have n3_ := Aside0.mk (Kd.R_elder' zPtA_44 (Kd.R_base ho1) hb); have n4_ := Aside0.mk (Kd.R_elder' zPtA_45 (Kd.R_base ho0) hb); have n5_ := Aside0.mk (Kd.R_elder' zPtA_46 (Kd.R_base ho1) hb); have n6_ := Aside0.mk (Kd.R_elder' zPtA_28 (Kd.R_base ho0) hb); have n7_ := Aside0.mk (Kd.R_elder' zPtA_29 (Kd.R_base ho1) hb); have n8_ := Aside0.mk (Kd.R_lower (Kd.R_new' (Kd.R_new' (Kd.R_new' (Kd.R_new' ho0 (Kd.R_lt zPtA_41)) (Kd.R_lt zPtA_43)) (Kd.R_lt zPtA_45)) (Kd.R_lt zPtA_28)) (below_size zPtA_10)); have n9_ := Aside0.mk (Kd.R_lower (Kd.R_new' (Kd.R_new' (Kd.R_new' (Kd.R_new' ho1 (Kd.R_lt zPtA_42)) (Kd.R_lt zPtA_44)) (Kd.R_lt zPtA_46)) (Kd.R_lt zPtA_29)) (below_size zPtA_10)); have n10_ := Aside0.mk (blk_below (g := gb384) (o := .cells #[.slice Ao90 t378.length co90, .slice Ao92 t381.length co92] 25 (0, 0)) (by (with_reducible repeat (first | refine blk_drewN ?_ _ | refine blk_drew ?_ | refine blk_alloc ?_ _)); refine blk_far ?_ NB384_408.out _; (with_reducible repeat (first | refine blk_drewN ?_ _ | refine blk_drew ?_ | refine blk_alloc ?_ _)); refine blk_far ?_ NB384_408.out _; (with_reducible repeat (first | refine blk_drewN ?_ _ | refine blk_drew ?_ | refine blk_alloc ?_ _)); exact BK384.out) hb); have n11_ := Aside0.mk (blk_below (g := gb392) (o := .cells #[.slice Ao95 t385.length co95, .slice Ao98 t388.length co98] 25 (0, 0)) (by (with_reducible repeat (first | refine blk_drewN ?_ _ | refine blk_drew ?_ | refine blk_alloc ?_ _)); refine blk_far ?_ NB392_408.out _; (with_reducible repeat (first | refine blk_drewN ?_ _ | refine blk_drew ?_ | refine blk_alloc ?_ _)); refine blk_far ?_ NB392_408.out _; (with_reducible repeat (first | refine blk_drewN ?_ _ | refine blk_drew ?_ | refine blk_alloc ?_ _)); exact BK392.out) hb); have n12_ := Aside0.mk (blk_below (g := gb400) (o := .cells #[.slice Ao102 t393.length co102, .slice Ao106 t396.length co106] 25 (0, 0)) (by (with_reducible repeat (first | refine blk_drewN ?_ _ | refine blk_drew ?_ | refine blk_alloc ?_ _)); refine blk_far ?_ NB400_408.out _; (with_reducible repeat (first | refine blk_drewN ?_ _ | refine blk_drew ?_ | refine blk_alloc ?_ _)); refine blk_far ?_ NB400_408.out _; (with_reducible repeat (first | refine blk_drewN ?_ _ | refine blk_drew ?_ | refine blk_alloc ?_ _)); exact BK400.out) hb); have n13_ := Aside0.mk (blk_below (g := gb408) (o := .cells #[.slice Ao110 t401.length co110, .slice Ao115 t404.length co115] 25 (0, 0)) (by (with_reducible repeat (first | refine blk_drewN ?_ _ | refine blk_drew ?_ | refine blk_alloc ?_ _)); refine blk_put (cs := #[.slice Ao110 t401.length co110, .slice none 0 0]) ?_ 1 _ rfl; (with_reducible repeat (first | refine blk_drewN ?_ _ | refine blk_drew ?_ | refine blk_alloc ?_ _)); refine blk_put (cs := #[.slice none 0 0, .slice none 0 0]) ?_ 0 _ rfl; (with_reducible repeat (first | refine blk_drewN ?_ _ | refine blk_drew ?_ | refine blk_alloc ?_ _)); exact BK408.out) hb); have n14_ := Aside0.mk (below_step zPtA_10 hb); (try clear HO380); (try clear HO383); (try clear HO387); (try clear HO390); (try clear HO395); (try clear HO398); (try clear HO403); (try clear HO406); clear BK384; clear BK392; clear BK400; clear BK408; clear HB; have HO380 := n0_; have HO383 := n1_; have HO387 := n2_; have HO390 := n3_; have HO395 := n4_; have HO398 := n5_; have HO403 := n6_; have HO406 := n7_; have HO411 := n8_; have HO414 := n9_; have BK384 := n10_; have BK392 := n11_; have BK400 := n12_; have BK408 := n13_; have HB := n14_; clear n0_ n1_ n2_ n3_ n4_ n5_ n6_ n7_ n8_ n9_ n10_ n11_ n12_ n13_ n14_; (try clear hb); (try clear hb2); (try clear hk); (try clear hi); (try clear ho0); (try clear ho1)) | ((with_reducible refine gate_dst (N := 17) rfl ?_); (try (refine gate_guard (by rfl) ?_; dsimp only)); refine box_event ?hg (N := 17) ?hd (cs := #[.slice none 0 0, .slice none 0 0]) (t := 25) ?hr ?_; (case hd => rfl); (case hg => rfl); (case hr => first | (go_simp; done) | (go_simp; rfl)); intro gb416 hg w117 hbox hb; have n0_ := Aside0.mk (Kd.R_below zPtA_11 hb); have n1_ := Aside0.mk (Kd.R_below zPtA_5 hb); have n2_ := Aside0.mk (Kd.R_below zPtA_16 hb); have n3_ := Aside0.mk (Kd.R_below zPtA_8 hb); have n4_ := Aside0.mk (Kd.R_below zPtA_18 hb); have n5_ := Aside0.mk (Kd.R_below zPtA_12 hb); have n6_ := Aside0.mk (Kd.R_below zPtA_17 hb); have n7_ := Aside0.mk (Kd.R_below zPtA_9 hb); have n8_ := Aside0.mk (Kd.R_below zPtA_19 hb); have n9_ := Aside0.mk (Kd.R_below zPtA_13 hb); have n10_ := Aside0.mk (blk_below (g := gb384) (o := .cells #[.slice Ao90 t378.length co90, .slice Ao92 t381.length co92] 25 (0, 0)) zPtA_1 hb); have n11_ := Aside0.mk (blk_below (g := gb392) (o := .cells #[.slice Ao95 t385.length co95, .slice Ao98 t388.length co98] 25 (0, 0)) zPtA_2 hb); have n12_ := Aside0.mk (blk_below (g := gb400) (o := .cells #[.slice Ao102 t393.length co102, .slice Ao106 t396.length co106] 25 (0, 0)) zPtA_4 hb); have n13_ := Aside0.mk (blk_below (g := gb408) (o := .cells #[.slice Ao110 t401.length co110, .slice Ao115 t404.length co115] 25 (0, 0)) zPtA_6 hb); have n14_ := Aside0.mk (below_step zPtA_10 hb); have n15_ := Aside0.mk (hbox); have n16_ := Aside0.mk ((by rw [hg]; exact (below_size zPtA_10) : w.heap.size ≤ gb416)); have n17_ := Aside0.mk ((by rw [hg]; exact (below_size zPtA_10) : w.heap.size ≤ gb416)); have n18_ := Aside0.mk ((by rw [hg]; exact Nat.ne_of_lt (blk_lt (g := gb384) (o := .cells #[.slice Ao90 t378.length co90, .slice Ao92 t381.length co92] 25 (0, 0)) zPtA_1) : gb384 ≠ gb416)); have n19_ := Aside0.mk ((by rw [hg]; exact Nat.ne_of_gt (blk_lt (g := gb384) (o := .cells #[.slice Ao90 t378.length co90, .slice Ao92 t381.length co92] 25 (0, 0)) zPtA_1) : gb416 ≠ gb384)); have n20_ := Aside0.mk ((by rw [hg]; exact Nat.ne_of_lt (blk_lt (g := gb392) (o := .cells #[.slice Ao95 t385.length co95, .slice Ao98 t388.length co98] 25 (0, 0)) zPtA_2) : gb392 ≠ gb416)); have n21_ := Aside0.mk ((by rw [hg]; exact Nat.ne_of_gt (blk_lt (g := gb392) (o := .cells #[.slice Ao95 t385.length co95, .slice Ao98 t388.length co98] 25 (0, 0)) zPtA_2) : gb416 ≠ gb392)); have n22_ := Aside0.mk ((by rw [hg]; exact Nat.ne_of_lt (blk_lt (g := gb400) (o := .cells #[.slice Ao102 t393.length co102, .slice Ao106 t396.length co106] 25 (0, 0)) zPtA_4) : gb400 ≠ gb416)); have n23_ := Aside0.mk ((by rw [hg]; exact Nat.ne_of_gt (blk_lt (g := gb400) (o := .cells #[.slice Ao102 t393.length co102, .slice Ao106 t396.length co106] 25 (0, 0)) zPtA_4) : gb416 ≠ gb400)); have n24_ := Aside0.mk ((by rw [hg]; exact Nat.ne_of_lt (blk_lt (g := gb408) (o := .cells #[.slice Ao110 t401.length co110, .slice Ao115 t404.length co115] 25 (0, 0)) zPtA_6) : gb408 ≠ gb416)); have n25_ := Aside0.mk ((by rw [hg]; exact Nat.ne_of_gt (blk_lt (g := gb408) (o := .cells #[.slice Ao110 t401.length co110, .slice Ao115 t404.length co115] 25 (0, 0)) zPtA_6) : gb416 ≠ gb408)); (try clear HO380); (try clear HO383); (try clear HO387); (try clear HO390); (try clear HO395); (try clear HO398); (try clear HO403); (try clear HO406); (try clear HO411); (try clear HO414); clear BK384; clear BK392; clear BK400; clear BK408; clear HB; have HO380 := n0_; have HO383 := n1_; have HO387 := n2_; have HO390 := n3_; have HO395 := n4_; have HO398 := n5_; have HO403 := n6_; have HO406 := n7_; have HO411 := n8_; have HO414 := n9_; have BK384 := n10_; have BK392 := n11_; have BK400 := n12_; have BK408 := n13_; have HB := n14_; have BK416 := n15_; have GW416 := n16_; have GE416 := n17_; have NB384_416 := n18_; have NB416_384 := n19_; have NB392_416 := n20_; have NB416_392 := n21_; have NB400_416 := n22_; have NB416_400 := n23_; have NB408_416 := n24_; have NB416_408 := n25_; clear n0_ n1_ n2_ n3_ n4_ n5_ n6_ n7_ n8_ n9_ n10_ n11_ n12_ n13_ n14_ n15_ n16_ n17_ n18_ n19_ n20_ n21_ n22_ n23_ n24_ n25_; clear hb hbox hg; obtain ⟨Ao118, co118, eo118⟩ := Kd.R_slice HO411.out; subst eo118; have hnb119 := NB416_384.out; have hnc119 := NB384_416.out; have hnb120 := NB416_392.out; have hnc120 := NB392_416.out; have hnb121 := NB416_400.out; have hnc121 := NB400_416.out; have hnb122 := NB416_408.out; have hnc122 := NB408_416.out; have hcz123_0 : w117.cell? ⟨gb416, 0, none⟩ = some (.slice none 0 0) := (blk_cell BK416.out 0).trans rfl; have hcz123_1 : w117.cell? ⟨gb416, 1, none⟩ = some (.slice none 0 0) := (blk_cell BK416.out 1).trans rfl; have hfz123_0 := blk_frozen BK416.out 0; have hfz123_1 := blk_frozen BK416.out 1; obtain ⟨Ao124, co124, eo124⟩ := Kd.R_slice HO414.out; subst eo124; have hcz125_0 : w117.cell? ⟨gb384, 0, none⟩ = some (.slice Ao90 t378.length co90) := (blk_cell BK384.out 0).trans rfl; have hcz125_1 : w117.cell? ⟨gb384, 1, none⟩ = some (.slice Ao92 t381.length co92) := (blk_cell BK384.out 1).trans rfl; have hfz125_0 := blk_frozen BK384.out 0; have hfz125_1 := blk_frozen BK384.out 1) | ((with_reducible refine gate_dst (N := 60) rfl ?_); (try (refine gate_guard (by rfl) ?_; dsimp only)); refine Kd.R_lit k43 _ 43 ?hg (N := 60) ?hd (xs := ([(⟨(⟨#[110, 111, 110, 101]⟩ : ByteArray), (⟨#[120]⟩ : ByteArray), false⟩ : S43)] : List (S43))) (inner := [.string (⟨#[110, 111, 110, 101]⟩ : ByteArray), .string (⟨#[120]⟩ : ByteArray), .bool false]) (ok := fun _ => True) (okp := fun _ => True) ?hr ?hp (fun _ hk => hk) trivial (Below.refl _ _) (Nat.le_refl _) (by simp) ?_; (case hd => rfl); (case hg => rfl); (case hr => first | (go_simp; done) | (go_simp; rfl)); (case hp => exact (Reps.c3 (show Kd.M k43 _ _ _ (⟨(⟨#[110, 111, 110, 101]⟩ : ByteArray), (⟨#[120]⟩ : ByteArray), false⟩ : S43) [.string (⟨#[110, 111, 110, 101]⟩ : ByteArray), .string (⟨#[120]⟩ : ByteArray), .bool false] from (k43_mkM _ _ _ (⟨(⟨#[110, 111, 110, 101]⟩ : ByteArray), (⟨#[120]⟩ : ByteArray), false⟩ : S43) )) (Reps.none _ _))); intro v418 w126 ho127 hb hg_ hnew_; clear hg_ hnew_; (first | rw [← Ny417.out] at ho127 | (simp only [Int.reduceToNat] at ho127; rw [← Ny417.out] at ho127)); have n0_ := Aside0.mk (Kd.R_below (by (with_reducible repeat (first | apply Kd.R_alloc | apply Kd.R_drewN | apply Kd.R_drew)); exact (Kd.R_mono (Kd.R_far (p := ⟨gb416, 1, none⟩) (Kd.R_far (p := ⟨gb416, 0, none⟩) (Kd.R_types HO380.out BK416.out (by decide)) (fun _ hk => hk.2) (.slice Ao118 t409.length co118)) (fun _ hk => hk.2) (.slice Ao124 t412.length co124)) (fun _ h_ => h_.1))) hb); have n1_ := Aside0.mk (Kd.R_below (by (with_reducible repeat (first | apply Kd.R_alloc | apply Kd.R_drewN | apply Kd.R_drew)); exact (Kd.R_mono (Kd.R_far (p := ⟨gb416, 1, none⟩) (Kd.R_far (p := ⟨gb416, 0, none⟩) (Kd.R_types HO383.out BK416.out (by decide)) (fun _ hk => hk.2) (.slice Ao118 t409.length co118)) (fun _ hk => hk.2) (.slice Ao124 t412.length co124)) (fun _ h_ => h_.1))) hb); have n2_ := Aside0.mk (Kd.R_below (by (with_reducible repeat (first | apply Kd.R_alloc | apply Kd.R_drewN | apply Kd.R_drew)); exact (Kd.R_mono (Kd.R_far (p := ⟨gb416, 1, none⟩) (Kd.R_far (p := ⟨gb416, 0, none⟩) (Kd.R_types HO387.out BK416.out (by decide)) (fun _ hk => hk.2) (.slice Ao118 t409.length co118)) (fun _ hk => hk.2) (.slice Ao124 t412.length co124)) (fun _ h_ => h_.1))) hb); have n3_ := Aside0.mk (Kd.R_below (by (with_reducible repeat (first | apply Kd.R_alloc | apply Kd.R_drewN | apply Kd.R_drew)); exact (Kd.R_mono (Kd.R_far (p := ⟨gb416, 1, none⟩) (Kd.R_far (p := ⟨gb416, 0, none⟩) (Kd.R_types HO390.out BK416.out (by decide)) (fun _ hk => hk.2) (.slice Ao118 t409.length co118)) (fun _ hk => hk.2) (.slice Ao124 t412.length co124)) (fun _ h_ => h_.1))) hb); have n4_ := Aside0.mk (Kd.R_below (by (with_reducible repeat (first | apply Kd.R_alloc | apply Kd.R_drewN | apply Kd.R_drew)); exact (Kd.R_mono (Kd.R_far (p := ⟨gb416, 1, none⟩) (Kd.R_far (p := ⟨gb416, 0, none⟩) (Kd.R_types HO395.out BK416.out (by decide)) (fun _ hk => hk.2) (.slice Ao118 t409.length co118)) (fun _ hk => hk.2) (.slice Ao124 t412.length co124)) (fun _ h_ => h_.1))) hb); have n5_ := Aside0.mk (Kd.R_below (by (with_reducible repeat (first | apply Kd.R_alloc | apply Kd.R_drewN | apply Kd.R_drew)); exact (Kd.R_mono (Kd.R_far (p := ⟨gb416, 1, none⟩) (Kd.R_far (p := ⟨gb416, 0, none⟩) (Kd.R_types HO398.out BK416.out (by decide)) (fun _ hk => hk.2) (.slice Ao118 t409.length co118)) (fun _ hk => hk.2) (.slice Ao124 t412.length co124)) (fun _ h_ => h_.1))) hb); have n6_ := Aside0.mk (Kd.R_below (by (with_reducible repeat (first | apply Kd.R_alloc | apply Kd.R_drewN | apply Kd.R_drew)); exact (Kd.R_mono (Kd.R_far (p := ⟨gb416, 1, none⟩) (Kd.R_far (p := ⟨gb416, 0, none⟩) (Kd.R_types HO403.out BK416.out (by decide)) (fun _ hk => hk.2) (.slice Ao118 t409.length co118)) (fun _ hk => hk.2) (.slice Ao124 t412.length co124)) (fun _ h_ => h_.1))) hb); have n7_ := Aside0.mk (Kd.R_below (by (with_reducible repeat (first | apply Kd.R_alloc | apply Kd.R_drewN | apply Kd.R_drew)); exact (Kd.R_mono (Kd.R_far (p := ⟨gb416, 1, none⟩) (Kd.R_far (p := ⟨gb416, 0, none⟩) (Kd.R_types HO406.out BK416.out (by decide)) (fun _ hk => hk.2) (.slice Ao118 t409.length co118)) (fun _ hk => hk.2) (.slice Ao124 t412.length co124)) (fun _ h_ => h_.1))) hb); have n8_ := Aside0.mk (Kd.R_below (by (with_reducible repeat (first | apply Kd.R_alloc | apply Kd.R_drewN | apply Kd.R_drew)); exact (Kd.R_mono (Kd.R_far (p := ⟨gb416, 1, none⟩) (Kd.R_far (p := ⟨gb416, 0, none⟩) (Kd.R_types HO411.out BK416.out (by decide)) (fun _ hk => hk.2) (.slice Ao118 t409.length co118)) (fun _ hk => hk.2) (.slice Ao124 t412.length co124)) (fun _ h_ => h_.1))) hb); have n9_ := Aside0.mk (Kd.R_below (by (with_reducible repeat (first | apply Kd.R_alloc | apply Kd.R_drewN | apply Kd.R_drew)); exact (Kd.R_mono (Kd.R_far (p := ⟨gb416, 1, none⟩) (Kd.R_far (p := ⟨gb416, 0, none⟩) (Kd.R_types HO414.out BK416.out (by decide)) (fun _ hk => hk.2) (.slice Ao118 t409.length co118)) (fun _ hk => hk.2) (.slice Ao124 t412.length co124)) (fun _ h_ => h_.1))) hb); have n10_ := Aside0.mk (Kd.R_lower ho127 (below_size zPtA_3)); have n11_ := Aside0.mk (blk_below (g := gb384) (o := .cells #[.slice Ao90 t378.length co90, .slice Ao92 t381.length co92] 25 (0, 0)) (by (with_reducible repeat (first | refine blk_drewN ?_ _ | refine blk_drew ?_ | refine blk_alloc ?_ _)); refine blk_far ?_ NB384_416.out _; (with_reducible repeat (first | refine blk_drewN ?_ _ | refine blk_drew ?_ | refine blk_alloc ?_ _)); refine blk_far ?_ NB384_416.out _; (with_reducible repeat (first | refine blk_drewN ?_ _ | refine blk_drew ?_ | refine blk_alloc ?_ _)); exact BK384.out) hb); have n12_ := Aside0.mk (blk_below (g := gb392) (o := .cells #[.slice Ao95 t385.length co95, .slice Ao98 t388.length co98] 25 (0, 0)) (by (with_reducible repeat (first | refine blk_drewN ?_ _ | refine blk_drew ?_ | refine blk_alloc ?_ _)); refine blk_far ?_ NB392_416.out _; (with_reducible repeat (first | refine blk_drewN ?_ _ | refine blk_drew ?_ | refine blk_alloc ?_ _)); refine blk_far ?_ NB392_416.out _; (with_reducible repeat (first | refine blk_drewN ?_ _ | refine blk_drew ?_ | refine blk_alloc ?_ _)); exact BK392.out) hb); have n13_ := Aside0.mk (blk_below (g := gb400) (o := .cells #[.slice Ao102 t393.length co102, .slice Ao106 t396.length co106] 25 (0, 0)) (by (with_reducible repeat (first | refine blk_drewN ?_ _ | refine blk_drew ?_ | refine blk_alloc ?_ _)); refine blk_far ?_ NB400_416.out _; (with_reducible repeat (first | refine blk_drewN ?_ _ | refine blk_drew ?_ | refine blk_alloc ?_ _)); refine blk_far ?_ NB400_416.out _; (with_reducible repeat (first | refine blk_drewN ?_ _ | refine blk_drew ?_ | refine blk_alloc ?_ _)); exact BK400.out) hb); have n14_ := Aside0.mk (blk_below (g := gb408) (o := .cells #[.slice Ao110 t401.length co110, .slice Ao115 t404.length co115] 25 (0, 0)) (by (with_reducible repeat (first | refine blk_drewN ?_ _ | refine blk_drew ?_ | refine blk_alloc ?_ _)); refine blk_far ?_ NB408_416.out _; (with_reducible repeat (first | refine blk_drewN ?_ _ | refine blk_drew ?_ | refine blk_alloc ?_ _)); refine blk_far ?_ NB408_416.out _; (with_reducible repeat (first | refine blk_drewN ?_ _ | refine blk_drew ?_ | refine blk_alloc ?_ _)); exact BK408.out) hb); have n15_ := Aside0.mk (blk_below (g := gb416) (o := .cells #[.slice Ao118 t409.length co118, .slice Ao124 t412.length co124] 25 (0, 0)) (by (with_reducible repeat (first | refine blk_drewN ?_ _ | refine blk_drew ?_ | refine blk_alloc ?_ _)); refine blk_put (cs := #[.slice Ao118 t409.length co118, .slice none 0 0]) ?_ 1 _ rfl; (with_reducible repeat (first | refine blk_drewN ?_ _ | refine blk_drew ?_ | refine blk_alloc ?_ _)); refine blk_put (cs := #[.slice none 0 0, .slice none 0 0]) ?_ 0 _ rfl; (with_reducible repeat (first | refine blk_drewN ?_ _ | refine blk_drew ?_ | refine blk_alloc ?_ _)); exact BK416.out) hb); have n16_ := Aside0.mk (below_step zPtA_3 hb); (try clear HO380); (try clear HO383); (try clear HO387); (try clear HO390); (try clear HO395); (try clear HO398); (try clear HO403); (try clear HO406); (try clear HO411); (try clear HO414); clear BK384; clear BK392; clear BK400; clear BK408; clear BK416; clear HB; have HO380 := n0_; have HO383 := n1_; have HO387 := n2_; have HO390 := n3_; have HO395 := n4_; have HO398 := n5_; have HO403 := n6_; have HO406 := n7_; have HO411 := n8_; have HO414 := n9_; have HO419 := n10_; have BK384 := n11_; have BK392 := n12_; have BK400 := n13_; have BK408 := n14_; have BK416 := n15_; have HB := n16_; clear n0_ n1_ n2_ n3_ n4_ n5_ n6_ n7_ n8_ n9_ n10_ n11_ n12_ n13_ n14_ n15_ n16_; clear hb ho127; obtain ⟨Ao128, co128, eo128⟩ := Kd.R_slice HO419.out; subst eo128) | ((with_reducible refine gate_callee (f := 17) rfl ?_); refine goesL_ (some 61) rfl rfl Tryz.func17 (by kernel_rfl) rfl #[.agg #[.slice Ao90 t378.length co90, .slice Ao92 t381.length co92], .slice Ao128 y417.length co128, .int .u64 0, .int .u64 18446744073709551615] rfl zPtA_7 ?_; (with_reducible refine (entry_Only.calls kj5 _ _ t378 _ _ t381 _ _ y417 0 18446744073709551615 t420 t423 false _ ?side1 ?side2 ?side3 ?side4 ?side5 ?side6 A15.out).mono ?_); (case side1 => repeat (first | exact (Kd.R_reads' HO380.out).2.2 | (with_reducible refine Kd.C_alloc ?_ _) | (with_reducible refine Kd.C_drewN ?_ _) | (with_reducible refine Kd.C_drew ?_))); (case side2 => exact (Kd.R_reads' HO380.out).2.1); (case side3 => repeat (first | exact (Kd.R_reads' HO383.out).2.2 | (with_reducible refine Kd.C_alloc ?_ _) | (with_reducible refine Kd.C_drewN ?_ _) | (with_reducible refine Kd.C_drew ?_))); (case side4 => exact (Kd.R_reads' HO383.out).2.1); (case side5 => repeat (first | exact (Kd.R_reads' HO419.out).2.2 | (with_reducible refine Kd.C_alloc ?_ _) | (with_reducible refine Kd.C_drewN ?_ _) | (with_reducible refine Kd.C_drew ?_))); (case side6 => exact (Kd.R_reads' HO419.out).2.1); rintro e w129 ⟨v421, v424, rfl, ho0, ho1, hb⟩; refine ⟨_, rfl, ?_⟩; have n0_ := Aside0.mk (Kd.R_elder' zPtA_11 (Kd.R_base ho0) hb); have n1_ := Aside0.mk (Kd.R_elder' zPtA_5 (Kd.R_base ho1) hb); have n2_ := Aside0.mk (Kd.R_elder' zPtA_16 (Kd.R_base ho0) hb); have n3_ := Aside0.mk (Kd.R_elder' zPtA_8 (Kd.R_base ho1) hb); have n4_ := Aside0.mk (Kd.R_elder' zPtA_18 (Kd.R_base ho0) hb); have n5_ := Aside0.mk (Kd.R_elder' zPtA_12 (Kd.R_base ho1) hb); have n6_ := Aside0.mk (Kd.R_elder' zPtA_17 (Kd.R_base ho0) hb); have n7_ := Aside0.mk (Kd.R_elder' zPtA_9 (Kd.R_base ho1) hb); have n8_ := Aside0.mk (Kd.R_elder' zPtA_19 (Kd.R_base ho0) hb); have n9_ := Aside0.mk (Kd.R_elder' zPtA_13 (Kd.R_base ho1) hb); have n10_ := Aside0.mk (Kd.R_below zPtA_35 hb); have n11_ := Aside0.mk (Kd.R_lower (Kd.R_new' (Kd.R_new' (Kd.R_new' (Kd.R_new' (Kd.R_new' ho0 (Kd.R_lt zPtA_11)) (Kd.R_lt zPtA_16)) (Kd.R_lt zPtA_18)) (Kd.R_lt zPtA_17)) (Kd.R_lt zPtA_19)) (below_size zPtA_3)); have n12_ := Aside0.mk (Kd.R_lower (Kd.R_new' (Kd.R_new' (Kd.R_new' (Kd.R_new' (Kd.R_new' ho1 (Kd.R_lt zPtA_5)) (Kd.R_lt zPtA_8)) (Kd.R_lt zPtA_12)) (Kd.R_lt zPtA_9)) (Kd.R_lt zPtA_13)) (below_size zPtA_3)); have n13_ := Aside0.mk (blk_below (g := gb384) (o := .cells #[.slice Ao90 t378.length co90, .slice Ao92 t381.length co92] 25 (0, 0)) zPtA_1 hb); have n14_ := Aside0.mk (blk_below (g := gb392) (o := .cells #[.slice Ao95 t385.length co95, .slice Ao98 t388.length co98] 25 (0, 0)) zPtA_2 hb); have n15_ := Aside0.mk (blk_below (g := gb400) (o := .cells #[.slice Ao102 t393.length co102, .slice Ao106 t396.length co106] 25 (0, 0)) zPtA_4 hb); have n16_ := Aside0.mk (blk_below (g := gb408) (o := .cells #[.slice Ao110 t401.length co110, .slice Ao115 t404.length co115] 25 (0, 0)) zPtA_6 hb); have n17_ := Aside0.mk (blk_below (g := gb416) (o := .cells #[.slice Ao118 t409.length co118, .slice Ao124 t412.length co124] 25 (0, 0)) zPtA_14 hb); have n18_ := Aside0.mk (below_step zPtA_3 hb); (try clear HO380); (try clear HO383); (try clear HO387); (try clear HO390); (try clear HO395); (try clear HO398); (try clear HO403); (try clear HO406); (try clear HO411); (try clear HO414); (try clear HO419); clear BK384; clear BK392; clear BK400; clear BK408; clear BK416; clear HB; have HO380 := n0_; have HO383 := n1_; have HO387 := n2_; have HO390 := n3_; have HO395 := n4_; have HO398 := n5_; have HO403 := n6_; have HO406 := n7_; have HO411 := n8_; have HO414 := n9_; have HO419 := n10_; have HO422 := n11_; have HO425 := n12_; have BK384 := n13_; have BK392 := n14_; have BK400 := n15_; have BK408 := n16_; have BK416 := n17_; have HB := n18_; clear n0_ n1_ n2_ n3_ n4_ n5_ n6_ n7_ n8_ n9_ n10_ n11_ n12_ n13_ n14_ n15_ n16_ n17_ n18_; (try clear hb); (try clear hb2); (try clear hk); (try clear hi); (try clear ho0); (try clear ho1)) | ((with_reducible refine gate_dst (N := 19) rfl ?_); (try (refine gate_guard (by rfl) ?_; dsimp only)); refine box_event ?hg (N := 19) ?hd (cs := #[.slice none 0 0, .slice none 0 0]) (t := 25) ?hr ?_; (case hd => rfl); (case hg => rfl); (case hr => first | (go_simp; done) | (go_simp; rfl)); intro gb427 hg w130 hbox hb; have n0_ := Aside0.mk (Kd.R_below zPtA_11 hb); have n1_ := Aside0.mk (Kd.R_below zPtA_5 hb); have n2_ := Aside0.mk (Kd.R_below zPtA_16 hb); have n3_ := Aside0.mk (Kd.R_below zPtA_8 hb); have n4_ := Aside0.mk (Kd.R_below zPtA_18 hb); have n5_ := Aside0.mk (Kd.R_below zPtA_12 hb); have n6_ := Aside0.mk (Kd.R_below zPtA_17 hb); have n7_ := Aside0.mk (Kd.R_below zPtA_9 hb); have n8_ := Aside0.mk (Kd.R_below zPtA_19 hb); have n9_ := Aside0.mk (Kd.R_below zPtA_13 hb); have n10_ := Aside0.mk (Kd.R_below zPtA_35 hb); have n11_ := Aside0.mk (Kd.R_below zPtA_36 hb); have n12_ := Aside0.mk (Kd.R_below zPtA_23 hb); have n13_ := Aside0.mk (blk_below (g := gb384) (o := .cells #[.slice Ao90 t378.length co90, .slice Ao92 t381.length co92] 25 (0, 0)) zPtA_1 hb); have n14_ := Aside0.mk (blk_below (g := gb392) (o := .cells #[.slice Ao95 t385.length co95, .slice Ao98 t388.length co98] 25 (0, 0)) zPtA_2 hb); have n15_ := Aside0.mk (blk_below (g := gb400) (o := .cells #[.slice Ao102 t393.length co102, .slice Ao106 t396.length co106] 25 (0, 0)) zPtA_4 hb); have n16_ := Aside0.mk (blk_below (g := gb408) (o := .cells #[.slice Ao110 t401.length co110, .slice Ao115 t404.length co115] 25 (0, 0)) zPtA_6 hb); have n17_ := Aside0.mk (blk_below (g := gb416) (o := .cells #[.slice Ao118 t409.length co118, .slice Ao124 t412.length co124] 25 (0, 0)) zPtA_14 hb); have n18_ := Aside0.mk (below_step zPtA_3 hb); have n19_ := Aside0.mk (hbox); have n20_ := Aside0.mk ((by rw [hg]; exact (below_size zPtA_3) : w.heap.size ≤ gb427)); have n21_ := Aside0.mk ((by rw [hg]; exact (below_size zPtA_3) : w.heap.size ≤ gb427)); have n22_ := Aside0.mk ((by rw [hg]; exact Nat.ne_of_lt (blk_lt (g := gb384) (o := .cells #[.slice Ao90 t378.length co90, .slice Ao92 t381.length co92] 25 (0, 0)) zPtA_1) : gb384 ≠ gb427)); have n23_ := Aside0.mk ((by rw [hg]; exact Nat.ne_of_gt (blk_lt (g := gb384) (o := .cells #[.slice Ao90 t378.length co90, .slice Ao92 t381.length co92] 25 (0, 0)) zPtA_1) : gb427 ≠ gb384)); have n24_ := Aside0.mk ((by rw [hg]; exact Nat.ne_of_lt (blk_lt (g := gb392) (o := .cells #[.slice Ao95 t385.length co95, .slice Ao98 t388.length co98] 25 (0, 0)) zPtA_2) : gb392 ≠ gb427)); have n25_ := Aside0.mk ((by rw [hg]; exact Nat.ne_of_gt (blk_lt (g := gb392) (o := .cells #[.slice Ao95 t385.length co95, .slice Ao98 t388.length co98] 25 (0, 0)) zPtA_2) : gb427 ≠ gb392)); have n26_ := Aside0.mk ((by rw [hg]; exact Nat.ne_of_lt (blk_lt (g := gb400) (o := .cells #[.slice Ao102 t393.length co102, .slice Ao106 t396.length co106] 25 (0, 0)) zPtA_4) : gb400 ≠ gb427)); have n27_ := Aside0.mk ((by rw [hg]; exact Nat.ne_of_gt (blk_lt (g := gb400) (o := .cells #[.slice Ao102 t393.length co102, .slice Ao106 t396.length co106] 25 (0, 0)) zPtA_4) : gb427 ≠ gb400)); have n28_ := Aside0.mk ((by rw [hg]; exact Nat.ne_of_lt (blk_lt (g := gb408) (o := .cells #[.slice Ao110 t401.length co110, .slice Ao115 t404.length co115] 25 (0, 0)) zPtA_6) : gb408 ≠ gb427)); have n29_ := Aside0.mk ((by rw [hg]; exact Nat.ne_of_gt (blk_lt (g := gb408) (o := .cells #[.slice Ao110 t401.length co110, .slice Ao115 t404.length co115] 25 (0, 0)) zPtA_6) : gb427 ≠ gb408)); have n30_ := Aside0.mk ((by rw [hg]; exact Nat.ne_of_lt (blk_lt (g := gb416) (o := .cells #[.slice Ao118 t409.length co118, .slice Ao124 t412.length co124] 25 (0, 0)) zPtA_14) : gb416 ≠ gb427)); have n31_ := Aside0.mk ((by rw [hg]; exact Nat.ne_of_gt (blk_lt (g := gb416) (o := .cells #[.slice Ao118 t409.length co118, .slice Ao124 t412.length co124] 25 (0, 0)) zPtA_14) : gb427 ≠ gb416)); (try clear HO380); (try clear HO383); (try clear HO387); (try clear HO390); (try clear HO395); (try clear HO398); (try clear HO403); (try clear HO406); (try clear HO411); (try clear HO414); (try clear HO419); (try clear HO422); (try clear HO425); clear BK384; clear BK392; clear BK400; clear BK408; clear BK416; clear HB; have HO380 := n0_; have HO383 := n1_; have HO387 := n2_; have HO390 := n3_; have HO395 := n4_; have HO398 := n5_; have HO403 := n6_; have HO406 := n7_; have HO411 := n8_; have HO414 := n9_; have HO419 := n10_; have HO422 := n11_; have HO425 := n12_; have BK384 := n13_; have BK392 := n14_; have BK400 := n15_; have BK408 := n16_; have BK416 := n17_; have HB := n18_; have BK427 := n19_; have GW427 := n20_; have GE427 := n21_; have NB384_427 := n22_; have NB427_384 := n23_; have NB392_427 := n24_; have NB427_392 := n25_; have NB400_427 := n26_; have NB427_400 := n27_; have NB408_427 := n28_; have NB427_408 := n29_; have NB416_427 := n30_; have NB427_416 := n31_; clear n0_ n1_ n2_ n3_ n4_ n5_ n6_ n7_ n8_ n9_ n10_ n11_ n12_ n13_ n14_ n15_ n16_ n17_ n18_ n19_ n20_ n21_ n22_ n23_ n24_ n25_ n26_ n27_ n28_ n29_ n30_ n31_; clear hb hbox hg; obtain ⟨Ao131, co131, eo131⟩ := Kd.R_slice HO422.out; subst eo131; have hnb132 := NB427_384.out; have hnc132 := NB384_427.out; have hnb133 := NB427_392.out; have hnc133 := NB392_427.out; have hnb134 := NB427_400.out; have hnc134 := NB400_427.out; have hnb135 := NB427_408.out; have hnc135 := NB408_427.out; have hnb136 := NB427_416.out; have hnc136 := NB416_427.out; have hcz137_0 : w130.cell? ⟨gb427, 0, none⟩ = some (.slice none 0 0) := (blk_cell BK427.out 0).trans rfl; have hcz137_1 : w130.cell? ⟨gb427, 1, none⟩ = some (.slice none 0 0) := (blk_cell BK427.out 1).trans rfl; have hfz137_0 := blk_frozen BK427.out 0; have hfz137_1 := blk_frozen BK427.out 1; obtain ⟨Ao138, co138, eo138⟩ := Kd.R_slice HO425.out; subst eo138))
                            have n0_ : Aside0 (Kd.R k52 52 ((w130.setCell ⟨gb427, 0, none⟩ (.slice Ao131 t420.length co131)).setCell ⟨gb427, 1, none⟩ (.slice Ao138 t423.length co138)) w.heap.size (fun k_ => some k_ ≠ (.slice Ao95 t385.length co95 : Value).ownBlock ∧ some k_ ≠ (.slice Ao102 t393.length co102 : Value).ownBlock ∧ some k_ ≠ (.slice Ao110 t401.length co110 : Value).ownBlock ∧ some k_ ≠ (.slice Ao118 t409.length co118 : Value).ownBlock ∧ some k_ ≠ (.slice Ao131 t420.length co131 : Value).ownBlock) (.slice Ao90 t378.length co90) t378) := ⟨by (with_reducible repeat (first | apply Kd.R_alloc | apply Kd.R_drewN | apply Kd.R_drew)); exact Kd.R_mono (Kd.R_far (p := ⟨gb427, 1, none⟩) (Kd.R_far (p := ⟨gb427, 0, none⟩) (Kd.R_types HO380.out BK427.out (by decide)) (fun _ hk => hk.2) (.slice Ao131 t420.length co131)) (fun _ hk => hk.2) (.slice Ao138 t423.length co138)) (fun _ hk => ⟨hk.1.1.1.1.1.2, ⟨hk.1.1.1.1.2, ⟨hk.1.1.1.2, ⟨hk.1.1.2, hk.1.2⟩⟩⟩⟩)⟩
                            have n1_ : Aside0 (Kd.R k54 54 ((w130.setCell ⟨gb427, 0, none⟩ (.slice Ao131 t420.length co131)).setCell ⟨gb427, 1, none⟩ (.slice Ao138 t423.length co138)) w.heap.size (fun k_ => some k_ ≠ (.slice Ao98 t388.length co98 : Value).ownBlock ∧ some k_ ≠ (.slice Ao106 t396.length co106 : Value).ownBlock ∧ some k_ ≠ (.slice Ao115 t404.length co115 : Value).ownBlock ∧ some k_ ≠ (.slice Ao124 t412.length co124 : Value).ownBlock ∧ some k_ ≠ (.slice Ao138 t423.length co138 : Value).ownBlock) (.slice Ao92 t381.length co92) t381) := ⟨by (with_reducible repeat (first | apply Kd.R_alloc | apply Kd.R_drewN | apply Kd.R_drew)); exact Kd.R_mono (Kd.R_far (p := ⟨gb427, 1, none⟩) (Kd.R_far (p := ⟨gb427, 0, none⟩) (Kd.R_types HO383.out BK427.out (by decide)) (fun _ hk => hk.2) (.slice Ao131 t420.length co131)) (fun _ hk => hk.2) (.slice Ao138 t423.length co138)) (fun _ hk => ⟨hk.1.1.1.1.1.2, ⟨hk.1.1.1.1.2, ⟨hk.1.1.1.2, ⟨hk.1.1.2, hk.1.2⟩⟩⟩⟩)⟩
                            have n2_ : Aside0 (Kd.R k52 52 ((w130.setCell ⟨gb427, 0, none⟩ (.slice Ao131 t420.length co131)).setCell ⟨gb427, 1, none⟩ (.slice Ao138 t423.length co138)) w.heap.size (fun k_ => some k_ ≠ (.slice Ao90 t378.length co90 : Value).ownBlock ∧ some k_ ≠ (.slice Ao102 t393.length co102 : Value).ownBlock ∧ some k_ ≠ (.slice Ao110 t401.length co110 : Value).ownBlock ∧ some k_ ≠ (.slice Ao118 t409.length co118 : Value).ownBlock ∧ some k_ ≠ (.slice Ao131 t420.length co131 : Value).ownBlock) (.slice Ao95 t385.length co95) t385) := ⟨by (with_reducible repeat (first | apply Kd.R_alloc | apply Kd.R_drewN | apply Kd.R_drew)); exact Kd.R_mono (Kd.R_far (p := ⟨gb427, 1, none⟩) (Kd.R_far (p := ⟨gb427, 0, none⟩) (Kd.R_types HO387.out BK427.out (by decide)) (fun _ hk => hk.2) (.slice Ao131 t420.length co131)) (fun _ hk => hk.2) (.slice Ao138 t423.length co138)) (fun _ hk => ⟨hk.1.1.1.1.1.2, ⟨hk.1.1.1.1.2, ⟨hk.1.1.1.2, ⟨hk.1.1.2, hk.1.2⟩⟩⟩⟩)⟩
                            have n3_ : Aside0 (Kd.R k54 54 ((w130.setCell ⟨gb427, 0, none⟩ (.slice Ao131 t420.length co131)).setCell ⟨gb427, 1, none⟩ (.slice Ao138 t423.length co138)) w.heap.size (fun k_ => some k_ ≠ (.slice Ao92 t381.length co92 : Value).ownBlock ∧ some k_ ≠ (.slice Ao106 t396.length co106 : Value).ownBlock ∧ some k_ ≠ (.slice Ao115 t404.length co115 : Value).ownBlock ∧ some k_ ≠ (.slice Ao124 t412.length co124 : Value).ownBlock ∧ some k_ ≠ (.slice Ao138 t423.length co138 : Value).ownBlock) (.slice Ao98 t388.length co98) t388) := ⟨by (with_reducible repeat (first | apply Kd.R_alloc | apply Kd.R_drewN | apply Kd.R_drew)); exact Kd.R_mono (Kd.R_far (p := ⟨gb427, 1, none⟩) (Kd.R_far (p := ⟨gb427, 0, none⟩) (Kd.R_types HO390.out BK427.out (by decide)) (fun _ hk => hk.2) (.slice Ao131 t420.length co131)) (fun _ hk => hk.2) (.slice Ao138 t423.length co138)) (fun _ hk => ⟨hk.1.1.1.1.1.2, ⟨hk.1.1.1.1.2, ⟨hk.1.1.1.2, ⟨hk.1.1.2, hk.1.2⟩⟩⟩⟩)⟩
                            have n4_ : Aside0 (Kd.R k52 52 ((w130.setCell ⟨gb427, 0, none⟩ (.slice Ao131 t420.length co131)).setCell ⟨gb427, 1, none⟩ (.slice Ao138 t423.length co138)) w.heap.size (fun k_ => some k_ ≠ (.slice Ao90 t378.length co90 : Value).ownBlock ∧ some k_ ≠ (.slice Ao95 t385.length co95 : Value).ownBlock ∧ some k_ ≠ (.slice Ao110 t401.length co110 : Value).ownBlock ∧ some k_ ≠ (.slice Ao118 t409.length co118 : Value).ownBlock ∧ some k_ ≠ (.slice Ao131 t420.length co131 : Value).ownBlock) (.slice Ao102 t393.length co102) t393) := ⟨by (with_reducible repeat (first | apply Kd.R_alloc | apply Kd.R_drewN | apply Kd.R_drew)); exact Kd.R_mono (Kd.R_far (p := ⟨gb427, 1, none⟩) (Kd.R_far (p := ⟨gb427, 0, none⟩) (Kd.R_types HO395.out BK427.out (by decide)) (fun _ hk => hk.2) (.slice Ao131 t420.length co131)) (fun _ hk => hk.2) (.slice Ao138 t423.length co138)) (fun _ hk => ⟨hk.1.1.1.1.1.2, ⟨hk.1.1.1.1.2, ⟨hk.1.1.1.2, ⟨hk.1.1.2, hk.1.2⟩⟩⟩⟩)⟩
                            have n5_ : Aside0 (Kd.R k54 54 ((w130.setCell ⟨gb427, 0, none⟩ (.slice Ao131 t420.length co131)).setCell ⟨gb427, 1, none⟩ (.slice Ao138 t423.length co138)) w.heap.size (fun k_ => some k_ ≠ (.slice Ao92 t381.length co92 : Value).ownBlock ∧ some k_ ≠ (.slice Ao98 t388.length co98 : Value).ownBlock ∧ some k_ ≠ (.slice Ao115 t404.length co115 : Value).ownBlock ∧ some k_ ≠ (.slice Ao124 t412.length co124 : Value).ownBlock ∧ some k_ ≠ (.slice Ao138 t423.length co138 : Value).ownBlock) (.slice Ao106 t396.length co106) t396) := ⟨by (with_reducible repeat (first | apply Kd.R_alloc | apply Kd.R_drewN | apply Kd.R_drew)); exact Kd.R_mono (Kd.R_far (p := ⟨gb427, 1, none⟩) (Kd.R_far (p := ⟨gb427, 0, none⟩) (Kd.R_types HO398.out BK427.out (by decide)) (fun _ hk => hk.2) (.slice Ao131 t420.length co131)) (fun _ hk => hk.2) (.slice Ao138 t423.length co138)) (fun _ hk => ⟨hk.1.1.1.1.1.2, ⟨hk.1.1.1.1.2, ⟨hk.1.1.1.2, ⟨hk.1.1.2, hk.1.2⟩⟩⟩⟩)⟩
                            have n6_ : Aside0 (Kd.R k52 52 ((w130.setCell ⟨gb427, 0, none⟩ (.slice Ao131 t420.length co131)).setCell ⟨gb427, 1, none⟩ (.slice Ao138 t423.length co138)) w.heap.size (fun k_ => some k_ ≠ (.slice Ao90 t378.length co90 : Value).ownBlock ∧ some k_ ≠ (.slice Ao95 t385.length co95 : Value).ownBlock ∧ some k_ ≠ (.slice Ao102 t393.length co102 : Value).ownBlock ∧ some k_ ≠ (.slice Ao118 t409.length co118 : Value).ownBlock ∧ some k_ ≠ (.slice Ao131 t420.length co131 : Value).ownBlock) (.slice Ao110 t401.length co110) t401) := ⟨by (with_reducible repeat (first | apply Kd.R_alloc | apply Kd.R_drewN | apply Kd.R_drew)); exact Kd.R_mono (Kd.R_far (p := ⟨gb427, 1, none⟩) (Kd.R_far (p := ⟨gb427, 0, none⟩) (Kd.R_types HO403.out BK427.out (by decide)) (fun _ hk => hk.2) (.slice Ao131 t420.length co131)) (fun _ hk => hk.2) (.slice Ao138 t423.length co138)) (fun _ hk => ⟨hk.1.1.1.1.1.2, ⟨hk.1.1.1.1.2, ⟨hk.1.1.1.2, ⟨hk.1.1.2, hk.1.2⟩⟩⟩⟩)⟩
                            have n7_ : Aside0 (Kd.R k54 54 ((w130.setCell ⟨gb427, 0, none⟩ (.slice Ao131 t420.length co131)).setCell ⟨gb427, 1, none⟩ (.slice Ao138 t423.length co138)) w.heap.size (fun k_ => some k_ ≠ (.slice Ao92 t381.length co92 : Value).ownBlock ∧ some k_ ≠ (.slice Ao98 t388.length co98 : Value).ownBlock ∧ some k_ ≠ (.slice Ao106 t396.length co106 : Value).ownBlock ∧ some k_ ≠ (.slice Ao124 t412.length co124 : Value).ownBlock ∧ some k_ ≠ (.slice Ao138 t423.length co138 : Value).ownBlock) (.slice Ao115 t404.length co115) t404) := ⟨by (with_reducible repeat (first | apply Kd.R_alloc | apply Kd.R_drewN | apply Kd.R_drew)); exact Kd.R_mono (Kd.R_far (p := ⟨gb427, 1, none⟩) (Kd.R_far (p := ⟨gb427, 0, none⟩) (Kd.R_types HO406.out BK427.out (by decide)) (fun _ hk => hk.2) (.slice Ao131 t420.length co131)) (fun _ hk => hk.2) (.slice Ao138 t423.length co138)) (fun _ hk => ⟨hk.1.1.1.1.1.2, ⟨hk.1.1.1.1.2, ⟨hk.1.1.1.2, ⟨hk.1.1.2, hk.1.2⟩⟩⟩⟩)⟩
                            have n8_ : Aside0 (Kd.R k52 52 ((w130.setCell ⟨gb427, 0, none⟩ (.slice Ao131 t420.length co131)).setCell ⟨gb427, 1, none⟩ (.slice Ao138 t423.length co138)) w.heap.size (fun k_ => some k_ ≠ (.slice Ao90 t378.length co90 : Value).ownBlock ∧ some k_ ≠ (.slice Ao95 t385.length co95 : Value).ownBlock ∧ some k_ ≠ (.slice Ao102 t393.length co102 : Value).ownBlock ∧ some k_ ≠ (.slice Ao110 t401.length co110 : Value).ownBlock ∧ some k_ ≠ (.slice Ao131 t420.length co131 : Value).ownBlock) (.slice Ao118 t409.length co118) t409) := ⟨by (with_reducible repeat (first | apply Kd.R_alloc | apply Kd.R_drewN | apply Kd.R_drew)); exact Kd.R_mono (Kd.R_far (p := ⟨gb427, 1, none⟩) (Kd.R_far (p := ⟨gb427, 0, none⟩) (Kd.R_types HO411.out BK427.out (by decide)) (fun _ hk => hk.2) (.slice Ao131 t420.length co131)) (fun _ hk => hk.2) (.slice Ao138 t423.length co138)) (fun _ hk => ⟨hk.1.1.1.1.1.2, ⟨hk.1.1.1.1.2, ⟨hk.1.1.1.2, ⟨hk.1.1.2, hk.1.2⟩⟩⟩⟩)⟩
                            have n9_ : Aside0 (Kd.R k54 54 ((w130.setCell ⟨gb427, 0, none⟩ (.slice Ao131 t420.length co131)).setCell ⟨gb427, 1, none⟩ (.slice Ao138 t423.length co138)) w.heap.size (fun k_ => some k_ ≠ (.slice Ao92 t381.length co92 : Value).ownBlock ∧ some k_ ≠ (.slice Ao98 t388.length co98 : Value).ownBlock ∧ some k_ ≠ (.slice Ao106 t396.length co106 : Value).ownBlock ∧ some k_ ≠ (.slice Ao115 t404.length co115 : Value).ownBlock ∧ some k_ ≠ (.slice Ao138 t423.length co138 : Value).ownBlock) (.slice Ao124 t412.length co124) t412) := ⟨by (with_reducible repeat (first | apply Kd.R_alloc | apply Kd.R_drewN | apply Kd.R_drew)); exact Kd.R_mono (Kd.R_far (p := ⟨gb427, 1, none⟩) (Kd.R_far (p := ⟨gb427, 0, none⟩) (Kd.R_types HO414.out BK427.out (by decide)) (fun _ hk => hk.2) (.slice Ao131 t420.length co131)) (fun _ hk => hk.2) (.slice Ao138 t423.length co138)) (fun _ hk => ⟨hk.1.1.1.1.1.2, ⟨hk.1.1.1.1.2, ⟨hk.1.1.1.2, ⟨hk.1.1.2, hk.1.2⟩⟩⟩⟩)⟩
                            have n10_ : Aside0 (Kd.R k43 43 ((w130.setCell ⟨gb427, 0, none⟩ (.slice Ao131 t420.length co131)).setCell ⟨gb427, 1, none⟩ (.slice Ao138 t423.length co138)) w.heap.size (fun _ => True) (.slice Ao128 y417.length co128) y417) := ⟨by (with_reducible repeat (first | apply Kd.R_alloc | apply Kd.R_drewN | apply Kd.R_drew)); exact Kd.R_mono (Kd.R_far (p := ⟨gb427, 1, none⟩) (Kd.R_far (p := ⟨gb427, 0, none⟩) (Kd.R_types HO419.out BK427.out (by decide)) (fun _ hk => hk.2) (.slice Ao131 t420.length co131)) (fun _ hk => hk.2) (.slice Ao138 t423.length co138)) (fun _ hk => trivial)⟩
                            have n11_ : Aside0 (Kd.R k52 52 ((w130.setCell ⟨gb427, 0, none⟩ (.slice Ao131 t420.length co131)).setCell ⟨gb427, 1, none⟩ (.slice Ao138 t423.length co138)) w.heap.size (fun k_ => some k_ ≠ (.slice Ao90 t378.length co90 : Value).ownBlock ∧ some k_ ≠ (.slice Ao95 t385.length co95 : Value).ownBlock ∧ some k_ ≠ (.slice Ao102 t393.length co102 : Value).ownBlock ∧ some k_ ≠ (.slice Ao110 t401.length co110 : Value).ownBlock ∧ some k_ ≠ (.slice Ao118 t409.length co118 : Value).ownBlock) (.slice Ao131 t420.length co131) t420) := ⟨by (with_reducible repeat (first | apply Kd.R_alloc | apply Kd.R_drewN | apply Kd.R_drew)); exact Kd.R_mono (Kd.R_far (p := ⟨gb427, 1, none⟩) (Kd.R_far (p := ⟨gb427, 0, none⟩) (Kd.R_types HO422.out BK427.out (by decide)) (fun _ hk => hk.2) (.slice Ao131 t420.length co131)) (fun _ hk => hk.2) (.slice Ao138 t423.length co138)) (fun _ hk => ⟨hk.1.1.1.1.1.2, ⟨hk.1.1.1.1.2, ⟨hk.1.1.1.2, ⟨hk.1.1.2, hk.1.2⟩⟩⟩⟩)⟩
                            have n12_ : Aside0 (Kd.R k54 54 ((w130.setCell ⟨gb427, 0, none⟩ (.slice Ao131 t420.length co131)).setCell ⟨gb427, 1, none⟩ (.slice Ao138 t423.length co138)) w.heap.size (fun k_ => some k_ ≠ (.slice Ao92 t381.length co92 : Value).ownBlock ∧ some k_ ≠ (.slice Ao98 t388.length co98 : Value).ownBlock ∧ some k_ ≠ (.slice Ao106 t396.length co106 : Value).ownBlock ∧ some k_ ≠ (.slice Ao115 t404.length co115 : Value).ownBlock ∧ some k_ ≠ (.slice Ao124 t412.length co124 : Value).ownBlock) (.slice Ao138 t423.length co138) t423) := ⟨by (with_reducible repeat (first | apply Kd.R_alloc | apply Kd.R_drewN | apply Kd.R_drew)); exact Kd.R_mono (Kd.R_far (p := ⟨gb427, 1, none⟩) (Kd.R_far (p := ⟨gb427, 0, none⟩) (Kd.R_types HO425.out BK427.out (by decide)) (fun _ hk => hk.2) (.slice Ao131 t420.length co131)) (fun _ hk => hk.2) (.slice Ao138 t423.length co138)) (fun _ hk => ⟨hk.1.1.1.1.1.2, ⟨hk.1.1.1.1.2, ⟨hk.1.1.1.2, ⟨hk.1.1.2, hk.1.2⟩⟩⟩⟩)⟩
                            have n13_ : Aside0 (((w130.setCell ⟨gb427, 0, none⟩ (.slice Ao131 t420.length co131)).setCell ⟨gb427, 1, none⟩ (.slice Ao138 t423.length co138)).heap[gb384]? = some (.cells #[.slice Ao90 t378.length co90, .slice Ao92 t381.length co92] 25 (0, 0))) := ⟨by (with_reducible repeat (first | refine blk_drewN ?_ _ | refine blk_drew ?_ | refine blk_alloc ?_ _)); refine blk_far ?_ NB384_427.out _; (with_reducible repeat (first | refine blk_drewN ?_ _ | refine blk_drew ?_ | refine blk_alloc ?_ _)); refine blk_far ?_ NB384_427.out _; (with_reducible repeat (first | refine blk_drewN ?_ _ | refine blk_drew ?_ | refine blk_alloc ?_ _)); exact BK384.out⟩
                            have n14_ : Aside0 (((w130.setCell ⟨gb427, 0, none⟩ (.slice Ao131 t420.length co131)).setCell ⟨gb427, 1, none⟩ (.slice Ao138 t423.length co138)).heap[gb392]? = some (.cells #[.slice Ao95 t385.length co95, .slice Ao98 t388.length co98] 25 (0, 0))) := ⟨by (with_reducible repeat (first | refine blk_drewN ?_ _ | refine blk_drew ?_ | refine blk_alloc ?_ _)); refine blk_far ?_ NB392_427.out _; (with_reducible repeat (first | refine blk_drewN ?_ _ | refine blk_drew ?_ | refine blk_alloc ?_ _)); refine blk_far ?_ NB392_427.out _; (with_reducible repeat (first | refine blk_drewN ?_ _ | refine blk_drew ?_ | refine blk_alloc ?_ _)); exact BK392.out⟩
                            have n15_ : Aside0 (((w130.setCell ⟨gb427, 0, none⟩ (.slice Ao131 t420.length co131)).setCell ⟨gb427, 1, none⟩ (.slice Ao138 t423.length co138)).heap[gb400]? = some (.cells #[.slice Ao102 t393.length co102, .slice Ao106 t396.length co106] 25 (0, 0))) := ⟨by (with_reducible repeat (first | refine blk_drewN ?_ _ | refine blk_drew ?_ | refine blk_alloc ?_ _)); refine blk_far ?_ NB400_427.out _; (with_reducible repeat (first | refine blk_drewN ?_ _ | refine blk_drew ?_ | refine blk_alloc ?_ _)); refine blk_far ?_ NB400_427.out _; (with_reducible repeat (first | refine blk_drewN ?_ _ | refine blk_drew ?_ | refine blk_alloc ?_ _)); exact BK400.out⟩
                            have n16_ : Aside0 (((w130.setCell ⟨gb427, 0, none⟩ (.slice Ao131 t420.length co131)).setCell ⟨gb427, 1, none⟩ (.slice Ao138 t423.length co138)).heap[gb408]? = some (.cells #[.slice Ao110 t401.length co110, .slice Ao115 t404.length co115] 25 (0, 0))) := ⟨by (with_reducible repeat (first | refine blk_drewN ?_ _ | refine blk_drew ?_ | refine blk_alloc ?_ _)); refine blk_far ?_ NB408_427.out _; (with_reducible repeat (first | refine blk_drewN ?_ _ | refine blk_drew ?_ | refine blk_alloc ?_ _)); refine blk_far ?_ NB408_427.out _; (with_reducible repeat (first | refine blk_drewN ?_ _ | refine blk_drew ?_ | refine blk_alloc ?_ _)); exact BK408.out⟩
                            have n17_ : Aside0 (((w130.setCell ⟨gb427, 0, none⟩ (.slice Ao131 t420.length co131)).setCell ⟨gb427, 1, none⟩ (.slice Ao138 t423.length co138)).heap[gb416]? = some (.cells #[.slice Ao118 t409.length co118, .slice Ao124 t412.length co124] 25 (0, 0))) := ⟨by (with_reducible repeat (first | refine blk_drewN ?_ _ | refine blk_drew ?_ | refine blk_alloc ?_ _)); refine blk_far ?_ NB416_427.out _; (with_reducible repeat (first | refine blk_drewN ?_ _ | refine blk_drew ?_ | refine blk_alloc ?_ _)); refine blk_far ?_ NB416_427.out _; (with_reducible repeat (first | refine blk_drewN ?_ _ | refine blk_drew ?_ | refine blk_alloc ?_ _)); exact BK416.out⟩
                            have n18_ : Aside0 (((w130.setCell ⟨gb427, 0, none⟩ (.slice Ao131 t420.length co131)).setCell ⟨gb427, 1, none⟩ (.slice Ao138 t423.length co138)).heap[gb427]? = some (.cells #[.slice Ao131 t420.length co131, .slice Ao138 t423.length co138] 25 (0, 0))) := ⟨by (with_reducible repeat (first | refine blk_drewN ?_ _ | refine blk_drew ?_ | refine blk_alloc ?_ _)); refine blk_put (cs := #[.slice Ao131 t420.length co131, .slice none 0 0]) ?_ 1 _ rfl; (with_reducible repeat (first | refine blk_drewN ?_ _ | refine blk_drew ?_ | refine blk_alloc ?_ _)); refine blk_put (cs := #[.slice none 0 0, .slice none 0 0]) ?_ 0 _ rfl; (with_reducible repeat (first | refine blk_drewN ?_ _ | refine blk_drew ?_ | refine blk_alloc ?_ _)); exact BK427.out⟩
                            have n19_ : Aside0 (Below w.heap.size w ((w130.setCell ⟨gb427, 0, none⟩ (.slice Ao131 t420.length co131)).setCell ⟨gb427, 1, none⟩ (.slice Ao138 t423.length co138))) := ⟨by repeat (first | (with_reducible first | exact HB.out | apply below_alloc | apply pw_below_drewN | apply below_drew1 | refine below_set ?_ GE384.out | refine below_set ?_ GE392.out | refine below_set ?_ GE400.out | refine below_set ?_ GE408.out | refine below_set ?_ GE416.out | refine below_set ?_ GE427.out) | exact HB.out)⟩
                            (try clear HO380)
                            (try clear HO383)
                            (try clear HO387)
                            (try clear HO390)
                            (try clear HO395)
                            (try clear HO398)
                            (try clear HO403)
                            (try clear HO406)
                            (try clear HO411)
                            (try clear HO414)
                            (try clear HO419)
                            (try clear HO422)
                            (try clear HO425)
                            (try clear BK384)
                            (try clear BK392)
                            (try clear BK400)
                            (try clear BK408)
                            (try clear BK416)
                            (try clear BK427)
                            (try clear HB)
                            generalize ((w130.setCell ⟨gb427, 0, none⟩ (.slice Ao131 t420.length co131)).setCell ⟨gb427, 1, none⟩ (.slice Ao138 t423.length co138)) = w139 at n0_ n1_ n2_ n3_ n4_ n5_ n6_ n7_ n8_ n9_ n10_ n11_ n12_ n13_ n14_ n15_ n16_ n17_ n18_ n19_ ⊢
                            have HO380 := n0_
                            have HO383 := n1_
                            have HO387 := n2_
                            have HO390 := n3_
                            have HO395 := n4_
                            have HO398 := n5_
                            have HO403 := n6_
                            have HO406 := n7_
                            have HO411 := n8_
                            have HO414 := n9_
                            have HO419 := n10_
                            have HO422 := n11_
                            have HO425 := n12_
                            have BK384 := n13_
                            have BK392 := n14_
                            have BK400 := n15_
                            have BK408 := n16_
                            have BK416 := n17_
                            have BK427 := n18_
                            have HB := n19_
                            clear n0_ n1_ n2_ n3_ n4_ n5_ n6_ n7_ n8_ n9_ n10_ n11_ n12_ n13_ n14_ n15_ n16_ n17_ n18_ n19_
                            have n0_ := Aside0.mk (Kd.R_drew HO380.out)
                            have n1_ := Aside0.mk (Kd.R_drew HO383.out)
                            have n2_ := Aside0.mk (Kd.R_drew HO387.out)
                            have n3_ := Aside0.mk (Kd.R_drew HO390.out)
                            have n4_ := Aside0.mk (Kd.R_drew HO395.out)
                            have n5_ := Aside0.mk (Kd.R_drew HO398.out)
                            have n6_ := Aside0.mk (Kd.R_drew HO403.out)
                            have n7_ := Aside0.mk (Kd.R_drew HO406.out)
                            have n8_ := Aside0.mk (Kd.R_drew HO411.out)
                            have n9_ := Aside0.mk (Kd.R_drew HO414.out)
                            have n10_ := Aside0.mk (Kd.R_drew HO419.out)
                            have n11_ := Aside0.mk (Kd.R_drew HO422.out)
                            have n12_ := Aside0.mk (Kd.R_drew HO425.out)
                            have n13_ := Aside0.mk (blk_drew BK384.out)
                            have n14_ := Aside0.mk (blk_drew BK392.out)
                            have n15_ := Aside0.mk (blk_drew BK400.out)
                            have n16_ := Aside0.mk (blk_drew BK408.out)
                            have n17_ := Aside0.mk (blk_drew BK416.out)
                            have n18_ := Aside0.mk (blk_drew BK427.out)
                            have n19_ := Aside0.mk (below_drew1 HB.out)
                            (try clear HO380)
                            (try clear HO383)
                            (try clear HO387)
                            (try clear HO390)
                            (try clear HO395)
                            (try clear HO398)
                            (try clear HO403)
                            (try clear HO406)
                            (try clear HO411)
                            (try clear HO414)
                            (try clear HO419)
                            (try clear HO422)
                            (try clear HO425)
                            clear BK384
                            clear BK392
                            clear BK400
                            clear BK408
                            clear BK416
                            clear BK427
                            clear HB
                            have HO380 := n0_
                            have HO383 := n1_
                            have HO387 := n2_
                            have HO390 := n3_
                            have HO395 := n4_
                            have HO398 := n5_
                            have HO403 := n6_
                            have HO406 := n7_
                            have HO411 := n8_
                            have HO414 := n9_
                            have HO419 := n10_
                            have HO422 := n11_
                            have HO425 := n12_
                            have BK384 := n13_
                            have BK392 := n14_
                            have BK400 := n15_
                            have BK408 := n16_
                            have BK416 := n17_
                            have BK427 := n18_
                            have HB := n19_
                            clear n0_ n1_ n2_ n3_ n4_ n5_ n6_ n7_ n8_ n9_ n10_ n11_ n12_ n13_ n14_ n15_ n16_ n17_ n18_ n19_
                            refine start_ (n := 8) (S := fun w' => w'.cell? ⟨gb392, 0, none⟩ = some (.slice Ao95 t385.length co95) ∧ w'.cell? ⟨gb392, 1, none⟩ = some (.slice Ao98 t388.length co98) ∧ w'.cell? ⟨gb400, 0, none⟩ = some (.slice Ao102 t393.length co102) ∧ w'.cell? ⟨gb400, 1, none⟩ = some (.slice Ao106 t396.length co106)) (ds := []) #[false, false, false, false, false, false, false, false] (by kernel_rfl) rfl rfl ⟨(blk_cell BK392.out 0).trans rfl, (blk_cell BK392.out 1).trans rfl, (blk_cell BK400.out 0).trans rfl, (blk_cell BK400.out 1).trans rfl⟩ (fun hHeld => ?_); refine with_tabW postroomlaw5_EntryPartsA.tab10 postroomlaw5_EntryPartsA.bits10 (fun HT_ HW_ => ?_)
                            generalize w139.drew = w140 at HO380 HO383 HO387 HO390 HO395 HO398 HO403 HO406 HO411 HO414 HO419 HO422 HO425 BK384 BK392 BK400 BK408 BK416 BK427 HB hHeld ⊢
                            refine pure_ (i := 1) (N := some 65) (v := ?_) (a' := ?_) #[false, true, false, false, false, false, false, false] rfl rfl (any_of HT_.out (by kernel_rfl)) (fun _ _ _ h => h) (Or.inl ⟨by rfl, ?_⟩) ?_ ?_
                            rotate_left
                            · intro w'
                              go_simp
                              with_reducible rfl
                            rotate_left
                            · simp only [Act.put, List.setIfInBounds_toArray, List.set_cons_zero, List.set_cons_succ, i64_w, i32_w]
                              rfl
                            refine pure_ (i := 4) (N := some 68) (v := ?_) (a' := ?_) #[false, true, false, false, true, false, false, false] rfl rfl (any_of HT_.out (by kernel_rfl)) (fun _ _ _ h => h) (Or.inl ⟨by rfl, ?_⟩) ?_ ?_
                            rotate_left
                            · intro w'
                              go_simp
                              with_reducible rfl
                            rotate_left
                            · simp only [Act.put, List.setIfInBounds_toArray, List.set_cons_zero, List.set_cons_succ, i64_w, i32_w]
                              rfl
                            refine take_ (i := 2) (N := some 66) (v := ?_) (a' := ?_) #[false, true, true, false, true, false, false, false] rfl rfl (take_ofW HT_.out HW_.out (by kernel_rfl)) (fun _ _ _ h => h) (Or.inl ⟨by rfl, ?_⟩) hHeld ?_ ?_
                            rotate_left
                            · rintro w' ⟨s0, s1, s2, s3⟩
                              go_simp
                              with_reducible rfl
                            rotate_left
                            · simp only [Act.put, List.setIfInBounds_toArray, List.set_cons_zero, List.set_cons_succ, i64_w, i32_w]
                              rfl
                            refine take_ (i := 5) (N := some 69) (v := ?_) (a' := ?_) #[false, true, true, false, true, true, false, false] rfl rfl (take_ofW HT_.out HW_.out (by kernel_rfl)) (fun _ _ _ h => h) (Or.inl ⟨by rfl, ?_⟩) hHeld ?_ ?_
                            rotate_left
                            · rintro w' ⟨s0, s1, s2, s3⟩
                              go_simp
                              with_reducible rfl
                            rotate_left
                            · simp only [Act.put, List.setIfInBounds_toArray, List.set_cons_zero, List.set_cons_succ, i64_w, i32_w]
                              rfl
                            refine one_ (i := 0) (N := some 64) #[true, true, true, false, true, true, false, false] rfl rfl (one_of HT_.out (by kernel_rfl)) (by decide) (fun K hK => ?_)
                            refine Kd.R_lit_step k54 _ 54 ?hg (N := 64) ?hd (xs := ([] : List (S54))) (inner := []) (ok := fun _ => True) (okp := fun _ => True) ?hr ?hp (fun _ hk => hk) trivial (Below.refl _ _) (Nat.le_refl _) (by simp) ?_; (case hd => rfl); (case hg => rfl); (case hr => first | (go_simp; done) | (go_simp; rfl)); (case hp => exact (Reps.none _ _))
                            intro v429 w141 ho142 hb hg_ hnew_
                            clear hg_ hnew_
                            (first | rw [← Ny428.out] at ho142 | (simp only [Int.reduceToNat] at ho142; rw [← Ny428.out] at ho142))
                            have n0_ := Aside0.mk (Kd.R_below zPtA_11 hb)
                            have n1_ := Aside0.mk (Kd.R_elder' zPtA_5 (Kd.R_base ho142) hb)
                            have n2_ := Aside0.mk (Kd.R_below zPtA_16 hb)
                            have n3_ := Aside0.mk (Kd.R_elder' zPtA_8 (Kd.R_base ho142) hb)
                            have n4_ := Aside0.mk (Kd.R_below zPtA_18 hb)
                            have n5_ := Aside0.mk (Kd.R_elder' zPtA_12 (Kd.R_base ho142) hb)
                            have n6_ := Aside0.mk (Kd.R_below zPtA_17 hb)
                            have n7_ := Aside0.mk (Kd.R_elder' zPtA_9 (Kd.R_base ho142) hb)
                            have n8_ := Aside0.mk (Kd.R_below zPtA_19 hb)
                            have n9_ := Aside0.mk (Kd.R_elder' zPtA_13 (Kd.R_base ho142) hb)
                            have n10_ := Aside0.mk (Kd.R_below zPtA_35 hb)
                            have n11_ := Aside0.mk (Kd.R_below zPtA_36 hb)
                            have n12_ := Aside0.mk (Kd.R_elder' zPtA_23 (Kd.R_base ho142) hb)
                            have n13_ := Aside0.mk (Kd.R_lower (Kd.R_new' (Kd.R_new' (Kd.R_new' (Kd.R_new' (Kd.R_new' (Kd.R_new' ho142 (Kd.R_lt zPtA_5)) (Kd.R_lt zPtA_8)) (Kd.R_lt zPtA_12)) (Kd.R_lt zPtA_9)) (Kd.R_lt zPtA_13)) (Kd.R_lt zPtA_23)) (below_size zPtA_0))
                            have n14_ := Aside0.mk (blk_below (g := gb384) (o := .cells #[.slice Ao90 t378.length co90, .slice Ao92 t381.length co92] 25 (0, 0)) zPtA_1 hb)
                            have n15_ := Aside0.mk (blk_below (g := gb392) (o := .cells #[.slice Ao95 t385.length co95, .slice Ao98 t388.length co98] 25 (0, 0)) zPtA_2 hb)
                            have n16_ := Aside0.mk (blk_below (g := gb400) (o := .cells #[.slice Ao102 t393.length co102, .slice Ao106 t396.length co106] 25 (0, 0)) zPtA_4 hb)
                            have n17_ := Aside0.mk (blk_below (g := gb408) (o := .cells #[.slice Ao110 t401.length co110, .slice Ao115 t404.length co115] 25 (0, 0)) zPtA_6 hb)
                            have n18_ := Aside0.mk (blk_below (g := gb416) (o := .cells #[.slice Ao118 t409.length co118, .slice Ao124 t412.length co124] 25 (0, 0)) zPtA_14 hb)
                            have n19_ := Aside0.mk (blk_below (g := gb427) (o := .cells #[.slice Ao131 t420.length co131, .slice Ao138 t423.length co138] 25 (0, 0)) zPtA_25 hb)
                            have n20_ := Aside0.mk (below_step zPtA_0 hb)
                            (try clear HO380)
                            (try clear HO383)
                            (try clear HO387)
                            (try clear HO390)
                            (try clear HO395)
                            (try clear HO398)
                            (try clear HO403)
                            (try clear HO406)
                            (try clear HO411)
                            (try clear HO414)
                            (try clear HO419)
                            (try clear HO422)
                            (try clear HO425)
                            clear BK384
                            clear BK392
                            clear BK400
                            clear BK408
                            clear BK416
                            clear BK427
                            clear HB
                            have HO380 := n0_
                            have HO383 := n1_
                            have HO387 := n2_
                            have HO390 := n3_
                            have HO395 := n4_
                            have HO398 := n5_
                            have HO403 := n6_
                            have HO406 := n7_
                            have HO411 := n8_
                            have HO414 := n9_
                            have HO419 := n10_
                            have HO422 := n11_
                            have HO425 := n12_
                            have HO430 := n13_
                            have BK384 := n14_
                            have BK392 := n15_
                            have BK400 := n16_
                            have BK408 := n17_
                            have BK416 := n18_
                            have BK427 := n19_
                            have HB := n20_
                            clear n0_ n1_ n2_ n3_ n4_ n5_ n6_ n7_ n8_ n9_ n10_ n11_ n12_ n13_ n14_ n15_ n16_ n17_ n18_ n19_ n20_
                            clear hb ho142
                            refine hK.out _ _ ⟨(blk_cell BK392.out 0).trans rfl, (blk_cell BK392.out 1).trans rfl, (blk_cell BK400.out 0).trans rfl, (blk_cell BK400.out 1).trans rfl⟩ (fun hHeld => ?_)
                            clear hK K
                            refine norm_ (a' := ?_) ?_ ?_
                            rotate_left
                            · show Act.put _ (some 64) _ = _
                              simp only [Act.put, List.setIfInBounds_toArray, List.set_cons_zero, List.set_cons_succ, i64_w, i32_w]
                              rfl
                            refine one_ (i := 3) (N := some 67) #[true, true, true, true, true, true, false, false] rfl rfl (one_of HT_.out (by kernel_rfl)) (by decide) (fun K hK => ?_)
                            refine Kd.R_append_rows_step k54 (w0 := w) w.heap.size (by rfl) (.tmp 64) (.tmp 66) 23 54 (.agg #[(.int .u64 0), (.int .i64 0)]) 16 rfl Tryz.underlying23 info54 rfl (by decide) (by omega) v429 y428 t388 _ _ _ (fun k_ => some k_ ≠ (.slice Ao92 t381.length co92 : Value).ownBlock ∧ some k_ ≠ (.slice Ao98 t388.length co98 : Value).ownBlock ∧ some k_ ≠ (.slice Ao106 t396.length co106 : Value).ownBlock ∧ some k_ ≠ (.slice Ao115 t404.length co115 : Value).ownBlock ∧ some k_ ≠ (.slice Ao124 t412.length co124 : Value).ownBlock ∧ some k_ ≠ (.slice Ao138 t423.length co138 : Value).ownBlock) (fun _ => False) rfl rfl ?aO ?aR (fun _ _ h => h) (fun _ h => h.elim) ?aF ?aB ?aS ?aL ?_
                            (case aR => repeat (first | exact (Kd.R_reads' HO390.out).2.2 | (with_reducible refine Kd.C_alloc ?_ _) | (with_reducible refine Kd.C_drewN ?_ _) | (with_reducible refine Kd.C_drew ?_)))
                            (case aB => exact zPtA_0)
                            (case aF => exact (fun k_ hk => ⟨Kd.fresh' (Kd.R_lt zPtA_5) k_ hk, Kd.fresh' (Kd.R_lt zPtA_8) k_ hk, Kd.fresh' (Kd.R_lt zPtA_12) k_ hk, Kd.fresh' (Kd.R_lt zPtA_9) k_ hk, Kd.fresh' (Kd.R_lt zPtA_13) k_ hk, Kd.fresh' (Kd.R_lt zPtA_23) k_ hk⟩))
                            (case aO => exact (by (with_reducible repeat (first | apply Kd.R_alloc | apply Kd.R_drewN | apply Kd.R_drew)); exact Kd.R_mono HO430.out (fun _ hk => ⟨hk.1.1.1.1.1.2, ⟨hk.1.1.1.1.2, ⟨hk.1.1.1.2, ⟨hk.1.1.2, ⟨hk.1.2, hk.2⟩⟩⟩⟩⟩)))
                            (case aS => exact (below_size zPtA_0))
                            (case aL => have := LMc16.out; omega)
                            intro v432 w143 ho hb hg hat
                            rw [← Ny431.out] at ho
                            have n0_ := Aside0.mk (Kd.R_over' zPtA_11 (Kd.R_typed zPtA_34) (by decide) hg)
                            have n1_ := Aside0.mk (Kd.R_after (ok := (fun k_ => some k_ ≠ (.slice Ao98 t388.length co98 : Value).ownBlock ∧ some k_ ≠ (.slice Ao106 t396.length co106 : Value).ownBlock ∧ some k_ ≠ (.slice Ao115 t404.length co115 : Value).ownBlock ∧ some k_ ≠ (.slice Ao124 t412.length co124 : Value).ownBlock ∧ some k_ ≠ (.slice Ao138 t423.length co138 : Value).ownBlock)) zPtA_5 hg hat)
                            have n2_ := Aside0.mk (blk_grown (g := gb384) (o := .cells #[.slice Ao90 t378.length co90, .slice Ao92 t381.length co92] 25 (0, 0)) zPtA_1 hg (Kd.R_ne HO430.out BK384.out (by decide)))
                            have n3_ := Aside0.mk (Kd.R_over' zPtA_16 (Kd.R_typed zPtA_34) (by decide) hg)
                            have n4_ := Aside0.mk (Kd.R_after (ok := (fun k_ => some k_ ≠ (.slice Ao92 t381.length co92 : Value).ownBlock ∧ some k_ ≠ (.slice Ao106 t396.length co106 : Value).ownBlock ∧ some k_ ≠ (.slice Ao115 t404.length co115 : Value).ownBlock ∧ some k_ ≠ (.slice Ao124 t412.length co124 : Value).ownBlock ∧ some k_ ≠ (.slice Ao138 t423.length co138 : Value).ownBlock)) zPtA_8 hg hat)
                            have n5_ := Aside0.mk (blk_grown (g := gb392) (o := .cells #[.slice Ao95 t385.length co95, .slice Ao98 t388.length co98] 25 (0, 0)) zPtA_2 hg (Kd.R_ne HO430.out BK392.out (by decide)))
                            have n6_ := Aside0.mk (Kd.R_over' zPtA_18 (Kd.R_typed zPtA_34) (by decide) hg)
                            have n7_ := Aside0.mk (Kd.R_after (ok := (fun k_ => some k_ ≠ (.slice Ao92 t381.length co92 : Value).ownBlock ∧ some k_ ≠ (.slice Ao98 t388.length co98 : Value).ownBlock ∧ some k_ ≠ (.slice Ao115 t404.length co115 : Value).ownBlock ∧ some k_ ≠ (.slice Ao124 t412.length co124 : Value).ownBlock ∧ some k_ ≠ (.slice Ao138 t423.length co138 : Value).ownBlock)) zPtA_12 hg hat)
                            have n8_ := Aside0.mk (blk_grown (g := gb400) (o := .cells #[.slice Ao102 t393.length co102, .slice Ao106 t396.length co106] 25 (0, 0)) zPtA_4 hg (Kd.R_ne HO430.out BK400.out (by decide)))
                            have n9_ := Aside0.mk (Kd.R_over' zPtA_17 (Kd.R_typed zPtA_34) (by decide) hg)
                            have n10_ := Aside0.mk (Kd.R_after (ok := (fun k_ => some k_ ≠ (.slice Ao92 t381.length co92 : Value).ownBlock ∧ some k_ ≠ (.slice Ao98 t388.length co98 : Value).ownBlock ∧ some k_ ≠ (.slice Ao106 t396.length co106 : Value).ownBlock ∧ some k_ ≠ (.slice Ao124 t412.length co124 : Value).ownBlock ∧ some k_ ≠ (.slice Ao138 t423.length co138 : Value).ownBlock)) zPtA_9 hg hat)
                            have n11_ := Aside0.mk (blk_grown (g := gb408) (o := .cells #[.slice Ao110 t401.length co110, .slice Ao115 t404.length co115] 25 (0, 0)) zPtA_6 hg (Kd.R_ne HO430.out BK408.out (by decide)))
                            have n12_ := Aside0.mk (Kd.R_over' zPtA_19 (Kd.R_typed zPtA_34) (by decide) hg)
                            have n13_ := Aside0.mk (Kd.R_after (ok := (fun k_ => some k_ ≠ (.slice Ao92 t381.length co92 : Value).ownBlock ∧ some k_ ≠ (.slice Ao98 t388.length co98 : Value).ownBlock ∧ some k_ ≠ (.slice Ao106 t396.length co106 : Value).ownBlock ∧ some k_ ≠ (.slice Ao115 t404.length co115 : Value).ownBlock ∧ some k_ ≠ (.slice Ao138 t423.length co138 : Value).ownBlock)) zPtA_13 hg hat)
                            have n14_ := Aside0.mk (blk_grown (g := gb416) (o := .cells #[.slice Ao118 t409.length co118, .slice Ao124 t412.length co124] 25 (0, 0)) zPtA_14 hg (Kd.R_ne HO430.out BK416.out (by decide)))
                            have n15_ := Aside0.mk (Kd.R_over' zPtA_35 (Kd.R_typed zPtA_34) (by decide) hg)
                            have n16_ := Aside0.mk (Kd.R_over' zPtA_36 (Kd.R_typed zPtA_34) (by decide) hg)
                            have n17_ := Aside0.mk (Kd.R_after (ok := (fun k_ => some k_ ≠ (.slice Ao92 t381.length co92 : Value).ownBlock ∧ some k_ ≠ (.slice Ao98 t388.length co98 : Value).ownBlock ∧ some k_ ≠ (.slice Ao106 t396.length co106 : Value).ownBlock ∧ some k_ ≠ (.slice Ao115 t404.length co115 : Value).ownBlock ∧ some k_ ≠ (.slice Ao124 t412.length co124 : Value).ownBlock)) zPtA_23 hg hat)
                            have n18_ := Aside0.mk (blk_grown (g := gb427) (o := .cells #[.slice Ao131 t420.length co131, .slice Ao138 t423.length co138] 25 (0, 0)) zPtA_25 hg (Kd.R_ne HO430.out BK427.out (by decide)))
                            have n19_ := Aside0.mk (hb)
                            have n20_ := Aside0.mk (ho)
                            (try clear HO380)
                            (try clear HO383)
                            clear BK384
                            (try clear HO387)
                            (try clear HO390)
                            clear BK392
                            (try clear HO395)
                            (try clear HO398)
                            clear BK400
                            (try clear HO403)
                            (try clear HO406)
                            clear BK408
                            (try clear HO411)
                            (try clear HO414)
                            clear BK416
                            (try clear HO419)
                            (try clear HO422)
                            (try clear HO425)
                            clear BK427
                            clear HB
                            (try clear HO430)
                            have HO380 := n0_
                            have HO383 := n1_
                            have BK384 := n2_
                            have HO387 := n3_
                            have HO390 := n4_
                            have BK392 := n5_
                            have HO395 := n6_
                            have HO398 := n7_
                            have BK400 := n8_
                            have HO403 := n9_
                            have HO406 := n10_
                            have BK408 := n11_
                            have HO411 := n12_
                            have HO414 := n13_
                            have BK416 := n14_
                            have HO419 := n15_
                            have HO422 := n16_
                            have HO425 := n17_
                            have BK427 := n18_
                            have HB := n19_
                            have HO433 := n20_
                            clear n0_ n1_ n2_ n3_ n4_ n5_ n6_ n7_ n8_ n9_ n10_ n11_ n12_ n13_ n14_ n15_ n16_ n17_ n18_ n19_ n20_
                            clear ho hb hg hat
                            refine hK.out _ _ ⟨(blk_cell BK392.out 0).trans rfl, (blk_cell BK392.out 1).trans rfl, (blk_cell BK400.out 0).trans rfl, (blk_cell BK400.out 1).trans rfl⟩ (fun hHeld => ?_)
                            clear hK K
                            refine norm_ (a' := ?_) ?_ ?_
                            rotate_left
                            · show Act.put _ (some 67) _ = _
                              simp only [Act.put, List.setIfInBounds_toArray, List.set_cons_zero, List.set_cons_succ, i64_w, i32_w]
                              rfl
                            refine one_ (i := 6) (N := some 70) #[true, true, true, true, true, true, true, false] rfl rfl (one_of HT_.out (by kernel_rfl)) (by decide) (fun K hK => ?_)
                            refine Kd.R_append_rows_step k54 (w0 := w) w.heap.size (by rfl) (.tmp 67) (.tmp 69) 23 54 (.agg #[(.int .u64 0), (.int .i64 0)]) 16 rfl Tryz.underlying23 info54 rfl (by decide) (by omega) v432 y431 t396 _ _ _ (fun k_ => some k_ ≠ (.slice Ao92 t381.length co92 : Value).ownBlock ∧ some k_ ≠ (.slice Ao98 t388.length co98 : Value).ownBlock ∧ some k_ ≠ (.slice Ao106 t396.length co106 : Value).ownBlock ∧ some k_ ≠ (.slice Ao115 t404.length co115 : Value).ownBlock ∧ some k_ ≠ (.slice Ao124 t412.length co124 : Value).ownBlock ∧ some k_ ≠ (.slice Ao138 t423.length co138 : Value).ownBlock) (fun _ => False) rfl rfl ?aO ?aR (fun _ _ h => h) (fun _ h => h.elim) ?aF ?aB ?aS ?aL ?_
                            (case aR => repeat (first | exact (Kd.R_reads' HO398.out).2.2 | (with_reducible refine Kd.C_alloc ?_ _) | (with_reducible refine Kd.C_drewN ?_ _) | (with_reducible refine Kd.C_drew ?_)))
                            (case aB => exact zPtA_0)
                            (case aF => exact (fun k_ hk => ⟨Kd.fresh' (Kd.R_lt zPtA_5) k_ hk, Kd.fresh' (Kd.R_lt zPtA_8) k_ hk, Kd.fresh' (Kd.R_lt zPtA_12) k_ hk, Kd.fresh' (Kd.R_lt zPtA_9) k_ hk, Kd.fresh' (Kd.R_lt zPtA_13) k_ hk, Kd.fresh' (Kd.R_lt zPtA_23) k_ hk⟩))
                            (case aO => exact zPtA_24)
                            (case aS => exact (below_size zPtA_0))
                            (case aL => have := LMc17.out; omega)
                            intro v435 w144 ho hb hg hat
                            rw [← Ny434.out] at ho
                            have n0_ := Aside0.mk (Kd.R_over' zPtA_11 (Kd.R_typed zPtA_24) (by decide) hg)
                            have n1_ := Aside0.mk (Kd.R_after (ok := (fun k_ => some k_ ≠ (.slice Ao98 t388.length co98 : Value).ownBlock ∧ some k_ ≠ (.slice Ao106 t396.length co106 : Value).ownBlock ∧ some k_ ≠ (.slice Ao115 t404.length co115 : Value).ownBlock ∧ some k_ ≠ (.slice Ao124 t412.length co124 : Value).ownBlock ∧ some k_ ≠ (.slice Ao138 t423.length co138 : Value).ownBlock)) zPtA_5 hg hat)
                            have n2_ := Aside0.mk (blk_grown (g := gb384) (o := .cells #[.slice Ao90 t378.length co90, .slice Ao92 t381.length co92] 25 (0, 0)) zPtA_1 hg (Kd.R_ne HO433.out BK384.out (by decide)))
                            have n3_ := Aside0.mk (Kd.R_over' zPtA_16 (Kd.R_typed zPtA_24) (by decide) hg)
                            have n4_ := Aside0.mk (Kd.R_after (ok := (fun k_ => some k_ ≠ (.slice Ao92 t381.length co92 : Value).ownBlock ∧ some k_ ≠ (.slice Ao106 t396.length co106 : Value).ownBlock ∧ some k_ ≠ (.slice Ao115 t404.length co115 : Value).ownBlock ∧ some k_ ≠ (.slice Ao124 t412.length co124 : Value).ownBlock ∧ some k_ ≠ (.slice Ao138 t423.length co138 : Value).ownBlock)) zPtA_8 hg hat)
                            have n5_ := Aside0.mk (blk_grown (g := gb392) (o := .cells #[.slice Ao95 t385.length co95, .slice Ao98 t388.length co98] 25 (0, 0)) zPtA_2 hg (Kd.R_ne HO433.out BK392.out (by decide)))
                            have n6_ := Aside0.mk (Kd.R_over' zPtA_18 (Kd.R_typed zPtA_24) (by decide) hg)
                            have n7_ := Aside0.mk (Kd.R_after (ok := (fun k_ => some k_ ≠ (.slice Ao92 t381.length co92 : Value).ownBlock ∧ some k_ ≠ (.slice Ao98 t388.length co98 : Value).ownBlock ∧ some k_ ≠ (.slice Ao115 t404.length co115 : Value).ownBlock ∧ some k_ ≠ (.slice Ao124 t412.length co124 : Value).ownBlock ∧ some k_ ≠ (.slice Ao138 t423.length co138 : Value).ownBlock)) zPtA_12 hg hat)
                            have n8_ := Aside0.mk (blk_grown (g := gb400) (o := .cells #[.slice Ao102 t393.length co102, .slice Ao106 t396.length co106] 25 (0, 0)) zPtA_4 hg (Kd.R_ne HO433.out BK400.out (by decide)))
                            have n9_ := Aside0.mk (Kd.R_over' zPtA_17 (Kd.R_typed zPtA_24) (by decide) hg)
                            have n10_ := Aside0.mk (Kd.R_after (ok := (fun k_ => some k_ ≠ (.slice Ao92 t381.length co92 : Value).ownBlock ∧ some k_ ≠ (.slice Ao98 t388.length co98 : Value).ownBlock ∧ some k_ ≠ (.slice Ao106 t396.length co106 : Value).ownBlock ∧ some k_ ≠ (.slice Ao124 t412.length co124 : Value).ownBlock ∧ some k_ ≠ (.slice Ao138 t423.length co138 : Value).ownBlock)) zPtA_9 hg hat)
                            have n11_ := Aside0.mk (blk_grown (g := gb408) (o := .cells #[.slice Ao110 t401.length co110, .slice Ao115 t404.length co115] 25 (0, 0)) zPtA_6 hg (Kd.R_ne HO433.out BK408.out (by decide)))
                            have n12_ := Aside0.mk (Kd.R_over' zPtA_19 (Kd.R_typed zPtA_24) (by decide) hg)
                            have n13_ := Aside0.mk (Kd.R_after (ok := (fun k_ => some k_ ≠ (.slice Ao92 t381.length co92 : Value).ownBlock ∧ some k_ ≠ (.slice Ao98 t388.length co98 : Value).ownBlock ∧ some k_ ≠ (.slice Ao106 t396.length co106 : Value).ownBlock ∧ some k_ ≠ (.slice Ao115 t404.length co115 : Value).ownBlock ∧ some k_ ≠ (.slice Ao138 t423.length co138 : Value).ownBlock)) zPtA_13 hg hat)
                            have n14_ := Aside0.mk (blk_grown (g := gb416) (o := .cells #[.slice Ao118 t409.length co118, .slice Ao124 t412.length co124] 25 (0, 0)) zPtA_14 hg (Kd.R_ne HO433.out BK416.out (by decide)))
                            have n15_ := Aside0.mk (Kd.R_over' zPtA_35 (Kd.R_typed zPtA_24) (by decide) hg)
                            have n16_ := Aside0.mk (Kd.R_over' zPtA_36 (Kd.R_typed zPtA_24) (by decide) hg)
                            have n17_ := Aside0.mk (Kd.R_after (ok := (fun k_ => some k_ ≠ (.slice Ao92 t381.length co92 : Value).ownBlock ∧ some k_ ≠ (.slice Ao98 t388.length co98 : Value).ownBlock ∧ some k_ ≠ (.slice Ao106 t396.length co106 : Value).ownBlock ∧ some k_ ≠ (.slice Ao115 t404.length co115 : Value).ownBlock ∧ some k_ ≠ (.slice Ao124 t412.length co124 : Value).ownBlock)) zPtA_23 hg hat)
                            have n18_ := Aside0.mk (blk_grown (g := gb427) (o := .cells #[.slice Ao131 t420.length co131, .slice Ao138 t423.length co138] 25 (0, 0)) zPtA_25 hg (Kd.R_ne HO433.out BK427.out (by decide)))
                            have n19_ := Aside0.mk (hb)
                            have n20_ := Aside0.mk (ho)
                            (try clear HO380)
                            (try clear HO383)
                            clear BK384
                            (try clear HO387)
                            (try clear HO390)
                            clear BK392
                            (try clear HO395)
                            (try clear HO398)
                            clear BK400
                            (try clear HO403)
                            (try clear HO406)
                            clear BK408
                            (try clear HO411)
                            (try clear HO414)
                            clear BK416
                            (try clear HO419)
                            (try clear HO422)
                            (try clear HO425)
                            clear BK427
                            clear HB
                            (try clear HO433)
                            have HO380 := n0_
                            have HO383 := n1_
                            have BK384 := n2_
                            have HO387 := n3_
                            have HO390 := n4_
                            have BK392 := n5_
                            have HO395 := n6_
                            have HO398 := n7_
                            have BK400 := n8_
                            have HO403 := n9_
                            have HO406 := n10_
                            have BK408 := n11_
                            have HO411 := n12_
                            have HO414 := n13_
                            have BK416 := n14_
                            have HO419 := n15_
                            have HO422 := n16_
                            have HO425 := n17_
                            have BK427 := n18_
                            have HB := n19_
                            have HO436 := n20_
                            clear n0_ n1_ n2_ n3_ n4_ n5_ n6_ n7_ n8_ n9_ n10_ n11_ n12_ n13_ n14_ n15_ n16_ n17_ n18_ n19_ n20_
                            clear ho hb hg hat
                            refine hK.out _ _ ⟨(blk_cell BK392.out 0).trans rfl, (blk_cell BK392.out 1).trans rfl, (blk_cell BK400.out 0).trans rfl, (blk_cell BK400.out 1).trans rfl⟩ (fun hHeld => ?_)
                            clear hK K
                            refine norm_ (a' := ?_) ?_ ?_
                            rotate_left
                            · show Act.put _ (some 70) _ = _
                              simp only [Act.put, List.setIfInBounds_toArray, List.set_cons_zero, List.set_cons_succ, i64_w, i32_w]
                              rfl
                            refine pure_ (i := 7) (N := some 21) (v := ?_) (a' := ?_) #[true, true, true, true, true, true, true, true] rfl rfl (any_of HT_.out (by kernel_rfl)) (fun _ _ _ h => h) (Or.inl ⟨by rfl, ?_⟩) ?_ ?_
                            rotate_left
                            · intro w'
                              go_simp
                              with_reducible rfl
                            rotate_left
                            · simp only [Act.put, List.setIfInBounds_toArray, List.set_cons_zero, List.set_cons_succ, i64_w, i32_w]
                              rfl
                            refine done_ (done_of HT_.out (by kernel_rfl)) ?_
                            try go_wp2
                            have n0_ := Aside0.mk (Kd.R_drew HO380.out)
                            have n1_ := Aside0.mk (Kd.R_drew HO383.out)
                            have n2_ := Aside0.mk (Kd.R_drew HO387.out)
                            have n3_ := Aside0.mk (Kd.R_drew HO390.out)
                            have n4_ := Aside0.mk (Kd.R_drew HO395.out)
                            have n5_ := Aside0.mk (Kd.R_drew HO398.out)
                            have n6_ := Aside0.mk (Kd.R_drew HO403.out)
                            have n7_ := Aside0.mk (Kd.R_drew HO406.out)
                            have n8_ := Aside0.mk (Kd.R_drew HO411.out)
                            have n9_ := Aside0.mk (Kd.R_drew HO414.out)
                            have n10_ := Aside0.mk (Kd.R_drew HO419.out)
                            have n11_ := Aside0.mk (Kd.R_drew HO422.out)
                            have n12_ := Aside0.mk (Kd.R_drew HO425.out)
                            have n13_ := Aside0.mk (Kd.R_drew HO436.out)
                            have n14_ := Aside0.mk (blk_drew BK384.out)
                            have n15_ := Aside0.mk (blk_drew BK392.out)
                            have n16_ := Aside0.mk (blk_drew BK400.out)
                            have n17_ := Aside0.mk (blk_drew BK408.out)
                            have n18_ := Aside0.mk (blk_drew BK416.out)
                            have n19_ := Aside0.mk (blk_drew BK427.out)
                            have n20_ := Aside0.mk (below_drew1 HB.out)
                            (try clear HO380)
                            (try clear HO383)
                            (try clear HO387)
                            (try clear HO390)
                            (try clear HO395)
                            (try clear HO398)
                            (try clear HO403)
                            (try clear HO406)
                            (try clear HO411)
                            (try clear HO414)
                            (try clear HO419)
                            (try clear HO422)
                            (try clear HO425)
                            (try clear HO436)
                            clear BK384
                            clear BK392
                            clear BK400
                            clear BK408
                            clear BK416
                            clear BK427
                            clear HB
                            have HO380 := n0_
                            have HO383 := n1_
                            have HO387 := n2_
                            have HO390 := n3_
                            have HO395 := n4_
                            have HO398 := n5_
                            have HO403 := n6_
                            have HO406 := n7_
                            have HO411 := n8_
                            have HO414 := n9_
                            have HO419 := n10_
                            have HO422 := n11_
                            have HO425 := n12_
                            have HO436 := n13_
                            have BK384 := n14_
                            have BK392 := n15_
                            have BK400 := n16_
                            have BK408 := n17_
                            have BK416 := n18_
                            have BK427 := n19_
                            have HB := n20_
                            clear n0_ n1_ n2_ n3_ n4_ n5_ n6_ n7_ n8_ n9_ n10_ n11_ n12_ n13_ n14_ n15_ n16_ n17_ n18_ n19_ n20_
                            refine start_ (n := 48) (S := fun w' => w'.cell? ⟨gb408, 0, none⟩ = some (.slice Ao110 t401.length co110) ∧ w'.cell? ⟨gb408, 1, none⟩ = some (.slice Ao115 t404.length co115) ∧ w'.cell? ⟨gb384, 0, none⟩ = some (.slice Ao90 t378.length co90) ∧ w'.cell? ⟨gb384, 1, none⟩ = some (.slice Ao92 t381.length co92) ∧ w'.cell? ⟨gb416, 0, none⟩ = some (.slice Ao118 t409.length co118) ∧ w'.cell? ⟨gb416, 1, none⟩ = some (.slice Ao124 t412.length co124) ∧ w'.cell? ⟨gb392, 0, none⟩ = some (.slice Ao95 t385.length co95) ∧ w'.cell? ⟨gb392, 1, none⟩ = some (.slice Ao98 t388.length co98) ∧ w'.cell? ⟨gb400, 0, none⟩ = some (.slice Ao102 t393.length co102) ∧ w'.cell? ⟨gb400, 1, none⟩ = some (.slice Ao106 t396.length co106)) (ds := []) #[false, false, false, false, false, false, false, false, false, false, false, false, false, false, false, false, false, false, false, false, false, false, false, false, false, false, false, false, false, false, false, false, false, false, false, false, false, false, false, false, false, false, false, false, false, false, false, false] (by kernel_rfl) rfl rfl ⟨(blk_cell BK408.out 0).trans rfl, (blk_cell BK408.out 1).trans rfl, (blk_cell BK384.out 0).trans rfl, (blk_cell BK384.out 1).trans rfl, (blk_cell BK416.out 0).trans rfl, (blk_cell BK416.out 1).trans rfl, (blk_cell BK392.out 0).trans rfl, (blk_cell BK392.out 1).trans rfl, (blk_cell BK400.out 0).trans rfl, (blk_cell BK400.out 1).trans rfl⟩ (fun hHeld => ?_); refine with_tabW postroomlaw5_EntryPartsA.tab11 postroomlaw5_EntryPartsA.bits11 (fun HT_ HW_ => ?_)
                            generalize w144.drew = w145 at HO380 HO383 HO387 HO390 HO395 HO398 HO403 HO406 HO411 HO414 HO419 HO422 HO425 HO436 BK384 BK392 BK400 BK408 BK416 BK427 HB hHeld ⊢
                            refine pure_ (i := 0) (N := some 71) (v := ?_) (a' := ?_) #[true, false, false, false, false, false, false, false, false, false, false, false, false, false, false, false, false, false, false, false, false, false, false, false, false, false, false, false, false, false, false, false, false, false, false, false, false, false, false, false, false, false, false, false, false, false, false, false] rfl rfl (any_of HT_.out (by kernel_rfl)) (fun _ _ _ h => h) (Or.inl ⟨by rfl, ?_⟩) ?_ ?_
                            rotate_left
                            · intro w'
                              go_simp
                              with_reducible rfl
                            rotate_left
                            · simp only [Act.put, List.setIfInBounds_toArray, List.set_cons_zero, List.set_cons_succ, i64_w, i32_w]
                              rfl
                            refine pure_ (i := 1) (N := some 72) (v := ?_) (a' := ?_) #[true, true, false, false, false, false, false, false, false, false, false, false, false, false, false, false, false, false, false, false, false, false, false, false, false, false, false, false, false, false, false, false, false, false, false, false, false, false, false, false, false, false, false, false, false, false, false, false] rfl rfl (any_of HT_.out (by kernel_rfl)) (fun _ _ _ h => h) (Or.inl ⟨by rfl, ?_⟩) ?_ ?_
                            rotate_left
                            · intro w'
                              go_simp
                              with_reducible rfl
                            rotate_left
                            · simp only [Act.put, List.setIfInBounds_toArray, List.set_cons_zero, List.set_cons_succ, i64_w, i32_w]
                              rfl
                            refine pure_ (i := 2) (N := some 73) (v := undef) (a' := ?_) #[true, true, true, false, false, false, false, false, false, false, false, false, false, false, false, false, false, false, false, false, false, false, false, false, false, false, false, false, false, false, false, false, false, false, false, false, false, false, false, false, false, false, false, false, false, false, false, false] rfl rfl (any_of HT_.out (by kernel_rfl)) (fun _ _ _ h => h) (Or.inr ⟨by rfl, rfl⟩) ?_ ?_
                            rotate_left
                            · simp only [Act.put, List.setIfInBounds_toArray, List.set_cons_zero, List.set_cons_succ, i64_w, i32_w]
                              rfl
                            refine pure_ (i := 3) (N := some 74) (v := ?_) (a' := ?_) #[true, true, true, true, false, false, false, false, false, false, false, false, false, false, false, false, false, false, false, false, false, false, false, false, false, false, false, false, false, false, false, false, false, false, false, false, false, false, false, false, false, false, false, false, false, false, false, false] rfl rfl (any_of HT_.out (by kernel_rfl)) (fun _ _ _ h => h) (Or.inl ⟨by rfl, ?_⟩) ?_ ?_
                            rotate_left
                            · intro w'
                              go_simp
                              with_reducible rfl
                            rotate_left
                            · simp only [Act.put, List.setIfInBounds_toArray, List.set_cons_zero, List.set_cons_succ, i64_w, i32_w]
                              rfl
                            refine pure_ (i := 4) (N := some 75) (v := ?_) (a' := ?_) #[true, true, true, true, true, false, false, false, false, false, false, false, false, false, false, false, false, false, false, false, false, false, false, false, false, false, false, false, false, false, false, false, false, false, false, false, false, false, false, false, false, false, false, false, false, false, false, false] rfl rfl (any_of HT_.out (by kernel_rfl)) (fun _ _ _ h => h) (Or.inl ⟨by rfl, ?_⟩) ?_ ?_
                            rotate_left
                            · intro w'
                              go_simp
                              with_reducible rfl
                            rotate_left
                            · simp only [Act.put, List.setIfInBounds_toArray, List.set_cons_zero, List.set_cons_succ, i64_w, i32_w]
                              rfl
                            refine pure_ (i := 5) (N := some 76) (v := ?_) (a' := ?_) #[true, true, true, true, true, true, false, false, false, false, false, false, false, false, false, false, false, false, false, false, false, false, false, false, false, false, false, false, false, false, false, false, false, false, false, false, false, false, false, false, false, false, false, false, false, false, false, false] rfl rfl (any_of HT_.out (by kernel_rfl)) (fun _ _ _ h => h) (Or.inl ⟨by rfl, ?_⟩) ?_ ?_
                            rotate_left
                            · intro w'
                              go_simp
                              with_reducible rfl
                            rotate_left
                            · simp only [Act.put, List.setIfInBounds_toArray, List.set_cons_zero, List.set_cons_succ, i64_w, i32_w]
                              rfl
                            refine pure_ (i := 6) (N := some 77) (v := ?_) (a' := ?_) #[true, true, true, true, true, true, true, false, false, false, false, false, false, false, false, false, false, false, false, false, false, false, false, false, false, false, false, false, false, false, false, false, false, false, false, false, false, false, false, false, false, false, false, false, false, false, false, false] rfl rfl (any_of HT_.out (by kernel_rfl)) (fun _ _ _ h => h) (Or.inl ⟨by rfl, ?_⟩) ?_ ?_
                            rotate_left
                            · intro w'
                              go_simp
                              with_reducible rfl
                            rotate_left
                            · simp only [Act.put, List.setIfInBounds_toArray, List.set_cons_zero, List.set_cons_succ, i64_w, i32_w]
                              rfl
                            refine pure_ (i := 7) (N := some 78) (v := ?_) (a' := ?_) #[true, true, true, true, true, true, true, true, false, false, false, false, false, false, false, false, false, false, false, false, false, false, false, false, false, false, false, false, false, false, false, false, false, false, false, false, false, false, false, false, false, false, false, false, false, false, false, false] rfl rfl (any_of HT_.out (by kernel_rfl)) (fun _ _ _ h => h) (Or.inl ⟨by rfl, ?_⟩) ?_ ?_
                            rotate_left
                            · intro w'
                              go_simp
                              with_reducible rfl
                            rotate_left
                            · simp only [Act.put, List.setIfInBounds_toArray, List.set_cons_zero, List.set_cons_succ, i64_w, i32_w]
                              rfl
                            refine pure_ (i := 8) (N := some 79) (v := ?_) (a' := ?_) #[true, true, true, true, true, true, true, true, true, false, false, false, false, false, false, false, false, false, false, false, false, false, false, false, false, false, false, false, false, false, false, false, false, false, false, false, false, false, false, false, false, false, false, false, false, false, false, false] rfl rfl (any_of HT_.out (by kernel_rfl)) (fun _ _ _ h => h) (Or.inl ⟨by rfl, ?_⟩) ?_ ?_
                            rotate_left
                            · intro w'
                              go_simp
                              with_reducible rfl
                            rotate_left
                            · simp only [Act.put, List.setIfInBounds_toArray, List.set_cons_zero, List.set_cons_succ, i64_w, i32_w]
                              rfl
                            refine pure_ (i := 9) (N := some 80) (v := ?_) (a' := ?_) #[true, true, true, true, true, true, true, true, true, true, false, false, false, false, false, false, false, false, false, false, false, false, false, false, false, false, false, false, false, false, false, false, false, false, false, false, false, false, false, false, false, false, false, false, false, false, false, false] rfl rfl (any_of HT_.out (by kernel_rfl)) (fun _ _ _ h => h) (Or.inl ⟨by rfl, ?_⟩) ?_ ?_
                            rotate_left
                            · intro w'
                              go_simp
                              with_reducible rfl
                            rotate_left
                            · simp only [Act.put, List.setIfInBounds_toArray, List.set_cons_zero, List.set_cons_succ, i64_w, i32_w]
                              rfl
                            refine pure_ (i := 10) (N := some 81) (v := ?_) (a' := ?_) #[true, true, true, true, true, true, true, true, true, true, true, false, false, false, false, false, false, false, false, false, false, false, false, false, false, false, false, false, false, false, false, false, false, false, false, false, false, false, false, false, false, false, false, false, false, false, false, false] rfl rfl (any_of HT_.out (by kernel_rfl)) (fun _ _ _ h => h) (Or.inl ⟨by rfl, ?_⟩) ?_ ?_
                            rotate_left
                            · intro w'
                              go_simp
                              with_reducible rfl
                            rotate_left
                            · simp only [Act.put, List.setIfInBounds_toArray, List.set_cons_zero, List.set_cons_succ, i64_w, i32_w]
                              rfl
                            refine pure_ (i := 11) (N := some 82) (v := ?_) (a' := ?_) #[true, true, true, true, true, true, true, true, true, true, true, true, false, false, false, false, false, false, false, false, false, false, false, false, false, false, false, false, false, false, false, false, false, false, false, false, false, false, false, false, false, false, false, false, false, false, false, false] rfl rfl (any_of HT_.out (by kernel_rfl)) (fun _ _ _ h => h) (Or.inl ⟨by rfl, ?_⟩) ?_ ?_
                            rotate_left
                            · intro w'
                              go_simp
                              with_reducible rfl
                            rotate_left
                            · simp only [Act.put, List.setIfInBounds_toArray, List.set_cons_zero, List.set_cons_succ, i64_w, i32_w]
                              rfl
                            refine pure_ (i := 12) (N := some 83) (v := ?_) (a' := ?_) #[true, true, true, true, true, true, true, true, true, true, true, true, true, false, false, false, false, false, false, false, false, false, false, false, false, false, false, false, false, false, false, false, false, false, false, false, false, false, false, false, false, false, false, false, false, false, false, false] rfl rfl (any_of HT_.out (by kernel_rfl)) (fun _ _ _ h => h) (Or.inl ⟨by rfl, ?_⟩) ?_ ?_
                            rotate_left
                            · intro w'
                              go_simp
                              with_reducible rfl
                            rotate_left
                            · simp only [Act.put, List.setIfInBounds_toArray, List.set_cons_zero, List.set_cons_succ, i64_w, i32_w]
                              rfl
                            refine pure_ (i := 13) (N := some 84) (v := ?_) (a' := ?_) #[true, true, true, true, true, true, true, true, true, true, true, true, true, true, false, false, false, false, false, false, false, false, false, false, false, false, false, false, false, false, false, false, false, false, false, false, false, false, false, false, false, false, false, false, false, false, false, false] rfl rfl (any_of HT_.out (by kernel_rfl)) (fun _ _ _ h => h) (Or.inl ⟨by rfl, ?_⟩) ?_ ?_
                            rotate_left
                            · intro w'
                              go_simp
                              with_reducible rfl
                            rotate_left
                            · simp only [Act.put, List.setIfInBounds_toArray, List.set_cons_zero, List.set_cons_succ, i64_w, i32_w]
                              rfl
                            refine pure_ (i := 14) (N := some 85) (v := ?_) (a' := ?_) #[true, true, true, true, true, true, true, true, true, true, true, true, true, true, true, false, false, false, false, false, false, false, false, false, false, false, false, false, false, false, false, false, false, false, false, false, false, false, false, false, false, false, false, false, false, false, false, false] rfl rfl (any_of HT_.out (by kernel_rfl)) (fun _ _ _ h => h) (Or.inl ⟨by rfl, ?_⟩) ?_ ?_
                            rotate_left
                            · intro w'
                              go_simp
                              with_reducible rfl
                            rotate_left
                            · simp only [Act.put, List.setIfInBounds_toArray, List.set_cons_zero, List.set_cons_succ, i64_w, i32_w]
                              rfl
                            refine take_ (i := 15) (N := some 86) (v := ?_) (a' := ?_) #[true, true, true, true, true, true, true, true, true, true, true, true, true, true, true, true, false, false, false, false, false, false, false, false, false, false, false, false, false, false, false, false, false, false, false, false, false, false, false, false, false, false, false, false, false, false, false, false] rfl rfl (take_ofW HT_.out HW_.out (by kernel_rfl)) (fun _ _ _ h => h) (Or.inl ⟨by rfl, ?_⟩) hHeld ?_ ?_
                            rotate_left
                            · rintro w' ⟨s0, s1, s2, s3, s4, s5, s6, s7, s8, s9⟩
                              go_simp
                              with_reducible rfl
                            rotate_left
                            · simp only [Act.put, List.setIfInBounds_toArray, List.set_cons_zero, List.set_cons_succ, i64_w, i32_w]
                              rfl
                            refine take_ (i := 16) (N := some 87) (v := ?_) (a' := ?_) #[true, true, true, true, true, true, true, true, true, true, true, true, true, true, true, true, true, false, false, false, false, false, false, false, false, false, false, false, false, false, false, false, false, false, false, false, false, false, false, false, false, false, false, false, false, false, false, false] rfl rfl (take_ofW HT_.out HW_.out (by kernel_rfl)) (fun _ _ _ h => h) (Or.inl ⟨by rfl, ?_⟩) hHeld ?_ ?_
                            rotate_left
                            · rintro w' ⟨s0, s1, s2, s3, s4, s5, s6, s7, s8, s9⟩
                              go_simp
                              with_reducible rfl
                            rotate_left
                            · simp only [Act.put, List.setIfInBounds_toArray, List.set_cons_zero, List.set_cons_succ, i64_w, i32_w]
                              rfl
                            refine one_ (i := 17) (N := some 88) #[true, true, true, true, true, true, true, true, true, true, true, true, true, true, true, true, true, true, false, false, false, false, false, false, false, false, false, false, false, false, false, false, false, false, false, false, false, false, false, false, false, false, false, false, false, false, false, false] rfl rfl (one_of HT_.out (by kernel_rfl)) (by decide) (fun K hK => ?_)
                            refine goes_ Tryz.func20 (by kernel_rfl) rfl #[.agg #[.slice Ao90 t378.length co90, .slice Ao92 t381.length co92]] (by rfl) rfl rfl zPtA_7 ?_
                            with_reducible refine (postroomref5_Canon.calls kj5 _ _ t378 (fun k_ => some k_ = (.slice Ao92 t381.length co92 : Value).ownBlock) _ _ t381 t437 t440 _ ?side1 ?side2 ?side3 A80.out).mono ?_
                            (case side1 => repeat (first | exact (Kd.R_reads' HO380.out).2.2 | (with_reducible refine Kd.C_alloc ?_ _) | (with_reducible refine Kd.C_drewN ?_ _) | (with_reducible refine Kd.C_drew ?_)))
                            (case side2 => exact (Kd.R_reads' HO380.out).2.1)
                            (case side3 => exact Kd.R_V (Kd.R_tight rfl (Kd.R_types (Kd.R_types (Kd.R_types (Kd.R_types (Kd.R_types (Kd.R_types (Kd.R_apart' (Kd.R_apart' (Kd.R_apart' (Kd.R_apart' (Kd.R_apart' (Kd.R_apart' (Kd.R_apart' (HO383.out) (Kd.R_typed HO380.out) (by decide)) (Kd.R_typed HO387.out) (by decide)) (Kd.R_typed HO395.out) (by decide)) (Kd.R_typed HO403.out) (by decide)) (Kd.R_typed HO411.out) (by decide)) (Kd.R_typed HO419.out) (by decide)) (Kd.R_typed HO422.out) (by decide)) BK384.out (by decide)) BK392.out (by decide)) BK400.out (by decide)) BK408.out (by decide)) BK416.out (by decide)) BK427.out (by decide))))
                            rintro e w146 ⟨v438, v441, rfl, ho0, ho1, hb⟩
                            refine ⟨_, rfl, ?_⟩
                            have n1_ := Aside0.mk (Kd.R_below zPtA_5 hb)
                            have n6_ := Aside0.mk (Kd.R_elder' zPtA_17 (Kd.R_base ho0) hb)
                            have n7_ := Aside0.mk (Kd.R_below zPtA_9 hb)
                            have n8_ := Aside0.mk (Kd.R_elder' zPtA_19 (Kd.R_base ho0) hb)
                            have n9_ := Aside0.mk (Kd.R_below zPtA_13 hb)
                            have n13_ := Aside0.mk (Kd.R_below zPtA_49 hb)
                            have n14_ := Aside0.mk (Kd.R_lower (Kd.R_new' (Kd.R_new' (Kd.R_new' (Kd.R_new' (Kd.R_new' (Kd.R_new' (Kd.R_mono (ok' := fun k_ => True) ho0 (fun _ hk_ => trivial)) (Kd.R_lt zPtA_11)) (Kd.R_lt zPtA_16)) (Kd.R_lt zPtA_18)) (Kd.R_lt zPtA_17)) (Kd.R_lt zPtA_19)) (Kd.R_lt zPtA_36)) (below_size zPtA_0))
                            have n15_ := Aside0.mk (Kd.V_lower (Kd.V_mono (ok' := fun k_ => some k_ ≠ (v438 : Value).ownBlock ∧ some k_ ≠ (.slice Ao90 t378.length co90 : Value).ownBlock ∧ some k_ ≠ (.slice Ao95 t385.length co95 : Value).ownBlock ∧ some k_ ≠ (.slice Ao98 t388.length co98 : Value).ownBlock ∧ some k_ ≠ (.slice Ao102 t393.length co102 : Value).ownBlock ∧ some k_ ≠ (.slice Ao106 t396.length co106 : Value).ownBlock ∧ some k_ ≠ (.slice Ao110 t401.length co110 : Value).ownBlock ∧ some k_ ≠ (.slice Ao115 t404.length co115 : Value).ownBlock ∧ some k_ ≠ (.slice Ao118 t409.length co118 : Value).ownBlock ∧ some k_ ≠ (.slice Ao124 t412.length co124 : Value).ownBlock ∧ some k_ ≠ (.slice Ao128 y417.length co128 : Value).ownBlock ∧ some k_ ≠ (.slice Ao131 t420.length co131 : Value).ownBlock ∧ some k_ ≠ (.slice Ao138 t423.length co138 : Value).ownBlock ∧ some k_ ≠ (v435 : Value).ownBlock ∧ k_ ≠ gb384 ∧ k_ ≠ gb392 ∧ k_ ≠ gb400 ∧ k_ ≠ gb408 ∧ k_ ≠ gb416 ∧ k_ ≠ gb427) ho1 (fun k_ hk_ => ⟨hk_.2, Or.elim hk_.1 (fun hs_ => ((Kd.R_types (Kd.R_types (Kd.R_types (Kd.R_types (Kd.R_types (Kd.R_types (Kd.R_apart' (Kd.R_apart' (Kd.R_apart' (Kd.R_apart' (Kd.R_apart' (Kd.R_apart' (Kd.R_apart' (HO383.out) (Kd.R_typed HO380.out) (by decide)) (Kd.R_typed HO387.out) (by decide)) (Kd.R_typed HO395.out) (by decide)) (Kd.R_typed HO403.out) (by decide)) (Kd.R_typed HO411.out) (by decide)) (Kd.R_typed HO419.out) (by decide)) (Kd.R_typed HO422.out) (by decide)) BK384.out (by decide)) BK392.out (by decide)) BK400.out (by decide)) BK408.out (by decide)) BK416.out (by decide)) BK427.out (by decide)).1 k_ hs_.symm).1.1.1.1.1.1.1.1.1.1.1.1.2) (fun hn_ => (Kd.fresh' (Kd.R_lt zPtA_11) k_ hn_)), Or.elim hk_.1 (fun hs_ => ((Kd.R_types (Kd.R_types (Kd.R_types (Kd.R_types (Kd.R_types (Kd.R_types (Kd.R_apart' (Kd.R_apart' (Kd.R_apart' (Kd.R_apart' (Kd.R_apart' (Kd.R_apart' (Kd.R_apart' (HO383.out) (Kd.R_typed HO380.out) (by decide)) (Kd.R_typed HO387.out) (by decide)) (Kd.R_typed HO395.out) (by decide)) (Kd.R_typed HO403.out) (by decide)) (Kd.R_typed HO411.out) (by decide)) (Kd.R_typed HO419.out) (by decide)) (Kd.R_typed HO422.out) (by decide)) BK384.out (by decide)) BK392.out (by decide)) BK400.out (by decide)) BK408.out (by decide)) BK416.out (by decide)) BK427.out (by decide)).1 k_ hs_.symm).1.1.1.1.1.1.1.1.1.1.1.2) (fun hn_ => (Kd.fresh' (Kd.R_lt zPtA_16) k_ hn_)), Or.elim hk_.1 (fun hs_ => ((Kd.R_types (Kd.R_types (Kd.R_types (Kd.R_types (Kd.R_types (Kd.R_types (Kd.R_apart' (Kd.R_apart' (Kd.R_apart' (Kd.R_apart' (Kd.R_apart' (Kd.R_apart' (Kd.R_apart' (HO383.out) (Kd.R_typed HO380.out) (by decide)) (Kd.R_typed HO387.out) (by decide)) (Kd.R_typed HO395.out) (by decide)) (Kd.R_typed HO403.out) (by decide)) (Kd.R_typed HO411.out) (by decide)) (Kd.R_typed HO419.out) (by decide)) (Kd.R_typed HO422.out) (by decide)) BK384.out (by decide)) BK392.out (by decide)) BK400.out (by decide)) BK408.out (by decide)) BK416.out (by decide)) BK427.out (by decide)).1 k_ hs_.symm).1.1.1.1.1.1.1.1.1.1.1.1.1.1.1) (fun hn_ => (Kd.fresh' (Kd.R_lt zPtA_8) k_ hn_)), Or.elim hk_.1 (fun hs_ => ((Kd.R_types (Kd.R_types (Kd.R_types (Kd.R_types (Kd.R_types (Kd.R_types (Kd.R_apart' (Kd.R_apart' (Kd.R_apart' (Kd.R_apart' (Kd.R_apart' (Kd.R_apart' (Kd.R_apart' (HO383.out) (Kd.R_typed HO380.out) (by decide)) (Kd.R_typed HO387.out) (by decide)) (Kd.R_typed HO395.out) (by decide)) (Kd.R_typed HO403.out) (by decide)) (Kd.R_typed HO411.out) (by decide)) (Kd.R_typed HO419.out) (by decide)) (Kd.R_typed HO422.out) (by decide)) BK384.out (by decide)) BK392.out (by decide)) BK400.out (by decide)) BK408.out (by decide)) BK416.out (by decide)) BK427.out (by decide)).1 k_ hs_.symm).1.1.1.1.1.1.1.1.1.1.2) (fun hn_ => (Kd.fresh' (Kd.R_lt zPtA_18) k_ hn_)), Or.elim hk_.1 (fun hs_ => ((Kd.R_types (Kd.R_types (Kd.R_types (Kd.R_types (Kd.R_types (Kd.R_types (Kd.R_apart' (Kd.R_apart' (Kd.R_apart' (Kd.R_apart' (Kd.R_apart' (Kd.R_apart' (Kd.R_apart' (HO383.out) (Kd.R_typed HO380.out) (by decide)) (Kd.R_typed HO387.out) (by decide)) (Kd.R_typed HO395.out) (by decide)) (Kd.R_typed HO403.out) (by decide)) (Kd.R_typed HO411.out) (by decide)) (Kd.R_typed HO419.out) (by decide)) (Kd.R_typed HO422.out) (by decide)) BK384.out (by decide)) BK392.out (by decide)) BK400.out (by decide)) BK408.out (by decide)) BK416.out (by decide)) BK427.out (by decide)).1 k_ hs_.symm).1.1.1.1.1.1.1.1.1.1.1.1.1.1.2.1) (fun hn_ => (Kd.fresh' (Kd.R_lt zPtA_12) k_ hn_)), Or.elim hk_.1 (fun hs_ => ((Kd.R_types (Kd.R_types (Kd.R_types (Kd.R_types (Kd.R_types (Kd.R_types (Kd.R_apart' (Kd.R_apart' (Kd.R_apart' (Kd.R_apart' (Kd.R_apart' (Kd.R_apart' (Kd.R_apart' (HO383.out) (Kd.R_typed HO380.out) (by decide)) (Kd.R_typed HO387.out) (by decide)) (Kd.R_typed HO395.out) (by decide)) (Kd.R_typed HO403.out) (by decide)) (Kd.R_typed HO411.out) (by decide)) (Kd.R_typed HO419.out) (by decide)) (Kd.R_typed HO422.out) (by decide)) BK384.out (by decide)) BK392.out (by decide)) BK400.out (by decide)) BK408.out (by decide)) BK416.out (by decide)) BK427.out (by decide)).1 k_ hs_.symm).1.1.1.1.1.1.1.1.1.2) (fun hn_ => (Kd.fresh' (Kd.R_lt zPtA_17) k_ hn_)), Or.elim hk_.1 (fun hs_ => ((Kd.R_types (Kd.R_types (Kd.R_types (Kd.R_types (Kd.R_types (Kd.R_types (Kd.R_apart' (Kd.R_apart' (Kd.R_apart' (Kd.R_apart' (Kd.R_apart' (Kd.R_apart' (Kd.R_apart' (HO383.out) (Kd.R_typed HO380.out) (by decide)) (Kd.R_typed HO387.out) (by decide)) (Kd.R_typed HO395.out) (by decide)) (Kd.R_typed HO403.out) (by decide)) (Kd.R_typed HO411.out) (by decide)) (Kd.R_typed HO419.out) (by decide)) (Kd.R_typed HO422.out) (by decide)) BK384.out (by decide)) BK392.out (by decide)) BK400.out (by decide)) BK408.out (by decide)) BK416.out (by decide)) BK427.out (by decide)).1 k_ hs_.symm).1.1.1.1.1.1.1.1.1.1.1.1.1.1.2.2.1) (fun hn_ => (Kd.fresh' (Kd.R_lt zPtA_9) k_ hn_)), Or.elim hk_.1 (fun hs_ => ((Kd.R_types (Kd.R_types (Kd.R_types (Kd.R_types (Kd.R_types (Kd.R_types (Kd.R_apart' (Kd.R_apart' (Kd.R_apart' (Kd.R_apart' (Kd.R_apart' (Kd.R_apart' (Kd.R_apart' (HO383.out) (Kd.R_typed HO380.out) (by decide)) (Kd.R_typed HO387.out) (by decide)) (Kd.R_typed HO395.out) (by decide)) (Kd.R_typed HO403.out) (by decide)) (Kd.R_typed HO411.out) (by decide)) (Kd.R_typed HO419.out) (by decide)) (Kd.R_typed HO422.out) (by decide)) BK384.out (by decide)) BK392.out (by decide)) BK400.out (by decide)) BK408.out (by decide)) BK416.out (by decide)) BK427.out (by decide)).1 k_ hs_.symm).1.1.1.1.1.1.1.1.2) (fun hn_ => (Kd.fresh' (Kd.R_lt zPtA_19) k_ hn_)), Or.elim hk_.1 (fun hs_ => ((Kd.R_types (Kd.R_types (Kd.R_types (Kd.R_types (Kd.R_types (Kd.R_types (Kd.R_apart' (Kd.R_apart' (Kd.R_apart' (Kd.R_apart' (Kd.R_apart' (Kd.R_apart' (Kd.R_apart' (HO383.out) (Kd.R_typed HO380.out) (by decide)) (Kd.R_typed HO387.out) (by decide)) (Kd.R_typed HO395.out) (by decide)) (Kd.R_typed HO403.out) (by decide)) (Kd.R_typed HO411.out) (by decide)) (Kd.R_typed HO419.out) (by decide)) (Kd.R_typed HO422.out) (by decide)) BK384.out (by decide)) BK392.out (by decide)) BK400.out (by decide)) BK408.out (by decide)) BK416.out (by decide)) BK427.out (by decide)).1 k_ hs_.symm).1.1.1.1.1.1.1.1.1.1.1.1.1.1.2.2.2.1) (fun hn_ => (Kd.fresh' (Kd.R_lt zPtA_13) k_ hn_)), Or.elim hk_.1 (fun hs_ => ((Kd.R_types (Kd.R_types (Kd.R_types (Kd.R_types (Kd.R_types (Kd.R_types (Kd.R_apart' (Kd.R_apart' (Kd.R_apart' (Kd.R_apart' (Kd.R_apart' (Kd.R_apart' (Kd.R_apart' (HO383.out) (Kd.R_typed HO380.out) (by decide)) (Kd.R_typed HO387.out) (by decide)) (Kd.R_typed HO395.out) (by decide)) (Kd.R_typed HO403.out) (by decide)) (Kd.R_typed HO411.out) (by decide)) (Kd.R_typed HO419.out) (by decide)) (Kd.R_typed HO422.out) (by decide)) BK384.out (by decide)) BK392.out (by decide)) BK400.out (by decide)) BK408.out (by decide)) BK416.out (by decide)) BK427.out (by decide)).1 k_ hs_.symm).1.1.1.1.1.1.1.2) (fun hn_ => (Kd.fresh' (Kd.R_lt zPtA_35) k_ hn_)), Or.elim hk_.1 (fun hs_ => ((Kd.R_types (Kd.R_types (Kd.R_types (Kd.R_types (Kd.R_types (Kd.R_types (Kd.R_apart' (Kd.R_apart' (Kd.R_apart' (Kd.R_apart' (Kd.R_apart' (Kd.R_apart' (Kd.R_apart' (HO383.out) (Kd.R_typed HO380.out) (by decide)) (Kd.R_typed HO387.out) (by decide)) (Kd.R_typed HO395.out) (by decide)) (Kd.R_typed HO403.out) (by decide)) (Kd.R_typed HO411.out) (by decide)) (Kd.R_typed HO419.out) (by decide)) (Kd.R_typed HO422.out) (by decide)) BK384.out (by decide)) BK392.out (by decide)) BK400.out (by decide)) BK408.out (by decide)) BK416.out (by decide)) BK427.out (by decide)).1 k_ hs_.symm).1.1.1.1.1.1.2) (fun hn_ => (Kd.fresh' (Kd.R_lt zPtA_36) k_ hn_)), Or.elim hk_.1 (fun hs_ => ((Kd.R_types (Kd.R_types (Kd.R_types (Kd.R_types (Kd.R_types (Kd.R_types (Kd.R_apart' (Kd.R_apart' (Kd.R_apart' (Kd.R_apart' (Kd.R_apart' (Kd.R_apart' (Kd.R_apart' (HO383.out) (Kd.R_typed HO380.out) (by decide)) (Kd.R_typed HO387.out) (by decide)) (Kd.R_typed HO395.out) (by decide)) (Kd.R_typed HO403.out) (by decide)) (Kd.R_typed HO411.out) (by decide)) (Kd.R_typed HO419.out) (by decide)) (Kd.R_typed HO422.out) (by decide)) BK384.out (by decide)) BK392.out (by decide)) BK400.out (by decide)) BK408.out (by decide)) BK416.out (by decide)) BK427.out (by decide)).1 k_ hs_.symm).1.1.1.1.1.1.1.1.1.1.1.1.1.1.2.2.2.2) (fun hn_ => (Kd.fresh' (Kd.R_lt zPtA_23) k_ hn_)), Or.elim hk_.1 (fun hs_ => ((Kd.R_types (Kd.R_types (Kd.R_types (Kd.R_types (Kd.R_types (Kd.R_types (Kd.R_apart' (Kd.R_apart' (Kd.R_apart' (Kd.R_apart' (Kd.R_apart' (Kd.R_apart' (Kd.R_apart' (HO383.out) (Kd.R_typed HO380.out) (by decide)) (Kd.R_typed HO387.out) (by decide)) (Kd.R_typed HO395.out) (by decide)) (Kd.R_typed HO403.out) (by decide)) (Kd.R_typed HO411.out) (by decide)) (Kd.R_typed HO419.out) (by decide)) (Kd.R_typed HO422.out) (by decide)) BK384.out (by decide)) BK392.out (by decide)) BK400.out (by decide)) BK408.out (by decide)) BK416.out (by decide)) BK427.out (by decide)).1 k_ hs_.symm).1.1.1.1.1.1.1.1.1.1.1.1.1.2) (fun hn_ => (Kd.fresh' (Kd.R_lt zPtA_49) k_ hn_)), Or.elim hk_.1 (fun hs_ => ((Kd.R_types (Kd.R_types (Kd.R_types (Kd.R_types (Kd.R_types (Kd.R_types (Kd.R_apart' (Kd.R_apart' (Kd.R_apart' (Kd.R_apart' (Kd.R_apart' (Kd.R_apart' (Kd.R_apart' (HO383.out) (Kd.R_typed HO380.out) (by decide)) (Kd.R_typed HO387.out) (by decide)) (Kd.R_typed HO395.out) (by decide)) (Kd.R_typed HO403.out) (by decide)) (Kd.R_typed HO411.out) (by decide)) (Kd.R_typed HO419.out) (by decide)) (Kd.R_typed HO422.out) (by decide)) BK384.out (by decide)) BK392.out (by decide)) BK400.out (by decide)) BK408.out (by decide)) BK416.out (by decide)) BK427.out (by decide)).1 k_ hs_.symm).1.1.1.1.1.2) (fun hn_ => (Kd.freshB (g := gb384) (o := .cells #[.slice Ao90 t378.length co90, .slice Ao92 t381.length co92] 25 (0, 0)) zPtA_1 k_ hn_)), Or.elim hk_.1 (fun hs_ => ((Kd.R_types (Kd.R_types (Kd.R_types (Kd.R_types (Kd.R_types (Kd.R_types (Kd.R_apart' (Kd.R_apart' (Kd.R_apart' (Kd.R_apart' (Kd.R_apart' (Kd.R_apart' (Kd.R_apart' (HO383.out) (Kd.R_typed HO380.out) (by decide)) (Kd.R_typed HO387.out) (by decide)) (Kd.R_typed HO395.out) (by decide)) (Kd.R_typed HO403.out) (by decide)) (Kd.R_typed HO411.out) (by decide)) (Kd.R_typed HO419.out) (by decide)) (Kd.R_typed HO422.out) (by decide)) BK384.out (by decide)) BK392.out (by decide)) BK400.out (by decide)) BK408.out (by decide)) BK416.out (by decide)) BK427.out (by decide)).1 k_ hs_.symm).1.1.1.1.2) (fun hn_ => (Kd.freshB (g := gb392) (o := .cells #[.slice Ao95 t385.length co95, .slice Ao98 t388.length co98] 25 (0, 0)) zPtA_2 k_ hn_)), Or.elim hk_.1 (fun hs_ => ((Kd.R_types (Kd.R_types (Kd.R_types (Kd.R_types (Kd.R_types (Kd.R_types (Kd.R_apart' (Kd.R_apart' (Kd.R_apart' (Kd.R_apart' (Kd.R_apart' (Kd.R_apart' (Kd.R_apart' (HO383.out) (Kd.R_typed HO380.out) (by decide)) (Kd.R_typed HO387.out) (by decide)) (Kd.R_typed HO395.out) (by decide)) (Kd.R_typed HO403.out) (by decide)) (Kd.R_typed HO411.out) (by decide)) (Kd.R_typed HO419.out) (by decide)) (Kd.R_typed HO422.out) (by decide)) BK384.out (by decide)) BK392.out (by decide)) BK400.out (by decide)) BK408.out (by decide)) BK416.out (by decide)) BK427.out (by decide)).1 k_ hs_.symm).1.1.1.2) (fun hn_ => (Kd.freshB (g := gb400) (o := .cells #[.slice Ao102 t393.length co102, .slice Ao106 t396.length co106] 25 (0, 0)) zPtA_4 k_ hn_)), Or.elim hk_.1 (fun hs_ => ((Kd.R_types (Kd.R_types (Kd.R_types (Kd.R_types (Kd.R_types (Kd.R_types (Kd.R_apart' (Kd.R_apart' (Kd.R_apart' (Kd.R_apart' (Kd.R_apart' (Kd.R_apart' (Kd.R_apart' (HO383.out) (Kd.R_typed HO380.out) (by decide)) (Kd.R_typed HO387.out) (by decide)) (Kd.R_typed HO395.out) (by decide)) (Kd.R_typed HO403.out) (by decide)) (Kd.R_typed HO411.out) (by decide)) (Kd.R_typed HO419.out) (by decide)) (Kd.R_typed HO422.out) (by decide)) BK384.out (by decide)) BK392.out (by decide)) BK400.out (by decide)) BK408.out (by decide)) BK416.out (by decide)) BK427.out (by decide)).1 k_ hs_.symm).1.1.2) (fun hn_ => (Kd.freshB (g := gb408) (o := .cells #[.slice Ao110 t401.length co110, .slice Ao115 t404.length co115] 25 (0, 0)) zPtA_6 k_ hn_)), Or.elim hk_.1 (fun hs_ => ((Kd.R_types (Kd.R_types (Kd.R_types (Kd.R_types (Kd.R_types (Kd.R_types (Kd.R_apart' (Kd.R_apart' (Kd.R_apart' (Kd.R_apart' (Kd.R_apart' (Kd.R_apart' (Kd.R_apart' (HO383.out) (Kd.R_typed HO380.out) (by decide)) (Kd.R_typed HO387.out) (by decide)) (Kd.R_typed HO395.out) (by decide)) (Kd.R_typed HO403.out) (by decide)) (Kd.R_typed HO411.out) (by decide)) (Kd.R_typed HO419.out) (by decide)) (Kd.R_typed HO422.out) (by decide)) BK384.out (by decide)) BK392.out (by decide)) BK400.out (by decide)) BK408.out (by decide)) BK416.out (by decide)) BK427.out (by decide)).1 k_ hs_.symm).1.2) (fun hn_ => (Kd.freshB (g := gb416) (o := .cells #[.slice Ao118 t409.length co118, .slice Ao124 t412.length co124] 25 (0, 0)) zPtA_14 k_ hn_)), Or.elim hk_.1 (fun hs_ => ((Kd.R_types (Kd.R_types (Kd.R_types (Kd.R_types (Kd.R_types (Kd.R_types (Kd.R_apart' (Kd.R_apart' (Kd.R_apart' (Kd.R_apart' (Kd.R_apart' (Kd.R_apart' (Kd.R_apart' (HO383.out) (Kd.R_typed HO380.out) (by decide)) (Kd.R_typed HO387.out) (by decide)) (Kd.R_typed HO395.out) (by decide)) (Kd.R_typed HO403.out) (by decide)) (Kd.R_typed HO411.out) (by decide)) (Kd.R_typed HO419.out) (by decide)) (Kd.R_typed HO422.out) (by decide)) BK384.out (by decide)) BK392.out (by decide)) BK400.out (by decide)) BK408.out (by decide)) BK416.out (by decide)) BK427.out (by decide)).1 k_ hs_.symm).2) (fun hn_ => (Kd.freshB (g := gb427) (o := .cells #[.slice Ao131 t420.length co131, .slice Ao138 t423.length co138] 25 (0, 0)) zPtA_25 k_ hn_))⟩)) (below_size zPtA_0))
                            have n16_ := Aside0.mk (blk_below (g := gb384) (o := .cells #[.slice Ao90 t378.length co90, .slice Ao92 t381.length co92] 25 (0, 0)) zPtA_1 hb)
                            have n17_ := Aside0.mk (blk_below (g := gb392) (o := .cells #[.slice Ao95 t385.length co95, .slice Ao98 t388.length co98] 25 (0, 0)) zPtA_2 hb)
                            have n18_ := Aside0.mk (blk_below (g := gb400) (o := .cells #[.slice Ao102 t393.length co102, .slice Ao106 t396.length co106] 25 (0, 0)) zPtA_4 hb)
                            have n19_ := Aside0.mk (blk_below (g := gb408) (o := .cells #[.slice Ao110 t401.length co110, .slice Ao115 t404.length co115] 25 (0, 0)) zPtA_6 hb)
                            have n20_ := Aside0.mk (blk_below (g := gb416) (o := .cells #[.slice Ao118 t409.length co118, .slice Ao124 t412.length co124] 25 (0, 0)) zPtA_14 hb)
                            have n21_ := Aside0.mk (blk_below (g := gb427) (o := .cells #[.slice Ao131 t420.length co131, .slice Ao138 t423.length co138] 25 (0, 0)) zPtA_25 hb)
                            have n22_ := Aside0.mk (below_step zPtA_0 hb)
                            (try clear HO380)
                            (try clear HO383)
                            (try clear HO387)
                            (try clear HO390)
                            (try clear HO395)
                            (try clear HO398)
                            (try clear HO403)
                            (try clear HO406)
                            (try clear HO411)
                            (try clear HO414)
                            (try clear HO419)
                            (try clear HO422)
                            (try clear HO425)
                            (try clear HO436)
                            clear BK384
                            clear BK392
                            clear BK400
                            clear BK408
                            clear BK416
                            clear BK427
                            clear HB
                            have HO383 := n1_
                            have HO403 := n6_
                            have HO406 := n7_
                            have HO411 := n8_
                            have HO414 := n9_
                            have HO436 := n13_
                            have HO439 := n14_
                            have HO442 := n15_
                            have BK384 := n16_
                            have BK392 := n17_
                            have BK400 := n18_
                            have BK408 := n19_
                            have BK416 := n20_
                            have BK427 := n21_
                            have HB := n22_
                            clear n1_ n6_ n7_ n8_ n9_ n13_ n14_ n15_ n16_ n17_ n18_ n19_ n20_ n21_ n22_
                            (try clear hb)
                            (try clear hb2)
                            (try clear hk)
                            (try clear hi)
                            (try clear ho0)
                            (try clear ho1)
                            obtain ⟨Ao147, co147, eo147⟩ := Kd.R_slice HO439.out
                            (first | subst eo147 | (injection eo147 with f1_ f2_ f3_; have f4_ := f1_.symm; have f5_ := f3_.symm; clear f1_ f2_ f3_; subst f4_; subst f5_))
                            obtain ⟨Ao148, co148, eo148⟩ := Kd.V_slice HO442.out
                            (first | subst eo148 | (injection eo148 with f1_ f2_ f3_; have f4_ := f1_.symm; have f5_ := f3_.symm; clear f1_ f2_ f3_; subst f4_; subst f5_))
                            refine hK.out _ _ ⟨(blk_cell BK408.out 0).trans rfl, (blk_cell BK408.out 1).trans rfl, (blk_cell BK384.out 0).trans rfl, (blk_cell BK384.out 1).trans rfl, (blk_cell BK416.out 0).trans rfl, (blk_cell BK416.out 1).trans rfl, (blk_cell BK392.out 0).trans rfl, (blk_cell BK392.out 1).trans rfl, (blk_cell BK400.out 0).trans rfl, (blk_cell BK400.out 1).trans rfl⟩ (fun hHeld => ?_)
                            clear hK K
                            refine norm_ (a' := ?_) ?_ ?_
                            rotate_left
                            · show Act.put _ (some 88) _ = _
                              simp only [Act.put, List.setIfInBounds_toArray, List.set_cons_zero, List.set_cons_succ, i64_w, i32_w]
                              rfl
                            refine one_ (i := 18) (N := some 89) #[true, true, true, true, true, true, true, true, true, true, true, true, true, true, true, true, true, true, true, false, false, false, false, false, false, false, false, false, false, false, false, false, false, false, false, false, false, false, false, false, false, false, false, false, false, false, false, false] rfl rfl (one_of HT_.out (by kernel_rfl)) (by decide) (fun K hK => ?_)
                            refine goes_ Tryz.func16 (by kernel_rfl) rfl #[.agg #[.slice Ao110 t401.length co110, .slice Ao115 t404.length co115], .agg #[.slice Ao147 t437.length co147, .slice Ao148 t440.length co148]] (by rfl) rfl rfl zPtA_7 ?_
                            with_reducible refine (postroomref5_Same.calls kj5 _ _ t401 _ _ t404 _ _ t437 _ _ t440 true _ ?side1 ?side2 ?side3 ?side4 ?side5 ?side6 ?side7 ?side8 A81.out).mono ?_
                            (case side1 => repeat (first | exact (Kd.R_reads' HO403.out).2.2 | (with_reducible refine Kd.C_alloc ?_ _) | (with_reducible refine Kd.C_drewN ?_ _) | (with_reducible refine Kd.C_drew ?_)))
                            (case side2 => exact (Kd.R_reads' HO403.out).2.1)
                            (case side3 => repeat (first | exact (Kd.R_reads' HO406.out).2.2 | (with_reducible refine Kd.C_alloc ?_ _) | (with_reducible refine Kd.C_drewN ?_ _) | (with_reducible refine Kd.C_drew ?_)))
                            (case side4 => exact (Kd.R_reads' HO406.out).2.1)
                            (case side5 => repeat (first | exact (Kd.R_reads' HO439.out).2.2 | (with_reducible refine Kd.C_alloc ?_ _) | (with_reducible refine Kd.C_drewN ?_ _) | (with_reducible refine Kd.C_drew ?_)))
                            (case side6 => exact (Kd.R_reads' HO439.out).2.1)
                            (case side7 => repeat (first | exact (Kd.V_reads' HO442.out).2.2 | (with_reducible refine Kd.C_alloc ?_ _) | (with_reducible refine Kd.C_drewN ?_ _) | (with_reducible refine Kd.C_drew ?_)))
                            (case side8 => exact (Kd.V_reads' HO442.out).2.1)
                            rintro e w149 ⟨rfl, hb⟩
                            refine ⟨_, rfl, ?_⟩
                            have n1_ := Aside0.mk (Kd.R_below zPtA_5 hb)
                            have n6_ := Aside0.mk (Kd.R_below zPtA_17 hb)
                            have n7_ := Aside0.mk (Kd.R_below zPtA_9 hb)
                            have n8_ := Aside0.mk (Kd.R_below zPtA_19 hb)
                            have n9_ := Aside0.mk (Kd.R_below zPtA_13 hb)
                            have n13_ := Aside0.mk (Kd.R_below zPtA_49 hb)
                            have n16_ := Aside0.mk (blk_below (g := gb384) (o := .cells #[.slice Ao90 t378.length co90, .slice Ao92 t381.length co92] 25 (0, 0)) zPtA_1 hb)
                            have n17_ := Aside0.mk (blk_below (g := gb392) (o := .cells #[.slice Ao95 t385.length co95, .slice Ao98 t388.length co98] 25 (0, 0)) zPtA_2 hb)
                            have n18_ := Aside0.mk (blk_below (g := gb400) (o := .cells #[.slice Ao102 t393.length co102, .slice Ao106 t396.length co106] 25 (0, 0)) zPtA_4 hb)
                            have n19_ := Aside0.mk (blk_below (g := gb408) (o := .cells #[.slice Ao110 t401.length co110, .slice Ao115 t404.length co115] 25 (0, 0)) zPtA_6 hb)
                            have n20_ := Aside0.mk (blk_below (g := gb416) (o := .cells #[.slice Ao118 t409.length co118, .slice Ao124 t412.length co124] 25 (0, 0)) zPtA_14 hb)
                            have n21_ := Aside0.mk (blk_below (g := gb427) (o := .cells #[.slice Ao131 t420.length co131, .slice Ao138 t423.length co138] 25 (0, 0)) zPtA_25 hb)
                            have n22_ := Aside0.mk (below_step zPtA_0 hb)
                            (try clear HO380)
                            (try clear HO383)
                            (try clear HO387)
                            (try clear HO390)
                            (try clear HO395)
                            (try clear HO398)
                            (try clear HO403)
                            (try clear HO406)
                            (try clear HO411)
                            (try clear HO414)
                            (try clear HO419)
                            (try clear HO422)
                            (try clear HO425)
                            (try clear HO436)
                            (try clear HO439)
                            (try clear HO442)
                            clear BK384
                            clear BK392
                            clear BK400
                            clear BK408
                            clear BK416
                            clear BK427
                            clear HB
                            have HO383 := n1_
                            have HO403 := n6_
                            have HO406 := n7_
                            have HO411 := n8_
                            have HO414 := n9_
                            have HO436 := n13_
                            have BK384 := n16_
                            have BK392 := n17_
                            have BK400 := n18_
                            have BK408 := n19_
                            have BK416 := n20_
                            have BK427 := n21_
                            have HB := n22_
                            clear n1_ n6_ n7_ n8_ n9_ n13_ n16_ n17_ n18_ n19_ n20_ n21_ n22_
                            (try clear hb)
                            (try clear hb2)
                            (try clear hk)
                            (try clear hi)
                            refine hK.out _ _ ⟨(blk_cell BK408.out 0).trans rfl, (blk_cell BK408.out 1).trans rfl, (blk_cell BK384.out 0).trans rfl, (blk_cell BK384.out 1).trans rfl, (blk_cell BK416.out 0).trans rfl, (blk_cell BK416.out 1).trans rfl, (blk_cell BK392.out 0).trans rfl, (blk_cell BK392.out 1).trans rfl, (blk_cell BK400.out 0).trans rfl, (blk_cell BK400.out 1).trans rfl⟩ (fun hHeld => ?_)
                            clear hK K
                            refine norm_ (a' := ?_) ?_ ?_
                            rotate_left
                            · show Act.put _ (some 89) _ = _
                              simp only [Act.put, List.setIfInBounds_toArray, List.set_cons_zero, List.set_cons_succ, i64_w, i32_w]
                              rfl
                            refine pure_ (i := 19) (N := some 90) (v := ?_) (a' := ?_) #[true, true, true, true, true, true, true, true, true, true, true, true, true, true, true, true, true, true, true, true, false, false, false, false, false, false, false, false, false, false, false, false, false, false, false, false, false, false, false, false, false, false, false, false, false, false, false, false] rfl rfl (any_of HT_.out (by kernel_rfl)) (fun _ _ _ h => h) (Or.inl ⟨by rfl, ?_⟩) ?_ ?_
                            rotate_left
                            · intro w'
                              go_simp
                              with_reducible rfl
                            rotate_left
                            · simp only [Act.put, List.setIfInBounds_toArray, List.set_cons_zero, List.set_cons_succ, i64_w, i32_w]
                              rfl
                            refine pure_ (i := 20) (N := some 91) (v := ?_) (a' := ?_) #[true, true, true, true, true, true, true, true, true, true, true, true, true, true, true, true, true, true, true, true, true, false, false, false, false, false, false, false, false, false, false, false, false, false, false, false, false, false, false, false, false, false, false, false, false, false, false, false] rfl rfl (any_of HT_.out (by kernel_rfl)) (fun _ _ _ h => h) (Or.inl ⟨by rfl, ?_⟩) ?_ ?_
                            rotate_left
                            · intro w'
                              go_simp
                              with_reducible rfl
                            rotate_left
                            · simp only [Act.put, List.setIfInBounds_toArray, List.set_cons_zero, List.set_cons_succ, i64_w, i32_w]
                              rfl
                            refine take_ (i := 21) (N := some 92) (v := ?_) (a' := ?_) #[true, true, true, true, true, true, true, true, true, true, true, true, true, true, true, true, true, true, true, true, true, true, false, false, false, false, false, false, false, false, false, false, false, false, false, false, false, false, false, false, false, false, false, false, false, false, false, false] rfl rfl (take_ofW HT_.out HW_.out (by kernel_rfl)) (fun _ _ _ h => h) (Or.inl ⟨by rfl, ?_⟩) hHeld ?_ ?_
                            rotate_left
                            · rintro w' ⟨s0, s1, s2, s3, s4, s5, s6, s7, s8, s9⟩
                              go_simp
                              with_reducible rfl
                            rotate_left
                            · simp only [Act.put, List.setIfInBounds_toArray, List.set_cons_zero, List.set_cons_succ, i64_w, i32_w]
                              rfl
                            refine take_ (i := 22) (N := some 93) (v := ?_) (a' := ?_) #[true, true, true, true, true, true, true, true, true, true, true, true, true, true, true, true, true, true, true, true, true, true, true, false, false, false, false, false, false, false, false, false, false, false, false, false, false, false, false, false, false, false, false, false, false, false, false, false] rfl rfl (take_ofW HT_.out HW_.out (by kernel_rfl)) (fun _ _ _ h => h) (Or.inl ⟨by rfl, ?_⟩) hHeld ?_ ?_
                            rotate_left
                            · rintro w' ⟨s0, s1, s2, s3, s4, s5, s6, s7, s8, s9⟩
                              go_simp
                              with_reducible rfl
                            rotate_left
                            · simp only [Act.put, List.setIfInBounds_toArray, List.set_cons_zero, List.set_cons_succ, i64_w, i32_w]
                              rfl
                            refine one_ (i := 23) (N := some 94) #[true, true, true, true, true, true, true, true, true, true, true, true, true, true, true, true, true, true, true, true, true, true, true, true, false, false, false, false, false, false, false, false, false, false, false, false, false, false, false, false, false, false, false, false, false, false, false, false] rfl rfl (one_of HT_.out (by kernel_rfl)) (by decide) (fun K hK => ?_)
                            refine goes_ Tryz.func16 (by kernel_rfl) rfl #[.agg #[.slice Ao118 t409.length co118, .slice Ao124 t412.length co124], .agg #[.slice Ao110 t401.length co110, .slice Ao115 t404.length co115]] (by rfl) rfl rfl zPtA_7 ?_
                            with_reducible refine (postroomref5_Same.calls kj5 _ _ t409 _ _ t412 _ _ t401 _ _ t404 true _ ?side1 ?side2 ?side3 ?side4 ?side5 ?side6 ?side7 ?side8 A83.out).mono ?_
                            (case side1 => repeat (first | exact (Kd.R_reads' HO411.out).2.2 | (with_reducible refine Kd.C_alloc ?_ _) | (with_reducible refine Kd.C_drewN ?_ _) | (with_reducible refine Kd.C_drew ?_)))
                            (case side2 => exact (Kd.R_reads' HO411.out).2.1)
                            (case side3 => repeat (first | exact (Kd.R_reads' HO414.out).2.2 | (with_reducible refine Kd.C_alloc ?_ _) | (with_reducible refine Kd.C_drewN ?_ _) | (with_reducible refine Kd.C_drew ?_)))
                            (case side4 => exact (Kd.R_reads' HO414.out).2.1)
                            (case side5 => repeat (first | exact (Kd.R_reads' HO403.out).2.2 | (with_reducible refine Kd.C_alloc ?_ _) | (with_reducible refine Kd.C_drewN ?_ _) | (with_reducible refine Kd.C_drew ?_)))
                            (case side6 => exact (Kd.R_reads' HO403.out).2.1)
                            (case side7 => repeat (first | exact (Kd.R_reads' HO406.out).2.2 | (with_reducible refine Kd.C_alloc ?_ _) | (with_reducible refine Kd.C_drewN ?_ _) | (with_reducible refine Kd.C_drew ?_)))
                            (case side8 => exact (Kd.R_reads' HO406.out).2.1)
                            rintro e w150 ⟨rfl, hb⟩
                            refine ⟨_, rfl, ?_⟩
                            have n1_ := Aside0.mk (Kd.R_below zPtA_5 hb)
                            have n13_ := Aside0.mk (Kd.R_below zPtA_49 hb)
                            have n16_ := Aside0.mk (blk_below (g := gb384) (o := .cells #[.slice Ao90 t378.length co90, .slice Ao92 t381.length co92] 25 (0, 0)) zPtA_1 hb)
                            have n17_ := Aside0.mk (blk_below (g := gb392) (o := .cells #[.slice Ao95 t385.length co95, .slice Ao98 t388.length co98] 25 (0, 0)) zPtA_2 hb)
                            have n18_ := Aside0.mk (blk_below (g := gb400) (o := .cells #[.slice Ao102 t393.length co102, .slice Ao106 t396.length co106] 25 (0, 0)) zPtA_4 hb)
                            have n19_ := Aside0.mk (blk_below (g := gb408) (o := .cells #[.slice Ao110 t401.length co110, .slice Ao115 t404.length co115] 25 (0, 0)) zPtA_6 hb)
                            have n20_ := Aside0.mk (blk_below (g := gb416) (o := .cells #[.slice Ao118 t409.length co118, .slice Ao124 t412.length co124] 25 (0, 0)) zPtA_14 hb)
                            have n21_ := Aside0.mk (blk_below (g := gb427) (o := .cells #[.slice Ao131 t420.length co131, .slice Ao138 t423.length co138] 25 (0, 0)) zPtA_25 hb)
                            have n22_ := Aside0.mk (below_step zPtA_0 hb)
                            (try clear HO380)
                            (try clear HO383)
                            (try clear HO387)
                            (try clear HO390)
                            (try clear HO395)
                            (try clear HO398)
                            (try clear HO403)
                            (try clear HO406)
                            (try clear HO411)
                            (try clear HO414)
                            (try clear HO419)
                            (try clear HO422)
                            (try clear HO425)
                            (try clear HO436)
                            (try clear HO439)
                            (try clear HO442)
                            clear BK384
                            clear BK392
                            clear BK400
                            clear BK408
                            clear BK416
                            clear BK427
                            clear HB
                            have HO383 := n1_
                            have HO436 := n13_
                            have BK384 := n16_
                            have BK392 := n17_
                            have BK400 := n18_
                            have BK408 := n19_
                            have BK416 := n20_
                            have BK427 := n21_
                            have HB := n22_
                            clear n1_ n13_ n16_ n17_ n18_ n19_ n20_ n21_ n22_
                            (try clear hb)
                            (try clear hb2)
                            (try clear hk)
                            (try clear hi)
                            obtain ⟨Ao151, co151, eo151⟩ := Kd.R_slice HO436.out
                            (first | subst eo151 | (injection eo151 with f1_ f2_ f3_; have f4_ := f1_.symm; have f5_ := f3_.symm; clear f1_ f2_ f3_; subst f4_; subst f5_))
                            refine hK.out _ _ ⟨(blk_cell BK408.out 0).trans rfl, (blk_cell BK408.out 1).trans rfl, (blk_cell BK384.out 0).trans rfl, (blk_cell BK384.out 1).trans rfl, (blk_cell BK416.out 0).trans rfl, (blk_cell BK416.out 1).trans rfl, (blk_cell BK392.out 0).trans rfl, (blk_cell BK392.out 1).trans rfl, (blk_cell BK400.out 0).trans rfl, (blk_cell BK400.out 1).trans rfl⟩ (fun hHeld => ?_)
                            clear hK K
                            refine norm_ (a' := ?_) ?_ ?_
                            rotate_left
                            · show Act.put _ (some 94) _ = _
                              simp only [Act.put, List.setIfInBounds_toArray, List.set_cons_zero, List.set_cons_succ, i64_w, i32_w]
                              rfl
                            refine pure_ (i := 24) (N := some 95) (v := ?_) (a' := ?_) #[true, true, true, true, true, true, true, true, true, true, true, true, true, true, true, true, true, true, true, true, true, true, true, true, true, false, false, false, false, false, false, false, false, false, false, false, false, false, false, false, false, false, false, false, false, false, false, false] rfl rfl (any_of HT_.out (by kernel_rfl)) (fun _ _ _ h => h) (Or.inl ⟨by rfl, ?_⟩) ?_ ?_
                            rotate_left
                            · intro w'
                              go_simp
                              with_reducible rfl
                            rotate_left
                            · simp only [Act.put, List.setIfInBounds_toArray, List.set_cons_zero, List.set_cons_succ, i64_w, i32_w]
                              rfl
                            refine pure_ (i := 25) (N := some 96) (v := ?_) (a' := ?_) #[true, true, true, true, true, true, true, true, true, true, true, true, true, true, true, true, true, true, true, true, true, true, true, true, true, true, false, false, false, false, false, false, false, false, false, false, false, false, false, false, false, false, false, false, false, false, false, false] rfl rfl (any_of HT_.out (by kernel_rfl)) (fun _ _ _ h => h) (Or.inl ⟨by rfl, ?_⟩) ?_ ?_
                            rotate_left
                            · intro w'
                              go_simp
                              with_reducible rfl
                            rotate_left
                            · simp only [Act.put, List.setIfInBounds_toArray, List.set_cons_zero, List.set_cons_succ, i64_w, i32_w]
                              rfl
                            refine pure_ (i := 26) (N := some 97) (v := ?_) (a' := ?_) #[true, true, true, true, true, true, true, true, true, true, true, true, true, true, true, true, true, true, true, true, true, true, true, true, true, true, true, false, false, false, false, false, false, false, false, false, false, false, false, false, false, false, false, false, false, false, false, false] rfl rfl (any_of HT_.out (by kernel_rfl)) (fun _ _ _ h => h) (Or.inl ⟨by rfl, ?_⟩) ?_ ?_
                            rotate_left
                            · intro w'
                              go_simp
                              with_reducible rfl
                            rotate_left
                            · simp only [Act.put, List.setIfInBounds_toArray, List.set_cons_zero, List.set_cons_succ, i64_w, i32_w]
                              rfl
                            refine pure_ (i := 27) (N := some 98) (v := ?_) (a' := ?_) #[true, true, true, true, true, true, true, true, true, true, true, true, true, true, true, true, true, true, true, true, true, true, true, true, true, true, true, true, false, false, false, false, false, false, false, false, false, false, false, false, false, false, false, false, false, false, false, false] rfl rfl (any_of HT_.out (by kernel_rfl)) (fun _ _ _ h => h) (Or.inl ⟨by rfl, ?_⟩) ?_ ?_
                            rotate_left
                            · intro w'
                              go_simp
                              with_reducible rfl
                            rotate_left
                            · simp only [Act.put, List.setIfInBounds_toArray, List.set_cons_zero, List.set_cons_succ, i64_w, i32_w]
                              rfl
                            refine take_ (i := 28) (N := some 99) (v := ?_) (a' := ?_) #[true, true, true, true, true, true, true, true, true, true, true, true, true, true, true, true, true, true, true, true, true, true, true, true, true, true, true, true, true, false, false, false, false, false, false, false, false, false, false, false, false, false, false, false, false, false, false, false] rfl rfl (take_ofW HT_.out HW_.out (by kernel_rfl)) (fun _ _ _ h => h) (Or.inl ⟨by rfl, ?_⟩) hHeld ?_ ?_
                            rotate_left
                            · rintro w' ⟨s0, s1, s2, s3, s4, s5, s6, s7, s8, s9⟩
                              go_simp
                              with_reducible rfl
                            rotate_left
                            · simp only [Act.put, List.setIfInBounds_toArray, List.set_cons_zero, List.set_cons_succ, i64_w, i32_w]
                              rfl
                            refine one_ (i := 29) (N := some 100) #[true, true, true, true, true, true, true, true, true, true, true, true, true, true, true, true, true, true, true, true, true, true, true, true, true, true, true, true, true, true, false, false, false, false, false, false, false, false, false, false, false, false, false, false, false, false, false, false] rfl rfl (one_of HT_.out (by kernel_rfl)) (by decide) (fun K hK => ?_)
                            refine goes_ Tryz.func22 (by kernel_rfl) rfl #[.slice Ao151 y434.length co151, .slice Ao92 t381.length co92] (by rfl) rfl rfl zPtA_7 ?_
                            with_reducible refine (postroomref4_Same.calls kj5 _ _ y434 _ _ t381 true _ ?side1 ?side2 ?side3 ?side4 A85.out).mono ?_
                            (case side1 => repeat (first | exact (Kd.R_reads' HO436.out).2.2 | (with_reducible refine Kd.C_alloc ?_ _) | (with_reducible refine Kd.C_drewN ?_ _) | (with_reducible refine Kd.C_drew ?_)))
                            (case side2 => exact (Kd.R_reads' HO436.out).2.1)
                            (case side3 => repeat (first | exact (Kd.R_reads' HO383.out).2.2 | (with_reducible refine Kd.C_alloc ?_ _) | (with_reducible refine Kd.C_drewN ?_ _) | (with_reducible refine Kd.C_drew ?_)))
                            (case side4 => exact (Kd.R_reads' HO383.out).2.1)
                            rintro e w' ⟨rfl, ⟨nd, rfl⟩⟩
                            refine ⟨_, rfl, ?_⟩
                            refine hK.out _ _ ⟨(blk_cell BK408.out 0).trans rfl, (blk_cell BK408.out 1).trans rfl, (blk_cell BK384.out 0).trans rfl, (blk_cell BK384.out 1).trans rfl, (blk_cell BK416.out 0).trans rfl, (blk_cell BK416.out 1).trans rfl, (blk_cell BK392.out 0).trans rfl, (blk_cell BK392.out 1).trans rfl, (blk_cell BK400.out 0).trans rfl, (blk_cell BK400.out 1).trans rfl⟩ (fun hHeld => ?_)
                            clear hK K
                            refine norm_ (a' := ?_) ?_ ?_
                            rotate_left
                            · show Act.put _ (some 100) _ = _
                              simp only [Act.put, List.setIfInBounds_toArray, List.set_cons_zero, List.set_cons_succ, i64_w, i32_w]
                              rfl
                            refine pure_ (i := 30) (N := some 101) (v := ?_) (a' := ?_) #[true, true, true, true, true, true, true, true, true, true, true, true, true, true, true, true, true, true, true, true, true, true, true, true, true, true, true, true, true, true, true, false, false, false, false, false, false, false, false, false, false, false, false, false, false, false, false, false] rfl rfl (any_of HT_.out (by kernel_rfl)) (fun _ _ _ h => h) (Or.inl ⟨by rfl, ?_⟩) ?_ ?_
                            rotate_left
                            · intro w'
                              go_simp
                              with_reducible rfl
                            rotate_left
                            · simp only [Act.put, List.setIfInBounds_toArray, List.set_cons_zero, List.set_cons_succ, i64_w, i32_w]
                              rfl
                            refine pure_ (i := 31) (N := some 102) (v := ?_) (a' := ?_) #[true, true, true, true, true, true, true, true, true, true, true, true, true, true, true, true, true, true, true, true, true, true, true, true, true, true, true, true, true, true, true, true, false, false, false, false, false, false, false, false, false, false, false, false, false, false, false, false] rfl rfl (any_of HT_.out (by kernel_rfl)) (fun _ _ _ h => h) (Or.inl ⟨by rfl, ?_⟩) ?_ ?_
                            rotate_left
                            · intro w'
                              go_simp
                              with_reducible rfl
                            rotate_left
                            · simp only [Act.put, List.setIfInBounds_toArray, List.set_cons_zero, List.set_cons_succ, i64_w, i32_w]
                              rfl
                            refine pure_ (i := 32) (N := some 103) (v := ?_) (a' := ?_) #[true, true, true, true, true, true, true, true, true, true, true, true, true, true, true, true, true, true, true, true, true, true, true, true, true, true, true, true, true, true, true, true, true, false, false, false, false, false, false, false, false, false, false, false, false, false, false, false] rfl rfl (any_of HT_.out (by kernel_rfl)) (fun _ _ _ h => h) (Or.inl ⟨by rfl, ?_⟩) ?_ ?_
                            rotate_left
                            · intro w'
                              go_simp
                              with_reducible rfl
                            rotate_left
                            · simp only [Act.put, List.setIfInBounds_toArray, List.set_cons_zero, List.set_cons_succ, i64_w, i32_w]
                              rfl
                            refine pure_ (i := 33) (N := some 104) (v := ?_) (a' := ?_) #[true, true, true, true, true, true, true, true, true, true, true, true, true, true, true, true, true, true, true, true, true, true, true, true, true, true, true, true, true, true, true, true, true, true, false, false, false, false, false, false, false, false, false, false, false, false, false, false] rfl rfl (any_of HT_.out (by kernel_rfl)) (fun _ _ _ h => h) (Or.inl ⟨by rfl, ?_⟩) ?_ ?_
                            rotate_left
                            · intro w'
                              go_simp
                              with_reducible rfl
                            rotate_left
                            · simp only [Act.put, List.setIfInBounds_toArray, List.set_cons_zero, List.set_cons_succ, i64_w, i32_w]
                              rfl
                            refine take_ (i := 34) (N := some 105) (v := ?_) (a' := ?_) #[true, true, true, true, true, true, true, true, true, true, true, true, true, true, true, true, true, true, true, true, true, true, true, true, true, true, true, true, true, true, true, true, true, true, true, false, false, false, false, false, false, false, false, false, false, false, false, false] rfl rfl (take_ofW HT_.out HW_.out (by kernel_rfl)) (fun _ _ _ h => h) (Or.inl ⟨by rfl, ?_⟩) hHeld ?_ ?_
                            rotate_left
                            · rintro w' ⟨s0, s1, s2, s3, s4, s5, s6, s7, s8, s9⟩
                              go_simp
                              with_reducible rfl
                            rotate_left
                            · simp only [Act.put, List.setIfInBounds_toArray, List.set_cons_zero, List.set_cons_succ, i64_w, i32_w]
                              rfl
                            refine pure_ (i := 35) (N := some 106) (v := ?_) (a' := ?_) #[true, true, true, true, true, true, true, true, true, true, true, true, true, true, true, true, true, true, true, true, true, true, true, true, true, true, true, true, true, true, true, true, true, true, true, true, false, false, false, false, false, false, false, false, false, false, false, false] rfl rfl (any_of HT_.out (by kernel_rfl)) (fun _ _ _ h => h) (Or.inl ⟨by rfl, ?_⟩) ?_ ?_
                            rotate_left
                            · intro w'
                              go_simp
                              with_reducible rfl
                            rotate_left
                            · simp only [Act.put, List.setIfInBounds_toArray, List.set_cons_zero, List.set_cons_succ, i64_w, i32_w]
                              rfl
                            refine pure_ (i := 36) (N := some 107) (v := ?_) (a' := ?_) #[true, true, true, true, true, true, true, true, true, true, true, true, true, true, true, true, true, true, true, true, true, true, true, true, true, true, true, true, true, true, true, true, true, true, true, true, true, false, false, false, false, false, false, false, false, false, false, false] rfl rfl (any_of HT_.out (by kernel_rfl)) (fun _ _ _ h => h) (Or.inl ⟨by rfl, ?_⟩) ?_ ?_
                            rotate_left
                            · intro w'
                              go_simp
                              with_reducible rfl
                            rotate_left
                            · simp only [Act.put, List.setIfInBounds_toArray, List.set_cons_zero, List.set_cons_succ, i64_w, i32_w]
                              rfl
                            refine pure_ (i := 37) (N := some 108) (v := ?_) (a' := ?_) #[true, true, true, true, true, true, true, true, true, true, true, true, true, true, true, true, true, true, true, true, true, true, true, true, true, true, true, true, true, true, true, true, true, true, true, true, true, true, false, false, false, false, false, false, false, false, false, false] rfl rfl (any_of HT_.out (by kernel_rfl)) (fun _ _ _ h => h) (Or.inl ⟨by rfl, ?_⟩) ?_ ?_
                            rotate_left
                            · intro w'
                              go_simp
                              with_reducible rfl
                            rotate_left
                            · simp only [Act.put, List.setIfInBounds_toArray, List.set_cons_zero, List.set_cons_succ, i64_w, i32_w]
                              rfl
                            refine pure_ (i := 38) (N := some 109) (v := ?_) (a' := ?_) #[true, true, true, true, true, true, true, true, true, true, true, true, true, true, true, true, true, true, true, true, true, true, true, true, true, true, true, true, true, true, true, true, true, true, true, true, true, true, true, false, false, false, false, false, false, false, false, false] rfl rfl (any_of HT_.out (by kernel_rfl)) (fun _ _ _ h => h) (Or.inl ⟨by rfl, ?_⟩) ?_ ?_
                            rotate_left
                            · intro w'
                              go_simp
                              with_reducible rfl
                            rotate_left
                            · simp only [Act.put, List.setIfInBounds_toArray, List.set_cons_zero, List.set_cons_succ, i64_w, i32_w]
                              rfl
                            refine pure_ (i := 39) (N := some 110) (v := ?_) (a' := ?_) #[true, true, true, true, true, true, true, true, true, true, true, true, true, true, true, true, true, true, true, true, true, true, true, true, true, true, true, true, true, true, true, true, true, true, true, true, true, true, true, true, false, false, false, false, false, false, false, false] rfl rfl (any_of HT_.out (by kernel_rfl)) (fun _ _ _ h => h) (Or.inl ⟨by rfl, ?_⟩) ?_ ?_
                            rotate_left
                            · intro w'
                              go_simp
                              with_reducible rfl
                            rotate_left
                            · simp only [Act.put, List.setIfInBounds_toArray, List.set_cons_zero, List.set_cons_succ, i64_w, i32_w]
                              rfl
                            refine pure_ (i := 40) (N := some 111) (v := ?_) (a' := ?_) #[true, true, true, true, true, true, true, true, true, true, true, true, true, true, true, true, true, true, true, true, true, true, true, true, true, true, true, true, true, true, true, true, true, true, true, true, true, true, true, true, true, false, false, false, false, false, false, false] rfl rfl (any_of HT_.out (by kernel_rfl)) (fun _ _ _ h => h) (Or.inl ⟨by rfl, ?_⟩) ?_ ?_
                            rotate_left
                            · intro w'
                              go_simp
                              with_reducible rfl
                            rotate_left
                            · simp only [Act.put, List.setIfInBounds_toArray, List.set_cons_zero, List.set_cons_succ, i64_w, i32_w]
                              rfl
                            refine pure_ (i := 41) (N := some 112) (v := ?_) (a' := ?_) #[true, true, true, true, true, true, true, true, true, true, true, true, true, true, true, true, true, true, true, true, true, true, true, true, true, true, true, true, true, true, true, true, true, true, true, true, true, true, true, true, true, true, false, false, false, false, false, false] rfl rfl (any_of HT_.out (by kernel_rfl)) (fun _ _ _ h => h) (Or.inl ⟨by rfl, ?_⟩) ?_ ?_
                            rotate_left
                            · intro w'
                              go_simp
                              with_reducible rfl
                            rotate_left
                            · simp only [Act.put, List.setIfInBounds_toArray, List.set_cons_zero, List.set_cons_succ, i64_w, i32_w]
                              rfl
                            refine take_ (i := 42) (N := some 113) (v := ?_) (a' := ?_) #[true, true, true, true, true, true, true, true, true, true, true, true, true, true, true, true, true, true, true, true, true, true, true, true, true, true, true, true, true, true, true, true, true, true, true, true, true, true, true, true, true, true, true, false, false, false, false, false] rfl rfl (take_ofW HT_.out HW_.out (by kernel_rfl)) (fun _ _ _ h => h) (Or.inl ⟨by rfl, ?_⟩) hHeld ?_ ?_
                            rotate_left
                            · rintro w' ⟨s0, s1, s2, s3, s4, s5, s6, s7, s8, s9⟩
                              go_simp
                              with_reducible rfl
                            rotate_left
                            · simp only [Act.put, List.setIfInBounds_toArray, List.set_cons_zero, List.set_cons_succ, i64_w, i32_w]
                              rfl
                            refine pure_ (i := 43) (N := some 114) (v := ?_) (a' := ?_) #[true, true, true, true, true, true, true, true, true, true, true, true, true, true, true, true, true, true, true, true, true, true, true, true, true, true, true, true, true, true, true, true, true, true, true, true, true, true, true, true, true, true, true, true, false, false, false, false] rfl rfl (any_of HT_.out (by kernel_rfl)) (fun _ _ _ h => h) (Or.inl ⟨by rfl, ?_⟩) ?_ ?_
                            rotate_left
                            · intro w'
                              go_simp
                              with_reducible rfl
                            rotate_left
                            · simp only [Act.put, List.setIfInBounds_toArray, List.set_cons_zero, List.set_cons_succ, i64_w, i32_w]
                              rfl
                            refine pure_ (i := 44) (N := some 115) (v := ?_) (a' := ?_) #[true, true, true, true, true, true, true, true, true, true, true, true, true, true, true, true, true, true, true, true, true, true, true, true, true, true, true, true, true, true, true, true, true, true, true, true, true, true, true, true, true, true, true, true, true, false, false, false] rfl rfl (any_of HT_.out (by kernel_rfl)) (fun _ _ _ h => h) (Or.inl ⟨by rfl, ?_⟩) ?_ ?_
                            rotate_left
                            · intro w'
                              go_simp
                              with_reducible rfl
                            rotate_left
                            · simp only [Act.put, List.setIfInBounds_toArray, List.set_cons_zero, List.set_cons_succ, i64_w, i32_w]
                              rfl
                            refine pure_ (i := 45) (N := some 116) (v := ?_) (a' := ?_) #[true, true, true, true, true, true, true, true, true, true, true, true, true, true, true, true, true, true, true, true, true, true, true, true, true, true, true, true, true, true, true, true, true, true, true, true, true, true, true, true, true, true, true, true, true, true, false, false] rfl rfl (any_of HT_.out (by kernel_rfl)) (fun _ _ _ h => h) (Or.inl ⟨by rfl, ?_⟩) ?_ ?_
                            rotate_left
                            · intro w'
                              go_simp
                              with_reducible rfl
                            rotate_left
                            · simp only [Act.put, List.setIfInBounds_toArray, List.set_cons_zero, List.set_cons_succ, i64_w, i32_w]
                              rfl
                            refine pure_ (i := 46) (N := some 117) (v := ?_) (a' := ?_) #[true, true, true, true, true, true, true, true, true, true, true, true, true, true, true, true, true, true, true, true, true, true, true, true, true, true, true, true, true, true, true, true, true, true, true, true, true, true, true, true, true, true, true, true, true, true, true, false] rfl rfl (any_of HT_.out (by kernel_rfl)) (fun _ _ _ h => h) (Or.inl ⟨by rfl, ?_⟩) ?_ ?_
                            rotate_left
                            · intro w'
                              go_simp
                              with_reducible rfl
                            rotate_left
                            · simp only [Act.put, List.setIfInBounds_toArray, List.set_cons_zero, List.set_cons_succ, i64_w, i32_w]
                              rfl
                            refine pure_ (i := 47) (N := some 8) (v := ?_) (a' := ?_) #[true, true, true, true, true, true, true, true, true, true, true, true, true, true, true, true, true, true, true, true, true, true, true, true, true, true, true, true, true, true, true, true, true, true, true, true, true, true, true, true, true, true, true, true, true, true, true, true] rfl rfl (any_of HT_.out (by kernel_rfl)) (fun _ _ _ h => h) (Or.inl ⟨by rfl, ?_⟩) ?_ ?_
                            rotate_left
                            · intro w'
                              go_simp
                              with_reducible rfl
                            rotate_left
                            · simp only [Act.put, List.setIfInBounds_toArray, List.set_cons_zero, List.set_cons_succ, i64_w, i32_w]
                              rfl
                            refine done_ (done_of HT_.out (by kernel_rfl)) ?_
                            try go_wp2
                            go_ret
                            exact ⟨by first | rfl | (simp [errW_none, errW_some] <;> rfl) | (simp [*, errW_none, errW_some] <;> rfl), by repeat (first | (with_reducible first | exact HB.out | apply below_alloc | apply pw_below_drewN | apply below_drew1 | refine below_set ?_ GE384.out | refine below_set ?_ GE392.out | refine below_set ?_ GE400.out | refine below_set ?_ GE408.out | refine below_set ?_ GE416.out | refine below_set ?_ GE427.out) | exact HB.out)⟩
                          · rw [if_neg c87] at H
                            have c87b0 : (true == (decide ((t388.length : Int) > 0))) = false := by simpa using c87
                            (try (have c87b1 : decide (true = (decide ((t388.length : Int) > 0))) = false := by simpa using c87))
                            (try (have c87b2 : (true == (decide ((t388.length : Int) > 0))) = false := by simpa using c87))
                            (try (have c87b3 : ¬ (true = (decide ((t388.length : Int) > 0))) := by simpa using c87))
                            clear c87
                            exact absurd ((Option.some.inj H).trans hrt.out) (by decide)
                        · replace c86 := Bool.eq_false_iff.mpr c86
                          subst c86
                          have H1 : (some false) = some r := by rw [if_neg (show ¬ (false = true) by decide)] at H; exact H
                          clear H
                          have H := H1
                          clear H1
                          exact absurd ((Option.some.inj H).trans hrt.out) (by decide)
                      · replace c84 := Bool.eq_false_iff.mpr c84
                        subst c84
                        have H1 : (some false) = some r := by rw [if_neg (show ¬ (false = true) by decide)] at H; exact H
                        clear H
                        have H := H1
                        clear H1
                        exact absurd ((Option.some.inj H).trans hrt.out) (by decide)
                    · replace c82 := Bool.eq_false_iff.mpr c82
                      subst c82
                      have H1 : (some false) = some r := by rw [if_neg (show ¬ (false = true) by decide)] at H; exact H
                      clear H
                      have H := H1
                      clear H1
                      exact absurd ((Option.some.inj H).trans hrt.out) (by decide)
                · replace c20 := Bool.eq_false_iff.mpr c20
                  subst c20
                  have H1 : (some false) = some r := by rw [if_neg (show ¬ (false = true) by decide)] at H; exact H
                  clear H
                  have H := H1
                  clear H1
                  exact absurd ((Option.some.inj H).trans hrt.out) (by decide)
              · replace c19 := Bool.eq_false_iff.mpr c19
                subst c19
                have H1 : (some false) = some r := by rw [if_neg (show ¬ (false = true) by decide)] at H; exact H
                clear H
                have H := H1
                clear H1
                exact absurd ((Option.some.inj H).trans hrt.out) (by decide)
            · rw [if_neg c18] at H
              exact absurd H (by simp)
          · rw [if_neg c17] at H
            exact absurd H (by simp)
        · rw [if_neg c16] at H
          exact absurd H (by simp)

end Go.Proofs.YthaegbiblblccaaGreatDoor.XEnt
