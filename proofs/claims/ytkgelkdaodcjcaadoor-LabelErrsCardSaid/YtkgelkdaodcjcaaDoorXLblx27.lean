/- What the functions of the translation answer, each as a plain Lean function, and that the code comes to it; for a law: its row. Conditions: none but those that each theorem names. Written by a program of this session (wip/xp). -/
import Derived.Test.YtkgelkdaodcjcaaDoorXLblx0
import Derived.Test.YtkgelkdaodcjcaaDoorXLblx4
import Derived.Test.YtkgelkdaodcjcaaDoorXLblx7
import Derived.Test.YtkgelkdaodcjcaaDoorXLblx23
import Derived.Test.YtkgelkdaodcjcaaDoorXLblx24
import Derived.Test.YtkgelkdaodcjcaaDoorGLabelCanon
import Derived.Test.YtkgelkdaodcjcaaDoorGLabelPut
namespace Go.Proofs.YtkgelkdaodcjcaaDoor.XLbl
open Go.RowKit Go.Proofs.YtkgelkdaodcjcaaDoorW.PrintWords Go.Proofs.YtkgelkdaodcjcaaDoorW.PrintLast Go.Proofs.YtkgelkdaodcjcaaDoorW.PrintMore
attribute [local go_sem] max2_int min2_int max_two min_two max_three min_three max_four min_four   -- for this text's walks alone
set_option linter.unusedVariables false
set_option linter.unusedSimpArgs false

/-! ### postroomlaw3_LabelErrs: function 3 -/
mutual
def postroomlaw3_LabelErrs.j0 : Nat → Int → Int → Bool → List (S30) → Bool → Option (Bool)
  | 0, _, _, _, _, _ => none
  | k + 1, x1, x2, x7, x8, x24 => if x24 = true then (some x7) else ((postroomlaw3_pick.f x1 (x8.length : Int)).bind fun t318 => ((postroomlaw3_pick.f x2 4).bind fun t319 => (if t319 = 0 then ((some (([(⟨#[]⟩ : ByteArray), (⟨#[49, 97]⟩ : ByteArray), (⟨#[65]⟩ : ByteArray), (⟨#[97, 32, 98]⟩ : ByteArray), (⟨#[97, 97, 97, 97, 97, 97, 97, 97, 97, 97, 97, 97, 97, 97, 97, 97, 97, 97, 97, 97, 97]⟩ : ByteArray)] : List ByteArray) : List ByteArray)).bind fun y320 => ((postroomlaw3_pick.f (wrap64 (Int.tdiv x2 4)) 5).bind fun t323 => (if 0 ≤ t323 then (if t323 < (y320.length : Int) then (if 0 ≤ t318 then (if t318 < (x8.length : Int) then (postroomlaw3_LabelErrs.j2 k (x8.set (t318 : Int).toNat (⟨rdOf ByteArray.empty y320 t323, (rd_T30 x8 t318).f1⟩ : S30)) 3) else (none)) else (none)) else (none)) else (none)))) else (if t319 = 1 then (if 0 ≤ t318 then (if t318 < (x8.length : Int) then (postroomlaw3_LabelErrs.j2 k (x8.set (t318 : Int).toNat (⟨(rd_T30 x8 t318).f0, (⟨#[48, 49, 50, 51, 52, 53, 54, 55, 56, 57, 48, 49, 50, 51, 52, 53, 54, 55, 56, 57, 48, 49, 50, 51, 52, 53, 54, 55, 56, 57, 48, 49, 50, 51, 52, 53, 54, 55, 56, 57, 33]⟩ : ByteArray)⟩ : S30)) 7) else (none)) else (none)) else (if t319 = 2 then (if 0 ≤ t318 then (if t318 < (x8.length : Int) then ((some (x8.set (t318 : Int).toNat (⟨(⟨#[116, 119, 105, 99, 101]⟩ : ByteArray), (rd_T30 x8 t318).f1⟩ : S30) : List (S30))).bind fun y327 => (if y327.length < 4398046511104 then (postroomlaw3_LabelErrs.j2 k (y327 ++ [(⟨(⟨#[116, 119, 105, 99, 101]⟩ : ByteArray), (⟨#[]⟩ : ByteArray)⟩ : S30)]) 4) else (none))) else (none)) else (none)) else (postroomlaw3_LabelErrs.l0 k x8))))))
def postroomlaw3_LabelErrs.j2 : Nat → List (S30) → Int → Option (Bool)
  | 0, _, _ => none
  | k + 1, x8, x10 => if (x8.length : Int) > 8 then ((label_Put.f k x8).bind fun bt334 => ((label_Canon.f k x8).bind fun bt336 => ((label_Check.f k x8).bind fun t340 => (if t340 = 6 then (if bt334.2 = 6 then (if bt336.2 = 6 then (if bt334.1.toList = ([] : List UInt8) then (some ((bt336.1.length : Int) == 0)) else (some false)) else (some false)) else (some false)) else (some false))))) else ((label_Put.f k x8).bind fun bt341 => ((label_Canon.f k x8).bind fun bt343 => ((label_Check.f k x8).bind fun t347 => (if t347 = x10 then (if bt341.2 = x10 then (if bt343.2 = x10 then (if bt341.1.toList = ([] : List UInt8) then (some ((bt343.1.length : Int) == 0)) else (some false)) else (some false)) else (some false)) else (some false)))))
def postroomlaw3_LabelErrs.l0 : Nat → List (S30) → Option (Bool)
  | 0, _ => none
  | k + 1, x8 => if (x8.length : Int) < 9 then (if x8.length < 4398046511104 then (postroomlaw3_LabelErrs.l0 k (x8 ++ [(⟨(⟨#[]⟩ : ByteArray), (⟨#[]⟩ : ByteArray)⟩ : S30)])) else (none)) else (postroomlaw3_LabelErrs.j2 k x8 6)
end
def postroomlaw3_LabelErrs.f (k : Nat) (l0 : List Int) (a1 : Int) (a2 : Int) : Option (Bool) := (postroomlaw3_shown.f k).bind fun t314 => ((postroomlaw3_labelsOf.f k l0).bind fun t315 => (if t314 = true then (postroomlaw3_LabelErrs.j0 k a1 a2 t314 t315 ((t315.length : Int) == 0)) else (postroomlaw3_LabelErrs.j0 k a1 a2 t314 t315 true)))
theorem postroomlaw3_LabelErrs.mono_l : ∀ k, (∀ y0 y1 y2 y3 y4, LeO (postroomlaw3_LabelErrs.j0 k y0 y1 y2 y3 y4) (postroomlaw3_LabelErrs.j0 (k + 1) y0 y1 y2 y3 y4)) ∧ (∀ y0 y1, LeO (postroomlaw3_LabelErrs.j2 k y0 y1) (postroomlaw3_LabelErrs.j2 (k + 1) y0 y1)) ∧ (∀ y0, LeO (postroomlaw3_LabelErrs.l0 k y0) (postroomlaw3_LabelErrs.l0 (k + 1) y0))
  | 0 => ⟨fun _ _ _ _ _ r h => by simp [postroomlaw3_LabelErrs.j0] at h, fun _ _ r h => by simp [postroomlaw3_LabelErrs.j2] at h, fun _ r h => by simp [postroomlaw3_LabelErrs.l0] at h⟩
  | k + 1 => by
    obtain ⟨ih0, ih1, ih2⟩ := postroomlaw3_LabelErrs.mono_l k
    refine ⟨?_, ?_, ?_⟩
    · intro y0 y1 y2 y3 y4
      unfold postroomlaw3_LabelErrs.j0
      repeat' first
      | (with_reducible exact ih0 _ _ _ _ _)
      | (with_reducible exact ih1 _ _)
      | (with_reducible exact ih2 _)
      | (with_reducible exact label_Canon.mono _ _)
      | (with_reducible exact label_Check.mono _ _)
      | (with_reducible exact label_Put.mono _ _)
      | (with_reducible exact postroomlaw3_labelsOf.mono _ _)
      | (with_reducible exact postroomlaw3_shown.mono _)
      | (with_reducible exact LeO.refl _)
      | (with_reducible exact LeO.none _)
      | (with_reducible refine LeO.ite ?_ ?_)
      | (with_reducible refine LeO.bind ?_ (fun _ => ?_))
      | exact ih0 _ _ _ _ _
      | exact ih1 _ _
      | exact ih2 _
      | exact label_Canon.mono _ _
      | exact label_Check.mono _ _
      | exact label_Put.mono _ _
      | exact postroomlaw3_labelsOf.mono _ _
      | exact postroomlaw3_shown.mono _
      | exact LeO.none _
      | refine LeO.ite ?_ ?_
      | refine LeO.bind ?_ (fun _ => ?_)
    · intro y0 y1
      unfold postroomlaw3_LabelErrs.j2
      repeat' first
      | (with_reducible exact ih0 _ _ _ _ _)
      | (with_reducible exact ih1 _ _)
      | (with_reducible exact ih2 _)
      | (with_reducible exact label_Canon.mono _ _)
      | (with_reducible exact label_Check.mono _ _)
      | (with_reducible exact label_Put.mono _ _)
      | (with_reducible exact postroomlaw3_labelsOf.mono _ _)
      | (with_reducible exact postroomlaw3_shown.mono _)
      | (with_reducible exact LeO.refl _)
      | (with_reducible exact LeO.none _)
      | (with_reducible refine LeO.ite ?_ ?_)
      | (with_reducible refine LeO.bind ?_ (fun _ => ?_))
      | exact ih0 _ _ _ _ _
      | exact ih1 _ _
      | exact ih2 _
      | exact label_Canon.mono _ _
      | exact label_Check.mono _ _
      | exact label_Put.mono _ _
      | exact postroomlaw3_labelsOf.mono _ _
      | exact postroomlaw3_shown.mono _
      | exact LeO.none _
      | refine LeO.ite ?_ ?_
      | refine LeO.bind ?_ (fun _ => ?_)
    · intro y0
      unfold postroomlaw3_LabelErrs.l0
      repeat' first
      | (with_reducible exact ih0 _ _ _ _ _)
      | (with_reducible exact ih1 _ _)
      | (with_reducible exact ih2 _)
      | (with_reducible exact label_Canon.mono _ _)
      | (with_reducible exact label_Check.mono _ _)
      | (with_reducible exact label_Put.mono _ _)
      | (with_reducible exact postroomlaw3_labelsOf.mono _ _)
      | (with_reducible exact postroomlaw3_shown.mono _)
      | (with_reducible exact LeO.refl _)
      | (with_reducible exact LeO.none _)
      | (with_reducible refine LeO.ite ?_ ?_)
      | (with_reducible refine LeO.bind ?_ (fun _ => ?_))
      | exact ih0 _ _ _ _ _
      | exact ih1 _ _
      | exact ih2 _
      | exact label_Canon.mono _ _
      | exact label_Check.mono _ _
      | exact label_Put.mono _ _
      | exact postroomlaw3_labelsOf.mono _ _
      | exact postroomlaw3_shown.mono _
      | exact LeO.none _
      | refine LeO.ite ?_ ?_
      | refine LeO.bind ?_ (fun _ => ?_)
theorem postroomlaw3_LabelErrs.mono : ∀ a0 a1 a2 k, LeO (postroomlaw3_LabelErrs.f k a0 a1 a2) (postroomlaw3_LabelErrs.f (k + 1) a0 a1 a2) := by
  intro a0 a1 a2 k
  obtain ⟨ih0, ih1, ih2⟩ := postroomlaw3_LabelErrs.mono_l k
  unfold postroomlaw3_LabelErrs.f
  repeat' first
      | (with_reducible exact ih0 _ _ _ _ _)
      | (with_reducible exact ih1 _ _)
      | (with_reducible exact ih2 _)
      | (with_reducible exact label_Canon.mono _ _)
      | (with_reducible exact label_Check.mono _ _)
      | (with_reducible exact label_Put.mono _ _)
      | (with_reducible exact postroomlaw3_labelsOf.mono _ _)
      | (with_reducible exact postroomlaw3_shown.mono _)
      | (with_reducible exact LeO.refl _)
      | (with_reducible exact LeO.none _)
      | (with_reducible refine LeO.ite ?_ ?_)
      | (with_reducible refine LeO.bind ?_ (fun _ => ?_))
      | exact ih0 _ _ _ _ _
      | exact ih1 _ _
      | exact ih2 _
      | exact label_Canon.mono _ _
      | exact label_Check.mono _ _
      | exact label_Put.mono _ _
      | exact postroomlaw3_labelsOf.mono _ _
      | exact postroomlaw3_shown.mono _
      | exact LeO.none _
      | refine LeO.ite ?_ ?_
      | refine LeO.bind ?_ (fun _ => ?_)
set_option maxHeartbeats 8000000 in
set_option maxRecDepth 100000 in
theorem postroomlaw3_LabelErrs.calls (k : Nat) (A0 : Option Addr) (c0 : Nat) (l0 : List Int) (a1 : Int) (a2 : Int) (r : Bool) (w : World) (hr0 : Kd.C (Kd.int .i64) w A0 l0.length l0) (hc0 : l0.length ≤ c0) (h : postroomlaw3_LabelErrs.f k l0 a1 a2 = some r) :
    Calls Tryd.prog 3 #[.slice A0 l0.length c0, .int .i64 a1, .int .i64 a2] w fun e w' => e = .returned (.bool r) ∧ Below w.heap.size w w' := by
  have hu30 := Tryd.underlying30
  have HR0 := Aside0.mk hr0
  have HC0 := Aside0.mk hc0
  clear hr0 hc0
  have HB := Aside0.mk (Below.refl w.heap.size w)
  have H : ((postroomlaw3_shown.f k).bind fun t314 => ((postroomlaw3_labelsOf.f k l0).bind fun t315 => (if t314 = true then (postroomlaw3_LabelErrs.j0 k a1 a2 t314 t315 ((t315.length : Int) == 0)) else (postroomlaw3_LabelErrs.j0 k a1 a2 t314 t315 true)))) = some r := h
  clear h
  replace H := Option.bind_eq_some_iff.mp H
  obtain ⟨t314, A40, H⟩ := H
  replace H : ((postroomlaw3_labelsOf.f k l0).bind fun t315 => (if t314 = true then (postroomlaw3_LabelErrs.j0 k a1 a2 t314 t315 ((t315.length : Int) == 0)) else (postroomlaw3_LabelErrs.j0 k a1 a2 t314 t315 true))) = some r := H
  have A4 := Aside0.mk A40
  clear A40
  replace H := Option.bind_eq_some_iff.mp H
  obtain ⟨t315, A50, H⟩ := H
  replace H : (if t314 = true then (postroomlaw3_LabelErrs.j0 k a1 a2 t314 t315 ((t315.length : Int) == 0)) else (postroomlaw3_LabelErrs.j0 k a1 a2 t314 t315 true)) = some r := H
  have A5 := Aside0.mk A50
  clear A50
  have HC6 := Aside0.mk H
  clear H
  go_enter Tryd.func3, Tryd.ntmps3
  go_upto_region 3 with (first | ((with_reducible refine gate_callee (f := 10) rfl ?_); refine goesL_ (some 15) rfl rfl Tryd.func10 (by kernel_rfl) rfl #[] rfl (by (try simp only [List.map_toArray, List.map_cons, List.map_nil]); first | done | rfl | (simp only [List.length_drop, List.length_take]; rfl)) ?_; (with_reducible refine (postroomlaw3_shown.calls k  t314 _ A4.out).mono ?_); rintro e w7 ⟨rfl, hb⟩; refine ⟨_, rfl, ?_⟩; have n0_ := Aside0.mk (below_step (by repeat (first | (with_reducible first | exact HB.out | apply below_alloc | apply pw_below_drewN | apply below_drew1) | exact HB.out)) hb); clear HB; have HB := n0_; clear n0_; (try clear hb); (try clear hb2); (try clear hk); (try clear hi)) | ((with_reducible refine gate_callee (f := 11) rfl ?_); refine goesL_ (some 17) rfl rfl Tryd.func11 (by kernel_rfl) rfl #[.slice A0 l0.length c0] rfl (by (try simp only [List.map_toArray, List.map_cons, List.map_nil]); first | done | rfl | (simp only [List.length_drop, List.length_take]; rfl)) ?_; (with_reducible refine (postroomlaw3_labelsOf.calls k _ _ l0 t315 _ ?side1 ?side2 A5.out).mono ?_); (case side1 => repeat (first | exact (Kd.C_below HR0.out HB.out) | (with_reducible refine Kd.C_alloc ?_ _) | (with_reducible refine Kd.C_drewN ?_ _) | (with_reducible refine Kd.C_drew ?_))); (case side2 => exact HC0.out); rintro e w8 ⟨v316, rfl, ho0, hb⟩; refine ⟨_, rfl, ?_⟩; have n0_ := Aside0.mk (Kd.R_lower ho0 (below_size (by repeat (first | (with_reducible first | exact HB.out | apply below_alloc | apply pw_below_drewN | apply below_drew1) | exact HB.out)))); have n1_ := Aside0.mk (below_step (by repeat (first | (with_reducible first | exact HB.out | apply below_alloc | apply pw_below_drewN | apply below_drew1) | exact HB.out)) hb); clear HB; have HO317 := n0_; have HB := n1_; clear n0_ n1_; (try clear hb); (try clear hb2); (try clear hk); (try clear hi); (try clear ho0)))
  (try simp only [Act.put, List.setIfInBounds_toArray, List.set_cons_zero, List.set_cons_succ])
  go_cut [24] (fun v24 wc => ∃ (kq : Nat) (x24_5 : Bool), v24 = .bool x24_5 ∧ Aside0 (postroomlaw3_LabelErrs.j0 kq a1 a2 t314 t315 x24_5 = some r) ∧ Aside0 (kq ≤ k) ∧ Aside0 (Kd.R k30 30 wc w.heap.size (fun _ => True) v316 t315) ∧ Aside0 (Below w.heap.size w wc))
  case first =>
    have H := HC6.out
    clear HC6
    by_cases c9 : t314 = true
    · subst c9
      have H1 : (postroomlaw3_LabelErrs.j0 k a1 a2 true t315 ((t315.length : Int) == 0)) = some r := by rw [if_pos rfl] at H; exact H
      clear H
      have H := H1
      clear H1
      have H' := Aside0.mk H
      clear H
      obtain ⟨Ao10, co10, eo10⟩ := Kd.R_slice HO317.out
      subst eo10
      go_wp2
      go_meet
      case rel => exact ⟨_, (((t315.length : Int) == 0)), (by first | rfl | (simp; done) | (simp [*]; done)), H', ⟨by first | omega | exact Nat.le_refl _⟩, ⟨by (with_reducible repeat (first | apply Kd.R_alloc | apply Kd.R_drewN | apply Kd.R_drew)); exact HO317.out⟩, ⟨by repeat (first | (with_reducible first | exact HB.out | apply below_alloc | apply pw_below_drewN | apply below_drew1) | exact HB.out)⟩⟩
    · replace c9 := Bool.eq_false_iff.mpr c9
      subst c9
      have H1 : (postroomlaw3_LabelErrs.j0 k a1 a2 false t315 true) = some r := by rw [if_neg (show ¬ (false = true) by decide)] at H; exact H
      clear H
      have H := H1
      clear H1
      have H' := Aside0.mk H
      clear H
      go_wp2
      go_meet
      case rel => exact ⟨_, (true), (by first | rfl | (simp; done) | (simp [*]; done)), H', ⟨by first | omega | exact Nat.le_refl _⟩, ⟨by (with_reducible repeat (first | apply Kd.R_alloc | apply Kd.R_drewN | apply Kd.R_drew)); exact HO317.out⟩, ⟨by repeat (first | (with_reducible first | exact HB.out | apply below_alloc | apply pw_below_drewN | apply below_drew1) | exact HB.out)⟩⟩
  case rest =>
    clear HC6
    try clear c1
    try clear p2
    try clear c3
    try clear c9
    try clear c10
    obtain ⟨kq, x24_5, rfl, HA, HJ5, HO_8, HB⟩ := hcut
    cases kq with
    | zero => exact absurd HA.out (by simp [postroomlaw3_LabelErrs.j0])
    | succ kj5 =>
      have H := HA.out
      clear HA
      simp only [postroomlaw3_LabelErrs.j0] at H
      by_cases c11 : x24_5 = true
      · subst c11
        have H1 : (some t314) = some r := by rw [if_pos rfl] at H; exact H
        clear H
        have H := H1
        clear H1
        obtain rfl := Option.some.inj H
        go_wp2
        go_ret
        exact ⟨by first | rfl | (simp [errW_none, errW_some] <;> rfl) | (simp [*, errW_none, errW_some] <;> rfl), by repeat (first | (with_reducible first | exact HB.out | apply below_alloc | apply pw_below_drewN | apply below_drew1) | exact HB.out)⟩
      · replace c11 := Bool.eq_false_iff.mpr c11
        subst c11
        have H1 : ((postroomlaw3_pick.f a1 (t315.length : Int)).bind fun t318 => ((postroomlaw3_pick.f a2 4).bind fun t319 => (if t319 = 0 then ((some (([(⟨#[]⟩ : ByteArray), (⟨#[49, 97]⟩ : ByteArray), (⟨#[65]⟩ : ByteArray), (⟨#[97, 32, 98]⟩ : ByteArray), (⟨#[97, 97, 97, 97, 97, 97, 97, 97, 97, 97, 97, 97, 97, 97, 97, 97, 97, 97, 97, 97, 97]⟩ : ByteArray)] : List ByteArray) : List ByteArray)).bind fun y320 => ((postroomlaw3_pick.f (wrap64 (Int.tdiv a2 4)) 5).bind fun t323 => (if 0 ≤ t323 then (if t323 < (y320.length : Int) then (if 0 ≤ t318 then (if t318 < (t315.length : Int) then (postroomlaw3_LabelErrs.j2 kj5 (t315.set (t318 : Int).toNat (⟨rdOf ByteArray.empty y320 t323, (rd_T30 t315 t318).f1⟩ : S30)) 3) else (none)) else (none)) else (none)) else (none)))) else (if t319 = 1 then (if 0 ≤ t318 then (if t318 < (t315.length : Int) then (postroomlaw3_LabelErrs.j2 kj5 (t315.set (t318 : Int).toNat (⟨(rd_T30 t315 t318).f0, (⟨#[48, 49, 50, 51, 52, 53, 54, 55, 56, 57, 48, 49, 50, 51, 52, 53, 54, 55, 56, 57, 48, 49, 50, 51, 52, 53, 54, 55, 56, 57, 48, 49, 50, 51, 52, 53, 54, 55, 56, 57, 33]⟩ : ByteArray)⟩ : S30)) 7) else (none)) else (none)) else (if t319 = 2 then (if 0 ≤ t318 then (if t318 < (t315.length : Int) then ((some (t315.set (t318 : Int).toNat (⟨(⟨#[116, 119, 105, 99, 101]⟩ : ByteArray), (rd_T30 t315 t318).f1⟩ : S30) : List (S30))).bind fun y327 => (if y327.length < 4398046511104 then (postroomlaw3_LabelErrs.j2 kj5 (y327 ++ [(⟨(⟨#[116, 119, 105, 99, 101]⟩ : ByteArray), (⟨#[]⟩ : ByteArray)⟩ : S30)]) 4) else (none))) else (none)) else (none)) else (postroomlaw3_LabelErrs.l0 kj5 t315)))))) = some r := by rw [if_neg (show ¬ (false = true) by decide)] at H; exact H
        clear H
        have H := H1
        clear H1
        replace H := Option.bind_eq_some_iff.mp H
        obtain ⟨t318, A120, H⟩ := H
        replace H : ((postroomlaw3_pick.f a2 4).bind fun t319 => (if t319 = 0 then ((some (([(⟨#[]⟩ : ByteArray), (⟨#[49, 97]⟩ : ByteArray), (⟨#[65]⟩ : ByteArray), (⟨#[97, 32, 98]⟩ : ByteArray), (⟨#[97, 97, 97, 97, 97, 97, 97, 97, 97, 97, 97, 97, 97, 97, 97, 97, 97, 97, 97, 97, 97]⟩ : ByteArray)] : List ByteArray) : List ByteArray)).bind fun y320 => ((postroomlaw3_pick.f (wrap64 (Int.tdiv a2 4)) 5).bind fun t323 => (if 0 ≤ t323 then (if t323 < (y320.length : Int) then (if 0 ≤ t318 then (if t318 < (t315.length : Int) then (postroomlaw3_LabelErrs.j2 kj5 (t315.set (t318 : Int).toNat (⟨rdOf ByteArray.empty y320 t323, (rd_T30 t315 t318).f1⟩ : S30)) 3) else (none)) else (none)) else (none)) else (none)))) else (if t319 = 1 then (if 0 ≤ t318 then (if t318 < (t315.length : Int) then (postroomlaw3_LabelErrs.j2 kj5 (t315.set (t318 : Int).toNat (⟨(rd_T30 t315 t318).f0, (⟨#[48, 49, 50, 51, 52, 53, 54, 55, 56, 57, 48, 49, 50, 51, 52, 53, 54, 55, 56, 57, 48, 49, 50, 51, 52, 53, 54, 55, 56, 57, 48, 49, 50, 51, 52, 53, 54, 55, 56, 57, 33]⟩ : ByteArray)⟩ : S30)) 7) else (none)) else (none)) else (if t319 = 2 then (if 0 ≤ t318 then (if t318 < (t315.length : Int) then ((some (t315.set (t318 : Int).toNat (⟨(⟨#[116, 119, 105, 99, 101]⟩ : ByteArray), (rd_T30 t315 t318).f1⟩ : S30) : List (S30))).bind fun y327 => (if y327.length < 4398046511104 then (postroomlaw3_LabelErrs.j2 kj5 (y327 ++ [(⟨(⟨#[116, 119, 105, 99, 101]⟩ : ByteArray), (⟨#[]⟩ : ByteArray)⟩ : S30)]) 4) else (none))) else (none)) else (none)) else (postroomlaw3_LabelErrs.l0 kj5 t315))))) = some r := H
        have A12 := Aside0.mk A120
        clear A120
        replace H := Option.bind_eq_some_iff.mp H
        obtain ⟨t319, A130, H⟩ := H
        replace H : (if t319 = 0 then ((some (([(⟨#[]⟩ : ByteArray), (⟨#[49, 97]⟩ : ByteArray), (⟨#[65]⟩ : ByteArray), (⟨#[97, 32, 98]⟩ : ByteArray), (⟨#[97, 97, 97, 97, 97, 97, 97, 97, 97, 97, 97, 97, 97, 97, 97, 97, 97, 97, 97, 97, 97]⟩ : ByteArray)] : List ByteArray) : List ByteArray)).bind fun y320 => ((postroomlaw3_pick.f (wrap64 (Int.tdiv a2 4)) 5).bind fun t323 => (if 0 ≤ t323 then (if t323 < (y320.length : Int) then (if 0 ≤ t318 then (if t318 < (t315.length : Int) then (postroomlaw3_LabelErrs.j2 kj5 (t315.set (t318 : Int).toNat (⟨rdOf ByteArray.empty y320 t323, (rd_T30 t315 t318).f1⟩ : S30)) 3) else (none)) else (none)) else (none)) else (none)))) else (if t319 = 1 then (if 0 ≤ t318 then (if t318 < (t315.length : Int) then (postroomlaw3_LabelErrs.j2 kj5 (t315.set (t318 : Int).toNat (⟨(rd_T30 t315 t318).f0, (⟨#[48, 49, 50, 51, 52, 53, 54, 55, 56, 57, 48, 49, 50, 51, 52, 53, 54, 55, 56, 57, 48, 49, 50, 51, 52, 53, 54, 55, 56, 57, 48, 49, 50, 51, 52, 53, 54, 55, 56, 57, 33]⟩ : ByteArray)⟩ : S30)) 7) else (none)) else (none)) else (if t319 = 2 then (if 0 ≤ t318 then (if t318 < (t315.length : Int) then ((some (t315.set (t318 : Int).toNat (⟨(⟨#[116, 119, 105, 99, 101]⟩ : ByteArray), (rd_T30 t315 t318).f1⟩ : S30) : List (S30))).bind fun y327 => (if y327.length < 4398046511104 then (postroomlaw3_LabelErrs.j2 kj5 (y327 ++ [(⟨(⟨#[116, 119, 105, 99, 101]⟩ : ByteArray), (⟨#[]⟩ : ByteArray)⟩ : S30)]) 4) else (none))) else (none)) else (none)) else (postroomlaw3_LabelErrs.l0 kj5 t315)))) = some r := H
        have A13 := Aside0.mk A130
        clear A130
        have HC14 := Aside0.mk H
        clear H
        obtain ⟨Ao15, co15, eo15⟩ := Kd.R_slice HO_8.out
        subst eo15
        go_upto_block 0 with (first | ((with_reducible refine gate_callee (f := 12) rfl ?_); refine goesL_ (some 29) rfl rfl Tryd.func12 (by kernel_rfl) rfl #[.int .i64 a1, .int .i64 (t315.length : Int)] rfl (by (try simp only [List.map_toArray, List.map_cons, List.map_nil]); first | done | rfl | (simp only [List.length_drop, List.length_take]; rfl)) ?_; (with_reducible refine (postroomlaw3_pick.calls a1 (t315.length : Int) t318 _ A12.out).mono ?_); rintro e w' ⟨rfl, ⟨nd, rfl⟩⟩; refine ⟨_, rfl, ?_⟩) | ((with_reducible refine gate_callee (f := 12) rfl ?_); refine goesL_ (some 31) rfl rfl Tryd.func12 (by kernel_rfl) rfl #[.int .i64 a2, .int .i64 4] rfl (by (try simp only [List.map_toArray, List.map_cons, List.map_nil]); first | done | rfl | (simp only [List.length_drop, List.length_take]; rfl)) ?_; (with_reducible refine (postroomlaw3_pick.calls a2 4 t319 _ A13.out).mono ?_); rintro e w' ⟨rfl, ⟨nd, rfl⟩⟩; refine ⟨_, rfl, ?_⟩))
        (try simp only [Act.put, List.setIfInBounds_toArray, List.set_cons_zero, List.set_cons_succ])
        (try (rw [drewN_self wc]; generalize hq_ : World.drewN wc _ = wc; have n0_ := Aside0.mk (Kd.R_at hq_ HO_8.out); have n1_ := Aside0.mk (below_at hq_ HB.out); clear hq_ HO_8 HB; have HO_8 := n0_; have HB := n1_; clear n0_ n1_))
        (try (rw [drewN_self wc]; generalize hq_ : World.drewN wc _ = wc; have n0_ := Aside0.mk (Kd.R_at hq_ HO_8.out); have n1_ := Aside0.mk (below_at hq_ HB.out); clear hq_ HO_8 HB; have HO_8 := n0_; have HB := n1_; clear n0_ n1_))
        go_cut [8, 10] (fun v8 v10 wc => ∃ (kq : Nat) (x8_13 : List (S30)) (x10_13 : Int), v10 = .int .i64 x10_13 ∧ Aside0 (postroomlaw3_LabelErrs.j2 kq x8_13 x10_13 = some r) ∧ Aside0 (kq ≤ kj5) ∧ Aside0 (Kd.R k30 30 wc w.heap.size (fun _ => True) v8 x8_13) ∧ Aside0 (Below w.heap.size w wc))
        case first =>
          have H := HC14.out
          clear HC14
          by_cases c16 : t319 = 0
          · rw [if_pos c16] at H
            have c16b0 : (t319 == 0) = true := beq_iff_eq.mpr c16
            have c16b1 : (t319 != 0) = false := bne_eq_false_iff_eq.mpr c16
            clear c16
            (first | rw [c16b0] | (simp only [i64_w, i32_w]; rw [c16b0]) | skip)
            obtain ⟨y320, hy320⟩ : ∃ y_ : List ByteArray, y_ = (([(⟨#[]⟩ : ByteArray), (⟨#[49, 97]⟩ : ByteArray), (⟨#[65]⟩ : ByteArray), (⟨#[97, 32, 98]⟩ : ByteArray), (⟨#[97, 97, 97, 97, 97, 97, 97, 97, 97, 97, 97, 97, 97, 97, 97, 97, 97, 97, 97, 97, 97]⟩ : ByteArray)] : List ByteArray)) := ⟨_, rfl⟩
            replace H : ((postroomlaw3_pick.f (wrap64 (Int.tdiv a2 4)) 5).bind fun t323 => (if 0 ≤ t323 then (if t323 < (y320.length : Int) then (if 0 ≤ t318 then (if t318 < (t315.length : Int) then (postroomlaw3_LabelErrs.j2 kj5 (t315.set (t318 : Int).toNat (⟨rdOf ByteArray.empty y320 t323, (rd_T30 t315 t318).f1⟩ : S30)) 3) else (none)) else (none)) else (none)) else (none))) = some r := by first | (rw [hy320]; with_reducible exact H) | (have H2_ := (Option.bind_some _ _).symm.trans H; rw [hy320]; with_reducible exact H2_) | (have H2_ := (Option.bind_some _ _).symm.trans H; with_reducible exact H2_) | with_reducible exact H | (rw [hy320]; exact H) | exact H
            have Ny320 := Aside0.mk hy320
            clear hy320
            replace H := Option.bind_eq_some_iff.mp H
            obtain ⟨t323, A170, H⟩ := H
            replace H : (if 0 ≤ t323 then (if t323 < (y320.length : Int) then (if 0 ≤ t318 then (if t318 < (t315.length : Int) then (postroomlaw3_LabelErrs.j2 kj5 (t315.set (t318 : Int).toNat (⟨rdOf ByteArray.empty y320 t323, (rd_T30 t315 t318).f1⟩ : S30)) 3) else (none)) else (none)) else (none)) else (none)) = some r := H
            have A17 := Aside0.mk A170
            clear A170
            by_cases c18 : 0 ≤ t323
            · rw [if_pos c18] at H
              have c18b0 : decide (0 ≤ t323) = true := decide_eq_true c18
              clear c18
              by_cases c19 : t323 < (y320.length : Int)
              · rw [if_pos c19] at H
                have c19b0 : decide (t323 < (y320.length : Int)) = true := decide_eq_true c19
                clear c19
                by_cases c20 : 0 ≤ t318
                · rw [if_pos c20] at H
                  have c20b0 : decide (0 ≤ t318) = true := decide_eq_true c20
                  clear c20
                  by_cases c21 : t318 < (t315.length : Int)
                  · rw [if_pos c21] at H
                    have c21b0 : decide (t318 < (t315.length : Int)) = true := decide_eq_true c21
                    clear c21
                    obtain ⟨y325, hy325⟩ : ∃ y_ : List (S30), y_ = (t315.set (t318 : Int).toNat (⟨rdOf ByteArray.empty y320 t323, (rd_T30 t315 t318).f1⟩ : S30)) := ⟨_, rfl⟩
                    replace H : (postroomlaw3_LabelErrs.j2 kj5 y325 3) = some r := by first | (rw [hy325]; with_reducible exact H) | (have H2_ := (Option.bind_some _ _).symm.trans H; rw [hy325]; with_reducible exact H2_) | (have H2_ := (Option.bind_some _ _).symm.trans H; with_reducible exact H2_) | with_reducible exact H | (rw [hy325]; exact H) | exact H
                    have Ny325 := Aside0.mk hy325
                    clear hy325
                    have H' := Aside0.mk H
                    clear H
                    go_wp2_with (first | ((with_reducible refine gate_dst (N := 43) rfl ?_); (try (refine gate_guard (by rfl) ?_; dsimp only)); refine Kd.R_lit Kd.string _ 9 ?hg (N := 43) ?hd (xs := ([(⟨#[]⟩ : ByteArray), (⟨#[49, 97]⟩ : ByteArray), (⟨#[65]⟩ : ByteArray), (⟨#[97, 32, 98]⟩ : ByteArray), (⟨#[97, 97, 97, 97, 97, 97, 97, 97, 97, 97, 97, 97, 97, 97, 97, 97, 97, 97, 97, 97, 97]⟩ : ByteArray)] : List ByteArray)) (inner := [.string (⟨#[]⟩ : ByteArray), .string (⟨#[49, 97]⟩ : ByteArray), .string (⟨#[65]⟩ : ByteArray), .string (⟨#[97, 32, 98]⟩ : ByteArray), .string (⟨#[97, 97, 97, 97, 97, 97, 97, 97, 97, 97, 97, 97, 97, 97, 97, 97, 97, 97, 97, 97, 97]⟩ : ByteArray)]) (ok := fun _ => True) (okp := fun _ => True) ?hr ?hp (fun _ hk => hk) trivial (Below.refl _ _) (Nat.le_refl _) (by simp) ?_; (case hd => rfl); (case hg => rfl); (case hr => first | (go_simp; done) | (go_simp; rfl)); (case hp => exact (Reps.one (show Kd.M Kd.string _ _ _ (⟨#[]⟩ : ByteArray) [.string (⟨#[]⟩ : ByteArray)] from rfl) (Reps.one (show Kd.M Kd.string _ _ _ (⟨#[49, 97]⟩ : ByteArray) [.string (⟨#[49, 97]⟩ : ByteArray)] from rfl) (Reps.one (show Kd.M Kd.string _ _ _ (⟨#[65]⟩ : ByteArray) [.string (⟨#[65]⟩ : ByteArray)] from rfl) (Reps.one (show Kd.M Kd.string _ _ _ (⟨#[97, 32, 98]⟩ : ByteArray) [.string (⟨#[97, 32, 98]⟩ : ByteArray)] from rfl) (Reps.one (show Kd.M Kd.string _ _ _ (⟨#[97, 97, 97, 97, 97, 97, 97, 97, 97, 97, 97, 97, 97, 97, 97, 97, 97, 97, 97, 97, 97]⟩ : ByteArray) [.string (⟨#[97, 97, 97, 97, 97, 97, 97, 97, 97, 97, 97, 97, 97, 97, 97, 97, 97, 97, 97, 97, 97]⟩ : ByteArray)] from rfl) (Reps.none _ _))))))); intro v321 w23 ho24 hb hg_ hnew_; clear hg_ hnew_; (first | rw [← Ny320.out] at ho24 | (simp only [Int.reduceToNat] at ho24; rw [← Ny320.out] at ho24)); have n0_ := Aside0.mk (Kd.R_below (by (with_reducible repeat (first | apply Kd.R_alloc | apply Kd.R_drewN | apply Kd.R_drew)); exact HO_8.out) hb); have n1_ := Aside0.mk (Kd.R_lower ho24 (below_size (by repeat (first | (with_reducible first | exact HB.out | apply below_alloc | apply pw_below_drewN | apply below_drew1) | exact HB.out)))); have n2_ := Aside0.mk (below_step (by repeat (first | (with_reducible first | exact HB.out | apply below_alloc | apply pw_below_drewN | apply below_drew1) | exact HB.out)) hb); clear HO_8; clear HB; have HO_8 := n0_; have HO322 := n1_; have HB := n2_; clear n0_ n1_ n2_; clear hb ho24) | ((with_reducible refine gate_callee (f := 12) rfl ?_); refine goesL_ (some 46) rfl rfl Tryd.func12 (by kernel_rfl) rfl #[.int .i64 (wrap64 (Int.tdiv a2 4)), .int .i64 5] rfl (by (try simp only [List.map_toArray, List.map_cons, List.map_nil]); first | done | rfl | (simp only [List.length_drop, List.length_take]; rfl)) ?_; (with_reducible refine (postroomlaw3_pick.calls (wrap64 (Int.tdiv a2 4)) 5 t323 _ A17.out).mono ?_); rintro e w' ⟨rfl, ⟨nd, rfl⟩⟩; refine ⟨_, rfl, ?_⟩; (try (rw [drewN_self w23]; generalize hq_ : World.drewN w23 _ = w23; have n0_ : Aside0 (Kd.R Kd.string 9 w23 w.heap.size (fun _ => True) v321 y320) := ⟨by rw [← hq_]; exact (by (with_reducible repeat (first | apply Kd.R_alloc | apply Kd.R_drewN | apply Kd.R_drew)); exact HO322.out)⟩; have n1_ : Aside0 (Kd.R k30 30 w23 w.heap.size (fun _ => True) (.slice Ao15 t315.length co15) t315) := ⟨by rw [← hq_]; exact (by (with_reducible repeat (first | apply Kd.R_alloc | apply Kd.R_drewN | apply Kd.R_drew)); exact HO_8.out)⟩; have n2_ : Aside0 (Below w.heap.size w w23) := ⟨by rw [← hq_]; exact (by repeat (first | (with_reducible first | exact HB.out | apply below_alloc | apply pw_below_drewN | apply below_drew1) | exact HB.out))⟩; clear HO322 HO_8 HB hq_; have HO322 := n0_; have HO_8 := n1_; have HB := n2_; clear n0_ n1_ n2_)); obtain ⟨Ao25, co25, eo25⟩ := Kd.R_slice HO322.out; subst eo25; have p324 : 0 ≤ (t323 : Int) := of_decide_eq_true (by first | (with_reducible assumption) | assumption); have q324 : t323 < (y320.length : Int) := of_decide_eq_true (by first | (with_reducible assumption) | assumption); obtain ⟨ad324, e324, hx324_0⟩ := Kd.at_string (Kd.R_reads' HO322.out).2.2 t323 p324 q324; cases e324; replace p324 := eq_true p324; replace q324 := eq_true q324; have p22 : 0 ≤ (t318 : Int) := of_decide_eq_true (by first | (with_reducible assumption) | assumption); have q22 : (t318 : Int) < ((t315.length : Int) : Int) := of_decide_eq_true (by first | (with_reducible assumption) | assumption); obtain ⟨go22, co22, eo22, gb22, gl22, cl22, HG22⟩ := Kd.R_form HO_8.out (by omega); (first | cases eo22 | (injection eo22 with ea_ en_ ec_; (first | subst ea_ | (injection ea_ with ea_; subst ea_)); subst ec_; clear en_)); have GB22 := Aside0.mk gb22; have GG22 := Aside0.mk HG22; clear gb22 gl22 HG22; obtain ⟨ce22, hcl22, hM22, hcc22, hfr22⟩ := Kd.R_elem HO_8.out z30 (t318 : Int) p22 q22; obtain rfl := k30_openM hM22; have hx22_0 : w23.cell? ⟨go22, (t318 : Int).toNat * 2, none⟩ = some (.string ((rd_T30 t315 t318).f0)) := hcc22 0 _ rfl; have hx22_1 : w23.cell? ⟨go22, (t318 : Int).toNat * 2 + 1, none⟩ = some (.string ((rd_T30 t315 t318).f1)) := hcc22 1 _ rfl; have hf22_0 : w23.frozen? ⟨go22, (t318 : Int).toNat * 2, none⟩ = false := hfr22 0; have hf22_1 : w23.frozen? ⟨go22, (t318 : Int).toNat * 2 + 1, none⟩ = false := hfr22 1; clear hcl22 hcc22 hfr22 hM22; replace p22 := eq_true p22; replace q22 := eq_true q22; have HX26 := Aside0.mk (show Kd.R k30 30 w23 w.heap.size (fun _ => True) (.slice (some ⟨go22, 0, none⟩) t315.length co15) t315 from (by (with_reducible repeat (first | apply Kd.R_alloc | apply Kd.R_drewN | apply Kd.R_drew)); exact HO_8.out)); obtain ⟨ce26, hcl26, hM26, hcc26, hfr26⟩ := Kd.R_elem HX26.out z30 (t318 : Int) (of_decide_eq_true (by first | (with_reducible assumption) | assumption)) (by have h_ : (t318 : Int) < ((t315.length : Int) : Int) := of_decide_eq_true (by first | (with_reducible assumption) | assumption); first | exact h_ | (have e_ := (Kd.R_reads' HO_8.out).1; omega) | simpa using h_); obtain rfl := k30_openM hM26; have HP26 := Kd.R_seg HX26.out (t318 : Int) (of_decide_eq_true (by first | (with_reducible assumption) | assumption)) (by have h_ : (t318 : Int) < ((t315.length : Int) : Int) := of_decide_eq_true (by first | (with_reducible assumption) | assumption); first | exact h_ | (have e_ := (Kd.R_reads' HO_8.out).1; omega) | simpa using h_) (seg := [.string (rdOf ByteArray.empty y320 t323)]) (j := 0) hcl26 hcc26 (show 1 ≤ 2 from by decide) (x' := (⟨rdOf ByteArray.empty y320 t323, (rd_T30 t315 t318).f1⟩ : S30)) (k30_mkM _ _ _ (⟨rdOf ByteArray.empty y320 t323, (rd_T30 t315 t318).f1⟩ : S30) ) (fun _ hk => hk); have hx26_0 := hcc26 0 _ rfl; (try simp only [show (k30).sz = 2 from rfl, Nat.mul_one, Nat.add_zero] at hx26_0); have hf26_0 := hfr26 0; (try simp only [show (k30).sz = 2 from rfl, Nat.mul_one, Nat.add_zero] at hf26_0); clear hcl26 hcc26 hfr26 hM26) | ((with_reducible refine gate_store (t := 9) (p := 50) rfl ?_); refine store_event (t := 9) (p := 50) (v := ?vo_w27) (w1 := (w23.setCell ⟨go22, (t318 : Int).toNat * 2, none⟩ (.string (rdOf ByteArray.empty y320 t323)))) ?hg ?ho ?hn ?hr ?_; (case ho => rfl); (case hg => rfl); (case hn => rfl); (case hr => first | (go_simp; done) | (go_simp; rfl)); intro w27 hw; have hg : w23.grownBy w27 (some go22) := (by rw [hw]; exact HP26.2); have hp_ : Kd.R k30 30 w27 w.heap.size (fun _ => True) (.slice (some ⟨go22, 0, none⟩) t315.length co15) y325 := (by rw [hw, Ny325.out]; exact HP26.1); clear HP26; have n0_ := Aside0.mk (hp_); have n1_ := Aside0.mk (Kd.R_over' (v := (.slice (some ⟨go22, 0, none⟩) t315.length co15)) (by (with_reducible repeat (first | apply Kd.R_alloc | apply Kd.R_drewN | apply Kd.R_drew)); exact HO322.out) (Kd.R_typed HO_8.out) (by decide) hg); have n2_ := Aside0.mk ((by rw [hw]; exact below_set (HB.out) GB22.out : Below w.heap.size w w27)); clear HO_8; clear HO322; clear HB; have HO_8 := n0_; have HO322 := n1_; have HB := n2_; clear n0_ n1_ n2_; clear hg hw hp_))
                    go_meet
                    case rel => exact ⟨_, (y325), (3), (by first | rfl | (simp; done) | (simp [*]; done)), H', ⟨by have := HJ5.out; first | omega | exact Nat.le_refl _⟩, ⟨by (with_reducible repeat (first | apply Kd.R_alloc | apply Kd.R_drewN | apply Kd.R_drew)); exact HO_8.out⟩, ⟨by repeat (first | (with_reducible first | exact HB.out | apply below_alloc | apply pw_below_drewN | apply below_drew1) | exact HB.out)⟩⟩
                  · rw [if_neg c21] at H
                    exact absurd H (by simp)
                · rw [if_neg c20] at H
                  exact absurd H (by simp)
              · rw [if_neg c19] at H
                exact absurd H (by simp)
            · rw [if_neg c18] at H
              exact absurd H (by simp)
          · rw [if_neg c16] at H
            have c16b0 : (t319 == 0) = false := beq_eq_false_iff_ne.mpr c16
            have c16b1 : (t319 != 0) = true := bne_iff_ne.mpr c16
            (first | rw [c16b0] | (simp only [i64_w, i32_w]; rw [c16b0]) | skip)
            by_cases c28 : t319 = 1
            · rw [if_pos c28] at H
              have c28b0 : (t319 == 1) = true := beq_iff_eq.mpr c28
              have c28b1 : (t319 != 1) = false := bne_eq_false_iff_eq.mpr c28
              clear c28
              by_cases c29 : 0 ≤ t318
              · rw [if_pos c29] at H
                have c29b0 : decide (0 ≤ t318) = true := decide_eq_true c29
                clear c29
                by_cases c30 : t318 < (t315.length : Int)
                · rw [if_pos c30] at H
                  have c30b0 : decide (t318 < (t315.length : Int)) = true := decide_eq_true c30
                  clear c30
                  obtain ⟨y326, hy326⟩ : ∃ y_ : List (S30), y_ = (t315.set (t318 : Int).toNat (⟨(rd_T30 t315 t318).f0, (⟨#[48, 49, 50, 51, 52, 53, 54, 55, 56, 57, 48, 49, 50, 51, 52, 53, 54, 55, 56, 57, 48, 49, 50, 51, 52, 53, 54, 55, 56, 57, 48, 49, 50, 51, 52, 53, 54, 55, 56, 57, 33]⟩ : ByteArray)⟩ : S30)) := ⟨_, rfl⟩
                  replace H : (postroomlaw3_LabelErrs.j2 kj5 y326 7) = some r := by first | (rw [hy326]; with_reducible exact H) | (have H2_ := (Option.bind_some _ _).symm.trans H; rw [hy326]; with_reducible exact H2_) | (have H2_ := (Option.bind_some _ _).symm.trans H; with_reducible exact H2_) | with_reducible exact H | (rw [hy326]; exact H) | exact H
                  have Ny326 := Aside0.mk hy326
                  clear hy326
                  have H' := Aside0.mk H
                  clear H
                  have p31 : 0 ≤ (t318 : Int) := of_decide_eq_true (by first | (with_reducible assumption) | assumption)
                  have q31 : (t318 : Int) < ((t315.length : Int) : Int) := of_decide_eq_true (by first | (with_reducible assumption) | assumption)
                  obtain ⟨go31, co31, eo31, gb31, gl31, cl31, HG31⟩ := Kd.R_form HO_8.out (by omega)
                  (first | cases eo31 | (injection eo31 with ea_ en_ ec_; (first | subst ea_ | (injection ea_ with ea_; subst ea_)); subst ec_; clear en_))
                  have GB31 := Aside0.mk gb31
                  have GG31 := Aside0.mk HG31
                  clear gb31 gl31 HG31
                  obtain ⟨ce31, hcl31, hM31, hcc31, hfr31⟩ := Kd.R_elem HO_8.out z30 (t318 : Int) p31 q31
                  obtain rfl := k30_openM hM31
                  have hx31_0 : wc.cell? ⟨go31, (t318 : Int).toNat * 2, none⟩ = some (.string ((rd_T30 t315 t318).f0)) := hcc31 0 _ rfl
                  have hx31_1 : wc.cell? ⟨go31, (t318 : Int).toNat * 2 + 1, none⟩ = some (.string ((rd_T30 t315 t318).f1)) := hcc31 1 _ rfl
                  have hf31_0 : wc.frozen? ⟨go31, (t318 : Int).toNat * 2, none⟩ = false := hfr31 0
                  have hf31_1 : wc.frozen? ⟨go31, (t318 : Int).toNat * 2 + 1, none⟩ = false := hfr31 1
                  clear hcl31 hcc31 hfr31 hM31
                  replace p31 := eq_true p31
                  replace q31 := eq_true q31
                  have HX32 := Aside0.mk (show Kd.R k30 30 wc w.heap.size (fun _ => True) (.slice (some ⟨go31, 0, none⟩) t315.length co15) t315 from (by (with_reducible repeat (first | apply Kd.R_alloc | apply Kd.R_drewN | apply Kd.R_drew)); exact HO_8.out))
                  obtain ⟨ce32, hcl32, hM32, hcc32, hfr32⟩ := Kd.R_elem HX32.out z30 (t318 : Int) (of_decide_eq_true (by first | (with_reducible assumption) | assumption)) (by have h_ : (t318 : Int) < ((t315.length : Int) : Int) := of_decide_eq_true (by first | (with_reducible assumption) | assumption); first | exact h_ | (have e_ := (Kd.R_reads' HO_8.out).1; omega) | simpa using h_)
                  obtain rfl := k30_openM hM32
                  have HP32 := Kd.R_seg HX32.out (t318 : Int) (of_decide_eq_true (by first | (with_reducible assumption) | assumption)) (by have h_ : (t318 : Int) < ((t315.length : Int) : Int) := of_decide_eq_true (by first | (with_reducible assumption) | assumption); first | exact h_ | (have e_ := (Kd.R_reads' HO_8.out).1; omega) | simpa using h_) (seg := [.string (⟨#[48, 49, 50, 51, 52, 53, 54, 55, 56, 57, 48, 49, 50, 51, 52, 53, 54, 55, 56, 57, 48, 49, 50, 51, 52, 53, 54, 55, 56, 57, 48, 49, 50, 51, 52, 53, 54, 55, 56, 57, 33]⟩ : ByteArray)]) (j := 1) hcl32 hcc32 (show 2 ≤ 2 from by decide) (x' := (⟨(rd_T30 t315 t318).f0, (⟨#[48, 49, 50, 51, 52, 53, 54, 55, 56, 57, 48, 49, 50, 51, 52, 53, 54, 55, 56, 57, 48, 49, 50, 51, 52, 53, 54, 55, 56, 57, 48, 49, 50, 51, 52, 53, 54, 55, 56, 57, 33]⟩ : ByteArray)⟩ : S30)) (k30_mkM _ _ _ (⟨(rd_T30 t315 t318).f0, (⟨#[48, 49, 50, 51, 52, 53, 54, 55, 56, 57, 48, 49, 50, 51, 52, 53, 54, 55, 56, 57, 48, 49, 50, 51, 52, 53, 54, 55, 56, 57, 48, 49, 50, 51, 52, 53, 54, 55, 56, 57, 33]⟩ : ByteArray)⟩ : S30) ) (fun _ hk => hk)
                  have hx32_1 := hcc32 1 _ rfl
                  (try simp only [show (k30).sz = 2 from rfl, Nat.mul_one, Nat.add_zero] at hx32_1)
                  have hf32_1 := hfr32 1
                  (try simp only [show (k30).sz = 2 from rfl, Nat.mul_one, Nat.add_zero] at hf32_1)
                  clear hcl32 hcc32 hfr32 hM32
                  go_wp2_with (first | ((with_reducible refine gate_store (t := 9) (p := 56) rfl ?_); refine store_event (t := 9) (p := 56) (v := ?vo_w33) (w1 := (wc.setCell ⟨go31, (t318 : Int).toNat * 2 + 1, none⟩ (.string (⟨#[48, 49, 50, 51, 52, 53, 54, 55, 56, 57, 48, 49, 50, 51, 52, 53, 54, 55, 56, 57, 48, 49, 50, 51, 52, 53, 54, 55, 56, 57, 48, 49, 50, 51, 52, 53, 54, 55, 56, 57, 33]⟩ : ByteArray)))) ?hg ?ho ?hn ?hr ?_; (case ho => rfl); (case hg => rfl); (case hn => rfl); (case hr => first | (go_simp; done) | (go_simp; rfl)); intro w33 hw; have hg : wc.grownBy w33 (some go31) := (by rw [hw]; exact HP32.2); have hp_ : Kd.R k30 30 w33 w.heap.size (fun _ => True) (.slice (some ⟨go31, 0, none⟩) t315.length co15) y326 := (by rw [hw, Ny326.out]; exact HP32.1); clear HP32; have n0_ := Aside0.mk (hp_); have n1_ := Aside0.mk ((by rw [hw]; exact below_set (HB.out) GB31.out : Below w.heap.size w w33)); clear HO_8; clear HB; have HO_8 := n0_; have HB := n1_; clear n0_ n1_; clear hg hw hp_))
                  go_meet
                  case rel => exact ⟨_, (y326), (7), (by first | rfl | (simp; done) | (simp [*]; done)), H', ⟨by have := HJ5.out; first | omega | exact Nat.le_refl _⟩, ⟨by (with_reducible repeat (first | apply Kd.R_alloc | apply Kd.R_drewN | apply Kd.R_drew)); exact HO_8.out⟩, ⟨by repeat (first | (with_reducible first | exact HB.out | apply below_alloc | apply pw_below_drewN | apply below_drew1) | exact HB.out)⟩⟩
                · rw [if_neg c30] at H
                  exact absurd H (by simp)
              · rw [if_neg c29] at H
                exact absurd H (by simp)
            · rw [if_neg c28] at H
              have c28b0 : (t319 == 1) = false := beq_eq_false_iff_ne.mpr c28
              have c28b1 : (t319 != 1) = true := bne_iff_ne.mpr c28
              by_cases c34 : t319 = 2
              · rw [if_pos c34] at H
                have c34b0 : (t319 == 2) = true := beq_iff_eq.mpr c34
                have c34b1 : (t319 != 2) = false := bne_eq_false_iff_eq.mpr c34
                clear c34
                by_cases c35 : 0 ≤ t318
                · rw [if_pos c35] at H
                  have c35b0 : decide (0 ≤ t318) = true := decide_eq_true c35
                  clear c35
                  by_cases c36 : t318 < (t315.length : Int)
                  · rw [if_pos c36] at H
                    have c36b0 : decide (t318 < (t315.length : Int)) = true := decide_eq_true c36
                    clear c36
                    obtain ⟨y327, hy327⟩ : ∃ y_ : List (S30), y_ = (t315.set (t318 : Int).toNat (⟨(⟨#[116, 119, 105, 99, 101]⟩ : ByteArray), (rd_T30 t315 t318).f1⟩ : S30)) := ⟨_, rfl⟩
                    replace H : (if y327.length < 4398046511104 then (postroomlaw3_LabelErrs.j2 kj5 (y327 ++ [(⟨(⟨#[116, 119, 105, 99, 101]⟩ : ByteArray), (⟨#[]⟩ : ByteArray)⟩ : S30)]) 4) else (none)) = some r := by first | (rw [hy327]; with_reducible exact H) | (have H2_ := (Option.bind_some _ _).symm.trans H; rw [hy327]; with_reducible exact H2_) | (have H2_ := (Option.bind_some _ _).symm.trans H; with_reducible exact H2_) | with_reducible exact H | (rw [hy327]; exact H) | exact H
                    have Ny327 := Aside0.mk hy327
                    clear hy327
                    by_cases c38 : y327.length < 4398046511104
                    · rw [if_pos c38] at H
                      have LMc38 := Aside0.mk c38
                      clear c38
                      obtain ⟨y328, hy328⟩ : ∃ y_ : List (S30), y_ = (y327 ++ [(⟨(⟨#[116, 119, 105, 99, 101]⟩ : ByteArray), (⟨#[]⟩ : ByteArray)⟩ : S30)]) := ⟨_, rfl⟩
                      replace H : (postroomlaw3_LabelErrs.j2 kj5 y328 4) = some r := by first | (rw [hy328]; with_reducible exact H) | (have H2_ := (Option.bind_some _ _).symm.trans H; rw [hy328]; with_reducible exact H2_) | (have H2_ := (Option.bind_some _ _).symm.trans H; with_reducible exact H2_) | with_reducible exact H | (rw [hy328]; exact H) | exact H
                      have Ny328 := Aside0.mk hy328
                      clear hy328
                      have H' := Aside0.mk H
                      clear H
                      have p37 : 0 ≤ (t318 : Int) := of_decide_eq_true (by first | (with_reducible assumption) | assumption)
                      have q37 : (t318 : Int) < ((t315.length : Int) : Int) := of_decide_eq_true (by first | (with_reducible assumption) | assumption)
                      obtain ⟨go37, co37, eo37, gb37, gl37, cl37, HG37⟩ := Kd.R_form HO_8.out (by omega)
                      (first | cases eo37 | (injection eo37 with ea_ en_ ec_; (first | subst ea_ | (injection ea_ with ea_; subst ea_)); subst ec_; clear en_))
                      have GB37 := Aside0.mk gb37
                      have GG37 := Aside0.mk HG37
                      clear gb37 gl37 HG37
                      obtain ⟨ce37, hcl37, hM37, hcc37, hfr37⟩ := Kd.R_elem HO_8.out z30 (t318 : Int) p37 q37
                      obtain rfl := k30_openM hM37
                      have hx37_0 : wc.cell? ⟨go37, (t318 : Int).toNat * 2, none⟩ = some (.string ((rd_T30 t315 t318).f0)) := hcc37 0 _ rfl
                      have hx37_1 : wc.cell? ⟨go37, (t318 : Int).toNat * 2 + 1, none⟩ = some (.string ((rd_T30 t315 t318).f1)) := hcc37 1 _ rfl
                      have hf37_0 : wc.frozen? ⟨go37, (t318 : Int).toNat * 2, none⟩ = false := hfr37 0
                      have hf37_1 : wc.frozen? ⟨go37, (t318 : Int).toNat * 2 + 1, none⟩ = false := hfr37 1
                      clear hcl37 hcc37 hfr37 hM37
                      replace p37 := eq_true p37
                      replace q37 := eq_true q37
                      have HX39 := Aside0.mk (show Kd.R k30 30 wc w.heap.size (fun _ => True) (.slice (some ⟨go37, 0, none⟩) t315.length co15) t315 from (by (with_reducible repeat (first | apply Kd.R_alloc | apply Kd.R_drewN | apply Kd.R_drew)); exact HO_8.out))
                      obtain ⟨ce39, hcl39, hM39, hcc39, hfr39⟩ := Kd.R_elem HX39.out z30 (t318 : Int) (of_decide_eq_true (by first | (with_reducible assumption) | assumption)) (by have h_ : (t318 : Int) < ((t315.length : Int) : Int) := of_decide_eq_true (by first | (with_reducible assumption) | assumption); first | exact h_ | (have e_ := (Kd.R_reads' HO_8.out).1; omega) | simpa using h_)
                      obtain rfl := k30_openM hM39
                      have HP39 := Kd.R_seg HX39.out (t318 : Int) (of_decide_eq_true (by first | (with_reducible assumption) | assumption)) (by have h_ : (t318 : Int) < ((t315.length : Int) : Int) := of_decide_eq_true (by first | (with_reducible assumption) | assumption); first | exact h_ | (have e_ := (Kd.R_reads' HO_8.out).1; omega) | simpa using h_) (seg := [.string (⟨#[116, 119, 105, 99, 101]⟩ : ByteArray)]) (j := 0) hcl39 hcc39 (show 1 ≤ 2 from by decide) (x' := (⟨(⟨#[116, 119, 105, 99, 101]⟩ : ByteArray), (rd_T30 t315 t318).f1⟩ : S30)) (k30_mkM _ _ _ (⟨(⟨#[116, 119, 105, 99, 101]⟩ : ByteArray), (rd_T30 t315 t318).f1⟩ : S30) ) (fun _ hk => hk)
                      have hx39_0 := hcc39 0 _ rfl
                      (try simp only [show (k30).sz = 2 from rfl, Nat.mul_one, Nat.add_zero] at hx39_0)
                      have hf39_0 := hfr39 0
                      (try simp only [show (k30).sz = 2 from rfl, Nat.mul_one, Nat.add_zero] at hf39_0)
                      clear hcl39 hcc39 hfr39 hM39
                      go_wp2_with (first | ((with_reducible refine gate_store (t := 9) (p := 62) rfl ?_); refine store_event (t := 9) (p := 62) (v := ?vo_w40) (w1 := (wc.setCell ⟨go37, (t318 : Int).toNat * 2, none⟩ (.string (⟨#[116, 119, 105, 99, 101]⟩ : ByteArray)))) ?hg ?ho ?hn ?hr ?_; (case ho => rfl); (case hg => rfl); (case hn => rfl); (case hr => first | (go_simp; done) | (go_simp; rfl)); intro w40 hw; have hg : wc.grownBy w40 (some go37) := (by rw [hw]; exact HP39.2); have hp_ : Kd.R k30 30 w40 w.heap.size (fun _ => True) (.slice (some ⟨go37, 0, none⟩) t315.length co15) y327 := (by rw [hw, Ny327.out]; exact HP39.1); clear HP39; have n0_ := Aside0.mk (hp_); have n1_ := Aside0.mk ((by rw [hw]; exact below_set (HB.out) GB37.out : Below w.heap.size w w40)); clear HO_8; clear HB; have HO_8 := n0_; have HB := n1_; clear n0_ n1_; clear hg hw hp_) | ((with_reducible refine gate_builtin (b := .append) (xs := #[.tmp 63, .tmp 65]) rfl ?_); (try (refine gate_guard (by rfl) ?_; dsimp only)); at_builtin; refine Kd.R_append k30 (w0 := w) w.heap.size rfl (.tmp 63) (.tmp 65) 24 30 (.agg #[(.string ⟨#[]⟩), (.string ⟨#[]⟩)]) 32 rfl Tryd.underlying24 info30 rfl (by decide) (by omega) (.slice (some ⟨go37, 0, none⟩) t315.length co15) y327 (⟨(⟨#[116, 119, 105, 99, 101]⟩ : ByteArray), (⟨#[]⟩ : ByteArray)⟩ : S30) [.string (⟨#[116, 119, 105, 99, 101]⟩ : ByteArray), .string (⟨#[]⟩ : ByteArray)] (fun _ => True) (fun _ => False) rfl rfl ?aP (fun _ hk => hk.elim) ?aF ?aO ?aB ?aS ?aL ?_; (case aP => exact k30_mkM _ _ _ (⟨(⟨#[116, 119, 105, 99, 101]⟩ : ByteArray), (⟨#[]⟩ : ByteArray)⟩ : S30)); (case aB => exact (by repeat (first | (with_reducible first | exact HB.out | apply below_alloc | apply pw_below_drewN | apply below_drew1) | exact HB.out))); (case aF => exact (fun _ _ => trivial)); (case aO => exact (by (with_reducible repeat (first | apply Kd.R_alloc | apply Kd.R_drewN | apply Kd.R_drew)); exact HO_8.out)); (case aS => exact (below_size (by repeat (first | (with_reducible first | exact HB.out | apply below_alloc | apply pw_below_drewN | apply below_drew1) | exact HB.out)))); (case aL => have := LMc38.out; omega); intro v329 w41 ho hb hg hat; rw [← Ny328.out] at ho; have n0_ := Aside0.mk (hb); have n1_ := Aside0.mk (ho); clear HB; clear HO_8; have HB := n0_; have HO330 := n1_; clear n0_ n1_; clear ho hb hg hat))
                      go_meet
                      case rel => exact ⟨_, (y328), (4), (by first | rfl | (simp; done) | (simp [*]; done)), H', ⟨by have := HJ5.out; first | omega | exact Nat.le_refl _⟩, ⟨by (with_reducible repeat (first | apply Kd.R_alloc | apply Kd.R_drewN | apply Kd.R_drew)); exact HO330.out⟩, ⟨by repeat (first | (with_reducible first | exact HB.out | apply below_alloc | apply pw_below_drewN | apply below_drew1) | exact HB.out)⟩⟩
                    · rw [if_neg c38] at H
                      exact absurd H (by simp)
                  · rw [if_neg c36] at H
                    exact absurd H (by simp)
                · rw [if_neg c35] at H
                  exact absurd H (by simp)
              · rw [if_neg c34] at H
                have c34b0 : (t319 == 2) = false := beq_eq_false_iff_ne.mpr c34
                have c34b1 : (t319 != 2) = true := bne_iff_ne.mpr c34
                have H' := Aside0.mk H
                clear H
                go_wp2
                go_loopg [8] kj5 (fun kq v8 w' => ∃ (x8_2 : List (S30)), Aside0 (postroomlaw3_LabelErrs.l0 kq x8_2 = some r) ∧ Aside0 (kq ≤ kj5) ∧ Aside0 (Kd.R k30 30 w' w.heap.size (fun _ => True) v8 x8_2) ∧ Aside0 (Below w.heap.size w w'))
                case atStart => exact ⟨(t315), H', ⟨Nat.le_refl _⟩, ⟨by (with_reducible repeat (first | apply Kd.R_alloc | apply Kd.R_drewN | apply Kd.R_drew)); exact HO_8.out⟩, ⟨by repeat (first | (with_reducible first | exact HB.out | apply below_alloc | apply pw_below_drewN | apply below_drew1) | exact HB.out)⟩⟩
                case round =>
                  clear H'
                  try clear c1
                  try clear c2
                  try clear p2
                  try clear q2
                  try clear hx2
                  try clear c3
                  try clear p3
                  try clear q3
                  try clear hx3
                  try clear hf3
                  try clear p6
                  try clear c9
                  try clear c10
                  try clear c11
                  try clear c12
                  try clear c16
                  try clear c16b0
                  try clear c16b1
                  try clear c18
                  try clear c18b0
                  try clear c19
                  try clear c19b0
                  try clear c20
                  try clear c20b0
                  try clear c21
                  try clear c21b0
                  try clear c22
                  try clear p22
                  try clear q22
                  try clear hx22
                  try clear hf22
                  try clear c26
                  try clear hx26
                  try clear hf26
                  try clear c28
                  try clear c28b0
                  try clear c28b1
                  try clear c29
                  try clear c29b0
                  try clear c30
                  try clear c30b0
                  try clear c31
                  try clear p31
                  try clear q31
                  try clear hx31
                  try clear hf31
                  try clear c32
                  try clear p32
                  try clear q32
                  try clear hx32
                  try clear hf32
                  try clear c34
                  try clear c34b0
                  try clear c34b1
                  try clear c35
                  try clear c35b0
                  try clear c36
                  try clear c36b0
                  try clear c37
                  try clear p37
                  try clear q37
                  try clear hx37
                  try clear hf37
                  try clear c38
                  try clear c39
                  try clear hx39
                  try clear hf39
                  try clear hx22_0
                  try clear hx22_1
                  try clear hx26_0
                  try clear hx31_0
                  try clear hx31_1
                  try clear hx324_0
                  try clear hx32_1
                  try clear hx37_0
                  try clear hx37_1
                  try clear hx39_0
                  try clear p2
                  try clear p22
                  try clear p31
                  try clear p324
                  try clear p37
                  try clear q22
                  try clear q31
                  try clear q324
                  try clear q37
                  obtain ⟨x8_2, HA, HK2, HO_8, HB⟩ := hrel
                  cases gk with
                  | zero => exact absurd HA.out (by simp [postroomlaw3_LabelErrs.l0])
                  | succ k2 =>
                    have H := HA.out
                    clear HA
                    simp only [postroomlaw3_LabelErrs.l0] at H
                    by_cases c42 : (x8_2.length : Int) < 9
                    · rw [if_pos c42] at H
                      have c42b0 : decide ((x8_2.length : Int) < 9) = true := decide_eq_true c42
                      have c42b1 : decide (x8_2.length < 9) = true := decide_eq_true (by omega)
                      clear c42
                      by_cases c43 : x8_2.length < 4398046511104
                      · rw [if_pos c43] at H
                        have LMc43 := Aside0.mk c43
                        clear c43
                        obtain ⟨y331, hy331⟩ : ∃ y_ : List (S30), y_ = (x8_2 ++ [(⟨(⟨#[]⟩ : ByteArray), (⟨#[]⟩ : ByteArray)⟩ : S30)]) := ⟨_, rfl⟩
                        replace H : (postroomlaw3_LabelErrs.l0 k2 y331) = some r := by first | (rw [hy331]; with_reducible exact H) | (have H2_ := (Option.bind_some _ _).symm.trans H; rw [hy331]; with_reducible exact H2_) | (have H2_ := (Option.bind_some _ _).symm.trans H; with_reducible exact H2_) | with_reducible exact H | (rw [hy331]; exact H) | exact H
                        have Ny331 := Aside0.mk hy331
                        clear hy331
                        have H' := Aside0.mk H
                        clear H
                        obtain ⟨Ao44, co44, eo44⟩ := Kd.R_slice HO_8.out
                        subst eo44
                        go_wp2_with (first | ((with_reducible refine gate_builtin (b := .append) (xs := #[.tmp 35, .tmp 37]) rfl ?_); (try (refine gate_guard (by rfl) ?_; dsimp only)); at_builtin; refine Kd.R_append k30 (w0 := w) w.heap.size rfl (.tmp 35) (.tmp 37) 24 30 (.agg #[(.string ⟨#[]⟩), (.string ⟨#[]⟩)]) 32 rfl Tryd.underlying24 info30 rfl (by decide) (by omega) (.slice Ao44 x8_2.length co44) x8_2 (⟨(⟨#[]⟩ : ByteArray), (⟨#[]⟩ : ByteArray)⟩ : S30) [.string (⟨#[]⟩ : ByteArray), .string (⟨#[]⟩ : ByteArray)] (fun _ => True) (fun _ => False) rfl rfl ?aP (fun _ hk => hk.elim) ?aF ?aO ?aB ?aS ?aL ?_; (case aP => exact k30_mkM _ _ _ (⟨(⟨#[]⟩ : ByteArray), (⟨#[]⟩ : ByteArray)⟩ : S30)); (case aB => exact (by repeat (first | (with_reducible first | exact HB.out | apply below_alloc | apply pw_below_drewN | apply below_drew1) | exact HB.out))); (case aF => exact (fun _ _ => trivial)); (case aO => exact (by (with_reducible repeat (first | apply Kd.R_alloc | apply Kd.R_drewN | apply Kd.R_drew)); exact HO_8.out)); (case aS => exact (below_size (by repeat (first | (with_reducible first | exact HB.out | apply below_alloc | apply pw_below_drewN | apply below_drew1) | exact HB.out)))); (case aL => have := LMc43.out; omega); intro v332 w45 ho hb hg hat; rw [← Ny331.out] at ho; have n0_ := Aside0.mk (hb); have n1_ := Aside0.mk (ho); clear HB; clear HO_8; have HB := n0_; have HO333 := n1_; clear n0_ n1_; clear ho hb hg hat))
                        go_roundg k2
                        case measure => have := HJ5.out; have := HK2.out; omega
                        case rel => exact ⟨(y331), H', ⟨by have := HJ5.out; have := HK2.out; omega⟩, ⟨by (with_reducible repeat (first | apply Kd.R_alloc | apply Kd.R_drewN | apply Kd.R_drew)); exact HO333.out⟩, ⟨by repeat (first | (with_reducible first | exact HB.out | apply below_alloc | apply pw_below_drewN | apply below_drew1) | exact HB.out)⟩⟩
                      · rw [if_neg c43] at H
                        exact absurd H (by simp)
                    · rw [if_neg c42] at H
                      have c42b0 : decide ((x8_2.length : Int) < 9) = false := decide_eq_false c42
                      have c42b1 : decide (x8_2.length < 9) = false := decide_eq_false (by omega)
                      clear c42
                      have H' := Aside0.mk H
                      clear H
                      obtain ⟨Ao46, co46, eo46⟩ := Kd.R_slice HO_8.out
                      subst eo46
                      go_wp2
                      go_meet
                      case rel => exact ⟨_, (x8_2), (6), (by first | rfl | (simp; done) | (simp [*]; done)), H', ⟨by have := HJ5.out; have := HK2.out; first | omega | exact Nat.le_refl _⟩, ⟨by (with_reducible repeat (first | apply Kd.R_alloc | apply Kd.R_drewN | apply Kd.R_drew)); exact HO_8.out⟩, ⟨by repeat (first | (with_reducible first | exact HB.out | apply below_alloc | apply pw_below_drewN | apply below_drew1) | exact HB.out)⟩⟩
        case rest =>
          clear HC14
          try clear c1
          try clear c2
          try clear p2
          try clear q2
          try clear hx2
          try clear c3
          try clear p3
          try clear q3
          try clear hx3
          try clear hf3
          try clear c4
          try clear p6
          try clear c9
          try clear c10
          try clear c11
          try clear c12
          try clear c16
          try clear c16b0
          try clear c16b1
          try clear c18
          try clear c18b0
          try clear c19
          try clear c19b0
          try clear c20
          try clear c20b0
          try clear c21
          try clear c21b0
          try clear c22
          try clear p22
          try clear q22
          try clear hx22
          try clear hf22
          try clear c26
          try clear hx26
          try clear hf26
          try clear c28
          try clear c28b0
          try clear c28b1
          try clear c29
          try clear c29b0
          try clear c30
          try clear c30b0
          try clear c31
          try clear p31
          try clear q31
          try clear hx31
          try clear hf31
          try clear c32
          try clear p32
          try clear q32
          try clear hx32
          try clear hf32
          try clear c34
          try clear c34b0
          try clear c34b1
          try clear c35
          try clear c35b0
          try clear c36
          try clear c36b0
          try clear c37
          try clear p37
          try clear q37
          try clear hx37
          try clear hf37
          try clear c38
          try clear c39
          try clear hx39
          try clear hf39
          try clear c42
          try clear c42b0
          try clear c42b1
          try clear c43
          try clear hx22_0
          try clear hx22_1
          try clear hx26_0
          try clear hx31_0
          try clear hx31_1
          try clear hx324_0
          try clear hx32_1
          try clear hx37_0
          try clear hx37_1
          try clear hx39_0
          try clear p2
          try clear p22
          try clear p3
          try clear p31
          try clear p32
          try clear p324
          try clear p37
          try clear p6
          try clear q2
          try clear q22
          try clear q3
          try clear q31
          try clear q32
          try clear q324
          try clear q37
          obtain ⟨kq, x8_13, x10_13, rfl, HA, HJ13, HO_8, HB⟩ := hcut
          cases kq with
          | zero => exact absurd HA.out (by simp [postroomlaw3_LabelErrs.j2])
          | succ kj13 =>
            have H := HA.out
            clear HA
            simp only [postroomlaw3_LabelErrs.j2] at H
            by_cases c47 : (x8_13.length : Int) > 8
            · rw [if_pos c47] at H
              have c47b0 : decide (8 < (x8_13.length : Int)) = true := decide_eq_true c47
              have c47b1 : decide (8 < x8_13.length) = true := decide_eq_true (by omega)
              clear c47
              replace H := Option.bind_eq_some_iff.mp H
              obtain ⟨⟨t334, t335⟩, A480, H⟩ := H
              replace H : ((label_Canon.f kj13 x8_13).bind fun bt336 => ((label_Check.f kj13 x8_13).bind fun t340 => (if t340 = 6 then (if t335 = 6 then (if bt336.2 = 6 then (if t334.toList = ([] : List UInt8) then (some ((bt336.1.length : Int) == 0)) else (some false)) else (some false)) else (some false)) else (some false)))) = some r := H
              have A48 := Aside0.mk A480
              clear A480
              replace H := Option.bind_eq_some_iff.mp H
              obtain ⟨⟨t336, t337⟩, A490, H⟩ := H
              replace H : ((label_Check.f kj13 x8_13).bind fun t340 => (if t340 = 6 then (if t335 = 6 then (if t337 = 6 then (if t334.toList = ([] : List UInt8) then (some ((t336.length : Int) == 0)) else (some false)) else (some false)) else (some false)) else (some false))) = some r := H
              have A49 := Aside0.mk A490
              clear A490
              replace H := Option.bind_eq_some_iff.mp H
              obtain ⟨t340, A500, H⟩ := H
              replace H : (if t340 = 6 then (if t335 = 6 then (if t337 = 6 then (if t334.toList = ([] : List UInt8) then (some ((t336.length : Int) == 0)) else (some false)) else (some false)) else (some false)) else (some false)) = some r := H
              have A50 := Aside0.mk A500
              clear A500
              by_cases c51 : t340 = 6
              · rw [if_pos c51] at H
                have c51b0 : (t340 == 6) = true := beq_iff_eq.mpr c51
                have c51b1 : (t340 != 6) = false := bne_eq_false_iff_eq.mpr c51
                clear c51
                by_cases c52 : t335 = 6
                · rw [if_pos c52] at H
                  have c52b0 : (t335 == 6) = true := beq_iff_eq.mpr c52
                  have c52b1 : (t335 != 6) = false := bne_eq_false_iff_eq.mpr c52
                  clear c52
                  by_cases c53 : t337 = 6
                  · rw [if_pos c53] at H
                    have c53b0 : (t337 == 6) = true := beq_iff_eq.mpr c53
                    have c53b1 : (t337 != 6) = false := bne_eq_false_iff_eq.mpr c53
                    clear c53
                    by_cases c54 : t334.toList = ([] : List UInt8)
                    · rw [if_pos c54] at H
                      have c54b0 : (t334.toList == ([] : List UInt8)) = true := beq_iff_eq.mpr c54
                      have c54b1 : (t334.toList != ([] : List UInt8)) = false := bne_eq_false_iff_eq.mpr c54
                      clear c54
                      obtain rfl := Option.some.inj H
                      obtain ⟨Ao55, co55, eo55⟩ := Kd.R_slice HO_8.out
                      subst eo55
                      go_wp2_with (first | ((with_reducible refine gate_callee (f := 13) rfl ?_); refine goesL_ (some 72) rfl rfl Tryd.func13 (by kernel_rfl) rfl #[.slice Ao55 x8_13.length co55] rfl (by (try simp only [List.map_toArray, List.map_cons, List.map_nil]); first | done | rfl | (simp only [List.length_drop, List.length_take]; rfl)) ?_; (with_reducible refine (label_Put.calls kj13 _ _ x8_13 t334 t335 _ ?side1 ?side2 A48.out).mono ?_); (case side1 => repeat (first | exact (Kd.R_reads' HO_8.out).2.2 | (with_reducible refine Kd.C_alloc ?_ _) | (with_reducible refine Kd.C_drewN ?_ _) | (with_reducible refine Kd.C_drew ?_))); (case side2 => exact (Kd.R_reads' HO_8.out).2.1); rintro e w56 ⟨rfl, hb⟩; refine ⟨_, rfl, ?_⟩; have n0_ := Aside0.mk (Kd.R_below (by (with_reducible repeat (first | apply Kd.R_alloc | apply Kd.R_drewN | apply Kd.R_drew)); exact HO_8.out) hb); have n1_ := Aside0.mk (below_step (by repeat (first | (with_reducible first | exact HB.out | apply below_alloc | apply pw_below_drewN | apply below_drew1) | exact HB.out)) hb); clear HO_8; clear HB; have HO_8 := n0_; have HB := n1_; clear n0_ n1_; (try clear hb); (try clear hb2); (try clear hk); (try clear hi)) | ((with_reducible refine gate_callee (f := 14) rfl ?_); refine goesL_ (some 77) rfl rfl Tryd.func14 (by kernel_rfl) rfl #[.slice Ao55 x8_13.length co55] rfl (by (try simp only [List.map_toArray, List.map_cons, List.map_nil]); first | done | rfl | (simp only [List.length_drop, List.length_take]; rfl)) ?_; (with_reducible refine (label_Canon.calls kj13 _ _ x8_13 t336 t337 _ ?side1 ?side2 A49.out).mono ?_); (case side1 => repeat (first | exact (Kd.R_reads' HO_8.out).2.2 | (with_reducible refine Kd.C_alloc ?_ _) | (with_reducible refine Kd.C_drewN ?_ _) | (with_reducible refine Kd.C_drew ?_))); (case side2 => exact (Kd.R_reads' HO_8.out).2.1); rintro e w57 ⟨v338, rfl, ho0, hb⟩; refine ⟨_, rfl, ?_⟩; have n0_ := Aside0.mk (Kd.R_elder' (by (with_reducible repeat (first | apply Kd.R_alloc | apply Kd.R_drewN | apply Kd.R_drew)); exact HO_8.out) (Kd.R_base ho0) hb); have n1_ := Aside0.mk (Kd.R_lower (Kd.R_new' ho0 (Kd.R_lt (by (with_reducible repeat (first | apply Kd.R_alloc | apply Kd.R_drewN | apply Kd.R_drew)); exact HO_8.out))) (below_size (by repeat (first | (with_reducible first | exact HB.out | apply below_alloc | apply pw_below_drewN | apply below_drew1) | exact HB.out)))); have n2_ := Aside0.mk (below_step (by repeat (first | (with_reducible first | exact HB.out | apply below_alloc | apply pw_below_drewN | apply below_drew1) | exact HB.out)) hb); clear HO_8; clear HB; have HO_8 := n0_; have HO339 := n1_; have HB := n2_; clear n0_ n1_ n2_; (try clear hb); (try clear hb2); (try clear hk); (try clear hi); (try clear ho0)) | ((with_reducible refine gate_callee (f := 15) rfl ?_); refine goesL_ (some 81) rfl rfl Tryd.func15 (by kernel_rfl) rfl #[.slice Ao55 x8_13.length co55] rfl (by (try simp only [List.map_toArray, List.map_cons, List.map_nil]); first | done | rfl | (simp only [List.length_drop, List.length_take]; rfl)) ?_; (with_reducible refine (label_Check.calls kj13 _ _ x8_13 t340 _ ?side1 ?side2 A50.out).mono ?_); (case side1 => repeat (first | exact (Kd.R_reads' HO_8.out).2.2 | (with_reducible refine Kd.C_alloc ?_ _) | (with_reducible refine Kd.C_drewN ?_ _) | (with_reducible refine Kd.C_drew ?_))); (case side2 => exact (Kd.R_reads' HO_8.out).2.1); rintro e w58 ⟨rfl, hb⟩; refine ⟨_, rfl, ?_⟩; have n0_ := Aside0.mk (Kd.R_below (by (with_reducible repeat (first | apply Kd.R_alloc | apply Kd.R_drewN | apply Kd.R_drew)); exact HO_8.out) hb); have n1_ := Aside0.mk (Kd.R_below (by (with_reducible repeat (first | apply Kd.R_alloc | apply Kd.R_drewN | apply Kd.R_drew)); exact HO339.out) hb); have n2_ := Aside0.mk (below_step (by repeat (first | (with_reducible first | exact HB.out | apply below_alloc | apply pw_below_drewN | apply below_drew1) | exact HB.out)) hb); clear HO_8; clear HO339; clear HB; have HO_8 := n0_; have HO339 := n1_; have HB := n2_; clear n0_ n1_ n2_; (try clear hb); (try clear hb2); (try clear hk); (try clear hi); obtain ⟨Ao59, co59, eo59⟩ := Kd.R_slice HO339.out; subst eo59))
                      go_ret
                      exact ⟨by first | rfl | (simp [errW_none, errW_some] <;> rfl) | (simp [*, errW_none, errW_some] <;> rfl), by repeat (first | (with_reducible first | exact HB.out | apply below_alloc | apply pw_below_drewN | apply below_drew1) | exact HB.out)⟩
                    · rw [if_neg c54] at H
                      have c54b0 : (t334.toList == ([] : List UInt8)) = false := beq_eq_false_iff_ne.mpr c54
                      have c54b1 : (t334.toList != ([] : List UInt8)) = true := bne_iff_ne.mpr c54
                      obtain rfl := Option.some.inj H
                      obtain ⟨Ao60, co60, eo60⟩ := Kd.R_slice HO_8.out
                      subst eo60
                      go_wp2_with (first | ((with_reducible refine gate_callee (f := 13) rfl ?_); refine goesL_ (some 72) rfl rfl Tryd.func13 (by kernel_rfl) rfl #[.slice Ao60 x8_13.length co60] rfl (by (try simp only [List.map_toArray, List.map_cons, List.map_nil]); first | done | rfl | (simp only [List.length_drop, List.length_take]; rfl)) ?_; (with_reducible refine (label_Put.calls kj13 _ _ x8_13 t334 t335 _ ?side1 ?side2 A48.out).mono ?_); (case side1 => repeat (first | exact (Kd.R_reads' HO_8.out).2.2 | (with_reducible refine Kd.C_alloc ?_ _) | (with_reducible refine Kd.C_drewN ?_ _) | (with_reducible refine Kd.C_drew ?_))); (case side2 => exact (Kd.R_reads' HO_8.out).2.1); rintro e w61 ⟨rfl, hb⟩; refine ⟨_, rfl, ?_⟩; have n0_ := Aside0.mk (Kd.R_below (by (with_reducible repeat (first | apply Kd.R_alloc | apply Kd.R_drewN | apply Kd.R_drew)); exact HO_8.out) hb); have n1_ := Aside0.mk (below_step (by repeat (first | (with_reducible first | exact HB.out | apply below_alloc | apply pw_below_drewN | apply below_drew1) | exact HB.out)) hb); clear HO_8; clear HB; have HO_8 := n0_; have HB := n1_; clear n0_ n1_; (try clear hb); (try clear hb2); (try clear hk); (try clear hi)) | ((with_reducible refine gate_callee (f := 14) rfl ?_); refine goesL_ (some 77) rfl rfl Tryd.func14 (by kernel_rfl) rfl #[.slice Ao60 x8_13.length co60] rfl (by (try simp only [List.map_toArray, List.map_cons, List.map_nil]); first | done | rfl | (simp only [List.length_drop, List.length_take]; rfl)) ?_; (with_reducible refine (label_Canon.calls kj13 _ _ x8_13 t336 t337 _ ?side1 ?side2 A49.out).mono ?_); (case side1 => repeat (first | exact (Kd.R_reads' HO_8.out).2.2 | (with_reducible refine Kd.C_alloc ?_ _) | (with_reducible refine Kd.C_drewN ?_ _) | (with_reducible refine Kd.C_drew ?_))); (case side2 => exact (Kd.R_reads' HO_8.out).2.1); rintro e w62 ⟨v338, rfl, ho0, hb⟩; refine ⟨_, rfl, ?_⟩; have n0_ := Aside0.mk (Kd.R_elder' (by (with_reducible repeat (first | apply Kd.R_alloc | apply Kd.R_drewN | apply Kd.R_drew)); exact HO_8.out) (Kd.R_base ho0) hb); have n1_ := Aside0.mk (Kd.R_lower (Kd.R_new' ho0 (Kd.R_lt (by (with_reducible repeat (first | apply Kd.R_alloc | apply Kd.R_drewN | apply Kd.R_drew)); exact HO_8.out))) (below_size (by repeat (first | (with_reducible first | exact HB.out | apply below_alloc | apply pw_below_drewN | apply below_drew1) | exact HB.out)))); have n2_ := Aside0.mk (below_step (by repeat (first | (with_reducible first | exact HB.out | apply below_alloc | apply pw_below_drewN | apply below_drew1) | exact HB.out)) hb); clear HO_8; clear HB; have HO_8 := n0_; have HO339 := n1_; have HB := n2_; clear n0_ n1_ n2_; (try clear hb); (try clear hb2); (try clear hk); (try clear hi); (try clear ho0)) | ((with_reducible refine gate_callee (f := 15) rfl ?_); refine goesL_ (some 81) rfl rfl Tryd.func15 (by kernel_rfl) rfl #[.slice Ao60 x8_13.length co60] rfl (by (try simp only [List.map_toArray, List.map_cons, List.map_nil]); first | done | rfl | (simp only [List.length_drop, List.length_take]; rfl)) ?_; (with_reducible refine (label_Check.calls kj13 _ _ x8_13 t340 _ ?side1 ?side2 A50.out).mono ?_); (case side1 => repeat (first | exact (Kd.R_reads' HO_8.out).2.2 | (with_reducible refine Kd.C_alloc ?_ _) | (with_reducible refine Kd.C_drewN ?_ _) | (with_reducible refine Kd.C_drew ?_))); (case side2 => exact (Kd.R_reads' HO_8.out).2.1); rintro e w63 ⟨rfl, hb⟩; refine ⟨_, rfl, ?_⟩; have n0_ := Aside0.mk (Kd.R_below (by (with_reducible repeat (first | apply Kd.R_alloc | apply Kd.R_drewN | apply Kd.R_drew)); exact HO_8.out) hb); have n1_ := Aside0.mk (Kd.R_below (by (with_reducible repeat (first | apply Kd.R_alloc | apply Kd.R_drewN | apply Kd.R_drew)); exact HO339.out) hb); have n2_ := Aside0.mk (below_step (by repeat (first | (with_reducible first | exact HB.out | apply below_alloc | apply pw_below_drewN | apply below_drew1) | exact HB.out)) hb); clear HO_8; clear HO339; clear HB; have HO_8 := n0_; have HO339 := n1_; have HB := n2_; clear n0_ n1_ n2_; (try clear hb); (try clear hb2); (try clear hk); (try clear hi)))
                      go_ret
                      exact ⟨by first | rfl | (simp [errW_none, errW_some] <;> rfl) | (simp [*, errW_none, errW_some] <;> rfl), by repeat (first | (with_reducible first | exact HB.out | apply below_alloc | apply pw_below_drewN | apply below_drew1) | exact HB.out)⟩
                  · rw [if_neg c53] at H
                    have c53b0 : (t337 == 6) = false := beq_eq_false_iff_ne.mpr c53
                    have c53b1 : (t337 != 6) = true := bne_iff_ne.mpr c53
                    obtain rfl := Option.some.inj H
                    obtain ⟨Ao64, co64, eo64⟩ := Kd.R_slice HO_8.out
                    subst eo64
                    go_wp2_with (first | ((with_reducible refine gate_callee (f := 13) rfl ?_); refine goesL_ (some 72) rfl rfl Tryd.func13 (by kernel_rfl) rfl #[.slice Ao64 x8_13.length co64] rfl (by (try simp only [List.map_toArray, List.map_cons, List.map_nil]); first | done | rfl | (simp only [List.length_drop, List.length_take]; rfl)) ?_; (with_reducible refine (label_Put.calls kj13 _ _ x8_13 t334 t335 _ ?side1 ?side2 A48.out).mono ?_); (case side1 => repeat (first | exact (Kd.R_reads' HO_8.out).2.2 | (with_reducible refine Kd.C_alloc ?_ _) | (with_reducible refine Kd.C_drewN ?_ _) | (with_reducible refine Kd.C_drew ?_))); (case side2 => exact (Kd.R_reads' HO_8.out).2.1); rintro e w65 ⟨rfl, hb⟩; refine ⟨_, rfl, ?_⟩; have n0_ := Aside0.mk (Kd.R_below (by (with_reducible repeat (first | apply Kd.R_alloc | apply Kd.R_drewN | apply Kd.R_drew)); exact HO_8.out) hb); have n1_ := Aside0.mk (below_step (by repeat (first | (with_reducible first | exact HB.out | apply below_alloc | apply pw_below_drewN | apply below_drew1) | exact HB.out)) hb); clear HO_8; clear HB; have HO_8 := n0_; have HB := n1_; clear n0_ n1_; (try clear hb); (try clear hb2); (try clear hk); (try clear hi)) | ((with_reducible refine gate_callee (f := 14) rfl ?_); refine goesL_ (some 77) rfl rfl Tryd.func14 (by kernel_rfl) rfl #[.slice Ao64 x8_13.length co64] rfl (by (try simp only [List.map_toArray, List.map_cons, List.map_nil]); first | done | rfl | (simp only [List.length_drop, List.length_take]; rfl)) ?_; (with_reducible refine (label_Canon.calls kj13 _ _ x8_13 t336 t337 _ ?side1 ?side2 A49.out).mono ?_); (case side1 => repeat (first | exact (Kd.R_reads' HO_8.out).2.2 | (with_reducible refine Kd.C_alloc ?_ _) | (with_reducible refine Kd.C_drewN ?_ _) | (with_reducible refine Kd.C_drew ?_))); (case side2 => exact (Kd.R_reads' HO_8.out).2.1); rintro e w66 ⟨v338, rfl, ho0, hb⟩; refine ⟨_, rfl, ?_⟩; have n0_ := Aside0.mk (Kd.R_elder' (by (with_reducible repeat (first | apply Kd.R_alloc | apply Kd.R_drewN | apply Kd.R_drew)); exact HO_8.out) (Kd.R_base ho0) hb); have n1_ := Aside0.mk (Kd.R_lower (Kd.R_new' ho0 (Kd.R_lt (by (with_reducible repeat (first | apply Kd.R_alloc | apply Kd.R_drewN | apply Kd.R_drew)); exact HO_8.out))) (below_size (by repeat (first | (with_reducible first | exact HB.out | apply below_alloc | apply pw_below_drewN | apply below_drew1) | exact HB.out)))); have n2_ := Aside0.mk (below_step (by repeat (first | (with_reducible first | exact HB.out | apply below_alloc | apply pw_below_drewN | apply below_drew1) | exact HB.out)) hb); clear HO_8; clear HB; have HO_8 := n0_; have HO339 := n1_; have HB := n2_; clear n0_ n1_ n2_; (try clear hb); (try clear hb2); (try clear hk); (try clear hi); (try clear ho0)) | ((with_reducible refine gate_callee (f := 15) rfl ?_); refine goesL_ (some 81) rfl rfl Tryd.func15 (by kernel_rfl) rfl #[.slice Ao64 x8_13.length co64] rfl (by (try simp only [List.map_toArray, List.map_cons, List.map_nil]); first | done | rfl | (simp only [List.length_drop, List.length_take]; rfl)) ?_; (with_reducible refine (label_Check.calls kj13 _ _ x8_13 t340 _ ?side1 ?side2 A50.out).mono ?_); (case side1 => repeat (first | exact (Kd.R_reads' HO_8.out).2.2 | (with_reducible refine Kd.C_alloc ?_ _) | (with_reducible refine Kd.C_drewN ?_ _) | (with_reducible refine Kd.C_drew ?_))); (case side2 => exact (Kd.R_reads' HO_8.out).2.1); rintro e w67 ⟨rfl, hb⟩; refine ⟨_, rfl, ?_⟩; have n0_ := Aside0.mk (Kd.R_below (by (with_reducible repeat (first | apply Kd.R_alloc | apply Kd.R_drewN | apply Kd.R_drew)); exact HO_8.out) hb); have n1_ := Aside0.mk (Kd.R_below (by (with_reducible repeat (first | apply Kd.R_alloc | apply Kd.R_drewN | apply Kd.R_drew)); exact HO339.out) hb); have n2_ := Aside0.mk (below_step (by repeat (first | (with_reducible first | exact HB.out | apply below_alloc | apply pw_below_drewN | apply below_drew1) | exact HB.out)) hb); clear HO_8; clear HO339; clear HB; have HO_8 := n0_; have HO339 := n1_; have HB := n2_; clear n0_ n1_ n2_; (try clear hb); (try clear hb2); (try clear hk); (try clear hi)))
                    go_ret
                    exact ⟨by first | rfl | (simp [errW_none, errW_some] <;> rfl) | (simp [*, errW_none, errW_some] <;> rfl), by repeat (first | (with_reducible first | exact HB.out | apply below_alloc | apply pw_below_drewN | apply below_drew1) | exact HB.out)⟩
                · rw [if_neg c52] at H
                  have c52b0 : (t335 == 6) = false := beq_eq_false_iff_ne.mpr c52
                  have c52b1 : (t335 != 6) = true := bne_iff_ne.mpr c52
                  obtain rfl := Option.some.inj H
                  obtain ⟨Ao68, co68, eo68⟩ := Kd.R_slice HO_8.out
                  subst eo68
                  go_wp2_with (first | ((with_reducible refine gate_callee (f := 13) rfl ?_); refine goesL_ (some 72) rfl rfl Tryd.func13 (by kernel_rfl) rfl #[.slice Ao68 x8_13.length co68] rfl (by (try simp only [List.map_toArray, List.map_cons, List.map_nil]); first | done | rfl | (simp only [List.length_drop, List.length_take]; rfl)) ?_; (with_reducible refine (label_Put.calls kj13 _ _ x8_13 t334 t335 _ ?side1 ?side2 A48.out).mono ?_); (case side1 => repeat (first | exact (Kd.R_reads' HO_8.out).2.2 | (with_reducible refine Kd.C_alloc ?_ _) | (with_reducible refine Kd.C_drewN ?_ _) | (with_reducible refine Kd.C_drew ?_))); (case side2 => exact (Kd.R_reads' HO_8.out).2.1); rintro e w69 ⟨rfl, hb⟩; refine ⟨_, rfl, ?_⟩; have n0_ := Aside0.mk (Kd.R_below (by (with_reducible repeat (first | apply Kd.R_alloc | apply Kd.R_drewN | apply Kd.R_drew)); exact HO_8.out) hb); have n1_ := Aside0.mk (below_step (by repeat (first | (with_reducible first | exact HB.out | apply below_alloc | apply pw_below_drewN | apply below_drew1) | exact HB.out)) hb); clear HO_8; clear HB; have HO_8 := n0_; have HB := n1_; clear n0_ n1_; (try clear hb); (try clear hb2); (try clear hk); (try clear hi)) | ((with_reducible refine gate_callee (f := 14) rfl ?_); refine goesL_ (some 77) rfl rfl Tryd.func14 (by kernel_rfl) rfl #[.slice Ao68 x8_13.length co68] rfl (by (try simp only [List.map_toArray, List.map_cons, List.map_nil]); first | done | rfl | (simp only [List.length_drop, List.length_take]; rfl)) ?_; (with_reducible refine (label_Canon.calls kj13 _ _ x8_13 t336 t337 _ ?side1 ?side2 A49.out).mono ?_); (case side1 => repeat (first | exact (Kd.R_reads' HO_8.out).2.2 | (with_reducible refine Kd.C_alloc ?_ _) | (with_reducible refine Kd.C_drewN ?_ _) | (with_reducible refine Kd.C_drew ?_))); (case side2 => exact (Kd.R_reads' HO_8.out).2.1); rintro e w70 ⟨v338, rfl, ho0, hb⟩; refine ⟨_, rfl, ?_⟩; have n0_ := Aside0.mk (Kd.R_elder' (by (with_reducible repeat (first | apply Kd.R_alloc | apply Kd.R_drewN | apply Kd.R_drew)); exact HO_8.out) (Kd.R_base ho0) hb); have n1_ := Aside0.mk (Kd.R_lower (Kd.R_new' ho0 (Kd.R_lt (by (with_reducible repeat (first | apply Kd.R_alloc | apply Kd.R_drewN | apply Kd.R_drew)); exact HO_8.out))) (below_size (by repeat (first | (with_reducible first | exact HB.out | apply below_alloc | apply pw_below_drewN | apply below_drew1) | exact HB.out)))); have n2_ := Aside0.mk (below_step (by repeat (first | (with_reducible first | exact HB.out | apply below_alloc | apply pw_below_drewN | apply below_drew1) | exact HB.out)) hb); clear HO_8; clear HB; have HO_8 := n0_; have HO339 := n1_; have HB := n2_; clear n0_ n1_ n2_; (try clear hb); (try clear hb2); (try clear hk); (try clear hi); (try clear ho0)) | ((with_reducible refine gate_callee (f := 15) rfl ?_); refine goesL_ (some 81) rfl rfl Tryd.func15 (by kernel_rfl) rfl #[.slice Ao68 x8_13.length co68] rfl (by (try simp only [List.map_toArray, List.map_cons, List.map_nil]); first | done | rfl | (simp only [List.length_drop, List.length_take]; rfl)) ?_; (with_reducible refine (label_Check.calls kj13 _ _ x8_13 t340 _ ?side1 ?side2 A50.out).mono ?_); (case side1 => repeat (first | exact (Kd.R_reads' HO_8.out).2.2 | (with_reducible refine Kd.C_alloc ?_ _) | (with_reducible refine Kd.C_drewN ?_ _) | (with_reducible refine Kd.C_drew ?_))); (case side2 => exact (Kd.R_reads' HO_8.out).2.1); rintro e w71 ⟨rfl, hb⟩; refine ⟨_, rfl, ?_⟩; have n0_ := Aside0.mk (Kd.R_below (by (with_reducible repeat (first | apply Kd.R_alloc | apply Kd.R_drewN | apply Kd.R_drew)); exact HO_8.out) hb); have n1_ := Aside0.mk (Kd.R_below (by (with_reducible repeat (first | apply Kd.R_alloc | apply Kd.R_drewN | apply Kd.R_drew)); exact HO339.out) hb); have n2_ := Aside0.mk (below_step (by repeat (first | (with_reducible first | exact HB.out | apply below_alloc | apply pw_below_drewN | apply below_drew1) | exact HB.out)) hb); clear HO_8; clear HO339; clear HB; have HO_8 := n0_; have HO339 := n1_; have HB := n2_; clear n0_ n1_ n2_; (try clear hb); (try clear hb2); (try clear hk); (try clear hi)))
                  go_ret
                  exact ⟨by first | rfl | (simp [errW_none, errW_some] <;> rfl) | (simp [*, errW_none, errW_some] <;> rfl), by repeat (first | (with_reducible first | exact HB.out | apply below_alloc | apply pw_below_drewN | apply below_drew1) | exact HB.out)⟩
              · rw [if_neg c51] at H
                have c51b0 : (t340 == 6) = false := beq_eq_false_iff_ne.mpr c51
                have c51b1 : (t340 != 6) = true := bne_iff_ne.mpr c51
                obtain rfl := Option.some.inj H
                obtain ⟨Ao72, co72, eo72⟩ := Kd.R_slice HO_8.out
                subst eo72
                go_wp2_with (first | ((with_reducible refine gate_callee (f := 13) rfl ?_); refine goesL_ (some 72) rfl rfl Tryd.func13 (by kernel_rfl) rfl #[.slice Ao72 x8_13.length co72] rfl (by (try simp only [List.map_toArray, List.map_cons, List.map_nil]); first | done | rfl | (simp only [List.length_drop, List.length_take]; rfl)) ?_; (with_reducible refine (label_Put.calls kj13 _ _ x8_13 t334 t335 _ ?side1 ?side2 A48.out).mono ?_); (case side1 => repeat (first | exact (Kd.R_reads' HO_8.out).2.2 | (with_reducible refine Kd.C_alloc ?_ _) | (with_reducible refine Kd.C_drewN ?_ _) | (with_reducible refine Kd.C_drew ?_))); (case side2 => exact (Kd.R_reads' HO_8.out).2.1); rintro e w73 ⟨rfl, hb⟩; refine ⟨_, rfl, ?_⟩; have n0_ := Aside0.mk (Kd.R_below (by (with_reducible repeat (first | apply Kd.R_alloc | apply Kd.R_drewN | apply Kd.R_drew)); exact HO_8.out) hb); have n1_ := Aside0.mk (below_step (by repeat (first | (with_reducible first | exact HB.out | apply below_alloc | apply pw_below_drewN | apply below_drew1) | exact HB.out)) hb); clear HO_8; clear HB; have HO_8 := n0_; have HB := n1_; clear n0_ n1_; (try clear hb); (try clear hb2); (try clear hk); (try clear hi)) | ((with_reducible refine gate_callee (f := 14) rfl ?_); refine goesL_ (some 77) rfl rfl Tryd.func14 (by kernel_rfl) rfl #[.slice Ao72 x8_13.length co72] rfl (by (try simp only [List.map_toArray, List.map_cons, List.map_nil]); first | done | rfl | (simp only [List.length_drop, List.length_take]; rfl)) ?_; (with_reducible refine (label_Canon.calls kj13 _ _ x8_13 t336 t337 _ ?side1 ?side2 A49.out).mono ?_); (case side1 => repeat (first | exact (Kd.R_reads' HO_8.out).2.2 | (with_reducible refine Kd.C_alloc ?_ _) | (with_reducible refine Kd.C_drewN ?_ _) | (with_reducible refine Kd.C_drew ?_))); (case side2 => exact (Kd.R_reads' HO_8.out).2.1); rintro e w74 ⟨v338, rfl, ho0, hb⟩; refine ⟨_, rfl, ?_⟩; have n0_ := Aside0.mk (Kd.R_elder' (by (with_reducible repeat (first | apply Kd.R_alloc | apply Kd.R_drewN | apply Kd.R_drew)); exact HO_8.out) (Kd.R_base ho0) hb); have n1_ := Aside0.mk (Kd.R_lower (Kd.R_new' ho0 (Kd.R_lt (by (with_reducible repeat (first | apply Kd.R_alloc | apply Kd.R_drewN | apply Kd.R_drew)); exact HO_8.out))) (below_size (by repeat (first | (with_reducible first | exact HB.out | apply below_alloc | apply pw_below_drewN | apply below_drew1) | exact HB.out)))); have n2_ := Aside0.mk (below_step (by repeat (first | (with_reducible first | exact HB.out | apply below_alloc | apply pw_below_drewN | apply below_drew1) | exact HB.out)) hb); clear HO_8; clear HB; have HO_8 := n0_; have HO339 := n1_; have HB := n2_; clear n0_ n1_ n2_; (try clear hb); (try clear hb2); (try clear hk); (try clear hi); (try clear ho0)) | ((with_reducible refine gate_callee (f := 15) rfl ?_); refine goesL_ (some 81) rfl rfl Tryd.func15 (by kernel_rfl) rfl #[.slice Ao72 x8_13.length co72] rfl (by (try simp only [List.map_toArray, List.map_cons, List.map_nil]); first | done | rfl | (simp only [List.length_drop, List.length_take]; rfl)) ?_; (with_reducible refine (label_Check.calls kj13 _ _ x8_13 t340 _ ?side1 ?side2 A50.out).mono ?_); (case side1 => repeat (first | exact (Kd.R_reads' HO_8.out).2.2 | (with_reducible refine Kd.C_alloc ?_ _) | (with_reducible refine Kd.C_drewN ?_ _) | (with_reducible refine Kd.C_drew ?_))); (case side2 => exact (Kd.R_reads' HO_8.out).2.1); rintro e w75 ⟨rfl, hb⟩; refine ⟨_, rfl, ?_⟩; have n0_ := Aside0.mk (Kd.R_below (by (with_reducible repeat (first | apply Kd.R_alloc | apply Kd.R_drewN | apply Kd.R_drew)); exact HO_8.out) hb); have n1_ := Aside0.mk (Kd.R_below (by (with_reducible repeat (first | apply Kd.R_alloc | apply Kd.R_drewN | apply Kd.R_drew)); exact HO339.out) hb); have n2_ := Aside0.mk (below_step (by repeat (first | (with_reducible first | exact HB.out | apply below_alloc | apply pw_below_drewN | apply below_drew1) | exact HB.out)) hb); clear HO_8; clear HO339; clear HB; have HO_8 := n0_; have HO339 := n1_; have HB := n2_; clear n0_ n1_ n2_; (try clear hb); (try clear hb2); (try clear hk); (try clear hi)))
                go_ret
                exact ⟨by first | rfl | (simp [errW_none, errW_some] <;> rfl) | (simp [*, errW_none, errW_some] <;> rfl), by repeat (first | (with_reducible first | exact HB.out | apply below_alloc | apply pw_below_drewN | apply below_drew1) | exact HB.out)⟩
            · rw [if_neg c47] at H
              have c47b0 : decide (8 < (x8_13.length : Int)) = false := decide_eq_false c47
              have c47b1 : decide (8 < x8_13.length) = false := decide_eq_false (by omega)
              clear c47
              replace H := Option.bind_eq_some_iff.mp H
              obtain ⟨⟨t341, t342⟩, A760, H⟩ := H
              replace H : ((label_Canon.f kj13 x8_13).bind fun bt343 => ((label_Check.f kj13 x8_13).bind fun t347 => (if t347 = x10_13 then (if t342 = x10_13 then (if bt343.2 = x10_13 then (if t341.toList = ([] : List UInt8) then (some ((bt343.1.length : Int) == 0)) else (some false)) else (some false)) else (some false)) else (some false)))) = some r := H
              have A76 := Aside0.mk A760
              clear A760
              replace H := Option.bind_eq_some_iff.mp H
              obtain ⟨⟨t343, t344⟩, A770, H⟩ := H
              replace H : ((label_Check.f kj13 x8_13).bind fun t347 => (if t347 = x10_13 then (if t342 = x10_13 then (if t344 = x10_13 then (if t341.toList = ([] : List UInt8) then (some ((t343.length : Int) == 0)) else (some false)) else (some false)) else (some false)) else (some false))) = some r := H
              have A77 := Aside0.mk A770
              clear A770
              replace H := Option.bind_eq_some_iff.mp H
              obtain ⟨t347, A780, H⟩ := H
              replace H : (if t347 = x10_13 then (if t342 = x10_13 then (if t344 = x10_13 then (if t341.toList = ([] : List UInt8) then (some ((t343.length : Int) == 0)) else (some false)) else (some false)) else (some false)) else (some false)) = some r := H
              have A78 := Aside0.mk A780
              clear A780
              by_cases c79 : t347 = x10_13
              · rw [if_pos c79] at H
                have c79b0 : (t347 == x10_13) = true := beq_iff_eq.mpr c79
                have c79b1 : (t347 != x10_13) = false := bne_eq_false_iff_eq.mpr c79
                clear c79
                by_cases c80 : t342 = x10_13
                · rw [if_pos c80] at H
                  have c80b0 : (t342 == x10_13) = true := beq_iff_eq.mpr c80
                  have c80b1 : (t342 != x10_13) = false := bne_eq_false_iff_eq.mpr c80
                  clear c80
                  by_cases c81 : t344 = x10_13
                  · rw [if_pos c81] at H
                    have c81b0 : (t344 == x10_13) = true := beq_iff_eq.mpr c81
                    have c81b1 : (t344 != x10_13) = false := bne_eq_false_iff_eq.mpr c81
                    clear c81
                    by_cases c82 : t341.toList = ([] : List UInt8)
                    · rw [if_pos c82] at H
                      have c82b0 : (t341.toList == ([] : List UInt8)) = true := beq_iff_eq.mpr c82
                      have c82b1 : (t341.toList != ([] : List UInt8)) = false := bne_eq_false_iff_eq.mpr c82
                      clear c82
                      obtain rfl := Option.some.inj H
                      obtain ⟨Ao83, co83, eo83⟩ := Kd.R_slice HO_8.out
                      subst eo83
                      go_wp2_with (first | ((with_reducible refine gate_callee (f := 13) rfl ?_); refine goesL_ (some 72) rfl rfl Tryd.func13 (by kernel_rfl) rfl #[.slice Ao83 x8_13.length co83] rfl (by (try simp only [List.map_toArray, List.map_cons, List.map_nil]); first | done | rfl | (simp only [List.length_drop, List.length_take]; rfl)) ?_; (with_reducible refine (label_Put.calls kj13 _ _ x8_13 t341 t342 _ ?side1 ?side2 A76.out).mono ?_); (case side1 => repeat (first | exact (Kd.R_reads' HO_8.out).2.2 | (with_reducible refine Kd.C_alloc ?_ _) | (with_reducible refine Kd.C_drewN ?_ _) | (with_reducible refine Kd.C_drew ?_))); (case side2 => exact (Kd.R_reads' HO_8.out).2.1); rintro e w84 ⟨rfl, hb⟩; refine ⟨_, rfl, ?_⟩; have n0_ := Aside0.mk (Kd.R_below (by (with_reducible repeat (first | apply Kd.R_alloc | apply Kd.R_drewN | apply Kd.R_drew)); exact HO_8.out) hb); have n1_ := Aside0.mk (below_step (by repeat (first | (with_reducible first | exact HB.out | apply below_alloc | apply pw_below_drewN | apply below_drew1) | exact HB.out)) hb); clear HO_8; clear HB; have HO_8 := n0_; have HB := n1_; clear n0_ n1_; (try clear hb); (try clear hb2); (try clear hk); (try clear hi)) | ((with_reducible refine gate_callee (f := 14) rfl ?_); refine goesL_ (some 77) rfl rfl Tryd.func14 (by kernel_rfl) rfl #[.slice Ao83 x8_13.length co83] rfl (by (try simp only [List.map_toArray, List.map_cons, List.map_nil]); first | done | rfl | (simp only [List.length_drop, List.length_take]; rfl)) ?_; (with_reducible refine (label_Canon.calls kj13 _ _ x8_13 t343 t344 _ ?side1 ?side2 A77.out).mono ?_); (case side1 => repeat (first | exact (Kd.R_reads' HO_8.out).2.2 | (with_reducible refine Kd.C_alloc ?_ _) | (with_reducible refine Kd.C_drewN ?_ _) | (with_reducible refine Kd.C_drew ?_))); (case side2 => exact (Kd.R_reads' HO_8.out).2.1); rintro e w85 ⟨v345, rfl, ho0, hb⟩; refine ⟨_, rfl, ?_⟩; have n0_ := Aside0.mk (Kd.R_elder' (by (with_reducible repeat (first | apply Kd.R_alloc | apply Kd.R_drewN | apply Kd.R_drew)); exact HO_8.out) (Kd.R_base ho0) hb); have n1_ := Aside0.mk (Kd.R_lower (Kd.R_new' ho0 (Kd.R_lt (by (with_reducible repeat (first | apply Kd.R_alloc | apply Kd.R_drewN | apply Kd.R_drew)); exact HO_8.out))) (below_size (by repeat (first | (with_reducible first | exact HB.out | apply below_alloc | apply pw_below_drewN | apply below_drew1) | exact HB.out)))); have n2_ := Aside0.mk (below_step (by repeat (first | (with_reducible first | exact HB.out | apply below_alloc | apply pw_below_drewN | apply below_drew1) | exact HB.out)) hb); clear HO_8; clear HB; have HO_8 := n0_; have HO346 := n1_; have HB := n2_; clear n0_ n1_ n2_; (try clear hb); (try clear hb2); (try clear hk); (try clear hi); (try clear ho0)) | ((with_reducible refine gate_callee (f := 15) rfl ?_); refine goesL_ (some 81) rfl rfl Tryd.func15 (by kernel_rfl) rfl #[.slice Ao83 x8_13.length co83] rfl (by (try simp only [List.map_toArray, List.map_cons, List.map_nil]); first | done | rfl | (simp only [List.length_drop, List.length_take]; rfl)) ?_; (with_reducible refine (label_Check.calls kj13 _ _ x8_13 t347 _ ?side1 ?side2 A78.out).mono ?_); (case side1 => repeat (first | exact (Kd.R_reads' HO_8.out).2.2 | (with_reducible refine Kd.C_alloc ?_ _) | (with_reducible refine Kd.C_drewN ?_ _) | (with_reducible refine Kd.C_drew ?_))); (case side2 => exact (Kd.R_reads' HO_8.out).2.1); rintro e w86 ⟨rfl, hb⟩; refine ⟨_, rfl, ?_⟩; have n0_ := Aside0.mk (Kd.R_below (by (with_reducible repeat (first | apply Kd.R_alloc | apply Kd.R_drewN | apply Kd.R_drew)); exact HO_8.out) hb); have n1_ := Aside0.mk (Kd.R_below (by (with_reducible repeat (first | apply Kd.R_alloc | apply Kd.R_drewN | apply Kd.R_drew)); exact HO346.out) hb); have n2_ := Aside0.mk (below_step (by repeat (first | (with_reducible first | exact HB.out | apply below_alloc | apply pw_below_drewN | apply below_drew1) | exact HB.out)) hb); clear HO_8; clear HO346; clear HB; have HO_8 := n0_; have HO346 := n1_; have HB := n2_; clear n0_ n1_ n2_; (try clear hb); (try clear hb2); (try clear hk); (try clear hi); obtain ⟨Ao87, co87, eo87⟩ := Kd.R_slice HO346.out; subst eo87))
                      go_ret
                      exact ⟨by first | rfl | (simp [errW_none, errW_some] <;> rfl) | (simp [*, errW_none, errW_some] <;> rfl), by repeat (first | (with_reducible first | exact HB.out | apply below_alloc | apply pw_below_drewN | apply below_drew1) | exact HB.out)⟩
                    · rw [if_neg c82] at H
                      have c82b0 : (t341.toList == ([] : List UInt8)) = false := beq_eq_false_iff_ne.mpr c82
                      have c82b1 : (t341.toList != ([] : List UInt8)) = true := bne_iff_ne.mpr c82
                      obtain rfl := Option.some.inj H
                      obtain ⟨Ao88, co88, eo88⟩ := Kd.R_slice HO_8.out
                      subst eo88
                      go_wp2_with (first | ((with_reducible refine gate_callee (f := 13) rfl ?_); refine goesL_ (some 72) rfl rfl Tryd.func13 (by kernel_rfl) rfl #[.slice Ao88 x8_13.length co88] rfl (by (try simp only [List.map_toArray, List.map_cons, List.map_nil]); first | done | rfl | (simp only [List.length_drop, List.length_take]; rfl)) ?_; (with_reducible refine (label_Put.calls kj13 _ _ x8_13 t341 t342 _ ?side1 ?side2 A76.out).mono ?_); (case side1 => repeat (first | exact (Kd.R_reads' HO_8.out).2.2 | (with_reducible refine Kd.C_alloc ?_ _) | (with_reducible refine Kd.C_drewN ?_ _) | (with_reducible refine Kd.C_drew ?_))); (case side2 => exact (Kd.R_reads' HO_8.out).2.1); rintro e w89 ⟨rfl, hb⟩; refine ⟨_, rfl, ?_⟩; have n0_ := Aside0.mk (Kd.R_below (by (with_reducible repeat (first | apply Kd.R_alloc | apply Kd.R_drewN | apply Kd.R_drew)); exact HO_8.out) hb); have n1_ := Aside0.mk (below_step (by repeat (first | (with_reducible first | exact HB.out | apply below_alloc | apply pw_below_drewN | apply below_drew1) | exact HB.out)) hb); clear HO_8; clear HB; have HO_8 := n0_; have HB := n1_; clear n0_ n1_; (try clear hb); (try clear hb2); (try clear hk); (try clear hi)) | ((with_reducible refine gate_callee (f := 14) rfl ?_); refine goesL_ (some 77) rfl rfl Tryd.func14 (by kernel_rfl) rfl #[.slice Ao88 x8_13.length co88] rfl (by (try simp only [List.map_toArray, List.map_cons, List.map_nil]); first | done | rfl | (simp only [List.length_drop, List.length_take]; rfl)) ?_; (with_reducible refine (label_Canon.calls kj13 _ _ x8_13 t343 t344 _ ?side1 ?side2 A77.out).mono ?_); (case side1 => repeat (first | exact (Kd.R_reads' HO_8.out).2.2 | (with_reducible refine Kd.C_alloc ?_ _) | (with_reducible refine Kd.C_drewN ?_ _) | (with_reducible refine Kd.C_drew ?_))); (case side2 => exact (Kd.R_reads' HO_8.out).2.1); rintro e w90 ⟨v345, rfl, ho0, hb⟩; refine ⟨_, rfl, ?_⟩; have n0_ := Aside0.mk (Kd.R_elder' (by (with_reducible repeat (first | apply Kd.R_alloc | apply Kd.R_drewN | apply Kd.R_drew)); exact HO_8.out) (Kd.R_base ho0) hb); have n1_ := Aside0.mk (Kd.R_lower (Kd.R_new' ho0 (Kd.R_lt (by (with_reducible repeat (first | apply Kd.R_alloc | apply Kd.R_drewN | apply Kd.R_drew)); exact HO_8.out))) (below_size (by repeat (first | (with_reducible first | exact HB.out | apply below_alloc | apply pw_below_drewN | apply below_drew1) | exact HB.out)))); have n2_ := Aside0.mk (below_step (by repeat (first | (with_reducible first | exact HB.out | apply below_alloc | apply pw_below_drewN | apply below_drew1) | exact HB.out)) hb); clear HO_8; clear HB; have HO_8 := n0_; have HO346 := n1_; have HB := n2_; clear n0_ n1_ n2_; (try clear hb); (try clear hb2); (try clear hk); (try clear hi); (try clear ho0)) | ((with_reducible refine gate_callee (f := 15) rfl ?_); refine goesL_ (some 81) rfl rfl Tryd.func15 (by kernel_rfl) rfl #[.slice Ao88 x8_13.length co88] rfl (by (try simp only [List.map_toArray, List.map_cons, List.map_nil]); first | done | rfl | (simp only [List.length_drop, List.length_take]; rfl)) ?_; (with_reducible refine (label_Check.calls kj13 _ _ x8_13 t347 _ ?side1 ?side2 A78.out).mono ?_); (case side1 => repeat (first | exact (Kd.R_reads' HO_8.out).2.2 | (with_reducible refine Kd.C_alloc ?_ _) | (with_reducible refine Kd.C_drewN ?_ _) | (with_reducible refine Kd.C_drew ?_))); (case side2 => exact (Kd.R_reads' HO_8.out).2.1); rintro e w91 ⟨rfl, hb⟩; refine ⟨_, rfl, ?_⟩; have n0_ := Aside0.mk (Kd.R_below (by (with_reducible repeat (first | apply Kd.R_alloc | apply Kd.R_drewN | apply Kd.R_drew)); exact HO_8.out) hb); have n1_ := Aside0.mk (Kd.R_below (by (with_reducible repeat (first | apply Kd.R_alloc | apply Kd.R_drewN | apply Kd.R_drew)); exact HO346.out) hb); have n2_ := Aside0.mk (below_step (by repeat (first | (with_reducible first | exact HB.out | apply below_alloc | apply pw_below_drewN | apply below_drew1) | exact HB.out)) hb); clear HO_8; clear HO346; clear HB; have HO_8 := n0_; have HO346 := n1_; have HB := n2_; clear n0_ n1_ n2_; (try clear hb); (try clear hb2); (try clear hk); (try clear hi)))
                      go_ret
                      exact ⟨by first | rfl | (simp [errW_none, errW_some] <;> rfl) | (simp [*, errW_none, errW_some] <;> rfl), by repeat (first | (with_reducible first | exact HB.out | apply below_alloc | apply pw_below_drewN | apply below_drew1) | exact HB.out)⟩
                  · rw [if_neg c81] at H
                    have c81b0 : (t344 == x10_13) = false := beq_eq_false_iff_ne.mpr c81
                    have c81b1 : (t344 != x10_13) = true := bne_iff_ne.mpr c81
                    obtain rfl := Option.some.inj H
                    obtain ⟨Ao92, co92, eo92⟩ := Kd.R_slice HO_8.out
                    subst eo92
                    go_wp2_with (first | ((with_reducible refine gate_callee (f := 13) rfl ?_); refine goesL_ (some 72) rfl rfl Tryd.func13 (by kernel_rfl) rfl #[.slice Ao92 x8_13.length co92] rfl (by (try simp only [List.map_toArray, List.map_cons, List.map_nil]); first | done | rfl | (simp only [List.length_drop, List.length_take]; rfl)) ?_; (with_reducible refine (label_Put.calls kj13 _ _ x8_13 t341 t342 _ ?side1 ?side2 A76.out).mono ?_); (case side1 => repeat (first | exact (Kd.R_reads' HO_8.out).2.2 | (with_reducible refine Kd.C_alloc ?_ _) | (with_reducible refine Kd.C_drewN ?_ _) | (with_reducible refine Kd.C_drew ?_))); (case side2 => exact (Kd.R_reads' HO_8.out).2.1); rintro e w93 ⟨rfl, hb⟩; refine ⟨_, rfl, ?_⟩; have n0_ := Aside0.mk (Kd.R_below (by (with_reducible repeat (first | apply Kd.R_alloc | apply Kd.R_drewN | apply Kd.R_drew)); exact HO_8.out) hb); have n1_ := Aside0.mk (below_step (by repeat (first | (with_reducible first | exact HB.out | apply below_alloc | apply pw_below_drewN | apply below_drew1) | exact HB.out)) hb); clear HO_8; clear HB; have HO_8 := n0_; have HB := n1_; clear n0_ n1_; (try clear hb); (try clear hb2); (try clear hk); (try clear hi)) | ((with_reducible refine gate_callee (f := 14) rfl ?_); refine goesL_ (some 77) rfl rfl Tryd.func14 (by kernel_rfl) rfl #[.slice Ao92 x8_13.length co92] rfl (by (try simp only [List.map_toArray, List.map_cons, List.map_nil]); first | done | rfl | (simp only [List.length_drop, List.length_take]; rfl)) ?_; (with_reducible refine (label_Canon.calls kj13 _ _ x8_13 t343 t344 _ ?side1 ?side2 A77.out).mono ?_); (case side1 => repeat (first | exact (Kd.R_reads' HO_8.out).2.2 | (with_reducible refine Kd.C_alloc ?_ _) | (with_reducible refine Kd.C_drewN ?_ _) | (with_reducible refine Kd.C_drew ?_))); (case side2 => exact (Kd.R_reads' HO_8.out).2.1); rintro e w94 ⟨v345, rfl, ho0, hb⟩; refine ⟨_, rfl, ?_⟩; have n0_ := Aside0.mk (Kd.R_elder' (by (with_reducible repeat (first | apply Kd.R_alloc | apply Kd.R_drewN | apply Kd.R_drew)); exact HO_8.out) (Kd.R_base ho0) hb); have n1_ := Aside0.mk (Kd.R_lower (Kd.R_new' ho0 (Kd.R_lt (by (with_reducible repeat (first | apply Kd.R_alloc | apply Kd.R_drewN | apply Kd.R_drew)); exact HO_8.out))) (below_size (by repeat (first | (with_reducible first | exact HB.out | apply below_alloc | apply pw_below_drewN | apply below_drew1) | exact HB.out)))); have n2_ := Aside0.mk (below_step (by repeat (first | (with_reducible first | exact HB.out | apply below_alloc | apply pw_below_drewN | apply below_drew1) | exact HB.out)) hb); clear HO_8; clear HB; have HO_8 := n0_; have HO346 := n1_; have HB := n2_; clear n0_ n1_ n2_; (try clear hb); (try clear hb2); (try clear hk); (try clear hi); (try clear ho0)) | ((with_reducible refine gate_callee (f := 15) rfl ?_); refine goesL_ (some 81) rfl rfl Tryd.func15 (by kernel_rfl) rfl #[.slice Ao92 x8_13.length co92] rfl (by (try simp only [List.map_toArray, List.map_cons, List.map_nil]); first | done | rfl | (simp only [List.length_drop, List.length_take]; rfl)) ?_; (with_reducible refine (label_Check.calls kj13 _ _ x8_13 t347 _ ?side1 ?side2 A78.out).mono ?_); (case side1 => repeat (first | exact (Kd.R_reads' HO_8.out).2.2 | (with_reducible refine Kd.C_alloc ?_ _) | (with_reducible refine Kd.C_drewN ?_ _) | (with_reducible refine Kd.C_drew ?_))); (case side2 => exact (Kd.R_reads' HO_8.out).2.1); rintro e w95 ⟨rfl, hb⟩; refine ⟨_, rfl, ?_⟩; have n0_ := Aside0.mk (Kd.R_below (by (with_reducible repeat (first | apply Kd.R_alloc | apply Kd.R_drewN | apply Kd.R_drew)); exact HO_8.out) hb); have n1_ := Aside0.mk (Kd.R_below (by (with_reducible repeat (first | apply Kd.R_alloc | apply Kd.R_drewN | apply Kd.R_drew)); exact HO346.out) hb); have n2_ := Aside0.mk (below_step (by repeat (first | (with_reducible first | exact HB.out | apply below_alloc | apply pw_below_drewN | apply below_drew1) | exact HB.out)) hb); clear HO_8; clear HO346; clear HB; have HO_8 := n0_; have HO346 := n1_; have HB := n2_; clear n0_ n1_ n2_; (try clear hb); (try clear hb2); (try clear hk); (try clear hi)))
                    go_ret
                    exact ⟨by first | rfl | (simp [errW_none, errW_some] <;> rfl) | (simp [*, errW_none, errW_some] <;> rfl), by repeat (first | (with_reducible first | exact HB.out | apply below_alloc | apply pw_below_drewN | apply below_drew1) | exact HB.out)⟩
                · rw [if_neg c80] at H
                  have c80b0 : (t342 == x10_13) = false := beq_eq_false_iff_ne.mpr c80
                  have c80b1 : (t342 != x10_13) = true := bne_iff_ne.mpr c80
                  obtain rfl := Option.some.inj H
                  obtain ⟨Ao96, co96, eo96⟩ := Kd.R_slice HO_8.out
                  subst eo96
                  go_wp2_with (first | ((with_reducible refine gate_callee (f := 13) rfl ?_); refine goesL_ (some 72) rfl rfl Tryd.func13 (by kernel_rfl) rfl #[.slice Ao96 x8_13.length co96] rfl (by (try simp only [List.map_toArray, List.map_cons, List.map_nil]); first | done | rfl | (simp only [List.length_drop, List.length_take]; rfl)) ?_; (with_reducible refine (label_Put.calls kj13 _ _ x8_13 t341 t342 _ ?side1 ?side2 A76.out).mono ?_); (case side1 => repeat (first | exact (Kd.R_reads' HO_8.out).2.2 | (with_reducible refine Kd.C_alloc ?_ _) | (with_reducible refine Kd.C_drewN ?_ _) | (with_reducible refine Kd.C_drew ?_))); (case side2 => exact (Kd.R_reads' HO_8.out).2.1); rintro e w97 ⟨rfl, hb⟩; refine ⟨_, rfl, ?_⟩; have n0_ := Aside0.mk (Kd.R_below (by (with_reducible repeat (first | apply Kd.R_alloc | apply Kd.R_drewN | apply Kd.R_drew)); exact HO_8.out) hb); have n1_ := Aside0.mk (below_step (by repeat (first | (with_reducible first | exact HB.out | apply below_alloc | apply pw_below_drewN | apply below_drew1) | exact HB.out)) hb); clear HO_8; clear HB; have HO_8 := n0_; have HB := n1_; clear n0_ n1_; (try clear hb); (try clear hb2); (try clear hk); (try clear hi)) | ((with_reducible refine gate_callee (f := 14) rfl ?_); refine goesL_ (some 77) rfl rfl Tryd.func14 (by kernel_rfl) rfl #[.slice Ao96 x8_13.length co96] rfl (by (try simp only [List.map_toArray, List.map_cons, List.map_nil]); first | done | rfl | (simp only [List.length_drop, List.length_take]; rfl)) ?_; (with_reducible refine (label_Canon.calls kj13 _ _ x8_13 t343 t344 _ ?side1 ?side2 A77.out).mono ?_); (case side1 => repeat (first | exact (Kd.R_reads' HO_8.out).2.2 | (with_reducible refine Kd.C_alloc ?_ _) | (with_reducible refine Kd.C_drewN ?_ _) | (with_reducible refine Kd.C_drew ?_))); (case side2 => exact (Kd.R_reads' HO_8.out).2.1); rintro e w98 ⟨v345, rfl, ho0, hb⟩; refine ⟨_, rfl, ?_⟩; have n0_ := Aside0.mk (Kd.R_elder' (by (with_reducible repeat (first | apply Kd.R_alloc | apply Kd.R_drewN | apply Kd.R_drew)); exact HO_8.out) (Kd.R_base ho0) hb); have n1_ := Aside0.mk (Kd.R_lower (Kd.R_new' ho0 (Kd.R_lt (by (with_reducible repeat (first | apply Kd.R_alloc | apply Kd.R_drewN | apply Kd.R_drew)); exact HO_8.out))) (below_size (by repeat (first | (with_reducible first | exact HB.out | apply below_alloc | apply pw_below_drewN | apply below_drew1) | exact HB.out)))); have n2_ := Aside0.mk (below_step (by repeat (first | (with_reducible first | exact HB.out | apply below_alloc | apply pw_below_drewN | apply below_drew1) | exact HB.out)) hb); clear HO_8; clear HB; have HO_8 := n0_; have HO346 := n1_; have HB := n2_; clear n0_ n1_ n2_; (try clear hb); (try clear hb2); (try clear hk); (try clear hi); (try clear ho0)) | ((with_reducible refine gate_callee (f := 15) rfl ?_); refine goesL_ (some 81) rfl rfl Tryd.func15 (by kernel_rfl) rfl #[.slice Ao96 x8_13.length co96] rfl (by (try simp only [List.map_toArray, List.map_cons, List.map_nil]); first | done | rfl | (simp only [List.length_drop, List.length_take]; rfl)) ?_; (with_reducible refine (label_Check.calls kj13 _ _ x8_13 t347 _ ?side1 ?side2 A78.out).mono ?_); (case side1 => repeat (first | exact (Kd.R_reads' HO_8.out).2.2 | (with_reducible refine Kd.C_alloc ?_ _) | (with_reducible refine Kd.C_drewN ?_ _) | (with_reducible refine Kd.C_drew ?_))); (case side2 => exact (Kd.R_reads' HO_8.out).2.1); rintro e w99 ⟨rfl, hb⟩; refine ⟨_, rfl, ?_⟩; have n0_ := Aside0.mk (Kd.R_below (by (with_reducible repeat (first | apply Kd.R_alloc | apply Kd.R_drewN | apply Kd.R_drew)); exact HO_8.out) hb); have n1_ := Aside0.mk (Kd.R_below (by (with_reducible repeat (first | apply Kd.R_alloc | apply Kd.R_drewN | apply Kd.R_drew)); exact HO346.out) hb); have n2_ := Aside0.mk (below_step (by repeat (first | (with_reducible first | exact HB.out | apply below_alloc | apply pw_below_drewN | apply below_drew1) | exact HB.out)) hb); clear HO_8; clear HO346; clear HB; have HO_8 := n0_; have HO346 := n1_; have HB := n2_; clear n0_ n1_ n2_; (try clear hb); (try clear hb2); (try clear hk); (try clear hi)))
                  go_ret
                  exact ⟨by first | rfl | (simp [errW_none, errW_some] <;> rfl) | (simp [*, errW_none, errW_some] <;> rfl), by repeat (first | (with_reducible first | exact HB.out | apply below_alloc | apply pw_below_drewN | apply below_drew1) | exact HB.out)⟩
              · rw [if_neg c79] at H
                have c79b0 : (t347 == x10_13) = false := beq_eq_false_iff_ne.mpr c79
                have c79b1 : (t347 != x10_13) = true := bne_iff_ne.mpr c79
                obtain rfl := Option.some.inj H
                obtain ⟨Ao100, co100, eo100⟩ := Kd.R_slice HO_8.out
                subst eo100
                go_wp2_with (first | ((with_reducible refine gate_callee (f := 13) rfl ?_); refine goesL_ (some 72) rfl rfl Tryd.func13 (by kernel_rfl) rfl #[.slice Ao100 x8_13.length co100] rfl (by (try simp only [List.map_toArray, List.map_cons, List.map_nil]); first | done | rfl | (simp only [List.length_drop, List.length_take]; rfl)) ?_; (with_reducible refine (label_Put.calls kj13 _ _ x8_13 t341 t342 _ ?side1 ?side2 A76.out).mono ?_); (case side1 => repeat (first | exact (Kd.R_reads' HO_8.out).2.2 | (with_reducible refine Kd.C_alloc ?_ _) | (with_reducible refine Kd.C_drewN ?_ _) | (with_reducible refine Kd.C_drew ?_))); (case side2 => exact (Kd.R_reads' HO_8.out).2.1); rintro e w101 ⟨rfl, hb⟩; refine ⟨_, rfl, ?_⟩; have n0_ := Aside0.mk (Kd.R_below (by (with_reducible repeat (first | apply Kd.R_alloc | apply Kd.R_drewN | apply Kd.R_drew)); exact HO_8.out) hb); have n1_ := Aside0.mk (below_step (by repeat (first | (with_reducible first | exact HB.out | apply below_alloc | apply pw_below_drewN | apply below_drew1) | exact HB.out)) hb); clear HO_8; clear HB; have HO_8 := n0_; have HB := n1_; clear n0_ n1_; (try clear hb); (try clear hb2); (try clear hk); (try clear hi)) | ((with_reducible refine gate_callee (f := 14) rfl ?_); refine goesL_ (some 77) rfl rfl Tryd.func14 (by kernel_rfl) rfl #[.slice Ao100 x8_13.length co100] rfl (by (try simp only [List.map_toArray, List.map_cons, List.map_nil]); first | done | rfl | (simp only [List.length_drop, List.length_take]; rfl)) ?_; (with_reducible refine (label_Canon.calls kj13 _ _ x8_13 t343 t344 _ ?side1 ?side2 A77.out).mono ?_); (case side1 => repeat (first | exact (Kd.R_reads' HO_8.out).2.2 | (with_reducible refine Kd.C_alloc ?_ _) | (with_reducible refine Kd.C_drewN ?_ _) | (with_reducible refine Kd.C_drew ?_))); (case side2 => exact (Kd.R_reads' HO_8.out).2.1); rintro e w102 ⟨v345, rfl, ho0, hb⟩; refine ⟨_, rfl, ?_⟩; have n0_ := Aside0.mk (Kd.R_elder' (by (with_reducible repeat (first | apply Kd.R_alloc | apply Kd.R_drewN | apply Kd.R_drew)); exact HO_8.out) (Kd.R_base ho0) hb); have n1_ := Aside0.mk (Kd.R_lower (Kd.R_new' ho0 (Kd.R_lt (by (with_reducible repeat (first | apply Kd.R_alloc | apply Kd.R_drewN | apply Kd.R_drew)); exact HO_8.out))) (below_size (by repeat (first | (with_reducible first | exact HB.out | apply below_alloc | apply pw_below_drewN | apply below_drew1) | exact HB.out)))); have n2_ := Aside0.mk (below_step (by repeat (first | (with_reducible first | exact HB.out | apply below_alloc | apply pw_below_drewN | apply below_drew1) | exact HB.out)) hb); clear HO_8; clear HB; have HO_8 := n0_; have HO346 := n1_; have HB := n2_; clear n0_ n1_ n2_; (try clear hb); (try clear hb2); (try clear hk); (try clear hi); (try clear ho0)) | ((with_reducible refine gate_callee (f := 15) rfl ?_); refine goesL_ (some 81) rfl rfl Tryd.func15 (by kernel_rfl) rfl #[.slice Ao100 x8_13.length co100] rfl (by (try simp only [List.map_toArray, List.map_cons, List.map_nil]); first | done | rfl | (simp only [List.length_drop, List.length_take]; rfl)) ?_; (with_reducible refine (label_Check.calls kj13 _ _ x8_13 t347 _ ?side1 ?side2 A78.out).mono ?_); (case side1 => repeat (first | exact (Kd.R_reads' HO_8.out).2.2 | (with_reducible refine Kd.C_alloc ?_ _) | (with_reducible refine Kd.C_drewN ?_ _) | (with_reducible refine Kd.C_drew ?_))); (case side2 => exact (Kd.R_reads' HO_8.out).2.1); rintro e w103 ⟨rfl, hb⟩; refine ⟨_, rfl, ?_⟩; have n0_ := Aside0.mk (Kd.R_below (by (with_reducible repeat (first | apply Kd.R_alloc | apply Kd.R_drewN | apply Kd.R_drew)); exact HO_8.out) hb); have n1_ := Aside0.mk (Kd.R_below (by (with_reducible repeat (first | apply Kd.R_alloc | apply Kd.R_drewN | apply Kd.R_drew)); exact HO346.out) hb); have n2_ := Aside0.mk (below_step (by repeat (first | (with_reducible first | exact HB.out | apply below_alloc | apply pw_below_drewN | apply below_drew1) | exact HB.out)) hb); clear HO_8; clear HO346; clear HB; have HO_8 := n0_; have HO346 := n1_; have HB := n2_; clear n0_ n1_ n2_; (try clear hb); (try clear hb2); (try clear hk); (try clear hi)))
                go_ret
                exact ⟨by first | rfl | (simp [errW_none, errW_some] <;> rfl) | (simp [*, errW_none, errW_some] <;> rfl), by repeat (first | (with_reducible first | exact HB.out | apply below_alloc | apply pw_below_drewN | apply below_drew1) | exact HB.out)⟩

/-- THE ONE PURE STATEMENT of postroomlaw3_LabelErrs. -/
def postroomlaw3_LabelErrs.Pure : Prop := ∀ (l0 : List Int) (a1 : Int) (a2 : Int), l0.length ≤ maxLen → l0.length * 8 ≤ 140737488351232 → (∀ x ∈ l0, (Lit.int .i64 x).wf = true) → (Lit.int .i64 a1).wf = true → (Lit.int .i64 a2).wf = true → ∃ k, postroomlaw3_LabelErrs.f k l0 a1 a2 = some true
theorem postroomlaw3_LabelErrs.walk (P : postroomlaw3_LabelErrs.Pure) (A0 : Option Addr) (c0 : Nat) (l0 : List Int) (a1 : Int) (a2 : Int) (w : World) (hr0 : Kd.C (Kd.int .i64) w A0 l0.length l0) (hc0 : l0.length ≤ c0) (hm0 : l0.length ≤ maxLen) (hy0 : l0.length * 8 ≤ 140737488351232) (hw0 : (∀ x ∈ l0, (Lit.int .i64 x).wf = true)) (hw1 : (Lit.int .i64 a1).wf = true) (hw2 : (Lit.int .i64 a2).wf = true) :
    Calls Tryd.prog 3 #[.slice A0 l0.length c0, .int .i64 a1, .int .i64 a2] w fun e w' => e = .returned (.bool true) ∧ Below w.heap.size w w' := by
  obtain ⟨k, h⟩ := P l0 a1 a2 hm0 hy0 hw0 hw1 hw2
  refine (postroomlaw3_LabelErrs.calls k A0 c0 l0 a1 a2 true w hr0 hc0 h).mono ?_
  rintro e w' ⟨rfl, hd⟩
  exact ⟨rfl, hd⟩

end Go.Proofs.YtkgelkdaodcjcaaDoor.XLbl
