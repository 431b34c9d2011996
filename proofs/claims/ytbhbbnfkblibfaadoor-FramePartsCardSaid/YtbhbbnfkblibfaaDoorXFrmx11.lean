/- What the functions of the translation answer, each as a plain Lean function, and that the code comes to it; for a law: its row. Conditions: none but those that each theorem names. Written by a program of this session (wip/xp). -/
import Derived.Test.YtbhbbnfkblibfaaDoorXFrmx0
import Derived.Test.YtbhbbnfkblibfaaDoorXFrmx3
import Derived.Test.YtbhbbnfkblibfaaDoorXFrmx4
import Derived.Test.YtbhbbnfkblibfaaDoorXFrmx5
import Derived.Test.YtbhbbnfkblibfaaDoorXFrmx8
import Derived.Test.YtbhbbnfkblibfaaDoorGFrameScan
namespace Go.Proofs.YtbhbbnfkblibfaaDoor.XFrm
open Go.RowKit Go.Proofs.YtbhbbnfkblibfaaDoorW.PrintWords Go.Proofs.YtbhbbnfkblibfaaDoorW.PrintLast Go.Proofs.YtbhbbnfkblibfaaDoorW.PrintMore
attribute [local go_sem] max2_int min2_int max_two min_two max_three min_three max_four min_four   -- for this text's walks alone
set_option linter.unusedVariables false
set_option linter.unusedSimpArgs false

/-! ### postroomlaw6_FrameParts: function 7 -/
mutual
def postroomlaw6_FrameParts.j0 : Nat → Int → List ByteArray → ByteArray → Bool → Bool → Option (Bool)
  | 0, _, _, _, _, _ => none
  | k + 1, x0, x1, x2, x7, x25 => if x25 = true then (some x7) else ((postroomlaw6_row.f k x0 x1).bind fun bt262 => ((frame_Scan.f k x2).bind fun bt266 => (if bt262.2.size + x2.size ≤ 9223372036854775807 then ((frame_Scan.f k (bt262.2 ++ x2)).bind fun bt270 => (if bt266.2 < 0 then (postroomlaw6_FrameParts.j1 k x2 bt266.1 bt266.2 true) else (if bt266.2 > (x2.size : Int) then (postroomlaw6_FrameParts.j1 k x2 bt266.1 bt266.2 true) else (if bt270.2 = (wrap64 (bt266.2 + (bt262.2.size : Int))) then ((postroomlaw6_as.f k bt270.1).bind fun t274 => ((some (([] : List (S43)) : List (S43))).bind fun y277 => (if y277.length + bt262.1.length < 4398046511104 then ((some (y277 ++ bt262.1 : List (S43))).bind fun y280 => ((postroomlaw6_as.f k bt266.1).bind fun t283 => (if y280.length + t283.length < 4398046511104 then ((postroomref6_Same.f k t274 (y280 ++ t283)).bind fun t289 => (postroomlaw6_FrameParts.j1 k x2 bt266.1 bt266.2 (!t289))) else (none)))) else (none)))) else (postroomlaw6_FrameParts.j1 k x2 bt266.1 bt266.2 true))))) else (none))))
def postroomlaw6_FrameParts.j1 : Nat → ByteArray → List (S28) → Int → Bool → Option (Bool)
  | 0, _, _, _, _ => none
  | k + 1, x2, x10, x11, x72 => if x72 = true then (some false) else (postroomlaw6_FrameParts.l0 k x2 x10 x11 (⟨#[]⟩ : ByteArray) 0)
def postroomlaw6_FrameParts.l0 : Nat → ByteArray → List (S28) → Int → ByteArray → Int → Option (Bool)
  | 0, _, _, _, _, _ => none
  | k + 1, x2, x10, x11, x14, x15 => if x15 < (x10.length : Int) then (if 0 ≤ x15 then ((frame_Put.f k ((rd_T28 x10 x15).f0) ((rd_T28 x10 x15).f1)).bind fun bt292 => (if bt292.2 = 0 then (if (bt292.1.size : Int) = ((rd_T28 x10 x15).f2) then (if x14.size + bt292.1.size ≤ 9223372036854775807 then (postroomlaw6_FrameParts.l0 k x2 x10 x11 (x14 ++ bt292.1) (wrap64 (x15 + 1))) else (none)) else (some false)) else (some false))) else (none)) else (if 0 ≤ x11 then (if x11 ≤ (x2.size : Int) then (some (x14.toList == (x2.extract 0 (x11 : Int).toNat).toList)) else (none)) else (none))
end
def postroomlaw6_FrameParts.f (k : Nat) (a0 : Int) (l1 : List ByteArray) (a2 : ByteArray) : Option (Bool) := (postroomlaw6_shown.f k).bind fun t261 => (if t261 = true then (postroomlaw6_FrameParts.j0 k a0 l1 a2 t261 (decide ((a2.size : Int) > 2000))) else (postroomlaw6_FrameParts.j0 k a0 l1 a2 t261 true))
theorem postroomlaw6_FrameParts.mono_l : ∀ k, (∀ y0 y1 y2 y3 y4, LeO (postroomlaw6_FrameParts.j0 k y0 y1 y2 y3 y4) (postroomlaw6_FrameParts.j0 (k + 1) y0 y1 y2 y3 y4)) ∧ (∀ y0 y1 y2 y3, LeO (postroomlaw6_FrameParts.j1 k y0 y1 y2 y3) (postroomlaw6_FrameParts.j1 (k + 1) y0 y1 y2 y3)) ∧ (∀ y0 y1 y2 y3 y4, LeO (postroomlaw6_FrameParts.l0 k y0 y1 y2 y3 y4) (postroomlaw6_FrameParts.l0 (k + 1) y0 y1 y2 y3 y4))
  | 0 => ⟨fun _ _ _ _ _ r h => by simp [postroomlaw6_FrameParts.j0] at h, fun _ _ _ _ r h => by simp [postroomlaw6_FrameParts.j1] at h, fun _ _ _ _ _ r h => by simp [postroomlaw6_FrameParts.l0] at h⟩
  | k + 1 => by
    obtain ⟨ih0, ih1, ih2⟩ := postroomlaw6_FrameParts.mono_l k
    refine ⟨?_, ?_, ?_⟩
    · intro y0 y1 y2 y3 y4
      unfold postroomlaw6_FrameParts.j0
      repeat' first
      | (with_reducible exact ih0 _ _ _ _ _)
      | (with_reducible exact ih1 _ _ _ _)
      | (with_reducible exact ih2 _ _ _ _ _)
      | (with_reducible exact frame_Put.mono _ _ _)
      | (with_reducible exact frame_Scan.mono _ _)
      | (with_reducible exact postroomlaw6_as.mono _ _)
      | (with_reducible exact postroomlaw6_row.mono _ _ _)
      | (with_reducible exact postroomlaw6_shown.mono _)
      | (with_reducible exact postroomref6_Same.mono _ _ _)
      | (with_reducible exact LeO.refl _)
      | (with_reducible exact LeO.none _)
      | (with_reducible refine LeO.ite ?_ ?_)
      | (with_reducible refine LeO.bind ?_ (fun _ => ?_))
      | exact ih0 _ _ _ _ _
      | exact ih1 _ _ _ _
      | exact ih2 _ _ _ _ _
      | exact frame_Put.mono _ _ _
      | exact frame_Scan.mono _ _
      | exact postroomlaw6_as.mono _ _
      | exact postroomlaw6_row.mono _ _ _
      | exact postroomlaw6_shown.mono _
      | exact postroomref6_Same.mono _ _ _
      | exact LeO.none _
      | refine LeO.ite ?_ ?_
      | refine LeO.bind ?_ (fun _ => ?_)
    · intro y0 y1 y2 y3
      unfold postroomlaw6_FrameParts.j1
      repeat' first
      | (with_reducible exact ih0 _ _ _ _ _)
      | (with_reducible exact ih1 _ _ _ _)
      | (with_reducible exact ih2 _ _ _ _ _)
      | (with_reducible exact frame_Put.mono _ _ _)
      | (with_reducible exact frame_Scan.mono _ _)
      | (with_reducible exact postroomlaw6_as.mono _ _)
      | (with_reducible exact postroomlaw6_row.mono _ _ _)
      | (with_reducible exact postroomlaw6_shown.mono _)
      | (with_reducible exact postroomref6_Same.mono _ _ _)
      | (with_reducible exact LeO.refl _)
      | (with_reducible exact LeO.none _)
      | (with_reducible refine LeO.ite ?_ ?_)
      | (with_reducible refine LeO.bind ?_ (fun _ => ?_))
      | exact ih0 _ _ _ _ _
      | exact ih1 _ _ _ _
      | exact ih2 _ _ _ _ _
      | exact frame_Put.mono _ _ _
      | exact frame_Scan.mono _ _
      | exact postroomlaw6_as.mono _ _
      | exact postroomlaw6_row.mono _ _ _
      | exact postroomlaw6_shown.mono _
      | exact postroomref6_Same.mono _ _ _
      | exact LeO.none _
      | refine LeO.ite ?_ ?_
      | refine LeO.bind ?_ (fun _ => ?_)
    · intro y0 y1 y2 y3 y4
      unfold postroomlaw6_FrameParts.l0
      repeat' first
      | (with_reducible exact ih0 _ _ _ _ _)
      | (with_reducible exact ih1 _ _ _ _)
      | (with_reducible exact ih2 _ _ _ _ _)
      | (with_reducible exact frame_Put.mono _ _ _)
      | (with_reducible exact frame_Scan.mono _ _)
      | (with_reducible exact postroomlaw6_as.mono _ _)
      | (with_reducible exact postroomlaw6_row.mono _ _ _)
      | (with_reducible exact postroomlaw6_shown.mono _)
      | (with_reducible exact postroomref6_Same.mono _ _ _)
      | (with_reducible exact LeO.refl _)
      | (with_reducible exact LeO.none _)
      | (with_reducible refine LeO.ite ?_ ?_)
      | (with_reducible refine LeO.bind ?_ (fun _ => ?_))
      | exact ih0 _ _ _ _ _
      | exact ih1 _ _ _ _
      | exact ih2 _ _ _ _ _
      | exact frame_Put.mono _ _ _
      | exact frame_Scan.mono _ _
      | exact postroomlaw6_as.mono _ _
      | exact postroomlaw6_row.mono _ _ _
      | exact postroomlaw6_shown.mono _
      | exact postroomref6_Same.mono _ _ _
      | exact LeO.none _
      | refine LeO.ite ?_ ?_
      | refine LeO.bind ?_ (fun _ => ?_)
theorem postroomlaw6_FrameParts.mono : ∀ a0 a1 a2 k, LeO (postroomlaw6_FrameParts.f k a0 a1 a2) (postroomlaw6_FrameParts.f (k + 1) a0 a1 a2) := by
  intro a0 a1 a2 k
  obtain ⟨ih0, ih1, ih2⟩ := postroomlaw6_FrameParts.mono_l k
  unfold postroomlaw6_FrameParts.f
  repeat' first
      | (with_reducible exact ih0 _ _ _ _ _)
      | (with_reducible exact ih1 _ _ _ _)
      | (with_reducible exact ih2 _ _ _ _ _)
      | (with_reducible exact frame_Put.mono _ _ _)
      | (with_reducible exact frame_Scan.mono _ _)
      | (with_reducible exact postroomlaw6_as.mono _ _)
      | (with_reducible exact postroomlaw6_row.mono _ _ _)
      | (with_reducible exact postroomlaw6_shown.mono _)
      | (with_reducible exact postroomref6_Same.mono _ _ _)
      | (with_reducible exact LeO.refl _)
      | (with_reducible exact LeO.none _)
      | (with_reducible refine LeO.ite ?_ ?_)
      | (with_reducible refine LeO.bind ?_ (fun _ => ?_))
      | exact ih0 _ _ _ _ _
      | exact ih1 _ _ _ _
      | exact ih2 _ _ _ _ _
      | exact frame_Put.mono _ _ _
      | exact frame_Scan.mono _ _
      | exact postroomlaw6_as.mono _ _
      | exact postroomlaw6_row.mono _ _ _
      | exact postroomlaw6_shown.mono _
      | exact postroomref6_Same.mono _ _ _
      | exact LeO.none _
      | refine LeO.ite ?_ ?_
      | refine LeO.bind ?_ (fun _ => ?_)
def postroomlaw6_FrameParts.T13 : Bool × List (List Nat × List Nat) := (true, [([], []), ([], []), ([0, 1], [0, 1]), ([2], [2]), ([3], [3]), ([], []), ([], []), ([5, 6], [5, 6]), ([7], [7]), ([8], [8]), ([4, 9], [4, 9]), ([10], [10]), ([11], [11]), ([11], [11]), ([12, 10, 0, 1, 2, 3, 4, 5, 6, 7, 8, 9, 10, 11, 12], [12]), ([13, 14, 0, 1, 2, 3, 4, 5, 6, 7, 8, 9, 10, 11, 12, 13, 14], [13])])
def postroomlaw6_FrameParts.B13 : List Nat := [0, 0, 3, 7, 15, 0, 0, 96, 224, 480, 1023, 2047, 4095, 4095, 8191, 32767]
theorem postroomlaw6_FrameParts.tab13 : rtab .any (opsOf Tryd.f7 13) = postroomlaw6_FrameParts.T13 := by kernel_rfl
theorem postroomlaw6_FrameParts.bits13 : waitsOk postroomlaw6_FrameParts.T13.2 postroomlaw6_FrameParts.B13 = true := by kernel_rfl
set_option maxHeartbeats 8000000 in
set_option maxRecDepth 100000 in
theorem postroomlaw6_FrameParts.calls (k : Nat) (a0 : Int) (A1 : Option Addr) (c1 : Nat) (l1 : List ByteArray) (a2 : ByteArray) (r : Bool) (w : World) (hr1 : Kd.C Kd.string w A1 l1.length l1) (hc1 : l1.length ≤ c1) (hT : Tabs w) (h : postroomlaw6_FrameParts.f k a0 l1 a2 = some r) :
    Calls Tryd.prog 7 #[.int .u64 a0, .slice A1 l1.length c1, .string a2] w fun e w' => e = .returned (.bool r) ∧ Below w.heap.size w w' := by
  have HR1 := Aside0.mk hr1
  have HC1 := Aside0.mk hc1
  clear hr1 hc1
  have HT := Aside0.mk hT
  clear hT
  have HB := Aside0.mk (Below.refl w.heap.size w)
  have H : ((postroomlaw6_shown.f k).bind fun t261 => (if t261 = true then (postroomlaw6_FrameParts.j0 k a0 l1 a2 t261 (decide ((a2.size : Int) > 2000))) else (postroomlaw6_FrameParts.j0 k a0 l1 a2 t261 true))) = some r := h
  clear h
  replace H := Option.bind_eq_some_iff.mp H
  obtain ⟨t261, A40, H⟩ := H
  replace H : (if t261 = true then (postroomlaw6_FrameParts.j0 k a0 l1 a2 t261 (decide ((a2.size : Int) > 2000))) else (postroomlaw6_FrameParts.j0 k a0 l1 a2 t261 true)) = some r := H
  have A4 := Aside0.mk A40
  clear A40
  have HC5 := Aside0.mk H
  clear H
  go_enter Tryd.func7, Tryd.ntmps7
  go_upto_region 2 with (first | ((with_reducible refine gate_callee (f := 10) rfl ?_); refine goesL_ (some 18) rfl rfl Tryd.func10 (by kernel_rfl) rfl #[] rfl (by (try simp only [List.map_toArray, List.map_cons, List.map_nil]); first | done | rfl | (simp only [List.length_drop, List.length_take]; rfl)) ?_; (with_reducible refine (postroomlaw6_shown.calls k  t261 _ ?side1 A4.out).mono ?_); (case side1 => exact Tabs.below HT.out (by repeat (first | (with_reducible first | exact HB.out | apply below_alloc | apply pw_below_drewN | apply below_drew1) | exact HB.out))); rintro e w6 ⟨rfl, hb⟩; refine ⟨_, rfl, ?_⟩; have n0_ := Aside0.mk (below_step (by repeat (first | (with_reducible first | exact HB.out | apply below_alloc | apply pw_below_drewN | apply below_drew1) | exact HB.out)) hb); clear HB; have HB := n0_; clear n0_; (try clear hb); (try clear hb2); (try clear hk); (try clear hi)))
  (try simp only [Act.put, List.setIfInBounds_toArray, List.set_cons_zero, List.set_cons_succ])
  go_cut [25] (fun v25 wc => ∃ (kq : Nat) (x25_4 : Bool), v25 = .bool x25_4 ∧ Aside0 (postroomlaw6_FrameParts.j0 kq a0 l1 a2 t261 x25_4 = some r) ∧ Aside0 (kq ≤ k) ∧ Aside0 (Below w.heap.size w wc))
  case first =>
    have H := HC5.out
    clear HC5
    by_cases c7 : t261 = true
    · subst c7
      have H1 : (postroomlaw6_FrameParts.j0 k a0 l1 a2 true (decide ((a2.size : Int) > 2000))) = some r := by rw [if_pos rfl] at H; exact H
      clear H
      have H := H1
      clear H1
      have H' := Aside0.mk H
      clear H
      go_wp2
      go_meet
      case rel => exact ⟨_, (decide ((a2.size : Int) > 2000)), (by first | rfl | (simp; done) | (simp [*]; done)), H', ⟨by first | omega | exact Nat.le_refl _⟩, ⟨by repeat (first | (with_reducible first | exact HB.out | apply below_alloc | apply pw_below_drewN | apply below_drew1) | exact HB.out)⟩⟩
    · replace c7 := Bool.eq_false_iff.mpr c7
      subst c7
      have H1 : (postroomlaw6_FrameParts.j0 k a0 l1 a2 false true) = some r := by rw [if_neg (show ¬ (false = true) by decide)] at H; exact H
      clear H
      have H := H1
      clear H1
      have H' := Aside0.mk H
      clear H
      go_wp2
      go_meet
      case rel => exact ⟨_, (true), (by first | rfl | (simp; done) | (simp [*]; done)), H', ⟨by first | omega | exact Nat.le_refl _⟩, ⟨by repeat (first | (with_reducible first | exact HB.out | apply below_alloc | apply pw_below_drewN | apply below_drew1) | exact HB.out)⟩⟩
  case rest =>
    clear HC5
    try clear c1
    try clear p2
    try clear c7
    obtain ⟨kq, x25_4, rfl, HA, HJ4, HB⟩ := hcut
    cases kq with
    | zero => exact absurd HA.out (by simp [postroomlaw6_FrameParts.j0])
    | succ kj4 =>
      have H := HA.out
      clear HA
      simp only [postroomlaw6_FrameParts.j0] at H
      by_cases c8 : x25_4 = true
      · subst c8
        have H1 : (some t261) = some r := by rw [if_pos rfl] at H; exact H
        clear H
        have H := H1
        clear H1
        obtain rfl := Option.some.inj H
        go_wp2
        go_ret
        exact ⟨by first | rfl | (simp [errW_none, errW_some] <;> rfl) | (simp [*, errW_none, errW_some] <;> rfl), by repeat (first | (with_reducible first | exact HB.out | apply below_alloc | apply pw_below_drewN | apply below_drew1) | exact HB.out)⟩
      · replace c8 := Bool.eq_false_iff.mpr c8
        subst c8
        have H1 : ((postroomlaw6_row.f kj4 a0 l1).bind fun bt262 => ((frame_Scan.f kj4 a2).bind fun bt266 => (if bt262.2.size + a2.size ≤ 9223372036854775807 then ((frame_Scan.f kj4 (bt262.2 ++ a2)).bind fun bt270 => (if bt266.2 < 0 then (postroomlaw6_FrameParts.j1 kj4 a2 bt266.1 bt266.2 true) else (if bt266.2 > (a2.size : Int) then (postroomlaw6_FrameParts.j1 kj4 a2 bt266.1 bt266.2 true) else (if bt270.2 = (wrap64 (bt266.2 + (bt262.2.size : Int))) then ((postroomlaw6_as.f kj4 bt270.1).bind fun t274 => ((some (([] : List (S43)) : List (S43))).bind fun y277 => (if y277.length + bt262.1.length < 4398046511104 then ((some (y277 ++ bt262.1 : List (S43))).bind fun y280 => ((postroomlaw6_as.f kj4 bt266.1).bind fun t283 => (if y280.length + t283.length < 4398046511104 then ((postroomref6_Same.f kj4 t274 (y280 ++ t283)).bind fun t289 => (postroomlaw6_FrameParts.j1 kj4 a2 bt266.1 bt266.2 (!t289))) else (none)))) else (none)))) else (postroomlaw6_FrameParts.j1 kj4 a2 bt266.1 bt266.2 true))))) else (none)))) = some r := by rw [if_neg (show ¬ (false = true) by decide)] at H; exact H
        clear H
        have H := H1
        clear H1
        replace H := Option.bind_eq_some_iff.mp H
        obtain ⟨⟨t262, t263⟩, A90, H⟩ := H
        replace H : ((frame_Scan.f kj4 a2).bind fun bt266 => (if t263.size + a2.size ≤ 9223372036854775807 then ((frame_Scan.f kj4 (t263 ++ a2)).bind fun bt270 => (if bt266.2 < 0 then (postroomlaw6_FrameParts.j1 kj4 a2 bt266.1 bt266.2 true) else (if bt266.2 > (a2.size : Int) then (postroomlaw6_FrameParts.j1 kj4 a2 bt266.1 bt266.2 true) else (if bt270.2 = (wrap64 (bt266.2 + (t263.size : Int))) then ((postroomlaw6_as.f kj4 bt270.1).bind fun t274 => ((some (([] : List (S43)) : List (S43))).bind fun y277 => (if y277.length + t262.length < 4398046511104 then ((some (y277 ++ t262 : List (S43))).bind fun y280 => ((postroomlaw6_as.f kj4 bt266.1).bind fun t283 => (if y280.length + t283.length < 4398046511104 then ((postroomref6_Same.f kj4 t274 (y280 ++ t283)).bind fun t289 => (postroomlaw6_FrameParts.j1 kj4 a2 bt266.1 bt266.2 (!t289))) else (none)))) else (none)))) else (postroomlaw6_FrameParts.j1 kj4 a2 bt266.1 bt266.2 true))))) else (none))) = some r := H
        have A9 := Aside0.mk A90
        clear A90
        replace H := Option.bind_eq_some_iff.mp H
        obtain ⟨⟨t266, t267⟩, A100, H⟩ := H
        replace H : (if t263.size + a2.size ≤ 9223372036854775807 then ((frame_Scan.f kj4 (t263 ++ a2)).bind fun bt270 => (if t267 < 0 then (postroomlaw6_FrameParts.j1 kj4 a2 t266 t267 true) else (if t267 > (a2.size : Int) then (postroomlaw6_FrameParts.j1 kj4 a2 t266 t267 true) else (if bt270.2 = (wrap64 (t267 + (t263.size : Int))) then ((postroomlaw6_as.f kj4 bt270.1).bind fun t274 => ((some (([] : List (S43)) : List (S43))).bind fun y277 => (if y277.length + t262.length < 4398046511104 then ((some (y277 ++ t262 : List (S43))).bind fun y280 => ((postroomlaw6_as.f kj4 t266).bind fun t283 => (if y280.length + t283.length < 4398046511104 then ((postroomref6_Same.f kj4 t274 (y280 ++ t283)).bind fun t289 => (postroomlaw6_FrameParts.j1 kj4 a2 t266 t267 (!t289))) else (none)))) else (none)))) else (postroomlaw6_FrameParts.j1 kj4 a2 t266 t267 true))))) else (none)) = some r := H
        have A10 := Aside0.mk A100
        clear A100
        by_cases c11 : t263.size + a2.size ≤ 9223372036854775807
        · rw [if_pos c11] at H
          have c11b0 := eq_true c11
          have c11b1 : decide (t263.size + a2.size ≤ 9223372036854775807) = true := decide_eq_true c11
          try have c11b2 : (9223372036854775807 < t263.size + a2.size) = False := eq_false (Nat.not_lt.2 c11)
          clear c11
          replace H := Option.bind_eq_some_iff.mp H
          obtain ⟨⟨t270, t271⟩, A120, H⟩ := H
          replace H : (if t267 < 0 then (postroomlaw6_FrameParts.j1 kj4 a2 t266 t267 true) else (if t267 > (a2.size : Int) then (postroomlaw6_FrameParts.j1 kj4 a2 t266 t267 true) else (if t271 = (wrap64 (t267 + (t263.size : Int))) then ((postroomlaw6_as.f kj4 t270).bind fun t274 => ((some (([] : List (S43)) : List (S43))).bind fun y277 => (if y277.length + t262.length < 4398046511104 then ((some (y277 ++ t262 : List (S43))).bind fun y280 => ((postroomlaw6_as.f kj4 t266).bind fun t283 => (if y280.length + t283.length < 4398046511104 then ((postroomref6_Same.f kj4 t274 (y280 ++ t283)).bind fun t289 => (postroomlaw6_FrameParts.j1 kj4 a2 t266 t267 (!t289))) else (none)))) else (none)))) else (postroomlaw6_FrameParts.j1 kj4 a2 t266 t267 true)))) = some r := H
          have A12 := Aside0.mk A120
          clear A120
          have HC13 := Aside0.mk H
          clear H
          go_upto_region 7 with (first | ((with_reducible refine gate_callee (f := 15) rfl ?_); refine goesL_ (some 30) rfl rfl Tryd.func15 (by kernel_rfl) rfl #[.int .u64 a0, .slice A1 l1.length c1] rfl (by (try simp only [List.map_toArray, List.map_cons, List.map_nil]); first | done | rfl | (simp only [List.length_drop, List.length_take]; rfl)) ?_; (with_reducible refine (postroomlaw6_row.calls kj4 a0 _ _ l1 t262 t263 _ ?side1 ?side2 A9.out).mono ?_); (case side1 => repeat (first | exact (Kd.C_below HR1.out HB.out) | (with_reducible refine Kd.C_alloc ?_ _) | (with_reducible refine Kd.C_drewN ?_ _) | (with_reducible refine Kd.C_drew ?_))); (case side2 => exact HC1.out); rintro e w14 ⟨v264, rfl, ho0, hb⟩; refine ⟨_, rfl, ?_⟩; have n0_ := Aside0.mk (Kd.R_lower ho0 (below_size (by repeat (first | (with_reducible first | exact HB.out | apply below_alloc | apply pw_below_drewN | apply below_drew1) | exact HB.out)))); have n1_ := Aside0.mk (below_step (by repeat (first | (with_reducible first | exact HB.out | apply below_alloc | apply pw_below_drewN | apply below_drew1) | exact HB.out)) hb); clear HB; have HO265 := n0_; have HB := n1_; clear n0_ n1_; (try clear hb); (try clear hb2); (try clear hk); (try clear hi); (try clear ho0)) | ((with_reducible refine gate_callee (f := 16) rfl ?_); refine goesL_ (some 35) rfl rfl Tryd.func16 (by kernel_rfl) rfl #[.string a2] rfl (by (try simp only [List.map_toArray, List.map_cons, List.map_nil]); first | done | rfl | (simp only [List.length_drop, List.length_take]; rfl)) ?_; (with_reducible refine (frame_Scan.calls kj4 a2 t266 t267 _ ?side1 A10.out).mono ?_); (case side1 => exact Tabs.below HT.out (by repeat (first | (with_reducible first | exact HB.out | apply below_alloc | apply pw_below_drewN | apply below_drew1) | exact HB.out))); rintro e w15 ⟨v268, rfl, ho0, hb⟩; refine ⟨_, rfl, ?_⟩; have n0_ := Aside0.mk (Kd.R_below (by (with_reducible repeat (first | apply Kd.R_alloc | apply Kd.R_drewN | apply Kd.R_drew)); exact HO265.out) hb); have n1_ := Aside0.mk (Kd.R_lower ho0 (below_size (by repeat (first | (with_reducible first | exact HB.out | apply below_alloc | apply pw_below_drewN | apply below_drew1) | exact HB.out)))); have n2_ := Aside0.mk (below_step (by repeat (first | (with_reducible first | exact HB.out | apply below_alloc | apply pw_below_drewN | apply below_drew1) | exact HB.out)) hb); clear HO265; clear HB; have HO265 := n0_; have HO269 := n1_; have HB := n2_; clear n0_ n1_ n2_; (try clear hb); (try clear hb2); (try clear hk); (try clear hi); (try clear ho0)) | ((with_reducible refine gate_callee (f := 16) rfl ?_); refine goesL_ (some 42) rfl rfl Tryd.func16 (by kernel_rfl) rfl #[.string (t263 ++ a2)] rfl (by (try simp only [List.map_toArray, List.map_cons, List.map_nil]); first | done | rfl | (simp only [List.length_drop, List.length_take]; rfl)) ?_; (with_reducible refine (frame_Scan.calls kj4 (t263 ++ a2) t270 t271 _ ?side1 A12.out).mono ?_); (case side1 => exact Tabs.below HT.out (by repeat (first | (with_reducible first | exact HB.out | apply below_alloc | apply pw_below_drewN | apply below_drew1) | exact HB.out))); rintro e w16 ⟨v272, rfl, ho0, hb⟩; refine ⟨_, rfl, ?_⟩; have n0_ := Aside0.mk (Kd.R_below (by (with_reducible repeat (first | apply Kd.R_alloc | apply Kd.R_drewN | apply Kd.R_drew)); exact HO265.out) hb); have n1_ := Aside0.mk (Kd.R_elder' (by (with_reducible repeat (first | apply Kd.R_alloc | apply Kd.R_drewN | apply Kd.R_drew)); exact HO269.out) (Kd.R_base ho0) hb); have n2_ := Aside0.mk (Kd.R_lower (Kd.R_new' ho0 (Kd.R_lt (by (with_reducible repeat (first | apply Kd.R_alloc | apply Kd.R_drewN | apply Kd.R_drew)); exact HO269.out))) (below_size (by repeat (first | (with_reducible first | exact HB.out | apply below_alloc | apply pw_below_drewN | apply below_drew1) | exact HB.out)))); have n3_ := Aside0.mk (below_step (by repeat (first | (with_reducible first | exact HB.out | apply below_alloc | apply pw_below_drewN | apply below_drew1) | exact HB.out)) hb); clear HO265; clear HO269; clear HB; have HO265 := n0_; have HO269 := n1_; have HO273 := n2_; have HB := n3_; clear n0_ n1_ n2_ n3_; (try clear hb); (try clear hb2); (try clear hk); (try clear hi); (try clear ho0)))
          (try simp only [Act.put, List.setIfInBounds_toArray, List.set_cons_zero, List.set_cons_succ])
          go_cut [72] (fun v72 wc => ∃ (kq : Nat) (x72_12 : Bool), v72 = .bool x72_12 ∧ Aside0 (postroomlaw6_FrameParts.j1 kq a2 t266 t267 x72_12 = some r) ∧ Aside0 (kq ≤ kj4) ∧ Aside0 (Kd.R k28 28 wc w.heap.size (fun _ => True) v268 t266) ∧ Aside0 (Below w.heap.size w wc))
          case first =>
            have H := HC13.out
            clear HC13
            by_cases c17 : t267 < 0
            · rw [if_pos c17] at H
              have c17b0 : decide (t267 < 0) = true := decide_eq_true c17
              clear c17
              (first | rw [c17b0] | (simp only [i64_w, i32_w]; rw [c17b0]) | skip)
              have H' := Aside0.mk H
              clear H
              go_wp2
              go_meet
              case rel => exact ⟨_, (true), (by first | rfl | (simp; done) | (simp [*]; done)), H', ⟨by have := HJ4.out; first | omega | exact Nat.le_refl _⟩, ⟨by (with_reducible repeat (first | apply Kd.R_alloc | apply Kd.R_drewN | apply Kd.R_drew)); exact Kd.R_mono HO269.out (fun _ hk => trivial)⟩, ⟨by repeat (first | (with_reducible first | exact HB.out | apply below_alloc | apply pw_below_drewN | apply below_drew1) | exact HB.out)⟩⟩
            · rw [if_neg c17] at H
              have c17b0 : decide (t267 < 0) = false := decide_eq_false c17
              clear c17
              (first | rw [c17b0] | (simp only [i64_w, i32_w]; rw [c17b0]) | skip)
              by_cases c18 : t267 > (a2.size : Int)
              · rw [if_pos c18] at H
                have c18b0 : decide ((a2.size : Int) < t267) = true := decide_eq_true c18
                clear c18
                have H' := Aside0.mk H
                clear H
                go_wp2
                go_meet
                case rel => exact ⟨_, (true), (by first | rfl | (simp; done) | (simp [*]; done)), H', ⟨by have := HJ4.out; first | omega | exact Nat.le_refl _⟩, ⟨by (with_reducible repeat (first | apply Kd.R_alloc | apply Kd.R_drewN | apply Kd.R_drew)); exact Kd.R_mono HO269.out (fun _ hk => trivial)⟩, ⟨by repeat (first | (with_reducible first | exact HB.out | apply below_alloc | apply pw_below_drewN | apply below_drew1) | exact HB.out)⟩⟩
              · rw [if_neg c18] at H
                have c18b0 : decide ((a2.size : Int) < t267) = false := decide_eq_false c18
                clear c18
                by_cases c19 : t271 = (wrap64 (t267 + (t263.size : Int)))
                · rw [if_pos c19] at H
                  have c19b0 : (t271 == (wrap64 (t267 + (t263.size : Int)))) = true := beq_iff_eq.mpr c19
                  have c19b1 : (t271 != (wrap64 (t267 + (t263.size : Int)))) = false := bne_eq_false_iff_eq.mpr c19
                  clear c19
                  replace H := Option.bind_eq_some_iff.mp H
                  obtain ⟨t274, A200, H⟩ := H
                  replace H : ((some (([] : List (S43)) : List (S43))).bind fun y277 => (if y277.length + t262.length < 4398046511104 then ((some (y277 ++ t262 : List (S43))).bind fun y280 => ((postroomlaw6_as.f kj4 t266).bind fun t283 => (if y280.length + t283.length < 4398046511104 then ((postroomref6_Same.f kj4 t274 (y280 ++ t283)).bind fun t289 => (postroomlaw6_FrameParts.j1 kj4 a2 t266 t267 (!t289))) else (none)))) else (none))) = some r := H
                  have A20 := Aside0.mk A200
                  clear A200
                  obtain ⟨y277, hy277⟩ : ∃ y_ : List (S43), y_ = (([] : List (S43))) := ⟨_, rfl⟩
                  replace H : (if y277.length + t262.length < 4398046511104 then ((some (y277 ++ t262 : List (S43))).bind fun y280 => ((postroomlaw6_as.f kj4 t266).bind fun t283 => (if y280.length + t283.length < 4398046511104 then ((postroomref6_Same.f kj4 t274 (y280 ++ t283)).bind fun t289 => (postroomlaw6_FrameParts.j1 kj4 a2 t266 t267 (!t289))) else (none)))) else (none)) = some r := by first | (rw [hy277]; with_reducible exact H) | (have H2_ := (Option.bind_some _ _).symm.trans H; rw [hy277]; with_reducible exact H2_) | (have H2_ := (Option.bind_some _ _).symm.trans H; with_reducible exact H2_) | with_reducible exact H | (rw [hy277]; exact H) | exact H
                  have Ny277 := Aside0.mk hy277
                  clear hy277
                  by_cases c21 : y277.length + t262.length < 4398046511104
                  · rw [if_pos c21] at H
                    have LMc21 := Aside0.mk c21
                    clear c21
                    obtain ⟨y280, hy280⟩ : ∃ y_ : List (S43), y_ = (y277 ++ t262) := ⟨_, rfl⟩
                    replace H : ((postroomlaw6_as.f kj4 t266).bind fun t283 => (if y280.length + t283.length < 4398046511104 then ((postroomref6_Same.f kj4 t274 (y280 ++ t283)).bind fun t289 => (postroomlaw6_FrameParts.j1 kj4 a2 t266 t267 (!t289))) else (none))) = some r := by first | (rw [hy280]; with_reducible exact H) | (have H2_ := (Option.bind_some _ _).symm.trans H; rw [hy280]; with_reducible exact H2_) | (have H2_ := (Option.bind_some _ _).symm.trans H; with_reducible exact H2_) | with_reducible exact H | (rw [hy280]; exact H) | exact H
                    have Ny280 := Aside0.mk hy280
                    clear hy280
                    replace H := Option.bind_eq_some_iff.mp H
                    obtain ⟨t283, A220, H⟩ := H
                    replace H : (if y280.length + t283.length < 4398046511104 then ((postroomref6_Same.f kj4 t274 (y280 ++ t283)).bind fun t289 => (postroomlaw6_FrameParts.j1 kj4 a2 t266 t267 (!t289))) else (none)) = some r := H
                    have A22 := Aside0.mk A220
                    clear A220
                    by_cases c23 : y280.length + t283.length < 4398046511104
                    · rw [if_pos c23] at H
                      have LMc23 := Aside0.mk c23
                      clear c23
                      obtain ⟨y286, hy286⟩ : ∃ y_ : List (S43), y_ = (y280 ++ t283) := ⟨_, rfl⟩
                      replace H : ((postroomref6_Same.f kj4 t274 y286).bind fun t289 => (postroomlaw6_FrameParts.j1 kj4 a2 t266 t267 (!t289))) = some r := by first | (rw [hy286]; with_reducible exact H) | (have H2_ := (Option.bind_some _ _).symm.trans H; rw [hy286]; with_reducible exact H2_) | (have H2_ := (Option.bind_some _ _).symm.trans H; with_reducible exact H2_) | with_reducible exact H | (rw [hy286]; exact H) | exact H
                      have Ny286 := Aside0.mk hy286
                      clear hy286
                      replace H := Option.bind_eq_some_iff.mp H
                      obtain ⟨t289, A240, H⟩ := H
                      replace H : (postroomlaw6_FrameParts.j1 kj4 a2 t266 t267 (!t289)) = some r := H
                      have A24 := Aside0.mk A240
                      clear A240
                      have H' := Aside0.mk H
                      clear H
                      obtain ⟨Ao25, co25, eo25⟩ := Kd.R_slice HO273.out
                      subst eo25
                      go_wp2_with (first | (go_at_call 18; (with_reducible refine (postroomlaw6_as.calls kj4 _ _ t270 t274 _ ?side1 ?side2 A20.out).mono ?_); (case side1 => repeat (first | exact (Kd.R_reads' HO273.out).2.2 | (with_reducible refine Kd.C_alloc ?_ _) | (with_reducible refine Kd.C_drewN ?_ _) | (with_reducible refine Kd.C_drew ?_))); (case side2 => exact (Kd.R_reads' HO273.out).2.1); rintro e w26 ⟨v275, rfl, ho0, hb⟩; have n0_ := Aside0.mk (Kd.R_elder' (by (with_reducible repeat (first | apply Kd.R_alloc | apply Kd.R_drewN | apply Kd.R_drew)); exact HO265.out) (Kd.R_base ho0) hb); have n1_ := Aside0.mk (Kd.R_below (by (with_reducible repeat (first | apply Kd.R_alloc | apply Kd.R_drewN | apply Kd.R_drew)); exact HO269.out) hb); have n2_ := Aside0.mk (Kd.R_below (by (with_reducible repeat (first | apply Kd.R_alloc | apply Kd.R_drewN | apply Kd.R_drew)); exact HO273.out) hb); have n3_ := Aside0.mk (Kd.R_lower (Kd.R_new' ho0 (Kd.R_lt (by (with_reducible repeat (first | apply Kd.R_alloc | apply Kd.R_drewN | apply Kd.R_drew)); exact HO265.out))) (below_size (by repeat (first | (with_reducible first | exact HB.out | apply below_alloc | apply pw_below_drewN | apply below_drew1) | exact HB.out)))); have n4_ := Aside0.mk (below_step (by repeat (first | (with_reducible first | exact HB.out | apply below_alloc | apply pw_below_drewN | apply below_drew1) | exact HB.out)) hb); clear HO265; clear HO269; clear HO273; clear HB; have HO265 := n0_; have HO269 := n1_; have HO273 := n2_; have HO276 := n3_; have HB := n4_; clear n0_ n1_ n2_ n3_ n4_; (try clear hb); (try clear hb2); (try clear hk); (try clear hi); (try clear ho0)) | ((with_reducible refine gate_dst (N := 64) rfl ?_); (try (refine gate_guard (by rfl) ?_; dsimp only)); refine Kd.R_lit k43 _ 43 ?hg (N := 64) ?hd (xs := ([] : List (S43))) (inner := []) (ok := fun _ => True) (okp := fun _ => True) ?hr ?hp (fun _ hk => hk) trivial (Below.refl _ _) (Nat.le_refl _) (by simp) ?_; (case hd => rfl); (case hg => rfl); (case hr => first | (go_simp; done) | (go_simp; rfl)); (case hp => exact (Reps.none _ _)); intro v278 w27 ho28 hb hg_ hnew_; clear hg_ hnew_; (first | rw [← Ny277.out] at ho28 | (simp only [Int.reduceToNat] at ho28; rw [← Ny277.out] at ho28)); have n0_ := Aside0.mk (Kd.R_elder' (by (with_reducible repeat (first | apply Kd.R_alloc | apply Kd.R_drewN | apply Kd.R_drew)); exact HO265.out) (Kd.R_base ho28) hb); have n1_ := Aside0.mk (Kd.R_below (by (with_reducible repeat (first | apply Kd.R_alloc | apply Kd.R_drewN | apply Kd.R_drew)); exact HO269.out) hb); have n2_ := Aside0.mk (Kd.R_below (by (with_reducible repeat (first | apply Kd.R_alloc | apply Kd.R_drewN | apply Kd.R_drew)); exact HO273.out) hb); have n3_ := Aside0.mk (Kd.R_elder' (by (with_reducible repeat (first | apply Kd.R_alloc | apply Kd.R_drewN | apply Kd.R_drew)); exact HO276.out) (Kd.R_base ho28) hb); have n4_ := Aside0.mk (Kd.R_lower (Kd.R_new' (Kd.R_new' ho28 (Kd.R_lt (by (with_reducible repeat (first | apply Kd.R_alloc | apply Kd.R_drewN | apply Kd.R_drew)); exact HO265.out))) (Kd.R_lt (by (with_reducible repeat (first | apply Kd.R_alloc | apply Kd.R_drewN | apply Kd.R_drew)); exact HO276.out))) (below_size (by repeat (first | (with_reducible first | exact HB.out | apply below_alloc | apply pw_below_drewN | apply below_drew1) | exact HB.out)))); have n5_ := Aside0.mk (below_step (by repeat (first | (with_reducible first | exact HB.out | apply below_alloc | apply pw_below_drewN | apply below_drew1) | exact HB.out)) hb); clear HO265; clear HO269; clear HO273; clear HO276; clear HB; have HO265 := n0_; have HO269 := n1_; have HO273 := n2_; have HO276 := n3_; have HO279 := n4_; have HB := n5_; clear n0_ n1_ n2_ n3_ n4_ n5_; clear hb ho28; obtain ⟨Ao30, co30, eo30⟩ := Kd.R_slice HO265.out; subst eo30) | ((with_reducible refine gate_builtin (b := .append) (xs := #[.tmp 64, .tmp 65]) rfl ?_); (try (refine gate_guard (by rfl) ?_; dsimp only)); at_builtin; refine Kd.R_append_rows k43 (w0 := w) w.heap.size rfl (.tmp 64) (.tmp 65) 37 43 (.agg #[(.int .u64 0), (.string ⟨#[]⟩), (.int .i64 0)]) 32 rfl Tryd.underlying37 info43 rfl (by decide) (by omega) v278 y277 t262 _ _ _ (fun k_ => some k_ ≠ (.slice Ao30 t262.length co30 : Value).ownBlock ∧ some k_ ≠ (v275 : Value).ownBlock) (fun _ => False) rfl rfl ?aO ?aR (fun _ _ h => h) (fun _ h => h.elim) ?aF ?aB ?aS ?aL ?_; (case aR => repeat (first | exact (Kd.R_reads' HO265.out).2.2 | (with_reducible refine Kd.C_alloc ?_ _) | (with_reducible refine Kd.C_drewN ?_ _) | (with_reducible refine Kd.C_drew ?_))); (case aB => exact (by repeat (first | (with_reducible first | exact HB.out | apply below_alloc | apply pw_below_drewN | apply below_drew1) | exact HB.out))); (case aF => exact (fun k_ hk => ⟨Kd.fresh' (Kd.R_lt (by (with_reducible repeat (first | apply Kd.R_alloc | apply Kd.R_drewN | apply Kd.R_drew)); exact HO265.out)) k_ hk, Kd.fresh' (Kd.R_lt (by (with_reducible repeat (first | apply Kd.R_alloc | apply Kd.R_drewN | apply Kd.R_drew)); exact HO276.out)) k_ hk⟩)); (case aO => exact (by (with_reducible repeat (first | apply Kd.R_alloc | apply Kd.R_drewN | apply Kd.R_drew)); exact Kd.R_mono HO279.out (fun _ hk => ⟨hk.1.2, hk.2⟩))); (case aS => exact (below_size (by repeat (first | (with_reducible first | exact HB.out | apply below_alloc | apply pw_below_drewN | apply below_drew1) | exact HB.out)))); (case aL => have := LMc21.out; omega); intro v281 w29 ho hb hg hat; rw [← Ny280.out] at ho; have n0_ := Aside0.mk (Kd.R_after (ok := (fun k_ => some k_ ≠ (v275 : Value).ownBlock)) (by (with_reducible repeat (first | apply Kd.R_alloc | apply Kd.R_drewN | apply Kd.R_drew)); exact Kd.R_mono HO265.out (fun _ hk => ⟨hk.1.2, hk.2⟩)) hg hat); have n1_ := Aside0.mk (Kd.R_over' (by (with_reducible repeat (first | apply Kd.R_alloc | apply Kd.R_drewN | apply Kd.R_drew)); exact HO269.out) (Kd.R_typed (by (with_reducible repeat (first | apply Kd.R_alloc | apply Kd.R_drewN | apply Kd.R_drew)); exact HO279.out)) (by decide) hg); have n2_ := Aside0.mk (Kd.R_over' (by (with_reducible repeat (first | apply Kd.R_alloc | apply Kd.R_drewN | apply Kd.R_drew)); exact HO273.out) (Kd.R_typed (by (with_reducible repeat (first | apply Kd.R_alloc | apply Kd.R_drewN | apply Kd.R_drew)); exact HO279.out)) (by decide) hg); have n3_ := Aside0.mk (Kd.R_after (ok := (fun k_ => some k_ ≠ (.slice Ao30 t262.length co30 : Value).ownBlock)) (by (with_reducible repeat (first | apply Kd.R_alloc | apply Kd.R_drewN | apply Kd.R_drew)); exact Kd.R_mono HO276.out (fun _ hk => ⟨hk.1.2, hk.2⟩)) hg hat); have n4_ := Aside0.mk (hb); have n5_ := Aside0.mk (ho); clear HO265; clear HO269; clear HO273; clear HO276; clear HB; clear HO279; have HO265 := n0_; have HO269 := n1_; have HO273 := n2_; have HO276 := n3_; have HB := n4_; have HO282 := n5_; clear n0_ n1_ n2_ n3_ n4_ n5_; clear ho hb hg hat; obtain ⟨Ao31, co31, eo31⟩ := Kd.R_slice HO269.out; subst eo31) | (go_at_call 18; (with_reducible refine (postroomlaw6_as.calls kj4 _ _ t266 t283 _ ?side1 ?side2 A22.out).mono ?_); (case side1 => repeat (first | exact (Kd.R_reads' HO269.out).2.2 | (with_reducible refine Kd.C_alloc ?_ _) | (with_reducible refine Kd.C_drewN ?_ _) | (with_reducible refine Kd.C_drew ?_))); (case side2 => exact (Kd.R_reads' HO269.out).2.1); rintro e w32 ⟨v284, rfl, ho0, hb⟩; have n0_ := Aside0.mk (Kd.R_elder' (by (with_reducible repeat (first | apply Kd.R_alloc | apply Kd.R_drewN | apply Kd.R_drew)); exact HO265.out) (Kd.R_base ho0) hb); have n1_ := Aside0.mk (Kd.R_below (by (with_reducible repeat (first | apply Kd.R_alloc | apply Kd.R_drewN | apply Kd.R_drew)); exact HO269.out) hb); have n2_ := Aside0.mk (Kd.R_below (by (with_reducible repeat (first | apply Kd.R_alloc | apply Kd.R_drewN | apply Kd.R_drew)); exact HO273.out) hb); have n3_ := Aside0.mk (Kd.R_elder' (by (with_reducible repeat (first | apply Kd.R_alloc | apply Kd.R_drewN | apply Kd.R_drew)); exact HO276.out) (Kd.R_base ho0) hb); have n4_ := Aside0.mk (Kd.R_elder' (by (with_reducible repeat (first | apply Kd.R_alloc | apply Kd.R_drewN | apply Kd.R_drew)); exact HO282.out) (Kd.R_base ho0) hb); have n5_ := Aside0.mk (Kd.R_lower (Kd.R_new' (Kd.R_new' (Kd.R_new' ho0 (Kd.R_lt (by (with_reducible repeat (first | apply Kd.R_alloc | apply Kd.R_drewN | apply Kd.R_drew)); exact HO265.out))) (Kd.R_lt (by (with_reducible repeat (first | apply Kd.R_alloc | apply Kd.R_drewN | apply Kd.R_drew)); exact HO276.out))) (Kd.R_lt (by (with_reducible repeat (first | apply Kd.R_alloc | apply Kd.R_drewN | apply Kd.R_drew)); exact HO282.out))) (below_size (by repeat (first | (with_reducible first | exact HB.out | apply below_alloc | apply pw_below_drewN | apply below_drew1) | exact HB.out)))); have n6_ := Aside0.mk (below_step (by repeat (first | (with_reducible first | exact HB.out | apply below_alloc | apply pw_below_drewN | apply below_drew1) | exact HB.out)) hb); clear HO265; clear HO269; clear HO273; clear HO276; clear HO282; clear HB; have HO265 := n0_; have HO269 := n1_; have HO273 := n2_; have HO276 := n3_; have HO282 := n4_; have HO285 := n5_; have HB := n6_; clear n0_ n1_ n2_ n3_ n4_ n5_ n6_; (try clear hb); (try clear hb2); (try clear hk); (try clear hi); (try clear ho0); obtain ⟨Ao34, co34, eo34⟩ := Kd.R_slice HO285.out; subst eo34) | ((with_reducible refine gate_builtin (b := .append) (xs := #[.tmp 66, .tmp 68]) rfl ?_); (try (refine gate_guard (by rfl) ?_; dsimp only)); at_builtin; refine Kd.R_append_rows k43 (w0 := w) w.heap.size rfl (.tmp 66) (.tmp 68) 37 43 (.agg #[(.int .u64 0), (.string ⟨#[]⟩), (.int .i64 0)]) 32 rfl Tryd.underlying37 info43 rfl (by decide) (by omega) v281 y280 t283 _ _ _ (fun k_ => some k_ ≠ (.slice Ao30 t262.length co30 : Value).ownBlock ∧ some k_ ≠ (v275 : Value).ownBlock ∧ some k_ ≠ (.slice Ao34 t283.length co34 : Value).ownBlock) (fun _ => False) rfl rfl ?aO ?aR (fun _ _ h => h) (fun _ h => h.elim) ?aF ?aB ?aS ?aL ?_; (case aR => repeat (first | exact (Kd.R_reads' HO285.out).2.2 | (with_reducible refine Kd.C_alloc ?_ _) | (with_reducible refine Kd.C_drewN ?_ _) | (with_reducible refine Kd.C_drew ?_))); (case aB => exact (by repeat (first | (with_reducible first | exact HB.out | apply below_alloc | apply pw_below_drewN | apply below_drew1) | exact HB.out))); (case aF => exact (fun k_ hk => ⟨Kd.fresh' (Kd.R_lt (by (with_reducible repeat (first | apply Kd.R_alloc | apply Kd.R_drewN | apply Kd.R_drew)); exact HO265.out)) k_ hk, Kd.fresh' (Kd.R_lt (by (with_reducible repeat (first | apply Kd.R_alloc | apply Kd.R_drewN | apply Kd.R_drew)); exact HO276.out)) k_ hk, Kd.fresh' (Kd.R_lt (by (with_reducible repeat (first | apply Kd.R_alloc | apply Kd.R_drewN | apply Kd.R_drew)); exact HO285.out)) k_ hk⟩)); (case aO => exact (by (with_reducible repeat (first | apply Kd.R_alloc | apply Kd.R_drewN | apply Kd.R_drew)); exact Kd.R_mono HO282.out (fun _ hk => ⟨hk.1.1, ⟨hk.1.2, hk.2⟩⟩))); (case aS => exact (below_size (by repeat (first | (with_reducible first | exact HB.out | apply below_alloc | apply pw_below_drewN | apply below_drew1) | exact HB.out)))); (case aL => have := LMc23.out; omega); intro v287 w33 ho hb hg hat; rw [← Ny286.out] at ho; have n0_ := Aside0.mk (Kd.R_after (ok := (fun k_ => some k_ ≠ (v275 : Value).ownBlock ∧ some k_ ≠ (.slice Ao34 t283.length co34 : Value).ownBlock)) (by (with_reducible repeat (first | apply Kd.R_alloc | apply Kd.R_drewN | apply Kd.R_drew)); exact Kd.R_mono HO265.out (fun _ hk => ⟨⟨hk.1.1, hk.2⟩, hk.1.2⟩)) hg hat); have n1_ := Aside0.mk (Kd.R_over' (by (with_reducible repeat (first | apply Kd.R_alloc | apply Kd.R_drewN | apply Kd.R_drew)); exact HO269.out) (Kd.R_typed (by (with_reducible repeat (first | apply Kd.R_alloc | apply Kd.R_drewN | apply Kd.R_drew)); exact HO282.out)) (by decide) hg); have n2_ := Aside0.mk (Kd.R_over' (by (with_reducible repeat (first | apply Kd.R_alloc | apply Kd.R_drewN | apply Kd.R_drew)); exact HO273.out) (Kd.R_typed (by (with_reducible repeat (first | apply Kd.R_alloc | apply Kd.R_drewN | apply Kd.R_drew)); exact HO282.out)) (by decide) hg); have n3_ := Aside0.mk (Kd.R_after (ok := (fun k_ => some k_ ≠ (.slice Ao30 t262.length co30 : Value).ownBlock ∧ some k_ ≠ (.slice Ao34 t283.length co34 : Value).ownBlock)) (by (with_reducible repeat (first | apply Kd.R_alloc | apply Kd.R_drewN | apply Kd.R_drew)); exact Kd.R_mono HO276.out (fun _ hk => ⟨⟨hk.1.1, hk.2⟩, hk.1.2⟩)) hg hat); have n4_ := Aside0.mk (Kd.R_after (ok := (fun k_ => some k_ ≠ (.slice Ao30 t262.length co30 : Value).ownBlock ∧ some k_ ≠ (v275 : Value).ownBlock)) (by (with_reducible repeat (first | apply Kd.R_alloc | apply Kd.R_drewN | apply Kd.R_drew)); exact Kd.R_mono HO285.out (fun _ hk => ⟨⟨hk.1.1.2, hk.1.2⟩, hk.2⟩)) hg hat); have n5_ := Aside0.mk (hb); have n6_ := Aside0.mk (ho); clear HO265; clear HO269; clear HO273; clear HO276; clear HO285; clear HB; clear HO282; have HO265 := n0_; have HO269 := n1_; have HO273 := n2_; have HO276 := n3_; have HO285 := n4_; have HB := n5_; have HO288 := n6_; clear n0_ n1_ n2_ n3_ n4_ n5_ n6_; clear ho hb hg hat; obtain ⟨Ao35, co35, eo35⟩ := Kd.R_slice HO276.out; subst eo35; obtain ⟨Ao36, co36, eo36⟩ := Kd.R_slice HO288.out; subst eo36) | (go_at_call 17; (with_reducible refine (postroomref6_Same.calls kj4 _ _ t274 _ _ y286 t289 _ ?side1 ?side2 ?side3 ?side4 A24.out).mono ?_); (case side1 => repeat (first | exact (Kd.R_reads' HO276.out).2.2 | (with_reducible refine Kd.C_alloc ?_ _) | (with_reducible refine Kd.C_drewN ?_ _) | (with_reducible refine Kd.C_drew ?_))); (case side2 => exact (Kd.R_reads' HO276.out).2.1); (case side3 => repeat (first | exact (Kd.R_reads' HO288.out).2.2 | (with_reducible refine Kd.C_alloc ?_ _) | (with_reducible refine Kd.C_drewN ?_ _) | (with_reducible refine Kd.C_drew ?_))); (case side4 => exact (Kd.R_reads' HO288.out).2.1); rintro e w' ⟨rfl, ⟨nd, rfl⟩⟩))
                      go_meet
                      case rel => exact ⟨_, (!t289), (by first | rfl | (simp; done) | (simp [*]; done)), H', ⟨by have := HJ4.out; first | omega | exact Nat.le_refl _⟩, ⟨by (with_reducible repeat (first | apply Kd.R_alloc | apply Kd.R_drewN | apply Kd.R_drew)); exact Kd.R_mono HO269.out (fun _ hk => trivial)⟩, ⟨by repeat (first | (with_reducible first | exact HB.out | apply below_alloc | apply pw_below_drewN | apply below_drew1) | exact HB.out)⟩⟩
                    · rw [if_neg c23] at H
                      exact absurd H (by simp)
                  · rw [if_neg c21] at H
                    exact absurd H (by simp)
                · rw [if_neg c19] at H
                  have c19b0 : (t271 == (wrap64 (t267 + (t263.size : Int)))) = false := beq_eq_false_iff_ne.mpr c19
                  have c19b1 : (t271 != (wrap64 (t267 + (t263.size : Int)))) = true := bne_iff_ne.mpr c19
                  have H' := Aside0.mk H
                  clear H
                  go_wp2
                  go_meet
                  case rel => exact ⟨_, (true), (by first | rfl | (simp; done) | (simp [*]; done)), H', ⟨by have := HJ4.out; first | omega | exact Nat.le_refl _⟩, ⟨by (with_reducible repeat (first | apply Kd.R_alloc | apply Kd.R_drewN | apply Kd.R_drew)); exact Kd.R_mono HO269.out (fun _ hk => trivial)⟩, ⟨by repeat (first | (with_reducible first | exact HB.out | apply below_alloc | apply pw_below_drewN | apply below_drew1) | exact HB.out)⟩⟩
          case rest =>
            clear HC13
            try clear c1
            try clear c2
            try clear p2
            try clear p6
            try clear c7
            try clear c8
            try clear c10
            try clear c11
            try clear c11b0
            try clear c11b1
            try clear c11b2
            try clear c15
            try clear c16
            try clear c17
            try clear c17b0
            try clear c18
            try clear c18b0
            try clear c19
            try clear c19b0
            try clear c19b1
            try clear c21
            try clear c23
            try clear p2
            obtain ⟨kq, x72_12, rfl, HA, HJ12, HO_10, HB⟩ := hcut
            cases kq with
            | zero => exact absurd HA.out (by simp [postroomlaw6_FrameParts.j1])
            | succ kj12 =>
              have H := HA.out
              clear HA
              simp only [postroomlaw6_FrameParts.j1] at H
              by_cases c37 : x72_12 = true
              · subst c37
                have H1 : (some false) = some r := by rw [if_pos rfl] at H; exact H
                clear H
                have H := H1
                clear H1
                obtain rfl := Option.some.inj H
                go_wp2
                go_ret
                exact ⟨by first | rfl | (simp [errW_none, errW_some] <;> rfl) | (simp [*, errW_none, errW_some] <;> rfl), by repeat (first | (with_reducible first | exact HB.out | apply below_alloc | apply pw_below_drewN | apply below_drew1) | exact HB.out)⟩
              · replace c37 := Bool.eq_false_iff.mpr c37
                subst c37
                have H1 : (postroomlaw6_FrameParts.l0 kj12 a2 t266 t267 (⟨#[]⟩ : ByteArray) 0) = some r := by rw [if_neg (show ¬ (false = true) by decide)] at H; exact H
                clear H
                have H := H1
                clear H1
                have H' := Aside0.mk H
                clear H
                go_wp2
                go_loopg [14, 15] kj12 (fun kq v14 v15 w' => ∃ (x14_3 : ByteArray) (x15_3 : Int), v14 = .string x14_3 ∧ v15 = .int .i64 x15_3 ∧ Aside0 (postroomlaw6_FrameParts.l0 kq a2 t266 t267 x14_3 x15_3 = some r) ∧ Aside0 (kq ≤ kj12) ∧ Aside0 (Kd.R k28 28 w' w.heap.size (fun _ => True) v268 t266) ∧ Aside0 (Below w.heap.size w w'))
                case atStart => exact ⟨((⟨#[]⟩ : ByteArray)), (0), (by first | rfl | (simp; done) | (simp [*]; done)), (by first | rfl | (simp; done) | (simp [*]; done)), H', ⟨Nat.le_refl _⟩, ⟨by (with_reducible repeat (first | apply Kd.R_alloc | apply Kd.R_drewN | apply Kd.R_drew)); exact HO_10.out⟩, ⟨by repeat (first | (with_reducible first | exact HB.out | apply below_alloc | apply pw_below_drewN | apply below_drew1) | exact HB.out)⟩⟩
                case round =>
                  clear H'
                  try clear c1
                  try clear c2
                  try clear p2
                  try clear c3
                  try clear p6
                  try clear c7
                  try clear c8
                  try clear c10
                  try clear c11
                  try clear c11b0
                  try clear c11b1
                  try clear c11b2
                  try clear c15
                  try clear c16
                  try clear c17
                  try clear c17b0
                  try clear c18
                  try clear c18b0
                  try clear c19
                  try clear c19b0
                  try clear c19b1
                  try clear c21
                  try clear c23
                  try clear c37
                  try clear p2
                  try clear p6
                  obtain ⟨x14_3, x15_3, rfl, rfl, HA, HK3, HO_10, HB⟩ := hrel
                  cases gk with
                  | zero => exact absurd HA.out (by simp [postroomlaw6_FrameParts.l0])
                  | succ k3 =>
                    have H := HA.out
                    clear HA
                    simp only [postroomlaw6_FrameParts.l0] at H
                    by_cases c38 : x15_3 < (t266.length : Int)
                    · rw [if_pos c38] at H
                      have c38b0 : decide (x15_3 < (t266.length : Int)) = true := decide_eq_true c38
                      clear c38
                      by_cases c39 : 0 ≤ x15_3
                      · rw [if_pos c39] at H
                        have c39b0 : decide (0 ≤ x15_3) = true := decide_eq_true c39
                        clear c39
                        replace H := Option.bind_eq_some_iff.mp H
                        obtain ⟨⟨t292, t293⟩, A400, H⟩ := H
                        replace H : (if t293 = 0 then (if (t292.size : Int) = ((rd_T28 t266 x15_3).f2) then (if x14_3.size + t292.size ≤ 9223372036854775807 then (postroomlaw6_FrameParts.l0 k3 a2 t266 t267 (x14_3 ++ t292) (wrap64 (x15_3 + 1))) else (none)) else (some false)) else (some false)) = some r := H
                        have A40 := Aside0.mk A400
                        clear A400
                        by_cases c41 : t293 = 0
                        · rw [if_pos c41] at H
                          have c41b0 : (t293 == 0) = true := beq_iff_eq.mpr c41
                          have c41b1 : (t293 != 0) = false := bne_eq_false_iff_eq.mpr c41
                          clear c41
                          by_cases c42 : (t292.size : Int) = ((rd_T28 t266 x15_3).f2)
                          · rw [if_pos c42] at H
                            have c42b0 : ((t292.size : Int) == ((rd_T28 t266 x15_3).f2)) = true := beq_iff_eq.mpr c42
                            have c42b1 : ((t292.size : Int) != ((rd_T28 t266 x15_3).f2)) = false := bne_eq_false_iff_eq.mpr c42
                            clear c42
                            by_cases c43 : x14_3.size + t292.size ≤ 9223372036854775807
                            · rw [if_pos c43] at H
                              have c43b0 := eq_true c43
                              have c43b1 : decide (x14_3.size + t292.size ≤ 9223372036854775807) = true := decide_eq_true c43
                              try have c43b2 : (9223372036854775807 < x14_3.size + t292.size) = False := eq_false (Nat.not_lt.2 c43)
                              clear c43
                              have H' := Aside0.mk H
                              clear H
                              obtain ⟨Ao44, co44, eo44⟩ := Kd.R_slice HO_10.out
                              subst eo44
                              try go_wp2
                              have n0_ := Aside0.mk (Kd.R_drew HO_10.out)
                              have n1_ := Aside0.mk (below_drew1 HB.out)
                              clear HO_10
                              clear HB
                              have HO_10 := n0_
                              have HB := n1_
                              clear n0_ n1_
                              have p290 : 0 ≤ (x15_3 : Int) := of_decide_eq_true (by first | (with_reducible assumption) | assumption)
                              have q290 : x15_3 < (t266.length : Int) := of_decide_eq_true (by first | (with_reducible assumption) | assumption)
                              obtain ⟨ad290, e290, hx290_0, hx290_1, hx290_2⟩ := at_T28 (Kd.R_reads' HO_10.out).2.2 x15_3 p290 q290
                              cases e290
                              replace p290 := eq_true p290
                              replace q290 := eq_true q290
                              have p291 : 0 ≤ (x15_3 : Int) := of_decide_eq_true (by first | (with_reducible assumption) | assumption)
                              have q291 : x15_3 < (t266.length : Int) := of_decide_eq_true (by first | (with_reducible assumption) | assumption)
                              obtain ⟨ad291, e291, hx291_0, hx291_1, hx291_2⟩ := at_T28 (Kd.R_reads' HO_10.out).2.2 x15_3 p291 q291
                              obtain rfl : ad290 = ad291 := (by injection e291)
                              replace p291 := eq_true p291
                              replace q291 := eq_true q291
                              refine start_ (n := 16) (S := fun w' => w'.cell? (ad290.add ((x15_3).toNat * 3)) = some (.int .u64 ((rd_T28 t266 x15_3).f0)) ∧ w'.cell? ⟨(ad290.add ((x15_3).toNat * 3)).block, (ad290.add ((x15_3).toNat * 3)).off + 1, none⟩ = some (.string ((rd_T28 t266 x15_3).f1)) ∧ w'.cell? ⟨(ad290.add ((x15_3).toNat * 3)).block, (ad290.add ((x15_3).toNat * 3)).off + 2, none⟩ = some (.int .i64 ((rd_T28 t266 x15_3).f2)) ∧ w'.cell? (ad290.add ((x15_3).toNat * 3)) = some (.int .u64 ((rd_T28 t266 x15_3).f0)) ∧ w'.cell? ⟨(ad290.add ((x15_3).toNat * 3)).block, (ad290.add ((x15_3).toNat * 3)).off + 1, none⟩ = some (.string ((rd_T28 t266 x15_3).f1)) ∧ w'.cell? ⟨(ad290.add ((x15_3).toNat * 3)).block, (ad290.add ((x15_3).toNat * 3)).off + 2, none⟩ = some (.int .i64 ((rd_T28 t266 x15_3).f2))) (ds := []) #[false, false, false, false, false, false, false, false, false, false, false, false, false, false, false, false] (by kernel_rfl) rfl rfl ⟨hx290_0, hx290_1, hx290_2, hx291_0, hx291_1, hx291_2⟩ (fun hHeld => ?_); refine with_tabW postroomlaw6_FrameParts.tab13 postroomlaw6_FrameParts.bits13 (fun HT_ HW_ => ?_)
                              generalize wr.drew = w45 at HO_10 HB hx290_0 hx290_1 hx290_2 hx291_0 hx291_1 hx291_2 hHeld ⊢
                              refine pure_ (i := 0) (N := some 80) (v := ?_) (a' := ?_) #[true, false, false, false, false, false, false, false, false, false, false, false, false, false, false, false] rfl rfl (any_of HT_.out (by kernel_rfl)) (fun _ _ _ h => h) (Or.inl ⟨by rfl, ?_⟩) ?_ ?_
                              rotate_left
                              · intro w'
                                go_simp
                                with_reducible rfl
                              rotate_left
                              · simp only [Act.put, List.setIfInBounds_toArray, List.set_cons_zero, List.set_cons_succ, i64_w, i32_w]
                                rfl
                              refine pure_ (i := 1) (N := some 81) (v := ?_) (a' := ?_) #[true, true, false, false, false, false, false, false, false, false, false, false, false, false, false, false] rfl rfl (any_of HT_.out (by kernel_rfl)) (fun _ _ _ h => h) (Or.inl ⟨by rfl, ?_⟩) ?_ ?_
                              rotate_left
                              · intro w'
                                go_simp
                                with_reducible rfl
                              rotate_left
                              · simp only [Act.put, List.setIfInBounds_toArray, List.set_cons_zero, List.set_cons_succ, i64_w, i32_w]
                                rfl
                              refine pure_ (i := 2) (N := some 82) (v := ?_) (a' := ?_) #[true, true, true, false, false, false, false, false, false, false, false, false, false, false, false, false] rfl rfl (any_of HT_.out (by kernel_rfl)) (fun _ _ _ h => h) (Or.inl ⟨by rfl, ?_⟩) ?_ ?_
                              rotate_left
                              · intro w'
                                go_simp
                                with_reducible rfl
                              rotate_left
                              · simp only [Act.put, List.setIfInBounds_toArray, List.set_cons_zero, List.set_cons_succ, i64_w, i32_w]
                                rfl
                              refine pure_ (i := 3) (N := some 83) (v := ?_) (a' := ?_) #[true, true, true, true, false, false, false, false, false, false, false, false, false, false, false, false] rfl rfl (any_of HT_.out (by kernel_rfl)) (fun _ _ _ h => h) (Or.inl ⟨by rfl, ?_⟩) ?_ ?_
                              rotate_left
                              · intro w'
                                go_simp
                                with_reducible rfl
                              rotate_left
                              · simp only [Act.put, List.setIfInBounds_toArray, List.set_cons_zero, List.set_cons_succ, i64_w, i32_w]
                                rfl
                              refine pure_ (i := 5) (N := some 85) (v := ?_) (a' := ?_) #[true, true, true, true, false, true, false, false, false, false, false, false, false, false, false, false] rfl rfl (any_of HT_.out (by kernel_rfl)) (fun _ _ _ h => h) (Or.inl ⟨by rfl, ?_⟩) ?_ ?_
                              rotate_left
                              · intro w'
                                go_simp
                                with_reducible rfl
                              rotate_left
                              · simp only [Act.put, List.setIfInBounds_toArray, List.set_cons_zero, List.set_cons_succ, i64_w, i32_w]
                                rfl
                              refine pure_ (i := 6) (N := some 86) (v := ?_) (a' := ?_) #[true, true, true, true, false, true, true, false, false, false, false, false, false, false, false, false] rfl rfl (any_of HT_.out (by kernel_rfl)) (fun _ _ _ h => h) (Or.inl ⟨by rfl, ?_⟩) ?_ ?_
                              rotate_left
                              · intro w'
                                go_simp
                                with_reducible rfl
                              rotate_left
                              · simp only [Act.put, List.setIfInBounds_toArray, List.set_cons_zero, List.set_cons_succ, i64_w, i32_w]
                                rfl
                              refine pure_ (i := 7) (N := some 87) (v := ?_) (a' := ?_) #[true, true, true, true, false, true, true, true, false, false, false, false, false, false, false, false] rfl rfl (any_of HT_.out (by kernel_rfl)) (fun _ _ _ h => h) (Or.inl ⟨by rfl, ?_⟩) ?_ ?_
                              rotate_left
                              · intro w'
                                go_simp
                                with_reducible rfl
                              rotate_left
                              · simp only [Act.put, List.setIfInBounds_toArray, List.set_cons_zero, List.set_cons_succ, i64_w, i32_w]
                                rfl
                              refine pure_ (i := 8) (N := some 88) (v := ?_) (a' := ?_) #[true, true, true, true, false, true, true, true, true, false, false, false, false, false, false, false] rfl rfl (any_of HT_.out (by kernel_rfl)) (fun _ _ _ h => h) (Or.inl ⟨by rfl, ?_⟩) ?_ ?_
                              rotate_left
                              · intro w'
                                go_simp
                                with_reducible rfl
                              rotate_left
                              · simp only [Act.put, List.setIfInBounds_toArray, List.set_cons_zero, List.set_cons_succ, i64_w, i32_w]
                                rfl
                              refine take_ (i := 4) (N := some 84) (v := ?_) (a' := ?_) #[true, true, true, true, true, true, true, true, true, false, false, false, false, false, false, false] rfl rfl (take_ofW HT_.out HW_.out (by kernel_rfl)) (fun _ _ _ h => h) (Or.inl ⟨by rfl, ?_⟩) hHeld ?_ ?_
                              rotate_left
                              · rintro w' ⟨s0, s1, s2, s3, s4, s5⟩
                                go_simp
                                with_reducible rfl
                              rotate_left
                              · simp only [Act.put, List.setIfInBounds_toArray, List.set_cons_zero, List.set_cons_succ, i64_w, i32_w]
                                rfl
                              refine take_ (i := 9) (N := some 89) (v := ?_) (a' := ?_) #[true, true, true, true, true, true, true, true, true, true, false, false, false, false, false, false] rfl rfl (take_ofW HT_.out HW_.out (by kernel_rfl)) (fun _ _ _ h => h) (Or.inl ⟨by rfl, ?_⟩) hHeld ?_ ?_
                              rotate_left
                              · rintro w' ⟨s0, s1, s2, s3, s4, s5⟩
                                go_simp
                                with_reducible rfl
                              rotate_left
                              · simp only [Act.put, List.setIfInBounds_toArray, List.set_cons_zero, List.set_cons_succ, i64_w, i32_w]
                                rfl
                              refine one_ (i := 10) (N := some 90) #[true, true, true, true, true, true, true, true, true, true, true, false, false, false, false, false] rfl rfl (one_of HT_.out (by kernel_rfl)) (by decide) (fun K hK => ?_)
                              refine goes_ Tryd.func11 (by kernel_rfl) rfl #[.int .u64 ((rd_T28 t266 x15_3).f0), .string ((rd_T28 t266 x15_3).f1)] (by rfl) rfl rfl (by (try simp only [List.map_toArray, List.map_cons, List.map_nil]); first | done | rfl | (simp only [List.length_drop, List.length_take]; rfl)) ?_
                              with_reducible refine (frame_Put.calls k3 ((rd_T28 t266 x15_3).f0) ((rd_T28 t266 x15_3).f1) t292 t293 _ ?side1 A40.out).mono ?_
                              (case side1 => exact Tabs.below HT.out (by repeat (first | (with_reducible first | exact HB.out | apply below_alloc | apply pw_below_drewN | apply below_drew1) | exact HB.out)))
                              rintro e w46 ⟨rfl, hb⟩
                              have HS0_ := (hb.cell (World.block_lt_of_cell? _ _ (hHeld.1))).trans (hHeld.1)
                              have HS1_ := (hb.cell (World.block_lt_of_cell? _ _ (hHeld.2.1))).trans (hHeld.2.1)
                              have HS2_ := (hb.cell (World.block_lt_of_cell? _ _ (hHeld.2.2.1))).trans (hHeld.2.2.1)
                              have HS3_ := (hb.cell (World.block_lt_of_cell? _ _ (hHeld.2.2.2.1))).trans (hHeld.2.2.2.1)
                              have HS4_ := (hb.cell (World.block_lt_of_cell? _ _ (hHeld.2.2.2.2.1))).trans (hHeld.2.2.2.2.1)
                              have HS5_ := (hb.cell (World.block_lt_of_cell? _ _ (hHeld.2.2.2.2.2))).trans (hHeld.2.2.2.2.2)
                              refine ⟨_, rfl, ?_⟩
                              have n0_ := Aside0.mk (Kd.R_below (by (with_reducible repeat (first | apply Kd.R_alloc | apply Kd.R_drewN | apply Kd.R_drew)); exact HO_10.out) hb)
                              have n1_ := Aside0.mk (below_step (by repeat (first | (with_reducible first | exact HB.out | apply below_alloc | apply pw_below_drewN | apply below_drew1) | exact HB.out)) hb)
                              clear HO_10
                              clear HB
                              have HO_10 := n0_
                              have HB := n1_
                              clear n0_ n1_
                              (try clear hb)
                              (try clear hb2)
                              (try clear hk)
                              (try clear hi)
                              refine hK.out _ _ ⟨HS0_, HS1_, HS2_, HS3_, HS4_, HS5_⟩ (fun hHeld => ?_)
                              clear hK K
                              refine norm_ (a' := ?_) ?_ ?_
                              rotate_left
                              · show Act.put _ (some 90) _ = _
                                simp only [Act.put, List.setIfInBounds_toArray, List.set_cons_zero, List.set_cons_succ, i64_w, i32_w]
                                rfl
                              refine pure_ (i := 11) (N := some 79) (v := ?_) (a' := ?_) #[true, true, true, true, true, true, true, true, true, true, true, true, false, false, false, false] rfl rfl (any_of HT_.out (by kernel_rfl)) (fun _ _ _ h => h) (Or.inl ⟨by rfl, ?_⟩) ?_ ?_
                              rotate_left
                              · intro w'
                                go_simp
                                with_reducible rfl
                              rotate_left
                              · simp only [Act.put, List.setIfInBounds_toArray, List.set_cons_zero, List.set_cons_succ, i64_w, i32_w]
                                rfl
                              refine pure_ (i := 12) (N := some 91) (v := ?_) (a' := ?_) #[true, true, true, true, true, true, true, true, true, true, true, true, true, false, false, false] rfl rfl (any_of HT_.out (by kernel_rfl)) (fun _ _ _ h => h) (Or.inl ⟨by rfl, ?_⟩) ?_ ?_
                              rotate_left
                              · intro w'
                                go_simp
                                with_reducible rfl
                              rotate_left
                              · simp only [Act.put, List.setIfInBounds_toArray, List.set_cons_zero, List.set_cons_succ, i64_w, i32_w]
                                rfl
                              refine pure_ (i := 13) (N := some 92) (v := ?_) (a' := ?_) #[true, true, true, true, true, true, true, true, true, true, true, true, true, true, false, false] rfl rfl (any_of HT_.out (by kernel_rfl)) (fun _ _ _ h => h) (Or.inl ⟨by rfl, ?_⟩) ?_ ?_
                              rotate_left
                              · intro w'
                                go_simp
                                with_reducible rfl
                              rotate_left
                              · simp only [Act.put, List.setIfInBounds_toArray, List.set_cons_zero, List.set_cons_succ, i64_w, i32_w]
                                rfl
                              refine pure_ (i := 14) (N := some 16) (v := ?_) (a' := ?_) #[true, true, true, true, true, true, true, true, true, true, true, true, true, true, true, false] rfl rfl (any_of HT_.out (by kernel_rfl)) (fun _ _ _ h => h) (Or.inl ⟨by rfl, ?_⟩) ?_ ?_
                              rotate_left
                              · intro w'
                                go_simp
                                with_reducible rfl
                              rotate_left
                              · simp only [Act.put, List.setIfInBounds_toArray, List.set_cons_zero, List.set_cons_succ, i64_w, i32_w]
                                rfl
                              refine pure_ (i := 15) (N := some 17) (v := ?_) (a' := ?_) #[true, true, true, true, true, true, true, true, true, true, true, true, true, true, true, true] rfl rfl (any_of HT_.out (by kernel_rfl)) (fun _ _ _ h => h) (Or.inl ⟨by rfl, ?_⟩) ?_ ?_
                              rotate_left
                              · intro w'
                                go_simp
                                with_reducible rfl
                              rotate_left
                              · simp only [Act.put, List.setIfInBounds_toArray, List.set_cons_zero, List.set_cons_succ, i64_w, i32_w]
                                rfl
                              refine done_ (done_of HT_.out (by kernel_rfl)) ?_
                              have p294 : 0 ≤ (x15_3 : Int) := of_decide_eq_true (by first | (with_reducible assumption) | assumption)
                              have q294 : x15_3 < (t266.length : Int) := of_decide_eq_true (by first | (with_reducible assumption) | assumption)
                              obtain ⟨ad294, e294, hx294_0, hx294_1, hx294_2⟩ := at_T28 (Kd.R_reads' HO_10.out).2.2 x15_3 p294 q294
                              obtain rfl : ad290 = ad294 := (by injection e294)
                              replace p294 := eq_true p294
                              replace q294 := eq_true q294
                              try go_wp2
                              go_roundg k3
                              case measure => have := HJ4.out; have := HJ12.out; have := HK3.out; omega
                              case rel => exact ⟨(x14_3 ++ t292), (wrap64 (x15_3 + 1)), (by first | rfl | (simp; done) | (simp [*]; done)), (by first | rfl | (simp; done) | (simp [*]; done)), H', ⟨by have := HJ4.out; have := HJ12.out; have := HK3.out; omega⟩, ⟨by (with_reducible repeat (first | apply Kd.R_alloc | apply Kd.R_drewN | apply Kd.R_drew)); exact HO_10.out⟩, ⟨by repeat (first | (with_reducible first | exact HB.out | apply below_alloc | apply pw_below_drewN | apply below_drew1) | exact HB.out)⟩⟩
                            · rw [if_neg c43] at H
                              exact absurd H (by simp)
                          · rw [if_neg c42] at H
                            have c42b0 : ((t292.size : Int) == ((rd_T28 t266 x15_3).f2)) = false := beq_eq_false_iff_ne.mpr c42
                            have c42b1 : ((t292.size : Int) != ((rd_T28 t266 x15_3).f2)) = true := bne_iff_ne.mpr c42
                            obtain rfl := Option.some.inj H
                            obtain ⟨Ao47, co47, eo47⟩ := Kd.R_slice HO_10.out
                            subst eo47
                            try go_wp2
                            have n0_ := Aside0.mk (Kd.R_drew HO_10.out)
                            have n1_ := Aside0.mk (below_drew1 HB.out)
                            clear HO_10
                            clear HB
                            have HO_10 := n0_
                            have HB := n1_
                            clear n0_ n1_
                            have p290 : 0 ≤ (x15_3 : Int) := of_decide_eq_true (by first | (with_reducible assumption) | assumption)
                            have q290 : x15_3 < (t266.length : Int) := of_decide_eq_true (by first | (with_reducible assumption) | assumption)
                            obtain ⟨ad290, e290, hx290_0, hx290_1, hx290_2⟩ := at_T28 (Kd.R_reads' HO_10.out).2.2 x15_3 p290 q290
                            cases e290
                            replace p290 := eq_true p290
                            replace q290 := eq_true q290
                            have p291 : 0 ≤ (x15_3 : Int) := of_decide_eq_true (by first | (with_reducible assumption) | assumption)
                            have q291 : x15_3 < (t266.length : Int) := of_decide_eq_true (by first | (with_reducible assumption) | assumption)
                            obtain ⟨ad291, e291, hx291_0, hx291_1, hx291_2⟩ := at_T28 (Kd.R_reads' HO_10.out).2.2 x15_3 p291 q291
                            obtain rfl : ad290 = ad291 := (by injection e291)
                            replace p291 := eq_true p291
                            replace q291 := eq_true q291
                            refine start_ (n := 16) (S := fun w' => w'.cell? (ad290.add ((x15_3).toNat * 3)) = some (.int .u64 ((rd_T28 t266 x15_3).f0)) ∧ w'.cell? ⟨(ad290.add ((x15_3).toNat * 3)).block, (ad290.add ((x15_3).toNat * 3)).off + 1, none⟩ = some (.string ((rd_T28 t266 x15_3).f1)) ∧ w'.cell? ⟨(ad290.add ((x15_3).toNat * 3)).block, (ad290.add ((x15_3).toNat * 3)).off + 2, none⟩ = some (.int .i64 ((rd_T28 t266 x15_3).f2)) ∧ w'.cell? (ad290.add ((x15_3).toNat * 3)) = some (.int .u64 ((rd_T28 t266 x15_3).f0)) ∧ w'.cell? ⟨(ad290.add ((x15_3).toNat * 3)).block, (ad290.add ((x15_3).toNat * 3)).off + 1, none⟩ = some (.string ((rd_T28 t266 x15_3).f1)) ∧ w'.cell? ⟨(ad290.add ((x15_3).toNat * 3)).block, (ad290.add ((x15_3).toNat * 3)).off + 2, none⟩ = some (.int .i64 ((rd_T28 t266 x15_3).f2))) (ds := []) #[false, false, false, false, false, false, false, false, false, false, false, false, false, false, false, false] (by kernel_rfl) rfl rfl ⟨hx290_0, hx290_1, hx290_2, hx291_0, hx291_1, hx291_2⟩ (fun hHeld => ?_); refine with_tabW postroomlaw6_FrameParts.tab13 postroomlaw6_FrameParts.bits13 (fun HT_ HW_ => ?_)
                            generalize wr.drew = w48 at HO_10 HB hx290_0 hx290_1 hx290_2 hx291_0 hx291_1 hx291_2 hHeld ⊢
                            refine pure_ (i := 0) (N := some 80) (v := ?_) (a' := ?_) #[true, false, false, false, false, false, false, false, false, false, false, false, false, false, false, false] rfl rfl (any_of HT_.out (by kernel_rfl)) (fun _ _ _ h => h) (Or.inl ⟨by rfl, ?_⟩) ?_ ?_
                            rotate_left
                            · intro w'
                              go_simp
                              with_reducible rfl
                            rotate_left
                            · simp only [Act.put, List.setIfInBounds_toArray, List.set_cons_zero, List.set_cons_succ, i64_w, i32_w]
                              rfl
                            refine pure_ (i := 1) (N := some 81) (v := ?_) (a' := ?_) #[true, true, false, false, false, false, false, false, false, false, false, false, false, false, false, false] rfl rfl (any_of HT_.out (by kernel_rfl)) (fun _ _ _ h => h) (Or.inl ⟨by rfl, ?_⟩) ?_ ?_
                            rotate_left
                            · intro w'
                              go_simp
                              with_reducible rfl
                            rotate_left
                            · simp only [Act.put, List.setIfInBounds_toArray, List.set_cons_zero, List.set_cons_succ, i64_w, i32_w]
                              rfl
                            refine pure_ (i := 2) (N := some 82) (v := ?_) (a' := ?_) #[true, true, true, false, false, false, false, false, false, false, false, false, false, false, false, false] rfl rfl (any_of HT_.out (by kernel_rfl)) (fun _ _ _ h => h) (Or.inl ⟨by rfl, ?_⟩) ?_ ?_
                            rotate_left
                            · intro w'
                              go_simp
                              with_reducible rfl
                            rotate_left
                            · simp only [Act.put, List.setIfInBounds_toArray, List.set_cons_zero, List.set_cons_succ, i64_w, i32_w]
                              rfl
                            refine pure_ (i := 3) (N := some 83) (v := ?_) (a' := ?_) #[true, true, true, true, false, false, false, false, false, false, false, false, false, false, false, false] rfl rfl (any_of HT_.out (by kernel_rfl)) (fun _ _ _ h => h) (Or.inl ⟨by rfl, ?_⟩) ?_ ?_
                            rotate_left
                            · intro w'
                              go_simp
                              with_reducible rfl
                            rotate_left
                            · simp only [Act.put, List.setIfInBounds_toArray, List.set_cons_zero, List.set_cons_succ, i64_w, i32_w]
                              rfl
                            refine pure_ (i := 5) (N := some 85) (v := ?_) (a' := ?_) #[true, true, true, true, false, true, false, false, false, false, false, false, false, false, false, false] rfl rfl (any_of HT_.out (by kernel_rfl)) (fun _ _ _ h => h) (Or.inl ⟨by rfl, ?_⟩) ?_ ?_
                            rotate_left
                            · intro w'
                              go_simp
                              with_reducible rfl
                            rotate_left
                            · simp only [Act.put, List.setIfInBounds_toArray, List.set_cons_zero, List.set_cons_succ, i64_w, i32_w]
                              rfl
                            refine pure_ (i := 6) (N := some 86) (v := ?_) (a' := ?_) #[true, true, true, true, false, true, true, false, false, false, false, false, false, false, false, false] rfl rfl (any_of HT_.out (by kernel_rfl)) (fun _ _ _ h => h) (Or.inl ⟨by rfl, ?_⟩) ?_ ?_
                            rotate_left
                            · intro w'
                              go_simp
                              with_reducible rfl
                            rotate_left
                            · simp only [Act.put, List.setIfInBounds_toArray, List.set_cons_zero, List.set_cons_succ, i64_w, i32_w]
                              rfl
                            refine pure_ (i := 7) (N := some 87) (v := ?_) (a' := ?_) #[true, true, true, true, false, true, true, true, false, false, false, false, false, false, false, false] rfl rfl (any_of HT_.out (by kernel_rfl)) (fun _ _ _ h => h) (Or.inl ⟨by rfl, ?_⟩) ?_ ?_
                            rotate_left
                            · intro w'
                              go_simp
                              with_reducible rfl
                            rotate_left
                            · simp only [Act.put, List.setIfInBounds_toArray, List.set_cons_zero, List.set_cons_succ, i64_w, i32_w]
                              rfl
                            refine pure_ (i := 8) (N := some 88) (v := ?_) (a' := ?_) #[true, true, true, true, false, true, true, true, true, false, false, false, false, false, false, false] rfl rfl (any_of HT_.out (by kernel_rfl)) (fun _ _ _ h => h) (Or.inl ⟨by rfl, ?_⟩) ?_ ?_
                            rotate_left
                            · intro w'
                              go_simp
                              with_reducible rfl
                            rotate_left
                            · simp only [Act.put, List.setIfInBounds_toArray, List.set_cons_zero, List.set_cons_succ, i64_w, i32_w]
                              rfl
                            refine take_ (i := 4) (N := some 84) (v := ?_) (a' := ?_) #[true, true, true, true, true, true, true, true, true, false, false, false, false, false, false, false] rfl rfl (take_ofW HT_.out HW_.out (by kernel_rfl)) (fun _ _ _ h => h) (Or.inl ⟨by rfl, ?_⟩) hHeld ?_ ?_
                            rotate_left
                            · rintro w' ⟨s0, s1, s2, s3, s4, s5⟩
                              go_simp
                              with_reducible rfl
                            rotate_left
                            · simp only [Act.put, List.setIfInBounds_toArray, List.set_cons_zero, List.set_cons_succ, i64_w, i32_w]
                              rfl
                            refine take_ (i := 9) (N := some 89) (v := ?_) (a' := ?_) #[true, true, true, true, true, true, true, true, true, true, false, false, false, false, false, false] rfl rfl (take_ofW HT_.out HW_.out (by kernel_rfl)) (fun _ _ _ h => h) (Or.inl ⟨by rfl, ?_⟩) hHeld ?_ ?_
                            rotate_left
                            · rintro w' ⟨s0, s1, s2, s3, s4, s5⟩
                              go_simp
                              with_reducible rfl
                            rotate_left
                            · simp only [Act.put, List.setIfInBounds_toArray, List.set_cons_zero, List.set_cons_succ, i64_w, i32_w]
                              rfl
                            refine one_ (i := 10) (N := some 90) #[true, true, true, true, true, true, true, true, true, true, true, false, false, false, false, false] rfl rfl (one_of HT_.out (by kernel_rfl)) (by decide) (fun K hK => ?_)
                            refine goes_ Tryd.func11 (by kernel_rfl) rfl #[.int .u64 ((rd_T28 t266 x15_3).f0), .string ((rd_T28 t266 x15_3).f1)] (by rfl) rfl rfl (by (try simp only [List.map_toArray, List.map_cons, List.map_nil]); first | done | rfl | (simp only [List.length_drop, List.length_take]; rfl)) ?_
                            with_reducible refine (frame_Put.calls k3 ((rd_T28 t266 x15_3).f0) ((rd_T28 t266 x15_3).f1) t292 t293 _ ?side1 A40.out).mono ?_
                            (case side1 => exact Tabs.below HT.out (by repeat (first | (with_reducible first | exact HB.out | apply below_alloc | apply pw_below_drewN | apply below_drew1) | exact HB.out)))
                            rintro e w49 ⟨rfl, hb⟩
                            have HS0_ := (hb.cell (World.block_lt_of_cell? _ _ (hHeld.1))).trans (hHeld.1)
                            have HS1_ := (hb.cell (World.block_lt_of_cell? _ _ (hHeld.2.1))).trans (hHeld.2.1)
                            have HS2_ := (hb.cell (World.block_lt_of_cell? _ _ (hHeld.2.2.1))).trans (hHeld.2.2.1)
                            have HS3_ := (hb.cell (World.block_lt_of_cell? _ _ (hHeld.2.2.2.1))).trans (hHeld.2.2.2.1)
                            have HS4_ := (hb.cell (World.block_lt_of_cell? _ _ (hHeld.2.2.2.2.1))).trans (hHeld.2.2.2.2.1)
                            have HS5_ := (hb.cell (World.block_lt_of_cell? _ _ (hHeld.2.2.2.2.2))).trans (hHeld.2.2.2.2.2)
                            refine ⟨_, rfl, ?_⟩
                            have n0_ := Aside0.mk (Kd.R_below (by (with_reducible repeat (first | apply Kd.R_alloc | apply Kd.R_drewN | apply Kd.R_drew)); exact HO_10.out) hb)
                            have n1_ := Aside0.mk (below_step (by repeat (first | (with_reducible first | exact HB.out | apply below_alloc | apply pw_below_drewN | apply below_drew1) | exact HB.out)) hb)
                            clear HO_10
                            clear HB
                            have HO_10 := n0_
                            have HB := n1_
                            clear n0_ n1_
                            (try clear hb)
                            (try clear hb2)
                            (try clear hk)
                            (try clear hi)
                            refine hK.out _ _ ⟨HS0_, HS1_, HS2_, HS3_, HS4_, HS5_⟩ (fun hHeld => ?_)
                            clear hK K
                            refine norm_ (a' := ?_) ?_ ?_
                            rotate_left
                            · show Act.put _ (some 90) _ = _
                              simp only [Act.put, List.setIfInBounds_toArray, List.set_cons_zero, List.set_cons_succ, i64_w, i32_w]
                              rfl
                            refine pure_ (i := 11) (N := some 79) (v := ?_) (a' := ?_) #[true, true, true, true, true, true, true, true, true, true, true, true, false, false, false, false] rfl rfl (any_of HT_.out (by kernel_rfl)) (fun _ _ _ h => h) (Or.inl ⟨by rfl, ?_⟩) ?_ ?_
                            rotate_left
                            · intro w'
                              go_simp
                              with_reducible rfl
                            rotate_left
                            · simp only [Act.put, List.setIfInBounds_toArray, List.set_cons_zero, List.set_cons_succ, i64_w, i32_w]
                              rfl
                            refine pure_ (i := 12) (N := some 91) (v := ?_) (a' := ?_) #[true, true, true, true, true, true, true, true, true, true, true, true, true, false, false, false] rfl rfl (any_of HT_.out (by kernel_rfl)) (fun _ _ _ h => h) (Or.inl ⟨by rfl, ?_⟩) ?_ ?_
                            rotate_left
                            · intro w'
                              go_simp
                              with_reducible rfl
                            rotate_left
                            · simp only [Act.put, List.setIfInBounds_toArray, List.set_cons_zero, List.set_cons_succ, i64_w, i32_w]
                              rfl
                            refine pure_ (i := 13) (N := some 92) (v := ?_) (a' := ?_) #[true, true, true, true, true, true, true, true, true, true, true, true, true, true, false, false] rfl rfl (any_of HT_.out (by kernel_rfl)) (fun _ _ _ h => h) (Or.inl ⟨by rfl, ?_⟩) ?_ ?_
                            rotate_left
                            · intro w'
                              go_simp
                              with_reducible rfl
                            rotate_left
                            · simp only [Act.put, List.setIfInBounds_toArray, List.set_cons_zero, List.set_cons_succ, i64_w, i32_w]
                              rfl
                            refine pure_ (i := 14) (N := some 16) (v := ?_) (a' := ?_) #[true, true, true, true, true, true, true, true, true, true, true, true, true, true, true, false] rfl rfl (any_of HT_.out (by kernel_rfl)) (fun _ _ _ h => h) (Or.inl ⟨by rfl, ?_⟩) ?_ ?_
                            rotate_left
                            · intro w'
                              go_simp
                              with_reducible rfl
                            rotate_left
                            · simp only [Act.put, List.setIfInBounds_toArray, List.set_cons_zero, List.set_cons_succ, i64_w, i32_w]
                              rfl
                            refine pure_ (i := 15) (N := some 17) (v := ?_) (a' := ?_) #[true, true, true, true, true, true, true, true, true, true, true, true, true, true, true, true] rfl rfl (any_of HT_.out (by kernel_rfl)) (fun _ _ _ h => h) (Or.inl ⟨by rfl, ?_⟩) ?_ ?_
                            rotate_left
                            · intro w'
                              go_simp
                              with_reducible rfl
                            rotate_left
                            · simp only [Act.put, List.setIfInBounds_toArray, List.set_cons_zero, List.set_cons_succ, i64_w, i32_w]
                              rfl
                            refine done_ (done_of HT_.out (by kernel_rfl)) ?_
                            have p294 : 0 ≤ (x15_3 : Int) := of_decide_eq_true (by first | (with_reducible assumption) | assumption)
                            have q294 : x15_3 < (t266.length : Int) := of_decide_eq_true (by first | (with_reducible assumption) | assumption)
                            obtain ⟨ad294, e294, hx294_0, hx294_1, hx294_2⟩ := at_T28 (Kd.R_reads' HO_10.out).2.2 x15_3 p294 q294
                            obtain rfl : ad290 = ad294 := (by injection e294)
                            replace p294 := eq_true p294
                            replace q294 := eq_true q294
                            try go_wp2
                            go_ret
                            exact ⟨by first | rfl | (simp [errW_none, errW_some] <;> rfl) | (simp [*, errW_none, errW_some] <;> rfl), by repeat (first | (with_reducible first | exact HB.out | apply below_alloc | apply pw_below_drewN | apply below_drew1) | exact HB.out)⟩
                        · rw [if_neg c41] at H
                          have c41b0 : (t293 == 0) = false := beq_eq_false_iff_ne.mpr c41
                          have c41b1 : (t293 != 0) = true := bne_iff_ne.mpr c41
                          obtain rfl := Option.some.inj H
                          obtain ⟨Ao50, co50, eo50⟩ := Kd.R_slice HO_10.out
                          subst eo50
                          try go_wp2
                          have n0_ := Aside0.mk (Kd.R_drew HO_10.out)
                          have n1_ := Aside0.mk (below_drew1 HB.out)
                          clear HO_10
                          clear HB
                          have HO_10 := n0_
                          have HB := n1_
                          clear n0_ n1_
                          have p290 : 0 ≤ (x15_3 : Int) := of_decide_eq_true (by first | (with_reducible assumption) | assumption)
                          have q290 : x15_3 < (t266.length : Int) := of_decide_eq_true (by first | (with_reducible assumption) | assumption)
                          obtain ⟨ad290, e290, hx290_0, hx290_1, hx290_2⟩ := at_T28 (Kd.R_reads' HO_10.out).2.2 x15_3 p290 q290
                          cases e290
                          replace p290 := eq_true p290
                          replace q290 := eq_true q290
                          have p291 : 0 ≤ (x15_3 : Int) := of_decide_eq_true (by first | (with_reducible assumption) | assumption)
                          have q291 : x15_3 < (t266.length : Int) := of_decide_eq_true (by first | (with_reducible assumption) | assumption)
                          obtain ⟨ad291, e291, hx291_0, hx291_1, hx291_2⟩ := at_T28 (Kd.R_reads' HO_10.out).2.2 x15_3 p291 q291
                          obtain rfl : ad290 = ad291 := (by injection e291)
                          replace p291 := eq_true p291
                          replace q291 := eq_true q291
                          refine start_ (n := 16) (S := fun w' => w'.cell? (ad290.add ((x15_3).toNat * 3)) = some (.int .u64 ((rd_T28 t266 x15_3).f0)) ∧ w'.cell? ⟨(ad290.add ((x15_3).toNat * 3)).block, (ad290.add ((x15_3).toNat * 3)).off + 1, none⟩ = some (.string ((rd_T28 t266 x15_3).f1)) ∧ w'.cell? ⟨(ad290.add ((x15_3).toNat * 3)).block, (ad290.add ((x15_3).toNat * 3)).off + 2, none⟩ = some (.int .i64 ((rd_T28 t266 x15_3).f2)) ∧ w'.cell? (ad290.add ((x15_3).toNat * 3)) = some (.int .u64 ((rd_T28 t266 x15_3).f0)) ∧ w'.cell? ⟨(ad290.add ((x15_3).toNat * 3)).block, (ad290.add ((x15_3).toNat * 3)).off + 1, none⟩ = some (.string ((rd_T28 t266 x15_3).f1)) ∧ w'.cell? ⟨(ad290.add ((x15_3).toNat * 3)).block, (ad290.add ((x15_3).toNat * 3)).off + 2, none⟩ = some (.int .i64 ((rd_T28 t266 x15_3).f2))) (ds := []) #[false, false, false, false, false, false, false, false, false, false, false, false, false, false, false, false] (by kernel_rfl) rfl rfl ⟨hx290_0, hx290_1, hx290_2, hx291_0, hx291_1, hx291_2⟩ (fun hHeld => ?_); refine with_tabW postroomlaw6_FrameParts.tab13 postroomlaw6_FrameParts.bits13 (fun HT_ HW_ => ?_)
                          generalize wr.drew = w51 at HO_10 HB hx290_0 hx290_1 hx290_2 hx291_0 hx291_1 hx291_2 hHeld ⊢
                          refine pure_ (i := 0) (N := some 80) (v := ?_) (a' := ?_) #[true, false, false, false, false, false, false, false, false, false, false, false, false, false, false, false] rfl rfl (any_of HT_.out (by kernel_rfl)) (fun _ _ _ h => h) (Or.inl ⟨by rfl, ?_⟩) ?_ ?_
                          rotate_left
                          · intro w'
                            go_simp
                            with_reducible rfl
                          rotate_left
                          · simp only [Act.put, List.setIfInBounds_toArray, List.set_cons_zero, List.set_cons_succ, i64_w, i32_w]
                            rfl
                          refine pure_ (i := 1) (N := some 81) (v := ?_) (a' := ?_) #[true, true, false, false, false, false, false, false, false, false, false, false, false, false, false, false] rfl rfl (any_of HT_.out (by kernel_rfl)) (fun _ _ _ h => h) (Or.inl ⟨by rfl, ?_⟩) ?_ ?_
                          rotate_left
                          · intro w'
                            go_simp
                            with_reducible rfl
                          rotate_left
                          · simp only [Act.put, List.setIfInBounds_toArray, List.set_cons_zero, List.set_cons_succ, i64_w, i32_w]
                            rfl
                          refine pure_ (i := 2) (N := some 82) (v := ?_) (a' := ?_) #[true, true, true, false, false, false, false, false, false, false, false, false, false, false, false, false] rfl rfl (any_of HT_.out (by kernel_rfl)) (fun _ _ _ h => h) (Or.inl ⟨by rfl, ?_⟩) ?_ ?_
                          rotate_left
                          · intro w'
                            go_simp
                            with_reducible rfl
                          rotate_left
                          · simp only [Act.put, List.setIfInBounds_toArray, List.set_cons_zero, List.set_cons_succ, i64_w, i32_w]
                            rfl
                          refine pure_ (i := 3) (N := some 83) (v := ?_) (a' := ?_) #[true, true, true, true, false, false, false, false, false, false, false, false, false, false, false, false] rfl rfl (any_of HT_.out (by kernel_rfl)) (fun _ _ _ h => h) (Or.inl ⟨by rfl, ?_⟩) ?_ ?_
                          rotate_left
                          · intro w'
                            go_simp
                            with_reducible rfl
                          rotate_left
                          · simp only [Act.put, List.setIfInBounds_toArray, List.set_cons_zero, List.set_cons_succ, i64_w, i32_w]
                            rfl
                          refine pure_ (i := 5) (N := some 85) (v := ?_) (a' := ?_) #[true, true, true, true, false, true, false, false, false, false, false, false, false, false, false, false] rfl rfl (any_of HT_.out (by kernel_rfl)) (fun _ _ _ h => h) (Or.inl ⟨by rfl, ?_⟩) ?_ ?_
                          rotate_left
                          · intro w'
                            go_simp
                            with_reducible rfl
                          rotate_left
                          · simp only [Act.put, List.setIfInBounds_toArray, List.set_cons_zero, List.set_cons_succ, i64_w, i32_w]
                            rfl
                          refine pure_ (i := 6) (N := some 86) (v := ?_) (a' := ?_) #[true, true, true, true, false, true, true, false, false, false, false, false, false, false, false, false] rfl rfl (any_of HT_.out (by kernel_rfl)) (fun _ _ _ h => h) (Or.inl ⟨by rfl, ?_⟩) ?_ ?_
                          rotate_left
                          · intro w'
                            go_simp
                            with_reducible rfl
                          rotate_left
                          · simp only [Act.put, List.setIfInBounds_toArray, List.set_cons_zero, List.set_cons_succ, i64_w, i32_w]
                            rfl
                          refine pure_ (i := 7) (N := some 87) (v := ?_) (a' := ?_) #[true, true, true, true, false, true, true, true, false, false, false, false, false, false, false, false] rfl rfl (any_of HT_.out (by kernel_rfl)) (fun _ _ _ h => h) (Or.inl ⟨by rfl, ?_⟩) ?_ ?_
                          rotate_left
                          · intro w'
                            go_simp
                            with_reducible rfl
                          rotate_left
                          · simp only [Act.put, List.setIfInBounds_toArray, List.set_cons_zero, List.set_cons_succ, i64_w, i32_w]
                            rfl
                          refine pure_ (i := 8) (N := some 88) (v := ?_) (a' := ?_) #[true, true, true, true, false, true, true, true, true, false, false, false, false, false, false, false] rfl rfl (any_of HT_.out (by kernel_rfl)) (fun _ _ _ h => h) (Or.inl ⟨by rfl, ?_⟩) ?_ ?_
                          rotate_left
                          · intro w'
                            go_simp
                            with_reducible rfl
                          rotate_left
                          · simp only [Act.put, List.setIfInBounds_toArray, List.set_cons_zero, List.set_cons_succ, i64_w, i32_w]
                            rfl
                          refine take_ (i := 4) (N := some 84) (v := ?_) (a' := ?_) #[true, true, true, true, true, true, true, true, true, false, false, false, false, false, false, false] rfl rfl (take_ofW HT_.out HW_.out (by kernel_rfl)) (fun _ _ _ h => h) (Or.inl ⟨by rfl, ?_⟩) hHeld ?_ ?_
                          rotate_left
                          · rintro w' ⟨s0, s1, s2, s3, s4, s5⟩
                            go_simp
                            with_reducible rfl
                          rotate_left
                          · simp only [Act.put, List.setIfInBounds_toArray, List.set_cons_zero, List.set_cons_succ, i64_w, i32_w]
                            rfl
                          refine take_ (i := 9) (N := some 89) (v := ?_) (a' := ?_) #[true, true, true, true, true, true, true, true, true, true, false, false, false, false, false, false] rfl rfl (take_ofW HT_.out HW_.out (by kernel_rfl)) (fun _ _ _ h => h) (Or.inl ⟨by rfl, ?_⟩) hHeld ?_ ?_
                          rotate_left
                          · rintro w' ⟨s0, s1, s2, s3, s4, s5⟩
                            go_simp
                            with_reducible rfl
                          rotate_left
                          · simp only [Act.put, List.setIfInBounds_toArray, List.set_cons_zero, List.set_cons_succ, i64_w, i32_w]
                            rfl
                          refine one_ (i := 10) (N := some 90) #[true, true, true, true, true, true, true, true, true, true, true, false, false, false, false, false] rfl rfl (one_of HT_.out (by kernel_rfl)) (by decide) (fun K hK => ?_)
                          refine goes_ Tryd.func11 (by kernel_rfl) rfl #[.int .u64 ((rd_T28 t266 x15_3).f0), .string ((rd_T28 t266 x15_3).f1)] (by rfl) rfl rfl (by (try simp only [List.map_toArray, List.map_cons, List.map_nil]); first | done | rfl | (simp only [List.length_drop, List.length_take]; rfl)) ?_
                          with_reducible refine (frame_Put.calls k3 ((rd_T28 t266 x15_3).f0) ((rd_T28 t266 x15_3).f1) t292 t293 _ ?side1 A40.out).mono ?_
                          (case side1 => exact Tabs.below HT.out (by repeat (first | (with_reducible first | exact HB.out | apply below_alloc | apply pw_below_drewN | apply below_drew1) | exact HB.out)))
                          rintro e w52 ⟨rfl, hb⟩
                          have HS0_ := (hb.cell (World.block_lt_of_cell? _ _ (hHeld.1))).trans (hHeld.1)
                          have HS1_ := (hb.cell (World.block_lt_of_cell? _ _ (hHeld.2.1))).trans (hHeld.2.1)
                          have HS2_ := (hb.cell (World.block_lt_of_cell? _ _ (hHeld.2.2.1))).trans (hHeld.2.2.1)
                          have HS3_ := (hb.cell (World.block_lt_of_cell? _ _ (hHeld.2.2.2.1))).trans (hHeld.2.2.2.1)
                          have HS4_ := (hb.cell (World.block_lt_of_cell? _ _ (hHeld.2.2.2.2.1))).trans (hHeld.2.2.2.2.1)
                          have HS5_ := (hb.cell (World.block_lt_of_cell? _ _ (hHeld.2.2.2.2.2))).trans (hHeld.2.2.2.2.2)
                          refine ⟨_, rfl, ?_⟩
                          have n0_ := Aside0.mk (Kd.R_below (by (with_reducible repeat (first | apply Kd.R_alloc | apply Kd.R_drewN | apply Kd.R_drew)); exact HO_10.out) hb)
                          have n1_ := Aside0.mk (below_step (by repeat (first | (with_reducible first | exact HB.out | apply below_alloc | apply pw_below_drewN | apply below_drew1) | exact HB.out)) hb)
                          clear HO_10
                          clear HB
                          have HO_10 := n0_
                          have HB := n1_
                          clear n0_ n1_
                          (try clear hb)
                          (try clear hb2)
                          (try clear hk)
                          (try clear hi)
                          refine hK.out _ _ ⟨HS0_, HS1_, HS2_, HS3_, HS4_, HS5_⟩ (fun hHeld => ?_)
                          clear hK K
                          refine norm_ (a' := ?_) ?_ ?_
                          rotate_left
                          · show Act.put _ (some 90) _ = _
                            simp only [Act.put, List.setIfInBounds_toArray, List.set_cons_zero, List.set_cons_succ, i64_w, i32_w]
                            rfl
                          refine pure_ (i := 11) (N := some 79) (v := ?_) (a' := ?_) #[true, true, true, true, true, true, true, true, true, true, true, true, false, false, false, false] rfl rfl (any_of HT_.out (by kernel_rfl)) (fun _ _ _ h => h) (Or.inl ⟨by rfl, ?_⟩) ?_ ?_
                          rotate_left
                          · intro w'
                            go_simp
                            with_reducible rfl
                          rotate_left
                          · simp only [Act.put, List.setIfInBounds_toArray, List.set_cons_zero, List.set_cons_succ, i64_w, i32_w]
                            rfl
                          refine pure_ (i := 12) (N := some 91) (v := ?_) (a' := ?_) #[true, true, true, true, true, true, true, true, true, true, true, true, true, false, false, false] rfl rfl (any_of HT_.out (by kernel_rfl)) (fun _ _ _ h => h) (Or.inl ⟨by rfl, ?_⟩) ?_ ?_
                          rotate_left
                          · intro w'
                            go_simp
                            with_reducible rfl
                          rotate_left
                          · simp only [Act.put, List.setIfInBounds_toArray, List.set_cons_zero, List.set_cons_succ, i64_w, i32_w]
                            rfl
                          refine pure_ (i := 13) (N := some 92) (v := ?_) (a' := ?_) #[true, true, true, true, true, true, true, true, true, true, true, true, true, true, false, false] rfl rfl (any_of HT_.out (by kernel_rfl)) (fun _ _ _ h => h) (Or.inl ⟨by rfl, ?_⟩) ?_ ?_
                          rotate_left
                          · intro w'
                            go_simp
                            with_reducible rfl
                          rotate_left
                          · simp only [Act.put, List.setIfInBounds_toArray, List.set_cons_zero, List.set_cons_succ, i64_w, i32_w]
                            rfl
                          refine pure_ (i := 14) (N := some 16) (v := ?_) (a' := ?_) #[true, true, true, true, true, true, true, true, true, true, true, true, true, true, true, false] rfl rfl (any_of HT_.out (by kernel_rfl)) (fun _ _ _ h => h) (Or.inl ⟨by rfl, ?_⟩) ?_ ?_
                          rotate_left
                          · intro w'
                            go_simp
                            with_reducible rfl
                          rotate_left
                          · simp only [Act.put, List.setIfInBounds_toArray, List.set_cons_zero, List.set_cons_succ, i64_w, i32_w]
                            rfl
                          refine pure_ (i := 15) (N := some 17) (v := ?_) (a' := ?_) #[true, true, true, true, true, true, true, true, true, true, true, true, true, true, true, true] rfl rfl (any_of HT_.out (by kernel_rfl)) (fun _ _ _ h => h) (Or.inl ⟨by rfl, ?_⟩) ?_ ?_
                          rotate_left
                          · intro w'
                            go_simp
                            with_reducible rfl
                          rotate_left
                          · simp only [Act.put, List.setIfInBounds_toArray, List.set_cons_zero, List.set_cons_succ, i64_w, i32_w]
                            rfl
                          refine done_ (done_of HT_.out (by kernel_rfl)) ?_
                          try go_wp2
                          go_ret
                          exact ⟨by first | rfl | (simp [errW_none, errW_some] <;> rfl) | (simp [*, errW_none, errW_some] <;> rfl), by repeat (first | (with_reducible first | exact HB.out | apply below_alloc | apply pw_below_drewN | apply below_drew1) | exact HB.out)⟩
                      · rw [if_neg c39] at H
                        exact absurd H (by simp)
                    · rw [if_neg c38] at H
                      have c38b0 : decide (x15_3 < (t266.length : Int)) = false := decide_eq_false c38
                      clear c38
                      by_cases c53 : 0 ≤ t267
                      · rw [if_pos c53] at H
                        have c53b0 := eq_true c53
                        have c53b1 : decide (0 ≤ t267) = true := decide_eq_true c53
                        clear c53
                        by_cases c54 : t267 ≤ (a2.size : Int)
                        · rw [if_pos c54] at H
                          have c54b0 := eq_true c54
                          have c54b1 : decide (t267 ≤ (a2.size : Int)) = true := decide_eq_true c54
                          clear c54
                          obtain rfl := Option.some.inj H
                          obtain ⟨Ao55, co55, eo55⟩ := Kd.R_slice HO_10.out
                          subst eo55
                          go_wp2
                          go_ret
                          exact ⟨by first | rfl | (simp [errW_none, errW_some] <;> rfl) | (simp [*, errW_none, errW_some] <;> rfl), by repeat (first | (with_reducible first | exact HB.out | apply below_alloc | apply pw_below_drewN | apply below_drew1) | exact HB.out)⟩
                        · rw [if_neg c54] at H
                          exact absurd H (by simp)
                      · rw [if_neg c53] at H
                        exact absurd H (by simp)
        · rw [if_neg c11] at H
          exact absurd H (by simp)

/-- THE ONE PURE STATEMENT of postroomlaw6_FrameParts. -/
def postroomlaw6_FrameParts.Pure : Prop := ∀ (a0 : Int) (l1 : List ByteArray) (a2 : ByteArray), (Lit.int .u64 a0).wf = true → l1.length ≤ maxLen → l1.length * 16 ≤ 140737488351232 → (∀ x ∈ l1, x.size ≤ maxLen) → a2.size ≤ 140737488351232 → ∃ k, postroomlaw6_FrameParts.f k a0 l1 a2 = some true
theorem postroomlaw6_FrameParts.walk (P : postroomlaw6_FrameParts.Pure) (a0 : Int) (A1 : Option Addr) (c1 : Nat) (l1 : List ByteArray) (a2 : ByteArray) (w : World) (hr1 : Kd.C Kd.string w A1 l1.length l1) (hc1 : l1.length ≤ c1) (hw0 : (Lit.int .u64 a0).wf = true) (hm1 : l1.length ≤ maxLen) (hy1 : l1.length * 16 ≤ 140737488351232) (hw1 : (∀ x ∈ l1, x.size ≤ maxLen)) (hw2 : a2.size ≤ 140737488351232) (hv0 : Tabs w) :
    Calls Tryd.prog 7 #[.int .u64 a0, .slice A1 l1.length c1, .string a2] w fun e w' => e = .returned (.bool true) ∧ Below w.heap.size w w' := by
  obtain ⟨k, h⟩ := P a0 l1 a2 hw0 hm1 hy1 hw1 hw2
  refine (postroomlaw6_FrameParts.calls k a0 A1 c1 l1 a2 true w hr1 hc1 hv0 h).mono ?_
  rintro e w' ⟨rfl, hd⟩
  exact ⟨rfl, hd⟩

end Go.Proofs.YtbhbbnfkblibfaaDoor.XFrm
