/- The comparing closure of label.ordered: cmp.Compare of two names. Conditions: those that each theorem names. -/
import Derived.Test.YthaegbiblblccaaGreatDoorXEntP1
import Derived.Test.YthaegbiblblccaaGreatDoorNumLib
import Derived.Sort.Grow
import Derived.Sort.Walk0
import Derived.Test.YthaegbiblblccaaGreatDoorOwnA
namespace Go.Proofs.YthaegbiblblccaaGreatDoor.XEnt
open Go Go.RowKit Go.Sort Go.Proofs.YthaegbiblblccaaGreatDoorW.PrintWords Go.Proofs.YthaegbiblblccaaGreatDoorW.PrintLast Go.Proofs.YthaegbiblblccaaGreatDoorW.PrintMore Go.Proofs.YthaegbiblblccaaGreatDoor.Num
set_option linter.unusedVariables false
set_option linter.unusedSimpArgs false
abbrev C := S52

/-- what cmp.Compare answers of two texts -/
def cmpS (x y : ByteArray) : Int := if Op.bytesLess x.toList y.toList = true then -1 else if Op.bytesLess y.toList x.toList = true then 1 else 0

structure Gr (W0 W : World) : Prop where
  eq : ∃ q os, W = grow (W0.drewN q) os
theorem drewN_drew (w : World) (n : Nat) : (w.drewN n).drew = w.drewN (n + 1) := by
  simp only [World.drewN, World.drew, Nat.add_assoc]
theorem Gr.start (W : World) : Gr W W := ⟨0, #[], by rw [grow_empty]; rfl⟩
theorem Gr.drew {W0 W : World} (h : Gr W0 W) : Gr W0 W.drew := by
  obtain ⟨q, os, rfl⟩ := h.eq
  exact ⟨q + 1, os, by rw [drew_grow, drewN_drew]⟩
theorem Gr.alloc {W0 W : World} (h : Gr W0 W) (o : Obj) : Gr W0 (W.alloc o) := by
  obtain ⟨q, os, rfl⟩ := h.eq
  exact ⟨q, os ++ #[o], by rw [alloc_eq_grow, grow_grow]⟩
theorem Gr.cell {W0 W : World} (h : Gr W0 W) {a : Addr} {v : Value} (hc : W0.cell? a = some v) (hl : a.block < W0.heap.size) : W.cell? a = some v := by
  obtain ⟨q, os, rfl⟩ := h.eq
  rw [cell?_grow _ _ _ (by exact hl)]; exact hc
theorem Gr.size {W0 W : World} (h : Gr W0 W) : W0.heap.size ≤ W.heap.size := by
  obtain ⟨q, os, rfl⟩ := h.eq
  rw [size_grow]; exact Nat.le_add_right _ _
theorem Gr.trans {W0 W W' : World} (h : Gr W0 W) (h' : Gr W W') : Gr W0 W' := by
  obtain ⟨q, os, rfl⟩ := h.eq
  obtain ⟨q', os', rfl⟩ := h'.eq
  refine ⟨q + q', os ++ os', ?_⟩
  rw [← grow_grow]
  congr 1
  show grow ((W0.drewN q).drewN q') os = _
  congr 1
  simp only [World.drewN, Nat.add_assoc]

theorem isNaN.calls (x : ByteArray) (w : World) : Calls Tryz.prog 94 #[.string x] w fun e w' => e = .returned (.bool false) ∧ w' = w := by
  go_enter Tryz.func94, Tryz.ntmps94
  go_wp2
  go_ret
  exact ⟨by simp, rfl⟩
theorem compare.calls (x y : ByteArray) (w : World) : Calls Tryz.prog 80 #[.string x, .string y] w fun e w' => e = .returned (.int .i64 (cmpS x y)) ∧ w' = w := by
  unfold cmpS
  by_cases c : Op.bytesLess x.toList y.toList = true
  · rw [if_pos c]
    go_enter Tryz.func80, Tryz.ntmps80
    go_wp2_with (go_at_call 94; refine (isNaN.calls _ _).mono ?_; rintro e w' ⟨rfl, rfl⟩)
    go_ret
    exact ⟨rfl, rfl⟩
  · rw [if_neg c]
    replace c := Bool.eq_false_iff.mpr c
    by_cases d : Op.bytesLess y.toList x.toList = true
    · rw [if_pos d]
      go_enter Tryz.func80, Tryz.ntmps80
      go_wp2_with (go_at_call 94; refine (isNaN.calls _ _).mono ?_; rintro e w' ⟨rfl, rfl⟩)
      go_ret
      exact ⟨rfl, rfl⟩
    · rw [if_neg d]
      replace d := Bool.eq_false_iff.mpr d
      go_enter Tryz.func80, Tryz.ntmps80
      go_wp2_with (go_at_call 94; refine (isNaN.calls _ _).mono ?_; rintro e w' ⟨rfl, rfl⟩)
      go_ret
      exact ⟨rfl, rfl⟩
theorem key.calls (x : C) (w : World) : Calls Tryz.prog 64 #[.agg #[.string x.f0, .string x.f1]] w fun e w' => e = .returned (.string x.f0) ∧ w' = w.alloc (.cells #[.string x.f0, .string x.f1] 52) := by
  go_enter Tryz.func64, Tryz.ntmps64
  go_wp2
  go_ret
  exact ⟨rfl, rfl⟩
set_option maxHeartbeats 4000000 in
theorem cmp.calls (x y : C) (B : Nat) (w : World) (hB : w.cell? ⟨B, 0, none⟩ = some (.func (.func 64) #[] #[])) (hlt : B < w.heap.size) :
    Calls Tryz.prog 79 #[.agg #[.string x.f0, .string x.f1], .agg #[.string y.f0, .string y.f1], .pointer (some ⟨B, 0, none⟩)] w fun e w' => e = .returned (.int .i64 (cmpS x.f0 y.f0)) ∧ Gr w w' := by
  have hB2 : ∀ o o', ((w.alloc o).alloc o').cell? ⟨B, 0, none⟩ = some (.func (.func 64) #[] #[]) := fun o o' => (World.cell?_alloc_past _ B 0 (by rw [World.size_alloc]; omega)).trans ((World.cell?_alloc_past o B 0 hlt).trans hB)
  obtain ⟨r, hr⟩ : ∃ r, cmpS x.f0 y.f0 = r := ⟨_, rfl⟩
  rw [hr]
  have hcmp : ∀ W, Calls Tryz.prog 80 #[.string x.f0, .string y.f0] W fun e w' => e = .returned (.int .i64 r) ∧ w' = W := fun W => by rw [← hr]; exact compare.calls _ _ _
  clear hr
  go_enter Tryz.func79, Tryz.ntmps79
  go_wp2
  have h0 : ((w.alloc (.cells #[.string x.f0, .string x.f1] 52)).alloc (.cells #[.string y.f0, .string y.f1] 52)).cell? ⟨w.heap.size, 0, none⟩ = some (.string x.f0) := by
    rw [World.cell?_alloc_past _ _ _ (by rw [World.size_alloc]; omega), World.cell?_alloc_new]; rfl
  have h1 : ((w.alloc (.cells #[.string x.f0, .string x.f1] 52)).alloc (.cells #[.string y.f0, .string y.f1] 52)).cell? ⟨w.heap.size, 1, none⟩ = some (.string x.f1) := by
    rw [World.cell?_alloc_past _ _ _ (by rw [World.size_alloc]; omega), World.cell?_alloc_new]; rfl
  have h2 : ((w.alloc (.cells #[.string x.f0, .string x.f1] 52)).alloc (.cells #[.string y.f0, .string y.f1] 52)).cell? ⟨w.heap.size + 1, 0, none⟩ = some (.string y.f0) := by
    rw [show w.heap.size + 1 = (w.alloc (.cells #[.string x.f0, .string x.f1] 52)).heap.size by rw [World.size_alloc], World.cell?_alloc_new]; rfl
  have h3 : ((w.alloc (.cells #[.string x.f0, .string x.f1] 52)).alloc (.cells #[.string y.f0, .string y.f1] 52)).cell? ⟨w.heap.size + 1, 1, none⟩ = some (.string y.f1) := by
    rw [show w.heap.size + 1 = (w.alloc (.cells #[.string x.f0, .string x.f1] 52)).heap.size by rw [World.size_alloc], World.cell?_alloc_new]; rfl
  have hk := hB2 (.cells #[.string x.f0, .string x.f1] 52) (.cells #[.string y.f0, .string y.f1] 52)
  have hg0 := ((Gr.start w).alloc (.cells #[.string x.f0, .string x.f1] 52)).alloc (.cells #[.string y.f0, .string y.f1] 52)
  have hz : ((w.alloc (.cells #[.string x.f0, .string x.f1] 52)).alloc (.cells #[.string y.f0, .string y.f1] 52)).heap.size = w.heap.size + 1 + 1 := by rw [World.size_alloc, World.size_alloc]
  generalize ((w.alloc (.cells #[.string x.f0, .string x.f1] 52)).alloc (.cells #[.string y.f0, .string y.f1] 52)) = W0 at h0 h1 h2 h3 hk hg0 hz ⊢
  generalize w.heap.size = s at h0 h1 h2 h3 hz hlt ⊢
  clear hB hB2
  have HF : ∀ W, Gr W0 W → W.cell? ⟨B, 0, none⟩ = some (.func (.func 64) #[] #[]) ∧ W.cell? ⟨s, 0, none⟩ = some (.string x.f0) ∧ W.cell? ⟨s, 1, none⟩ = some (.string x.f1) ∧ W.cell? ⟨s + 1, 0, none⟩ = some (.string y.f0) ∧ W.cell? ⟨s + 1, 1, none⟩ = some (.string y.f1) := fun W h =>
    ⟨h.cell hk (by show B < _; omega), h.cell h0 (by show s < _; omega), h.cell h1 (by show s < _; omega), h.cell h2 (by show s + 1 < _; omega), h.cell h3 (by show s + 1 < _; omega)⟩
  have hI : Gr W0 W0 := Gr.start _
  have HG := Aside0.mk hg0
  have HFF := Aside0.mk HF
  have HC := Aside0.mk hcmp
  clear h0 h1 h2 h3 hk hg0 HF hcmp hz hlt
  go_region_held3 (fun W => W.cell? ⟨B, 0, none⟩ = some (.func (.func 64) #[] #[]) ∧ W.cell? ⟨s, 0, none⟩ = some (.string x.f0) ∧ W.cell? ⟨s, 1, none⟩ = some (.string x.f1) ∧ W.cell? ⟨s + 1, 0, none⟩ = some (.string y.f0) ∧ W.cell? ⟨s + 1, 1, none⟩ = some (.string y.f1))
    (exact HFF.out _ (by repeat (first | exact hI | apply Gr.drew | apply Gr.alloc)))
    (first
      | (go_at_call 64; (first | with_reducible refine (key.calls x _).mono ?_ | with_reducible refine (key.calls y _).mono ?_); rintro e w2 ⟨rfl, rfl⟩)
      | (go_at_call 80; refine (HC.out _).mono ?_; rintro e w2 ⟨rfl, rfl⟩))
  go_wp2
  go_ret
  exact ⟨rfl, HG.out.trans (by repeat (first | exact hI | apply Gr.drew | apply Gr.alloc))⟩
end Go.Proofs.YthaegbiblblccaaGreatDoor.XEnt
