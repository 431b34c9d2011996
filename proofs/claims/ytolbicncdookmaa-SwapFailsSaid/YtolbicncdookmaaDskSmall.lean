/- The small functions of the disk: begin, fails, Ops, Fail, Stop. Conditions: counts far below 2^63. -/
import Derived.Test.YtolbicncdookmaaDskLay
import Derived.Lib.Hide
import Derived.Outline
namespace Go.Proofs.Ytolbicncdookmaa.XDsk
open Go Go.RowKit Go.Maps Go.Proofs.YtolbicncdookmaaW.PrintWords Go.Proofs.YtolbicncdookmaaW.PrintLast Go.Proofs.YtolbicncdookmaaW.PrintMore
attribute [local go_sem] max2_int min2_int max_two min_two
set_option linter.unusedVariables false
set_option linter.unusedSimpArgs false
/-- Bounds on what a disk holds. -/
structure Lim (S : PD) : Prop where
  room : 0 ≤ S.room ∧ S.room ≤ 9223372036854775807
  ops : 0 ≤ S.ops ∧ S.ops ≤ 1000000
  fail : 0 ≤ S.fail ∧ S.fail ≤ 9223372036854775807
  left : -1 ≤ S.left ∧ S.left ≤ 9223372036854775807
  files : S.files.length ≤ 1000000
  moves : S.moves.length ≤ 1000000
  count : S.names.length ≤ 1000000
  names : ∀ p ∈ S.names, 0 ≤ p.2 ∧ p.2 < (S.files.length : Int)
  size : ∀ f ∈ S.files, f.now.size ≤ 1000000 ∧ f.base.size ≤ 1000000 ∧ f.ch.length ≤ 1000000
variable {B b : Nat} {w : World} {L : Lay} {S : PD}
theorem Upto.one (w : World) (b i : Nat) (u : Value) : Upto (fun k => k = b) w (w.setCell ⟨b, i, none⟩ u) := (Upto.refl (fun k => k = b) w).setCell (p := ⟨b, i, none⟩) (.inl rfl) u
theorem Upto.set1 {w w' : World} {b : Nat} (h : Upto (fun k => k = b) w w') (i : Nat) (u : Value) : Upto (fun k => k = b) w (w'.setCell ⟨b, i, none⟩ u) := h.setCell (p := ⟨b, i, none⟩) (.inl rfl) u
theorem begin_neg (h : S.left < 0) : beginS S = { S with ops := S.ops + 1 } ∧ beginE S = 0 := by
  unfold beginS beginE
  have h0 : ¬ S.left = 0 := by omega
  have h1 : ¬ S.left > 0 := by omega
  rw [if_neg h0, if_neg h0, if_neg h1]
  exact ⟨rfl, rfl⟩
theorem begin_pos (h : 0 < S.left) : beginS S = { S with left := S.left - 1, ops := S.ops + 1 } ∧ beginE S = 0 := by
  unfold beginS beginE
  have h0 : ¬ S.left = 0 := by omega
  rw [if_neg h0, if_neg h0, if_pos h]
  exact ⟨rfl, rfl⟩
theorem begin_zero (h : S.left = 0) : beginS S = S ∧ beginE S = 11 := by
  unfold beginS beginE
  rw [if_pos h, if_pos h]
  exact ⟨rfl, rfl⟩
set_option maxHeartbeats 1000000 in
theorem begin_calls (h : DskL B w L b S) (hS : Lim S) :
    Calls Try.prog 39 #[.pointer (some ⟨b, 0, none⟩)] w fun e w' => e = .returned (.int .i64 (beginE S)) ∧ DskL B w' L b (beginS S) ∧ Upto (fun k => k = b) w w' := by
  obtain ⟨c0, c1, c2, c3, c4, c5, c6, c7, f⟩ := h.cells
  have HD := Lib.hid h
  clear c0 c1 c2 c3 c4 c6
  obtain ⟨ho1, ho2⟩ := hS.ops
  obtain ⟨hl1, hl2⟩ := hS.left
  clear hS h
  obtain ⟨x, hx⟩ : ∃ x, S.left = x := ⟨_, rfl⟩
  obtain ⟨y, hy⟩ : ∃ y, S.ops = y := ⟨_, rfl⟩
  have HX := Lib.hid hx
  have HY := Lib.hid hy
  rw [hx] at c7 hl1 hl2
  rw [hy] at c5 ho1 ho2
  clear hx hy
  rcases Int.lt_trichotomy x 0 with hlt | rfl | hlt
  · go_enter Try.func39, Try.ntmps39
    go_wp2
    go_ret
    obtain ⟨e1, e2⟩ := begin_neg (S := S) (by rw [HX.out]; exact hlt)
    rw [e1, e2]
    exact ⟨rfl, HD.out.setBox 5 _ (by rw [HY.out]; rfl) ⟨rfl, rfl, rfl, rfl⟩, Upto.one _ _ _ _⟩
  · go_enter Try.func39, Try.ntmps39
    go_wp2
    go_ret
    obtain ⟨e1, e2⟩ := begin_zero (S := S) HX.out
    rw [e1, e2]
    exact ⟨rfl, HD.out, Upto.refl _ _⟩
  · go_enter Try.func39, Try.ntmps39
    go_wp2
    go_ret
    obtain ⟨e1, e2⟩ := begin_pos (S := S) (by rw [HX.out]; exact hlt)
    rw [e1, e2]
    have h1 : DskL B (w.setCell ⟨b, 7, none⟩ (.int .i64 (x - 1))) L b { S with left := S.left - 1 } := HD.out.setBox 7 _ (by rw [HX.out]; rfl) ⟨rfl, rfl, rfl, rfl⟩
    exact ⟨rfl, h1.setBox 5 _ (by rw [HY.out]; rfl) ⟨rfl, rfl, rfl, rfl⟩, (Upto.one _ _ _ _).set1 _ _⟩
theorem fails_zero (h : S.fail < 1) : failsS S = S ∧ failsB S = false := by
  unfold failsS failsB
  rw [if_pos h, if_pos h]
  exact ⟨rfl, rfl⟩
theorem fails_pos (h : ¬ S.fail < 1) : failsS S = { S with fail := S.fail - 1 } ∧ failsB S = decide (S.fail = 1) := by
  unfold failsS failsB
  rw [if_neg h, if_neg h]
  exact ⟨rfl, rfl⟩
set_option maxHeartbeats 1000000 in
theorem fails_calls (h : DskL B w L b S) (hS : Lim S) :
    Calls Try.prog 38 #[.pointer (some ⟨b, 0, none⟩)] w fun e w' => e = .returned (.bool (failsB S)) ∧ DskL B w' L b (failsS S) ∧ Upto (fun k => k = b) w w' := by
  obtain ⟨c0, c1, c2, c3, c4, c5, c6, c7, f⟩ := h.cells
  have HD := Lib.hid h
  clear c0 c1 c2 c3 c4 c5 c7
  obtain ⟨ho1, ho2⟩ := hS.fail
  clear hS h
  obtain ⟨x, hx⟩ : ∃ x, S.fail = x := ⟨_, rfl⟩
  have HX := Lib.hid hx
  rw [hx] at c6 ho1 ho2
  clear hx
  by_cases hlt : x < 1
  · go_enter Try.func38, Try.ntmps38
    go_wp2
    go_ret
    obtain ⟨e1, e2⟩ := fails_zero (S := S) (by rw [HX.out]; exact hlt)
    rw [e1, e2]
    exact ⟨rfl, HD.out, Upto.refl _ _⟩
  · by_cases h1 : x = 1
    · subst h1
      go_enter Try.func38, Try.ntmps38
      go_wp2
      go_ret
      obtain ⟨e1, e2⟩ := fails_pos (S := S) (by rw [HX.out]; decide)
      rw [e1, e2]
      exact ⟨by rw [HX.out]; rfl, HD.out.setBox 6 _ (by rw [HX.out]; rfl) ⟨rfl, rfl, rfl, rfl⟩, Upto.one _ _ _ _⟩
    · have hz : (x - 1 == 0) = false := by simp; omega
      go_enter Try.func38, Try.ntmps38
      go_wp2
      go_ret
      obtain ⟨e1, e2⟩ := fails_pos (S := S) (by rw [HX.out]; omega)
      rw [e1, e2]
      exact ⟨by rw [HX.out, decide_eq_false h1]; rfl, HD.out.setBox 6 _ (by rw [HX.out]; rfl) ⟨rfl, rfl, rfl, rfl⟩, Upto.one _ _ _ _⟩
set_option maxHeartbeats 1000000 in
theorem ops_calls (h : DskL B w L b S) :
    Calls Try.prog 28 #[.pointer (some ⟨b, 0, none⟩)] w fun e w' => e = .returned (.int .i64 S.ops) ∧ w = w' := by
  obtain ⟨c0, c1, c2, c3, c4, c5, c6, c7, f⟩ := h.cells
  clear c0 c1 c2 c3 c4 c6 c7 h
  go_enter Try.func28, Try.ntmps28
  go_wp2
  go_ret
  exact ⟨rfl, rfl⟩
set_option maxHeartbeats 1000000 in
theorem fail_calls (h : DskL B w L b S) (n : Int) :
    Calls Try.prog 21 #[.pointer (some ⟨b, 0, none⟩), .int .i64 n] w fun e w' => e = .returned (.tuple #[]) ∧ DskL B w' L b (failS S n) ∧ Upto (fun k => k = b) w w' := by
  obtain ⟨c0, c1, c2, c3, c4, c5, c6, c7, f⟩ := h.cells
  have HD := Lib.hid h
  clear c0 c1 c2 c3 c4 c5 c7 h
  rcases Int.lt_or_le n 0 with hn | hn
  all_goals
    go_enter Try.func21, Try.ntmps21
    go_wp2
    go_end0
  · have e : failS S n = { S with fail := 0 } := by unfold failS; rw [Int.max_eq_right (by omega)]
    rw [e]
    exact ⟨rfl, HD.out.setBox 6 _ rfl ⟨rfl, rfl, rfl, rfl⟩, Upto.one _ _ _ _⟩
  · have e : failS S n = { S with fail := n } := by unfold failS; rw [Int.max_eq_left hn]
    rw [e]
    exact ⟨rfl, HD.out.setBox 6 _ rfl ⟨rfl, rfl, rfl, rfl⟩, Upto.one _ _ _ _⟩
set_option maxHeartbeats 1000000 in
theorem stop_calls (h : DskL B w L b S) (n : Int) :
    Calls Try.prog 32 #[.pointer (some ⟨b, 0, none⟩), .int .i64 n] w fun e w' => e = .returned (.tuple #[]) ∧ DskL B w' L b (stopS S n) ∧ Upto (fun k => k = b) w w' := by
  obtain ⟨c0, c1, c2, c3, c4, c5, c6, c7, f⟩ := h.cells
  have HD := Lib.hid h
  clear c0 c1 c2 c3 c4 c5 c6 h
  rcases Int.lt_or_le n (-1) with hn | hn
  all_goals
    go_enter Try.func32, Try.ntmps32
    go_wp2
    go_end0
  · have e : stopS S n = { S with left := -1 } := by unfold stopS; rw [Int.max_eq_right (by omega)]
    rw [e]
    exact ⟨rfl, HD.out.setBox 7 _ rfl ⟨rfl, rfl, rfl, rfl⟩, Upto.one _ _ _ _⟩
  · have e : stopS S n = { S with left := n } := by unfold stopS; rw [Int.max_eq_left hn]
    rw [e]
    exact ⟨rfl, HD.out.setBox 7 _ rfl ⟨rfl, rfl, rfl, rfl⟩, Upto.one _ _ _ _⟩
end Go.Proofs.Ytolbicncdookmaa.XDsk
