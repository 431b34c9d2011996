/- Chapter 7's example holds. Conditions: none. -/
import Derived.Test.YtolbicncdookmaaDskHas
import Derived.Test.YtolbicncdookmaaDskCr

namespace Go.Proofs.Ytolbicncdookmaa.XDsk
open Go Go.RowKit Go.Maps Go.Sort Go.Shelf Go.Proofs.YtolbicncdookmaaW.PrintWords Go.Proofs.YtolbicncdookmaaW.PrintLast Go.Proofs.YtolbicncdookmaaW.PrintMore Go.Proofs.Ytolbicncdookmaa.Num
set_option linter.unusedVariables false
set_option linter.unusedSimpArgs false
variable {w0 W W' : World} {b c : Nat} {S S' : PD}
theorem one_int (W : World) (x : Int) (t : TypeId) : Kd.C (Kd.int .i64) (W.alloc (.cells #[.int .i64 x] t)) (some ⟨W.heap.size, 0, none⟩) [x].length [x] := by
  refine Kd.C_of_reads (d := (0 : Int)) ⟨rfl, by simp, fun _ => ⟨_, rfl, fun j hj => ?_⟩⟩
  have hj0 : j = 0 := by simp at hj; exact hj
  subst hj0
  rw [add_at]
  exact (blk_cell (blk_new W _) 0).trans rfl
theorem has_crash1 (h : Has w0 b S W) (g : Good c S) (hc : c ≤ 100000) {x : Int} (hx : (Lit.int .i64 x).wf = true) (dir : Int) (t : TypeId) :
    Calls Try.prog 16 #[.pointer (some ⟨b, 0, none⟩), .agg #[.int .i64 dir, .slice (some ⟨W.heap.size, 0, none⟩) 1 1]] (W.alloc (.cells #[.int .i64 x] t)) (NewHas w0 (W.alloc (.cells #[.int .i64 x] t)) (crashD S dir [x])) :=
  has_crash (h.alloc _) g hc (one_int W x t) (Nat.le_refl 1) (fun y hy => by rw [List.mem_singleton] at hy; rw [hy]; exact hx)
def nA : ByteArray := ⟨#[97]⟩
def s7a : PD := createS (newD 9) nA
def s7b : PD := syncDirS s7a
def s7c : PD := appendS s7b nA ⟨#[120, 121, 122]⟩
def s7d : PD := crashD s7c 0 [2]
theorem s7_1 : createE (newD 9) nA = 0 := by decide
theorem s7_2 : beginE s7a = 0 := by decide
theorem s7_3 : appendE s7b nA ⟨#[120, 121, 122]⟩ = 0 := by decide
theorem g7a : Good 3 s7a := (Good.new (by decide)).create nA (by decide)
theorem g7b : Good 6 s7b := g7a.syncDir
theorem g7c : Good 12 s7c := g7b.append nA ⟨#[120, 121, 122]⟩
theorem g7d : Good 12 s7d := g7c.crashD 0 [2]
theorem s7_4 : getN (keptN s7c 0) nA = some 0 := by decide
theorem s7_5 : findE s7d nA = 0 := by
  have := crash_find (ks := [2]) (g7c.snaps 0 (Nat.zero_le _)) nA (S := s7c) (dir := 0)
  rw [s7_4] at this
  exact this
theorem s7_6 : readV s7d nA = ⟨#[120, 121]⟩ := by
  have := crash_read (ks := [2]) (g7c.snaps 0 (Nat.zero_le _)) nA (S := s7c) (dir := 0)
  rw [s7_4] at this
  have e : atF (fileOf s7c 0) (momentsOf [2] 0) = ⟨#[120, 121]⟩ := by decide
  exact this.trans e
set_option maxHeartbeats 4000000 in
set_option maxRecDepth 100000 in
theorem shown7_calls (w : World) : Calls Try.prog 10 #[] w fun e w' => e = .returned (.bool true) ∧ Below w.heap.size w w' := by
  have k1 := s7_1
  have k2 := s7_2
  have k3 := s7_3
  have k5 := s7_5
  have k6 := s7_6
  go_enter Try.func10, Try.ntmps10
  go_wp2_with (first
    | (go_at_call 11; refine (has_new (Below.refl _ _) _).mono ?_; rintro e w1 ⟨b, rfl, h1, hx1⟩; clear hx1)
    | (go_at_call 12; refine (has_create (name := nA) h1 (Good.new (by decide)) (by decide) (by decide)).mono ?_; rintro e w2 ⟨rfl, h2'⟩; have h2 : Has w b s7a w2 := h2'; clear h2' h1)
    | (go_at_call 15; refine (has_syncDir h2 g7a (by decide)).mono ?_; rintro e w3 ⟨rfl, h3'⟩; have h3 : Has w b s7b w3 := h3'; clear h3' h2)
    | (go_at_call 13; refine (has_append (name := nA) (s := ⟨#[120, 121, 122]⟩) h3 g7b (by decide) (by decide) (by decide)).mono ?_; rintro e w4 ⟨rfl, h4'⟩; have h4 : Has w b s7c w4 := h4'; clear h4' h3)
    | (go_at_call 16; refine (has_crash1 h4 g7c (by decide) (by decide) 0 _).mono ?_; rintro e w5 ⟨b5, rfl, h5', hx5⟩; have h5 : Has w b5 s7d w5 := h5'; clear h5' hx5)
    | (go_at_call 17; refine (has_read (name := nA) h5 g7d (by decide) (by decide)).mono ?_; rintro e w6 ⟨rfl, rfl⟩))
  go_ret
  exact ⟨rfl, h5.below⟩
end Go.Proofs.Ytolbicncdookmaa.XDsk
