/- Acts, as calls; what DiskFails asks of the end. Conditions: each disk is right, and not too large. -/
import Derived.Test.YtolbicncdookmaaDskTwin
import Derived.Test.YtolbicncdookmaaDskActs

namespace Go.Proofs.Ytolbicncdookmaa.XDsk
open Go Go.RowKit Go.Maps Go.Sort Go.Shelf Go.Proofs.YtolbicncdookmaaW.PrintWords Go.Proofs.YtolbicncdookmaaW.PrintLast Go.Proofs.YtolbicncdookmaaW.PrintMore Go.Proofs.Ytolbicncdookmaa.Num
set_option linter.unusedVariables false
set_option linter.unusedSimpArgs false
variable {w0 W W' : World} {b c i : Nat} {S S' : PD} {nm tx : ByteArray} {n kd ea : Int} {Ts : List Thing}
theorem act_create (h : Lot w0 Ts W) (hi : Ts[i]? = some (dsk w0.heap.size b S)) (g : Good c S) (hc : c ≤ 100000) (hn : nm.size ≤ 1000000) (h2 : kd < 2) (he : actE kd S nm tx n = ea) (hs : actS kd S nm tx n = S') :
    Calls Try.prog 12 #[.pointer (some ⟨b, 0, none⟩), .string nm] W fun e w' => e = .returned (.int .i64 ea) ∧ Lot w0 (Ts.set i (dsk w0.heap.size b S')) w' := by
  unfold actE at he
  unfold actS at hs
  rw [if_pos h2] at he hs
  subst he hs
  exact lot_create (name := nm) h hi g hc hn
theorem act_append (h : Lot w0 Ts W) (hi : Ts[i]? = some (dsk w0.heap.size b S)) (g : Good c S) (hc : c ≤ 100000) (hn : nm.size ≤ 1000000) (ht : tx.size ≤ 1000000) (h1 : 2 ≤ kd) (h2 : kd < 6) (he : actE kd S nm tx n = ea) (hs : actS kd S nm tx n = S') :
    Calls Try.prog 13 #[.pointer (some ⟨b, 0, none⟩), .string nm, .string tx] W fun e w' => e = .returned (.int .i64 ea) ∧ Lot w0 (Ts.set i (dsk w0.heap.size b S')) w' := by
  unfold actE at he
  unfold actS at hs
  rw [if_neg (show ¬ kd < 2 by omega), if_pos h2] at he hs
  subst he hs
  exact lot_append (name := nm) (s := tx) h hi g hc hn ht
theorem act_cut (h : Lot w0 Ts W) (hi : Ts[i]? = some (dsk w0.heap.size b S)) (g : Good c S) (hc : c ≤ 100000) (hn : nm.size ≤ 1000000) (h2 : kd = 6) (he : actE kd S nm tx n = ea) (hs : actS kd S nm tx n = S') :
    Calls Try.prog 24 #[.pointer (some ⟨b, 0, none⟩), .string nm, .int .i64 n] W fun e w' => e = .returned (.int .i64 ea) ∧ Lot w0 (Ts.set i (dsk w0.heap.size b S')) w' := by
  unfold actE at he
  unfold actS at hs
  rw [if_neg (show ¬ kd < 2 by omega), if_neg (show ¬ kd < 6 by omega), if_pos h2] at he hs
  subst he hs
  exact lot_cut (name := nm) (n := n) h hi g hc hn
theorem act_sync (h : Lot w0 Ts W) (hi : Ts[i]? = some (dsk w0.heap.size b S)) (g : Good c S) (hc : c ≤ 100000) (hn : nm.size ≤ 1000000) (h1 : 7 ≤ kd) (h2 : kd < 9) (he : actE kd S nm tx n = ea) (hs : actS kd S nm tx n = S') :
    Calls Try.prog 14 #[.pointer (some ⟨b, 0, none⟩), .string nm] W fun e w' => e = .returned (.int .i64 ea) ∧ Lot w0 (Ts.set i (dsk w0.heap.size b S')) w' := by
  unfold actE at he
  unfold actS at hs
  rw [if_neg (show ¬ kd < 2 by omega), if_neg (show ¬ kd < 6 by omega), if_neg (show ¬ kd = 6 by omega), if_pos h2] at he hs
  subst he hs
  exact lot_sync (name := nm) h hi g hc hn
theorem act_remove (h : Lot w0 Ts W) (hi : Ts[i]? = some (dsk w0.heap.size b S)) (g : Good c S) (hc : c ≤ 100000) (hn : nm.size ≤ 1000000) (h1 : 9 ≤ kd) (h2 : kd < 11) (he : actE kd S nm tx n = ea) (hs : actS kd S nm tx n = S') :
    Calls Try.prog 25 #[.pointer (some ⟨b, 0, none⟩), .string nm] W fun e w' => e = .returned (.int .i64 ea) ∧ Lot w0 (Ts.set i (dsk w0.heap.size b S')) w' := by
  unfold actE at he
  unfold actS at hs
  rw [if_neg (show ¬ kd < 2 by omega), if_neg (show ¬ kd < 6 by omega), if_neg (show ¬ kd = 6 by omega), if_neg (show ¬ kd < 9 by omega), if_pos h2] at he hs
  subst he hs
  exact lot_remove (name := nm) h hi g hc hn
theorem act_syncDir (h : Lot w0 Ts W) (hi : Ts[i]? = some (dsk w0.heap.size b S)) (g : Good c S) (hc : c ≤ 100000) (hn : nm.size ≤ 1000000) (h1 : 11 ≤ kd) (he : actE kd S nm tx n = ea) (hs : actS kd S nm tx n = S') :
    Calls Try.prog 15 #[.pointer (some ⟨b, 0, none⟩)] W fun e w' => e = .returned (.int .i64 ea) ∧ Lot w0 (Ts.set i (dsk w0.heap.size b S')) w' := by
  unfold actE at he
  unfold actS at hs
  rw [if_neg (show ¬ kd < 2 by omega), if_neg (show ¬ kd < 6 by omega), if_neg (show ¬ kd = 6 by omega), if_neg (show ¬ kd < 9 by omega), if_neg (show ¬ kd < 11 by omega)] at he hs
  subst he hs
  exact lot_syncDir  h hi g hc 
theorem three_int (W : World) (x y z : Int) (t : TypeId) : Kd.C (Kd.int .i64) (W.alloc (.cells #[.int .i64 x, .int .i64 y, .int .i64 z] t)) (some ⟨W.heap.size, 0, none⟩) [x, y, z].length [x, y, z] := by
  have hb := blk_new W (.cells #[.int .i64 x, .int .i64 y, .int .i64 z] t)
  refine Kd.C_of_reads (d := (0 : Int)) ⟨rfl, by simp, fun _ => ⟨_, rfl, fun j hj => ?_⟩⟩
  have hj3 : j = 0 ∨ j = 1 ∨ j = 2 := by simp at hj; omega
  rcases hj3 with rfl | rfl | rfl
  · rw [add_at]; exact (blk_cell hb 0).trans rfl
  · rw [add_at]; exact (blk_cell hb 1).trans rfl
  · rw [add_at]; exact (blk_cell hb 2).trans rfl
theorem lot_crash3 {SC : PD} (h : Lot w0 Ts W) (hi : Ts[i]? = some (dsk w0.heap.size b S)) (g : Good c S) (hc : c ≤ 100000) (t : TypeId) (hS : crashD S 3 [1, 2, 3] = SC) :
    Calls Try.prog 16 #[.pointer (some ⟨b, 0, none⟩), .agg #[.int .i64 3, .slice (some ⟨W.heap.size, 0, none⟩) 3 3]] (W.alloc (.cells #[.int .i64 1, .int .i64 2, .int .i64 3] t)) fun e w' => ∃ b2, e = .returned (.pointer (some ⟨b2, 0, none⟩)) ∧ Lot w0 (Ts ++ [dsk w0.heap.size b2 SC]) w' := by
  subst hS
  exact lot_crash (h.alloc0 _) hi g hc (three_int W 1 2 3 t) (Nat.le_refl 3) (fun x hx => by
    have : x = 1 ∨ x = 2 ∨ x = 3 := by simpa using hx
    rcases this with rfl | rfl | rfl <;> decide)
theorem lot_list {ks : List ByteArray} (h : Lot w0 Ts W) (hi : Ts[i]? = some (dsk w0.heap.size b S)) (g : Good c S) (hc : c ≤ 100000) (hk : keysN S.names = ks) :
    Calls Try.prog 27 #[.pointer (some ⟨b, 0, none⟩)] W fun e w' => ∃ A cap, e = .returned (.slice A ks.length cap) ∧ Kd.C Kd.string w' A ks.length ks ∧ ks.length ≤ cap ∧ Lot w0 Ts w' ∧ Below W.heap.size W w' := by
  subst hk
  refine (has_list (h.has hi) g hc).mono ?_
  rintro e w' ⟨v, rfl, ⟨A, cap, rfl, h1, h2⟩, hb⟩
  exact ⟨A, cap, rfl, h1, h2, h.below hb, hb⟩
end Go.Proofs.Ytolbicncdookmaa.XDsk
