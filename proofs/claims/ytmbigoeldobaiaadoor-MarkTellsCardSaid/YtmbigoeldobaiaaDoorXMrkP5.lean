/- Texts of this seat, in one. Conditions: those that each theorem names. -/
import Derived.Test.YtmbigoeldobaiaaDoorXMrkP1
import Derived.Test.YtmbigoeldobaiaaDoorXMrkP2
import Derived.Test.YtmbigoeldobaiaaDoorXMrkP3
import Derived.Test.YtmbigoeldobaiaaDoorXMrkP4
section
/- What the functions of the translation answer, each as a plain Lean function, and that the code comes to it; for a law: its row. Conditions: none but those that each theorem names. Written by a program of this session (wip/xp). -/
namespace Go.Proofs.YtmbigoeldobaiaaDoor.XMrk
open Go.RowKit Go.Proofs.YtmbigoeldobaiaaDoorW.PrintWords Go.Proofs.YtmbigoeldobaiaaDoorW.PrintLast Go.Proofs.YtmbigoeldobaiaaDoorW.PrintMore
attribute [local go_sem] max2_int min2_int max_two min_two max_three min_three max_four min_four   -- for this text's walks alone
theorem cx13_bc3 {w : World} {g : Nat} {t : TypeId} {x0 x1 x2 : Value} (h : w.heap[g]? = some (.cells #[x0, x1, x2] t (0, 0))) : w.cell? ⟨g, 0, none⟩ = some x0 ∧ w.cell? ⟨g, 1, none⟩ = some x1 ∧ w.cell? ⟨g, 2, none⟩ = some x2 ∧ w.frozen? ⟨g, 0, none⟩ = false ∧ w.frozen? ⟨g, 1, none⟩ = false ∧ w.frozen? ⟨g, 2, none⟩ = false :=
 ⟨(blk_cell h 0).trans rfl, (blk_cell h 1).trans rfl, (blk_cell h 2).trans rfl, blk_frozen h 0, blk_frozen h 1, blk_frozen h 2⟩
theorem zx13_0 {p : Prop} (h : p := by (with_reducible repeat (first | refine blk_drewN ?_ _ | refine blk_drew ?_ | refine blk_alloc ?_ _)); exact BK223.out) : p := h
theorem zx13_1 {p : Prop} (h : p := by (with_reducible repeat (first | refine blk_drewN ?_ _ | refine blk_drew ?_ | refine blk_alloc ?_ _)); exact BK224.out) : p := h
theorem zx13_3 {p : Prop} (h : p := by (with_reducible repeat (first | refine blk_drewN ?_ _ | refine blk_drew ?_ | refine blk_alloc ?_ _)); exact BK225.out) : p := h
theorem zx13_7 {p : Prop} (h : p := by repeat (first | (with_reducible first | exact HB.out | apply below_alloc | apply pw_below_drewN | apply below_drew1) | exact HB.out)) : p := h
theorem zx13_6 {p : Prop} (h : p := by repeat (first | (with_reducible first | exact HB.out | apply below_alloc | apply pw_below_drewN | apply below_drew1 | refine below_set ?_ GE223.out) | exact HB.out)) : p := h
theorem zx13_5 {p : Prop} (h : p := by repeat (first | (with_reducible first | exact HB.out | apply below_alloc | apply pw_below_drewN | apply below_drew1 | refine below_set ?_ GE223.out | refine below_set ?_ GE224.out) | exact HB.out)) : p := h
theorem zx13_4 {p : Prop} (h : p := by repeat (first | (with_reducible first | exact HB.out | apply below_alloc | apply pw_below_drewN | apply below_drew1 | refine below_set ?_ GE223.out | refine below_set ?_ GE224.out | refine below_set ?_ GE225.out) | exact HB.out)) : p := h
theorem zx13_2 {p : Prop} (h : p := by repeat (first | (with_reducible first | exact HB.out | apply below_alloc | apply pw_below_drewN | apply below_drew1 | refine below_set ?_ GE223.out | refine below_set ?_ GE224.out | refine below_set ?_ GE225.out | refine below_set ?_ GE227.out) | exact HB.out)) : p := h
set_option linter.unusedVariables false
set_option linter.unusedSimpArgs false

/-! ### postroomlaw11_asLedger: function 10 -/
def postroomlaw11_asLedger.l0 : Nat → Int → Int → Int → List (S55) → Int → Int → List (S57) → Option (Int × Int × (List (S57)))
 | 0, _, _, _, _, _, _, _ => none
 | k + 1, x4, x224000, x224001, x224002, x226000, x226001, x226002 => if x4 < (x224002.length : Int) then (if 0 ≤ x4 then (if x226002.length < 1759218604441 then (postroomlaw11_asLedger.l0 k (wrap64 (x4 + 1)) x224000 x224001 x224002 x226000 x226001 (x226002 ++ [(⟨(rd_T55 x224002 x4).f0, (rd_T55 x224002 x4).f1, (rd_T55 x224002 x4).f2, (rd_T55 x224002 x4).f3, (rd_T55 x224002 x4).f4, (rd_T55 x224002 x4).f5, (rd_T55 x224002 x4).f6⟩ : S57)])) else (none)) else (none)) else (some (x226000, x226001, x226002))
def postroomlaw11_asLedger.f (k : Nat) (a0_0 : Int) (a0_1 : Int) (l0_2 : List (S55)) : Option (Int × Int × (List (S57))) := postroomlaw11_asLedger.l0 k 0 a0_0 a0_1 l0_2 a0_0 a0_1 ([] : List (S57))
theorem postroomlaw11_asLedger.mono_l : ∀ k, (∀ y0 y1 y2 y3 y4 y5 y6, LeO (postroomlaw11_asLedger.l0 k y0 y1 y2 y3 y4 y5 y6) (postroomlaw11_asLedger.l0 (k + 1) y0 y1 y2 y3 y4 y5 y6))
 | 0 => fun _ _ _ _ _ _ _ r h => by simp [postroomlaw11_asLedger.l0] at h
 | k + 1 => by
  have ih0 := postroomlaw11_asLedger.mono_l k
  ·intro y0 y1 y2 y3 y4 y5 y6
   unfold postroomlaw11_asLedger.l0
   repeat' first
   | (with_reducible exact ih0 _ _ _ _ _ _ _)
   | (with_reducible exact LeO.refl _)
   | (with_reducible exact LeO.none _)
   | (with_reducible refine LeO.ite ?_ ?_)
   | (with_reducible refine LeO.bind ?_ (fun _ => ?_))
   | exact ih0 _ _ _ _ _ _ _
   | exact LeO.none _
   | refine LeO.ite ?_ ?_
   | refine LeO.bind ?_ (fun _ => ?_)
theorem postroomlaw11_asLedger.mono : ∀ a0 a1 a2 k, LeO (postroomlaw11_asLedger.f k a0 a1 a2) (postroomlaw11_asLedger.f (k + 1) a0 a1 a2) := by
 intro a0 a1 a2 k
 have ih0 := postroomlaw11_asLedger.mono_l k
 unfold postroomlaw11_asLedger.f
 repeat' first
   | (with_reducible exact ih0 _ _ _ _ _ _ _)
   | (with_reducible exact LeO.refl _)
   | (with_reducible exact LeO.none _)
   | (with_reducible refine LeO.ite ?_ ?_)
   | (with_reducible refine LeO.bind ?_ (fun _ => ?_))
   | exact ih0 _ _ _ _ _ _ _
   | exact LeO.none _
   | refine LeO.ite ?_ ?_
   | refine LeO.bind ?_ (fun _ => ?_)
set_option maxHeartbeats 8000000 in
set_option maxRecDepth 100000 in
theorem postroomlaw11_asLedger.calls (k : Nat) (a0_0 : Int) (a0_1 : Int) (P0_2_ : Nat → Prop) (A0_2 : Option Addr) (c0_2 : Nat) (l0_2 : List (S55)) (r1 : Int) (r2 : Int) (r3 : List (S57)) (w : World) (hs0_2 : Kd.V k55 55 w w.heap.size (fun k_ => P0_2_ k_) (.slice A0_2 l0_2.length c0_2) l0_2) (h : postroomlaw11_asLedger.f k a0_0 a0_1 l0_2 = some (r1, r2, r3)) :
  Calls Tryd.prog 10 #[.agg #[.int .u64 a0_0, .int .u64 a0_1, .slice A0_2 l0_2.length c0_2]] w fun e w' => ∃ v2_ : Value, e = .returned (.agg #[.int .u64 r1, .int .u64 r2, v2_]) ∧ Kd.N k57 57 w' w.heap.size (fun k_ => (P0_2_ k_ ∨ w.heap.size ≤ k_)) v2_ r3 ∧ Below w.heap.size w w' := by
 have hu25 := Tryd.underlying25
 have hu30 := Tryd.underlying30
 have hu55 := Tryd.underlying55
 have hu57 := Tryd.underlying57
 have HO0_2 := Aside0.mk (show Kd.V k55 55 w w.heap.size (fun k_ => (P0_2_ k_ ∨ w.heap.size ≤ k_)) (.slice A0_2 l0_2.length c0_2) l0_2 from Kd.V_mono hs0_2 (fun k_ hk => .inl hk))
 have HB := Aside0.mk (Below.refl w.heap.size w)
 have H : (postroomlaw11_asLedger.l0 k 0 a0_0 a0_1 l0_2 a0_0 a0_1 ([] : List (S57))) = some (r1, r2, r3) := h
 clear h
 have H' := Aside0.mk H
 clear H
 go_enter Tryd.func10, Tryd.ntmps10
 go_wp2_with (first | ((with_reducible refine gate_dst (N := 1) rfl ?_); refine box_event ?hg (N := 1) ?hd (cs := #[.int .u64 a0_0, .int .u64 a0_1, .slice A0_2 l0_2.length c0_2]) (t := 25) ?hr ?_; (case hd => rfl); (case hg => rfl); (case hr => first | (go_simp; done) | (go_simp; rfl)); intro gb223 hg w2 hbox hb; have n0_ := Aside0.mk (Kd.V_below (Kd.V_elderB (by (with_reducible repeat (first | apply Kd.V_alloc | apply Kd.V_drewN | apply Kd.V_drew)); exact HO0_2.out) gb223 (Nat.le_of_eq hg.symm)) hb); have n1_ := Aside0.mk (below_step zx13_7 hb); have n2_ := Aside0.mk (hbox); have n3_ := Aside0.mk ((by rw [hg]; exact (below_size zx13_7) : w.heap.size ≤ gb223)); have n4_ := Aside0.mk ((by rw [hg]; exact (below_size zx13_7) : w.heap.size ≤ gb223)); clear HO0_2; clear HB; have HO0_2 := n0_; have HB := n1_; have BK223 := n2_; have GW223 := n3_; have GE223 := n4_; clear n0_ n1_ n2_ n3_ n4_; clear hb hbox hg) | ((with_reducible refine gate_dst (N := 2) rfl ?_); refine box_event ?hg (N := 2) ?hd (cs := #[.int .u64 0, .int .u64 0, .slice none 0 0]) (t := 30) ?hr ?_; (case hd => rfl); (case hg => rfl); (case hr => first | (go_simp; done) | (go_simp; rfl)); intro gb224 hg w3 hbox hb; have n0_ := Aside0.mk (Kd.V_below (Kd.V_elderB (by (with_reducible repeat (first | apply Kd.V_alloc | apply Kd.V_drewN | apply Kd.V_drew)); exact HO0_2.out) gb224 (Nat.le_of_eq hg.symm)) hb); have n1_ := Aside0.mk (blk_below (g := gb223) (o := .cells #[.int .u64 a0_0, .int .u64 a0_1, .slice A0_2 l0_2.length c0_2] 25 (0, 0)) zx13_0 hb); have n2_ := Aside0.mk (below_step zx13_6 hb); have n3_ := Aside0.mk (hbox); have n4_ := Aside0.mk ((by rw [hg]; exact (below_size zx13_6) : w.heap.size ≤ gb224)); have n5_ := Aside0.mk ((by rw [hg]; exact (below_size zx13_6) : w.heap.size ≤ gb224)); have n6_ := Aside0.mk ((by rw [hg]; exact Nat.ne_of_lt (blk_lt (g := gb223) (o := .cells #[.int .u64 a0_0, .int .u64 a0_1, .slice A0_2 l0_2.length c0_2] 25 (0, 0)) zx13_0) : gb223 ≠ gb224)); have n7_ := Aside0.mk ((by rw [hg]; exact Nat.ne_of_gt (blk_lt (g := gb223) (o := .cells #[.int .u64 a0_0, .int .u64 a0_1, .slice A0_2 l0_2.length c0_2] 25 (0, 0)) zx13_0) : gb224 ≠ gb223)); clear HO0_2; clear BK223; clear HB; have HO0_2 := n0_; have BK223 := n1_; have HB := n2_; have BK224 := n3_; have GW224 := n4_; have GE224 := n5_; have NB223_224 := n6_; have NB224_223 := n7_; clear n0_ n1_ n2_ n3_ n4_ n5_ n6_ n7_; clear hb hbox hg; have hnb4 := NB223_224.out; have hnc4 := NB224_223.out; have hcz5_0 : w3.cell? ⟨gb223, 0, none⟩ = some (.int .u64 a0_0) := (blk_cell BK223.out 0).trans rfl; have hcz5_1 : w3.cell? ⟨gb223, 1, none⟩ = some (.int .u64 a0_1) := (blk_cell BK223.out 1).trans rfl; have hcz5_2 : w3.cell? ⟨gb223, 2, none⟩ = some (.slice A0_2 l0_2.length c0_2) := (blk_cell BK223.out 2).trans rfl; have hfz5_0 := blk_frozen BK223.out 0; have hfz5_1 := blk_frozen BK223.out 1; have hfz5_2 := blk_frozen BK223.out 2) | ((with_reducible refine gate_dst (N := 3) rfl ?_); refine box_event ?hg (N := 3) ?hd (cs := #[.int .u64 0, .int .u64 0, .slice none 0 0]) (t := 30) ?hr ?_; (case hd => rfl); (case hg => rfl); (case hr => first | (go_simp; done) | (go_simp; rfl)); intro gb225 hg w6 hbox hb; have n0_ := Aside0.mk (Kd.V_below (Kd.V_elderB (by (with_reducible repeat (first | apply Kd.V_alloc | apply Kd.V_drewN | apply Kd.V_drew)); exact HO0_2.out) gb225 (Nat.le_of_eq hg.symm)) hb); have n1_ := Aside0.mk (blk_below (g := gb223) (o := .cells #[.int .u64 a0_0, .int .u64 a0_1, .slice A0_2 l0_2.length c0_2] 25 (0, 0)) zx13_0 hb); have n2_ := Aside0.mk (blk_below (g := gb224) (o := .cells #[.int .u64 0, .int .u64 0, .slice none 0 0] 30 (0, 0)) zx13_1 hb); have n3_ := Aside0.mk (below_step zx13_5 hb); have n4_ := Aside0.mk (hbox); have n5_ := Aside0.mk ((by rw [hg]; exact (below_size zx13_5) : w.heap.size ≤ gb225)); have n6_ := Aside0.mk ((by rw [hg]; exact (below_size zx13_5) : w.heap.size ≤ gb225)); have n7_ := Aside0.mk ((by rw [hg]; exact Nat.ne_of_lt (blk_lt (g := gb223) (o := .cells #[.int .u64 a0_0, .int .u64 a0_1, .slice A0_2 l0_2.length c0_2] 25 (0, 0)) zx13_0) : gb223 ≠ gb225)); have n8_ := Aside0.mk ((by rw [hg]; exact Nat.ne_of_gt (blk_lt (g := gb223) (o := .cells #[.int .u64 a0_0, .int .u64 a0_1, .slice A0_2 l0_2.length c0_2] 25 (0, 0)) zx13_0) : gb225 ≠ gb223)); have n9_ := Aside0.mk ((by rw [hg]; exact Nat.ne_of_lt (blk_lt (g := gb224) (o := .cells #[.int .u64 0, .int .u64 0, .slice none 0 0] 30 (0, 0)) zx13_1) : gb224 ≠ gb225)); have n10_ := Aside0.mk ((by rw [hg]; exact Nat.ne_of_gt (blk_lt (g := gb224) (o := .cells #[.int .u64 0, .int .u64 0, .slice none 0 0] 30 (0, 0)) zx13_1) : gb225 ≠ gb224)); clear HO0_2; clear BK223; clear BK224; clear HB; have HO0_2 := n0_; have BK223 := n1_; have BK224 := n2_; have HB := n3_; have BK225 := n4_; have GW225 := n5_; have GE225 := n6_; have NB223_225 := n7_; have NB225_223 := n8_; have NB224_225 := n9_; have NB225_224 := n10_; clear n0_ n1_ n2_ n3_ n4_ n5_ n6_ n7_ n8_ n9_ n10_; clear hb hbox hg; have hnb7 := NB225_223.out; have hnc7 := NB223_225.out; have hnb8 := NB225_224.out; have hnc8 := NB224_225.out; have hcz9_0 : w6.cell? ⟨gb225, 0, none⟩ = some (.int .u64 0) := (blk_cell BK225.out 0).trans rfl; have hcz9_1 : w6.cell? ⟨gb225, 1, none⟩ = some (.int .u64 0) := (blk_cell BK225.out 1).trans rfl; have hcz9_2 : w6.cell? ⟨gb225, 2, none⟩ = some (.slice none 0 0) := (blk_cell BK225.out 2).trans rfl; have hfz9_0 := blk_frozen BK225.out 0; have hfz9_1 := blk_frozen BK225.out 1; have hfz9_2 := blk_frozen BK225.out 2))
 go_loopg [4] k (fun kq v4 w' => ∃ (x4_1 : Int) (x226002_1 : List (S57)) (u226002 : Value), v4 = .int .i64 x4_1 ∧ Aside0 (postroomlaw11_asLedger.l0 kq x4_1 a0_0 a0_1 l0_2 a0_0 a0_1 x226002_1 = some (r1, r2, r3)) ∧ Aside0 (kq ≤ k) ∧ Aside0 (Kd.V k55 55 w' w.heap.size (fun k_ => (P0_2_ k_ ∨ w.heap.size ≤ k_) ∧ some k_ ≠ (u226002 : Value).ownBlock ∧ k_ ≠ gb223 ∧ k_ ≠ gb224 ∧ k_ ≠ gb225) (.slice A0_2 l0_2.length c0_2) l0_2) ∧ Aside0 (Kd.N k57 57 w' w.heap.size (fun k_ => (P0_2_ k_ ∨ w.heap.size ≤ k_) ∧ k_ ≠ gb223 ∧ k_ ≠ gb224 ∧ k_ ≠ gb225) u226002 x226002_1) ∧ Aside0 (w'.heap[gb223]? = some (.cells #[.int .u64 a0_0, .int .u64 a0_1, (.slice A0_2 l0_2.length c0_2)] 25 (0, 0))) ∧ Aside0 (w'.heap[gb224]? = some (.cells #[.int .u64 0, .int .u64 0, (.slice none 0 0)] 30 (0, 0))) ∧ Aside0 (w'.heap[gb225]? = some (.cells #[.int .u64 a0_0, .int .u64 a0_1, u226002] 30 (0, 0))) ∧ Aside0 (Below w.heap.size w w'))
 case atStart => exact ⟨(0), (([] : List (S57))), (.slice none 0 0), (by first | rfl | (simp; done) | (simp [*]; done)), H', ⟨Nat.le_refl _⟩, ⟨by (with_reducible repeat (first | apply Kd.V_alloc | apply Kd.V_drewN | apply Kd.V_drew)); exact Kd.V_mono (Kd.V_far (p := ⟨gb225, 2, none⟩) (Kd.V_far (p := ⟨gb225, 1, none⟩) (Kd.V_far (p := ⟨gb225, 0, none⟩) (Kd.V_mono HO0_2.out (fun k_ hk => (⟨hk, hk.2⟩ : _ ∧ k_ ≠ gb225))) (fun _ hk => hk.2) (.int .u64 a0_0)) (fun _ hk => hk.2) (.int .u64 a0_1)) (fun _ hk => hk.2) (.slice none 0 0)) (fun _ hk => ⟨hk.1.1.1.1, ⟨(by simp [Value.ownBlock]), ⟨hk.1.1.1.2, ⟨hk.1.1.2, hk.1.2⟩⟩⟩⟩)⟩, ⟨by first | exact Kd.S_nil _ _ _ _ _ | exact Kd.N_nil _ _ _ _ _ | exact Kd.V_nil _ _ _ _ _ | exact Kd.Q_nil _ _ _ _ _ | exact Kd.R_nil _ _ _ _ _⟩, ⟨by (with_reducible repeat (first | refine blk_drewN ?_ _ | refine blk_drew ?_ | refine blk_alloc ?_ _)); refine blk_far ?_ NB223_225.out _; (with_reducible repeat (first | refine blk_drewN ?_ _ | refine blk_drew ?_ | refine blk_alloc ?_ _)); refine blk_far ?_ NB223_225.out _; (with_reducible repeat (first | refine blk_drewN ?_ _ | refine blk_drew ?_ | refine blk_alloc ?_ _)); refine blk_far ?_ NB223_225.out _; (with_reducible repeat (first | refine blk_drewN ?_ _ | refine blk_drew ?_ | refine blk_alloc ?_ _)); exact BK223.out⟩, ⟨by (with_reducible repeat (first | refine blk_drewN ?_ _ | refine blk_drew ?_ | refine blk_alloc ?_ _)); refine blk_far ?_ NB224_225.out _; (with_reducible repeat (first | refine blk_drewN ?_ _ | refine blk_drew ?_ | refine blk_alloc ?_ _)); refine blk_far ?_ NB224_225.out _; (with_reducible repeat (first | refine blk_drewN ?_ _ | refine blk_drew ?_ | refine blk_alloc ?_ _)); refine blk_far ?_ NB224_225.out _; (with_reducible repeat (first | refine blk_drewN ?_ _ | refine blk_drew ?_ | refine blk_alloc ?_ _)); exact BK224.out⟩, ⟨by (with_reducible repeat (first | refine blk_drewN ?_ _ | refine blk_drew ?_ | refine blk_alloc ?_ _)); refine blk_put (cs := #[.int .u64 a0_0, .int .u64 a0_1, .slice none 0 0]) ?_ 2 _ rfl; (with_reducible repeat (first | refine blk_drewN ?_ _ | refine blk_drew ?_ | refine blk_alloc ?_ _)); refine blk_put (cs := #[.int .u64 a0_0, .int .u64 0, .slice none 0 0]) ?_ 1 _ rfl; (with_reducible repeat (first | refine blk_drewN ?_ _ | refine blk_drew ?_ | refine blk_alloc ?_ _)); refine blk_put (cs := #[.int .u64 0, .int .u64 0, .slice none 0 0]) ?_ 0 _ rfl; (with_reducible repeat (first | refine blk_drewN ?_ _ | refine blk_drew ?_ | refine blk_alloc ?_ _)); exact BK225.out⟩, ⟨by repeat (first | (with_reducible first | exact HB.out | apply below_alloc | apply pw_below_drewN | apply below_drew1 | refine below_set ?_ GE223.out | refine below_set ?_ GE224.out | refine below_set ?_ GE225.out) | exact HB.out)⟩⟩
 case round =>
  clear H'
  (try clear c1); (try clear p2); (try clear c4); (try clear c7); (try clear c8); (try clear hcz5_0); (try clear hcz5_1); (try clear hcz5_2); (try clear hcz9_0); (try clear hcz9_1); (try clear hcz9_2); (try clear hfz5_0); (try clear hfz5_1); (try clear hfz5_2); (try clear hfz9_0); (try clear hfz9_1); (try clear hfz9_2)
  obtain ⟨x4_1, x226002_1, u226002, rfl, HA, HK1, HO_224002, HO_226002, BK223, BK224, BK225, HB⟩ := hrel
  cases gk with
  | zero => exact absurd HA.out (by simp [postroomlaw11_asLedger.l0])
  | succ k1 =>
   have H := HA.out
   clear HA
   simp only [postroomlaw11_asLedger.l0] at H
   by_cases c10 : x4_1 < (l0_2.length : Int)
   ·rw [if_pos c10] at H
    have c10b0 : decide (x4_1 < (l0_2.length : Int)) = true := decide_eq_true c10
    clear c10
    by_cases c11 : 0 ≤ x4_1
    ·rw [if_pos c11] at H
     have c11b0 : decide (0 ≤ x4_1) = true := decide_eq_true c11
     clear c11
     by_cases c12 : x226002_1.length < 1759218604441
     ·rw [if_pos c12] at H
      have LMc12 := Aside0.mk c12
      clear c12
      obtain ⟨y228, hy228⟩ : ∃ y_ : List (S57), y_ = (x226002_1 ++ [(⟨(rd_T55 l0_2 x4_1).f0, (rd_T55 l0_2 x4_1).f1, (rd_T55 l0_2 x4_1).f2, (rd_T55 l0_2 x4_1).f3, (rd_T55 l0_2 x4_1).f4, (rd_T55 l0_2 x4_1).f5, (rd_T55 l0_2 x4_1).f6⟩ : S57)]) := ⟨_, rfl⟩
      replace H : (postroomlaw11_asLedger.l0 k1 (wrap64 (x4_1 + 1)) a0_0 a0_1 l0_2 a0_0 a0_1 y228) = some (r1, r2, r3) := by first | (rw [hy228]; with_reducible exact H) | (have H2_ := (Option.bind_some _ _).symm.trans H; rw [hy228]; with_reducible exact H2_) | (have H2_ := (Option.bind_some _ _).symm.trans H; with_reducible exact H2_) | with_reducible exact H | (rw [hy228]; exact H) | exact H
      have Ny228 := Aside0.mk hy228
      clear hy228
      have H' := Aside0.mk H
      clear H
      have hnb13 := NB223_224.out
      have hnc13 := NB224_223.out
      have hnb14 := NB223_225.out
      have hnc14 := NB225_223.out
      obtain ⟨hcz15_0, hcz15_1, hcz15_2, hfz15_0, hfz15_1, hfz15_2⟩ := cx13_bc3 BK223.out
      have p226 : 0 ≤ (x4_1 : Int) := of_decide_eq_true (by first | (with_reducible assumption) | assumption)
      have q226 : x4_1 < (l0_2.length : Int) := of_decide_eq_true (by first | (with_reducible assumption) | assumption)
      obtain ⟨ad226, A226_3, c226_3, e226, hx226_0, hx226_1, hx226_2, hx226_3, hx226_4, hx226_5, hx226_6, hl226_3, hi226_3⟩ := at_T55 (Kd.V_reads' HO_224002.out).2.2 x4_1 p226 q226
      cases e226
      obtain ⟨ce226, hce226, hMe226, hcc226⟩ := Kd.V_get HO_224002.out z55 x4_1 p226 (by first | exact q226 | exact of_decide_eq_true (by first | (with_reducible assumption) | assumption) | (have e_ := (Kd.V_reads' HO_224002.out).1; omega))
      obtain ⟨ua226_3, uc226_3, rfl, ul226_3, ge226_3⟩ := k55_openF hMe226
      have hv226_3 := hcc226 3 _ rfl
      rw [add_field _ _ 3 (by omega)] at hv226_3
      replace hv226_3 := Option.some.inj (hv226_3.symm.trans hx226_3)
      injection hv226_3 with hva_ hvn_ hvc_
      rw [hva_] at ge226_3
      rw [hvc_] at ul226_3
      have HL226_3 := Aside0.mk (show Kd.V (Kd.int .u64) 22 _ w.heap.size _ _ ((rd_T55 l0_2 x4_1).f3) from Kd.V_mk ul226_3 ge226_3)
      clear hva_ hvn_ hvc_ ge226_3 ul226_3
      clear hcc226 hce226
      have HR226_3 := Aside0.mk hi226_3
      have HC226_3 := Aside0.mk hl226_3
      clear hi226_3 hl226_3
      replace p226 := eq_true p226
      replace q226 := eq_true q226
      go_wp2_with (first | ((with_reducible refine gate_dst (N := 5) rfl ?_); refine box_event ?hg (N := 5) ?hd (cs := #[.string (⟨#[]⟩ : ByteArray), .int .u64 0, .int .u64 0, .slice none 0 0, .int .u64 0, .int .u64 0, .int .u64 0]) (t := 55) ?hr ?_; (case hd => rfl); (case hg => rfl); (case hr => first | (go_simp; done) | (go_simp; rfl)); intro gb227 hg w16 hbox hb; have n0_ := Aside0.mk (Kd.V_below (Kd.V_elderB (by (with_reducible repeat (first | apply Kd.V_alloc | apply Kd.V_drewN | apply Kd.V_drew)); exact HO_224002.out) gb227 (Nat.le_of_eq hg.symm)) hb); have n1_ := Aside0.mk (Kd.N_below (Kd.N_elderB (by (with_reducible repeat (first | apply Kd.N_alloc | apply Kd.N_drewN | apply Kd.N_drew)); exact HO_226002.out) gb227 (Nat.le_of_eq hg.symm)) hb); have n2_ := Aside0.mk (Kd.V_below (Kd.V_elderB (by (with_reducible repeat (first | apply Kd.V_alloc | apply Kd.V_drewN | apply Kd.V_drew)); exact HL226_3.out) gb227 (Nat.le_of_eq hg.symm)) hb); have n3_ := Aside0.mk (blk_below (g := gb223) (o := .cells #[.int .u64 a0_0, .int .u64 a0_1, .slice (some ad226) l0_2.length c0_2] 25 (0, 0)) zx13_0 hb); have n4_ := Aside0.mk (blk_below (g := gb224) (o := .cells #[.int .u64 0, .int .u64 0, .slice none 0 0] 30 (0, 0)) zx13_1 hb); have n5_ := Aside0.mk (blk_below (g := gb225) (o := .cells #[.int .u64 a0_0, .int .u64 a0_1, u226002] 30 (0, 0)) zx13_3 hb); have n6_ := Aside0.mk (Kd.C_below (by repeat (first | (with_reducible exact HR226_3.out) | (with_reducible refine Kd.C_alloc ?_ _) | (with_reducible refine Kd.C_drewN ?_ _) | (with_reducible refine Kd.C_drew ?_) | exact HR226_3.out)) hb); have n7_ := Aside0.mk (below_step zx13_4 hb); have n8_ := Aside0.mk (hbox); have n9_ := Aside0.mk ((by rw [hg]; exact (below_size zx13_4) : w.heap.size ≤ gb227)); have n10_ := Aside0.mk ((by rw [hg]; exact (below_size zx13_4) : w.heap.size ≤ gb227)); have n11_ := Aside0.mk ((by rw [hg]; exact Nat.ne_of_lt (blk_lt (g := gb223) (o := .cells #[.int .u64 a0_0, .int .u64 a0_1, .slice (some ad226) l0_2.length c0_2] 25 (0, 0)) zx13_0) : gb223 ≠ gb227)); have n12_ := Aside0.mk ((by rw [hg]; exact Nat.ne_of_gt (blk_lt (g := gb223) (o := .cells #[.int .u64 a0_0, .int .u64 a0_1, .slice (some ad226) l0_2.length c0_2] 25 (0, 0)) zx13_0) : gb227 ≠ gb223)); have n13_ := Aside0.mk ((by rw [hg]; exact Nat.ne_of_lt (blk_lt (g := gb224) (o := .cells #[.int .u64 0, .int .u64 0, .slice none 0 0] 30 (0, 0)) zx13_1) : gb224 ≠ gb227)); have n14_ := Aside0.mk ((by rw [hg]; exact Nat.ne_of_gt (blk_lt (g := gb224) (o := .cells #[.int .u64 0, .int .u64 0, .slice none 0 0] 30 (0, 0)) zx13_1) : gb227 ≠ gb224)); have n15_ := Aside0.mk ((by rw [hg]; exact Nat.ne_of_lt (blk_lt (g := gb225) (o := .cells #[.int .u64 a0_0, .int .u64 a0_1, u226002] 30 (0, 0)) zx13_3) : gb225 ≠ gb227)); have n16_ := Aside0.mk ((by rw [hg]; exact Nat.ne_of_gt (blk_lt (g := gb225) (o := .cells #[.int .u64 a0_0, .int .u64 a0_1, u226002] 30 (0, 0)) zx13_3) : gb227 ≠ gb225)); clear HO_224002; clear HO_226002; clear HL226_3; clear BK223; clear BK224; clear BK225; clear HR226_3; clear HB; have HO_224002 := n0_; have HO_226002 := n1_; have HL226_3 := n2_; have BK223 := n3_; have BK224 := n4_; have BK225 := n5_; have HR226_3 := n6_; have HB := n7_; have BK227 := n8_; have GW227 := n9_; have GE227 := n10_; have NB223_227 := n11_; have NB227_223 := n12_; have NB224_227 := n13_; have NB227_224 := n14_; have NB225_227 := n15_; have NB227_225 := n16_; clear n0_ n1_ n2_ n3_ n4_ n5_ n6_ n7_ n8_ n9_ n10_ n11_ n12_ n13_ n14_ n15_ n16_; clear hb hbox hg; have hnb17 := NB227_223.out; have hnc17 := NB223_227.out; have hnb18 := NB227_224.out; have hnc18 := NB224_227.out; have hnb19 := NB227_225.out; have hnc19 := NB225_227.out; have hcz20_0 : w16.cell? ⟨gb227, 0, none⟩ = some (.string (⟨#[]⟩ : ByteArray)) := (blk_cell BK227.out 0).trans rfl; have hcz20_1 : w16.cell? ⟨gb227, 1, none⟩ = some (.int .u64 0) := (blk_cell BK227.out 1).trans rfl; have hcz20_2 : w16.cell? ⟨gb227, 2, none⟩ = some (.int .u64 0) := (blk_cell BK227.out 2).trans rfl; have hcz20_3 : w16.cell? ⟨gb227, 3, none⟩ = some (.slice none 0 0) := (blk_cell BK227.out 3).trans rfl; have hcz20_4 : w16.cell? ⟨gb227, 4, none⟩ = some (.int .u64 0) := (blk_cell BK227.out 4).trans rfl; have hcz20_5 : w16.cell? ⟨gb227, 5, none⟩ = some (.int .u64 0) := (blk_cell BK227.out 5).trans rfl; have hcz20_6 : w16.cell? ⟨gb227, 6, none⟩ = some (.int .u64 0) := (blk_cell BK227.out 6).trans rfl; have hfz20_0 := blk_frozen BK227.out 0; have hfz20_1 := blk_frozen BK227.out 1; have hfz20_2 := blk_frozen BK227.out 2; have hfz20_3 := blk_frozen BK227.out 3; have hfz20_4 := blk_frozen BK227.out 4; have hfz20_5 := blk_frozen BK227.out 5; have hfz20_6 := blk_frozen BK227.out 6) | ((with_reducible refine gate_store (t := 55) (p := 5) rfl ?_); refine store_event (t := 55) (p := 5) (v := ?vo_w21) (w1 := (((((((w16.setCell ⟨gb227, 0, none⟩ (.string ((rd_T55 l0_2 x4_1).f0))).setCell ⟨gb227, 1, none⟩ (.int .u64 ((rd_T55 l0_2 x4_1).f1))).setCell ⟨gb227, 2, none⟩ (.int .u64 ((rd_T55 l0_2 x4_1).f2))).setCell ⟨gb227, 3, none⟩ (.slice A226_3 ((rd_T55 l0_2 x4_1).f3).length c226_3)).setCell ⟨gb227, 4, none⟩ (.int .u64 ((rd_T55 l0_2 x4_1).f4))).setCell ⟨gb227, 5, none⟩ (.int .u64 ((rd_T55 l0_2 x4_1).f5))).setCell ⟨gb227, 6, none⟩ (.int .u64 ((rd_T55 l0_2 x4_1).f6)))) ?hg ?ho ?hn ?hr ?_; (case ho => rfl); (case hg => rfl); (case hn => rfl); (case hr => first | (go_simp; done) | (go_simp; rfl)); intro w21 hw; have n0_ : Aside0 (Kd.V k55 55 w21 w.heap.size (fun k_ => (P0_2_ k_ ∨ w.heap.size ≤ k_) ∧ some k_ ≠ (u226002 : Value).ownBlock ∧ k_ ≠ gb223 ∧ k_ ≠ gb224 ∧ k_ ≠ gb225 ∧ k_ ≠ gb227) (.slice (some ad226) l0_2.length c0_2) l0_2) := ⟨(by rw [hw]; exact (by (with_reducible repeat (first | apply Kd.V_alloc | apply Kd.V_drewN | apply Kd.V_drew)); exact Kd.V_mono (Kd.V_far (p := ⟨gb227, 6, none⟩) (Kd.V_far (p := ⟨gb227, 5, none⟩) (Kd.V_far (p := ⟨gb227, 4, none⟩) (Kd.V_far (p := ⟨gb227, 3, none⟩) (Kd.V_far (p := ⟨gb227, 2, none⟩) (Kd.V_far (p := ⟨gb227, 1, none⟩) (Kd.V_far (p := ⟨gb227, 0, none⟩) (Kd.V_mono HO_224002.out (fun k_ hk => (⟨hk, hk.2⟩ : _ ∧ k_ ≠ gb227))) (fun _ hk => hk.2) (.string ((rd_T55 l0_2 x4_1).f0))) (fun _ hk => hk.2) (.int .u64 ((rd_T55 l0_2 x4_1).f1))) (fun _ hk => hk.2) (.int .u64 ((rd_T55 l0_2 x4_1).f2))) (fun _ hk => hk.2) (.slice A226_3 ((rd_T55 l0_2 x4_1).f3).length c226_3)) (fun _ hk => hk.2) (.int .u64 ((rd_T55 l0_2 x4_1).f4))) (fun _ hk => hk.2) (.int .u64 ((rd_T55 l0_2 x4_1).f5))) (fun _ hk => hk.2) (.int .u64 ((rd_T55 l0_2 x4_1).f6))) (fun _ hk => ⟨hk.1.1.1, ⟨hk.1.1.2.1, ⟨hk.1.1.2.2.1, ⟨hk.1.1.2.2.2.1, ⟨hk.1.1.2.2.2.2, hk.1.2⟩⟩⟩⟩⟩)))⟩; have n1_ : Aside0 (Kd.N k57 57 w21 w.heap.size (fun k_ => (P0_2_ k_ ∨ w.heap.size ≤ k_) ∧ k_ ≠ gb223 ∧ k_ ≠ gb224 ∧ k_ ≠ gb225 ∧ k_ ≠ gb227) u226002 x226002_1) := ⟨(by rw [hw]; exact (by (with_reducible repeat (first | apply Kd.N_alloc | apply Kd.N_drewN | apply Kd.N_drew)); exact Kd.N_mono (Kd.N_far (p := ⟨gb227, 6, none⟩) (Kd.N_far (p := ⟨gb227, 5, none⟩) (Kd.N_far (p := ⟨gb227, 4, none⟩) (Kd.N_far (p := ⟨gb227, 3, none⟩) (Kd.N_far (p := ⟨gb227, 2, none⟩) (Kd.N_far (p := ⟨gb227, 1, none⟩) (Kd.N_far (p := ⟨gb227, 0, none⟩) (Kd.N_mono HO_226002.out (fun k_ hk => (⟨hk, hk.2⟩ : _ ∧ k_ ≠ gb227))) (fun _ hk => hk.2) (.string ((rd_T55 l0_2 x4_1).f0))) (fun _ hk => hk.2) (.int .u64 ((rd_T55 l0_2 x4_1).f1))) (fun _ hk => hk.2) (.int .u64 ((rd_T55 l0_2 x4_1).f2))) (fun _ hk => hk.2) (.slice A226_3 ((rd_T55 l0_2 x4_1).f3).length c226_3)) (fun _ hk => hk.2) (.int .u64 ((rd_T55 l0_2 x4_1).f4))) (fun _ hk => hk.2) (.int .u64 ((rd_T55 l0_2 x4_1).f5))) (fun _ hk => hk.2) (.int .u64 ((rd_T55 l0_2 x4_1).f6))) (fun _ hk => ⟨hk.1.1.1, ⟨hk.1.1.2.1, ⟨hk.1.1.2.2.1, ⟨hk.1.1.2.2.2, hk.1.2⟩⟩⟩⟩)))⟩; have n2_ : Aside0 (Kd.V (Kd.int .u64) 22 w21 w.heap.size (fun k_ => (P0_2_ k_ ∨ w.heap.size ≤ k_) ∧ some k_ ≠ (u226002 : Value).ownBlock ∧ k_ ≠ gb223 ∧ k_ ≠ gb224 ∧ k_ ≠ gb225 ∧ k_ ≠ gb227) (.slice A226_3 ((rd_T55 l0_2 x4_1).f3).length c226_3) ((rd_T55 l0_2 x4_1).f3)) := ⟨(by rw [hw]; exact (by (with_reducible repeat (first | apply Kd.V_alloc | apply Kd.V_drewN | apply Kd.V_drew)); exact Kd.V_mono (Kd.V_far (p := ⟨gb227, 6, none⟩) (Kd.V_far (p := ⟨gb227, 5, none⟩) (Kd.V_far (p := ⟨gb227, 4, none⟩) (Kd.V_far (p := ⟨gb227, 3, none⟩) (Kd.V_far (p := ⟨gb227, 2, none⟩) (Kd.V_far (p := ⟨gb227, 1, none⟩) (Kd.V_far (p := ⟨gb227, 0, none⟩) (Kd.V_mono HL226_3.out (fun k_ hk => (⟨hk, hk.2⟩ : _ ∧ k_ ≠ gb227))) (fun _ hk => hk.2) (.string ((rd_T55 l0_2 x4_1).f0))) (fun _ hk => hk.2) (.int .u64 ((rd_T55 l0_2 x4_1).f1))) (fun _ hk => hk.2) (.int .u64 ((rd_T55 l0_2 x4_1).f2))) (fun _ hk => hk.2) (.slice A226_3 ((rd_T55 l0_2 x4_1).f3).length c226_3)) (fun _ hk => hk.2) (.int .u64 ((rd_T55 l0_2 x4_1).f4))) (fun _ hk => hk.2) (.int .u64 ((rd_T55 l0_2 x4_1).f5))) (fun _ hk => hk.2) (.int .u64 ((rd_T55 l0_2 x4_1).f6))) (fun _ hk => ⟨hk.1.1.1, ⟨hk.1.1.2.1, ⟨hk.1.1.2.2.1, ⟨hk.1.1.2.2.2.1, ⟨hk.1.1.2.2.2.2, hk.1.2⟩⟩⟩⟩⟩)))⟩; have n3_ : Aside0 (w21.heap[gb223]? = some (.cells #[.int .u64 a0_0, .int .u64 a0_1, .slice (some ad226) l0_2.length c0_2] 25 (0, 0))) := ⟨(by rw [hw]; exact (by (with_reducible repeat (first | refine blk_drewN ?_ _ | refine blk_drew ?_ | refine blk_alloc ?_ _)); refine blk_far ?_ NB223_227.out _; (with_reducible repeat (first | refine blk_drewN ?_ _ | refine blk_drew ?_ | refine blk_alloc ?_ _)); refine blk_far ?_ NB223_227.out _; (with_reducible repeat (first | refine blk_drewN ?_ _ | refine blk_drew ?_ | refine blk_alloc ?_ _)); refine blk_far ?_ NB223_227.out _; (with_reducible repeat (first | refine blk_drewN ?_ _ | refine blk_drew ?_ | refine blk_alloc ?_ _)); refine blk_far ?_ NB223_227.out _; (with_reducible repeat (first | refine blk_drewN ?_ _ | refine blk_drew ?_ | refine blk_alloc ?_ _)); refine blk_far ?_ NB223_227.out _; (with_reducible repeat (first | refine blk_drewN ?_ _ | refine blk_drew ?_ | refine blk_alloc ?_ _)); refine blk_far ?_ NB223_227.out _; (with_reducible repeat (first | refine blk_drewN ?_ _ | refine blk_drew ?_ | refine blk_alloc ?_ _)); refine blk_far ?_ NB223_227.out _; (with_reducible repeat (first | refine blk_drewN ?_ _ | refine blk_drew ?_ | refine blk_alloc ?_ _)); exact BK223.out))⟩; have n4_ : Aside0 (w21.heap[gb224]? = some (.cells #[.int .u64 0, .int .u64 0, .slice none 0 0] 30 (0, 0))) := ⟨(by rw [hw]; exact (by (with_reducible repeat (first | refine blk_drewN ?_ _ | refine blk_drew ?_ | refine blk_alloc ?_ _)); refine blk_far ?_ NB224_227.out _; (with_reducible repeat (first | refine blk_drewN ?_ _ | refine blk_drew ?_ | refine blk_alloc ?_ _)); refine blk_far ?_ NB224_227.out _; (with_reducible repeat (first | refine blk_drewN ?_ _ | refine blk_drew ?_ | refine blk_alloc ?_ _)); refine blk_far ?_ NB224_227.out _; (with_reducible repeat (first | refine blk_drewN ?_ _ | refine blk_drew ?_ | refine blk_alloc ?_ _)); refine blk_far ?_ NB224_227.out _; (with_reducible repeat (first | refine blk_drewN ?_ _ | refine blk_drew ?_ | refine blk_alloc ?_ _)); refine blk_far ?_ NB224_227.out _; (with_reducible repeat (first | refine blk_drewN ?_ _ | refine blk_drew ?_ | refine blk_alloc ?_ _)); refine blk_far ?_ NB224_227.out _; (with_reducible repeat (first | refine blk_drewN ?_ _ | refine blk_drew ?_ | refine blk_alloc ?_ _)); refine blk_far ?_ NB224_227.out _; (with_reducible repeat (first | refine blk_drewN ?_ _ | refine blk_drew ?_ | refine blk_alloc ?_ _)); exact BK224.out))⟩; have n5_ : Aside0 (w21.heap[gb225]? = some (.cells #[.int .u64 a0_0, .int .u64 a0_1, u226002] 30 (0, 0))) := ⟨(by rw [hw]; exact (by (with_reducible repeat (first | refine blk_drewN ?_ _ | refine blk_drew ?_ | refine blk_alloc ?_ _)); refine blk_far ?_ NB225_227.out _; (with_reducible repeat (first | refine blk_drewN ?_ _ | refine blk_drew ?_ | refine blk_alloc ?_ _)); refine blk_far ?_ NB225_227.out _; (with_reducible repeat (first | refine blk_drewN ?_ _ | refine blk_drew ?_ | refine blk_alloc ?_ _)); refine blk_far ?_ NB225_227.out _; (with_reducible repeat (first | refine blk_drewN ?_ _ | refine blk_drew ?_ | refine blk_alloc ?_ _)); refine blk_far ?_ NB225_227.out _; (with_reducible repeat (first | refine blk_drewN ?_ _ | refine blk_drew ?_ | refine blk_alloc ?_ _)); refine blk_far ?_ NB225_227.out _; (with_reducible repeat (first | refine blk_drewN ?_ _ | refine blk_drew ?_ | refine blk_alloc ?_ _)); refine blk_far ?_ NB225_227.out _; (with_reducible repeat (first | refine blk_drewN ?_ _ | refine blk_drew ?_ | refine blk_alloc ?_ _)); refine blk_far ?_ NB225_227.out _; (with_reducible repeat (first | refine blk_drewN ?_ _ | refine blk_drew ?_ | refine blk_alloc ?_ _)); exact BK225.out))⟩; have n6_ : Aside0 (w21.heap[gb227]? = some (.cells #[.string ((rd_T55 l0_2 x4_1).f0), .int .u64 ((rd_T55 l0_2 x4_1).f1), .int .u64 ((rd_T55 l0_2 x4_1).f2), .slice A226_3 ((rd_T55 l0_2 x4_1).f3).length c226_3, .int .u64 ((rd_T55 l0_2 x4_1).f4), .int .u64 ((rd_T55 l0_2 x4_1).f5), .int .u64 ((rd_T55 l0_2 x4_1).f6)] 55 (0, 0))) := ⟨(by rw [hw]; exact (by (with_reducible repeat (first | refine blk_drewN ?_ _ | refine blk_drew ?_ | refine blk_alloc ?_ _)); refine blk_put (cs := #[.string ((rd_T55 l0_2 x4_1).f0), .int .u64 ((rd_T55 l0_2 x4_1).f1), .int .u64 ((rd_T55 l0_2 x4_1).f2), .slice A226_3 ((rd_T55 l0_2 x4_1).f3).length c226_3, .int .u64 ((rd_T55 l0_2 x4_1).f4), .int .u64 ((rd_T55 l0_2 x4_1).f5), .int .u64 0]) ?_ 6 _ rfl; (with_reducible repeat (first | refine blk_drewN ?_ _ | refine blk_drew ?_ | refine blk_alloc ?_ _)); refine blk_put (cs := #[.string ((rd_T55 l0_2 x4_1).f0), .int .u64 ((rd_T55 l0_2 x4_1).f1), .int .u64 ((rd_T55 l0_2 x4_1).f2), .slice A226_3 ((rd_T55 l0_2 x4_1).f3).length c226_3, .int .u64 ((rd_T55 l0_2 x4_1).f4), .int .u64 0, .int .u64 0]) ?_ 5 _ rfl; (with_reducible repeat (first | refine blk_drewN ?_ _ | refine blk_drew ?_ | refine blk_alloc ?_ _)); refine blk_put (cs := #[.string ((rd_T55 l0_2 x4_1).f0), .int .u64 ((rd_T55 l0_2 x4_1).f1), .int .u64 ((rd_T55 l0_2 x4_1).f2), .slice A226_3 ((rd_T55 l0_2 x4_1).f3).length c226_3, .int .u64 0, .int .u64 0, .int .u64 0]) ?_ 4 _ rfl; (with_reducible repeat (first | refine blk_drewN ?_ _ | refine blk_drew ?_ | refine blk_alloc ?_ _)); refine blk_put (cs := #[.string ((rd_T55 l0_2 x4_1).f0), .int .u64 ((rd_T55 l0_2 x4_1).f1), .int .u64 ((rd_T55 l0_2 x4_1).f2), .slice none 0 0, .int .u64 0, .int .u64 0, .int .u64 0]) ?_ 3 _ rfl; (with_reducible repeat (first | refine blk_drewN ?_ _ | refine blk_drew ?_ | refine blk_alloc ?_ _)); refine blk_put (cs := #[.string ((rd_T55 l0_2 x4_1).f0), .int .u64 ((rd_T55 l0_2 x4_1).f1), .int .u64 0, .slice none 0 0, .int .u64 0, .int .u64 0, .int .u64 0]) ?_ 2 _ rfl; (with_reducible repeat (first | refine blk_drewN ?_ _ | refine blk_drew ?_ | refine blk_alloc ?_ _)); refine blk_put (cs := #[.string ((rd_T55 l0_2 x4_1).f0), .int .u64 0, .int .u64 0, .slice none 0 0, .int .u64 0, .int .u64 0, .int .u64 0]) ?_ 1 _ rfl; (with_reducible repeat (first | refine blk_drewN ?_ _ | refine blk_drew ?_ | refine blk_alloc ?_ _)); refine blk_put (cs := #[.string (⟨#[]⟩ : ByteArray), .int .u64 0, .int .u64 0, .slice none 0 0, .int .u64 0, .int .u64 0, .int .u64 0]) ?_ 0 _ rfl; (with_reducible repeat (first | refine blk_drewN ?_ _ | refine blk_drew ?_ | refine blk_alloc ?_ _)); exact BK227.out))⟩; have n7_ : Aside0 (Below w.heap.size w w21) := ⟨(by rw [hw]; exact zx13_2)⟩; clear hw; clear HO_224002; clear HO_226002; clear HL226_3; clear BK223; clear BK224; clear BK225; clear BK227; clear HB; have HO_224002 := n0_; have HO_226002 := n1_; have HL226_3 := n2_; have BK223 := n3_; have BK224 := n4_; have BK225 := n5_; have BK227 := n6_; have HB := n7_; clear n0_ n1_ n2_ n3_ n4_ n5_ n6_ n7_; have hnb22 := NB225_224.out; have hnc22 := NB224_225.out; have hcz23_0 : w21.cell? ⟨gb225, 0, none⟩ = some (.int .u64 a0_0) := (blk_cell BK225.out 0).trans rfl; have hcz23_1 : w21.cell? ⟨gb225, 1, none⟩ = some (.int .u64 a0_1) := (blk_cell BK225.out 1).trans rfl; have hcz23_2 : w21.cell? ⟨gb225, 2, none⟩ = some (u226002) := (blk_cell BK225.out 2).trans rfl; have hfz23_0 := blk_frozen BK225.out 0; have hfz23_1 := blk_frozen BK225.out 1; have hfz23_2 := blk_frozen BK225.out 2; have hcz24_0 : w21.cell? ⟨gb227, 0, none⟩ = some (.string ((rd_T55 l0_2 x4_1).f0)) := (blk_cell BK227.out 0).trans rfl; have hcz24_1 : w21.cell? ⟨gb227, 1, none⟩ = some (.int .u64 ((rd_T55 l0_2 x4_1).f1)) := (blk_cell BK227.out 1).trans rfl; have hcz24_2 : w21.cell? ⟨gb227, 2, none⟩ = some (.int .u64 ((rd_T55 l0_2 x4_1).f2)) := (blk_cell BK227.out 2).trans rfl; have hcz24_3 : w21.cell? ⟨gb227, 3, none⟩ = some (.slice A226_3 ((rd_T55 l0_2 x4_1).f3).length c226_3) := (blk_cell BK227.out 3).trans rfl; have hcz24_4 : w21.cell? ⟨gb227, 4, none⟩ = some (.int .u64 ((rd_T55 l0_2 x4_1).f4)) := (blk_cell BK227.out 4).trans rfl; have hcz24_5 : w21.cell? ⟨gb227, 5, none⟩ = some (.int .u64 ((rd_T55 l0_2 x4_1).f5)) := (blk_cell BK227.out 5).trans rfl; have hcz24_6 : w21.cell? ⟨gb227, 6, none⟩ = some (.int .u64 ((rd_T55 l0_2 x4_1).f6)) := (blk_cell BK227.out 6).trans rfl; have hfz24_0 := blk_frozen BK227.out 0; have hfz24_1 := blk_frozen BK227.out 1; have hfz24_2 := blk_frozen BK227.out 2; have hfz24_3 := blk_frozen BK227.out 3; have hfz24_4 := blk_frozen BK227.out 4; have hfz24_5 := blk_frozen BK227.out 5; have hfz24_6 := blk_frozen BK227.out 6) | ((with_reducible refine gate_builtin (b := .append) (xs := #[.tmp 24, .tmp 40]) rfl ?_); at_builtin; refine Kd.N_append k57 (w0 := w) w.heap.size rfl (.tmp 24) (.tmp 40) 28 57 (.agg #[(.string ⟨#[]⟩), (.int .u64 0), (.int .u64 0), (.slice none 0 0), (.int .u64 0), (.int .u64 0), (.int .u64 0)]) 80 rfl Tryd.underlying28 info57 rfl (by decide) (by omega) u226002 x226002_1 (⟨(rd_T55 l0_2 x4_1).f0, (rd_T55 l0_2 x4_1).f1, (rd_T55 l0_2 x4_1).f2, (rd_T55 l0_2 x4_1).f3, (rd_T55 l0_2 x4_1).f4, (rd_T55 l0_2 x4_1).f5, (rd_T55 l0_2 x4_1).f6⟩ : S57) [.string ((rd_T55 l0_2 x4_1).f0), .int .u64 ((rd_T55 l0_2 x4_1).f1), .int .u64 ((rd_T55 l0_2 x4_1).f2), .slice A226_3 ((rd_T55 l0_2 x4_1).f3).length c226_3, .int .u64 ((rd_T55 l0_2 x4_1).f4), .int .u64 ((rd_T55 l0_2 x4_1).f5), .int .u64 ((rd_T55 l0_2 x4_1).f6)] (fun k_ => (P0_2_ k_ ∨ w.heap.size ≤ k_) ∧ k_ ≠ gb223 ∧ k_ ≠ gb224 ∧ k_ ≠ gb225 ∧ k_ ≠ gb227) (fun k_ => ((fun k_ => (P0_2_ k_ ∨ w.heap.size ≤ k_) ∧ k_ ≠ gb223 ∧ k_ ≠ gb224 ∧ k_ ≠ gb225 ∧ k_ ≠ gb227)) k_ ∧ some k_ ≠ (u226002 : Value).ownBlock) rfl rfl ?aP (fun _ hk => hk) ?aF ?aO ?aB ?aS ?aL ?_; (case aP => exact (k57_mkF _ _ (⟨(rd_T55 l0_2 x4_1).f0, (rd_T55 l0_2 x4_1).f1, (rd_T55 l0_2 x4_1).f2, (rd_T55 l0_2 x4_1).f3, (rd_T55 l0_2 x4_1).f4, (rd_T55 l0_2 x4_1).f5, (rd_T55 l0_2 x4_1).f6⟩ : S57) (Kd.V_reads' (Kd.V_mono (ok' := (fun k_ => ((fun k_ => (P0_2_ k_ ∨ w.heap.size ≤ k_) ∧ k_ ≠ gb223 ∧ k_ ≠ gb224 ∧ k_ ≠ gb225 ∧ k_ ≠ gb227)) k_ ∧ some k_ ≠ (u226002 : Value).ownBlock)) (HL226_3.out) (fun k_ hk => ⟨⟨hk.1, ⟨hk.2.2.1, ⟨hk.2.2.2.1, ⟨hk.2.2.2.2.1, hk.2.2.2.2.2⟩⟩⟩⟩, hk.2.1⟩))).2.1 (Kd.V_F (Kd.V_mono (ok' := (fun k_ => ((fun k_ => (P0_2_ k_ ∨ w.heap.size ≤ k_) ∧ k_ ≠ gb223 ∧ k_ ≠ gb224 ∧ k_ ≠ gb225 ∧ k_ ≠ gb227)) k_ ∧ some k_ ≠ (u226002 : Value).ownBlock)) (HL226_3.out) (fun k_ hk => ⟨⟨hk.1, ⟨hk.2.2.1, ⟨hk.2.2.2.1, ⟨hk.2.2.2.2.1, hk.2.2.2.2.2⟩⟩⟩⟩, hk.2.1⟩))))); (case aB => exact zx13_2); (case aF => exact (fun k_ hk => ⟨(.inr (Nat.le_trans (below_size zx13_2) hk)), Kd.freshB (g := gb223) (o := .cells #[.int .u64 a0_0, .int .u64 a0_1, .slice (some ad226) l0_2.length c0_2] 25 (0, 0)) zx13_0 k_ hk, Kd.freshB (g := gb224) (o := .cells #[.int .u64 0, .int .u64 0, .slice none 0 0] 30 (0, 0)) zx13_1 k_ hk, Kd.freshB (g := gb225) (o := .cells #[.int .u64 a0_0, .int .u64 a0_1, u226002] 30 (0, 0)) zx13_3 k_ hk, Kd.freshB (g := gb227) (o := .cells #[.string ((rd_T55 l0_2 x4_1).f0), .int .u64 ((rd_T55 l0_2 x4_1).f1), .int .u64 ((rd_T55 l0_2 x4_1).f2), .slice A226_3 ((rd_T55 l0_2 x4_1).f3).length c226_3, .int .u64 ((rd_T55 l0_2 x4_1).f4), .int .u64 ((rd_T55 l0_2 x4_1).f5), .int .u64 ((rd_T55 l0_2 x4_1).f6)] 55 (0, 0)) (by (with_reducible repeat (first | refine blk_drewN ?_ _ | refine blk_drew ?_ | refine blk_alloc ?_ _)); exact BK227.out) k_ hk⟩)); (case aO => exact (by (with_reducible repeat (first | apply Kd.N_alloc | apply Kd.N_drewN | apply Kd.N_drew)); exact HO_226002.out)); (case aS => exact (below_size zx13_2)); (case aL => have := LMc12.out; omega); intro v229 w25 ho hb hg hat; rw [← Ny228.out] at ho; have n0_ := Aside0.mk (Kd.V_afterv (ok := (fun k_ => (P0_2_ k_ ∨ w.heap.size ≤ k_) ∧ k_ ≠ gb223 ∧ k_ ≠ gb224 ∧ k_ ≠ gb225 ∧ k_ ≠ gb227)) (by (with_reducible repeat (first | apply Kd.V_alloc | apply Kd.V_drewN | apply Kd.V_drew)); exact Kd.V_mono HO_224002.out (fun _ hk => ⟨⟨hk.1, ⟨hk.2.2.1, ⟨hk.2.2.2.1, ⟨hk.2.2.2.2.1, hk.2.2.2.2.2⟩⟩⟩⟩, hk.2.1⟩)) hg hat); have n1_ := Aside0.mk (blk_grown (g := gb223) (o := .cells #[.int .u64 a0_0, .int .u64 a0_1, .slice (some ad226) l0_2.length c0_2] 25 (0, 0)) zx13_0 hg (Kd.N_ne HO_226002.out BK223.out (by decide))); have n2_ := Aside0.mk (blk_grown (g := gb224) (o := .cells #[.int .u64 0, .int .u64 0, .slice none 0 0] 30 (0, 0)) zx13_1 hg (Kd.N_ne HO_226002.out BK224.out (by decide))); have n3_ := Aside0.mk (blk_grown (g := gb225) (o := .cells #[.int .u64 a0_0, .int .u64 a0_1, u226002] 30 (0, 0)) zx13_3 hg (Kd.N_ne HO_226002.out BK225.out (by decide))); have n4_ := Aside0.mk (Kd.V_afterv (ok := (fun k_ => (P0_2_ k_ ∨ w.heap.size ≤ k_) ∧ k_ ≠ gb223 ∧ k_ ≠ gb224 ∧ k_ ≠ gb225 ∧ k_ ≠ gb227)) (by (with_reducible repeat (first | apply Kd.V_alloc | apply Kd.V_drewN | apply Kd.V_drew)); exact Kd.V_mono HL226_3.out (fun _ hk => ⟨⟨hk.1, ⟨hk.2.2.1, ⟨hk.2.2.2.1, ⟨hk.2.2.2.2.1, hk.2.2.2.2.2⟩⟩⟩⟩, hk.2.1⟩)) hg hat); have n5_ := Aside0.mk (blk_grown (g := gb227) (o := .cells #[.string ((rd_T55 l0_2 x4_1).f0), .int .u64 ((rd_T55 l0_2 x4_1).f1), .int .u64 ((rd_T55 l0_2 x4_1).f2), .slice A226_3 ((rd_T55 l0_2 x4_1).f3).length c226_3, .int .u64 ((rd_T55 l0_2 x4_1).f4), .int .u64 ((rd_T55 l0_2 x4_1).f5), .int .u64 ((rd_T55 l0_2 x4_1).f6)] 55 (0, 0)) (by (with_reducible repeat (first | refine blk_drewN ?_ _ | refine blk_drew ?_ | refine blk_alloc ?_ _)); exact BK227.out) hg (Kd.N_ne HO_226002.out BK227.out (by decide))); have n6_ := Aside0.mk (hb); have n7_ := Aside0.mk (ho); clear HO_224002; clear BK223; clear BK224; clear BK225; clear HL226_3; clear BK227; clear HB; clear HO_226002; have HO_224002 := n0_; have BK223 := n1_; have BK224 := n2_; have BK225 := n3_; have HL226_3 := n4_; have BK227 := n5_; have HB := n6_; have HO230 := n7_; clear n0_ n1_ n2_ n3_ n4_ n5_ n6_ n7_; clear ho hb hg hat; obtain ⟨Ao26, co26, eo26⟩ := Kd.N_slice HO230.out; subst eo26; have hcz27_0 : w25.cell? ⟨gb225, 0, none⟩ = some (.int .u64 a0_0) := (blk_cell BK225.out 0).trans rfl; have hcz27_1 : w25.cell? ⟨gb225, 1, none⟩ = some (.int .u64 a0_1) := (blk_cell BK225.out 1).trans rfl; have hcz27_2 : w25.cell? ⟨gb225, 2, none⟩ = some (u226002) := (blk_cell BK225.out 2).trans rfl; have hfz27_0 := blk_frozen BK225.out 0; have hfz27_1 := blk_frozen BK225.out 1; have hfz27_2 := blk_frozen BK225.out 2))
      go_roundg k1
      case measure => have := HK1.out; omega
      case rel => exact ⟨(wrap64 (x4_1 + 1)), (y228), (.slice Ao26 y228.length co26), (by first | rfl | (simp; done) | (simp [*]; done)), H', ⟨by have := HK1.out; omega⟩, ⟨by (with_reducible repeat (first | apply Kd.V_alloc | apply Kd.V_drewN | apply Kd.V_drew)); exact Kd.V_mono (Kd.V_far (p := ⟨gb225, 2, none⟩) (Kd.V_mono HO_224002.out (fun k_ hk => (⟨hk, hk.1.2.2.2.1⟩ : _ ∧ k_ ≠ gb225))) (fun _ hk => hk.2) (.slice Ao26 y228.length co26)) (fun _ hk => ⟨hk.1.1.1, ⟨hk.1.2, ⟨hk.1.1.2.1, ⟨hk.1.1.2.2.1, hk.1.1.2.2.2.1⟩⟩⟩⟩)⟩, ⟨by (with_reducible repeat (first | apply Kd.N_alloc | apply Kd.N_drewN | apply Kd.N_drew)); exact Kd.N_mono (Kd.N_far (p := ⟨gb225, 2, none⟩) (Kd.N_mono HO230.out (fun k_ hk => (⟨hk, hk.2.2.2.1⟩ : _ ∧ k_ ≠ gb225))) (fun _ hk => hk.2) (.slice Ao26 y228.length co26)) (fun _ hk => ⟨hk.1.1, ⟨hk.1.2.1, ⟨hk.1.2.2.1, hk.1.2.2.2.1⟩⟩⟩)⟩, ⟨by (with_reducible repeat (first | refine blk_drewN ?_ _ | refine blk_drew ?_ | refine blk_alloc ?_ _)); refine blk_far ?_ NB223_225.out _; (with_reducible repeat (first | refine blk_drewN ?_ _ | refine blk_drew ?_ | refine blk_alloc ?_ _)); exact BK223.out⟩, ⟨by (with_reducible repeat (first | refine blk_drewN ?_ _ | refine blk_drew ?_ | refine blk_alloc ?_ _)); refine blk_far ?_ NB224_225.out _; (with_reducible repeat (first | refine blk_drewN ?_ _ | refine blk_drew ?_ | refine blk_alloc ?_ _)); exact BK224.out⟩, ⟨by (with_reducible repeat (first | refine blk_drewN ?_ _ | refine blk_drew ?_ | refine blk_alloc ?_ _)); refine blk_put (cs := #[.int .u64 a0_0, .int .u64 a0_1, u226002]) ?_ 2 _ rfl; (with_reducible repeat (first | refine blk_drewN ?_ _ | refine blk_drew ?_ | refine blk_alloc ?_ _)); exact BK225.out⟩, ⟨by repeat (first | (with_reducible first | exact HB.out | apply below_alloc | apply pw_below_drewN | apply below_drew1 | refine below_set ?_ GE223.out | refine below_set ?_ GE224.out | refine below_set ?_ GE225.out | refine below_set ?_ GE227.out) | exact HB.out)⟩⟩
     ·rw [if_neg c12] at H
      exact absurd H (by simp)
    ·rw [if_neg c11] at H
     exact absurd H (by simp)
   ·rw [if_neg c10] at H
    have c10b0 : decide (x4_1 < (l0_2.length : Int)) = false := decide_eq_false c10
    clear c10
    simp only [Option.some.injEq, Prod.mk.injEq] at H
    obtain ⟨rfl, rfl, rfl⟩ := H
    have hnb28 := NB223_224.out
    have hnc28 := NB224_223.out
    have hnb29 := NB223_225.out
    have hnc29 := NB225_223.out
    obtain ⟨hcz30_0, hcz30_1, hcz30_2, hfz30_0, hfz30_1, hfz30_2⟩ := cx13_bc3 BK223.out
    have hnb31 := NB225_224.out
    have hnc31 := NB224_225.out
    obtain ⟨hcz32_0, hcz32_1, hcz32_2, hfz32_0, hfz32_1, hfz32_2⟩ := cx13_bc3 BK225.out
    obtain ⟨hcz33_0, hcz33_1, hcz33_2, hfz33_0, hfz33_1, hfz33_2⟩ := cx13_bc3 BK224.out
    obtain ⟨Ao34, co34, eo34⟩ := Kd.N_slice HO_226002.out
    subst eo34
    go_wp2
    refine bodyPost_ret (results_cell_row rfl _ _ gb224 30 #[.int .u64 a0_0, .int .u64 a0_1, .slice Ao34 x226002_1.length co34] (0, 0) _ rfl (by (with_reducible repeat (first | refine blk_drewN ?_ _ | refine blk_drew ?_ | refine blk_alloc ?_ _)); refine blk_put (cs := #[.int .u64 a0_0, .int .u64 a0_1, .slice none 0 0]) ?_ 2 _ rfl; (with_reducible repeat (first | refine blk_drewN ?_ _ | refine blk_drew ?_ | refine blk_alloc ?_ _)); refine blk_put (cs := #[.int .u64 a0_0, .int .u64 0, .slice none 0 0]) ?_ 1 _ rfl; (with_reducible repeat (first | refine blk_drewN ?_ _ | refine blk_drew ?_ | refine blk_alloc ?_ _)); refine blk_put (cs := #[.int .u64 0, .int .u64 0, .slice none 0 0]) ?_ 0 _ rfl; (with_reducible repeat (first | refine blk_drewN ?_ _ | refine blk_drew ?_ | refine blk_alloc ?_ _)); exact BK224.out) Tryd.underlying30 rfl (by kernel_rfl)) rfl ?_
    exact ⟨_, by first | rfl | (simp [errW_none, errW_some] <;> rfl) | (simp [*, errW_none, errW_some] <;> rfl), by (with_reducible repeat (first | apply Kd.N_alloc | apply Kd.N_drewN | apply Kd.N_drew)); exact Kd.N_mono (Kd.N_far (p := ⟨gb224, 2, none⟩) (Kd.N_far (p := ⟨gb224, 1, none⟩) (Kd.N_far (p := ⟨gb224, 0, none⟩) (Kd.N_mono HO_226002.out (fun k_ hk => (⟨hk, hk.2.2.1⟩ : _ ∧ k_ ≠ gb224))) (fun _ hk => hk.2) (.int .u64 a0_0)) (fun _ hk => hk.2) (.int .u64 a0_1)) (fun _ hk => hk.2) (.slice Ao34 x226002_1.length co34)) (fun _ hk => hk.1.1), by repeat (first | (with_reducible first | exact HB.out | apply below_alloc | apply pw_below_drewN | apply below_drew1 | refine below_set ?_ GE223.out | refine below_set ?_ GE224.out | refine below_set ?_ GE225.out) | exact HB.out)⟩

end Go.Proofs.YtmbigoeldobaiaaDoor.XMrk
end
section
/- What the functions of the translation answer, each as a plain Lean function, and that the code comes to it; for a law: its row. Conditions: none but those that each theorem names. Written by a program of this session (wip/xp). -/
namespace Go.Proofs.YtmbigoeldobaiaaDoor.XMrk
open Go.RowKit Go.Proofs.YtmbigoeldobaiaaDoorW.PrintWords Go.Proofs.YtmbigoeldobaiaaDoorW.PrintLast Go.Proofs.YtmbigoeldobaiaaDoorW.PrintMore
attribute [local go_sem] max2_int min2_int max_two min_two max_three min_three max_four min_four   -- for this text's walks alone
theorem cx23_bc3 {w : World} {g : Nat} {t : TypeId} {x0 x1 x2 : Value} (h : w.heap[g]? = some (.cells #[x0, x1, x2] t (0, 0))) : w.cell? ⟨g, 0, none⟩ = some x0 ∧ w.cell? ⟨g, 1, none⟩ = some x1 ∧ w.cell? ⟨g, 2, none⟩ = some x2 ∧ w.frozen? ⟨g, 0, none⟩ = false ∧ w.frozen? ⟨g, 1, none⟩ = false ∧ w.frozen? ⟨g, 2, none⟩ = false :=
 ⟨(blk_cell h 0).trans rfl, (blk_cell h 1).trans rfl, (blk_cell h 2).trans rfl, blk_frozen h 0, blk_frozen h 1, blk_frozen h 2⟩
theorem zx23_16 {p : Prop} (h : p := by first | (with_reducible assumption) | assumption) : p := h
theorem zx23_11 {p : Prop} (h : p := by have := World.block_lt_of_cell? _ _ hx334_0; first | rwa [add_block] at this | exact this) : p := h
theorem zx23_13 {p : Prop} (h : p := by (with_reducible repeat (first | refine blk_drewN ?_ _ | refine blk_drew ?_ | refine blk_alloc ?_ _)); exact BK330.out) : p := h
theorem zx23_14 {p : Prop} (h : p := by (with_reducible repeat (first | refine blk_drewN ?_ _ | refine blk_drew ?_ | refine blk_alloc ?_ _)); exact BK331.out) : p := h
theorem zx23_3 {p : Prop} (h : p := by first | (rw [add_block]; exact hn334_0) | (show (Addr.add _ _).block ≠ _; rw [add_block]; exact hn334_0) | exact hn334_0) : p := h
theorem zx23_4 {p : Prop} (h : p := by first | (rw [add_block]; exact hn334_1) | (show (Addr.add _ _).block ≠ _; rw [add_block]; exact hn334_1) | exact hn334_1) : p := h
theorem zx23_5 {p : Prop} (h : p := by first | (rw [add_block]; exact hn334_2) | (show (Addr.add _ _).block ≠ _; rw [add_block]; exact hn334_2) | exact hn334_2) : p := h
theorem zx23_6 {p : Prop} (h : p := by first | (rw [add_block]; exact hn334_3) | (show (Addr.add _ _).block ≠ _; rw [add_block]; exact hn334_3) | exact hn334_3) : p := h
theorem zx23_7 {p : Prop} (h : p := by first | (rw [add_block]; exact hn334_4) | (show (Addr.add _ _).block ≠ _; rw [add_block]; exact hn334_4) | exact hn334_4) : p := h
theorem zx23_8 {p : Prop} (h : p := by first | (rw [add_block]; exact hn334_5) | (show (Addr.add _ _).block ≠ _; rw [add_block]; exact hn334_5) | exact hn334_5) : p := h
theorem zx23_9 {p : Prop} (h : p := by first | (rw [add_block]; exact hn334_6) | (show (Addr.add _ _).block ≠ _; rw [add_block]; exact hn334_6) | exact hn334_6) : p := h
theorem zx23_18 {p : Prop} (h : p := by repeat (first | (with_reducible first | exact HB.out | apply below_alloc | apply pw_below_drewN | apply below_drew1) | exact HB.out)) : p := h
theorem zx23_17 {p : Prop} (h : p := by repeat (first | (with_reducible first | exact HB.out | apply below_alloc | apply pw_below_drewN | apply below_drew1 | refine below_set ?_ GE330.out) | exact HB.out)) : p := h
theorem zx23_12 {p : Prop} (h : p := by repeat (first | (with_reducible first | exact HB.out | apply below_alloc | apply pw_below_drewN | apply below_drew1 | refine below_set ?_ GE330.out | refine below_set ?_ GE331.out) | exact HB.out)) : p := h
theorem zx23_10 {p : Prop} (h : p := by repeat (first | (with_reducible first | exact HB.out | apply below_alloc | apply pw_below_drewN | apply below_drew1 | refine below_set ?_ GE330.out | refine below_set ?_ GE331.out | refine below_set ?_ GE333.out) | exact HB.out)) : p := h
theorem zx23_15 {p : Prop} (h : p := by repeat (first | (with_reducible first | exact HB.out | apply below_alloc | apply pw_below_drewN | apply below_drew1 | refine below_set ?_ GE330.out | refine below_set ?_ GE331.out | refine below_set ?_ GE333.out | refine below_set ?_ GE335.out) | exact HB.out)) : p := h
theorem zx23_1 {p : Prop} (h : p := by (with_reducible repeat (first | refine blk_drewN ?_ _ | refine blk_drew ?_ | refine blk_alloc ?_ _)); refine blk_far ?_ NB330_333.out _; (with_reducible repeat (first | refine blk_drewN ?_ _ | refine blk_drew ?_ | refine blk_alloc ?_ _)); refine blk_far ?_ NB330_333.out _; (with_reducible repeat (first | refine blk_drewN ?_ _ | refine blk_drew ?_ | refine blk_alloc ?_ _)); refine blk_far ?_ NB330_333.out _; (with_reducible repeat (first | refine blk_drewN ?_ _ | refine blk_drew ?_ | refine blk_alloc ?_ _)); refine blk_far ?_ NB330_333.out _; (with_reducible repeat (first | refine blk_drewN ?_ _ | refine blk_drew ?_ | refine blk_alloc ?_ _)); refine blk_far ?_ NB330_333.out _; (with_reducible repeat (first | refine blk_drewN ?_ _ | refine blk_drew ?_ | refine blk_alloc ?_ _)); refine blk_far ?_ NB330_333.out _; (with_reducible repeat (first | refine blk_drewN ?_ _ | refine blk_drew ?_ | refine blk_alloc ?_ _)); refine blk_far ?_ NB330_333.out _; (with_reducible repeat (first | refine blk_drewN ?_ _ | refine blk_drew ?_ | refine blk_alloc ?_ _)); exact BK330.out) : p := h
theorem zx23_2 {p : Prop} (h : p := by (with_reducible repeat (first | refine blk_drewN ?_ _ | refine blk_drew ?_ | refine blk_alloc ?_ _)); refine blk_far ?_ NB331_333.out _; (with_reducible repeat (first | refine blk_drewN ?_ _ | refine blk_drew ?_ | refine blk_alloc ?_ _)); refine blk_far ?_ NB331_333.out _; (with_reducible repeat (first | refine blk_drewN ?_ _ | refine blk_drew ?_ | refine blk_alloc ?_ _)); refine blk_far ?_ NB331_333.out _; (with_reducible repeat (first | refine blk_drewN ?_ _ | refine blk_drew ?_ | refine blk_alloc ?_ _)); refine blk_far ?_ NB331_333.out _; (with_reducible repeat (first | refine blk_drewN ?_ _ | refine blk_drew ?_ | refine blk_alloc ?_ _)); refine blk_far ?_ NB331_333.out _; (with_reducible repeat (first | refine blk_drewN ?_ _ | refine blk_drew ?_ | refine blk_alloc ?_ _)); refine blk_far ?_ NB331_333.out _; (with_reducible repeat (first | refine blk_drewN ?_ _ | refine blk_drew ?_ | refine blk_alloc ?_ _)); refine blk_far ?_ NB331_333.out _; (with_reducible repeat (first | refine blk_drewN ?_ _ | refine blk_drew ?_ | refine blk_alloc ?_ _)); exact BK331.out) : p := h
theorem zx23_0 {p : Prop} (h : p := by (with_reducible repeat (first | refine blk_drewN ?_ _ | refine blk_drew ?_ | refine blk_alloc ?_ _)); refine blk_put (cs := #[.string ((rd_T57 l0_2 x5_2).f0), .int .u64 ((rd_T57 l0_2 x5_2).f1), .int .u64 ((rd_T57 l0_2 x5_2).f2), .slice A332_3 ((rd_T57 l0_2 x5_2).f3).length c332_3, .int .u64 ((rd_T57 l0_2 x5_2).f4), .int .u64 ((rd_T57 l0_2 x5_2).f5), .int .u64 0]) ?_ 6 _ rfl; (with_reducible repeat (first | refine blk_drewN ?_ _ | refine blk_drew ?_ | refine blk_alloc ?_ _)); refine blk_put (cs := #[.string ((rd_T57 l0_2 x5_2).f0), .int .u64 ((rd_T57 l0_2 x5_2).f1), .int .u64 ((rd_T57 l0_2 x5_2).f2), .slice A332_3 ((rd_T57 l0_2 x5_2).f3).length c332_3, .int .u64 ((rd_T57 l0_2 x5_2).f4), .int .u64 0, .int .u64 0]) ?_ 5 _ rfl; (with_reducible repeat (first | refine blk_drewN ?_ _ | refine blk_drew ?_ | refine blk_alloc ?_ _)); refine blk_put (cs := #[.string ((rd_T57 l0_2 x5_2).f0), .int .u64 ((rd_T57 l0_2 x5_2).f1), .int .u64 ((rd_T57 l0_2 x5_2).f2), .slice A332_3 ((rd_T57 l0_2 x5_2).f3).length c332_3, .int .u64 0, .int .u64 0, .int .u64 0]) ?_ 4 _ rfl; (with_reducible repeat (first | refine blk_drewN ?_ _ | refine blk_drew ?_ | refine blk_alloc ?_ _)); refine blk_put (cs := #[.string ((rd_T57 l0_2 x5_2).f0), .int .u64 ((rd_T57 l0_2 x5_2).f1), .int .u64 ((rd_T57 l0_2 x5_2).f2), .slice none 0 0, .int .u64 0, .int .u64 0, .int .u64 0]) ?_ 3 _ rfl; (with_reducible repeat (first | refine blk_drewN ?_ _ | refine blk_drew ?_ | refine blk_alloc ?_ _)); refine blk_put (cs := #[.string ((rd_T57 l0_2 x5_2).f0), .int .u64 ((rd_T57 l0_2 x5_2).f1), .int .u64 0, .slice none 0 0, .int .u64 0, .int .u64 0, .int .u64 0]) ?_ 2 _ rfl; (with_reducible repeat (first | refine blk_drewN ?_ _ | refine blk_drew ?_ | refine blk_alloc ?_ _)); refine blk_put (cs := #[.string ((rd_T57 l0_2 x5_2).f0), .int .u64 0, .int .u64 0, .slice none 0 0, .int .u64 0, .int .u64 0, .int .u64 0]) ?_ 1 _ rfl; (with_reducible repeat (first | refine blk_drewN ?_ _ | refine blk_drew ?_ | refine blk_alloc ?_ _)); refine blk_put (cs := #[.string (⟨#[]⟩ : ByteArray), .int .u64 0, .int .u64 0, .slice none 0 0, .int .u64 0, .int .u64 0, .int .u64 0]) ?_ 0 _ rfl; (with_reducible repeat (first | refine blk_drewN ?_ _ | refine blk_drew ?_ | refine blk_alloc ?_ _)); exact BK333.out) : p := h
set_option linter.unusedVariables false
set_option linter.unusedSimpArgs false

/-! ### postroomref11_Same: function 17 -/
mutual
def postroomref11_Same.j0 : Nat → Bool → Int → Int → List (S57) → Int → Int → List (S57) → Option (Bool)
 | 0, _, _, _, _, _, _, _ => none
 | k + 1, x28, x331000, x331001, x331002, x332000, x332001, x332002 => if x28 = true then (some false) else (postroomref11_Same.l0 k 0 x331000 x331001 x331002 x332000 x332001 x332002)
def postroomref11_Same.l0 : Nat → Int → Int → Int → List (S57) → Int → Int → List (S57) → Option (Bool)
 | 0, _, _, _, _, _, _, _ => none
 | k + 1, x5, x331000, x331001, x331002, x332000, x332001, x332002 => if x5 < (x331002.length : Int) then (if 0 ≤ x5 then (if x5 < (x332002.length : Int) then (if ((rd_T57 x331002 x5).f0).toList = ((rd_T57 x332002 x5).f0).toList then (if ((rd_T57 x331002 x5).f1) = ((rd_T57 x332002 x5).f1) then (if ((rd_T57 x331002 x5).f2) = ((rd_T57 x332002 x5).f2) then (if ((rd_T57 x331002 x5).f4) = ((rd_T57 x332002 x5).f4) then (if ((rd_T57 x331002 x5).f5) = ((rd_T57 x332002 x5).f5) then (if ((rd_T57 x331002 x5).f6) = ((rd_T57 x332002 x5).f6) then ((postroomref11_sameInts.f k ((rd_T57 x331002 x5).f3) ((rd_T57 x332002 x5).f3)).bind fun t336 => (if t336 = true then (postroomref11_Same.l0 k (wrap64 (x5 + 1)) x331000 x331001 x331002 x332000 x332001 x332002) else (some false))) else (some false)) else (some false)) else (some false)) else (some false)) else (some false)) else (some false)) else (none)) else (none)) else (some true)
end
def postroomref11_Same.f (k : Nat) (a0_0 : Int) (a0_1 : Int) (l0_2 : List (S57)) (a1_0 : Int) (a1_1 : Int) (l1_2 : List (S57)) : Option (Bool) := if a0_0 = a1_0 then (if a0_1 = a1_1 then (postroomref11_Same.j0 k ((l0_2.length : Int) != (l1_2.length : Int)) a0_0 a0_1 l0_2 a1_0 a1_1 l1_2) else (postroomref11_Same.j0 k true a0_0 a0_1 l0_2 a1_0 a1_1 l1_2)) else (postroomref11_Same.j0 k true a0_0 a0_1 l0_2 a1_0 a1_1 l1_2)
theorem postroomref11_Same.mono_l : ∀ k, (∀ y0 y1 y2 y3 y4 y5 y6, LeO (postroomref11_Same.j0 k y0 y1 y2 y3 y4 y5 y6) (postroomref11_Same.j0 (k + 1) y0 y1 y2 y3 y4 y5 y6)) ∧ (∀ y0 y1 y2 y3 y4 y5 y6, LeO (postroomref11_Same.l0 k y0 y1 y2 y3 y4 y5 y6) (postroomref11_Same.l0 (k + 1) y0 y1 y2 y3 y4 y5 y6))
 | 0 => ⟨fun _ _ _ _ _ _ _ r h => by simp [postroomref11_Same.j0] at h, fun _ _ _ _ _ _ _ r h => by simp [postroomref11_Same.l0] at h⟩
 | k + 1 => by
  obtain ⟨ih0, ih1⟩ := postroomref11_Same.mono_l k
  refine ⟨?_, ?_⟩
  ·intro y0 y1 y2 y3 y4 y5 y6
   unfold postroomref11_Same.j0
   repeat' first
   | (with_reducible exact ih0 _ _ _ _ _ _ _)
   | (with_reducible exact ih1 _ _ _ _ _ _ _)
   | (with_reducible exact postroomref11_sameInts.mono _ _ _)
   | (with_reducible exact LeO.refl _)
   | (with_reducible exact LeO.none _)
   | (with_reducible refine LeO.ite ?_ ?_)
   | (with_reducible refine LeO.bind ?_ (fun _ => ?_))
   | exact ih0 _ _ _ _ _ _ _
   | exact ih1 _ _ _ _ _ _ _
   | exact postroomref11_sameInts.mono _ _ _
   | exact LeO.none _
   | refine LeO.ite ?_ ?_
   | refine LeO.bind ?_ (fun _ => ?_)
  ·intro y0 y1 y2 y3 y4 y5 y6
   unfold postroomref11_Same.l0
   repeat' first
   | (with_reducible exact ih0 _ _ _ _ _ _ _)
   | (with_reducible exact ih1 _ _ _ _ _ _ _)
   | (with_reducible exact postroomref11_sameInts.mono _ _ _)
   | (with_reducible exact LeO.refl _)
   | (with_reducible exact LeO.none _)
   | (with_reducible refine LeO.ite ?_ ?_)
   | (with_reducible refine LeO.bind ?_ (fun _ => ?_))
   | exact ih0 _ _ _ _ _ _ _
   | exact ih1 _ _ _ _ _ _ _
   | exact postroomref11_sameInts.mono _ _ _
   | exact LeO.none _
   | refine LeO.ite ?_ ?_
   | refine LeO.bind ?_ (fun _ => ?_)
theorem postroomref11_Same.mono : ∀ a0 a1 a2 a3 a4 a5 k, LeO (postroomref11_Same.f k a0 a1 a2 a3 a4 a5) (postroomref11_Same.f (k + 1) a0 a1 a2 a3 a4 a5) := by
 intro a0 a1 a2 a3 a4 a5 k
 obtain ⟨ih0, ih1⟩ := postroomref11_Same.mono_l k
 unfold postroomref11_Same.f
 repeat' first
   | (with_reducible exact ih0 _ _ _ _ _ _ _)
   | (with_reducible exact ih1 _ _ _ _ _ _ _)
   | (with_reducible exact postroomref11_sameInts.mono _ _ _)
   | (with_reducible exact LeO.refl _)
   | (with_reducible exact LeO.none _)
   | (with_reducible refine LeO.ite ?_ ?_)
   | (with_reducible refine LeO.bind ?_ (fun _ => ?_))
   | exact ih0 _ _ _ _ _ _ _
   | exact ih1 _ _ _ _ _ _ _
   | exact postroomref11_sameInts.mono _ _ _
   | exact LeO.none _
   | refine LeO.ite ?_ ?_
   | refine LeO.bind ?_ (fun _ => ?_)
set_option maxHeartbeats 8000000 in
set_option maxRecDepth 100000 in
theorem postroomref11_Same.calls (k : Nat) (a0_0 : Int) (a0_1 : Int) (A0_2 : Option Addr) (c0_2 : Nat) (l0_2 : List (S57)) (a1_0 : Int) (a1_1 : Int) (A1_2 : Option Addr) (c1_2 : Nat) (l1_2 : List (S57)) (r : Bool) (w : World) (hr0_2 : Kd.C k57 w A0_2 l0_2.length l0_2) (hc0_2 : l0_2.length ≤ c0_2) (hr1_2 : Kd.C k57 w A1_2 l1_2.length l1_2) (hc1_2 : l1_2.length ≤ c1_2) (h : postroomref11_Same.f k a0_0 a0_1 l0_2 a1_0 a1_1 l1_2 = some r) :
  Calls Tryd.prog 17 #[.agg #[.int .u64 a0_0, .int .u64 a0_1, .slice A0_2 l0_2.length c0_2], .agg #[.int .u64 a1_0, .int .u64 a1_1, .slice A1_2 l1_2.length c1_2]] w fun e w' => e = .returned (.bool r) ∧ Below w.heap.size w w' := by
 have hu30 := Tryd.underlying30
 have hu57 := Tryd.underlying57
 have HR0_2 := Aside0.mk hr0_2
 have HC0_2 := Aside0.mk hc0_2
 clear hr0_2 hc0_2
 have HR1_2 := Aside0.mk hr1_2
 have HC1_2 := Aside0.mk hc1_2
 clear hr1_2 hc1_2
 have HB := Aside0.mk (Below.refl w.heap.size w)
 have H : (if a0_0 = a1_0 then (if a0_1 = a1_1 then (postroomref11_Same.j0 k ((l0_2.length : Int) != (l1_2.length : Int)) a0_0 a0_1 l0_2 a1_0 a1_1 l1_2) else (postroomref11_Same.j0 k true a0_0 a0_1 l0_2 a1_0 a1_1 l1_2)) else (postroomref11_Same.j0 k true a0_0 a0_1 l0_2 a1_0 a1_1 l1_2)) = some r := h
 clear h
 have HC3 := Aside0.mk H
 clear H
 go_enter Tryd.func17, Tryd.ntmps17
 go_upto_region 1 with (first | ((with_reducible refine gate_dst (N := 2) rfl ?_); (try (refine gate_guard (by rfl) ?_; dsimp only)); refine box_event ?hg (N := 2) ?hd (cs := #[.int .u64 a0_0, .int .u64 a0_1, .slice A0_2 l0_2.length c0_2]) (t := 30) ?hr ?_; (case hd => rfl); (case hg => rfl); (case hr => first | (go_simp; done) | (go_simp; rfl)); intro gb330 hg w4 hbox hb; have n0_ := Aside0.mk (below_step zx23_18 hb); have n1_ := Aside0.mk (hbox); have n2_ := Aside0.mk ((by rw [hg]; exact (below_size zx23_18) : w.heap.size ≤ gb330)); have n3_ := Aside0.mk ((by rw [hg]; exact (below_size zx23_18) : w.heap.size ≤ gb330)); clear HB; have HB := n0_; have BK330 := n1_; have GW330 := n2_; have GE330 := n3_; clear n0_ n1_ n2_ n3_; clear hb hbox hg) | ((with_reducible refine gate_dst (N := 3) rfl ?_); (try (refine gate_guard (by rfl) ?_; dsimp only)); refine box_event ?hg (N := 3) ?hd (cs := #[.int .u64 a1_0, .int .u64 a1_1, .slice A1_2 l1_2.length c1_2]) (t := 30) ?hr ?_; (case hd => rfl); (case hg => rfl); (case hr => first | (go_simp; done) | (go_simp; rfl)); intro gb331 hg w5 hbox hb; have n0_ := Aside0.mk (blk_below (g := gb330) (o := .cells #[.int .u64 a0_0, .int .u64 a0_1, .slice A0_2 l0_2.length c0_2] 30 (0, 0)) zx23_13 hb); have n1_ := Aside0.mk (below_step zx23_17 hb); have n2_ := Aside0.mk (hbox); have n3_ := Aside0.mk ((by rw [hg]; exact (below_size zx23_17) : w.heap.size ≤ gb331)); have n4_ := Aside0.mk ((by rw [hg]; exact (below_size zx23_17) : w.heap.size ≤ gb331)); have n5_ := Aside0.mk ((by rw [hg]; exact Nat.ne_of_lt (blk_lt (g := gb330) (o := .cells #[.int .u64 a0_0, .int .u64 a0_1, .slice A0_2 l0_2.length c0_2] 30 (0, 0)) zx23_13) : gb330 ≠ gb331)); have n6_ := Aside0.mk ((by rw [hg]; exact Nat.ne_of_gt (blk_lt (g := gb330) (o := .cells #[.int .u64 a0_0, .int .u64 a0_1, .slice A0_2 l0_2.length c0_2] 30 (0, 0)) zx23_13) : gb331 ≠ gb330)); clear BK330; clear HB; have BK330 := n0_; have HB := n1_; have BK331 := n2_; have GW331 := n3_; have GE331 := n4_; have NB330_331 := n5_; have NB331_330 := n6_; clear n0_ n1_ n2_ n3_ n4_ n5_ n6_; clear hb hbox hg))
 (try simp only [Act.put, List.setIfInBounds_toArray, List.set_cons_zero, List.set_cons_succ])
 go_cut [28] (fun v28 wc => ∃ (kq : Nat) (x28_2 : Bool), v28 = .bool x28_2 ∧ Aside0 (postroomref11_Same.j0 kq x28_2 a0_0 a0_1 l0_2 a1_0 a1_1 l1_2 = some r) ∧ Aside0 (kq ≤ k) ∧ Aside0 (wc.heap[gb330]? = some (.cells #[.int .u64 a0_0, .int .u64 a0_1, (.slice A0_2 l0_2.length c0_2)] 30 (0, 0))) ∧ Aside0 (wc.heap[gb331]? = some (.cells #[.int .u64 a1_0, .int .u64 a1_1, (.slice A1_2 l1_2.length c1_2)] 30 (0, 0))) ∧ Aside0 (Below w.heap.size w wc))
 case first =>
  have H := HC3.out
  clear HC3
  refine (if c6 : a0_0 = a1_0 then ?pos_c6 else ?neg_c6)
  case' neg_c6 =>
   rw [if_neg c6] at H
   have c6b0 : (a0_0 == a1_0) = false := beq_eq_false_iff_ne.mpr c6
   have c6b1 : (a0_0 != a1_0) = true := bne_iff_ne.mpr c6
   (first | rw [c6b0] | (simp only [i64_w, i32_w]; rw [c6b0]) | skip)
   have H' := Aside0.mk H
   clear H
  case' pos_c6 =>
   rw [if_pos c6] at H
   have c6b0 : (a0_0 == a1_0) = true := beq_iff_eq.mpr c6
   have c6b1 : (a0_0 != a1_0) = false := bne_eq_false_iff_eq.mpr c6
   clear c6
   (first | rw [c6b0] | (simp only [i64_w, i32_w]; rw [c6b0]) | skip)
   refine (if c7 : a0_1 = a1_1 then ?pos_c7 else ?neg_c7)
   case pos_c7 =>
    rw [if_pos c7] at H
    have c7b0 : (a0_1 == a1_1) = true := beq_iff_eq.mpr c7
    have c7b1 : (a0_1 != a1_1) = false := bne_eq_false_iff_eq.mpr c7
    clear c7
    have H' := Aside0.mk H
    clear H
    have hnb8 := NB330_331.out
    have hnc8 := NB331_330.out
    obtain ⟨hcz9_0, hcz9_1, hcz9_2, hfz9_0, hfz9_1, hfz9_2⟩ := cx23_bc3 BK330.out
    obtain ⟨hcz10_0, hcz10_1, hcz10_2, hfz10_0, hfz10_1, hfz10_2⟩ := cx23_bc3 BK331.out
    go_wp2
    go_meet
    case rel => exact ⟨_, (((l0_2.length : Int) != (l1_2.length : Int))), (by first | rfl | (simp; done) | (simp [*]; done)), H', ⟨by first | omega | exact Nat.le_refl _⟩, ⟨by (with_reducible repeat (first | refine blk_drewN ?_ _ | refine blk_drew ?_ | refine blk_alloc ?_ _)); exact BK330.out⟩, ⟨by (with_reducible repeat (first | refine blk_drewN ?_ _ | refine blk_drew ?_ | refine blk_alloc ?_ _)); exact BK331.out⟩, ⟨by repeat (first | (with_reducible first | exact HB.out | apply below_alloc | apply pw_below_drewN | apply below_drew1 | refine below_set ?_ GE330.out | refine below_set ?_ GE331.out) | exact HB.out)⟩⟩
   case' neg_c7 =>
    rw [if_neg c7] at H
    have c7b0 : (a0_1 == a1_1) = false := beq_eq_false_iff_ne.mpr c7
    have c7b1 : (a0_1 != a1_1) = true := bne_iff_ne.mpr c7
    have H' := Aside0.mk H
    clear H
  all_goals
   have hnb11 := NB330_331.out
   have hnc11 := NB331_330.out
   obtain ⟨hcz12_0, hcz12_1, hcz12_2, hfz12_0, hfz12_1, hfz12_2⟩ := cx23_bc3 BK330.out
   obtain ⟨hcz13_0, hcz13_1, hcz13_2, hfz13_0, hfz13_1, hfz13_2⟩ := cx23_bc3 BK331.out
   go_wp2
   go_meet
   case rel => exact ⟨_, (true), (by first | rfl | (simp; done) | (simp [*]; done)), H', ⟨by first | omega | exact Nat.le_refl _⟩, ⟨by (with_reducible repeat (first | refine blk_drewN ?_ _ | refine blk_drew ?_ | refine blk_alloc ?_ _)); exact BK330.out⟩, ⟨by (with_reducible repeat (first | refine blk_drewN ?_ _ | refine blk_drew ?_ | refine blk_alloc ?_ _)); exact BK331.out⟩, ⟨by repeat (first | (with_reducible first | exact HB.out | apply below_alloc | apply pw_below_drewN | apply below_drew1 | refine below_set ?_ GE330.out | refine below_set ?_ GE331.out) | exact HB.out)⟩⟩
 case rest =>
  clear HC3
  (try clear c1); (try clear p2); (try clear c6); (try clear c6b0); (try clear c6b1); (try clear c7); (try clear c7b0); (try clear c7b1); (try clear c8); (try clear c11); (try clear c14); (try clear hcz10_0); (try clear hcz10_1); (try clear hcz10_2); (try clear hcz12_0); (try clear hcz12_1); (try clear hcz12_2); (try clear hcz13_0); (try clear hcz13_1); (try clear hcz13_2); (try clear hcz15_0); (try clear hcz15_1); (try clear hcz15_2); (try clear hcz16_0); (try clear hcz16_1); (try clear hcz16_2); (try clear hcz9_0); (try clear hcz9_1); (try clear hcz9_2); (try clear hfz10_0); (try clear hfz10_1); (try clear hfz10_2); (try clear hfz12_0); (try clear hfz12_1); (try clear hfz12_2); (try clear hfz13_0); (try clear hfz13_1); (try clear hfz13_2); (try clear hfz15_0); (try clear hfz15_1); (try clear hfz15_2); (try clear hfz16_0); (try clear hfz16_1); (try clear hfz16_2); (try clear hfz9_0); (try clear hfz9_1); (try clear hfz9_2)
  obtain ⟨kq, x28_2, rfl, HA, HJ2, BK330, BK331, HB⟩ := hcut
  cases kq with
  | zero => exact absurd HA.out (by simp [postroomref11_Same.j0])
  | succ kj2 =>
   have H := HA.out
   clear HA
   simp only [postroomref11_Same.j0] at H
   by_cases c17 : x28_2 = true
   ·subst c17
    have H1 : (some false) = some r := by rw [if_pos rfl] at H; exact H
    clear H
    have H := H1
    clear H1
    obtain rfl := Option.some.inj H
    go_wp2
    go_ret
    exact ⟨by first | rfl | (simp [errW_none, errW_some] <;> rfl) | (simp [*, errW_none, errW_some] <;> rfl), by repeat (first | (with_reducible first | exact HB.out | apply below_alloc | apply pw_below_drewN | apply below_drew1 | refine below_set ?_ GE330.out | refine below_set ?_ GE331.out) | exact HB.out)⟩
   ·replace c17 := Bool.eq_false_iff.mpr c17
    subst c17
    have H1 : (postroomref11_Same.l0 kj2 0 a0_0 a0_1 l0_2 a1_0 a1_1 l1_2) = some r := by rw [if_neg (show ¬ (false = true) by decide)] at H; exact H
    clear H
    have H := H1
    clear H1
    have H' := Aside0.mk H
    clear H
    go_wp2
    go_loopg [5] kj2 (fun kq v5 w' => ∃ (x5_2 : Int), v5 = .int .i64 x5_2 ∧ Aside0 (postroomref11_Same.l0 kq x5_2 a0_0 a0_1 l0_2 a1_0 a1_1 l1_2 = some r) ∧ Aside0 (kq ≤ kj2) ∧ Aside0 (w'.heap[gb330]? = some (.cells #[.int .u64 a0_0, .int .u64 a0_1, (.slice A0_2 l0_2.length c0_2)] 30 (0, 0))) ∧ Aside0 (w'.heap[gb331]? = some (.cells #[.int .u64 a1_0, .int .u64 a1_1, (.slice A1_2 l1_2.length c1_2)] 30 (0, 0))) ∧ Aside0 (Below w.heap.size w w'))
    case atStart => exact ⟨(0), (by first | rfl | (simp; done) | (simp [*]; done)), H', ⟨Nat.le_refl _⟩, ⟨by (with_reducible repeat (first | refine blk_drewN ?_ _ | refine blk_drew ?_ | refine blk_alloc ?_ _)); exact BK330.out⟩, ⟨by (with_reducible repeat (first | refine blk_drewN ?_ _ | refine blk_drew ?_ | refine blk_alloc ?_ _)); exact BK331.out⟩, ⟨by repeat (first | (with_reducible first | exact HB.out | apply below_alloc | apply pw_below_drewN | apply below_drew1 | refine below_set ?_ GE330.out | refine below_set ?_ GE331.out) | exact HB.out)⟩⟩
    case round =>
     clear H'
     (try clear c1); (try clear p2); (try clear c6); (try clear c6b0); (try clear c6b1); (try clear c7); (try clear c7b0); (try clear c7b1); (try clear c8); (try clear c11); (try clear c14); (try clear c17); (try clear hcz10_0); (try clear hcz10_1); (try clear hcz10_2); (try clear hcz12_0); (try clear hcz12_1); (try clear hcz12_2); (try clear hcz13_0); (try clear hcz13_1); (try clear hcz13_2); (try clear hcz15_0); (try clear hcz15_1); (try clear hcz15_2); (try clear hcz16_0); (try clear hcz16_1); (try clear hcz16_2); (try clear hcz9_0); (try clear hcz9_1); (try clear hcz9_2); (try clear hfz10_0); (try clear hfz10_1); (try clear hfz10_2); (try clear hfz12_0); (try clear hfz12_1); (try clear hfz12_2); (try clear hfz13_0); (try clear hfz13_1); (try clear hfz13_2); (try clear hfz15_0); (try clear hfz15_1); (try clear hfz15_2); (try clear hfz16_0); (try clear hfz16_1); (try clear hfz16_2); (try clear hfz9_0); (try clear hfz9_1); (try clear hfz9_2); (try clear p2)
     obtain ⟨x5_2, rfl, HA, HK2, BK330, BK331, HB⟩ := hrel
     cases gk with
     | zero => exact absurd HA.out (by simp [postroomref11_Same.l0])
     | succ k2 =>
      have H := HA.out
      clear HA
      simp only [postroomref11_Same.l0] at H
      by_cases c18 : x5_2 < (l0_2.length : Int)
      ·rw [if_pos c18] at H
       have c18b0 : decide (x5_2 < (l0_2.length : Int)) = true := decide_eq_true c18
       clear c18
       by_cases c19 : 0 ≤ x5_2
       ·rw [if_pos c19] at H
        have c19b0 : decide (0 ≤ x5_2) = true := decide_eq_true c19
        clear c19
        by_cases c20 : x5_2 < (l1_2.length : Int)
        ·rw [if_pos c20] at H
         have c20b0 : decide (x5_2 < (l1_2.length : Int)) = true := decide_eq_true c20
         clear c20
         refine (if c21 : ((rd_T57 l0_2 x5_2).f0).toList = ((rd_T57 l1_2 x5_2).f0).toList then ?pos_c21 else ?neg_c21)
         case' neg_c21 =>
          rw [if_neg c21] at H
          have c21b0 : (((rd_T57 l0_2 x5_2).f0).toList == ((rd_T57 l1_2 x5_2).f0).toList) = false := beq_eq_false_iff_ne.mpr c21
          have c21b1 : (((rd_T57 l0_2 x5_2).f0).toList != ((rd_T57 l1_2 x5_2).f0).toList) = true := bne_iff_ne.mpr c21
          obtain rfl := Option.some.inj H
         case' pos_c21 =>
          rw [if_pos c21] at H
          have c21b0 : (((rd_T57 l0_2 x5_2).f0).toList == ((rd_T57 l1_2 x5_2).f0).toList) = true := beq_iff_eq.mpr c21
          have c21b1 : (((rd_T57 l0_2 x5_2).f0).toList != ((rd_T57 l1_2 x5_2).f0).toList) = false := bne_eq_false_iff_eq.mpr c21
          clear c21
          refine (if c22 : ((rd_T57 l0_2 x5_2).f1) = ((rd_T57 l1_2 x5_2).f1) then ?pos_c22 else ?neg_c22)
          case' neg_c22 =>
           rw [if_neg c22] at H
           have c22b0 : (((rd_T57 l0_2 x5_2).f1) == ((rd_T57 l1_2 x5_2).f1)) = false := beq_eq_false_iff_ne.mpr c22
           have c22b1 : (((rd_T57 l0_2 x5_2).f1) != ((rd_T57 l1_2 x5_2).f1)) = true := bne_iff_ne.mpr c22
           obtain rfl := Option.some.inj H
          case' pos_c22 =>
           rw [if_pos c22] at H
           have c22b0 : (((rd_T57 l0_2 x5_2).f1) == ((rd_T57 l1_2 x5_2).f1)) = true := beq_iff_eq.mpr c22
           have c22b1 : (((rd_T57 l0_2 x5_2).f1) != ((rd_T57 l1_2 x5_2).f1)) = false := bne_eq_false_iff_eq.mpr c22
           clear c22
           refine (if c23 : ((rd_T57 l0_2 x5_2).f2) = ((rd_T57 l1_2 x5_2).f2) then ?pos_c23 else ?neg_c23)
           case' neg_c23 =>
            rw [if_neg c23] at H
            have c23b0 : (((rd_T57 l0_2 x5_2).f2) == ((rd_T57 l1_2 x5_2).f2)) = false := beq_eq_false_iff_ne.mpr c23
            have c23b1 : (((rd_T57 l0_2 x5_2).f2) != ((rd_T57 l1_2 x5_2).f2)) = true := bne_iff_ne.mpr c23
            obtain rfl := Option.some.inj H
           case' pos_c23 =>
            rw [if_pos c23] at H
            have c23b0 : (((rd_T57 l0_2 x5_2).f2) == ((rd_T57 l1_2 x5_2).f2)) = true := beq_iff_eq.mpr c23
            have c23b1 : (((rd_T57 l0_2 x5_2).f2) != ((rd_T57 l1_2 x5_2).f2)) = false := bne_eq_false_iff_eq.mpr c23
            clear c23
            refine (if c24 : ((rd_T57 l0_2 x5_2).f4) = ((rd_T57 l1_2 x5_2).f4) then ?pos_c24 else ?neg_c24)
            case' neg_c24 =>
             rw [if_neg c24] at H
             have c24b0 : (((rd_T57 l0_2 x5_2).f4) == ((rd_T57 l1_2 x5_2).f4)) = false := beq_eq_false_iff_ne.mpr c24
             have c24b1 : (((rd_T57 l0_2 x5_2).f4) != ((rd_T57 l1_2 x5_2).f4)) = true := bne_iff_ne.mpr c24
             obtain rfl := Option.some.inj H
            case' pos_c24 =>
             rw [if_pos c24] at H
             have c24b0 : (((rd_T57 l0_2 x5_2).f4) == ((rd_T57 l1_2 x5_2).f4)) = true := beq_iff_eq.mpr c24
             have c24b1 : (((rd_T57 l0_2 x5_2).f4) != ((rd_T57 l1_2 x5_2).f4)) = false := bne_eq_false_iff_eq.mpr c24
             clear c24
             refine (if c25 : ((rd_T57 l0_2 x5_2).f5) = ((rd_T57 l1_2 x5_2).f5) then ?pos_c25 else ?neg_c25)
             case' neg_c25 =>
              rw [if_neg c25] at H
              have c25b0 : (((rd_T57 l0_2 x5_2).f5) == ((rd_T57 l1_2 x5_2).f5)) = false := beq_eq_false_iff_ne.mpr c25
              have c25b1 : (((rd_T57 l0_2 x5_2).f5) != ((rd_T57 l1_2 x5_2).f5)) = true := bne_iff_ne.mpr c25
              obtain rfl := Option.some.inj H
             case' pos_c25 =>
              rw [if_pos c25] at H
              have c25b0 : (((rd_T57 l0_2 x5_2).f5) == ((rd_T57 l1_2 x5_2).f5)) = true := beq_iff_eq.mpr c25
              have c25b1 : (((rd_T57 l0_2 x5_2).f5) != ((rd_T57 l1_2 x5_2).f5)) = false := bne_eq_false_iff_eq.mpr c25
              clear c25
              refine (if c26 : ((rd_T57 l0_2 x5_2).f6) = ((rd_T57 l1_2 x5_2).f6) then ?pos_c26 else ?neg_c26)
              case pos_c26 =>
               rw [if_pos c26] at H
               have c26b0 : (((rd_T57 l0_2 x5_2).f6) == ((rd_T57 l1_2 x5_2).f6)) = true := beq_iff_eq.mpr c26
               have c26b1 : (((rd_T57 l0_2 x5_2).f6) != ((rd_T57 l1_2 x5_2).f6)) = false := bne_eq_false_iff_eq.mpr c26
               clear c26
               replace H := Option.bind_eq_some_iff.mp H
               obtain ⟨t336, A270, H⟩ := H
               replace H : (if t336 = true then (postroomref11_Same.l0 k2 (wrap64 (x5_2 + 1)) a0_0 a0_1 l0_2 a1_0 a1_1 l1_2) else (some false)) = some r := H
               have A27 := Aside0.mk A270
               clear A270
               by_cases c28 : t336 = true
               ·subst c28
                have H1 : (postroomref11_Same.l0 k2 (wrap64 (x5_2 + 1)) a0_0 a0_1 l0_2 a1_0 a1_1 l1_2) = some r := by rw [if_pos rfl] at H; exact H
                clear H
                have H := H1
                clear H1
                have H' := Aside0.mk H
                clear H
                have hnb29 := NB330_331.out
                have hnc29 := NB331_330.out
                obtain ⟨hcz30_0, hcz30_1, hcz30_2, hfz30_0, hfz30_1, hfz30_2⟩ := cx23_bc3 BK330.out
                have p332 : 0 ≤ (x5_2 : Int) := of_decide_eq_true zx23_16
                have q332 : x5_2 < (l0_2.length : Int) := of_decide_eq_true zx23_16
                obtain ⟨ad332, A332_3, c332_3, e332, hx332_0, hx332_1, hx332_2, hx332_3, hx332_4, hx332_5, hx332_6, hl332_3, hi332_3⟩ := at_T57 HR0_2.out x5_2 p332 q332
                cases e332
                replace hx332_0 := (HB.out.cell (World.block_lt_of_cell? w _ hx332_0)).trans hx332_0
                replace hx332_1 := (HB.out.cell (World.block_lt_of_cell? w _ hx332_1)).trans hx332_1
                replace hx332_2 := (HB.out.cell (World.block_lt_of_cell? w _ hx332_2)).trans hx332_2
                replace hx332_3 := (HB.out.cell (World.block_lt_of_cell? w _ hx332_3)).trans hx332_3
                replace hx332_4 := (HB.out.cell (World.block_lt_of_cell? w _ hx332_4)).trans hx332_4
                replace hx332_5 := (HB.out.cell (World.block_lt_of_cell? w _ hx332_5)).trans hx332_5
                replace hx332_6 := (HB.out.cell (World.block_lt_of_cell? w _ hx332_6)).trans hx332_6
                have HR332_3 := Aside0.mk hi332_3
                have HC332_3 := Aside0.mk hl332_3
                clear hi332_3 hl332_3
                replace p332 := eq_true p332
                replace q332 := eq_true q332
                go_wp2_with (first | ((with_reducible refine gate_dst (N := 6) rfl ?_); (try (refine gate_guard (by rfl) ?_; dsimp only)); refine box_event ?hg (N := 6) ?hd (cs := #[.string (⟨#[]⟩ : ByteArray), .int .u64 0, .int .u64 0, .slice none 0 0, .int .u64 0, .int .u64 0, .int .u64 0]) (t := 57) ?hr ?_; (case hd => rfl); (case hg => rfl); (case hr => first | (go_simp; done) | (go_simp; rfl)); intro gb333 hg w31 hbox hb; have n0_ := Aside0.mk (blk_below (g := gb330) (o := .cells #[.int .u64 a0_0, .int .u64 a0_1, .slice (some ad332) l0_2.length c0_2] 30 (0, 0)) zx23_13 hb); have n1_ := Aside0.mk (blk_below (g := gb331) (o := .cells #[.int .u64 a1_0, .int .u64 a1_1, .slice A1_2 l1_2.length c1_2] 30 (0, 0)) zx23_14 hb); have n2_ := Aside0.mk (below_step zx23_12 hb); have n3_ := Aside0.mk (hbox); have n4_ := Aside0.mk ((by rw [hg]; exact (below_size zx23_12) : w.heap.size ≤ gb333)); have n5_ := Aside0.mk ((by rw [hg]; exact (below_size zx23_12) : w.heap.size ≤ gb333)); have n6_ := Aside0.mk ((by rw [hg]; exact Nat.ne_of_lt (blk_lt (g := gb330) (o := .cells #[.int .u64 a0_0, .int .u64 a0_1, .slice (some ad332) l0_2.length c0_2] 30 (0, 0)) zx23_13) : gb330 ≠ gb333)); have n7_ := Aside0.mk ((by rw [hg]; exact Nat.ne_of_gt (blk_lt (g := gb330) (o := .cells #[.int .u64 a0_0, .int .u64 a0_1, .slice (some ad332) l0_2.length c0_2] 30 (0, 0)) zx23_13) : gb333 ≠ gb330)); have n8_ := Aside0.mk ((by rw [hg]; exact Nat.ne_of_lt (blk_lt (g := gb331) (o := .cells #[.int .u64 a1_0, .int .u64 a1_1, .slice A1_2 l1_2.length c1_2] 30 (0, 0)) zx23_14) : gb331 ≠ gb333)); have n9_ := Aside0.mk ((by rw [hg]; exact Nat.ne_of_gt (blk_lt (g := gb331) (o := .cells #[.int .u64 a1_0, .int .u64 a1_1, .slice A1_2 l1_2.length c1_2] 30 (0, 0)) zx23_14) : gb333 ≠ gb331)); clear BK330; clear BK331; clear HB; have BK330 := n0_; have BK331 := n1_; have HB := n2_; have BK333 := n3_; have GW333 := n4_; have GE333 := n5_; have NB330_333 := n6_; have NB333_330 := n7_; have NB331_333 := n8_; have NB333_331 := n9_; clear n0_ n1_ n2_ n3_ n4_ n5_ n6_ n7_ n8_ n9_; clear hb hbox hg; have hnb32 := NB333_330.out; have hnc32 := NB330_333.out; have hnb33 := NB333_331.out; have hnc33 := NB331_333.out; have hcz34_0 : w31.cell? ⟨gb333, 0, none⟩ = some (.string (⟨#[]⟩ : ByteArray)) := (blk_cell BK333.out 0).trans rfl; have hcz34_1 : w31.cell? ⟨gb333, 1, none⟩ = some (.int .u64 0) := (blk_cell BK333.out 1).trans rfl; have hcz34_2 : w31.cell? ⟨gb333, 2, none⟩ = some (.int .u64 0) := (blk_cell BK333.out 2).trans rfl; have hcz34_3 : w31.cell? ⟨gb333, 3, none⟩ = some (.slice none 0 0) := (blk_cell BK333.out 3).trans rfl; have hcz34_4 : w31.cell? ⟨gb333, 4, none⟩ = some (.int .u64 0) := (blk_cell BK333.out 4).trans rfl; have hcz34_5 : w31.cell? ⟨gb333, 5, none⟩ = some (.int .u64 0) := (blk_cell BK333.out 5).trans rfl; have hcz34_6 : w31.cell? ⟨gb333, 6, none⟩ = some (.int .u64 0) := (blk_cell BK333.out 6).trans rfl; have hfz34_0 := blk_frozen BK333.out 0; have hfz34_1 := blk_frozen BK333.out 1; have hfz34_2 := blk_frozen BK333.out 2; have hfz34_3 := blk_frozen BK333.out 3; have hfz34_4 := blk_frozen BK333.out 4; have hfz34_5 := blk_frozen BK333.out 5; have hfz34_6 := blk_frozen BK333.out 6; have hcz35_0 : w31.cell? ⟨gb331, 0, none⟩ = some (.int .u64 a1_0) := (blk_cell BK331.out 0).trans rfl; have hcz35_1 : w31.cell? ⟨gb331, 1, none⟩ = some (.int .u64 a1_1) := (blk_cell BK331.out 1).trans rfl; have hcz35_2 : w31.cell? ⟨gb331, 2, none⟩ = some (.slice A1_2 l1_2.length c1_2) := (blk_cell BK331.out 2).trans rfl; have hfz35_0 := blk_frozen BK331.out 0; have hfz35_1 := blk_frozen BK331.out 1; have hfz35_2 := blk_frozen BK331.out 2; have p334 : 0 ≤ (x5_2 : Int) := of_decide_eq_true zx23_16; have q334 : x5_2 < (l1_2.length : Int) := of_decide_eq_true zx23_16; obtain ⟨ad334, A334_3, c334_3, e334, hx334_0, hx334_1, hx334_2, hx334_3, hx334_4, hx334_5, hx334_6, hl334_3, hi334_3⟩ := at_T57 HR1_2.out x5_2 p334 q334; cases e334; have hn334_0 : ad334.block ≠ gb333 := Nat.ne_of_lt (Nat.lt_of_lt_of_le zx23_11 GW333.out); have hn334_1 : ad334.block ≠ gb333 := Nat.ne_of_lt (Nat.lt_of_lt_of_le zx23_11 GW333.out); have hn334_2 : ad334.block ≠ gb333 := Nat.ne_of_lt (Nat.lt_of_lt_of_le zx23_11 GW333.out); have hn334_3 : ad334.block ≠ gb333 := Nat.ne_of_lt (Nat.lt_of_lt_of_le zx23_11 GW333.out); have hn334_4 : ad334.block ≠ gb333 := Nat.ne_of_lt (Nat.lt_of_lt_of_le zx23_11 GW333.out); have hn334_5 : ad334.block ≠ gb333 := Nat.ne_of_lt (Nat.lt_of_lt_of_le zx23_11 GW333.out); have hn334_6 : ad334.block ≠ gb333 := Nat.ne_of_lt (Nat.lt_of_lt_of_le zx23_11 GW333.out); replace hx334_0 := (HB.out.cell (World.block_lt_of_cell? w _ hx334_0)).trans hx334_0; replace hx334_1 := (HB.out.cell (World.block_lt_of_cell? w _ hx334_1)).trans hx334_1; replace hx334_2 := (HB.out.cell (World.block_lt_of_cell? w _ hx334_2)).trans hx334_2; replace hx334_3 := (HB.out.cell (World.block_lt_of_cell? w _ hx334_3)).trans hx334_3; replace hx334_4 := (HB.out.cell (World.block_lt_of_cell? w _ hx334_4)).trans hx334_4; replace hx334_5 := (HB.out.cell (World.block_lt_of_cell? w _ hx334_5)).trans hx334_5; replace hx334_6 := (HB.out.cell (World.block_lt_of_cell? w _ hx334_6)).trans hx334_6; have HR334_3 := Aside0.mk hi334_3; have HC334_3 := Aside0.mk hl334_3; clear hi334_3 hl334_3; replace hx334_0 := (cell_far (p := ⟨gb333, 0, none⟩) zx23_3 (.string ((rd_T57 l0_2 x5_2).f0))).trans hx334_0; replace hx334_1 := (cell_far (p := ⟨gb333, 0, none⟩) zx23_3 (.string ((rd_T57 l0_2 x5_2).f0))).trans hx334_1; replace hx334_2 := (cell_far (p := ⟨gb333, 0, none⟩) zx23_3 (.string ((rd_T57 l0_2 x5_2).f0))).trans hx334_2; replace hx334_3 := (cell_far (p := ⟨gb333, 0, none⟩) zx23_3 (.string ((rd_T57 l0_2 x5_2).f0))).trans hx334_3; replace hx334_4 := (cell_far (p := ⟨gb333, 0, none⟩) zx23_3 (.string ((rd_T57 l0_2 x5_2).f0))).trans hx334_4; replace hx334_5 := (cell_far (p := ⟨gb333, 0, none⟩) zx23_3 (.string ((rd_T57 l0_2 x5_2).f0))).trans hx334_5; replace hx334_6 := (cell_far (p := ⟨gb333, 0, none⟩) zx23_3 (.string ((rd_T57 l0_2 x5_2).f0))).trans hx334_6; replace hx334_0 := (cell_far (p := ⟨gb333, 1, none⟩) zx23_4 (.int .u64 ((rd_T57 l0_2 x5_2).f1))).trans hx334_0; replace hx334_1 := (cell_far (p := ⟨gb333, 1, none⟩) zx23_4 (.int .u64 ((rd_T57 l0_2 x5_2).f1))).trans hx334_1; replace hx334_2 := (cell_far (p := ⟨gb333, 1, none⟩) zx23_4 (.int .u64 ((rd_T57 l0_2 x5_2).f1))).trans hx334_2; replace hx334_3 := (cell_far (p := ⟨gb333, 1, none⟩) zx23_4 (.int .u64 ((rd_T57 l0_2 x5_2).f1))).trans hx334_3; replace hx334_4 := (cell_far (p := ⟨gb333, 1, none⟩) zx23_4 (.int .u64 ((rd_T57 l0_2 x5_2).f1))).trans hx334_4; replace hx334_5 := (cell_far (p := ⟨gb333, 1, none⟩) zx23_4 (.int .u64 ((rd_T57 l0_2 x5_2).f1))).trans hx334_5; replace hx334_6 := (cell_far (p := ⟨gb333, 1, none⟩) zx23_4 (.int .u64 ((rd_T57 l0_2 x5_2).f1))).trans hx334_6; replace hx334_0 := (cell_far (p := ⟨gb333, 2, none⟩) zx23_5 (.int .u64 ((rd_T57 l0_2 x5_2).f2))).trans hx334_0; replace hx334_1 := (cell_far (p := ⟨gb333, 2, none⟩) zx23_5 (.int .u64 ((rd_T57 l0_2 x5_2).f2))).trans hx334_1; replace hx334_2 := (cell_far (p := ⟨gb333, 2, none⟩) zx23_5 (.int .u64 ((rd_T57 l0_2 x5_2).f2))).trans hx334_2; replace hx334_3 := (cell_far (p := ⟨gb333, 2, none⟩) zx23_5 (.int .u64 ((rd_T57 l0_2 x5_2).f2))).trans hx334_3; replace hx334_4 := (cell_far (p := ⟨gb333, 2, none⟩) zx23_5 (.int .u64 ((rd_T57 l0_2 x5_2).f2))).trans hx334_4; replace hx334_5 := (cell_far (p := ⟨gb333, 2, none⟩) zx23_5 (.int .u64 ((rd_T57 l0_2 x5_2).f2))).trans hx334_5; replace hx334_6 := (cell_far (p := ⟨gb333, 2, none⟩) zx23_5 (.int .u64 ((rd_T57 l0_2 x5_2).f2))).trans hx334_6; replace hx334_0 := (cell_far (p := ⟨gb333, 3, none⟩) zx23_6 (.slice A332_3 ((rd_T57 l0_2 x5_2).f3).length c332_3)).trans hx334_0; replace hx334_1 := (cell_far (p := ⟨gb333, 3, none⟩) zx23_6 (.slice A332_3 ((rd_T57 l0_2 x5_2).f3).length c332_3)).trans hx334_1; replace hx334_2 := (cell_far (p := ⟨gb333, 3, none⟩) zx23_6 (.slice A332_3 ((rd_T57 l0_2 x5_2).f3).length c332_3)).trans hx334_2; replace hx334_3 := (cell_far (p := ⟨gb333, 3, none⟩) zx23_6 (.slice A332_3 ((rd_T57 l0_2 x5_2).f3).length c332_3)).trans hx334_3; replace hx334_4 := (cell_far (p := ⟨gb333, 3, none⟩) zx23_6 (.slice A332_3 ((rd_T57 l0_2 x5_2).f3).length c332_3)).trans hx334_4; replace hx334_5 := (cell_far (p := ⟨gb333, 3, none⟩) zx23_6 (.slice A332_3 ((rd_T57 l0_2 x5_2).f3).length c332_3)).trans hx334_5; replace hx334_6 := (cell_far (p := ⟨gb333, 3, none⟩) zx23_6 (.slice A332_3 ((rd_T57 l0_2 x5_2).f3).length c332_3)).trans hx334_6; replace hx334_0 := (cell_far (p := ⟨gb333, 4, none⟩) zx23_7 (.int .u64 ((rd_T57 l0_2 x5_2).f4))).trans hx334_0; replace hx334_1 := (cell_far (p := ⟨gb333, 4, none⟩) zx23_7 (.int .u64 ((rd_T57 l0_2 x5_2).f4))).trans hx334_1; replace hx334_2 := (cell_far (p := ⟨gb333, 4, none⟩) zx23_7 (.int .u64 ((rd_T57 l0_2 x5_2).f4))).trans hx334_2; replace hx334_3 := (cell_far (p := ⟨gb333, 4, none⟩) zx23_7 (.int .u64 ((rd_T57 l0_2 x5_2).f4))).trans hx334_3; replace hx334_4 := (cell_far (p := ⟨gb333, 4, none⟩) zx23_7 (.int .u64 ((rd_T57 l0_2 x5_2).f4))).trans hx334_4; replace hx334_5 := (cell_far (p := ⟨gb333, 4, none⟩) zx23_7 (.int .u64 ((rd_T57 l0_2 x5_2).f4))).trans hx334_5; replace hx334_6 := (cell_far (p := ⟨gb333, 4, none⟩) zx23_7 (.int .u64 ((rd_T57 l0_2 x5_2).f4))).trans hx334_6; replace hx334_0 := (cell_far (p := ⟨gb333, 5, none⟩) zx23_8 (.int .u64 ((rd_T57 l0_2 x5_2).f5))).trans hx334_0; replace hx334_1 := (cell_far (p := ⟨gb333, 5, none⟩) zx23_8 (.int .u64 ((rd_T57 l0_2 x5_2).f5))).trans hx334_1; replace hx334_2 := (cell_far (p := ⟨gb333, 5, none⟩) zx23_8 (.int .u64 ((rd_T57 l0_2 x5_2).f5))).trans hx334_2; replace hx334_3 := (cell_far (p := ⟨gb333, 5, none⟩) zx23_8 (.int .u64 ((rd_T57 l0_2 x5_2).f5))).trans hx334_3; replace hx334_4 := (cell_far (p := ⟨gb333, 5, none⟩) zx23_8 (.int .u64 ((rd_T57 l0_2 x5_2).f5))).trans hx334_4; replace hx334_5 := (cell_far (p := ⟨gb333, 5, none⟩) zx23_8 (.int .u64 ((rd_T57 l0_2 x5_2).f5))).trans hx334_5; replace hx334_6 := (cell_far (p := ⟨gb333, 5, none⟩) zx23_8 (.int .u64 ((rd_T57 l0_2 x5_2).f5))).trans hx334_6; replace hx334_0 := (cell_far (p := ⟨gb333, 6, none⟩) zx23_9 (.int .u64 ((rd_T57 l0_2 x5_2).f6))).trans hx334_0; replace hx334_1 := (cell_far (p := ⟨gb333, 6, none⟩) zx23_9 (.int .u64 ((rd_T57 l0_2 x5_2).f6))).trans hx334_1; replace hx334_2 := (cell_far (p := ⟨gb333, 6, none⟩) zx23_9 (.int .u64 ((rd_T57 l0_2 x5_2).f6))).trans hx334_2; replace hx334_3 := (cell_far (p := ⟨gb333, 6, none⟩) zx23_9 (.int .u64 ((rd_T57 l0_2 x5_2).f6))).trans hx334_3; replace hx334_4 := (cell_far (p := ⟨gb333, 6, none⟩) zx23_9 (.int .u64 ((rd_T57 l0_2 x5_2).f6))).trans hx334_4; replace hx334_5 := (cell_far (p := ⟨gb333, 6, none⟩) zx23_9 (.int .u64 ((rd_T57 l0_2 x5_2).f6))).trans hx334_5; replace hx334_6 := (cell_far (p := ⟨gb333, 6, none⟩) zx23_9 (.int .u64 ((rd_T57 l0_2 x5_2).f6))).trans hx334_6; clear hn334_0; clear hn334_1; clear hn334_2; clear hn334_3; clear hn334_4; clear hn334_5; clear hn334_6; replace p334 := eq_true p334; replace q334 := eq_true q334) | ((with_reducible refine gate_dst (N := 7) rfl ?_); (try (refine gate_guard (by rfl) ?_; dsimp only)); refine box_event ?hg (N := 7) ?hd (cs := #[.string (⟨#[]⟩ : ByteArray), .int .u64 0, .int .u64 0, .slice none 0 0, .int .u64 0, .int .u64 0, .int .u64 0]) (t := 57) ?hr ?_; (case hd => rfl); (case hg => rfl); (case hr => first | (go_simp; done) | (go_simp; rfl)); intro gb335 hg w36 hbox hb; have n0_ := Aside0.mk (blk_below (g := gb330) (o := .cells #[.int .u64 a0_0, .int .u64 a0_1, .slice (some ad332) l0_2.length c0_2] 30 (0, 0)) zx23_1 hb); have n1_ := Aside0.mk (blk_below (g := gb331) (o := .cells #[.int .u64 a1_0, .int .u64 a1_1, .slice (some ad334) l1_2.length c1_2] 30 (0, 0)) zx23_2 hb); have n2_ := Aside0.mk (blk_below (g := gb333) (o := .cells #[.string ((rd_T57 l0_2 x5_2).f0), .int .u64 ((rd_T57 l0_2 x5_2).f1), .int .u64 ((rd_T57 l0_2 x5_2).f2), .slice A332_3 ((rd_T57 l0_2 x5_2).f3).length c332_3, .int .u64 ((rd_T57 l0_2 x5_2).f4), .int .u64 ((rd_T57 l0_2 x5_2).f5), .int .u64 ((rd_T57 l0_2 x5_2).f6)] 57 (0, 0)) zx23_0 hb); have n3_ := Aside0.mk (below_step zx23_10 hb); have n4_ := Aside0.mk (hbox); have n5_ := Aside0.mk ((by rw [hg]; exact (below_size zx23_10) : w.heap.size ≤ gb335)); have n6_ := Aside0.mk ((by rw [hg]; exact (below_size zx23_10) : w.heap.size ≤ gb335)); have n7_ := Aside0.mk ((by rw [hg]; exact Nat.ne_of_lt (blk_lt (g := gb330) (o := .cells #[.int .u64 a0_0, .int .u64 a0_1, .slice (some ad332) l0_2.length c0_2] 30 (0, 0)) zx23_1) : gb330 ≠ gb335)); have n8_ := Aside0.mk ((by rw [hg]; exact Nat.ne_of_gt (blk_lt (g := gb330) (o := .cells #[.int .u64 a0_0, .int .u64 a0_1, .slice (some ad332) l0_2.length c0_2] 30 (0, 0)) zx23_1) : gb335 ≠ gb330)); have n9_ := Aside0.mk ((by rw [hg]; exact Nat.ne_of_lt (blk_lt (g := gb331) (o := .cells #[.int .u64 a1_0, .int .u64 a1_1, .slice (some ad334) l1_2.length c1_2] 30 (0, 0)) zx23_2) : gb331 ≠ gb335)); have n10_ := Aside0.mk ((by rw [hg]; exact Nat.ne_of_gt (blk_lt (g := gb331) (o := .cells #[.int .u64 a1_0, .int .u64 a1_1, .slice (some ad334) l1_2.length c1_2] 30 (0, 0)) zx23_2) : gb335 ≠ gb331)); have n11_ := Aside0.mk ((by rw [hg]; exact Nat.ne_of_lt (blk_lt (g := gb333) (o := .cells #[.string ((rd_T57 l0_2 x5_2).f0), .int .u64 ((rd_T57 l0_2 x5_2).f1), .int .u64 ((rd_T57 l0_2 x5_2).f2), .slice A332_3 ((rd_T57 l0_2 x5_2).f3).length c332_3, .int .u64 ((rd_T57 l0_2 x5_2).f4), .int .u64 ((rd_T57 l0_2 x5_2).f5), .int .u64 ((rd_T57 l0_2 x5_2).f6)] 57 (0, 0)) zx23_0) : gb333 ≠ gb335)); have n12_ := Aside0.mk ((by rw [hg]; exact Nat.ne_of_gt (blk_lt (g := gb333) (o := .cells #[.string ((rd_T57 l0_2 x5_2).f0), .int .u64 ((rd_T57 l0_2 x5_2).f1), .int .u64 ((rd_T57 l0_2 x5_2).f2), .slice A332_3 ((rd_T57 l0_2 x5_2).f3).length c332_3, .int .u64 ((rd_T57 l0_2 x5_2).f4), .int .u64 ((rd_T57 l0_2 x5_2).f5), .int .u64 ((rd_T57 l0_2 x5_2).f6)] 57 (0, 0)) zx23_0) : gb335 ≠ gb333)); clear BK330; clear BK331; clear BK333; clear HB; have BK330 := n0_; have BK331 := n1_; have BK333 := n2_; have HB := n3_; have BK335 := n4_; have GW335 := n5_; have GE335 := n6_; have NB330_335 := n7_; have NB335_330 := n8_; have NB331_335 := n9_; have NB335_331 := n10_; have NB333_335 := n11_; have NB335_333 := n12_; clear n0_ n1_ n2_ n3_ n4_ n5_ n6_ n7_ n8_ n9_ n10_ n11_ n12_; clear hb hbox hg; have hnb37 := NB335_330.out; have hnc37 := NB330_335.out; have hnb38 := NB335_331.out; have hnc38 := NB331_335.out; have hnb39 := NB335_333.out; have hnc39 := NB333_335.out; have hcz40_0 : w36.cell? ⟨gb335, 0, none⟩ = some (.string (⟨#[]⟩ : ByteArray)) := (blk_cell BK335.out 0).trans rfl; have hcz40_1 : w36.cell? ⟨gb335, 1, none⟩ = some (.int .u64 0) := (blk_cell BK335.out 1).trans rfl; have hcz40_2 : w36.cell? ⟨gb335, 2, none⟩ = some (.int .u64 0) := (blk_cell BK335.out 2).trans rfl; have hcz40_3 : w36.cell? ⟨gb335, 3, none⟩ = some (.slice none 0 0) := (blk_cell BK335.out 3).trans rfl; have hcz40_4 : w36.cell? ⟨gb335, 4, none⟩ = some (.int .u64 0) := (blk_cell BK335.out 4).trans rfl; have hcz40_5 : w36.cell? ⟨gb335, 5, none⟩ = some (.int .u64 0) := (blk_cell BK335.out 5).trans rfl; have hcz40_6 : w36.cell? ⟨gb335, 6, none⟩ = some (.int .u64 0) := (blk_cell BK335.out 6).trans rfl; have hfz40_0 := blk_frozen BK335.out 0; have hfz40_1 := blk_frozen BK335.out 1; have hfz40_2 := blk_frozen BK335.out 2; have hfz40_3 := blk_frozen BK335.out 3; have hfz40_4 := blk_frozen BK335.out 4; have hfz40_5 := blk_frozen BK335.out 5; have hfz40_6 := blk_frozen BK335.out 6; have hcz41_0 : w36.cell? ⟨gb333, 0, none⟩ = some (.string ((rd_T57 l0_2 x5_2).f0)) := (blk_cell BK333.out 0).trans rfl; have hcz41_1 : w36.cell? ⟨gb333, 1, none⟩ = some (.int .u64 ((rd_T57 l0_2 x5_2).f1)) := (blk_cell BK333.out 1).trans rfl; have hcz41_2 : w36.cell? ⟨gb333, 2, none⟩ = some (.int .u64 ((rd_T57 l0_2 x5_2).f2)) := (blk_cell BK333.out 2).trans rfl; have hcz41_3 : w36.cell? ⟨gb333, 3, none⟩ = some (.slice A332_3 ((rd_T57 l0_2 x5_2).f3).length c332_3) := (blk_cell BK333.out 3).trans rfl; have hcz41_4 : w36.cell? ⟨gb333, 4, none⟩ = some (.int .u64 ((rd_T57 l0_2 x5_2).f4)) := (blk_cell BK333.out 4).trans rfl; have hcz41_5 : w36.cell? ⟨gb333, 5, none⟩ = some (.int .u64 ((rd_T57 l0_2 x5_2).f5)) := (blk_cell BK333.out 5).trans rfl; have hcz41_6 : w36.cell? ⟨gb333, 6, none⟩ = some (.int .u64 ((rd_T57 l0_2 x5_2).f6)) := (blk_cell BK333.out 6).trans rfl; have hfz41_0 := blk_frozen BK333.out 0; have hfz41_1 := blk_frozen BK333.out 1; have hfz41_2 := blk_frozen BK333.out 2; have hfz41_3 := blk_frozen BK333.out 3; have hfz41_4 := blk_frozen BK333.out 4; have hfz41_5 := blk_frozen BK333.out 5; have hfz41_6 := blk_frozen BK333.out 6) | (go_at_call 34; (with_reducible refine (postroomref11_sameInts.calls k2 _ _ ((rd_T57 l0_2 x5_2).f3) _ _ ((rd_T57 l1_2 x5_2).f3) true _ ?side1 ?side2 ?side3 ?side4 A27.out).mono ?_); (case side1 => exact Kd.C_below HR332_3.out zx23_15); (case side2 => exact HC332_3.out); (case side3 => exact Kd.C_below HR334_3.out zx23_15); (case side4 => exact HC334_3.out); rintro e w' ⟨rfl, ⟨nd, rfl⟩⟩))
                go_roundg k2
                case measure => have := HJ2.out; have := HK2.out; omega
                case rel => exact ⟨(wrap64 (x5_2 + 1)), (by first | rfl | (simp; done) | (simp [*]; done)), H', ⟨by have := HJ2.out; have := HK2.out; omega⟩, ⟨by (with_reducible repeat (first | refine blk_drewN ?_ _ | refine blk_drew ?_ | refine blk_alloc ?_ _)); refine blk_far ?_ NB330_335.out _; (with_reducible repeat (first | refine blk_drewN ?_ _ | refine blk_drew ?_ | refine blk_alloc ?_ _)); refine blk_far ?_ NB330_335.out _; (with_reducible repeat (first | refine blk_drewN ?_ _ | refine blk_drew ?_ | refine blk_alloc ?_ _)); refine blk_far ?_ NB330_335.out _; (with_reducible repeat (first | refine blk_drewN ?_ _ | refine blk_drew ?_ | refine blk_alloc ?_ _)); refine blk_far ?_ NB330_335.out _; (with_reducible repeat (first | refine blk_drewN ?_ _ | refine blk_drew ?_ | refine blk_alloc ?_ _)); refine blk_far ?_ NB330_335.out _; (with_reducible repeat (first | refine blk_drewN ?_ _ | refine blk_drew ?_ | refine blk_alloc ?_ _)); refine blk_far ?_ NB330_335.out _; (with_reducible repeat (first | refine blk_drewN ?_ _ | refine blk_drew ?_ | refine blk_alloc ?_ _)); refine blk_far ?_ NB330_335.out _; (with_reducible repeat (first | refine blk_drewN ?_ _ | refine blk_drew ?_ | refine blk_alloc ?_ _)); exact BK330.out⟩, ⟨by (with_reducible repeat (first | refine blk_drewN ?_ _ | refine blk_drew ?_ | refine blk_alloc ?_ _)); refine blk_far ?_ NB331_335.out _; (with_reducible repeat (first | refine blk_drewN ?_ _ | refine blk_drew ?_ | refine blk_alloc ?_ _)); refine blk_far ?_ NB331_335.out _; (with_reducible repeat (first | refine blk_drewN ?_ _ | refine blk_drew ?_ | refine blk_alloc ?_ _)); refine blk_far ?_ NB331_335.out _; (with_reducible repeat (first | refine blk_drewN ?_ _ | refine blk_drew ?_ | refine blk_alloc ?_ _)); refine blk_far ?_ NB331_335.out _; (with_reducible repeat (first | refine blk_drewN ?_ _ | refine blk_drew ?_ | refine blk_alloc ?_ _)); refine blk_far ?_ NB331_335.out _; (with_reducible repeat (first | refine blk_drewN ?_ _ | refine blk_drew ?_ | refine blk_alloc ?_ _)); refine blk_far ?_ NB331_335.out _; (with_reducible repeat (first | refine blk_drewN ?_ _ | refine blk_drew ?_ | refine blk_alloc ?_ _)); refine blk_far ?_ NB331_335.out _; (with_reducible repeat (first | refine blk_drewN ?_ _ | refine blk_drew ?_ | refine blk_alloc ?_ _)); exact BK331.out⟩, ⟨by repeat (first | (with_reducible first | exact HB.out | apply below_alloc | apply pw_below_drewN | apply below_drew1 | refine below_set ?_ GE330.out | refine below_set ?_ GE331.out | refine below_set ?_ GE333.out | refine below_set ?_ GE335.out) | exact HB.out)⟩⟩
               ·replace c28 := Bool.eq_false_iff.mpr c28
                subst c28
                have H1 : (some false) = some r := by rw [if_neg (show ¬ (false = true) by decide)] at H; exact H
                clear H
                have H := H1
                clear H1
                obtain rfl := Option.some.inj H
                have hnb42 := NB330_331.out
                have hnc42 := NB331_330.out
                obtain ⟨hcz43_0, hcz43_1, hcz43_2, hfz43_0, hfz43_1, hfz43_2⟩ := cx23_bc3 BK330.out
                have p332 : 0 ≤ (x5_2 : Int) := of_decide_eq_true zx23_16
                have q332 : x5_2 < (l0_2.length : Int) := of_decide_eq_true zx23_16
                obtain ⟨ad332, A332_3, c332_3, e332, hx332_0, hx332_1, hx332_2, hx332_3, hx332_4, hx332_5, hx332_6, hl332_3, hi332_3⟩ := at_T57 HR0_2.out x5_2 p332 q332
                cases e332
                replace hx332_0 := (HB.out.cell (World.block_lt_of_cell? w _ hx332_0)).trans hx332_0
                replace hx332_1 := (HB.out.cell (World.block_lt_of_cell? w _ hx332_1)).trans hx332_1
                replace hx332_2 := (HB.out.cell (World.block_lt_of_cell? w _ hx332_2)).trans hx332_2
                replace hx332_3 := (HB.out.cell (World.block_lt_of_cell? w _ hx332_3)).trans hx332_3
                replace hx332_4 := (HB.out.cell (World.block_lt_of_cell? w _ hx332_4)).trans hx332_4
                replace hx332_5 := (HB.out.cell (World.block_lt_of_cell? w _ hx332_5)).trans hx332_5
                replace hx332_6 := (HB.out.cell (World.block_lt_of_cell? w _ hx332_6)).trans hx332_6
                have HR332_3 := Aside0.mk hi332_3
                have HC332_3 := Aside0.mk hl332_3
                clear hi332_3 hl332_3
                replace p332 := eq_true p332
                replace q332 := eq_true q332
                go_wp2_with (first | ((with_reducible refine gate_dst (N := 6) rfl ?_); (try (refine gate_guard (by rfl) ?_; dsimp only)); refine box_event ?hg (N := 6) ?hd (cs := #[.string (⟨#[]⟩ : ByteArray), .int .u64 0, .int .u64 0, .slice none 0 0, .int .u64 0, .int .u64 0, .int .u64 0]) (t := 57) ?hr ?_; (case hd => rfl); (case hg => rfl); (case hr => first | (go_simp; done) | (go_simp; rfl)); intro gb333 hg w44 hbox hb; have n0_ := Aside0.mk (blk_below (g := gb330) (o := .cells #[.int .u64 a0_0, .int .u64 a0_1, .slice (some ad332) l0_2.length c0_2] 30 (0, 0)) zx23_13 hb); have n1_ := Aside0.mk (blk_below (g := gb331) (o := .cells #[.int .u64 a1_0, .int .u64 a1_1, .slice A1_2 l1_2.length c1_2] 30 (0, 0)) zx23_14 hb); have n2_ := Aside0.mk (below_step zx23_12 hb); have n3_ := Aside0.mk (hbox); have n4_ := Aside0.mk ((by rw [hg]; exact (below_size zx23_12) : w.heap.size ≤ gb333)); have n5_ := Aside0.mk ((by rw [hg]; exact (below_size zx23_12) : w.heap.size ≤ gb333)); have n6_ := Aside0.mk ((by rw [hg]; exact Nat.ne_of_lt (blk_lt (g := gb330) (o := .cells #[.int .u64 a0_0, .int .u64 a0_1, .slice (some ad332) l0_2.length c0_2] 30 (0, 0)) zx23_13) : gb330 ≠ gb333)); have n7_ := Aside0.mk ((by rw [hg]; exact Nat.ne_of_gt (blk_lt (g := gb330) (o := .cells #[.int .u64 a0_0, .int .u64 a0_1, .slice (some ad332) l0_2.length c0_2] 30 (0, 0)) zx23_13) : gb333 ≠ gb330)); have n8_ := Aside0.mk ((by rw [hg]; exact Nat.ne_of_lt (blk_lt (g := gb331) (o := .cells #[.int .u64 a1_0, .int .u64 a1_1, .slice A1_2 l1_2.length c1_2] 30 (0, 0)) zx23_14) : gb331 ≠ gb333)); have n9_ := Aside0.mk ((by rw [hg]; exact Nat.ne_of_gt (blk_lt (g := gb331) (o := .cells #[.int .u64 a1_0, .int .u64 a1_1, .slice A1_2 l1_2.length c1_2] 30 (0, 0)) zx23_14) : gb333 ≠ gb331)); clear BK330; clear BK331; clear HB; have BK330 := n0_; have BK331 := n1_; have HB := n2_; have BK333 := n3_; have GW333 := n4_; have GE333 := n5_; have NB330_333 := n6_; have NB333_330 := n7_; have NB331_333 := n8_; have NB333_331 := n9_; clear n0_ n1_ n2_ n3_ n4_ n5_ n6_ n7_ n8_ n9_; clear hb hbox hg; have hnb45 := NB333_330.out; have hnc45 := NB330_333.out; have hnb46 := NB333_331.out; have hnc46 := NB331_333.out; have hcz47_0 : w44.cell? ⟨gb333, 0, none⟩ = some (.string (⟨#[]⟩ : ByteArray)) := (blk_cell BK333.out 0).trans rfl; have hcz47_1 : w44.cell? ⟨gb333, 1, none⟩ = some (.int .u64 0) := (blk_cell BK333.out 1).trans rfl; have hcz47_2 : w44.cell? ⟨gb333, 2, none⟩ = some (.int .u64 0) := (blk_cell BK333.out 2).trans rfl; have hcz47_3 : w44.cell? ⟨gb333, 3, none⟩ = some (.slice none 0 0) := (blk_cell BK333.out 3).trans rfl; have hcz47_4 : w44.cell? ⟨gb333, 4, none⟩ = some (.int .u64 0) := (blk_cell BK333.out 4).trans rfl; have hcz47_5 : w44.cell? ⟨gb333, 5, none⟩ = some (.int .u64 0) := (blk_cell BK333.out 5).trans rfl; have hcz47_6 : w44.cell? ⟨gb333, 6, none⟩ = some (.int .u64 0) := (blk_cell BK333.out 6).trans rfl; have hfz47_0 := blk_frozen BK333.out 0; have hfz47_1 := blk_frozen BK333.out 1; have hfz47_2 := blk_frozen BK333.out 2; have hfz47_3 := blk_frozen BK333.out 3; have hfz47_4 := blk_frozen BK333.out 4; have hfz47_5 := blk_frozen BK333.out 5; have hfz47_6 := blk_frozen BK333.out 6; have hcz48_0 : w44.cell? ⟨gb331, 0, none⟩ = some (.int .u64 a1_0) := (blk_cell BK331.out 0).trans rfl; have hcz48_1 : w44.cell? ⟨gb331, 1, none⟩ = some (.int .u64 a1_1) := (blk_cell BK331.out 1).trans rfl; have hcz48_2 : w44.cell? ⟨gb331, 2, none⟩ = some (.slice A1_2 l1_2.length c1_2) := (blk_cell BK331.out 2).trans rfl; have hfz48_0 := blk_frozen BK331.out 0; have hfz48_1 := blk_frozen BK331.out 1; have hfz48_2 := blk_frozen BK331.out 2; have p334 : 0 ≤ (x5_2 : Int) := of_decide_eq_true zx23_16; have q334 : x5_2 < (l1_2.length : Int) := of_decide_eq_true zx23_16; obtain ⟨ad334, A334_3, c334_3, e334, hx334_0, hx334_1, hx334_2, hx334_3, hx334_4, hx334_5, hx334_6, hl334_3, hi334_3⟩ := at_T57 HR1_2.out x5_2 p334 q334; cases e334; have hn334_0 : ad334.block ≠ gb333 := Nat.ne_of_lt (Nat.lt_of_lt_of_le zx23_11 GW333.out); have hn334_1 : ad334.block ≠ gb333 := Nat.ne_of_lt (Nat.lt_of_lt_of_le zx23_11 GW333.out); have hn334_2 : ad334.block ≠ gb333 := Nat.ne_of_lt (Nat.lt_of_lt_of_le zx23_11 GW333.out); have hn334_3 : ad334.block ≠ gb333 := Nat.ne_of_lt (Nat.lt_of_lt_of_le zx23_11 GW333.out); have hn334_4 : ad334.block ≠ gb333 := Nat.ne_of_lt (Nat.lt_of_lt_of_le zx23_11 GW333.out); have hn334_5 : ad334.block ≠ gb333 := Nat.ne_of_lt (Nat.lt_of_lt_of_le zx23_11 GW333.out); have hn334_6 : ad334.block ≠ gb333 := Nat.ne_of_lt (Nat.lt_of_lt_of_le zx23_11 GW333.out); replace hx334_0 := (HB.out.cell (World.block_lt_of_cell? w _ hx334_0)).trans hx334_0; replace hx334_1 := (HB.out.cell (World.block_lt_of_cell? w _ hx334_1)).trans hx334_1; replace hx334_2 := (HB.out.cell (World.block_lt_of_cell? w _ hx334_2)).trans hx334_2; replace hx334_3 := (HB.out.cell (World.block_lt_of_cell? w _ hx334_3)).trans hx334_3; replace hx334_4 := (HB.out.cell (World.block_lt_of_cell? w _ hx334_4)).trans hx334_4; replace hx334_5 := (HB.out.cell (World.block_lt_of_cell? w _ hx334_5)).trans hx334_5; replace hx334_6 := (HB.out.cell (World.block_lt_of_cell? w _ hx334_6)).trans hx334_6; have HR334_3 := Aside0.mk hi334_3; have HC334_3 := Aside0.mk hl334_3; clear hi334_3 hl334_3; replace hx334_0 := (cell_far (p := ⟨gb333, 0, none⟩) zx23_3 (.string ((rd_T57 l0_2 x5_2).f0))).trans hx334_0; replace hx334_1 := (cell_far (p := ⟨gb333, 0, none⟩) zx23_3 (.string ((rd_T57 l0_2 x5_2).f0))).trans hx334_1; replace hx334_2 := (cell_far (p := ⟨gb333, 0, none⟩) zx23_3 (.string ((rd_T57 l0_2 x5_2).f0))).trans hx334_2; replace hx334_3 := (cell_far (p := ⟨gb333, 0, none⟩) zx23_3 (.string ((rd_T57 l0_2 x5_2).f0))).trans hx334_3; replace hx334_4 := (cell_far (p := ⟨gb333, 0, none⟩) zx23_3 (.string ((rd_T57 l0_2 x5_2).f0))).trans hx334_4; replace hx334_5 := (cell_far (p := ⟨gb333, 0, none⟩) zx23_3 (.string ((rd_T57 l0_2 x5_2).f0))).trans hx334_5; replace hx334_6 := (cell_far (p := ⟨gb333, 0, none⟩) zx23_3 (.string ((rd_T57 l0_2 x5_2).f0))).trans hx334_6; replace hx334_0 := (cell_far (p := ⟨gb333, 1, none⟩) zx23_4 (.int .u64 ((rd_T57 l0_2 x5_2).f1))).trans hx334_0; replace hx334_1 := (cell_far (p := ⟨gb333, 1, none⟩) zx23_4 (.int .u64 ((rd_T57 l0_2 x5_2).f1))).trans hx334_1; replace hx334_2 := (cell_far (p := ⟨gb333, 1, none⟩) zx23_4 (.int .u64 ((rd_T57 l0_2 x5_2).f1))).trans hx334_2; replace hx334_3 := (cell_far (p := ⟨gb333, 1, none⟩) zx23_4 (.int .u64 ((rd_T57 l0_2 x5_2).f1))).trans hx334_3; replace hx334_4 := (cell_far (p := ⟨gb333, 1, none⟩) zx23_4 (.int .u64 ((rd_T57 l0_2 x5_2).f1))).trans hx334_4; replace hx334_5 := (cell_far (p := ⟨gb333, 1, none⟩) zx23_4 (.int .u64 ((rd_T57 l0_2 x5_2).f1))).trans hx334_5; replace hx334_6 := (cell_far (p := ⟨gb333, 1, none⟩) zx23_4 (.int .u64 ((rd_T57 l0_2 x5_2).f1))).trans hx334_6; replace hx334_0 := (cell_far (p := ⟨gb333, 2, none⟩) zx23_5 (.int .u64 ((rd_T57 l0_2 x5_2).f2))).trans hx334_0; replace hx334_1 := (cell_far (p := ⟨gb333, 2, none⟩) zx23_5 (.int .u64 ((rd_T57 l0_2 x5_2).f2))).trans hx334_1; replace hx334_2 := (cell_far (p := ⟨gb333, 2, none⟩) zx23_5 (.int .u64 ((rd_T57 l0_2 x5_2).f2))).trans hx334_2; replace hx334_3 := (cell_far (p := ⟨gb333, 2, none⟩) zx23_5 (.int .u64 ((rd_T57 l0_2 x5_2).f2))).trans hx334_3; replace hx334_4 := (cell_far (p := ⟨gb333, 2, none⟩) zx23_5 (.int .u64 ((rd_T57 l0_2 x5_2).f2))).trans hx334_4; replace hx334_5 := (cell_far (p := ⟨gb333, 2, none⟩) zx23_5 (.int .u64 ((rd_T57 l0_2 x5_2).f2))).trans hx334_5; replace hx334_6 := (cell_far (p := ⟨gb333, 2, none⟩) zx23_5 (.int .u64 ((rd_T57 l0_2 x5_2).f2))).trans hx334_6; replace hx334_0 := (cell_far (p := ⟨gb333, 3, none⟩) zx23_6 (.slice A332_3 ((rd_T57 l0_2 x5_2).f3).length c332_3)).trans hx334_0; replace hx334_1 := (cell_far (p := ⟨gb333, 3, none⟩) zx23_6 (.slice A332_3 ((rd_T57 l0_2 x5_2).f3).length c332_3)).trans hx334_1; replace hx334_2 := (cell_far (p := ⟨gb333, 3, none⟩) zx23_6 (.slice A332_3 ((rd_T57 l0_2 x5_2).f3).length c332_3)).trans hx334_2; replace hx334_3 := (cell_far (p := ⟨gb333, 3, none⟩) zx23_6 (.slice A332_3 ((rd_T57 l0_2 x5_2).f3).length c332_3)).trans hx334_3; replace hx334_4 := (cell_far (p := ⟨gb333, 3, none⟩) zx23_6 (.slice A332_3 ((rd_T57 l0_2 x5_2).f3).length c332_3)).trans hx334_4; replace hx334_5 := (cell_far (p := ⟨gb333, 3, none⟩) zx23_6 (.slice A332_3 ((rd_T57 l0_2 x5_2).f3).length c332_3)).trans hx334_5; replace hx334_6 := (cell_far (p := ⟨gb333, 3, none⟩) zx23_6 (.slice A332_3 ((rd_T57 l0_2 x5_2).f3).length c332_3)).trans hx334_6; replace hx334_0 := (cell_far (p := ⟨gb333, 4, none⟩) zx23_7 (.int .u64 ((rd_T57 l0_2 x5_2).f4))).trans hx334_0; replace hx334_1 := (cell_far (p := ⟨gb333, 4, none⟩) zx23_7 (.int .u64 ((rd_T57 l0_2 x5_2).f4))).trans hx334_1; replace hx334_2 := (cell_far (p := ⟨gb333, 4, none⟩) zx23_7 (.int .u64 ((rd_T57 l0_2 x5_2).f4))).trans hx334_2; replace hx334_3 := (cell_far (p := ⟨gb333, 4, none⟩) zx23_7 (.int .u64 ((rd_T57 l0_2 x5_2).f4))).trans hx334_3; replace hx334_4 := (cell_far (p := ⟨gb333, 4, none⟩) zx23_7 (.int .u64 ((rd_T57 l0_2 x5_2).f4))).trans hx334_4; replace hx334_5 := (cell_far (p := ⟨gb333, 4, none⟩) zx23_7 (.int .u64 ((rd_T57 l0_2 x5_2).f4))).trans hx334_5; replace hx334_6 := (cell_far (p := ⟨gb333, 4, none⟩) zx23_7 (.int .u64 ((rd_T57 l0_2 x5_2).f4))).trans hx334_6; replace hx334_0 := (cell_far (p := ⟨gb333, 5, none⟩) zx23_8 (.int .u64 ((rd_T57 l0_2 x5_2).f5))).trans hx334_0; replace hx334_1 := (cell_far (p := ⟨gb333, 5, none⟩) zx23_8 (.int .u64 ((rd_T57 l0_2 x5_2).f5))).trans hx334_1; replace hx334_2 := (cell_far (p := ⟨gb333, 5, none⟩) zx23_8 (.int .u64 ((rd_T57 l0_2 x5_2).f5))).trans hx334_2; replace hx334_3 := (cell_far (p := ⟨gb333, 5, none⟩) zx23_8 (.int .u64 ((rd_T57 l0_2 x5_2).f5))).trans hx334_3; replace hx334_4 := (cell_far (p := ⟨gb333, 5, none⟩) zx23_8 (.int .u64 ((rd_T57 l0_2 x5_2).f5))).trans hx334_4; replace hx334_5 := (cell_far (p := ⟨gb333, 5, none⟩) zx23_8 (.int .u64 ((rd_T57 l0_2 x5_2).f5))).trans hx334_5; replace hx334_6 := (cell_far (p := ⟨gb333, 5, none⟩) zx23_8 (.int .u64 ((rd_T57 l0_2 x5_2).f5))).trans hx334_6; replace hx334_0 := (cell_far (p := ⟨gb333, 6, none⟩) zx23_9 (.int .u64 ((rd_T57 l0_2 x5_2).f6))).trans hx334_0; replace hx334_1 := (cell_far (p := ⟨gb333, 6, none⟩) zx23_9 (.int .u64 ((rd_T57 l0_2 x5_2).f6))).trans hx334_1; replace hx334_2 := (cell_far (p := ⟨gb333, 6, none⟩) zx23_9 (.int .u64 ((rd_T57 l0_2 x5_2).f6))).trans hx334_2; replace hx334_3 := (cell_far (p := ⟨gb333, 6, none⟩) zx23_9 (.int .u64 ((rd_T57 l0_2 x5_2).f6))).trans hx334_3; replace hx334_4 := (cell_far (p := ⟨gb333, 6, none⟩) zx23_9 (.int .u64 ((rd_T57 l0_2 x5_2).f6))).trans hx334_4; replace hx334_5 := (cell_far (p := ⟨gb333, 6, none⟩) zx23_9 (.int .u64 ((rd_T57 l0_2 x5_2).f6))).trans hx334_5; replace hx334_6 := (cell_far (p := ⟨gb333, 6, none⟩) zx23_9 (.int .u64 ((rd_T57 l0_2 x5_2).f6))).trans hx334_6; clear hn334_0; clear hn334_1; clear hn334_2; clear hn334_3; clear hn334_4; clear hn334_5; clear hn334_6; replace p334 := eq_true p334; replace q334 := eq_true q334) | ((with_reducible refine gate_dst (N := 7) rfl ?_); (try (refine gate_guard (by rfl) ?_; dsimp only)); refine box_event ?hg (N := 7) ?hd (cs := #[.string (⟨#[]⟩ : ByteArray), .int .u64 0, .int .u64 0, .slice none 0 0, .int .u64 0, .int .u64 0, .int .u64 0]) (t := 57) ?hr ?_; (case hd => rfl); (case hg => rfl); (case hr => first | (go_simp; done) | (go_simp; rfl)); intro gb335 hg w49 hbox hb; have n0_ := Aside0.mk (blk_below (g := gb330) (o := .cells #[.int .u64 a0_0, .int .u64 a0_1, .slice (some ad332) l0_2.length c0_2] 30 (0, 0)) zx23_1 hb); have n1_ := Aside0.mk (blk_below (g := gb331) (o := .cells #[.int .u64 a1_0, .int .u64 a1_1, .slice (some ad334) l1_2.length c1_2] 30 (0, 0)) zx23_2 hb); have n2_ := Aside0.mk (blk_below (g := gb333) (o := .cells #[.string ((rd_T57 l0_2 x5_2).f0), .int .u64 ((rd_T57 l0_2 x5_2).f1), .int .u64 ((rd_T57 l0_2 x5_2).f2), .slice A332_3 ((rd_T57 l0_2 x5_2).f3).length c332_3, .int .u64 ((rd_T57 l0_2 x5_2).f4), .int .u64 ((rd_T57 l0_2 x5_2).f5), .int .u64 ((rd_T57 l0_2 x5_2).f6)] 57 (0, 0)) zx23_0 hb); have n3_ := Aside0.mk (below_step zx23_10 hb); have n4_ := Aside0.mk (hbox); have n5_ := Aside0.mk ((by rw [hg]; exact (below_size zx23_10) : w.heap.size ≤ gb335)); have n6_ := Aside0.mk ((by rw [hg]; exact (below_size zx23_10) : w.heap.size ≤ gb335)); have n7_ := Aside0.mk ((by rw [hg]; exact Nat.ne_of_lt (blk_lt (g := gb330) (o := .cells #[.int .u64 a0_0, .int .u64 a0_1, .slice (some ad332) l0_2.length c0_2] 30 (0, 0)) zx23_1) : gb330 ≠ gb335)); have n8_ := Aside0.mk ((by rw [hg]; exact Nat.ne_of_gt (blk_lt (g := gb330) (o := .cells #[.int .u64 a0_0, .int .u64 a0_1, .slice (some ad332) l0_2.length c0_2] 30 (0, 0)) zx23_1) : gb335 ≠ gb330)); have n9_ := Aside0.mk ((by rw [hg]; exact Nat.ne_of_lt (blk_lt (g := gb331) (o := .cells #[.int .u64 a1_0, .int .u64 a1_1, .slice (some ad334) l1_2.length c1_2] 30 (0, 0)) zx23_2) : gb331 ≠ gb335)); have n10_ := Aside0.mk ((by rw [hg]; exact Nat.ne_of_gt (blk_lt (g := gb331) (o := .cells #[.int .u64 a1_0, .int .u64 a1_1, .slice (some ad334) l1_2.length c1_2] 30 (0, 0)) zx23_2) : gb335 ≠ gb331)); have n11_ := Aside0.mk ((by rw [hg]; exact Nat.ne_of_lt (blk_lt (g := gb333) (o := .cells #[.string ((rd_T57 l0_2 x5_2).f0), .int .u64 ((rd_T57 l0_2 x5_2).f1), .int .u64 ((rd_T57 l0_2 x5_2).f2), .slice A332_3 ((rd_T57 l0_2 x5_2).f3).length c332_3, .int .u64 ((rd_T57 l0_2 x5_2).f4), .int .u64 ((rd_T57 l0_2 x5_2).f5), .int .u64 ((rd_T57 l0_2 x5_2).f6)] 57 (0, 0)) zx23_0) : gb333 ≠ gb335)); have n12_ := Aside0.mk ((by rw [hg]; exact Nat.ne_of_gt (blk_lt (g := gb333) (o := .cells #[.string ((rd_T57 l0_2 x5_2).f0), .int .u64 ((rd_T57 l0_2 x5_2).f1), .int .u64 ((rd_T57 l0_2 x5_2).f2), .slice A332_3 ((rd_T57 l0_2 x5_2).f3).length c332_3, .int .u64 ((rd_T57 l0_2 x5_2).f4), .int .u64 ((rd_T57 l0_2 x5_2).f5), .int .u64 ((rd_T57 l0_2 x5_2).f6)] 57 (0, 0)) zx23_0) : gb335 ≠ gb333)); clear BK330; clear BK331; clear BK333; clear HB; have BK330 := n0_; have BK331 := n1_; have BK333 := n2_; have HB := n3_; have BK335 := n4_; have GW335 := n5_; have GE335 := n6_; have NB330_335 := n7_; have NB335_330 := n8_; have NB331_335 := n9_; have NB335_331 := n10_; have NB333_335 := n11_; have NB335_333 := n12_; clear n0_ n1_ n2_ n3_ n4_ n5_ n6_ n7_ n8_ n9_ n10_ n11_ n12_; clear hb hbox hg; have hnb50 := NB335_330.out; have hnc50 := NB330_335.out; have hnb51 := NB335_331.out; have hnc51 := NB331_335.out; have hnb52 := NB335_333.out; have hnc52 := NB333_335.out; have hcz53_0 : w49.cell? ⟨gb335, 0, none⟩ = some (.string (⟨#[]⟩ : ByteArray)) := (blk_cell BK335.out 0).trans rfl; have hcz53_1 : w49.cell? ⟨gb335, 1, none⟩ = some (.int .u64 0) := (blk_cell BK335.out 1).trans rfl; have hcz53_2 : w49.cell? ⟨gb335, 2, none⟩ = some (.int .u64 0) := (blk_cell BK335.out 2).trans rfl; have hcz53_3 : w49.cell? ⟨gb335, 3, none⟩ = some (.slice none 0 0) := (blk_cell BK335.out 3).trans rfl; have hcz53_4 : w49.cell? ⟨gb335, 4, none⟩ = some (.int .u64 0) := (blk_cell BK335.out 4).trans rfl; have hcz53_5 : w49.cell? ⟨gb335, 5, none⟩ = some (.int .u64 0) := (blk_cell BK335.out 5).trans rfl; have hcz53_6 : w49.cell? ⟨gb335, 6, none⟩ = some (.int .u64 0) := (blk_cell BK335.out 6).trans rfl; have hfz53_0 := blk_frozen BK335.out 0; have hfz53_1 := blk_frozen BK335.out 1; have hfz53_2 := blk_frozen BK335.out 2; have hfz53_3 := blk_frozen BK335.out 3; have hfz53_4 := blk_frozen BK335.out 4; have hfz53_5 := blk_frozen BK335.out 5; have hfz53_6 := blk_frozen BK335.out 6; have hcz54_0 : w49.cell? ⟨gb333, 0, none⟩ = some (.string ((rd_T57 l0_2 x5_2).f0)) := (blk_cell BK333.out 0).trans rfl; have hcz54_1 : w49.cell? ⟨gb333, 1, none⟩ = some (.int .u64 ((rd_T57 l0_2 x5_2).f1)) := (blk_cell BK333.out 1).trans rfl; have hcz54_2 : w49.cell? ⟨gb333, 2, none⟩ = some (.int .u64 ((rd_T57 l0_2 x5_2).f2)) := (blk_cell BK333.out 2).trans rfl; have hcz54_3 : w49.cell? ⟨gb333, 3, none⟩ = some (.slice A332_3 ((rd_T57 l0_2 x5_2).f3).length c332_3) := (blk_cell BK333.out 3).trans rfl; have hcz54_4 : w49.cell? ⟨gb333, 4, none⟩ = some (.int .u64 ((rd_T57 l0_2 x5_2).f4)) := (blk_cell BK333.out 4).trans rfl; have hcz54_5 : w49.cell? ⟨gb333, 5, none⟩ = some (.int .u64 ((rd_T57 l0_2 x5_2).f5)) := (blk_cell BK333.out 5).trans rfl; have hcz54_6 : w49.cell? ⟨gb333, 6, none⟩ = some (.int .u64 ((rd_T57 l0_2 x5_2).f6)) := (blk_cell BK333.out 6).trans rfl; have hfz54_0 := blk_frozen BK333.out 0; have hfz54_1 := blk_frozen BK333.out 1; have hfz54_2 := blk_frozen BK333.out 2; have hfz54_3 := blk_frozen BK333.out 3; have hfz54_4 := blk_frozen BK333.out 4; have hfz54_5 := blk_frozen BK333.out 5; have hfz54_6 := blk_frozen BK333.out 6) | (go_at_call 34; (with_reducible refine (postroomref11_sameInts.calls k2 _ _ ((rd_T57 l0_2 x5_2).f3) _ _ ((rd_T57 l1_2 x5_2).f3) false _ ?side1 ?side2 ?side3 ?side4 A27.out).mono ?_); (case side1 => exact Kd.C_below HR332_3.out zx23_15); (case side2 => exact HC332_3.out); (case side3 => exact Kd.C_below HR334_3.out zx23_15); (case side4 => exact HC334_3.out); rintro e w' ⟨rfl, ⟨nd, rfl⟩⟩))
                go_ret
                exact ⟨by first | rfl | (simp [errW_none, errW_some] <;> rfl) | (simp [*, errW_none, errW_some] <;> rfl), by repeat (first | (with_reducible first | exact HB.out | apply below_alloc | apply pw_below_drewN | apply below_drew1 | refine below_set ?_ GE330.out | refine below_set ?_ GE331.out | refine below_set ?_ GE333.out | refine below_set ?_ GE335.out) | exact HB.out)⟩
              case' neg_c26 =>
               rw [if_neg c26] at H
               have c26b0 : (((rd_T57 l0_2 x5_2).f6) == ((rd_T57 l1_2 x5_2).f6)) = false := beq_eq_false_iff_ne.mpr c26
               have c26b1 : (((rd_T57 l0_2 x5_2).f6) != ((rd_T57 l1_2 x5_2).f6)) = true := bne_iff_ne.mpr c26
               obtain rfl := Option.some.inj H
         all_goals
          have hnb55 := NB330_331.out
          have hnc55 := NB331_330.out
          obtain ⟨hcz56_0, hcz56_1, hcz56_2, hfz56_0, hfz56_1, hfz56_2⟩ := cx23_bc3 BK330.out
          have p332 : 0 ≤ (x5_2 : Int) := of_decide_eq_true zx23_16
          have q332 : x5_2 < (l0_2.length : Int) := of_decide_eq_true zx23_16
          obtain ⟨ad332, A332_3, c332_3, e332, hx332_0, hx332_1, hx332_2, hx332_3, hx332_4, hx332_5, hx332_6, hl332_3, hi332_3⟩ := at_T57 HR0_2.out x5_2 p332 q332
          cases e332
          replace hx332_0 := (HB.out.cell (World.block_lt_of_cell? w _ hx332_0)).trans hx332_0
          replace hx332_1 := (HB.out.cell (World.block_lt_of_cell? w _ hx332_1)).trans hx332_1
          replace hx332_2 := (HB.out.cell (World.block_lt_of_cell? w _ hx332_2)).trans hx332_2
          replace hx332_3 := (HB.out.cell (World.block_lt_of_cell? w _ hx332_3)).trans hx332_3
          replace hx332_4 := (HB.out.cell (World.block_lt_of_cell? w _ hx332_4)).trans hx332_4
          replace hx332_5 := (HB.out.cell (World.block_lt_of_cell? w _ hx332_5)).trans hx332_5
          replace hx332_6 := (HB.out.cell (World.block_lt_of_cell? w _ hx332_6)).trans hx332_6
          have HR332_3 := Aside0.mk hi332_3
          have HC332_3 := Aside0.mk hl332_3
          clear hi332_3 hl332_3
          replace p332 := eq_true p332
          replace q332 := eq_true q332
          go_wp2_with (first | ((with_reducible refine gate_dst (N := 6) rfl ?_); (try (refine gate_guard (by rfl) ?_; dsimp only)); refine box_event ?hg (N := 6) ?hd (cs := #[.string (⟨#[]⟩ : ByteArray), .int .u64 0, .int .u64 0, .slice none 0 0, .int .u64 0, .int .u64 0, .int .u64 0]) (t := 57) ?hr ?_; (case hd => rfl); (case hg => rfl); (case hr => first | (go_simp; done) | (go_simp; rfl)); intro gb333 hg w57 hbox hb; have n0_ := Aside0.mk (blk_below (g := gb330) (o := .cells #[.int .u64 a0_0, .int .u64 a0_1, .slice (some ad332) l0_2.length c0_2] 30 (0, 0)) zx23_13 hb); have n1_ := Aside0.mk (blk_below (g := gb331) (o := .cells #[.int .u64 a1_0, .int .u64 a1_1, .slice A1_2 l1_2.length c1_2] 30 (0, 0)) zx23_14 hb); have n2_ := Aside0.mk (below_step zx23_12 hb); have n3_ := Aside0.mk (hbox); have n4_ := Aside0.mk ((by rw [hg]; exact (below_size zx23_12) : w.heap.size ≤ gb333)); have n5_ := Aside0.mk ((by rw [hg]; exact (below_size zx23_12) : w.heap.size ≤ gb333)); have n6_ := Aside0.mk ((by rw [hg]; exact Nat.ne_of_lt (blk_lt (g := gb330) (o := .cells #[.int .u64 a0_0, .int .u64 a0_1, .slice (some ad332) l0_2.length c0_2] 30 (0, 0)) zx23_13) : gb330 ≠ gb333)); have n7_ := Aside0.mk ((by rw [hg]; exact Nat.ne_of_gt (blk_lt (g := gb330) (o := .cells #[.int .u64 a0_0, .int .u64 a0_1, .slice (some ad332) l0_2.length c0_2] 30 (0, 0)) zx23_13) : gb333 ≠ gb330)); have n8_ := Aside0.mk ((by rw [hg]; exact Nat.ne_of_lt (blk_lt (g := gb331) (o := .cells #[.int .u64 a1_0, .int .u64 a1_1, .slice A1_2 l1_2.length c1_2] 30 (0, 0)) zx23_14) : gb331 ≠ gb333)); have n9_ := Aside0.mk ((by rw [hg]; exact Nat.ne_of_gt (blk_lt (g := gb331) (o := .cells #[.int .u64 a1_0, .int .u64 a1_1, .slice A1_2 l1_2.length c1_2] 30 (0, 0)) zx23_14) : gb333 ≠ gb331)); clear BK330; clear BK331; clear HB; have BK330 := n0_; have BK331 := n1_; have HB := n2_; have BK333 := n3_; have GW333 := n4_; have GE333 := n5_; have NB330_333 := n6_; have NB333_330 := n7_; have NB331_333 := n8_; have NB333_331 := n9_; clear n0_ n1_ n2_ n3_ n4_ n5_ n6_ n7_ n8_ n9_; clear hb hbox hg; have hnb58 := NB333_330.out; have hnc58 := NB330_333.out; have hnb59 := NB333_331.out; have hnc59 := NB331_333.out; have hcz60_0 : w57.cell? ⟨gb333, 0, none⟩ = some (.string (⟨#[]⟩ : ByteArray)) := (blk_cell BK333.out 0).trans rfl; have hcz60_1 : w57.cell? ⟨gb333, 1, none⟩ = some (.int .u64 0) := (blk_cell BK333.out 1).trans rfl; have hcz60_2 : w57.cell? ⟨gb333, 2, none⟩ = some (.int .u64 0) := (blk_cell BK333.out 2).trans rfl; have hcz60_3 : w57.cell? ⟨gb333, 3, none⟩ = some (.slice none 0 0) := (blk_cell BK333.out 3).trans rfl; have hcz60_4 : w57.cell? ⟨gb333, 4, none⟩ = some (.int .u64 0) := (blk_cell BK333.out 4).trans rfl; have hcz60_5 : w57.cell? ⟨gb333, 5, none⟩ = some (.int .u64 0) := (blk_cell BK333.out 5).trans rfl; have hcz60_6 : w57.cell? ⟨gb333, 6, none⟩ = some (.int .u64 0) := (blk_cell BK333.out 6).trans rfl; have hfz60_0 := blk_frozen BK333.out 0; have hfz60_1 := blk_frozen BK333.out 1; have hfz60_2 := blk_frozen BK333.out 2; have hfz60_3 := blk_frozen BK333.out 3; have hfz60_4 := blk_frozen BK333.out 4; have hfz60_5 := blk_frozen BK333.out 5; have hfz60_6 := blk_frozen BK333.out 6; have hcz61_0 : w57.cell? ⟨gb331, 0, none⟩ = some (.int .u64 a1_0) := (blk_cell BK331.out 0).trans rfl; have hcz61_1 : w57.cell? ⟨gb331, 1, none⟩ = some (.int .u64 a1_1) := (blk_cell BK331.out 1).trans rfl; have hcz61_2 : w57.cell? ⟨gb331, 2, none⟩ = some (.slice A1_2 l1_2.length c1_2) := (blk_cell BK331.out 2).trans rfl; have hfz61_0 := blk_frozen BK331.out 0; have hfz61_1 := blk_frozen BK331.out 1; have hfz61_2 := blk_frozen BK331.out 2; have p334 : 0 ≤ (x5_2 : Int) := of_decide_eq_true zx23_16; have q334 : x5_2 < (l1_2.length : Int) := of_decide_eq_true zx23_16; obtain ⟨ad334, A334_3, c334_3, e334, hx334_0, hx334_1, hx334_2, hx334_3, hx334_4, hx334_5, hx334_6, hl334_3, hi334_3⟩ := at_T57 HR1_2.out x5_2 p334 q334; cases e334; have hn334_0 : ad334.block ≠ gb333 := Nat.ne_of_lt (Nat.lt_of_lt_of_le zx23_11 GW333.out); have hn334_1 : ad334.block ≠ gb333 := Nat.ne_of_lt (Nat.lt_of_lt_of_le zx23_11 GW333.out); have hn334_2 : ad334.block ≠ gb333 := Nat.ne_of_lt (Nat.lt_of_lt_of_le zx23_11 GW333.out); have hn334_3 : ad334.block ≠ gb333 := Nat.ne_of_lt (Nat.lt_of_lt_of_le zx23_11 GW333.out); have hn334_4 : ad334.block ≠ gb333 := Nat.ne_of_lt (Nat.lt_of_lt_of_le zx23_11 GW333.out); have hn334_5 : ad334.block ≠ gb333 := Nat.ne_of_lt (Nat.lt_of_lt_of_le zx23_11 GW333.out); have hn334_6 : ad334.block ≠ gb333 := Nat.ne_of_lt (Nat.lt_of_lt_of_le zx23_11 GW333.out); replace hx334_0 := (HB.out.cell (World.block_lt_of_cell? w _ hx334_0)).trans hx334_0; replace hx334_1 := (HB.out.cell (World.block_lt_of_cell? w _ hx334_1)).trans hx334_1; replace hx334_2 := (HB.out.cell (World.block_lt_of_cell? w _ hx334_2)).trans hx334_2; replace hx334_3 := (HB.out.cell (World.block_lt_of_cell? w _ hx334_3)).trans hx334_3; replace hx334_4 := (HB.out.cell (World.block_lt_of_cell? w _ hx334_4)).trans hx334_4; replace hx334_5 := (HB.out.cell (World.block_lt_of_cell? w _ hx334_5)).trans hx334_5; replace hx334_6 := (HB.out.cell (World.block_lt_of_cell? w _ hx334_6)).trans hx334_6; have HR334_3 := Aside0.mk hi334_3; have HC334_3 := Aside0.mk hl334_3; clear hi334_3 hl334_3; replace hx334_0 := (cell_far (p := ⟨gb333, 0, none⟩) zx23_3 (.string ((rd_T57 l0_2 x5_2).f0))).trans hx334_0; replace hx334_1 := (cell_far (p := ⟨gb333, 0, none⟩) zx23_3 (.string ((rd_T57 l0_2 x5_2).f0))).trans hx334_1; replace hx334_2 := (cell_far (p := ⟨gb333, 0, none⟩) zx23_3 (.string ((rd_T57 l0_2 x5_2).f0))).trans hx334_2; replace hx334_3 := (cell_far (p := ⟨gb333, 0, none⟩) zx23_3 (.string ((rd_T57 l0_2 x5_2).f0))).trans hx334_3; replace hx334_4 := (cell_far (p := ⟨gb333, 0, none⟩) zx23_3 (.string ((rd_T57 l0_2 x5_2).f0))).trans hx334_4; replace hx334_5 := (cell_far (p := ⟨gb333, 0, none⟩) zx23_3 (.string ((rd_T57 l0_2 x5_2).f0))).trans hx334_5; replace hx334_6 := (cell_far (p := ⟨gb333, 0, none⟩) zx23_3 (.string ((rd_T57 l0_2 x5_2).f0))).trans hx334_6; replace hx334_0 := (cell_far (p := ⟨gb333, 1, none⟩) zx23_4 (.int .u64 ((rd_T57 l0_2 x5_2).f1))).trans hx334_0; replace hx334_1 := (cell_far (p := ⟨gb333, 1, none⟩) zx23_4 (.int .u64 ((rd_T57 l0_2 x5_2).f1))).trans hx334_1; replace hx334_2 := (cell_far (p := ⟨gb333, 1, none⟩) zx23_4 (.int .u64 ((rd_T57 l0_2 x5_2).f1))).trans hx334_2; replace hx334_3 := (cell_far (p := ⟨gb333, 1, none⟩) zx23_4 (.int .u64 ((rd_T57 l0_2 x5_2).f1))).trans hx334_3; replace hx334_4 := (cell_far (p := ⟨gb333, 1, none⟩) zx23_4 (.int .u64 ((rd_T57 l0_2 x5_2).f1))).trans hx334_4; replace hx334_5 := (cell_far (p := ⟨gb333, 1, none⟩) zx23_4 (.int .u64 ((rd_T57 l0_2 x5_2).f1))).trans hx334_5; replace hx334_6 := (cell_far (p := ⟨gb333, 1, none⟩) zx23_4 (.int .u64 ((rd_T57 l0_2 x5_2).f1))).trans hx334_6; replace hx334_0 := (cell_far (p := ⟨gb333, 2, none⟩) zx23_5 (.int .u64 ((rd_T57 l0_2 x5_2).f2))).trans hx334_0; replace hx334_1 := (cell_far (p := ⟨gb333, 2, none⟩) zx23_5 (.int .u64 ((rd_T57 l0_2 x5_2).f2))).trans hx334_1; replace hx334_2 := (cell_far (p := ⟨gb333, 2, none⟩) zx23_5 (.int .u64 ((rd_T57 l0_2 x5_2).f2))).trans hx334_2; replace hx334_3 := (cell_far (p := ⟨gb333, 2, none⟩) zx23_5 (.int .u64 ((rd_T57 l0_2 x5_2).f2))).trans hx334_3; replace hx334_4 := (cell_far (p := ⟨gb333, 2, none⟩) zx23_5 (.int .u64 ((rd_T57 l0_2 x5_2).f2))).trans hx334_4; replace hx334_5 := (cell_far (p := ⟨gb333, 2, none⟩) zx23_5 (.int .u64 ((rd_T57 l0_2 x5_2).f2))).trans hx334_5; replace hx334_6 := (cell_far (p := ⟨gb333, 2, none⟩) zx23_5 (.int .u64 ((rd_T57 l0_2 x5_2).f2))).trans hx334_6; replace hx334_0 := (cell_far (p := ⟨gb333, 3, none⟩) zx23_6 (.slice A332_3 ((rd_T57 l0_2 x5_2).f3).length c332_3)).trans hx334_0; replace hx334_1 := (cell_far (p := ⟨gb333, 3, none⟩) zx23_6 (.slice A332_3 ((rd_T57 l0_2 x5_2).f3).length c332_3)).trans hx334_1; replace hx334_2 := (cell_far (p := ⟨gb333, 3, none⟩) zx23_6 (.slice A332_3 ((rd_T57 l0_2 x5_2).f3).length c332_3)).trans hx334_2; replace hx334_3 := (cell_far (p := ⟨gb333, 3, none⟩) zx23_6 (.slice A332_3 ((rd_T57 l0_2 x5_2).f3).length c332_3)).trans hx334_3; replace hx334_4 := (cell_far (p := ⟨gb333, 3, none⟩) zx23_6 (.slice A332_3 ((rd_T57 l0_2 x5_2).f3).length c332_3)).trans hx334_4; replace hx334_5 := (cell_far (p := ⟨gb333, 3, none⟩) zx23_6 (.slice A332_3 ((rd_T57 l0_2 x5_2).f3).length c332_3)).trans hx334_5; replace hx334_6 := (cell_far (p := ⟨gb333, 3, none⟩) zx23_6 (.slice A332_3 ((rd_T57 l0_2 x5_2).f3).length c332_3)).trans hx334_6; replace hx334_0 := (cell_far (p := ⟨gb333, 4, none⟩) zx23_7 (.int .u64 ((rd_T57 l0_2 x5_2).f4))).trans hx334_0; replace hx334_1 := (cell_far (p := ⟨gb333, 4, none⟩) zx23_7 (.int .u64 ((rd_T57 l0_2 x5_2).f4))).trans hx334_1; replace hx334_2 := (cell_far (p := ⟨gb333, 4, none⟩) zx23_7 (.int .u64 ((rd_T57 l0_2 x5_2).f4))).trans hx334_2; replace hx334_3 := (cell_far (p := ⟨gb333, 4, none⟩) zx23_7 (.int .u64 ((rd_T57 l0_2 x5_2).f4))).trans hx334_3; replace hx334_4 := (cell_far (p := ⟨gb333, 4, none⟩) zx23_7 (.int .u64 ((rd_T57 l0_2 x5_2).f4))).trans hx334_4; replace hx334_5 := (cell_far (p := ⟨gb333, 4, none⟩) zx23_7 (.int .u64 ((rd_T57 l0_2 x5_2).f4))).trans hx334_5; replace hx334_6 := (cell_far (p := ⟨gb333, 4, none⟩) zx23_7 (.int .u64 ((rd_T57 l0_2 x5_2).f4))).trans hx334_6; replace hx334_0 := (cell_far (p := ⟨gb333, 5, none⟩) zx23_8 (.int .u64 ((rd_T57 l0_2 x5_2).f5))).trans hx334_0; replace hx334_1 := (cell_far (p := ⟨gb333, 5, none⟩) zx23_8 (.int .u64 ((rd_T57 l0_2 x5_2).f5))).trans hx334_1; replace hx334_2 := (cell_far (p := ⟨gb333, 5, none⟩) zx23_8 (.int .u64 ((rd_T57 l0_2 x5_2).f5))).trans hx334_2; replace hx334_3 := (cell_far (p := ⟨gb333, 5, none⟩) zx23_8 (.int .u64 ((rd_T57 l0_2 x5_2).f5))).trans hx334_3; replace hx334_4 := (cell_far (p := ⟨gb333, 5, none⟩) zx23_8 (.int .u64 ((rd_T57 l0_2 x5_2).f5))).trans hx334_4; replace hx334_5 := (cell_far (p := ⟨gb333, 5, none⟩) zx23_8 (.int .u64 ((rd_T57 l0_2 x5_2).f5))).trans hx334_5; replace hx334_6 := (cell_far (p := ⟨gb333, 5, none⟩) zx23_8 (.int .u64 ((rd_T57 l0_2 x5_2).f5))).trans hx334_6; replace hx334_0 := (cell_far (p := ⟨gb333, 6, none⟩) zx23_9 (.int .u64 ((rd_T57 l0_2 x5_2).f6))).trans hx334_0; replace hx334_1 := (cell_far (p := ⟨gb333, 6, none⟩) zx23_9 (.int .u64 ((rd_T57 l0_2 x5_2).f6))).trans hx334_1; replace hx334_2 := (cell_far (p := ⟨gb333, 6, none⟩) zx23_9 (.int .u64 ((rd_T57 l0_2 x5_2).f6))).trans hx334_2; replace hx334_3 := (cell_far (p := ⟨gb333, 6, none⟩) zx23_9 (.int .u64 ((rd_T57 l0_2 x5_2).f6))).trans hx334_3; replace hx334_4 := (cell_far (p := ⟨gb333, 6, none⟩) zx23_9 (.int .u64 ((rd_T57 l0_2 x5_2).f6))).trans hx334_4; replace hx334_5 := (cell_far (p := ⟨gb333, 6, none⟩) zx23_9 (.int .u64 ((rd_T57 l0_2 x5_2).f6))).trans hx334_5; replace hx334_6 := (cell_far (p := ⟨gb333, 6, none⟩) zx23_9 (.int .u64 ((rd_T57 l0_2 x5_2).f6))).trans hx334_6; clear hn334_0; clear hn334_1; clear hn334_2; clear hn334_3; clear hn334_4; clear hn334_5; clear hn334_6; replace p334 := eq_true p334; replace q334 := eq_true q334) | ((with_reducible refine gate_dst (N := 7) rfl ?_); (try (refine gate_guard (by rfl) ?_; dsimp only)); refine box_event ?hg (N := 7) ?hd (cs := #[.string (⟨#[]⟩ : ByteArray), .int .u64 0, .int .u64 0, .slice none 0 0, .int .u64 0, .int .u64 0, .int .u64 0]) (t := 57) ?hr ?_; (case hd => rfl); (case hg => rfl); (case hr => first | (go_simp; done) | (go_simp; rfl)); intro gb335 hg w62 hbox hb; have n0_ := Aside0.mk (blk_below (g := gb330) (o := .cells #[.int .u64 a0_0, .int .u64 a0_1, .slice (some ad332) l0_2.length c0_2] 30 (0, 0)) zx23_1 hb); have n1_ := Aside0.mk (blk_below (g := gb331) (o := .cells #[.int .u64 a1_0, .int .u64 a1_1, .slice (some ad334) l1_2.length c1_2] 30 (0, 0)) zx23_2 hb); have n2_ := Aside0.mk (blk_below (g := gb333) (o := .cells #[.string ((rd_T57 l0_2 x5_2).f0), .int .u64 ((rd_T57 l0_2 x5_2).f1), .int .u64 ((rd_T57 l0_2 x5_2).f2), .slice A332_3 ((rd_T57 l0_2 x5_2).f3).length c332_3, .int .u64 ((rd_T57 l0_2 x5_2).f4), .int .u64 ((rd_T57 l0_2 x5_2).f5), .int .u64 ((rd_T57 l0_2 x5_2).f6)] 57 (0, 0)) zx23_0 hb); have n3_ := Aside0.mk (below_step zx23_10 hb); have n4_ := Aside0.mk (hbox); have n5_ := Aside0.mk ((by rw [hg]; exact (below_size zx23_10) : w.heap.size ≤ gb335)); have n6_ := Aside0.mk ((by rw [hg]; exact (below_size zx23_10) : w.heap.size ≤ gb335)); have n7_ := Aside0.mk ((by rw [hg]; exact Nat.ne_of_lt (blk_lt (g := gb330) (o := .cells #[.int .u64 a0_0, .int .u64 a0_1, .slice (some ad332) l0_2.length c0_2] 30 (0, 0)) zx23_1) : gb330 ≠ gb335)); have n8_ := Aside0.mk ((by rw [hg]; exact Nat.ne_of_gt (blk_lt (g := gb330) (o := .cells #[.int .u64 a0_0, .int .u64 a0_1, .slice (some ad332) l0_2.length c0_2] 30 (0, 0)) zx23_1) : gb335 ≠ gb330)); have n9_ := Aside0.mk ((by rw [hg]; exact Nat.ne_of_lt (blk_lt (g := gb331) (o := .cells #[.int .u64 a1_0, .int .u64 a1_1, .slice (some ad334) l1_2.length c1_2] 30 (0, 0)) zx23_2) : gb331 ≠ gb335)); have n10_ := Aside0.mk ((by rw [hg]; exact Nat.ne_of_gt (blk_lt (g := gb331) (o := .cells #[.int .u64 a1_0, .int .u64 a1_1, .slice (some ad334) l1_2.length c1_2] 30 (0, 0)) zx23_2) : gb335 ≠ gb331)); have n11_ := Aside0.mk ((by rw [hg]; exact Nat.ne_of_lt (blk_lt (g := gb333) (o := .cells #[.string ((rd_T57 l0_2 x5_2).f0), .int .u64 ((rd_T57 l0_2 x5_2).f1), .int .u64 ((rd_T57 l0_2 x5_2).f2), .slice A332_3 ((rd_T57 l0_2 x5_2).f3).length c332_3, .int .u64 ((rd_T57 l0_2 x5_2).f4), .int .u64 ((rd_T57 l0_2 x5_2).f5), .int .u64 ((rd_T57 l0_2 x5_2).f6)] 57 (0, 0)) zx23_0) : gb333 ≠ gb335)); have n12_ := Aside0.mk ((by rw [hg]; exact Nat.ne_of_gt (blk_lt (g := gb333) (o := .cells #[.string ((rd_T57 l0_2 x5_2).f0), .int .u64 ((rd_T57 l0_2 x5_2).f1), .int .u64 ((rd_T57 l0_2 x5_2).f2), .slice A332_3 ((rd_T57 l0_2 x5_2).f3).length c332_3, .int .u64 ((rd_T57 l0_2 x5_2).f4), .int .u64 ((rd_T57 l0_2 x5_2).f5), .int .u64 ((rd_T57 l0_2 x5_2).f6)] 57 (0, 0)) zx23_0) : gb335 ≠ gb333)); clear BK330; clear BK331; clear BK333; clear HB; have BK330 := n0_; have BK331 := n1_; have BK333 := n2_; have HB := n3_; have BK335 := n4_; have GW335 := n5_; have GE335 := n6_; have NB330_335 := n7_; have NB335_330 := n8_; have NB331_335 := n9_; have NB335_331 := n10_; have NB333_335 := n11_; have NB335_333 := n12_; clear n0_ n1_ n2_ n3_ n4_ n5_ n6_ n7_ n8_ n9_ n10_ n11_ n12_; clear hb hbox hg; have hnb63 := NB335_330.out; have hnc63 := NB330_335.out; have hnb64 := NB335_331.out; have hnc64 := NB331_335.out; have hnb65 := NB335_333.out; have hnc65 := NB333_335.out; have hcz66_0 : w62.cell? ⟨gb335, 0, none⟩ = some (.string (⟨#[]⟩ : ByteArray)) := (blk_cell BK335.out 0).trans rfl; have hcz66_1 : w62.cell? ⟨gb335, 1, none⟩ = some (.int .u64 0) := (blk_cell BK335.out 1).trans rfl; have hcz66_2 : w62.cell? ⟨gb335, 2, none⟩ = some (.int .u64 0) := (blk_cell BK335.out 2).trans rfl; have hcz66_3 : w62.cell? ⟨gb335, 3, none⟩ = some (.slice none 0 0) := (blk_cell BK335.out 3).trans rfl; have hcz66_4 : w62.cell? ⟨gb335, 4, none⟩ = some (.int .u64 0) := (blk_cell BK335.out 4).trans rfl; have hcz66_5 : w62.cell? ⟨gb335, 5, none⟩ = some (.int .u64 0) := (blk_cell BK335.out 5).trans rfl; have hcz66_6 : w62.cell? ⟨gb335, 6, none⟩ = some (.int .u64 0) := (blk_cell BK335.out 6).trans rfl; have hfz66_0 := blk_frozen BK335.out 0; have hfz66_1 := blk_frozen BK335.out 1; have hfz66_2 := blk_frozen BK335.out 2; have hfz66_3 := blk_frozen BK335.out 3; have hfz66_4 := blk_frozen BK335.out 4; have hfz66_5 := blk_frozen BK335.out 5; have hfz66_6 := blk_frozen BK335.out 6; have hcz67_0 : w62.cell? ⟨gb333, 0, none⟩ = some (.string ((rd_T57 l0_2 x5_2).f0)) := (blk_cell BK333.out 0).trans rfl; have hcz67_1 : w62.cell? ⟨gb333, 1, none⟩ = some (.int .u64 ((rd_T57 l0_2 x5_2).f1)) := (blk_cell BK333.out 1).trans rfl; have hcz67_2 : w62.cell? ⟨gb333, 2, none⟩ = some (.int .u64 ((rd_T57 l0_2 x5_2).f2)) := (blk_cell BK333.out 2).trans rfl; have hcz67_3 : w62.cell? ⟨gb333, 3, none⟩ = some (.slice A332_3 ((rd_T57 l0_2 x5_2).f3).length c332_3) := (blk_cell BK333.out 3).trans rfl; have hcz67_4 : w62.cell? ⟨gb333, 4, none⟩ = some (.int .u64 ((rd_T57 l0_2 x5_2).f4)) := (blk_cell BK333.out 4).trans rfl; have hcz67_5 : w62.cell? ⟨gb333, 5, none⟩ = some (.int .u64 ((rd_T57 l0_2 x5_2).f5)) := (blk_cell BK333.out 5).trans rfl; have hcz67_6 : w62.cell? ⟨gb333, 6, none⟩ = some (.int .u64 ((rd_T57 l0_2 x5_2).f6)) := (blk_cell BK333.out 6).trans rfl; have hfz67_0 := blk_frozen BK333.out 0; have hfz67_1 := blk_frozen BK333.out 1; have hfz67_2 := blk_frozen BK333.out 2; have hfz67_3 := blk_frozen BK333.out 3; have hfz67_4 := blk_frozen BK333.out 4; have hfz67_5 := blk_frozen BK333.out 5; have hfz67_6 := blk_frozen BK333.out 6))
          go_ret
          exact ⟨by first | rfl | (simp [errW_none, errW_some] <;> rfl) | (simp [*, errW_none, errW_some] <;> rfl), by repeat (first | (with_reducible first | exact HB.out | apply below_alloc | apply pw_below_drewN | apply below_drew1 | refine below_set ?_ GE330.out | refine below_set ?_ GE331.out | refine below_set ?_ GE333.out | refine below_set ?_ GE335.out) | exact HB.out)⟩
        ·rw [if_neg c20] at H
         exact absurd H (by simp)
       ·rw [if_neg c19] at H
        exact absurd H (by simp)
      ·rw [if_neg c18] at H
       have c18b0 : decide (x5_2 < (l0_2.length : Int)) = false := decide_eq_false c18
       clear c18
       obtain rfl := Option.some.inj H
       have hnb133 := NB330_331.out
       have hnc133 := NB331_330.out
       obtain ⟨hcz134_0, hcz134_1, hcz134_2, hfz134_0, hfz134_1, hfz134_2⟩ := cx23_bc3 BK330.out
       go_wp2
       go_ret
       exact ⟨by first | rfl | (simp [errW_none, errW_some] <;> rfl) | (simp [*, errW_none, errW_some] <;> rfl), by repeat (first | (with_reducible first | exact HB.out | apply below_alloc | apply pw_below_drewN | apply below_drew1 | refine below_set ?_ GE330.out | refine below_set ?_ GE331.out) | exact HB.out)⟩

end Go.Proofs.YtmbigoeldobaiaaDoor.XMrk
end
section
/- What the functions of the translation answer, each as a plain Lean function, and that the code comes to it; for a law: its row. Conditions: none but those that each theorem names. Written by a program of this session (wip/xp). -/
namespace Go.Proofs.YtmbigoeldobaiaaDoor.XMrk
open Go.RowKit Go.Proofs.YtmbigoeldobaiaaDoorW.PrintWords Go.Proofs.YtmbigoeldobaiaaDoorW.PrintLast Go.Proofs.YtmbigoeldobaiaaDoorW.PrintMore
attribute [local go_sem] max2_int min2_int max_two min_two max_three min_three max_four min_four   -- for this text's walks alone
theorem cx24_bc3 {w : World} {g : Nat} {t : TypeId} {x0 x1 x2 : Value} (h : w.heap[g]? = some (.cells #[x0, x1, x2] t (0, 0))) : w.cell? ⟨g, 0, none⟩ = some x0 ∧ w.cell? ⟨g, 1, none⟩ = some x1 ∧ w.cell? ⟨g, 2, none⟩ = some x2 ∧ w.frozen? ⟨g, 0, none⟩ = false ∧ w.frozen? ⟨g, 1, none⟩ = false ∧ w.frozen? ⟨g, 2, none⟩ = false :=
 ⟨(blk_cell h 0).trans rfl, (blk_cell h 1).trans rfl, (blk_cell h 2).trans rfl, blk_frozen h 0, blk_frozen h 1, blk_frozen h 2⟩
theorem zx24_6 {p : Prop} (h : p := by (with_reducible repeat (first | apply Kd.N_alloc | apply Kd.N_drewN | apply Kd.N_drew)); exact HO344.out) : p := h
theorem zx24_12 {p : Prop} (h : p := by (with_reducible repeat (first | apply Kd.N_alloc | apply Kd.N_drewN | apply Kd.N_drew)); exact HO354.out) : p := h
theorem zx24_13 {p : Prop} (h : p := by (with_reducible repeat (first | apply Kd.N_alloc | apply Kd.N_drewN | apply Kd.N_drew)); exact HO361.out) : p := h
theorem zx24_0 {p : Prop} (h : p := by (with_reducible repeat (first | refine blk_drewN ?_ _ | refine blk_drew ?_ | refine blk_alloc ?_ _)); exact BK337.out) : p := h
theorem zx24_1 {p : Prop} (h : p := by (with_reducible repeat (first | refine blk_drewN ?_ _ | refine blk_drew ?_ | refine blk_alloc ?_ _)); exact BK345.out) : p := h
theorem zx24_8 {p : Prop} (h : p := by (with_reducible repeat (first | refine blk_drewN ?_ _ | refine blk_drew ?_ | refine blk_alloc ?_ _)); exact BK356.out) : p := h
theorem zx24_14 {p : Prop} (h : p := by (with_reducible repeat (first | refine blk_drewN ?_ _ | refine blk_drew ?_ | refine blk_alloc ?_ _)); exact BK363.out) : p := h
theorem zx24_17 {p : Prop} (h : p := by repeat (first | (with_reducible first | exact HB.out | apply below_alloc | apply pw_below_drewN | apply below_drew1) | exact HB.out)) : p := h
theorem zx24_2 {p : Prop} (h : p := by (try simp only [List.map_toArray, List.map_cons, List.map_nil]); first | done | rfl | (simp only [List.length_drop, List.length_take]; rfl)) : p := h
theorem zx24_4 {p : Prop} (h : p := by repeat (first | (with_reducible first | exact HB.out | apply below_alloc | apply pw_below_drewN | apply below_drew1 | refine below_set ?_ GE337.out) | exact HB.out)) : p := h
theorem zx24_3 {p : Prop} (h : p := by repeat (first | (with_reducible first | exact HB.out | apply below_alloc | apply pw_below_drewN | apply below_drew1 | refine below_set ?_ GE337.out | refine below_set ?_ GE345.out) | exact HB.out)) : p := h
theorem zx24_7 {p : Prop} (h : p := by repeat (first | (with_reducible first | exact HB.out | apply below_alloc | apply pw_below_drewN | apply below_drew1 | refine below_set ?_ GE337.out | refine below_set ?_ GE345.out | refine below_set ?_ GE356.out) | exact HB.out)) : p := h
theorem zx24_5 {p : Prop} (h : p := by repeat (first | (with_reducible first | exact HB.out | apply below_alloc | apply pw_below_drewN | apply below_drew1 | refine below_set ?_ GE337.out | refine below_set ?_ GE345.out | refine below_set ?_ GE356.out | refine below_set ?_ GE363.out) | exact HB.out)) : p := h
theorem zx24_15 {p : Prop} (h : p := by (with_reducible repeat (first | apply Kd.N_alloc | apply Kd.N_drewN | apply Kd.N_drew)); exact (Kd.N_mono (Kd.N_far (p := ⟨gb356, 2, none⟩) (Kd.N_far (p := ⟨gb356, 1, none⟩) (Kd.N_far (p := ⟨gb356, 0, none⟩) (Kd.N_mono HO344.out (fun k_ hk => (⟨hk, hk.2⟩ : _ ∧ k_ ≠ gb356))) (fun _ hk => hk.2) (.int .u64 t350)) (fun _ hk => hk.2) (.int .u64 t351)) (fun _ hk => hk.2) (.slice Ao41 t352.length co41)) (fun _ h_ => h_.1))) : p := h
theorem zx24_16 {p : Prop} (h : p := by (with_reducible repeat (first | apply Kd.N_alloc | apply Kd.N_drewN | apply Kd.N_drew)); exact (Kd.N_mono (Kd.N_far (p := ⟨gb356, 2, none⟩) (Kd.N_far (p := ⟨gb356, 1, none⟩) (Kd.N_far (p := ⟨gb356, 0, none⟩) (Kd.N_mono HO354.out (fun k_ hk => (⟨hk, hk.2⟩ : _ ∧ k_ ≠ gb356))) (fun _ hk => hk.2) (.int .u64 t350)) (fun _ hk => hk.2) (.int .u64 t351)) (fun _ hk => hk.2) (.slice Ao41 t352.length co41)) (fun _ h_ => h_.1))) : p := h
theorem zx24_10 {p : Prop} (h : p := by (with_reducible repeat (first | refine blk_drewN ?_ _ | refine blk_drew ?_ | refine blk_alloc ?_ _)); refine blk_far ?_ NB337_356.out _; (with_reducible repeat (first | refine blk_drewN ?_ _ | refine blk_drew ?_ | refine blk_alloc ?_ _)); refine blk_far ?_ NB337_356.out _; (with_reducible repeat (first | refine blk_drewN ?_ _ | refine blk_drew ?_ | refine blk_alloc ?_ _)); refine blk_far ?_ NB337_356.out _; (with_reducible repeat (first | refine blk_drewN ?_ _ | refine blk_drew ?_ | refine blk_alloc ?_ _)); exact BK337.out) : p := h
theorem zx24_11 {p : Prop} (h : p := by (with_reducible repeat (first | refine blk_drewN ?_ _ | refine blk_drew ?_ | refine blk_alloc ?_ _)); refine blk_far ?_ NB345_356.out _; (with_reducible repeat (first | refine blk_drewN ?_ _ | refine blk_drew ?_ | refine blk_alloc ?_ _)); refine blk_far ?_ NB345_356.out _; (with_reducible repeat (first | refine blk_drewN ?_ _ | refine blk_drew ?_ | refine blk_alloc ?_ _)); refine blk_far ?_ NB345_356.out _; (with_reducible repeat (first | refine blk_drewN ?_ _ | refine blk_drew ?_ | refine blk_alloc ?_ _)); exact BK345.out) : p := h
theorem zx24_9 {p : Prop} (h : p := by (with_reducible repeat (first | refine blk_drewN ?_ _ | refine blk_drew ?_ | refine blk_alloc ?_ _)); refine blk_put (cs := #[.int .u64 t350, .int .u64 t351, .slice none 0 0]) ?_ 2 _ rfl; (with_reducible repeat (first | refine blk_drewN ?_ _ | refine blk_drew ?_ | refine blk_alloc ?_ _)); refine blk_put (cs := #[.int .u64 t350, .int .u64 0, .slice none 0 0]) ?_ 1 _ rfl; (with_reducible repeat (first | refine blk_drewN ?_ _ | refine blk_drew ?_ | refine blk_alloc ?_ _)); refine blk_put (cs := #[.int .u64 0, .int .u64 0, .slice none 0 0]) ?_ 0 _ rfl; (with_reducible repeat (first | refine blk_drewN ?_ _ | refine blk_drew ?_ | refine blk_alloc ?_ _)); exact BK356.out) : p := h
set_option linter.unusedVariables false
set_option linter.unusedSimpArgs false

/-! ### postroomlaw11_MarkTells: function 3 -/
def postroomlaw11_MarkTells.j0 : Nat → ByteArray → Bool → Bool → Int → Int → List (S55) → Option (Bool)
 | 0, _, _, _, _, _, _ => none
 | k + 1, x1, x5, x29, x338000, x338001, x338002 => if x29 = true then (some x5) else ((postroomlaw11_asLedger.f k x338000 x338001 x338002).bind fun bt340 => ((mark_Put.f k x338000 x338001 x338002).bind fun bt346 => ((postroomref11_Put.f k bt340.1 bt340.2.1 bt340.2.2).bind fun bt348 => ((mark_Take.f k x1).bind fun bt350 => ((postroomref11_Take.f k x1).bind fun bt357 => ((ledger_Right.f k x338000 x338001 x338002).bind fun t364 => ((postroomref11_Right.f k bt340.1 bt340.2.1 bt340.2.2).bind fun t365 => (if (t364 == t365) = true then (if bt346.1.toList = bt348.1.toList then (if bt346.2 = bt348.2 then ((postroomlaw11_asLedger.f k bt350.1 bt350.2.1 bt350.2.2.1).bind fun bt366 => ((postroomref11_Same.f k bt366.1 bt366.2.1 bt366.2.2 bt357.1 bt357.2.1 bt357.2.2.1).bind fun t371 => (if t371 = true then (some (bt350.2.2.2 == bt357.2.2.2)) else (some false)))) else (some false)) else (some false)) else (some false)))))))))
def postroomlaw11_MarkTells.f (k : Nat) (a0_0 : Int) (a0_1 : Int) (l0_2 : List (S55)) (a1 : ByteArray) : Option (Bool) := (postroomlaw11_shown.f k).bind fun t338 => ((postroomlaw11_few.f k a0_0 a0_1 l0_2).bind fun t339 => (if t338 = true then (if t339 = true then (postroomlaw11_MarkTells.j0 k a1 t338 (decide ((a1.size : Int) > 2000)) a0_0 a0_1 l0_2) else (postroomlaw11_MarkTells.j0 k a1 t338 true a0_0 a0_1 l0_2)) else (postroomlaw11_MarkTells.j0 k a1 t338 true a0_0 a0_1 l0_2)))
theorem postroomlaw11_MarkTells.mono_l : ∀ k, (∀ y0 y1 y2 y3 y4 y5, LeO (postroomlaw11_MarkTells.j0 k y0 y1 y2 y3 y4 y5) (postroomlaw11_MarkTells.j0 (k + 1) y0 y1 y2 y3 y4 y5))
 | 0 => fun _ _ _ _ _ _ r h => by simp [postroomlaw11_MarkTells.j0] at h
 | k + 1 => by
  have ih0 := postroomlaw11_MarkTells.mono_l k
  ·intro y0 y1 y2 y3 y4 y5
   unfold postroomlaw11_MarkTells.j0
   repeat' first
   | (with_reducible exact ih0 _ _ _ _ _ _)
   | (with_reducible exact ledger_Right.mono _ _ _ _)
   | (with_reducible exact mark_Put.mono _ _ _ _)
   | (with_reducible exact mark_Take.mono _ _)
   | (with_reducible exact postroomlaw11_asLedger.mono _ _ _ _)
   | (with_reducible exact postroomlaw11_few.mono _ _ _ _)
   | (with_reducible exact postroomlaw11_shown.mono _)
   | (with_reducible exact postroomref11_Put.mono _ _ _ _)
   | (with_reducible exact postroomref11_Right.mono _ _ _ _)
   | (with_reducible exact postroomref11_Same.mono _ _ _ _ _ _ _)
   | (with_reducible exact postroomref11_Take.mono _ _)
   | (with_reducible exact LeO.refl _)
   | (with_reducible exact LeO.none _)
   | (with_reducible refine LeO.ite ?_ ?_)
   | (with_reducible refine LeO.bind ?_ (fun _ => ?_))
   | exact ih0 _ _ _ _ _ _
   | exact ledger_Right.mono _ _ _ _
   | exact mark_Put.mono _ _ _ _
   | exact mark_Take.mono _ _
   | exact postroomlaw11_asLedger.mono _ _ _ _
   | exact postroomlaw11_few.mono _ _ _ _
   | exact postroomlaw11_shown.mono _
   | exact postroomref11_Put.mono _ _ _ _
   | exact postroomref11_Right.mono _ _ _ _
   | exact postroomref11_Same.mono _ _ _ _ _ _ _
   | exact postroomref11_Take.mono _ _
   | exact LeO.none _
   | refine LeO.ite ?_ ?_
   | refine LeO.bind ?_ (fun _ => ?_)
theorem postroomlaw11_MarkTells.mono : ∀ a0 a1 a2 a3 k, LeO (postroomlaw11_MarkTells.f k a0 a1 a2 a3) (postroomlaw11_MarkTells.f (k + 1) a0 a1 a2 a3) := by
 intro a0 a1 a2 a3 k
 have ih0 := postroomlaw11_MarkTells.mono_l k
 unfold postroomlaw11_MarkTells.f
 repeat' first
   | (with_reducible exact ih0 _ _ _ _ _ _)
   | (with_reducible exact ledger_Right.mono _ _ _ _)
   | (with_reducible exact mark_Put.mono _ _ _ _)
   | (with_reducible exact mark_Take.mono _ _)
   | (with_reducible exact postroomlaw11_asLedger.mono _ _ _ _)
   | (with_reducible exact postroomlaw11_few.mono _ _ _ _)
   | (with_reducible exact postroomlaw11_shown.mono _)
   | (with_reducible exact postroomref11_Put.mono _ _ _ _)
   | (with_reducible exact postroomref11_Right.mono _ _ _ _)
   | (with_reducible exact postroomref11_Same.mono _ _ _ _ _ _ _)
   | (with_reducible exact postroomref11_Take.mono _ _)
   | (with_reducible exact LeO.refl _)
   | (with_reducible exact LeO.none _)
   | (with_reducible refine LeO.ite ?_ ?_)
   | (with_reducible refine LeO.bind ?_ (fun _ => ?_))
   | exact ih0 _ _ _ _ _ _
   | exact ledger_Right.mono _ _ _ _
   | exact mark_Put.mono _ _ _ _
   | exact mark_Take.mono _ _
   | exact postroomlaw11_asLedger.mono _ _ _ _
   | exact postroomlaw11_few.mono _ _ _ _
   | exact postroomlaw11_shown.mono _
   | exact postroomref11_Put.mono _ _ _ _
   | exact postroomref11_Right.mono _ _ _ _
   | exact postroomref11_Same.mono _ _ _ _ _ _ _
   | exact postroomref11_Take.mono _ _
   | exact LeO.none _
   | refine LeO.ite ?_ ?_
   | refine LeO.bind ?_ (fun _ => ?_)
def postroomlaw11_MarkTells.T10 : Bool × List (List Nat × List Nat) := (true, [([], []), ([0], [0]), ([], []), ([2, 1], [2]), ([1, 3], [1, 3]), ([4, 3], [4]), ([5], [5]), ([5], [5]), ([6, 7, 5], [5, 6, 7]), ([5, 8], [5, 8]), ([9, 5], [9]), ([10], [10]), ([10], [10]), ([11, 12, 10], [10, 11, 12]), ([10, 13], [10, 13]), ([14, 10], [14]), ([15], [15]), ([16, 15, 15], [15, 16]), ([15], [15]), ([17, 18, 17, 15], [15, 17, 18]), ([15, 19], [15, 19]), ([20, 19], [20]), ([21], [21]), ([21], [21]), ([22, 23, 21], [21, 22, 23]), ([21, 24], [21, 24]), ([25, 21, 0, 1, 2, 3, 4, 5, 6, 7, 8, 9, 10, 11, 12, 13, 14, 15, 16, 17, 18, 19, 20, 21, 22, 23, 24, 25], [25])])
def postroomlaw11_MarkTells.B10 : List Nat := [0, 1, 0, 7, 15, 31, 63, 63, 255, 511, 1023, 2047, 2047, 8191, 16383, 32767, 65535, 131071, 65535, 524287, 1048575, 2097151, 4194303, 4194303, 16777215, 33554431, 67108863]
theorem postroomlaw11_MarkTells.tab10 : rtab .any (opsOf Tryd.f3 10) = postroomlaw11_MarkTells.T10 := by kernel_rfl
theorem postroomlaw11_MarkTells.bits10 : waitsOk postroomlaw11_MarkTells.T10.2 postroomlaw11_MarkTells.B10 = true := by kernel_rfl
set_option maxHeartbeats 8000000 in
set_option maxRecDepth 100000 in
theorem postroomlaw11_MarkTells.calls (k : Nat) (a0_0 : Int) (a0_1 : Int) (A0_2 : Option Addr) (c0_2 : Nat) (l0_2 : List (S55)) (a1 : ByteArray) (r : Bool) (w : World) (hr0_2 : Kd.C k55 w A0_2 l0_2.length l0_2) (hc0_2 : l0_2.length ≤ c0_2) (hrt : Aside0 (r = true)) (h : postroomlaw11_MarkTells.f k a0_0 a0_1 l0_2 a1 = some r) :
  Calls Tryd.prog 3 #[.agg #[.int .u64 a0_0, .int .u64 a0_1, .slice A0_2 l0_2.length c0_2], .string a1] w fun e w' => e = .returned (.bool r) ∧ Below w.heap.size w w' := by
 have hu25 := Tryd.underlying25
 have hu30 := Tryd.underlying30
 have HR0_2 := Aside0.mk hr0_2
 have HC0_2 := Aside0.mk hc0_2
 clear hr0_2 hc0_2
 have HB := Aside0.mk (Below.refl w.heap.size w)
 have H : ((postroomlaw11_shown.f k).bind fun t338 => ((postroomlaw11_few.f k a0_0 a0_1 l0_2).bind fun t339 => (if t338 = true then (if t339 = true then (postroomlaw11_MarkTells.j0 k a1 t338 (decide ((a1.size : Int) > 2000)) a0_0 a0_1 l0_2) else (postroomlaw11_MarkTells.j0 k a1 t338 true a0_0 a0_1 l0_2)) else (postroomlaw11_MarkTells.j0 k a1 t338 true a0_0 a0_1 l0_2)))) = some r := h
 clear h
 replace H := Option.bind_eq_some_iff.mp H
 obtain ⟨t338, A30, H⟩ := H
 replace H : ((postroomlaw11_few.f k a0_0 a0_1 l0_2).bind fun t339 => (if t338 = true then (if t339 = true then (postroomlaw11_MarkTells.j0 k a1 t338 (decide ((a1.size : Int) > 2000)) a0_0 a0_1 l0_2) else (postroomlaw11_MarkTells.j0 k a1 t338 true a0_0 a0_1 l0_2)) else (postroomlaw11_MarkTells.j0 k a1 t338 true a0_0 a0_1 l0_2))) = some r := H
 have A3 := Aside0.mk A30
 clear A30
 replace H := Option.bind_eq_some_iff.mp H
 obtain ⟨t339, A40, H⟩ := H
 replace H : (if t338 = true then (if t339 = true then (postroomlaw11_MarkTells.j0 k a1 t338 (decide ((a1.size : Int) > 2000)) a0_0 a0_1 l0_2) else (postroomlaw11_MarkTells.j0 k a1 t338 true a0_0 a0_1 l0_2)) else (postroomlaw11_MarkTells.j0 k a1 t338 true a0_0 a0_1 l0_2)) = some r := H
 have A4 := Aside0.mk A40
 clear A40
 have HC5 := Aside0.mk H
 clear H
 go_enter Tryd.func3, Tryd.ntmps3
 go_upto_region 3 with (first | ((with_reducible refine gate_dst (N := 2) rfl ?_); (try (refine gate_guard (by rfl) ?_; dsimp only)); refine box_event ?hg (N := 2) ?hd (cs := #[.int .u64 a0_0, .int .u64 a0_1, .slice A0_2 l0_2.length c0_2]) (t := 25) ?hr ?_; (case hd => rfl); (case hg => rfl); (case hr => first | (go_simp; done) | (go_simp; rfl)); intro gb337 hg w6 hbox hb; have n0_ := Aside0.mk (below_step zx24_17 hb); have n1_ := Aside0.mk (hbox); have n2_ := Aside0.mk ((by rw [hg]; exact (below_size zx24_17) : w.heap.size ≤ gb337)); have n3_ := Aside0.mk ((by rw [hg]; exact (below_size zx24_17) : w.heap.size ≤ gb337)); clear HB; have HB := n0_; have BK337 := n1_; have GW337 := n2_; have GE337 := n3_; clear n0_ n1_ n2_ n3_; clear hb hbox hg) | ((with_reducible refine gate_callee (f := 8) rfl ?_); refine goesL_ (some 16) rfl rfl Tryd.func8 (by kernel_rfl) rfl #[] rfl zx24_2 ?_; (with_reducible refine (postroomlaw11_shown.calls k  t338 _ A3.out).mono ?_); rintro e w7 ⟨rfl, hb⟩; refine ⟨_, rfl, ?_⟩; have n0_ := Aside0.mk (blk_below (g := gb337) (o := .cells #[.int .u64 a0_0, .int .u64 a0_1, .slice A0_2 l0_2.length c0_2] 25 (0, 0)) zx24_0 hb); have n1_ := Aside0.mk (below_step zx24_4 hb); clear BK337; clear HB; have BK337 := n0_; have HB := n1_; clear n0_ n1_; (try clear hb); (try clear hb2); (try clear hk); (try clear hi); have hcz8_0 : w7.cell? ⟨gb337, 0, none⟩ = some (.int .u64 a0_0) := (blk_cell BK337.out 0).trans rfl; have hcz8_1 : w7.cell? ⟨gb337, 1, none⟩ = some (.int .u64 a0_1) := (blk_cell BK337.out 1).trans rfl; have hcz8_2 : w7.cell? ⟨gb337, 2, none⟩ = some (.slice A0_2 l0_2.length c0_2) := (blk_cell BK337.out 2).trans rfl; have hfz8_0 := blk_frozen BK337.out 0; have hfz8_1 := blk_frozen BK337.out 1; have hfz8_2 := blk_frozen BK337.out 2) | ((with_reducible refine gate_callee (f := 9) rfl ?_); refine goesL_ (some 18) rfl rfl Tryd.func9 (by kernel_rfl) rfl #[.agg #[.int .u64 a0_0, .int .u64 a0_1, .slice A0_2 l0_2.length c0_2]] rfl zx24_2 ?_; (with_reducible refine (postroomlaw11_few.calls k a0_0 a0_1 _ _ l0_2 t339 _ ?side1 ?side2 A4.out).mono ?_); (case side1 => repeat (first | exact (Kd.C_below HR0_2.out HB.out) | (with_reducible refine Kd.C_alloc ?_ _) | (with_reducible refine Kd.C_drewN ?_ _) | (with_reducible refine Kd.C_drew ?_))); (case side2 => exact HC0_2.out); rintro e w9 ⟨rfl, hb⟩; refine ⟨_, rfl, ?_⟩; have n0_ := Aside0.mk (blk_below (g := gb337) (o := .cells #[.int .u64 a0_0, .int .u64 a0_1, .slice A0_2 l0_2.length c0_2] 25 (0, 0)) zx24_0 hb); have n1_ := Aside0.mk (below_step zx24_4 hb); clear BK337; clear HB; have BK337 := n0_; have HB := n1_; clear n0_ n1_; (try clear hb); (try clear hb2); (try clear hk); (try clear hi)))
 (try simp only [Act.put, List.setIfInBounds_toArray, List.set_cons_zero, List.set_cons_succ])
 go_cut [29] (fun v29 wc => ∃ (kq : Nat) (x29_4 : Bool), v29 = .bool x29_4 ∧ Aside0 (postroomlaw11_MarkTells.j0 kq a1 t338 x29_4 a0_0 a0_1 l0_2 = some r) ∧ Aside0 (kq ≤ k) ∧ Aside0 (wc.heap[gb337]? = some (.cells #[.int .u64 a0_0, .int .u64 a0_1, (.slice A0_2 l0_2.length c0_2)] 25 (0, 0))) ∧ Aside0 (Below w.heap.size w wc))
 case first =>
  have H := HC5.out
  clear HC5
  by_cases c10 : t338 = true
  ·subst c10
   have H1 : (if t339 = true then (postroomlaw11_MarkTells.j0 k a1 true (decide ((a1.size : Int) > 2000)) a0_0 a0_1 l0_2) else (postroomlaw11_MarkTells.j0 k a1 true true a0_0 a0_1 l0_2)) = some r := by rw [if_pos rfl] at H; exact H
   clear H
   have H := H1
   clear H1
   by_cases c11 : t339 = true
   ·subst c11
    have H1 : (postroomlaw11_MarkTells.j0 k a1 true (decide ((a1.size : Int) > 2000)) a0_0 a0_1 l0_2) = some r := by rw [if_pos rfl] at H; exact H
    clear H
    have H := H1
    clear H1
    have H' := Aside0.mk H
    clear H
    go_wp2
    go_meet
    case rel => exact ⟨_, (decide ((a1.size : Int) > 2000)), (by first | rfl | (simp; done) | (simp [*]; done)), H', ⟨by first | omega | exact Nat.le_refl _⟩, ⟨by (with_reducible repeat (first | refine blk_drewN ?_ _ | refine blk_drew ?_ | refine blk_alloc ?_ _)); exact BK337.out⟩, ⟨by repeat (first | (with_reducible first | exact HB.out | apply below_alloc | apply pw_below_drewN | apply below_drew1 | refine below_set ?_ GE337.out) | exact HB.out)⟩⟩
   ·replace c11 := Bool.eq_false_iff.mpr c11
    subst c11
    have H1 : (postroomlaw11_MarkTells.j0 k a1 true true a0_0 a0_1 l0_2) = some r := by rw [if_neg (show ¬ (false = true) by decide)] at H; exact H
    clear H
    have H := H1
    clear H1
    have H' := Aside0.mk H
    clear H
    go_wp2
    go_meet
    case rel => exact ⟨_, (true), (by first | rfl | (simp; done) | (simp [*]; done)), H', ⟨by first | omega | exact Nat.le_refl _⟩, ⟨by (with_reducible repeat (first | refine blk_drewN ?_ _ | refine blk_drew ?_ | refine blk_alloc ?_ _)); exact BK337.out⟩, ⟨by repeat (first | (with_reducible first | exact HB.out | apply below_alloc | apply pw_below_drewN | apply below_drew1 | refine below_set ?_ GE337.out) | exact HB.out)⟩⟩
  ·replace c10 := Bool.eq_false_iff.mpr c10
   subst c10
   have H1 : (postroomlaw11_MarkTells.j0 k a1 false true a0_0 a0_1 l0_2) = some r := by rw [if_neg (show ¬ (false = true) by decide)] at H; exact H
   clear H
   have H := H1
   clear H1
   have H' := Aside0.mk H
   clear H
   go_wp2
   go_meet
   case rel => exact ⟨_, (true), (by first | rfl | (simp; done) | (simp [*]; done)), H', ⟨by first | omega | exact Nat.le_refl _⟩, ⟨by (with_reducible repeat (first | refine blk_drewN ?_ _ | refine blk_drew ?_ | refine blk_alloc ?_ _)); exact BK337.out⟩, ⟨by repeat (first | (with_reducible first | exact HB.out | apply below_alloc | apply pw_below_drewN | apply below_drew1 | refine below_set ?_ GE337.out) | exact HB.out)⟩⟩
 case rest =>
  clear HC5
  (try clear c1); (try clear p2); (try clear c3); (try clear c8); (try clear c9); (try clear c10); (try clear c11); (try clear hcz8_0); (try clear hcz8_1); (try clear hcz8_2); (try clear hfz8_0); (try clear hfz8_1); (try clear hfz8_2)
  obtain ⟨kq, x29_4, rfl, HA, HJ4, BK337, HB⟩ := hcut
  cases kq with
  | zero => exact absurd HA.out (by simp [postroomlaw11_MarkTells.j0])
  | succ kj4 =>
   have H := HA.out
   clear HA
   simp only [postroomlaw11_MarkTells.j0] at H
   by_cases c12 : x29_4 = true
   ·subst c12
    have H1 : (some t338) = some r := by rw [if_pos rfl] at H; exact H
    clear H
    have H := H1
    clear H1
    obtain rfl := Option.some.inj H
    go_wp2
    go_ret
    exact ⟨by first | rfl | (simp [errW_none, errW_some] <;> rfl) | (simp [*, errW_none, errW_some] <;> rfl), by repeat (first | (with_reducible first | exact HB.out | apply below_alloc | apply pw_below_drewN | apply below_drew1 | refine below_set ?_ GE337.out) | exact HB.out)⟩
   ·replace c12 := Bool.eq_false_iff.mpr c12
    subst c12
    have H1 : ((postroomlaw11_asLedger.f kj4 a0_0 a0_1 l0_2).bind fun bt340 => ((mark_Put.f kj4 a0_0 a0_1 l0_2).bind fun bt346 => ((postroomref11_Put.f kj4 bt340.1 bt340.2.1 bt340.2.2).bind fun bt348 => ((mark_Take.f kj4 a1).bind fun bt350 => ((postroomref11_Take.f kj4 a1).bind fun bt357 => ((ledger_Right.f kj4 a0_0 a0_1 l0_2).bind fun t364 => ((postroomref11_Right.f kj4 bt340.1 bt340.2.1 bt340.2.2).bind fun t365 => (if (t364 == t365) = true then (if bt346.1.toList = bt348.1.toList then (if bt346.2 = bt348.2 then ((postroomlaw11_asLedger.f kj4 bt350.1 bt350.2.1 bt350.2.2.1).bind fun bt366 => ((postroomref11_Same.f kj4 bt366.1 bt366.2.1 bt366.2.2 bt357.1 bt357.2.1 bt357.2.2.1).bind fun t371 => (if t371 = true then (some (bt350.2.2.2 == bt357.2.2.2)) else (some false)))) else (some false)) else (some false)) else (some false))))))))) = some r := by rw [if_neg (show ¬ (false = true) by decide)] at H; exact H
    clear H
    have H := H1
    clear H1
    replace H := Option.bind_eq_some_iff.mp H
    obtain ⟨⟨t340, t341, t342⟩, A130, H⟩ := H
    replace H : ((mark_Put.f kj4 a0_0 a0_1 l0_2).bind fun bt346 => ((postroomref11_Put.f kj4 t340 t341 t342).bind fun bt348 => ((mark_Take.f kj4 a1).bind fun bt350 => ((postroomref11_Take.f kj4 a1).bind fun bt357 => ((ledger_Right.f kj4 a0_0 a0_1 l0_2).bind fun t364 => ((postroomref11_Right.f kj4 t340 t341 t342).bind fun t365 => (if (t364 == t365) = true then (if bt346.1.toList = bt348.1.toList then (if bt346.2 = bt348.2 then ((postroomlaw11_asLedger.f kj4 bt350.1 bt350.2.1 bt350.2.2.1).bind fun bt366 => ((postroomref11_Same.f kj4 bt366.1 bt366.2.1 bt366.2.2 bt357.1 bt357.2.1 bt357.2.2.1).bind fun t371 => (if t371 = true then (some (bt350.2.2.2 == bt357.2.2.2)) else (some false)))) else (some false)) else (some false)) else (some false)))))))) = some r := H
    have A13 := Aside0.mk A130
    clear A130
    replace H := Option.bind_eq_some_iff.mp H
    obtain ⟨⟨t346, t347⟩, A140, H⟩ := H
    replace H : ((postroomref11_Put.f kj4 t340 t341 t342).bind fun bt348 => ((mark_Take.f kj4 a1).bind fun bt350 => ((postroomref11_Take.f kj4 a1).bind fun bt357 => ((ledger_Right.f kj4 a0_0 a0_1 l0_2).bind fun t364 => ((postroomref11_Right.f kj4 t340 t341 t342).bind fun t365 => (if (t364 == t365) = true then (if t346.toList = bt348.1.toList then (if t347 = bt348.2 then ((postroomlaw11_asLedger.f kj4 bt350.1 bt350.2.1 bt350.2.2.1).bind fun bt366 => ((postroomref11_Same.f kj4 bt366.1 bt366.2.1 bt366.2.2 bt357.1 bt357.2.1 bt357.2.2.1).bind fun t371 => (if t371 = true then (some (bt350.2.2.2 == bt357.2.2.2)) else (some false)))) else (some false)) else (some false)) else (some false))))))) = some r := H
    have A14 := Aside0.mk A140
    clear A140
    replace H := Option.bind_eq_some_iff.mp H
    obtain ⟨⟨t348, t349⟩, A150, H⟩ := H
    replace H : ((mark_Take.f kj4 a1).bind fun bt350 => ((postroomref11_Take.f kj4 a1).bind fun bt357 => ((ledger_Right.f kj4 a0_0 a0_1 l0_2).bind fun t364 => ((postroomref11_Right.f kj4 t340 t341 t342).bind fun t365 => (if (t364 == t365) = true then (if t346.toList = t348.toList then (if t347 = t349 then ((postroomlaw11_asLedger.f kj4 bt350.1 bt350.2.1 bt350.2.2.1).bind fun bt366 => ((postroomref11_Same.f kj4 bt366.1 bt366.2.1 bt366.2.2 bt357.1 bt357.2.1 bt357.2.2.1).bind fun t371 => (if t371 = true then (some (bt350.2.2.2 == bt357.2.2.2)) else (some false)))) else (some false)) else (some false)) else (some false)))))) = some r := H
    have A15 := Aside0.mk A150
    clear A150
    replace H := Option.bind_eq_some_iff.mp H
    obtain ⟨⟨t350, t351, t352, t355⟩, A160, H⟩ := H
    replace H : ((postroomref11_Take.f kj4 a1).bind fun bt357 => ((ledger_Right.f kj4 a0_0 a0_1 l0_2).bind fun t364 => ((postroomref11_Right.f kj4 t340 t341 t342).bind fun t365 => (if (t364 == t365) = true then (if t346.toList = t348.toList then (if t347 = t349 then ((postroomlaw11_asLedger.f kj4 t350 t351 t352).bind fun bt366 => ((postroomref11_Same.f kj4 bt366.1 bt366.2.1 bt366.2.2 bt357.1 bt357.2.1 bt357.2.2.1).bind fun t371 => (if t371 = true then (some (t355 == bt357.2.2.2)) else (some false)))) else (some false)) else (some false)) else (some false))))) = some r := H
    have A16 := Aside0.mk A160
    clear A160
    replace H := Option.bind_eq_some_iff.mp H
    obtain ⟨⟨t357, t358, t359, t362⟩, A170, H⟩ := H
    replace H : ((ledger_Right.f kj4 a0_0 a0_1 l0_2).bind fun t364 => ((postroomref11_Right.f kj4 t340 t341 t342).bind fun t365 => (if (t364 == t365) = true then (if t346.toList = t348.toList then (if t347 = t349 then ((postroomlaw11_asLedger.f kj4 t350 t351 t352).bind fun bt366 => ((postroomref11_Same.f kj4 bt366.1 bt366.2.1 bt366.2.2 t357 t358 t359).bind fun t371 => (if t371 = true then (some (t355 == t362)) else (some false)))) else (some false)) else (some false)) else (some false)))) = some r := H
    have A17 := Aside0.mk A170
    clear A170
    replace H := Option.bind_eq_some_iff.mp H
    obtain ⟨t364, A180, H⟩ := H
    replace H : ((postroomref11_Right.f kj4 t340 t341 t342).bind fun t365 => (if (t364 == t365) = true then (if t346.toList = t348.toList then (if t347 = t349 then ((postroomlaw11_asLedger.f kj4 t350 t351 t352).bind fun bt366 => ((postroomref11_Same.f kj4 bt366.1 bt366.2.1 bt366.2.2 t357 t358 t359).bind fun t371 => (if t371 = true then (some (t355 == t362)) else (some false)))) else (some false)) else (some false)) else (some false))) = some r := H
    have A18 := Aside0.mk A180
    clear A180
    replace H := Option.bind_eq_some_iff.mp H
    obtain ⟨t365, A190, H⟩ := H
    replace H : (if (t364 == t365) = true then (if t346.toList = t348.toList then (if t347 = t349 then ((postroomlaw11_asLedger.f kj4 t350 t351 t352).bind fun bt366 => ((postroomref11_Same.f kj4 bt366.1 bt366.2.1 bt366.2.2 t357 t358 t359).bind fun t371 => (if t371 = true then (some (t355 == t362)) else (some false)))) else (some false)) else (some false)) else (some false)) = some r := H
    have A19 := Aside0.mk A190
    clear A190
    by_cases c20 : (t364 == t365) = true
    ·rw [if_pos c20] at H
     have c20b0 : (t364 == t365) = true := c20
     (try (have c20b1 : decide (t364 = t365) = true := by simpa using c20))
     (try (have c20b2 : (t364 == t365) = true := by simpa using c20))
     clear c20
     by_cases c21 : t346.toList = t348.toList
     ·rw [if_pos c21] at H
      have c21b0 : (t346.toList == t348.toList) = true := beq_iff_eq.mpr c21
      have c21b1 : (t346.toList != t348.toList) = false := bne_eq_false_iff_eq.mpr c21
      clear c21
      by_cases c22 : t347 = t349
      ·rw [if_pos c22] at H
       have c22b0 : (t347 == t349) = true := beq_iff_eq.mpr c22
       have c22b1 : (t347 != t349) = false := bne_eq_false_iff_eq.mpr c22
       clear c22
       replace H := Option.bind_eq_some_iff.mp H
       obtain ⟨⟨t366, t367, t368⟩, A230, H⟩ := H
       replace H : ((postroomref11_Same.f kj4 t366 t367 t368 t357 t358 t359).bind fun t371 => (if t371 = true then (some (t355 == t362)) else (some false))) = some r := H
       have A23 := Aside0.mk A230
       clear A230
       replace H := Option.bind_eq_some_iff.mp H
       obtain ⟨t371, A240, H⟩ := H
       replace H : (if t371 = true then (some (t355 == t362)) else (some false)) = some r := H
       have A24 := Aside0.mk A240
       clear A240
       by_cases c25 : t371 = true
       ·subst c25
        have H1 : (some (t355 == t362)) = some r := by rw [if_pos rfl] at H; exact H
        clear H
        have H := H1
        clear H1
        obtain rfl := Option.some.inj H
        obtain ⟨hcz26_0, hcz26_1, hcz26_2, hfz26_0, hfz26_1, hfz26_2⟩ := cx24_bc3 BK337.out
        try go_wp2_with (first | ((with_reducible refine gate_callee (f := 10) rfl ?_); refine goesL_ (some 32) rfl rfl Tryd.func10 (by kernel_rfl) rfl #[.agg #[.int .u64 a0_0, .int .u64 a0_1, .slice A0_2 l0_2.length c0_2]] rfl zx24_2 ?_; (with_reducible refine (postroomlaw11_asLedger.calls kj4 a0_0 a0_1 (fun k_ => k_ < w.heap.size) _ _ l0_2 t340 t341 t342 _ ?side1 A13.out).mono ?_); (case side1 => exact Kd.V_mk HC0_2.out (Kd.F_below (Kd.C_F k55_heap HR0_2.out) zx24_4)); rintro e w27 ⟨v343, rfl, ho0, hb⟩; refine ⟨_, rfl, ?_⟩; have n0_ := Aside0.mk (Kd.N_lower (Kd.N_mono (ok' := fun k_ => k_ ≠ gb337) ho0 (fun k_ hk_ => Or.elim hk_ (fun hs_ => fun e_ => Nat.not_le.2 hs_ (by rw [e_]; exact GW337.out)) (fun hn_ => (Kd.freshB (g := gb337) (o := .cells #[.int .u64 a0_0, .int .u64 a0_1, .slice A0_2 l0_2.length c0_2] 25 (0, 0)) zx24_0 k_ hn_)))) (below_size zx24_4)); have n1_ := Aside0.mk (blk_below (g := gb337) (o := .cells #[.int .u64 a0_0, .int .u64 a0_1, .slice A0_2 l0_2.length c0_2] 25 (0, 0)) zx24_0 hb); have n2_ := Aside0.mk (below_step zx24_4 hb); clear BK337; clear HB; have HO344 := n0_; have BK337 := n1_; have HB := n2_; clear n0_ n1_ n2_; (try clear hb); (try clear hb2); (try clear hk); (try clear hi); (try clear ho0)) | ((with_reducible refine gate_dst (N := 7) rfl ?_); (try (refine gate_guard (by rfl) ?_; dsimp only)); refine box_event ?hg (N := 7) ?hd (cs := #[.int .u64 0, .int .u64 0, .slice none 0 0]) (t := 30) ?hr ?_; (case hd => rfl); (case hg => rfl); (case hr => first | (go_simp; done) | (go_simp; rfl)); intro gb345 hg w28 hbox hb; have n0_ := Aside0.mk (Kd.N_below (Kd.N_elderB zx24_6 gb345 (Nat.le_of_eq hg.symm)) hb); have n1_ := Aside0.mk (blk_below (g := gb337) (o := .cells #[.int .u64 a0_0, .int .u64 a0_1, .slice A0_2 l0_2.length c0_2] 25 (0, 0)) zx24_0 hb); have n2_ := Aside0.mk (below_step zx24_4 hb); have n3_ := Aside0.mk (hbox); have n4_ := Aside0.mk ((by rw [hg]; exact (below_size zx24_4) : w.heap.size ≤ gb345)); have n5_ := Aside0.mk ((by rw [hg]; exact (below_size zx24_4) : w.heap.size ≤ gb345)); have n6_ := Aside0.mk ((by rw [hg]; exact Nat.ne_of_lt (blk_lt (g := gb337) (o := .cells #[.int .u64 a0_0, .int .u64 a0_1, .slice A0_2 l0_2.length c0_2] 25 (0, 0)) zx24_0) : gb337 ≠ gb345)); have n7_ := Aside0.mk ((by rw [hg]; exact Nat.ne_of_gt (blk_lt (g := gb337) (o := .cells #[.int .u64 a0_0, .int .u64 a0_1, .slice A0_2 l0_2.length c0_2] 25 (0, 0)) zx24_0) : gb345 ≠ gb337)); clear HO344; clear BK337; clear HB; have HO344 := n0_; have BK337 := n1_; have HB := n2_; have BK345 := n3_; have GW345 := n4_; have GE345 := n5_; have NB337_345 := n6_; have NB345_337 := n7_; clear n0_ n1_ n2_ n3_ n4_ n5_ n6_ n7_; clear hb hbox hg; have hnb29 := NB345_337.out; have hnc29 := NB337_345.out; have hcz30_0 : w28.cell? ⟨gb345, 0, none⟩ = some (.int .u64 0) := (blk_cell BK345.out 0).trans rfl; have hcz30_1 : w28.cell? ⟨gb345, 1, none⟩ = some (.int .u64 0) := (blk_cell BK345.out 1).trans rfl; have hcz30_2 : w28.cell? ⟨gb345, 2, none⟩ = some (.slice none 0 0) := (blk_cell BK345.out 2).trans rfl; have hfz30_0 := blk_frozen BK345.out 0; have hfz30_1 := blk_frozen BK345.out 1; have hfz30_2 := blk_frozen BK345.out 2; obtain ⟨Ao31, co31, eo31⟩ := Kd.N_slice HO344.out; subst eo31; have hcz32_0 : w28.cell? ⟨gb337, 0, none⟩ = some (.int .u64 a0_0) := (blk_cell BK337.out 0).trans rfl; have hcz32_1 : w28.cell? ⟨gb337, 1, none⟩ = some (.int .u64 a0_1) := (blk_cell BK337.out 1).trans rfl; have hcz32_2 : w28.cell? ⟨gb337, 2, none⟩ = some (.slice A0_2 l0_2.length c0_2) := (blk_cell BK337.out 2).trans rfl; have hfz32_0 := blk_frozen BK337.out 0; have hfz32_1 := blk_frozen BK337.out 1; have hfz32_2 := blk_frozen BK337.out 2) | ((with_reducible refine gate_callee (f := 11) rfl ?_); refine goesL_ (some 35) rfl rfl Tryd.func11 (by kernel_rfl) rfl #[.agg #[.int .u64 a0_0, .int .u64 a0_1, .slice A0_2 l0_2.length c0_2]] rfl zx24_2 ?_; (with_reducible refine (mark_Put.calls kj4 a0_0 a0_1 _ _ l0_2 t346 t347 _ ?side1 ?side2 A14.out).mono ?_); (case side1 => exact Kd.C_below HR0_2.out zx24_3); (case side2 => exact HC0_2.out); rintro e w33 ⟨rfl, hb⟩; refine ⟨_, rfl, ?_⟩; have n0_ := Aside0.mk (Kd.N_below (by (with_reducible repeat (first | apply Kd.N_alloc | apply Kd.N_drewN | apply Kd.N_drew)); exact (Kd.N_mono (Kd.N_far (p := ⟨gb345, 2, none⟩) (Kd.N_far (p := ⟨gb345, 1, none⟩) (Kd.N_far (p := ⟨gb345, 0, none⟩) (Kd.N_mono HO344.out (fun k_ hk => (⟨hk, hk.2⟩ : _ ∧ k_ ≠ gb345))) (fun _ hk => hk.2) (.int .u64 t340)) (fun _ hk => hk.2) (.int .u64 t341)) (fun _ hk => hk.2) (.slice Ao31 t342.length co31)) (fun _ h_ => h_.1))) hb); have n1_ := Aside0.mk (blk_below (g := gb337) (o := .cells #[.int .u64 a0_0, .int .u64 a0_1, .slice A0_2 l0_2.length c0_2] 25 (0, 0)) (by (with_reducible repeat (first | refine blk_drewN ?_ _ | refine blk_drew ?_ | refine blk_alloc ?_ _)); refine blk_far ?_ NB337_345.out _; (with_reducible repeat (first | refine blk_drewN ?_ _ | refine blk_drew ?_ | refine blk_alloc ?_ _)); refine blk_far ?_ NB337_345.out _; (with_reducible repeat (first | refine blk_drewN ?_ _ | refine blk_drew ?_ | refine blk_alloc ?_ _)); refine blk_far ?_ NB337_345.out _; (with_reducible repeat (first | refine blk_drewN ?_ _ | refine blk_drew ?_ | refine blk_alloc ?_ _)); exact BK337.out) hb); have n2_ := Aside0.mk (blk_below (g := gb345) (o := .cells #[.int .u64 t340, .int .u64 t341, .slice Ao31 t342.length co31] 30 (0, 0)) (by (with_reducible repeat (first | refine blk_drewN ?_ _ | refine blk_drew ?_ | refine blk_alloc ?_ _)); refine blk_put (cs := #[.int .u64 t340, .int .u64 t341, .slice none 0 0]) ?_ 2 _ rfl; (with_reducible repeat (first | refine blk_drewN ?_ _ | refine blk_drew ?_ | refine blk_alloc ?_ _)); refine blk_put (cs := #[.int .u64 t340, .int .u64 0, .slice none 0 0]) ?_ 1 _ rfl; (with_reducible repeat (first | refine blk_drewN ?_ _ | refine blk_drew ?_ | refine blk_alloc ?_ _)); refine blk_put (cs := #[.int .u64 0, .int .u64 0, .slice none 0 0]) ?_ 0 _ rfl; (with_reducible repeat (first | refine blk_drewN ?_ _ | refine blk_drew ?_ | refine blk_alloc ?_ _)); exact BK345.out) hb); have n3_ := Aside0.mk (below_step zx24_3 hb); clear HO344; clear BK337; clear BK345; clear HB; have HO344 := n0_; have BK337 := n1_; have BK345 := n2_; have HB := n3_; clear n0_ n1_ n2_ n3_; (try clear hb); (try clear hb2); (try clear hk); (try clear hi); have hcz34_0 : w33.cell? ⟨gb345, 0, none⟩ = some (.int .u64 t340) := (blk_cell BK345.out 0).trans rfl; have hcz34_1 : w33.cell? ⟨gb345, 1, none⟩ = some (.int .u64 t341) := (blk_cell BK345.out 1).trans rfl; have hcz34_2 : w33.cell? ⟨gb345, 2, none⟩ = some (.slice Ao31 t342.length co31) := (blk_cell BK345.out 2).trans rfl; have hfz34_0 := blk_frozen BK345.out 0; have hfz34_1 := blk_frozen BK345.out 1; have hfz34_2 := blk_frozen BK345.out 2) | ((with_reducible refine gate_callee (f := 12) rfl ?_); refine goesL_ (some 40) rfl rfl Tryd.func12 (by kernel_rfl) rfl #[.agg #[.int .u64 t340, .int .u64 t341, .slice Ao31 t342.length co31]] rfl zx24_2 ?_; (with_reducible refine (postroomref11_Put.calls kj4 t340 t341 _ _ t342 t348 t349 _ ?side1 ?side2 A15.out).mono ?_); (case side1 => repeat (first | exact (Kd.N_reads' HO344.out).2.2 | (with_reducible refine Kd.C_alloc ?_ _) | (with_reducible refine Kd.C_drewN ?_ _) | (with_reducible refine Kd.C_drew ?_))); (case side2 => exact (Kd.N_reads' HO344.out).2.1); rintro e w35 ⟨rfl, hb⟩; refine ⟨_, rfl, ?_⟩; have n0_ := Aside0.mk (Kd.N_below zx24_6 hb); have n1_ := Aside0.mk (blk_below (g := gb337) (o := .cells #[.int .u64 a0_0, .int .u64 a0_1, .slice A0_2 l0_2.length c0_2] 25 (0, 0)) zx24_0 hb); have n2_ := Aside0.mk (blk_below (g := gb345) (o := .cells #[.int .u64 t340, .int .u64 t341, .slice Ao31 t342.length co31] 30 (0, 0)) zx24_1 hb); have n3_ := Aside0.mk (below_step zx24_3 hb); clear HO344; clear BK337; clear BK345; clear HB; have HO344 := n0_; have BK337 := n1_; have BK345 := n2_; have HB := n3_; clear n0_ n1_ n2_ n3_; (try clear hb); (try clear hb2); (try clear hk); (try clear hi)) | ((with_reducible refine gate_callee (f := 13) rfl ?_); refine goesL_ (some 45) rfl rfl Tryd.func13 (by kernel_rfl) rfl #[.string a1] rfl zx24_2 ?_; (with_reducible refine (mark_Take.calls kj4 a1 t350 t351 t352 t355 _ A16.out).mono ?_); rintro e w36 ⟨v353, rfl, ho0, hb⟩; refine ⟨_, rfl, ?_⟩; have n0_ := Aside0.mk (Kd.N_elder' zx24_6 (Kd.N_base (Kd.S_N (Kd.S_bound ho0))) hb); have n1_ := Aside0.mk (Kd.N_lower (Kd.N_mono (ok' := fun k_ => some k_ ≠ (.slice Ao31 t342.length co31 : Value).ownBlock ∧ k_ ≠ gb337 ∧ k_ ≠ gb345) (Kd.S_N (Kd.S_bound ho0)) (fun k_ hk_ => ⟨(Kd.fresh' (Kd.N_lt zx24_6) k_ hk_.2.1), (Kd.freshB (g := gb337) (o := .cells #[.int .u64 a0_0, .int .u64 a0_1, .slice A0_2 l0_2.length c0_2] 25 (0, 0)) zx24_0 k_ hk_.2.1), (Kd.freshB (g := gb345) (o := .cells #[.int .u64 t340, .int .u64 t341, .slice Ao31 t342.length co31] 30 (0, 0)) zx24_1 k_ hk_.2.1)⟩)) (below_size zx24_3)); have n2_ := Aside0.mk (blk_below (g := gb337) (o := .cells #[.int .u64 a0_0, .int .u64 a0_1, .slice A0_2 l0_2.length c0_2] 25 (0, 0)) zx24_0 hb); have n3_ := Aside0.mk (blk_below (g := gb345) (o := .cells #[.int .u64 t340, .int .u64 t341, .slice Ao31 t342.length co31] 30 (0, 0)) zx24_1 hb); have n4_ := Aside0.mk (below_step zx24_3 hb); clear HO344; clear BK337; clear BK345; clear HB; have HO344 := n0_; have HO354 := n1_; have BK337 := n2_; have BK345 := n3_; have HB := n4_; clear n0_ n1_ n2_ n3_ n4_; (try clear hb); (try clear hb2); (try clear hk); (try clear hi); (try clear ho0)) | ((with_reducible refine gate_dst (N := 12) rfl ?_); (try (refine gate_guard (by rfl) ?_; dsimp only)); refine box_event ?hg (N := 12) ?hd (cs := #[.int .u64 0, .int .u64 0, .slice none 0 0]) (t := 25) ?hr ?_; (case hd => rfl); (case hg => rfl); (case hr => first | (go_simp; done) | (go_simp; rfl)); intro gb356 hg w37 hbox hb; have n0_ := Aside0.mk (Kd.N_below (Kd.N_elderB zx24_6 gb356 (Nat.le_of_eq hg.symm)) hb); have n1_ := Aside0.mk (Kd.N_below (Kd.N_elderB zx24_12 gb356 (Nat.le_of_eq hg.symm)) hb); have n2_ := Aside0.mk (blk_below (g := gb337) (o := .cells #[.int .u64 a0_0, .int .u64 a0_1, .slice A0_2 l0_2.length c0_2] 25 (0, 0)) zx24_0 hb); have n3_ := Aside0.mk (blk_below (g := gb345) (o := .cells #[.int .u64 t340, .int .u64 t341, .slice Ao31 t342.length co31] 30 (0, 0)) zx24_1 hb); have n4_ := Aside0.mk (below_step zx24_3 hb); have n5_ := Aside0.mk (hbox); have n6_ := Aside0.mk ((by rw [hg]; exact (below_size zx24_3) : w.heap.size ≤ gb356)); have n7_ := Aside0.mk ((by rw [hg]; exact (below_size zx24_3) : w.heap.size ≤ gb356)); have n8_ := Aside0.mk ((by rw [hg]; exact Nat.ne_of_lt (blk_lt (g := gb337) (o := .cells #[.int .u64 a0_0, .int .u64 a0_1, .slice A0_2 l0_2.length c0_2] 25 (0, 0)) zx24_0) : gb337 ≠ gb356)); have n9_ := Aside0.mk ((by rw [hg]; exact Nat.ne_of_gt (blk_lt (g := gb337) (o := .cells #[.int .u64 a0_0, .int .u64 a0_1, .slice A0_2 l0_2.length c0_2] 25 (0, 0)) zx24_0) : gb356 ≠ gb337)); have n10_ := Aside0.mk ((by rw [hg]; exact Nat.ne_of_lt (blk_lt (g := gb345) (o := .cells #[.int .u64 t340, .int .u64 t341, .slice Ao31 t342.length co31] 30 (0, 0)) zx24_1) : gb345 ≠ gb356)); have n11_ := Aside0.mk ((by rw [hg]; exact Nat.ne_of_gt (blk_lt (g := gb345) (o := .cells #[.int .u64 t340, .int .u64 t341, .slice Ao31 t342.length co31] 30 (0, 0)) zx24_1) : gb356 ≠ gb345)); clear HO344; clear HO354; clear BK337; clear BK345; clear HB; have HO344 := n0_; have HO354 := n1_; have BK337 := n2_; have BK345 := n3_; have HB := n4_; have BK356 := n5_; have GW356 := n6_; have GE356 := n7_; have NB337_356 := n8_; have NB356_337 := n9_; have NB345_356 := n10_; have NB356_345 := n11_; clear n0_ n1_ n2_ n3_ n4_ n5_ n6_ n7_ n8_ n9_ n10_ n11_; clear hb hbox hg; have hnb38 := NB356_337.out; have hnc38 := NB337_356.out; have hnb39 := NB356_345.out; have hnc39 := NB345_356.out; have hcz40_0 : w37.cell? ⟨gb356, 0, none⟩ = some (.int .u64 0) := (blk_cell BK356.out 0).trans rfl; have hcz40_1 : w37.cell? ⟨gb356, 1, none⟩ = some (.int .u64 0) := (blk_cell BK356.out 1).trans rfl; have hcz40_2 : w37.cell? ⟨gb356, 2, none⟩ = some (.slice none 0 0) := (blk_cell BK356.out 2).trans rfl; have hfz40_0 := blk_frozen BK356.out 0; have hfz40_1 := blk_frozen BK356.out 1; have hfz40_2 := blk_frozen BK356.out 2; obtain ⟨Ao41, co41, eo41⟩ := Kd.N_slice HO354.out; subst eo41) | ((with_reducible refine gate_callee (f := 14) rfl ?_); refine goesL_ (some 50) rfl rfl Tryd.func14 (by kernel_rfl) rfl #[.string a1] rfl zx24_2 ?_; (with_reducible refine (postroomref11_Take.calls kj4 a1 t357 t358 t359 t362 _ A17.out).mono ?_); rintro e w42 ⟨v360, rfl, ho0, hb⟩; refine ⟨_, rfl, ?_⟩; have n0_ := Aside0.mk (Kd.N_elder' zx24_15 (Kd.N_base (Kd.S_N (Kd.S_bound ho0))) hb); have n1_ := Aside0.mk (Kd.N_elder' zx24_16 (Kd.N_base (Kd.S_N (Kd.S_bound ho0))) hb); have n2_ := Aside0.mk (Kd.N_lower (Kd.N_mono (ok' := fun k_ => some k_ ≠ (.slice Ao31 t342.length co31 : Value).ownBlock ∧ some k_ ≠ (.slice Ao41 t352.length co41 : Value).ownBlock ∧ k_ ≠ gb337 ∧ k_ ≠ gb345 ∧ k_ ≠ gb356) (Kd.S_N (Kd.S_bound ho0)) (fun k_ hk_ => ⟨(Kd.fresh' (Kd.N_lt zx24_15) k_ hk_.2.1), (Kd.fresh' (Kd.N_lt zx24_16) k_ hk_.2.1), (Kd.freshB (g := gb337) (o := .cells #[.int .u64 a0_0, .int .u64 a0_1, .slice A0_2 l0_2.length c0_2] 25 (0, 0)) zx24_10 k_ hk_.2.1), (Kd.freshB (g := gb345) (o := .cells #[.int .u64 t340, .int .u64 t341, .slice Ao31 t342.length co31] 30 (0, 0)) zx24_11 k_ hk_.2.1), (Kd.freshB (g := gb356) (o := .cells #[.int .u64 t350, .int .u64 t351, .slice Ao41 t352.length co41] 25 (0, 0)) zx24_9 k_ hk_.2.1)⟩)) (below_size zx24_7)); have n3_ := Aside0.mk (blk_below (g := gb337) (o := .cells #[.int .u64 a0_0, .int .u64 a0_1, .slice A0_2 l0_2.length c0_2] 25 (0, 0)) zx24_10 hb); have n4_ := Aside0.mk (blk_below (g := gb345) (o := .cells #[.int .u64 t340, .int .u64 t341, .slice Ao31 t342.length co31] 30 (0, 0)) zx24_11 hb); have n5_ := Aside0.mk (blk_below (g := gb356) (o := .cells #[.int .u64 t350, .int .u64 t351, .slice Ao41 t352.length co41] 25 (0, 0)) zx24_9 hb); have n6_ := Aside0.mk (below_step zx24_7 hb); clear HO344; clear HO354; clear BK337; clear BK345; clear BK356; clear HB; have HO344 := n0_; have HO354 := n1_; have HO361 := n2_; have BK337 := n3_; have BK345 := n4_; have BK356 := n5_; have HB := n6_; clear n0_ n1_ n2_ n3_ n4_ n5_ n6_; (try clear hb); (try clear hb2); (try clear hk); (try clear hi); (try clear ho0)) | ((with_reducible refine gate_dst (N := 14) rfl ?_); (try (refine gate_guard (by rfl) ?_; dsimp only)); refine box_event ?hg (N := 14) ?hd (cs := #[.int .u64 0, .int .u64 0, .slice none 0 0]) (t := 30) ?hr ?_; (case hd => rfl); (case hg => rfl); (case hr => first | (go_simp; done) | (go_simp; rfl)); intro gb363 hg w43 hbox hb; have n0_ := Aside0.mk (Kd.N_below (Kd.N_elderB zx24_6 gb363 (Nat.le_of_eq hg.symm)) hb); have n1_ := Aside0.mk (Kd.N_below (Kd.N_elderB zx24_12 gb363 (Nat.le_of_eq hg.symm)) hb); have n2_ := Aside0.mk (Kd.N_below (Kd.N_elderB zx24_13 gb363 (Nat.le_of_eq hg.symm)) hb); have n3_ := Aside0.mk (blk_below (g := gb337) (o := .cells #[.int .u64 a0_0, .int .u64 a0_1, .slice A0_2 l0_2.length c0_2] 25 (0, 0)) zx24_0 hb); have n4_ := Aside0.mk (blk_below (g := gb345) (o := .cells #[.int .u64 t340, .int .u64 t341, .slice Ao31 t342.length co31] 30 (0, 0)) zx24_1 hb); have n5_ := Aside0.mk (blk_below (g := gb356) (o := .cells #[.int .u64 t350, .int .u64 t351, .slice Ao41 t352.length co41] 25 (0, 0)) zx24_8 hb); have n6_ := Aside0.mk (below_step zx24_7 hb); have n7_ := Aside0.mk (hbox); have n8_ := Aside0.mk ((by rw [hg]; exact (below_size zx24_7) : w.heap.size ≤ gb363)); have n9_ := Aside0.mk ((by rw [hg]; exact (below_size zx24_7) : w.heap.size ≤ gb363)); have n10_ := Aside0.mk ((by rw [hg]; exact Nat.ne_of_lt (blk_lt (g := gb337) (o := .cells #[.int .u64 a0_0, .int .u64 a0_1, .slice A0_2 l0_2.length c0_2] 25 (0, 0)) zx24_0) : gb337 ≠ gb363)); have n11_ := Aside0.mk ((by rw [hg]; exact Nat.ne_of_gt (blk_lt (g := gb337) (o := .cells #[.int .u64 a0_0, .int .u64 a0_1, .slice A0_2 l0_2.length c0_2] 25 (0, 0)) zx24_0) : gb363 ≠ gb337)); have n12_ := Aside0.mk ((by rw [hg]; exact Nat.ne_of_lt (blk_lt (g := gb345) (o := .cells #[.int .u64 t340, .int .u64 t341, .slice Ao31 t342.length co31] 30 (0, 0)) zx24_1) : gb345 ≠ gb363)); have n13_ := Aside0.mk ((by rw [hg]; exact Nat.ne_of_gt (blk_lt (g := gb345) (o := .cells #[.int .u64 t340, .int .u64 t341, .slice Ao31 t342.length co31] 30 (0, 0)) zx24_1) : gb363 ≠ gb345)); have n14_ := Aside0.mk ((by rw [hg]; exact Nat.ne_of_lt (blk_lt (g := gb356) (o := .cells #[.int .u64 t350, .int .u64 t351, .slice Ao41 t352.length co41] 25 (0, 0)) zx24_8) : gb356 ≠ gb363)); have n15_ := Aside0.mk ((by rw [hg]; exact Nat.ne_of_gt (blk_lt (g := gb356) (o := .cells #[.int .u64 t350, .int .u64 t351, .slice Ao41 t352.length co41] 25 (0, 0)) zx24_8) : gb363 ≠ gb356)); clear HO344; clear HO354; clear HO361; clear BK337; clear BK345; clear BK356; clear HB; have HO344 := n0_; have HO354 := n1_; have HO361 := n2_; have BK337 := n3_; have BK345 := n4_; have BK356 := n5_; have HB := n6_; have BK363 := n7_; have GW363 := n8_; have GE363 := n9_; have NB337_363 := n10_; have NB363_337 := n11_; have NB345_363 := n12_; have NB363_345 := n13_; have NB356_363 := n14_; have NB363_356 := n15_; clear n0_ n1_ n2_ n3_ n4_ n5_ n6_ n7_ n8_ n9_ n10_ n11_ n12_ n13_ n14_ n15_; clear hb hbox hg; have hnb44 := NB363_337.out; have hnc44 := NB337_363.out; have hnb45 := NB363_345.out; have hnc45 := NB345_363.out; have hnb46 := NB363_356.out; have hnc46 := NB356_363.out; have hcz47_0 : w43.cell? ⟨gb363, 0, none⟩ = some (.int .u64 0) := (blk_cell BK363.out 0).trans rfl; have hcz47_1 : w43.cell? ⟨gb363, 1, none⟩ = some (.int .u64 0) := (blk_cell BK363.out 1).trans rfl; have hcz47_2 : w43.cell? ⟨gb363, 2, none⟩ = some (.slice none 0 0) := (blk_cell BK363.out 2).trans rfl; have hfz47_0 := blk_frozen BK363.out 0; have hfz47_1 := blk_frozen BK363.out 1; have hfz47_2 := blk_frozen BK363.out 2; obtain ⟨Ao48, co48, eo48⟩ := Kd.N_slice HO361.out; subst eo48))
        have n0_ : Aside0 (Kd.N k57 57 (((w43.setCell ⟨gb363, 0, none⟩ (.int .u64 t357)).setCell ⟨gb363, 1, none⟩ (.int .u64 t358)).setCell ⟨gb363, 2, none⟩ (.slice Ao48 t359.length co48)) w.heap.size (fun k_ => some k_ ≠ (.slice Ao41 t352.length co41 : Value).ownBlock ∧ some k_ ≠ (.slice Ao48 t359.length co48 : Value).ownBlock ∧ k_ ≠ gb337 ∧ k_ ≠ gb345 ∧ k_ ≠ gb356 ∧ k_ ≠ gb363) (.slice Ao31 t342.length co31) t342) := ⟨by (with_reducible repeat (first | apply Kd.N_alloc | apply Kd.N_drewN | apply Kd.N_drew)); exact Kd.N_mono (Kd.N_far (p := ⟨gb363, 2, none⟩) (Kd.N_far (p := ⟨gb363, 1, none⟩) (Kd.N_far (p := ⟨gb363, 0, none⟩) (Kd.N_mono HO344.out (fun k_ hk => (⟨hk, hk.2⟩ : _ ∧ k_ ≠ gb363))) (fun _ hk => hk.2) (.int .u64 t357)) (fun _ hk => hk.2) (.int .u64 t358)) (fun _ hk => hk.2) (.slice Ao48 t359.length co48)) (fun _ hk => ⟨hk.1.1.1.1.2, ⟨hk.1.1.2, ⟨hk.1.1.1.1.1.1, ⟨hk.1.1.1.1.1.2, ⟨hk.1.1.1.2, hk.1.2⟩⟩⟩⟩⟩)⟩
        have n1_ : Aside0 (Kd.N k55 55 (((w43.setCell ⟨gb363, 0, none⟩ (.int .u64 t357)).setCell ⟨gb363, 1, none⟩ (.int .u64 t358)).setCell ⟨gb363, 2, none⟩ (.slice Ao48 t359.length co48)) w.heap.size (fun k_ => some k_ ≠ (.slice Ao31 t342.length co31 : Value).ownBlock ∧ some k_ ≠ (.slice Ao48 t359.length co48 : Value).ownBlock ∧ k_ ≠ gb337 ∧ k_ ≠ gb345 ∧ k_ ≠ gb356 ∧ k_ ≠ gb363) (.slice Ao41 t352.length co41) t352) := ⟨by (with_reducible repeat (first | apply Kd.N_alloc | apply Kd.N_drewN | apply Kd.N_drew)); exact Kd.N_mono (Kd.N_far (p := ⟨gb363, 2, none⟩) (Kd.N_far (p := ⟨gb363, 1, none⟩) (Kd.N_far (p := ⟨gb363, 0, none⟩) (Kd.N_mono HO354.out (fun k_ hk => (⟨hk, hk.2⟩ : _ ∧ k_ ≠ gb363))) (fun _ hk => hk.2) (.int .u64 t357)) (fun _ hk => hk.2) (.int .u64 t358)) (fun _ hk => hk.2) (.slice Ao48 t359.length co48)) (fun _ hk => ⟨hk.1.1.1.1.1, ⟨hk.1.1.2, ⟨hk.1.1.1.1.2.1, ⟨hk.1.1.1.1.2.2, ⟨hk.1.1.1.2, hk.1.2⟩⟩⟩⟩⟩)⟩
        have n2_ : Aside0 (Kd.N k57 57 (((w43.setCell ⟨gb363, 0, none⟩ (.int .u64 t357)).setCell ⟨gb363, 1, none⟩ (.int .u64 t358)).setCell ⟨gb363, 2, none⟩ (.slice Ao48 t359.length co48)) w.heap.size (fun k_ => some k_ ≠ (.slice Ao31 t342.length co31 : Value).ownBlock ∧ some k_ ≠ (.slice Ao41 t352.length co41 : Value).ownBlock ∧ k_ ≠ gb337 ∧ k_ ≠ gb345 ∧ k_ ≠ gb356 ∧ k_ ≠ gb363) (.slice Ao48 t359.length co48) t359) := ⟨by (with_reducible repeat (first | apply Kd.N_alloc | apply Kd.N_drewN | apply Kd.N_drew)); exact Kd.N_mono (Kd.N_far (p := ⟨gb363, 2, none⟩) (Kd.N_far (p := ⟨gb363, 1, none⟩) (Kd.N_far (p := ⟨gb363, 0, none⟩) (Kd.N_mono HO361.out (fun k_ hk => (⟨hk, hk.2⟩ : _ ∧ k_ ≠ gb363))) (fun _ hk => hk.2) (.int .u64 t357)) (fun _ hk => hk.2) (.int .u64 t358)) (fun _ hk => hk.2) (.slice Ao48 t359.length co48)) (fun _ hk => ⟨hk.1.1.1, ⟨hk.1.1.2.1, ⟨hk.1.1.2.2.1, ⟨hk.1.1.2.2.2.1, ⟨hk.1.1.2.2.2.2, hk.1.2⟩⟩⟩⟩⟩)⟩
        have n3_ : Aside0 ((((w43.setCell ⟨gb363, 0, none⟩ (.int .u64 t357)).setCell ⟨gb363, 1, none⟩ (.int .u64 t358)).setCell ⟨gb363, 2, none⟩ (.slice Ao48 t359.length co48)).heap[gb337]? = some (.cells #[.int .u64 a0_0, .int .u64 a0_1, .slice A0_2 l0_2.length c0_2] 25 (0, 0))) := ⟨by (with_reducible repeat (first | refine blk_drewN ?_ _ | refine blk_drew ?_ | refine blk_alloc ?_ _)); refine blk_far ?_ NB337_363.out _; (with_reducible repeat (first | refine blk_drewN ?_ _ | refine blk_drew ?_ | refine blk_alloc ?_ _)); refine blk_far ?_ NB337_363.out _; (with_reducible repeat (first | refine blk_drewN ?_ _ | refine blk_drew ?_ | refine blk_alloc ?_ _)); refine blk_far ?_ NB337_363.out _; (with_reducible repeat (first | refine blk_drewN ?_ _ | refine blk_drew ?_ | refine blk_alloc ?_ _)); exact BK337.out⟩
        have n4_ : Aside0 ((((w43.setCell ⟨gb363, 0, none⟩ (.int .u64 t357)).setCell ⟨gb363, 1, none⟩ (.int .u64 t358)).setCell ⟨gb363, 2, none⟩ (.slice Ao48 t359.length co48)).heap[gb345]? = some (.cells #[.int .u64 t340, .int .u64 t341, .slice Ao31 t342.length co31] 30 (0, 0))) := ⟨by (with_reducible repeat (first | refine blk_drewN ?_ _ | refine blk_drew ?_ | refine blk_alloc ?_ _)); refine blk_far ?_ NB345_363.out _; (with_reducible repeat (first | refine blk_drewN ?_ _ | refine blk_drew ?_ | refine blk_alloc ?_ _)); refine blk_far ?_ NB345_363.out _; (with_reducible repeat (first | refine blk_drewN ?_ _ | refine blk_drew ?_ | refine blk_alloc ?_ _)); refine blk_far ?_ NB345_363.out _; (with_reducible repeat (first | refine blk_drewN ?_ _ | refine blk_drew ?_ | refine blk_alloc ?_ _)); exact BK345.out⟩
        have n5_ : Aside0 ((((w43.setCell ⟨gb363, 0, none⟩ (.int .u64 t357)).setCell ⟨gb363, 1, none⟩ (.int .u64 t358)).setCell ⟨gb363, 2, none⟩ (.slice Ao48 t359.length co48)).heap[gb356]? = some (.cells #[.int .u64 t350, .int .u64 t351, .slice Ao41 t352.length co41] 25 (0, 0))) := ⟨by (with_reducible repeat (first | refine blk_drewN ?_ _ | refine blk_drew ?_ | refine blk_alloc ?_ _)); refine blk_far ?_ NB356_363.out _; (with_reducible repeat (first | refine blk_drewN ?_ _ | refine blk_drew ?_ | refine blk_alloc ?_ _)); refine blk_far ?_ NB356_363.out _; (with_reducible repeat (first | refine blk_drewN ?_ _ | refine blk_drew ?_ | refine blk_alloc ?_ _)); refine blk_far ?_ NB356_363.out _; (with_reducible repeat (first | refine blk_drewN ?_ _ | refine blk_drew ?_ | refine blk_alloc ?_ _)); exact BK356.out⟩
        have n6_ : Aside0 ((((w43.setCell ⟨gb363, 0, none⟩ (.int .u64 t357)).setCell ⟨gb363, 1, none⟩ (.int .u64 t358)).setCell ⟨gb363, 2, none⟩ (.slice Ao48 t359.length co48)).heap[gb363]? = some (.cells #[.int .u64 t357, .int .u64 t358, .slice Ao48 t359.length co48] 30 (0, 0))) := ⟨by (with_reducible repeat (first | refine blk_drewN ?_ _ | refine blk_drew ?_ | refine blk_alloc ?_ _)); refine blk_put (cs := #[.int .u64 t357, .int .u64 t358, .slice none 0 0]) ?_ 2 _ rfl; (with_reducible repeat (first | refine blk_drewN ?_ _ | refine blk_drew ?_ | refine blk_alloc ?_ _)); refine blk_put (cs := #[.int .u64 t357, .int .u64 0, .slice none 0 0]) ?_ 1 _ rfl; (with_reducible repeat (first | refine blk_drewN ?_ _ | refine blk_drew ?_ | refine blk_alloc ?_ _)); refine blk_put (cs := #[.int .u64 0, .int .u64 0, .slice none 0 0]) ?_ 0 _ rfl; (with_reducible repeat (first | refine blk_drewN ?_ _ | refine blk_drew ?_ | refine blk_alloc ?_ _)); exact BK363.out⟩
        have n7_ : Aside0 (Below w.heap.size w (((w43.setCell ⟨gb363, 0, none⟩ (.int .u64 t357)).setCell ⟨gb363, 1, none⟩ (.int .u64 t358)).setCell ⟨gb363, 2, none⟩ (.slice Ao48 t359.length co48))) := ⟨by repeat (first | (with_reducible first | exact HB.out | apply below_alloc | apply pw_below_drewN | apply below_drew1 | refine below_set ?_ GE337.out | refine below_set ?_ GE345.out | refine below_set ?_ GE356.out | refine below_set ?_ GE363.out) | exact HB.out)⟩
        (try clear HO344)
        (try clear HO354)
        (try clear HO361)
        (try clear BK337)
        (try clear BK345)
        (try clear BK356)
        (try clear BK363)
        (try clear HB)
        generalize (((w43.setCell ⟨gb363, 0, none⟩ (.int .u64 t357)).setCell ⟨gb363, 1, none⟩ (.int .u64 t358)).setCell ⟨gb363, 2, none⟩ (.slice Ao48 t359.length co48)) = w49 at n0_ n1_ n2_ n3_ n4_ n5_ n6_ n7_ ⊢
        have HO344 := n0_
        have HO354 := n1_
        have HO361 := n2_
        have BK337 := n3_
        have BK345 := n4_
        have BK356 := n5_
        have BK363 := n6_
        have HB := n7_
        clear n0_ n1_ n2_ n3_ n4_ n5_ n6_ n7_
        have n0_ := Aside0.mk (Kd.N_drew HO344.out)
        have n1_ := Aside0.mk (Kd.N_drew HO354.out)
        have n2_ := Aside0.mk (Kd.N_drew HO361.out)
        have n3_ := Aside0.mk (blk_drew BK337.out)
        have n4_ := Aside0.mk (blk_drew BK345.out)
        have n5_ := Aside0.mk (blk_drew BK356.out)
        have n6_ := Aside0.mk (blk_drew BK363.out)
        have n7_ := Aside0.mk (below_drew1 HB.out)
        clear HO344
        clear HO354
        clear HO361
        clear BK337
        clear BK345
        clear BK356
        clear BK363
        clear HB
        have HO344 := n0_
        have HO354 := n1_
        have HO361 := n2_
        have BK337 := n3_
        have BK345 := n4_
        have BK356 := n5_
        have BK363 := n6_
        have HB := n7_
        clear n0_ n1_ n2_ n3_ n4_ n5_ n6_ n7_
        refine start_ (n := 27) (S := fun w' => w'.cell? ⟨gb337, 0, none⟩ = some (.int .u64 a0_0) ∧ w'.cell? ⟨gb337, 1, none⟩ = some (.int .u64 a0_1) ∧ w'.cell? ⟨gb337, 2, none⟩ = some (.slice A0_2 l0_2.length c0_2) ∧ w'.cell? ⟨gb345, 0, none⟩ = some (.int .u64 t340) ∧ w'.cell? ⟨gb345, 1, none⟩ = some (.int .u64 t341) ∧ w'.cell? ⟨gb345, 2, none⟩ = some (.slice Ao31 t342.length co31) ∧ w'.cell? ⟨gb356, 0, none⟩ = some (.int .u64 t350) ∧ w'.cell? ⟨gb356, 1, none⟩ = some (.int .u64 t351) ∧ w'.cell? ⟨gb356, 2, none⟩ = some (.slice Ao41 t352.length co41) ∧ w'.cell? ⟨gb363, 0, none⟩ = some (.int .u64 t357) ∧ w'.cell? ⟨gb363, 1, none⟩ = some (.int .u64 t358) ∧ w'.cell? ⟨gb363, 2, none⟩ = some (.slice Ao48 t359.length co48)) (ds := []) #[false, false, false, false, false, false, false, false, false, false, false, false, false, false, false, false, false, false, false, false, false, false, false, false, false, false, false] (by kernel_rfl) rfl rfl ⟨(blk_cell BK337.out 0).trans rfl, (blk_cell BK337.out 1).trans rfl, (blk_cell BK337.out 2).trans rfl, (blk_cell BK345.out 0).trans rfl, (blk_cell BK345.out 1).trans rfl, (blk_cell BK345.out 2).trans rfl, (blk_cell BK356.out 0).trans rfl, (blk_cell BK356.out 1).trans rfl, (blk_cell BK356.out 2).trans rfl, (blk_cell BK363.out 0).trans rfl, (blk_cell BK363.out 1).trans rfl, (blk_cell BK363.out 2).trans rfl⟩ (fun hHeld => ?_); refine with_tabW postroomlaw11_MarkTells.tab10 postroomlaw11_MarkTells.bits10 (fun HT_ HW_ => ?_)
        generalize w49.drew = w50 at HO344 HO354 HO361 BK337 BK345 BK356 BK363 HB hHeld ⊢
        refine take_ (i := 0) (N := some 53) (v := ?_) (a' := ?_) #[true, false, false, false, false, false, false, false, false, false, false, false, false, false, false, false, false, false, false, false, false, false, false, false, false, false, false] rfl rfl (take_ofW HT_.out HW_.out (by kernel_rfl)) (fun _ _ _ h => h) (Or.inl ⟨by rfl, ?_⟩) hHeld ?_ ?_
        rotate_left
        ·rintro w' ⟨s0, s1, s2, s3, s4, s5, s6, s7, s8, s9, s10, s11⟩
         go_simp
         with_reducible rfl
        rotate_left
        ·simp only [Act.put, List.setIfInBounds_toArray, List.set_cons_zero, List.set_cons_succ, i64_w, i32_w]
         rfl
        refine take_ (i := 2) (N := some 55) (v := ?_) (a' := ?_) #[true, false, true, false, false, false, false, false, false, false, false, false, false, false, false, false, false, false, false, false, false, false, false, false, false, false, false] rfl rfl (take_ofW HT_.out HW_.out (by kernel_rfl)) (fun _ _ _ h => h) (Or.inl ⟨by rfl, ?_⟩) hHeld ?_ ?_
        rotate_left
        ·rintro w' ⟨s0, s1, s2, s3, s4, s5, s6, s7, s8, s9, s10, s11⟩
         go_simp
         with_reducible rfl
        rotate_left
        ·simp only [Act.put, List.setIfInBounds_toArray, List.set_cons_zero, List.set_cons_succ, i64_w, i32_w]
         rfl
        refine one_ (i := 1) (N := some 54) #[true, true, true, false, false, false, false, false, false, false, false, false, false, false, false, false, false, false, false, false, false, false, false, false, false, false, false] rfl rfl (one_of HT_.out (by kernel_rfl)) (by decide) (fun K hK => ?_)
        refine goes_ Tryd.func15 (by kernel_rfl) rfl #[.agg #[.int .u64 a0_0, .int .u64 a0_1, .slice A0_2 l0_2.length c0_2]] (by rfl) rfl rfl zx24_2 ?_
        with_reducible refine (ledger_Right.calls kj4 a0_0 a0_1 _ _ l0_2 t364 _ ?side1 ?side2 A18.out).mono ?_
        (case side1 => repeat (first | exact (Kd.C_below HR0_2.out HB.out) | (with_reducible refine Kd.C_alloc ?_ _) | (with_reducible refine Kd.C_drewN ?_ _) | (with_reducible refine Kd.C_drew ?_)))
        (case side2 => exact HC0_2.out)
        rintro e w51 ⟨rfl, hb⟩
        refine ⟨_, rfl, ?_⟩
        have n0_ := Aside0.mk (Kd.N_below zx24_6 hb)
        have n1_ := Aside0.mk (Kd.N_below zx24_12 hb)
        have n2_ := Aside0.mk (Kd.N_below zx24_13 hb)
        have n3_ := Aside0.mk (blk_below (g := gb337) (o := .cells #[.int .u64 a0_0, .int .u64 a0_1, .slice A0_2 l0_2.length c0_2] 25 (0, 0)) zx24_0 hb)
        have n4_ := Aside0.mk (blk_below (g := gb345) (o := .cells #[.int .u64 t340, .int .u64 t341, .slice Ao31 t342.length co31] 30 (0, 0)) zx24_1 hb)
        have n5_ := Aside0.mk (blk_below (g := gb356) (o := .cells #[.int .u64 t350, .int .u64 t351, .slice Ao41 t352.length co41] 25 (0, 0)) zx24_8 hb)
        have n6_ := Aside0.mk (blk_below (g := gb363) (o := .cells #[.int .u64 t357, .int .u64 t358, .slice Ao48 t359.length co48] 30 (0, 0)) zx24_14 hb)
        have n7_ := Aside0.mk (below_step zx24_5 hb)
        clear HO344
        clear HO354
        clear HO361
        clear BK337
        clear BK345
        clear BK356
        clear BK363
        clear HB
        have HO344 := n0_
        have HO354 := n1_
        have HO361 := n2_
        have BK337 := n3_
        have BK345 := n4_
        have BK356 := n5_
        have BK363 := n6_
        have HB := n7_
        clear n0_ n1_ n2_ n3_ n4_ n5_ n6_ n7_
        (try clear hb)
        (try clear hb2)
        (try clear hk)
        (try clear hi)
        refine hK.out _ _ ⟨(blk_cell BK337.out 0).trans rfl, (blk_cell BK337.out 1).trans rfl, (blk_cell BK337.out 2).trans rfl, (blk_cell BK345.out 0).trans rfl, (blk_cell BK345.out 1).trans rfl, (blk_cell BK345.out 2).trans rfl, (blk_cell BK356.out 0).trans rfl, (blk_cell BK356.out 1).trans rfl, (blk_cell BK356.out 2).trans rfl, (blk_cell BK363.out 0).trans rfl, (blk_cell BK363.out 1).trans rfl, (blk_cell BK363.out 2).trans rfl⟩ (fun hHeld => ?_)
        clear hK K
        refine norm_ (a' := ?_) ?_ ?_
        rotate_left
        ·show Act.put _ (some 54) _ = _
         simp only [Act.put, List.setIfInBounds_toArray, List.set_cons_zero, List.set_cons_succ, i64_w, i32_w]
         rfl
        refine one_ (i := 3) (N := some 56) #[true, true, true, true, false, false, false, false, false, false, false, false, false, false, false, false, false, false, false, false, false, false, false, false, false, false, false] rfl rfl (one_of HT_.out (by kernel_rfl)) (by decide) (fun K hK => ?_)
        refine goes_ Tryd.func16 (by kernel_rfl) rfl #[.agg #[.int .u64 t340, .int .u64 t341, .slice Ao31 t342.length co31]] (by rfl) rfl rfl zx24_2 ?_
        with_reducible refine (postroomref11_Right.calls kj4 t340 t341 _ _ t342 t365 _ ?side1 ?side2 A19.out).mono ?_
        (case side1 => repeat (first | exact (Kd.N_reads' HO344.out).2.2 | (with_reducible refine Kd.C_alloc ?_ _) | (with_reducible refine Kd.C_drewN ?_ _) | (with_reducible refine Kd.C_drew ?_)))
        (case side2 => exact (Kd.N_reads' HO344.out).2.1)
        rintro e w52 ⟨rfl, hb⟩
        refine ⟨_, rfl, ?_⟩
        have n0_ := Aside0.mk (Kd.N_below zx24_6 hb)
        have n1_ := Aside0.mk (Kd.N_below zx24_12 hb)
        have n2_ := Aside0.mk (Kd.N_below zx24_13 hb)
        have n3_ := Aside0.mk (blk_below (g := gb337) (o := .cells #[.int .u64 a0_0, .int .u64 a0_1, .slice A0_2 l0_2.length c0_2] 25 (0, 0)) zx24_0 hb)
        have n4_ := Aside0.mk (blk_below (g := gb345) (o := .cells #[.int .u64 t340, .int .u64 t341, .slice Ao31 t342.length co31] 30 (0, 0)) zx24_1 hb)
        have n5_ := Aside0.mk (blk_below (g := gb356) (o := .cells #[.int .u64 t350, .int .u64 t351, .slice Ao41 t352.length co41] 25 (0, 0)) zx24_8 hb)
        have n6_ := Aside0.mk (blk_below (g := gb363) (o := .cells #[.int .u64 t357, .int .u64 t358, .slice Ao48 t359.length co48] 30 (0, 0)) zx24_14 hb)
        have n7_ := Aside0.mk (below_step zx24_5 hb)
        clear HO344
        clear HO354
        clear HO361
        clear BK337
        clear BK345
        clear BK356
        clear BK363
        clear HB
        have HO344 := n0_
        have HO354 := n1_
        have HO361 := n2_
        have BK337 := n3_
        have BK345 := n4_
        have BK356 := n5_
        have BK363 := n6_
        have HB := n7_
        clear n0_ n1_ n2_ n3_ n4_ n5_ n6_ n7_
        (try clear hb)
        (try clear hb2)
        (try clear hk)
        (try clear hi)
        refine hK.out _ _ ⟨(blk_cell BK337.out 0).trans rfl, (blk_cell BK337.out 1).trans rfl, (blk_cell BK337.out 2).trans rfl, (blk_cell BK345.out 0).trans rfl, (blk_cell BK345.out 1).trans rfl, (blk_cell BK345.out 2).trans rfl, (blk_cell BK356.out 0).trans rfl, (blk_cell BK356.out 1).trans rfl, (blk_cell BK356.out 2).trans rfl, (blk_cell BK363.out 0).trans rfl, (blk_cell BK363.out 1).trans rfl, (blk_cell BK363.out 2).trans rfl⟩ (fun hHeld => ?_)
        clear hK K
        refine norm_ (a' := ?_) ?_ ?_
        rotate_left
        ·show Act.put _ (some 56) _ = _
         simp only [Act.put, List.setIfInBounds_toArray, List.set_cons_zero, List.set_cons_succ, i64_w, i32_w]
         rfl
        refine pure_ (i := 4) (N := some 57) (v := ?_) (a' := ?_) #[true, true, true, true, true, false, false, false, false, false, false, false, false, false, false, false, false, false, false, false, false, false, false, false, false, false, false] rfl rfl (any_of HT_.out (by kernel_rfl)) (fun _ _ _ h => h) (Or.inl ⟨by rfl, ?_⟩) ?_ ?_
        rotate_left
        ·intro w'
         go_simp
         with_reducible rfl
        rotate_left
        ·simp only [Act.put, List.setIfInBounds_toArray, List.set_cons_zero, List.set_cons_succ, i64_w, i32_w]
         rfl
        refine pure_ (i := 5) (N := some 58) (v := ?_) (a' := ?_) #[true, true, true, true, true, true, false, false, false, false, false, false, false, false, false, false, false, false, false, false, false, false, false, false, false, false, false] rfl rfl (any_of HT_.out (by kernel_rfl)) (fun _ _ _ h => h) (Or.inl ⟨by rfl, ?_⟩) ?_ ?_
        rotate_left
        ·intro w'
         go_simp
         with_reducible rfl
        rotate_left
        ·simp only [Act.put, List.setIfInBounds_toArray, List.set_cons_zero, List.set_cons_succ, i64_w, i32_w]
         rfl
        refine pure_ (i := 6) (N := some 59) (v := ?_) (a' := ?_) #[true, true, true, true, true, true, true, false, false, false, false, false, false, false, false, false, false, false, false, false, false, false, false, false, false, false, false] rfl rfl (any_of HT_.out (by kernel_rfl)) (fun _ _ _ h => h) (Or.inl ⟨by rfl, ?_⟩) ?_ ?_
        rotate_left
        ·intro w'
         go_simp
         with_reducible rfl
        rotate_left
        ·simp only [Act.put, List.setIfInBounds_toArray, List.set_cons_zero, List.set_cons_succ, i64_w, i32_w]
         rfl
        refine pure_ (i := 7) (N := some 60) (v := ?_) (a' := ?_) #[true, true, true, true, true, true, true, true, false, false, false, false, false, false, false, false, false, false, false, false, false, false, false, false, false, false, false] rfl rfl (any_of HT_.out (by kernel_rfl)) (fun _ _ _ h => h) (Or.inl ⟨by rfl, ?_⟩) ?_ ?_
        rotate_left
        ·intro w'
         go_simp
         with_reducible rfl
        rotate_left
        ·simp only [Act.put, List.setIfInBounds_toArray, List.set_cons_zero, List.set_cons_succ, i64_w, i32_w]
         rfl
        refine pure_ (i := 8) (N := some 61) (v := ?_) (a' := ?_) #[true, true, true, true, true, true, true, true, true, false, false, false, false, false, false, false, false, false, false, false, false, false, false, false, false, false, false] rfl rfl (any_of HT_.out (by kernel_rfl)) (fun _ _ _ h => h) (Or.inl ⟨by rfl, ?_⟩) ?_ ?_
        rotate_left
        ·intro w'
         go_simp
         with_reducible rfl
        rotate_left
        ·simp only [Act.put, List.setIfInBounds_toArray, List.set_cons_zero, List.set_cons_succ, i64_w, i32_w]
         rfl
        refine pure_ (i := 9) (N := some 62) (v := ?_) (a' := ?_) #[true, true, true, true, true, true, true, true, true, true, false, false, false, false, false, false, false, false, false, false, false, false, false, false, false, false, false] rfl rfl (any_of HT_.out (by kernel_rfl)) (fun _ _ _ h => h) (Or.inl ⟨by rfl, ?_⟩) ?_ ?_
        rotate_left
        ·intro w'
         go_simp
         with_reducible rfl
        rotate_left
        ·simp only [Act.put, List.setIfInBounds_toArray, List.set_cons_zero, List.set_cons_succ, i64_w, i32_w]
         rfl
        refine pure_ (i := 10) (N := some 63) (v := ?_) (a' := ?_) #[true, true, true, true, true, true, true, true, true, true, true, false, false, false, false, false, false, false, false, false, false, false, false, false, false, false, false] rfl rfl (any_of HT_.out (by kernel_rfl)) (fun _ _ _ h => h) (Or.inl ⟨by rfl, ?_⟩) ?_ ?_
        rotate_left
        ·intro w'
         go_simp
         with_reducible rfl
        rotate_left
        ·simp only [Act.put, List.setIfInBounds_toArray, List.set_cons_zero, List.set_cons_succ, i64_w, i32_w]
         rfl
        refine pure_ (i := 11) (N := some 64) (v := ?_) (a' := ?_) #[true, true, true, true, true, true, true, true, true, true, true, true, false, false, false, false, false, false, false, false, false, false, false, false, false, false, false] rfl rfl (any_of HT_.out (by kernel_rfl)) (fun _ _ _ h => h) (Or.inl ⟨by rfl, ?_⟩) ?_ ?_
        rotate_left
        ·intro w'
         go_simp
         with_reducible rfl
        rotate_left
        ·simp only [Act.put, List.setIfInBounds_toArray, List.set_cons_zero, List.set_cons_succ, i64_w, i32_w]
         rfl
        refine pure_ (i := 12) (N := some 65) (v := ?_) (a' := ?_) #[true, true, true, true, true, true, true, true, true, true, true, true, true, false, false, false, false, false, false, false, false, false, false, false, false, false, false] rfl rfl (any_of HT_.out (by kernel_rfl)) (fun _ _ _ h => h) (Or.inl ⟨by rfl, ?_⟩) ?_ ?_
        rotate_left
        ·intro w'
         go_simp
         with_reducible rfl
        rotate_left
        ·simp only [Act.put, List.setIfInBounds_toArray, List.set_cons_zero, List.set_cons_succ, i64_w, i32_w]
         rfl
        refine pure_ (i := 13) (N := some 66) (v := ?_) (a' := ?_) #[true, true, true, true, true, true, true, true, true, true, true, true, true, true, false, false, false, false, false, false, false, false, false, false, false, false, false] rfl rfl (any_of HT_.out (by kernel_rfl)) (fun _ _ _ h => h) (Or.inl ⟨by rfl, ?_⟩) ?_ ?_
        rotate_left
        ·intro w'
         go_simp
         with_reducible rfl
        rotate_left
        ·simp only [Act.put, List.setIfInBounds_toArray, List.set_cons_zero, List.set_cons_succ, i64_w, i32_w]
         rfl
        refine pure_ (i := 14) (N := some 67) (v := ?_) (a' := ?_) #[true, true, true, true, true, true, true, true, true, true, true, true, true, true, true, false, false, false, false, false, false, false, false, false, false, false, false] rfl rfl (any_of HT_.out (by kernel_rfl)) (fun _ _ _ h => h) (Or.inl ⟨by rfl, ?_⟩) ?_ ?_
        rotate_left
        ·intro w'
         go_simp
         with_reducible rfl
        rotate_left
        ·simp only [Act.put, List.setIfInBounds_toArray, List.set_cons_zero, List.set_cons_succ, i64_w, i32_w]
         rfl
        refine pure_ (i := 15) (N := some 68) (v := ?_) (a' := ?_) #[true, true, true, true, true, true, true, true, true, true, true, true, true, true, true, true, false, false, false, false, false, false, false, false, false, false, false] rfl rfl (any_of HT_.out (by kernel_rfl)) (fun _ _ _ h => h) (Or.inl ⟨by rfl, ?_⟩) ?_ ?_
        rotate_left
        ·intro w'
         go_simp
         with_reducible rfl
        rotate_left
        ·simp only [Act.put, List.setIfInBounds_toArray, List.set_cons_zero, List.set_cons_succ, i64_w, i32_w]
         rfl
        refine take_ (i := 16) (N := some 69) (v := ?_) (a' := ?_) #[true, true, true, true, true, true, true, true, true, true, true, true, true, true, true, true, true, false, false, false, false, false, false, false, false, false, false] rfl rfl (take_ofW HT_.out HW_.out (by kernel_rfl)) (fun _ _ _ h => h) (Or.inl ⟨by rfl, ?_⟩) hHeld ?_ ?_
        rotate_left
        ·rintro w' ⟨s0, s1, s2, s3, s4, s5, s6, s7, s8, s9, s10, s11⟩
         go_simp
         with_reducible rfl
        rotate_left
        ·simp only [Act.put, List.setIfInBounds_toArray, List.set_cons_zero, List.set_cons_succ, i64_w, i32_w]
         rfl
        refine take_ (i := 18) (N := some 71) (v := ?_) (a' := ?_) #[true, true, true, true, true, true, true, true, true, true, true, true, true, true, true, true, true, false, true, false, false, false, false, false, false, false, false] rfl rfl (take_ofW HT_.out HW_.out (by kernel_rfl)) (fun _ _ _ h => h) (Or.inl ⟨by rfl, ?_⟩) hHeld ?_ ?_
        rotate_left
        ·rintro w' ⟨s0, s1, s2, s3, s4, s5, s6, s7, s8, s9, s10, s11⟩
         go_simp
         with_reducible rfl
        rotate_left
        ·simp only [Act.put, List.setIfInBounds_toArray, List.set_cons_zero, List.set_cons_succ, i64_w, i32_w]
         rfl
        refine one_ (i := 17) (N := some 70) #[true, true, true, true, true, true, true, true, true, true, true, true, true, true, true, true, true, true, true, false, false, false, false, false, false, false, false] rfl rfl (one_of HT_.out (by kernel_rfl)) (by decide) (fun K hK => ?_)
        refine goes_ Tryd.func10 (by kernel_rfl) rfl #[.agg #[.int .u64 t350, .int .u64 t351, .slice Ao41 t352.length co41]] (by rfl) rfl rfl zx24_2 ?_
        with_reducible refine (postroomlaw11_asLedger.calls kj4 t350 t351 (fun k_ => (some k_ ≠ (.slice Ao31 t342.length co31 : Value).ownBlock ∧ (some k_ ≠ (.slice Ao48 t359.length co48 : Value).ownBlock ∧ (k_ ≠ gb337 ∧ (k_ ≠ gb345 ∧ (k_ ≠ gb356 ∧ k_ ≠ gb363)))))) _ _ t352 t366 t367 t368 _ ?side1 A23.out).mono ?_
        (case side1 => exact Kd.N_V (HO354.out))
        rintro e w53 ⟨v369, rfl, ho0, hb⟩
        refine ⟨_, rfl, ?_⟩
        have n0_ := Aside0.mk (Kd.N_elder' zx24_6 (Kd.N_base ho0) hb)
        have n1_ := Aside0.mk (Kd.N_elder' zx24_12 (Kd.N_base ho0) hb)
        have n2_ := Aside0.mk (Kd.N_elder' zx24_13 (Kd.N_base ho0) hb)
        have n3_ := Aside0.mk (Kd.N_lower (Kd.N_mono (ok' := fun k_ => some k_ ≠ (.slice Ao31 t342.length co31 : Value).ownBlock ∧ some k_ ≠ (.slice Ao48 t359.length co48 : Value).ownBlock ∧ k_ ≠ gb337 ∧ k_ ≠ gb345 ∧ k_ ≠ gb356 ∧ k_ ≠ gb363) ho0 (fun k_ hk_ => ⟨Or.elim hk_ (fun hs_ => hs_.1) (fun hn_ => (Kd.fresh' (Kd.N_lt zx24_6) k_ hn_)), Or.elim hk_ (fun hs_ => hs_.2.1) (fun hn_ => (Kd.fresh' (Kd.N_lt zx24_13) k_ hn_)), Or.elim hk_ (fun hs_ => hs_.2.2.1) (fun hn_ => (Kd.freshB (g := gb337) (o := .cells #[.int .u64 a0_0, .int .u64 a0_1, .slice A0_2 l0_2.length c0_2] 25 (0, 0)) zx24_0 k_ hn_)), Or.elim hk_ (fun hs_ => hs_.2.2.2.1) (fun hn_ => (Kd.freshB (g := gb345) (o := .cells #[.int .u64 t340, .int .u64 t341, .slice Ao31 t342.length co31] 30 (0, 0)) zx24_1 k_ hn_)), Or.elim hk_ (fun hs_ => hs_.2.2.2.2.1) (fun hn_ => (Kd.freshB (g := gb356) (o := .cells #[.int .u64 t350, .int .u64 t351, .slice Ao41 t352.length co41] 25 (0, 0)) zx24_8 k_ hn_)), Or.elim hk_ (fun hs_ => hs_.2.2.2.2.2) (fun hn_ => (Kd.freshB (g := gb363) (o := .cells #[.int .u64 t357, .int .u64 t358, .slice Ao48 t359.length co48] 30 (0, 0)) zx24_14 k_ hn_))⟩)) (below_size zx24_5))
        have n4_ := Aside0.mk (blk_below (g := gb337) (o := .cells #[.int .u64 a0_0, .int .u64 a0_1, .slice A0_2 l0_2.length c0_2] 25 (0, 0)) zx24_0 hb)
        have n5_ := Aside0.mk (blk_below (g := gb345) (o := .cells #[.int .u64 t340, .int .u64 t341, .slice Ao31 t342.length co31] 30 (0, 0)) zx24_1 hb)
        have n6_ := Aside0.mk (blk_below (g := gb356) (o := .cells #[.int .u64 t350, .int .u64 t351, .slice Ao41 t352.length co41] 25 (0, 0)) zx24_8 hb)
        have n7_ := Aside0.mk (blk_below (g := gb363) (o := .cells #[.int .u64 t357, .int .u64 t358, .slice Ao48 t359.length co48] 30 (0, 0)) zx24_14 hb)
        have n8_ := Aside0.mk (below_step zx24_5 hb)
        clear HO344
        clear HO354
        clear HO361
        clear BK337
        clear BK345
        clear BK356
        clear BK363
        clear HB
        have HO344 := n0_
        have HO354 := n1_
        have HO361 := n2_
        have HO370 := n3_
        have BK337 := n4_
        have BK345 := n5_
        have BK356 := n6_
        have BK363 := n7_
        have HB := n8_
        clear n0_ n1_ n2_ n3_ n4_ n5_ n6_ n7_ n8_
        (try clear hb)
        (try clear hb2)
        (try clear hk)
        (try clear hi)
        (try clear ho0)
        obtain ⟨Ao54, co54, eo54⟩ := Kd.N_slice HO370.out
        (first | subst eo54 | (injection eo54 with f1_ f2_ f3_; have f4_ := f1_.symm; have f5_ := f3_.symm; clear f1_ f2_ f3_; subst f4_; subst f5_))
        refine hK.out _ _ ⟨(blk_cell BK337.out 0).trans rfl, (blk_cell BK337.out 1).trans rfl, (blk_cell BK337.out 2).trans rfl, (blk_cell BK345.out 0).trans rfl, (blk_cell BK345.out 1).trans rfl, (blk_cell BK345.out 2).trans rfl, (blk_cell BK356.out 0).trans rfl, (blk_cell BK356.out 1).trans rfl, (blk_cell BK356.out 2).trans rfl, (blk_cell BK363.out 0).trans rfl, (blk_cell BK363.out 1).trans rfl, (blk_cell BK363.out 2).trans rfl⟩ (fun hHeld => ?_)
        clear hK K
        refine norm_ (a' := ?_) ?_ ?_
        rotate_left
        ·show Act.put _ (some 70) _ = _
         simp only [Act.put, List.setIfInBounds_toArray, List.set_cons_zero, List.set_cons_succ, i64_w, i32_w]
         rfl
        refine one_ (i := 19) (N := some 72) #[true, true, true, true, true, true, true, true, true, true, true, true, true, true, true, true, true, true, true, true, false, false, false, false, false, false, false] rfl rfl (one_of HT_.out (by kernel_rfl)) (by decide) (fun K hK => ?_)
        refine goes_ Tryd.func17 (by kernel_rfl) rfl #[.agg #[.int .u64 t366, .int .u64 t367, .slice Ao54 t368.length co54], .agg #[.int .u64 t357, .int .u64 t358, .slice Ao48 t359.length co48]] (by rfl) rfl rfl zx24_2 ?_
        with_reducible refine (postroomref11_Same.calls kj4 t366 t367 _ _ t368 t357 t358 _ _ t359 true _ ?side1 ?side2 ?side3 ?side4 A24.out).mono ?_
        (case side1 => repeat (first | exact (Kd.N_reads' HO370.out).2.2 | (with_reducible refine Kd.C_alloc ?_ _) | (with_reducible refine Kd.C_drewN ?_ _) | (with_reducible refine Kd.C_drew ?_)))
        (case side2 => exact (Kd.N_reads' HO370.out).2.1)
        (case side3 => repeat (first | exact (Kd.N_reads' HO361.out).2.2 | (with_reducible refine Kd.C_alloc ?_ _) | (with_reducible refine Kd.C_drewN ?_ _) | (with_reducible refine Kd.C_drew ?_)))
        (case side4 => exact (Kd.N_reads' HO361.out).2.1)
        rintro e w55 ⟨rfl, hb⟩
        refine ⟨_, rfl, ?_⟩
        have n0_ := Aside0.mk (Kd.N_below zx24_6 hb)
        have n1_ := Aside0.mk (Kd.N_below zx24_12 hb)
        have n2_ := Aside0.mk (Kd.N_below zx24_13 hb)
        have n3_ := Aside0.mk (Kd.N_below (by (with_reducible repeat (first | apply Kd.N_alloc | apply Kd.N_drewN | apply Kd.N_drew)); exact HO370.out) hb)
        have n4_ := Aside0.mk (blk_below (g := gb337) (o := .cells #[.int .u64 a0_0, .int .u64 a0_1, .slice A0_2 l0_2.length c0_2] 25 (0, 0)) zx24_0 hb)
        have n5_ := Aside0.mk (blk_below (g := gb345) (o := .cells #[.int .u64 t340, .int .u64 t341, .slice Ao31 t342.length co31] 30 (0, 0)) zx24_1 hb)
        have n6_ := Aside0.mk (blk_below (g := gb356) (o := .cells #[.int .u64 t350, .int .u64 t351, .slice Ao41 t352.length co41] 25 (0, 0)) zx24_8 hb)
        have n7_ := Aside0.mk (blk_below (g := gb363) (o := .cells #[.int .u64 t357, .int .u64 t358, .slice Ao48 t359.length co48] 30 (0, 0)) zx24_14 hb)
        have n8_ := Aside0.mk (below_step zx24_5 hb)
        clear HO344
        clear HO354
        clear HO361
        clear HO370
        clear BK337
        clear BK345
        clear BK356
        clear BK363
        clear HB
        have HO344 := n0_
        have HO354 := n1_
        have HO361 := n2_
        have HO370 := n3_
        have BK337 := n4_
        have BK345 := n5_
        have BK356 := n6_
        have BK363 := n7_
        have HB := n8_
        clear n0_ n1_ n2_ n3_ n4_ n5_ n6_ n7_ n8_
        (try clear hb)
        (try clear hb2)
        (try clear hk)
        (try clear hi)
        refine hK.out _ _ ⟨(blk_cell BK337.out 0).trans rfl, (blk_cell BK337.out 1).trans rfl, (blk_cell BK337.out 2).trans rfl, (blk_cell BK345.out 0).trans rfl, (blk_cell BK345.out 1).trans rfl, (blk_cell BK345.out 2).trans rfl, (blk_cell BK356.out 0).trans rfl, (blk_cell BK356.out 1).trans rfl, (blk_cell BK356.out 2).trans rfl, (blk_cell BK363.out 0).trans rfl, (blk_cell BK363.out 1).trans rfl, (blk_cell BK363.out 2).trans rfl⟩ (fun hHeld => ?_)
        clear hK K
        refine norm_ (a' := ?_) ?_ ?_
        rotate_left
        ·show Act.put _ (some 72) _ = _
         simp only [Act.put, List.setIfInBounds_toArray, List.set_cons_zero, List.set_cons_succ, i64_w, i32_w]
         rfl
        refine pure_ (i := 20) (N := some 73) (v := ?_) (a' := ?_) #[true, true, true, true, true, true, true, true, true, true, true, true, true, true, true, true, true, true, true, true, true, false, false, false, false, false, false] rfl rfl (any_of HT_.out (by kernel_rfl)) (fun _ _ _ h => h) (Or.inl ⟨by rfl, ?_⟩) ?_ ?_
        rotate_left
        ·intro w'
         go_simp
         with_reducible rfl
        rotate_left
        ·simp only [Act.put, List.setIfInBounds_toArray, List.set_cons_zero, List.set_cons_succ, i64_w, i32_w]
         rfl
        refine pure_ (i := 21) (N := some 74) (v := ?_) (a' := ?_) #[true, true, true, true, true, true, true, true, true, true, true, true, true, true, true, true, true, true, true, true, true, true, false, false, false, false, false] rfl rfl (any_of HT_.out (by kernel_rfl)) (fun _ _ _ h => h) (Or.inl ⟨by rfl, ?_⟩) ?_ ?_
        rotate_left
        ·intro w'
         go_simp
         with_reducible rfl
        rotate_left
        ·simp only [Act.put, List.setIfInBounds_toArray, List.set_cons_zero, List.set_cons_succ, i64_w, i32_w]
         rfl
        refine pure_ (i := 22) (N := some 75) (v := ?_) (a' := ?_) #[true, true, true, true, true, true, true, true, true, true, true, true, true, true, true, true, true, true, true, true, true, true, true, false, false, false, false] rfl rfl (any_of HT_.out (by kernel_rfl)) (fun _ _ _ h => h) (Or.inl ⟨by rfl, ?_⟩) ?_ ?_
        rotate_left
        ·intro w'
         go_simp
         with_reducible rfl
        rotate_left
        ·simp only [Act.put, List.setIfInBounds_toArray, List.set_cons_zero, List.set_cons_succ, i64_w, i32_w]
         rfl
        refine pure_ (i := 23) (N := some 76) (v := ?_) (a' := ?_) #[true, true, true, true, true, true, true, true, true, true, true, true, true, true, true, true, true, true, true, true, true, true, true, true, false, false, false] rfl rfl (any_of HT_.out (by kernel_rfl)) (fun _ _ _ h => h) (Or.inl ⟨by rfl, ?_⟩) ?_ ?_
        rotate_left
        ·intro w'
         go_simp
         with_reducible rfl
        rotate_left
        ·simp only [Act.put, List.setIfInBounds_toArray, List.set_cons_zero, List.set_cons_succ, i64_w, i32_w]
         rfl
        refine pure_ (i := 24) (N := some 77) (v := ?_) (a' := ?_) #[true, true, true, true, true, true, true, true, true, true, true, true, true, true, true, true, true, true, true, true, true, true, true, true, true, false, false] rfl rfl (any_of HT_.out (by kernel_rfl)) (fun _ _ _ h => h) (Or.inl ⟨by rfl, ?_⟩) ?_ ?_
        rotate_left
        ·intro w'
         go_simp
         with_reducible rfl
        rotate_left
        ·simp only [Act.put, List.setIfInBounds_toArray, List.set_cons_zero, List.set_cons_succ, i64_w, i32_w]
         rfl
        refine pure_ (i := 25) (N := some 78) (v := ?_) (a' := ?_) #[true, true, true, true, true, true, true, true, true, true, true, true, true, true, true, true, true, true, true, true, true, true, true, true, true, true, false] rfl rfl (any_of HT_.out (by kernel_rfl)) (fun _ _ _ h => h) (Or.inl ⟨by rfl, ?_⟩) ?_ ?_
        rotate_left
        ·intro w'
         go_simp
         with_reducible rfl
        rotate_left
        ·simp only [Act.put, List.setIfInBounds_toArray, List.set_cons_zero, List.set_cons_succ, i64_w, i32_w]
         rfl
        refine pure_ (i := 26) (N := some 4) (v := ?_) (a' := ?_) #[true, true, true, true, true, true, true, true, true, true, true, true, true, true, true, true, true, true, true, true, true, true, true, true, true, true, true] rfl rfl (any_of HT_.out (by kernel_rfl)) (fun _ _ _ h => h) (Or.inl ⟨by rfl, ?_⟩) ?_ ?_
        rotate_left
        ·intro w'
         go_simp
         with_reducible rfl
        rotate_left
        ·simp only [Act.put, List.setIfInBounds_toArray, List.set_cons_zero, List.set_cons_succ, i64_w, i32_w]
         rfl
        refine done_ (done_of HT_.out (by kernel_rfl)) ?_
        try go_wp2
        go_ret
        exact ⟨by first | rfl | (simp [errW_none, errW_some] <;> rfl) | (simp [*, errW_none, errW_some] <;> rfl), by repeat (first | (with_reducible first | exact HB.out | apply below_alloc | apply pw_below_drewN | apply below_drew1 | refine below_set ?_ GE337.out | refine below_set ?_ GE345.out | refine below_set ?_ GE356.out | refine below_set ?_ GE363.out) | exact HB.out)⟩
       ·replace c25 := Bool.eq_false_iff.mpr c25
        subst c25
        have H1 : (some false) = some r := by rw [if_neg (show ¬ (false = true) by decide)] at H; exact H
        clear H
        have H := H1
        clear H1
        exact absurd ((Option.some.inj H).trans hrt.out) (by decide)
      ·rw [if_neg c22] at H
       have c22b0 : (t347 == t349) = false := beq_eq_false_iff_ne.mpr c22
       have c22b1 : (t347 != t349) = true := bne_iff_ne.mpr c22
       exact absurd ((Option.some.inj H).trans hrt.out) (by decide)
     ·rw [if_neg c21] at H
      have c21b0 : (t346.toList == t348.toList) = false := beq_eq_false_iff_ne.mpr c21
      have c21b1 : (t346.toList != t348.toList) = true := bne_iff_ne.mpr c21
      exact absurd ((Option.some.inj H).trans hrt.out) (by decide)
    ·rw [if_neg c20] at H
     have c20b0 : (t364 == t365) = false := by simpa using c20
     (try (have c20b1 : decide (t364 = t365) = false := by simpa using c20))
     (try (have c20b2 : (t364 == t365) = false := by simpa using c20))
     (try (have c20b3 : ¬ (t364 = t365) := by simpa using c20))
     clear c20
     exact absurd ((Option.some.inj H).trans hrt.out) (by decide)
/-- THE ONE PURE STATEMENT of postroomlaw11_MarkTells. -/
def postroomlaw11_MarkTells.Pure : Prop := ∀ (a0_0 : Int) (a0_1 : Int) (l0_2 : List (S55)) (a1 : ByteArray), (Lit.int .u64 a0_0).wf = true → (Lit.int .u64 a0_1).wf = true → l0_2.length ≤ maxLen → (∀ x ∈ l0_2, (x.f0.size ≤ maxLen ∧ (Lit.int .u64 x.f1).wf = true ∧ (Lit.int .u64 x.f2).wf = true ∧ (x.f3.length ≤ maxLen ∧ ∀ z372 ∈ x.f3, (Lit.int .u64 z372).wf = true) ∧ (Lit.int .u64 x.f4).wf = true ∧ (Lit.int .u64 x.f5).wf = true ∧ (Lit.int .u64 x.f6).wf = true)) → a1.size ≤ 140737488351232 → ∃ k, postroomlaw11_MarkTells.f k a0_0 a0_1 l0_2 a1 = some true
theorem postroomlaw11_MarkTells.walk (P : postroomlaw11_MarkTells.Pure) (a0_0 : Int) (a0_1 : Int) (A0_2 : Option Addr) (c0_2 : Nat) (l0_2 : List (S55)) (a1 : ByteArray) (w : World) (hr0_2 : Kd.C k55 w A0_2 l0_2.length l0_2) (hc0_2 : l0_2.length ≤ c0_2) (hw0_0 : (Lit.int .u64 a0_0).wf = true) (hw0_1 : (Lit.int .u64 a0_1).wf = true) (hm0_2 : l0_2.length ≤ maxLen) (hw0_2 : (∀ x ∈ l0_2, (x.f0.size ≤ maxLen ∧ (Lit.int .u64 x.f1).wf = true ∧ (Lit.int .u64 x.f2).wf = true ∧ (x.f3.length ≤ maxLen ∧ ∀ z372 ∈ x.f3, (Lit.int .u64 z372).wf = true) ∧ (Lit.int .u64 x.f4).wf = true ∧ (Lit.int .u64 x.f5).wf = true ∧ (Lit.int .u64 x.f6).wf = true))) (hw1 : a1.size ≤ 140737488351232) :
  Calls Tryd.prog 3 #[.agg #[.int .u64 a0_0, .int .u64 a0_1, .slice A0_2 l0_2.length c0_2], .string a1] w fun e w' => e = .returned (.bool true) ∧ Below w.heap.size w w' := by
 obtain ⟨k, h⟩ := P a0_0 a0_1 l0_2 a1 hw0_0 hw0_1 hm0_2 hw0_2 hw1
 refine (postroomlaw11_MarkTells.calls k a0_0 a0_1 A0_2 c0_2 l0_2 a1 true w hr0_2 hc0_2 ⟨rfl⟩ h).mono ?_
 rintro e w' ⟨rfl, hd⟩
 exact ⟨rfl, hd⟩

end Go.Proofs.YtmbigoeldobaiaaDoor.XMrk
end
