/- Texts of this seat, in one. Conditions: those that each theorem names. -/
import Derived.Test.YtmbigoeldobaiaaDoorXMrkP1
import Derived.Test.YtmbigoeldobaiaaDoorXMrkP2
section
/- What the functions of the translation answer, each as a plain Lean function, and that the code comes to it; for a law: its row. Conditions: none but those that each theorem names. Written by a program of this session (wip/xp). -/
namespace Go.Proofs.YtmbigoeldobaiaaDoor.XMrk
open Go.RowKit Go.Proofs.YtmbigoeldobaiaaDoorW.PrintWords Go.Proofs.YtmbigoeldobaiaaDoorW.PrintLast Go.Proofs.YtmbigoeldobaiaaDoorW.PrintMore
attribute [local go_sem] max2_int min2_int max_two min_two max_three min_three max_four min_four   -- for this text's walks alone
theorem cx11_bc3 {w : World} {g : Nat} {t : TypeId} {x0 x1 x2 : Value} (h : w.heap[g]? = some (.cells #[x0, x1, x2] t (0, 0))) : w.cell? ⟨g, 0, none⟩ = some x0 ∧ w.cell? ⟨g, 1, none⟩ = some x1 ∧ w.cell? ⟨g, 2, none⟩ = some x2 ∧ w.frozen? ⟨g, 0, none⟩ = false ∧ w.frozen? ⟨g, 1, none⟩ = false ∧ w.frozen? ⟨g, 2, none⟩ = false :=
 ⟨(blk_cell h 0).trans rfl, (blk_cell h 1).trans rfl, (blk_cell h 2).trans rfl, blk_frozen h 0, blk_frozen h 1, blk_frozen h 2⟩
theorem zx11_6 {p : Prop} (h : p := by (with_reducible repeat (first | apply Kd.S_alloc | apply Kd.S_drewN | apply Kd.S_drew)); exact HO_184002.out) : p := h
theorem zx11_2 {p : Prop} (h : p := by (with_reducible repeat (first | refine blk_drewN ?_ _ | refine blk_drew ?_ | refine blk_alloc ?_ _)); exact BK175.out) : p := h
theorem zx11_5 {p : Prop} (h : p := by (with_reducible repeat (first | refine blk_drewN ?_ _ | refine blk_drew ?_ | refine blk_alloc ?_ _)); exact BK183.out) : p := h
theorem zx11_9 {p : Prop} (h : p := by repeat (first | (with_reducible first | exact HB.out | apply below_alloc | apply pw_below_drewN | apply below_drew1) | exact HB.out)) : p := h
theorem zx11_4 {p : Prop} (h : p := by (try simp only [List.map_toArray, List.map_cons, List.map_nil]); first | done | rfl | (simp only [List.length_drop, List.length_take]; rfl)) : p := h
theorem zx11_7 {p : Prop} (h : p := by repeat (first | (with_reducible first | exact HB.out | apply below_alloc | apply pw_below_drewN | apply below_drew1 | refine below_set ?_ GE175.out) | exact HB.out)) : p := h
theorem zx11_8 {p : Prop} (h : p := by repeat (first | (with_reducible first | exact HB.out | apply below_alloc | apply pw_below_drewN | apply below_drew1 | refine below_set ?_ (IsS63.ge HI176.out) | refine below_set ?_ GE175.out) | exact HB.out)) : p := h
theorem zx11_1 {p : Prop} (h : p := by repeat (first | (with_reducible first | exact HB.out | apply below_alloc | apply pw_below_drewN | apply below_drew1 | refine below_set ?_ (IsS63.ge HI176.out) | refine below_set ?_ GE175.out | refine below_set ?_ GE183.out) | exact HB.out)) : p := h
theorem zx11_3 {p : Prop} (h : p := by repeat (first | (with_reducible first | exact HI176.out | apply IsS63.alloc | apply IsS63.drewN | apply IsS63.drew | apply IsS63.set_0 | apply IsS63.set_1 | refine IsS63.far ?_ NB176_175.out _ | refine IsS63.far ?_ NB176_183.out _) | exact HI176.out)) : p := h
theorem zx11_0 {p : Prop} (h : p := by (with_reducible repeat (first | refine blk_drewN ?_ _ | refine blk_drew ?_ | refine blk_alloc ?_ _)); refine blk_put (cs := #[.int .u64 0, .int .u64 0, .slice none 0 0]) ?_ 2 _ rfl; (with_reducible repeat (first | refine blk_drewN ?_ _ | refine blk_drew ?_ | refine blk_alloc ?_ _)); refine blk_put (cs := #[.int .u64 0, .int .u64 0, .slice none 0 0]) ?_ 1 _ rfl; (with_reducible repeat (first | refine blk_drewN ?_ _ | refine blk_drew ?_ | refine blk_alloc ?_ _)); refine blk_put (cs := #[.int .u64 0, .int .u64 0, .slice none 0 0]) ?_ 0 _ rfl; (with_reducible repeat (first | refine blk_drewN ?_ _ | refine blk_drew ?_ | refine blk_alloc ?_ _)); exact BK175.out) : p := h
set_option linter.unusedVariables false
set_option linter.unusedSimpArgs false

/-! ### mark_Take: function 13 -/
def mark_Take.l0 : Nat → ByteArray → Int → ByteArray → Bool → Int → Int → List (S55) → Option (Int × Int × (List (S55)) × Int)
 | 0, _, _, _, _, _, _, _ => none
 | k + 1, x0, x6, x177000, x177001, x184000, x184001, x184002 => if x6 > 0 then (if x177001 = true then ((mark_Put.f k x184000 x184001 x184002).bind fun bt187 => (some (0, 0, ([] : List (S55)), 2))) else ((mark_reader_dest.f k x177000 x177001).bind fun bt189 => (if x184002.length < 1759218604441 then (mark_Take.l0 k x0 (IntKind.u64.wrap (x6 - 1)) bt189.2.2.2.2.2.2.2.1 bt189.2.2.2.2.2.2.2.2 x184000 x184001 (x184002 ++ [(⟨bt189.1, bt189.2.1, bt189.2.2.1, bt189.2.2.2.1, bt189.2.2.2.2.1, bt189.2.2.2.2.2.1, bt189.2.2.2.2.2.2.1⟩ : S55)])) else (none)))) else ((mark_Put.f k x184000 x184001 x184002).bind fun bt203 => (if x177001 = true then (some (0, 0, ([] : List (S55)), 2)) else (if bt203.2 = 0 then (if bt203.1.toList = x0.toList then (some (x184000, x184001, x184002, 0)) else (some (0, 0, ([] : List (S55)), 2))) else (some (0, 0, ([] : List (S55)), 2)))))
def mark_Take.f (k : Nat) (a0 : ByteArray) : Option (Int × Int × (List (S55)) × Int) := (mark_reader_number.f k a0 false).bind fun bt177 => ((mark_reader_number.f k bt177.2.1 bt177.2.2).bind fun bt180 => ((mark_reader_number.f k bt180.2.1 bt180.2.2).bind fun bt184 => (mark_Take.l0 k a0 bt184.1 bt184.2.1 bt184.2.2 bt177.1 bt180.1 ([] : List (S55)))))
theorem mark_Take.mono_l : ∀ k, (∀ y0 y1 y2 y3 y4 y5 y6, LeO (mark_Take.l0 k y0 y1 y2 y3 y4 y5 y6) (mark_Take.l0 (k + 1) y0 y1 y2 y3 y4 y5 y6))
 | 0 => fun _ _ _ _ _ _ _ r h => by simp [mark_Take.l0] at h
 | k + 1 => by
  have ih0 := mark_Take.mono_l k
  ·intro y0 y1 y2 y3 y4 y5 y6
   unfold mark_Take.l0
   repeat' first
   | (with_reducible exact ih0 _ _ _ _ _ _ _)
   | (with_reducible exact mark_Put.mono _ _ _ _)
   | (with_reducible exact mark_reader_dest.mono _ _ _)
   | (with_reducible exact mark_reader_number.mono _ _ _)
   | (with_reducible exact LeO.refl _)
   | (with_reducible exact LeO.none _)
   | (with_reducible refine LeO.ite ?_ ?_)
   | (with_reducible refine LeO.bind ?_ (fun _ => ?_))
   | exact ih0 _ _ _ _ _ _ _
   | exact mark_Put.mono _ _ _ _
   | exact mark_reader_dest.mono _ _ _
   | exact mark_reader_number.mono _ _ _
   | exact LeO.none _
   | refine LeO.ite ?_ ?_
   | refine LeO.bind ?_ (fun _ => ?_)
theorem mark_Take.mono : ∀ a0 k, LeO (mark_Take.f k a0) (mark_Take.f (k + 1) a0) := by
 intro a0 k
 have ih0 := mark_Take.mono_l k
 unfold mark_Take.f
 repeat' first
   | (with_reducible exact ih0 _ _ _ _ _ _ _)
   | (with_reducible exact mark_Put.mono _ _ _ _)
   | (with_reducible exact mark_reader_dest.mono _ _ _)
   | (with_reducible exact mark_reader_number.mono _ _ _)
   | (with_reducible exact LeO.refl _)
   | (with_reducible exact LeO.none _)
   | (with_reducible refine LeO.ite ?_ ?_)
   | (with_reducible refine LeO.bind ?_ (fun _ => ?_))
   | exact ih0 _ _ _ _ _ _ _
   | exact mark_Put.mono _ _ _ _
   | exact mark_reader_dest.mono _ _ _
   | exact mark_reader_number.mono _ _ _
   | exact LeO.none _
   | refine LeO.ite ?_ ?_
   | refine LeO.bind ?_ (fun _ => ?_)
def mark_Take.T6 : Bool × List (List Nat × List Nat) := (true, [([], []), ([0], [0]), ([], []), ([2], [2]), ([3], [3]), ([1, 4, 3], [1, 4]), ([0, 1, 2, 3, 4, 5], []), ([6, 5, 5, 0, 1, 2, 3, 4, 5], [5, 6])])
def mark_Take.B6 : List Nat := [0, 1, 0, 4, 12, 31, 63, 127]
theorem mark_Take.tab6 : rtab .any (opsOf Tryd.f13 6) = mark_Take.T6 := by kernel_rfl
theorem mark_Take.bits6 : waitsOk mark_Take.T6.2 mark_Take.B6 = true := by kernel_rfl
set_option maxHeartbeats 8000000 in
set_option maxRecDepth 100000 in
theorem mark_Take.calls (k : Nat) (a0 : ByteArray) (r1 : Int) (r2 : Int) (r3 : List (S55)) (r4 : Int) (w : World) (h : mark_Take.f k a0 = some (r1, r2, r3, r4)) :
  Calls Tryd.prog 13 #[.string a0] w fun e w' => ∃ v2_ : Value, e = .returned (.tuple #[.agg #[.int .u64 r1, .int .u64 r2, v2_], .int .i64 r4]) ∧ Kd.S k55 55 w' w.heap.size (fun _ => True) v2_ r3 ∧ Below w.heap.size w w' := by
 have hu25 := Tryd.underlying25
 have hu63 := Tryd.underlying63
 have HB := Aside0.mk (Below.refl w.heap.size w)
 have H : ((mark_reader_number.f k a0 false).bind fun bt177 => ((mark_reader_number.f k bt177.2.1 bt177.2.2).bind fun bt180 => ((mark_reader_number.f k bt180.2.1 bt180.2.2).bind fun bt184 => (mark_Take.l0 k a0 bt184.1 bt184.2.1 bt184.2.2 bt177.1 bt180.1 ([] : List (S55)))))) = some (r1, r2, r3, r4) := h
 clear h
 replace H := Option.bind_eq_some_iff.mp H
 obtain ⟨⟨t177, t178, t179⟩, A20, H⟩ := H
 replace H : ((mark_reader_number.f k t178 t179).bind fun bt180 => ((mark_reader_number.f k bt180.2.1 bt180.2.2).bind fun bt184 => (mark_Take.l0 k a0 bt184.1 bt184.2.1 bt184.2.2 t177 bt180.1 ([] : List (S55))))) = some (r1, r2, r3, r4) := H
 have A2 := Aside0.mk A20
 clear A20
 replace H := Option.bind_eq_some_iff.mp H
 obtain ⟨⟨t180, t181, t182⟩, A30, H⟩ := H
 replace H : ((mark_reader_number.f k t181 t182).bind fun bt184 => (mark_Take.l0 k a0 bt184.1 bt184.2.1 bt184.2.2 t177 t180 ([] : List (S55)))) = some (r1, r2, r3, r4) := H
 have A3 := Aside0.mk A30
 clear A30
 replace H := Option.bind_eq_some_iff.mp H
 obtain ⟨⟨t184, t185, t186⟩, A40, H⟩ := H
 replace H : (mark_Take.l0 k a0 t184 t185 t186 t177 t180 ([] : List (S55))) = some (r1, r2, r3, r4) := H
 have A4 := Aside0.mk A40
 clear A40
 have H' := Aside0.mk H
 clear H
 go_enter Tryd.func13, Tryd.ntmps13
 go_wp2_with (first | ((with_reducible refine gate_dst (N := 2) rfl ?_); refine box_event ?hg (N := 2) ?hd (cs := #[.int .u64 0, .int .u64 0, .slice none 0 0]) (t := 25) ?hr ?_; (case hd => rfl); (case hg => rfl); (case hr => first | (go_simp; done) | (go_simp; rfl)); intro gb175 hg w5 hbox hb; have n0_ := Aside0.mk (below_step zx11_9 hb); have n1_ := Aside0.mk (hbox); have n2_ := Aside0.mk ((by rw [hg]; exact (below_size zx11_9) : w.heap.size ≤ gb175)); have n3_ := Aside0.mk ((by rw [hg]; exact (below_size zx11_9) : w.heap.size ≤ gb175)); clear HB; have HB := n0_; have BK175 := n1_; have GW175 := n2_; have GE175 := n3_; clear n0_ n1_ n2_ n3_; clear hb hbox hg) | ((with_reducible refine gate_dst (N := 11) rfl ?_); refine box_event ?hg (N := 11) ?hd (cs := #[.string a0, .bool false]) (t := 63) ?hr ?_; (case hd => rfl); (case hg => rfl); (case hr => first | (go_simp; done) | (go_simp; rfl)); intro gb176 hg w6 hbox hb; have n0_ := Aside0.mk (blk_below (g := gb175) (o := .cells #[.int .u64 0, .int .u64 0, .slice none 0 0] 25 (0, 0)) zx11_2 hb); have n1_ := Aside0.mk (below_step zx11_7 hb); have n2_ := Aside0.mk ((by rw [hg]; exact (below_size zx11_7) : w.heap.size ≤ gb176)); have n3_ := Aside0.mk ((by rw [hg]; exact (below_size zx11_7) : w.heap.size ≤ gb176)); have n4_ := Aside0.mk ((by rw [hg]; exact Nat.ne_of_lt (blk_lt (g := gb175) (o := .cells #[.int .u64 0, .int .u64 0, .slice none 0 0] 25 (0, 0)) zx11_2) : gb175 ≠ gb176)); have n5_ := Aside0.mk ((by rw [hg]; exact Nat.ne_of_gt (blk_lt (g := gb175) (o := .cells #[.int .u64 0, .int .u64 0, .slice none 0 0] 25 (0, 0)) zx11_2) : gb176 ≠ gb175)); have n6_ := Aside0.mk ((show IsS63 w w6 gb176 a0 false from ⟨hbox, (by rw [hg]; exact (below_size zx11_7) : w.heap.size ≤ gb176)⟩)); clear BK175; clear HB; have BK175 := n0_; have HB := n1_; have GW176 := n2_; have GE176 := n3_; have NB175_176 := n4_; have NB176_175 := n5_; have HI176 := n6_; clear n0_ n1_ n2_ n3_ n4_ n5_ n6_; clear hb hbox hg) | ((with_reducible refine gate_callee (f := 27) rfl ?_); refine goesL_ (some 13) rfl rfl Tryd.func27 (by kernel_rfl) rfl #[.pointer (some ⟨gb176, 0, none⟩)] rfl zx11_4 ?_; (with_reducible refine (mark_reader_number.calls k gb176 a0 false t177 t178 t179 w _ ?side1 ?side2 A2.out).mono ?_); (case side1 => repeat (first | (with_reducible first | exact HI176.out | apply IsS63.alloc | apply IsS63.drewN | apply IsS63.drew | apply IsS63.set_0 | apply IsS63.set_1 | refine IsS63.far ?_ NB176_175.out _) | exact HI176.out)); (case side2 => repeat (first | (with_reducible first | exact HB.out | apply below_alloc | apply pw_below_drewN | apply below_drew1 | refine below_set ?_ (IsS63.ge HI176.out) | refine below_set ?_ GE175.out) | exact HB.out)); rintro e w7 ⟨rfl, hi, hb, hk⟩; refine ⟨_, rfl, ?_⟩; have n0_ := Aside0.mk (KeepBut.blk hk (g' := gb175) (o := .cells #[.int .u64 0, .int .u64 0, .slice none 0 0] 25 (0, 0)) zx11_2 NB175_176.out (by simp)); have n1_ := Aside0.mk (hb); have n2_ := Aside0.mk (hi); clear BK175; clear HB; clear HI176; have BK175 := n0_; have HB := n1_; have HI176 := n2_; clear n0_ n1_ n2_; (try clear hb); (try clear hb2); (try clear hk); (try clear hi)) | ((with_reducible refine gate_callee (f := 27) rfl ?_); refine goesL_ (some 15) rfl rfl Tryd.func27 (by kernel_rfl) rfl #[.pointer (some ⟨gb176, 0, none⟩)] rfl zx11_4 ?_; (with_reducible refine (mark_reader_number.calls k gb176 t178 t179 t180 t181 t182 w _ ?side1 ?side2 A3.out).mono ?_); (case side1 => repeat (first | (with_reducible first | exact HI176.out | apply IsS63.alloc | apply IsS63.drewN | apply IsS63.drew | apply IsS63.set_0 | apply IsS63.set_1 | refine IsS63.far ?_ NB176_175.out _) | exact HI176.out)); (case side2 => repeat (first | (with_reducible first | exact HB.out | apply below_alloc | apply pw_below_drewN | apply below_drew1 | refine below_set ?_ (IsS63.ge HI176.out) | refine below_set ?_ GE175.out) | exact HB.out)); rintro e w8 ⟨rfl, hi, hb, hk⟩; refine ⟨_, rfl, ?_⟩; have n0_ := Aside0.mk (KeepBut.blk hk (g' := gb175) (o := .cells #[.int .u64 0, .int .u64 0, .slice none 0 0] 25 (0, 0)) zx11_2 NB175_176.out (by simp)); have n1_ := Aside0.mk (hb); have n2_ := Aside0.mk (hi); clear BK175; clear HB; clear HI176; have BK175 := n0_; have HB := n1_; have HI176 := n2_; clear n0_ n1_ n2_; (try clear hb); (try clear hb2); (try clear hk); (try clear hi)) | ((with_reducible refine gate_dst (N := 5) rfl ?_); refine box_event ?hg (N := 5) ?hd (cs := #[.int .u64 0, .int .u64 0, .slice none 0 0]) (t := 25) ?hr ?_; (case hd => rfl); (case hg => rfl); (case hr => first | (go_simp; done) | (go_simp; rfl)); intro gb183 hg w9 hbox hb; have n0_ := Aside0.mk (blk_below (g := gb175) (o := .cells #[.int .u64 0, .int .u64 0, .slice none 0 0] 25 (0, 0)) zx11_2 hb); have n1_ := Aside0.mk (IsS63.below (by repeat (first | (with_reducible first | exact HI176.out | apply IsS63.alloc | apply IsS63.drewN | apply IsS63.drew | apply IsS63.set_0 | apply IsS63.set_1 | refine IsS63.far ?_ NB176_175.out _) | exact HI176.out)) hb); have n2_ := Aside0.mk (below_step zx11_8 hb); have n3_ := Aside0.mk (hbox); have n4_ := Aside0.mk ((by rw [hg]; exact (below_size zx11_8) : w.heap.size ≤ gb183)); have n5_ := Aside0.mk ((by rw [hg]; exact (below_size zx11_8) : w.heap.size ≤ gb183)); have n6_ := Aside0.mk ((by rw [hg]; exact Nat.ne_of_lt (blk_lt (g := gb175) (o := .cells #[.int .u64 0, .int .u64 0, .slice none 0 0] 25 (0, 0)) zx11_2) : gb175 ≠ gb183)); have n7_ := Aside0.mk ((by rw [hg]; exact Nat.ne_of_gt (blk_lt (g := gb175) (o := .cells #[.int .u64 0, .int .u64 0, .slice none 0 0] 25 (0, 0)) zx11_2) : gb183 ≠ gb175)); have n8_ := Aside0.mk ((by rw [hg]; exact Nat.ne_of_lt (IsS63.lt (show IsS63 w _ gb176 t181 t182 from by repeat (first | (with_reducible first | exact HI176.out | apply IsS63.alloc | apply IsS63.drewN | apply IsS63.drew | apply IsS63.set_0 | apply IsS63.set_1 | refine IsS63.far ?_ NB176_175.out _) | exact HI176.out))) : gb176 ≠ gb183)); have n9_ := Aside0.mk ((by rw [hg]; exact Nat.ne_of_gt (IsS63.lt (show IsS63 w _ gb176 t181 t182 from by repeat (first | (with_reducible first | exact HI176.out | apply IsS63.alloc | apply IsS63.drewN | apply IsS63.drew | apply IsS63.set_0 | apply IsS63.set_1 | refine IsS63.far ?_ NB176_175.out _) | exact HI176.out))) : gb183 ≠ gb176)); clear BK175; clear HI176; clear HB; have BK175 := n0_; have HI176 := n1_; have HB := n2_; have BK183 := n3_; have GW183 := n4_; have GE183 := n5_; have NB175_183 := n6_; have NB183_175 := n7_; have NB176_183 := n8_; have NB183_176 := n9_; clear n0_ n1_ n2_ n3_ n4_ n5_ n6_ n7_ n8_ n9_; clear hb hbox hg; have hnb10 := NB183_175.out; have hnc10 := NB175_183.out; have hnb11 := NB183_176.out; have hnc11 := NB176_183.out; have hcz12_0 : w9.cell? ⟨gb183, 0, none⟩ = some (.int .u64 0) := (blk_cell BK183.out 0).trans rfl; have hcz12_1 : w9.cell? ⟨gb183, 1, none⟩ = some (.int .u64 0) := (blk_cell BK183.out 1).trans rfl; have hcz12_2 : w9.cell? ⟨gb183, 2, none⟩ = some (.slice none 0 0) := (blk_cell BK183.out 2).trans rfl; have hfz12_0 := blk_frozen BK183.out 0; have hfz12_1 := blk_frozen BK183.out 1; have hfz12_2 := blk_frozen BK183.out 2) | ((with_reducible refine gate_callee (f := 27) rfl ?_); refine goesL_ (some 18) rfl rfl Tryd.func27 (by kernel_rfl) rfl #[.pointer (some ⟨gb176, 0, none⟩)] rfl zx11_4 ?_; (with_reducible refine (mark_reader_number.calls k gb176 t181 t182 t184 t185 t186 w _ ?side1 ?side2 A4.out).mono ?_); (case side1 => repeat (first | (with_reducible first | exact HI176.out | apply IsS63.alloc | apply IsS63.drewN | apply IsS63.drew | apply IsS63.set_0 | apply IsS63.set_1 | refine IsS63.far ?_ NB176_175.out _ | refine IsS63.far ?_ NB176_183.out _) | exact HI176.out)); (case side2 => repeat (first | (with_reducible first | exact HB.out | apply below_alloc | apply pw_below_drewN | apply below_drew1 | refine below_set ?_ (IsS63.ge HI176.out) | refine below_set ?_ GE175.out | refine below_set ?_ GE183.out) | exact HB.out)); rintro e w13 ⟨rfl, hi, hb, hk⟩; refine ⟨_, rfl, ?_⟩; have n0_ := Aside0.mk (KeepBut.blk hk (g' := gb175) (o := .cells #[.int .u64 0, .int .u64 0, .slice none 0 0] 25 (0, 0)) (by (with_reducible repeat (first | refine blk_drewN ?_ _ | refine blk_drew ?_ | refine blk_alloc ?_ _)); refine blk_far ?_ NB175_183.out _; (with_reducible repeat (first | refine blk_drewN ?_ _ | refine blk_drew ?_ | refine blk_alloc ?_ _)); refine blk_far ?_ NB175_183.out _; (with_reducible repeat (first | refine blk_drewN ?_ _ | refine blk_drew ?_ | refine blk_alloc ?_ _)); refine blk_far ?_ NB175_183.out _; (with_reducible repeat (first | refine blk_drewN ?_ _ | refine blk_drew ?_ | refine blk_alloc ?_ _)); exact BK175.out) NB175_176.out (by simp)); have n1_ := Aside0.mk (KeepBut.blk hk (g' := gb183) (o := .cells #[.int .u64 t177, .int .u64 t180, .slice none 0 0] 25 (0, 0)) (by (with_reducible repeat (first | refine blk_drewN ?_ _ | refine blk_drew ?_ | refine blk_alloc ?_ _)); refine blk_put (cs := #[.int .u64 t177, .int .u64 t180, .slice none 0 0]) ?_ 2 _ rfl; (with_reducible repeat (first | refine blk_drewN ?_ _ | refine blk_drew ?_ | refine blk_alloc ?_ _)); refine blk_put (cs := #[.int .u64 t177, .int .u64 0, .slice none 0 0]) ?_ 1 _ rfl; (with_reducible repeat (first | refine blk_drewN ?_ _ | refine blk_drew ?_ | refine blk_alloc ?_ _)); refine blk_put (cs := #[.int .u64 0, .int .u64 0, .slice none 0 0]) ?_ 0 _ rfl; (with_reducible repeat (first | refine blk_drewN ?_ _ | refine blk_drew ?_ | refine blk_alloc ?_ _)); exact BK183.out) NB183_176.out (by simp)); have n2_ := Aside0.mk (hb); have n3_ := Aside0.mk (hi); clear BK175; clear BK183; clear HB; clear HI176; have BK175 := n0_; have BK183 := n1_; have HB := n2_; have HI176 := n3_; clear n0_ n1_ n2_ n3_; (try clear hb); (try clear hb2); (try clear hk); (try clear hi)))
 go_loopg [6] k (fun kq v6 w' => ∃ (x6_1 : Int) (x177000_1 : ByteArray) (x177001_1 : Bool) (x184002_1 : List (S55)) (u184002 : Value), v6 = .int .u64 x6_1 ∧ Aside0 (mark_Take.l0 kq a0 x6_1 x177000_1 x177001_1 t177 t180 x184002_1 = some (r1, r2, r3, r4)) ∧ Aside0 (kq ≤ k) ∧ Aside0 (Kd.S k55 55 w' w.heap.size (fun _ => True) u184002 x184002_1) ∧ Aside0 (w'.heap[gb175]? = some (.cells #[.int .u64 0, .int .u64 0, (.slice none 0 0)] 25 (0, 0))) ∧ Aside0 (w'.heap[gb183]? = some (.cells #[.int .u64 t177, .int .u64 t180, u184002] 25 (0, 0))) ∧ Aside0 (IsS63 w w' gb176 x177000_1 x177001_1) ∧ Aside0 (Below w.heap.size w w'))
 case atStart => exact ⟨(t184), (t185), (t186), (([] : List (S55))), (.slice none 0 0), (by first | rfl | (simp; done) | (simp [*]; done)), H', ⟨Nat.le_refl _⟩, ⟨by first | exact Kd.S_nil _ _ _ _ _ | exact Kd.N_nil _ _ _ _ _ | exact Kd.V_nil _ _ _ _ _ | exact Kd.Q_nil _ _ _ _ _ | exact Kd.R_nil _ _ _ _ _⟩, ⟨by (with_reducible repeat (first | refine blk_drewN ?_ _ | refine blk_drew ?_ | refine blk_alloc ?_ _)); exact BK175.out⟩, ⟨by (with_reducible repeat (first | refine blk_drewN ?_ _ | refine blk_drew ?_ | refine blk_alloc ?_ _)); exact BK183.out⟩, ⟨by repeat (first | (with_reducible first | exact HI176.out | apply IsS63.alloc | apply IsS63.drewN | apply IsS63.drew | apply IsS63.set_0 | apply IsS63.set_1 | refine IsS63.far ?_ NB176_175.out _ | refine IsS63.far ?_ NB176_183.out _) | exact HI176.out)⟩, ⟨by repeat (first | (with_reducible first | exact HB.out | apply below_alloc | apply pw_below_drewN | apply below_drew1 | refine below_set ?_ (IsS63.ge HI176.out) | refine below_set ?_ GE175.out | refine below_set ?_ GE183.out) | exact HB.out)⟩⟩
 case round =>
  clear H'
  (try clear c1); (try clear c2); (try clear p2); (try clear c10); (try clear c11); (try clear c13); (try clear hcz12_0); (try clear hcz12_1); (try clear hcz12_2); (try clear hfz12_0); (try clear hfz12_1); (try clear hfz12_2)
  obtain ⟨x6_1, x177000_1, x177001_1, x184002_1, u184002, rfl, HA, HK1, HO_184002, BK175, BK183, HI176, HB⟩ := hrel
  cases gk with
  | zero => exact absurd HA.out (by simp [mark_Take.l0])
  | succ k1 =>
   have H := HA.out
   clear HA
   simp only [mark_Take.l0] at H
   by_cases c14 : x6_1 > 0
   ·rw [if_pos c14] at H
    have c14b0 : decide (0 < x6_1) = true := decide_eq_true c14
    clear c14
    by_cases c15 : x177001_1 = true
    ·subst c15
     have H1 : ((mark_Put.f k1 t177 t180 x184002_1).bind fun bt187 => (some (0, 0, ([] : List (S55)), 2))) = some (r1, r2, r3, r4) := by rw [if_pos rfl] at H; exact H
     clear H
     have H := H1
     clear H1
     replace H := Option.bind_eq_some_iff.mp H
     obtain ⟨⟨t187, t188⟩, A160, H⟩ := H
     replace H : (some (0, 0, ([] : List (S55)), 2)) = some (r1, r2, r3, r4) := H
     have A16 := Aside0.mk A160
     clear A160
     simp only [Option.some.injEq, Prod.mk.injEq] at H
     obtain ⟨rfl, rfl, rfl, rfl⟩ := H
     obtain ⟨HGz17, hgz17⟩ := HI176.out
     have hcz17_0 := cellS63_0 HGz17
     have hcz17_1 := cellS63_1 HGz17
     have hfz17_0 := blk_frozen HGz17 0
     have hfz17_1 := blk_frozen HGz17 1
     clear HGz17 hgz17
     have hnb18 := NB183_175.out
     have hnc18 := NB175_183.out
     have hnb19 := NB183_176.out
     have hnc19 := NB176_183.out
     obtain ⟨hcz20_0, hcz20_1, hcz20_2, hfz20_0, hfz20_1, hfz20_2⟩ := cx11_bc3 BK183.out
     obtain ⟨Ao21, co21, eo21⟩ := Kd.S_slice HO_184002.out
     subst eo21
     go_wp2_with (first | ((with_reducible refine gate_callee (f := 11) rfl ?_); refine goesL_ (some 39) rfl rfl Tryd.func11 (by kernel_rfl) rfl #[.agg #[.int .u64 t177, .int .u64 t180, .slice Ao21 x184002_1.length co21]] rfl zx11_4 ?_; (with_reducible refine (mark_Put.calls k1 t177 t180 _ _ x184002_1 t187 t188 _ ?side1 ?side2 A16.out).mono ?_); (case side1 => repeat (first | exact (Kd.S_reads' HO_184002.out).2.2 | (with_reducible refine Kd.C_alloc ?_ _) | (with_reducible refine Kd.C_drewN ?_ _) | (with_reducible refine Kd.C_drew ?_))); (case side2 => exact (Kd.S_reads' HO_184002.out).2.1); rintro e w22 ⟨rfl, hb⟩; refine ⟨_, rfl, ?_⟩; have n0_ := Aside0.mk (Kd.S_below zx11_6 hb); have n1_ := Aside0.mk (blk_below (g := gb175) (o := .cells #[.int .u64 0, .int .u64 0, .slice none 0 0] 25 (0, 0)) zx11_2 hb); have n2_ := Aside0.mk (blk_below (g := gb183) (o := .cells #[.int .u64 t177, .int .u64 t180, .slice Ao21 x184002_1.length co21] 25 (0, 0)) zx11_5 hb); have n3_ := Aside0.mk (IsS63.below zx11_3 hb); have n4_ := Aside0.mk (below_step zx11_1 hb); clear HO_184002; clear BK175; clear BK183; clear HI176; clear HB; have HO_184002 := n0_; have BK175 := n1_; have BK183 := n2_; have HI176 := n3_; have HB := n4_; clear n0_ n1_ n2_ n3_ n4_; (try clear hb); (try clear hb2); (try clear hk); (try clear hi); obtain ⟨HGz23, hgz23⟩ := HI176.out; have hcz23_0 := cellS63_0 HGz23; have hcz23_1 := cellS63_1 HGz23; have hfz23_0 := blk_frozen HGz23 0; have hfz23_1 := blk_frozen HGz23 1; clear HGz23 hgz23; have hnb24 := NB175_176.out; have hnc24 := NB176_175.out; have hcz25_0 : w22.cell? ⟨gb175, 0, none⟩ = some (.int .u64 0) := (blk_cell BK175.out 0).trans rfl; have hcz25_1 : w22.cell? ⟨gb175, 1, none⟩ = some (.int .u64 0) := (blk_cell BK175.out 1).trans rfl; have hcz25_2 : w22.cell? ⟨gb175, 2, none⟩ = some (.slice none 0 0) := (blk_cell BK175.out 2).trans rfl; have hfz25_0 := blk_frozen BK175.out 0; have hfz25_1 := blk_frozen BK175.out 1; have hfz25_2 := blk_frozen BK175.out 2))
     refine bodyPost_ret (results_ct rfl _ _ gb175 25 #[.int .u64 0, .int .u64 0, .slice none 0 0] (0, 0) _ rfl zx11_0 Tryd.underlying25 rfl (by kernel_rfl)) rfl ?_
     exact ⟨_, by first | rfl | (simp [errW_none, errW_some] <;> rfl) | (simp [*, errW_none, errW_some] <;> rfl), by first | exact Kd.S_nil _ _ _ _ _ | exact Kd.N_nil _ _ _ _ _ | exact Kd.V_nil _ _ _ _ _ | exact Kd.Q_nil _ _ _ _ _ | exact Kd.R_nil _ _ _ _ _, by repeat (first | (with_reducible first | exact HB.out | apply below_alloc | apply pw_below_drewN | apply below_drew1 | refine below_set ?_ (IsS63.ge HI176.out) | refine below_set ?_ GE175.out | refine below_set ?_ GE183.out) | exact HB.out)⟩
    ·replace c15 := Bool.eq_false_iff.mpr c15
     subst c15
     have H1 : ((mark_reader_dest.f k1 x177000_1 false).bind fun bt189 => (if x184002_1.length < 1759218604441 then (mark_Take.l0 k1 a0 (IntKind.u64.wrap (x6_1 - 1)) bt189.2.2.2.2.2.2.2.1 bt189.2.2.2.2.2.2.2.2 t177 t180 (x184002_1 ++ [(⟨bt189.1, bt189.2.1, bt189.2.2.1, bt189.2.2.2.1, bt189.2.2.2.2.1, bt189.2.2.2.2.2.1, bt189.2.2.2.2.2.2.1⟩ : S55)])) else (none))) = some (r1, r2, r3, r4) := by rw [if_neg (show ¬ (false = true) by decide)] at H; exact H
     clear H
     have H := H1
     clear H1
     replace H := Option.bind_eq_some_iff.mp H
     obtain ⟨⟨t189, t190, t191, t192, t195, t196, t197, t198, t199⟩, A260, H⟩ := H
     replace H : (if x184002_1.length < 1759218604441 then (mark_Take.l0 k1 a0 (IntKind.u64.wrap (x6_1 - 1)) t198 t199 t177 t180 (x184002_1 ++ [(⟨t189, t190, t191, t192, t195, t196, t197⟩ : S55)])) else (none)) = some (r1, r2, r3, r4) := H
     have A26 := Aside0.mk A260
     clear A260
     by_cases c27 : x184002_1.length < 1759218604441
     ·rw [if_pos c27] at H
      have LMc27 := Aside0.mk c27
      clear c27
      obtain ⟨y200, hy200⟩ : ∃ y_ : List (S55), y_ = (x184002_1 ++ [(⟨t189, t190, t191, t192, t195, t196, t197⟩ : S55)]) := ⟨_, rfl⟩
      replace H : (mark_Take.l0 k1 a0 (IntKind.u64.wrap (x6_1 - 1)) t198 t199 t177 t180 y200) = some (r1, r2, r3, r4) := by first | (rw [hy200]; with_reducible exact H) | (have H2_ := (Option.bind_some _ _).symm.trans H; rw [hy200]; with_reducible exact H2_) | (have H2_ := (Option.bind_some _ _).symm.trans H; with_reducible exact H2_) | with_reducible exact H | (rw [hy200]; exact H) | exact H
      have Ny200 := Aside0.mk hy200
      clear hy200
      have H' := Aside0.mk H
      clear H
      obtain ⟨HGz28, hgz28⟩ := HI176.out
      have hcz28_0 := cellS63_0 HGz28
      have hcz28_1 := cellS63_1 HGz28
      have hfz28_0 := blk_frozen HGz28 0
      have hfz28_1 := blk_frozen HGz28 1
      clear HGz28 hgz28
      try go_wp2
      have n0_ := Aside0.mk (Kd.S_drew HO_184002.out)
      have n1_ := Aside0.mk (blk_drew BK175.out)
      have n2_ := Aside0.mk (blk_drew BK183.out)
      have n3_ := Aside0.mk (IsS63.drew HI176.out)
      have n4_ := Aside0.mk (below_drew1 HB.out)
      clear HO_184002
      clear BK175
      clear BK183
      clear HI176
      clear HB
      have HO_184002 := n0_
      have BK175 := n1_
      have BK183 := n2_
      have HI176 := n3_
      have HB := n4_
      clear n0_ n1_ n2_ n3_ n4_
      refine start_ (n := 8) (S := fun w' => w'.cell? ⟨gb183, 0, none⟩ = some (.int .u64 t177) ∧ w'.cell? ⟨gb183, 1, none⟩ = some (.int .u64 t180) ∧ w'.cell? ⟨gb183, 2, none⟩ = some (u184002)) (ds := [7]) #[false, false, false, false, false, false, false, false] (by kernel_rfl) rfl rfl ⟨(blk_cell BK183.out 0).trans rfl, (blk_cell BK183.out 1).trans rfl, (blk_cell BK183.out 2).trans rfl⟩ (fun hHeld => ?_); refine with_tabW mark_Take.tab6 mark_Take.bits6 (fun HT_ HW_ => ?_)
      generalize wr.drew = w29 at HO_184002 BK175 BK183 HI176 HB hHeld ⊢
      refine pure_ (i := 0) (N := some 30) (v := ?_) (a' := ?_) #[true, false, false, false, false, false, false, false] rfl rfl (any_of HT_.out (by kernel_rfl)) (fun _ _ _ h => h) (Or.inl ⟨by rfl, ?_⟩) ?_ ?_
      rotate_left
      ·intro w'
       go_simp
       with_reducible rfl
      rotate_left
      ·simp only [Act.put, List.setIfInBounds_toArray, List.set_cons_zero, List.set_cons_succ, i64_w, i32_w]
       rfl
      refine pure_ (i := 2) (N := some 32) (v := ?_) (a' := ?_) #[true, false, true, false, false, false, false, false] rfl rfl (any_of HT_.out (by kernel_rfl)) (fun _ _ _ h => h) (Or.inl ⟨by rfl, ?_⟩) ?_ ?_
      rotate_left
      ·intro w'
       go_simp
       with_reducible rfl
      rotate_left
      ·simp only [Act.put, List.setIfInBounds_toArray, List.set_cons_zero, List.set_cons_succ, i64_w, i32_w]
       rfl
      refine take_ (i := 1) (N := some 31) (v := ?_) (a' := ?_) #[true, true, true, false, false, false, false, false] rfl rfl (take_ofW HT_.out HW_.out (by kernel_rfl)) (fun _ _ _ h => h) (Or.inl ⟨by rfl, ?_⟩) hHeld ?_ ?_
      rotate_left
      ·rintro w' ⟨s0, s1, s2⟩
       go_simp
       with_reducible rfl
      rotate_left
      ·simp only [Act.put, List.setIfInBounds_toArray, List.set_cons_zero, List.set_cons_succ, i64_w, i32_w]
       rfl
      refine one_ (i := 3) (N := some 33) #[true, true, true, true, false, false, false, false] rfl rfl (one_of HT_.out (by kernel_rfl)) (by decide) (fun K hK => ?_)
      refine goes_ Tryd.func28 (by kernel_rfl) rfl #[.pointer (some ⟨gb176, 0, none⟩)] (by rfl) rfl rfl zx11_4 ?_
      with_reducible refine (mark_reader_dest.calls k1 gb176 x177000_1 false t189 t190 t191 t192 t195 t196 t197 t198 t199 w _ ?side1 ?side2 A26.out).mono ?_
      (case side1 => repeat (first | (with_reducible first | exact HI176.out | apply IsS63.alloc | apply IsS63.drewN | apply IsS63.drew | apply IsS63.set_0 | apply IsS63.set_1 | refine IsS63.far ?_ NB176_175.out _ | refine IsS63.far ?_ NB176_183.out _) | exact HI176.out))
      (case side2 => repeat (first | (with_reducible first | exact HB.out | apply below_alloc | apply pw_below_drewN | apply below_drew1 | refine below_set ?_ (IsS63.ge HI176.out) | refine below_set ?_ GE175.out | refine below_set ?_ GE183.out) | exact HB.out))
      rintro e w30 ⟨v193, rfl, ho0, hi, hb, hk⟩
      refine ⟨_, rfl, ?_⟩
      have n0_ := Aside0.mk (Kd.S_mono (Kd.S_told (Kd.S_oldK (IsS63.apartS (show IsS63 w _ gb176 x177000_1 false from by repeat (first | (with_reducible first | exact HI176.out | apply IsS63.alloc | apply IsS63.drewN | apply IsS63.drew | apply IsS63.set_0 | apply IsS63.set_1 | refine IsS63.far ?_ NB176_175.out _ | refine IsS63.far ?_ NB176_183.out _) | exact HI176.out)) zx11_6 (by decide)) hk) (Kd.R_base ho0)) (fun _ h_ => h_.1))
      have n1_ := Aside0.mk (KeepBut.blk hk (g' := gb175) (o := .cells #[.int .u64 0, .int .u64 0, .slice none 0 0] 25 (0, 0)) zx11_2 NB175_176.out (by simp))
      have n2_ := Aside0.mk (KeepBut.blk hk (g' := gb183) (o := .cells #[.int .u64 t177, .int .u64 t180, u184002] 25 (0, 0)) zx11_5 NB183_176.out (by simp))
      have n3_ := Aside0.mk (Kd.R_lower ho0 (below_size zx11_1))
      have n4_ := Aside0.mk (hb)
      have n5_ := Aside0.mk (hi)
      clear HO_184002
      clear BK175
      clear BK183
      clear HB
      clear HI176
      have HO_184002 := n0_
      have BK175 := n1_
      have BK183 := n2_
      have HO194 := n3_
      have HB := n4_
      have HI176 := n5_
      clear n0_ n1_ n2_ n3_ n4_ n5_
      (try clear hb)
      (try clear hb2)
      (try clear hk)
      (try clear hi)
      (try clear ho0)
      obtain ⟨Ao32, co32, eo32⟩ := Kd.R_slice HO194.out
      (first | subst eo32 | (injection eo32 with f1_ f2_ f3_; have f4_ := f1_.symm; have f5_ := f3_.symm; clear f1_ f2_ f3_; subst f4_; subst f5_))
      refine hK.out _ _ ⟨(blk_cell BK183.out 0).trans rfl, (blk_cell BK183.out 1).trans rfl, (blk_cell BK183.out 2).trans rfl⟩ (fun hHeld => ?_)
      clear hK K
      refine norm_ (a' := ?_) ?_ ?_
      rotate_left
      ·show Act.put _ (some 33) _ = _
       simp only [Act.put, List.setIfInBounds_toArray, List.set_cons_zero, List.set_cons_succ, i64_w, i32_w]
       rfl
      refine one_ (i := 4) (N := some 34) #[true, true, true, true, true, false, false, false] rfl rfl (one_of HT_.out (by kernel_rfl)) (by decide) (fun K hK => ?_)
      refine value_ (w1 := ?_) (v := ?_) (by rfl) rfl ?_ ?_
      rotate_left 2
      ·go_simp
       constructor
       ·rfl
       ·rfl
      refine hK.out _ _ ⟨(blk_cell (blk_alloc BK183.out _) 0).trans rfl, (blk_cell (blk_alloc BK183.out _) 1).trans rfl, (blk_cell (blk_alloc BK183.out _) 2).trans rfl⟩ (fun hHeld => ?_)
      clear hK K
      refine norm_ (a' := ?_) ?_ ?_
      rotate_left
      ·show Act.put _ (some 34) _ = _
       simp only [Act.put, List.setIfInBounds_toArray, List.set_cons_zero, List.set_cons_succ, i64_w, i32_w]
       rfl
      refine one_ (i := 5) (N := some 35) #[true, true, true, true, true, true, false, false] rfl rfl (one_of HT_.out (by kernel_rfl)) (by decide) (fun K hK => ?_)
      refine Kd.S_append_step k55 (w0 := w) w.heap.size (by rfl) (.tmp 31) (.tmp 34) 23 55 (.agg #[(.string ⟨#[]⟩), (.int .u64 0), (.int .u64 0), (.slice none 0 0), (.int .u64 0), (.int .u64 0), (.int .u64 0)]) 80 rfl Tryd.underlying23 info55 rfl (by decide) (by omega) u184002 x184002_1 (⟨t189, t190, t191, t192, t195, t196, t197⟩ : S55) [.string t189, .int .u64 t190, .int .u64 t191, .slice Ao32 t192.length co32, .int .u64 t195, .int .u64 t196, .int .u64 t197] (fun _ => True) (fun k_ => some k_ = (.slice Ao32 t192.length co32 : Value).ownBlock) rfl rfl ?aP (fun k_ hk_ => ((Kd.R_mono (ok' := fun k_ => ((fun _ => True)) k_ ∧ some k_ ≠ (u184002 : Value).ownBlock) (Kd.R_apart' (HO194.out) (Kd.S_typed HO_184002.out) (by decide)) (fun k_ hk => ⟨trivial, hk.2⟩))).1 k_ hk_.symm) ?aF ?aO ?aB ?aS ?aL ?_
      (case aP => exact k55_mkM _ _ _ (⟨t189, t190, t191, t192, t195, t196, t197⟩ : S55) (Kd.R_mono (Kd.R_tight rfl (Kd.R_mono (ok' := fun k_ => ((fun _ => True)) k_ ∧ some k_ ≠ (u184002 : Value).ownBlock) (Kd.R_apart' (HO194.out) (Kd.S_typed HO_184002.out) (by decide)) (fun k_ hk => ⟨trivial, hk.2⟩))) (fun _ h_ => h_)))
      (case aB => exact zx11_1)
      (case aF => exact (fun _ _ => trivial))
      (case aO => exact (by (with_reducible repeat (first | apply Kd.S_alloc | apply Kd.S_drewN | apply Kd.S_drew)); exact Kd.S_mono HO_184002.out (fun k_ hk => ⟨trivial, fun e_ => hk.2 e_⟩)))
      (case aS => exact (below_size zx11_1))
      (case aL => have := LMc27.out; omega)
      intro v201 w31 ho hb hg hat
      rw [← Ny200.out] at ho
      have n0_ := Aside0.mk (blk_grown (g := gb175) (o := .cells #[.int .u64 0, .int .u64 0, .slice none 0 0] 25 (0, 0)) zx11_2 hg (Kd.S_ne HO_184002.out BK175.out (by decide)))
      have n1_ := Aside0.mk (blk_grown (g := gb183) (o := .cells #[.int .u64 t177, .int .u64 t180, u184002] 25 (0, 0)) zx11_5 hg (Kd.S_ne HO_184002.out BK183.out (by decide)))
      have n2_ := Aside0.mk (IsS63.grown zx11_3 hg (IsS63.own_neS HI176.out HO_184002.out (by decide)))
      have n3_ := Aside0.mk (hb)
      have n4_ := Aside0.mk (ho)
      clear BK175
      clear BK183
      clear HI176
      clear HB
      clear HO_184002
      (try clear HO194)
      have BK175 := n0_
      have BK183 := n1_
      have HI176 := n2_
      have HB := n3_
      have HO202 := n4_
      clear n0_ n1_ n2_ n3_ n4_
      clear ho hb hg hat
      obtain ⟨Ao33, co33, eo33⟩ := Kd.S_slice HO202.out
      (first | subst eo33 | (injection eo33 with f1_ f2_ f3_; have f4_ := f1_.symm; have f5_ := f3_.symm; clear f1_ f2_ f3_; subst f4_; subst f5_))
      refine hK.out _ _ ⟨(blk_cell BK183.out 0).trans rfl, (blk_cell BK183.out 1).trans rfl, (blk_cell BK183.out 2).trans rfl⟩ (fun hHeld => ?_)
      clear hK K
      refine norm_ (a' := ?_) ?_ ?_
      rotate_left
      ·show Act.put _ (some 35) _ = _
       simp only [Act.put, List.setIfInBounds_toArray, List.set_cons_zero, List.set_cons_succ, i64_w, i32_w]
       rfl
      refine pure_ (i := 6) (N := some 36) (v := ?_) (a' := ?_) #[true, true, true, true, true, true, true, false] rfl rfl (any_of HT_.out (by kernel_rfl)) (fun _ _ _ h => h) (Or.inl ⟨by rfl, ?_⟩) ?_ ?_
      rotate_left
      ·intro w'
       go_simp
       with_reducible rfl
      rotate_left
      ·simp only [Act.put, List.setIfInBounds_toArray, List.set_cons_zero, List.set_cons_succ, i64_w, i32_w]
       rfl
      refine last_ (i := 7) (N := none) #[true, true, true, true, true, true, true, true] rfl rfl (one_of HT_.out (by kernel_rfl)) (by decide) (fun K hK => ?_)
      have hs34 : w31.cell? ⟨gb183, 2, none⟩ = some (u184002) := (blk_cell BK183.out 2).trans rfl
      have hfs34 := blk_frozen BK183.out 2
      have hns34_0 := NB175_183.out
      have hms34_0 := NB183_175.out
      refine skip_ (w1 := ?_) (by rfl) rfl ?_ ?_
      rotate_left
      ·go_simp
       rfl
      refine hK.out _ _ ?_
      clear hK K
      refine done_ (done_of HT_.out (by kernel_rfl)) ?_
      try go_wp2
      go_roundg k1
      case measure => have := HK1.out; omega
      case rel => exact ⟨(IntKind.u64.wrap (x6_1 - 1)), (t198), (t199), (y200), (.slice Ao33 y200.length co33), (by first | rfl | (simp; done) | (simp [*]; done)), H', ⟨by have := HK1.out; omega⟩, ⟨by (with_reducible repeat (first | apply Kd.S_alloc | apply Kd.S_drewN | apply Kd.S_drew)); exact Kd.S_mono (Kd.S_far (p := ⟨gb183, 2, none⟩) (Kd.S_types HO202.out BK183.out (by decide)) (fun _ hk => hk.2) (.slice Ao33 y200.length co33)) (fun _ hk => trivial)⟩, ⟨by (with_reducible repeat (first | refine blk_drewN ?_ _ | refine blk_drew ?_ | refine blk_alloc ?_ _)); refine blk_far ?_ NB175_183.out _; (with_reducible repeat (first | refine blk_drewN ?_ _ | refine blk_drew ?_ | refine blk_alloc ?_ _)); exact BK175.out⟩, ⟨by (with_reducible repeat (first | refine blk_drewN ?_ _ | refine blk_drew ?_ | refine blk_alloc ?_ _)); refine blk_put (cs := #[.int .u64 t177, .int .u64 t180, u184002]) ?_ 2 _ rfl; (with_reducible repeat (first | refine blk_drewN ?_ _ | refine blk_drew ?_ | refine blk_alloc ?_ _)); exact BK183.out⟩, ⟨by repeat (first | (with_reducible first | exact HI176.out | apply IsS63.alloc | apply IsS63.drewN | apply IsS63.drew | apply IsS63.set_0 | apply IsS63.set_1 | refine IsS63.far ?_ NB176_175.out _ | refine IsS63.far ?_ NB176_183.out _) | exact HI176.out)⟩, ⟨by repeat (first | (with_reducible first | exact HB.out | apply below_alloc | apply pw_below_drewN | apply below_drew1 | refine below_set ?_ (IsS63.ge HI176.out) | refine below_set ?_ GE175.out | refine below_set ?_ GE183.out) | exact HB.out)⟩⟩
     ·rw [if_neg c27] at H
      exact absurd H (by simp)
   ·rw [if_neg c14] at H
    have c14b0 : decide (0 < x6_1) = false := decide_eq_false c14
    clear c14
    replace H := Option.bind_eq_some_iff.mp H
    obtain ⟨⟨t203, t204⟩, A350, H⟩ := H
    replace H : (if x177001_1 = true then (some (0, 0, ([] : List (S55)), 2)) else (if t204 = 0 then (if t203.toList = a0.toList then (some (t177, t180, x184002_1, 0)) else (some (0, 0, ([] : List (S55)), 2))) else (some (0, 0, ([] : List (S55)), 2)))) = some (r1, r2, r3, r4) := H
    have A35 := Aside0.mk A350
    clear A350
    by_cases c36 : x177001_1 = true
    ·subst c36
     have H1 : (some (0, 0, ([] : List (S55)), 2)) = some (r1, r2, r3, r4) := by rw [if_pos rfl] at H; exact H
     clear H
     have H := H1
     clear H1
     simp only [Option.some.injEq, Prod.mk.injEq] at H
     obtain ⟨rfl, rfl, rfl, rfl⟩ := H
     have hnb37 := NB183_175.out
     have hnc37 := NB175_183.out
     have hnb38 := NB183_176.out
     have hnc38 := NB176_183.out
     obtain ⟨hcz39_0, hcz39_1, hcz39_2, hfz39_0, hfz39_1, hfz39_2⟩ := cx11_bc3 BK183.out
     obtain ⟨Ao40, co40, eo40⟩ := Kd.S_slice HO_184002.out
     subst eo40
     go_wp2_with (first | ((with_reducible refine gate_callee (f := 11) rfl ?_); refine goesL_ (some 39) rfl rfl Tryd.func11 (by kernel_rfl) rfl #[.agg #[.int .u64 t177, .int .u64 t180, .slice Ao40 x184002_1.length co40]] rfl zx11_4 ?_; (with_reducible refine (mark_Put.calls k1 t177 t180 _ _ x184002_1 t203 t204 _ ?side1 ?side2 A35.out).mono ?_); (case side1 => repeat (first | exact (Kd.S_reads' HO_184002.out).2.2 | (with_reducible refine Kd.C_alloc ?_ _) | (with_reducible refine Kd.C_drewN ?_ _) | (with_reducible refine Kd.C_drew ?_))); (case side2 => exact (Kd.S_reads' HO_184002.out).2.1); rintro e w41 ⟨rfl, hb⟩; refine ⟨_, rfl, ?_⟩; have n0_ := Aside0.mk (Kd.S_below zx11_6 hb); have n1_ := Aside0.mk (blk_below (g := gb175) (o := .cells #[.int .u64 0, .int .u64 0, .slice none 0 0] 25 (0, 0)) zx11_2 hb); have n2_ := Aside0.mk (blk_below (g := gb183) (o := .cells #[.int .u64 t177, .int .u64 t180, .slice Ao40 x184002_1.length co40] 25 (0, 0)) zx11_5 hb); have n3_ := Aside0.mk (IsS63.below zx11_3 hb); have n4_ := Aside0.mk (below_step zx11_1 hb); clear HO_184002; clear BK175; clear BK183; clear HI176; clear HB; have HO_184002 := n0_; have BK175 := n1_; have BK183 := n2_; have HI176 := n3_; have HB := n4_; clear n0_ n1_ n2_ n3_ n4_; (try clear hb); (try clear hb2); (try clear hk); (try clear hi); obtain ⟨HGz42, hgz42⟩ := HI176.out; have hcz42_0 := cellS63_0 HGz42; have hcz42_1 := cellS63_1 HGz42; have hfz42_0 := blk_frozen HGz42 0; have hfz42_1 := blk_frozen HGz42 1; clear HGz42 hgz42; have hnb43 := NB175_176.out; have hnc43 := NB176_175.out; have hcz44_0 : w41.cell? ⟨gb175, 0, none⟩ = some (.int .u64 0) := (blk_cell BK175.out 0).trans rfl; have hcz44_1 : w41.cell? ⟨gb175, 1, none⟩ = some (.int .u64 0) := (blk_cell BK175.out 1).trans rfl; have hcz44_2 : w41.cell? ⟨gb175, 2, none⟩ = some (.slice none 0 0) := (blk_cell BK175.out 2).trans rfl; have hfz44_0 := blk_frozen BK175.out 0; have hfz44_1 := blk_frozen BK175.out 1; have hfz44_2 := blk_frozen BK175.out 2))
     refine bodyPost_ret (results_ct rfl _ _ gb175 25 #[.int .u64 0, .int .u64 0, .slice none 0 0] (0, 0) _ rfl zx11_0 Tryd.underlying25 rfl (by kernel_rfl)) rfl ?_
     exact ⟨_, by first | rfl | (simp [errW_none, errW_some] <;> rfl) | (simp [*, errW_none, errW_some] <;> rfl), by first | exact Kd.S_nil _ _ _ _ _ | exact Kd.N_nil _ _ _ _ _ | exact Kd.V_nil _ _ _ _ _ | exact Kd.Q_nil _ _ _ _ _ | exact Kd.R_nil _ _ _ _ _, by repeat (first | (with_reducible first | exact HB.out | apply below_alloc | apply pw_below_drewN | apply below_drew1 | refine below_set ?_ (IsS63.ge HI176.out) | refine below_set ?_ GE175.out | refine below_set ?_ GE183.out) | exact HB.out)⟩
    ·replace c36 := Bool.eq_false_iff.mpr c36
     subst c36
     have H1 : (if t204 = 0 then (if t203.toList = a0.toList then (some (t177, t180, x184002_1, 0)) else (some (0, 0, ([] : List (S55)), 2))) else (some (0, 0, ([] : List (S55)), 2))) = some (r1, r2, r3, r4) := by rw [if_neg (show ¬ (false = true) by decide)] at H; exact H
     clear H
     have H := H1
     clear H1
     by_cases c45 : t204 = 0
     ·rw [if_pos c45] at H
      have c45b0 : (t204 == 0) = true := beq_iff_eq.mpr c45
      have c45b1 : (t204 != 0) = false := bne_eq_false_iff_eq.mpr c45
      clear c45
      by_cases c46 : t203.toList = a0.toList
      ·rw [if_pos c46] at H
       have c46b0 : (t203.toList == a0.toList) = true := beq_iff_eq.mpr c46
       have c46b1 : (t203.toList != a0.toList) = false := bne_eq_false_iff_eq.mpr c46
       clear c46
       simp only [Option.some.injEq, Prod.mk.injEq] at H
       obtain ⟨rfl, rfl, rfl, rfl⟩ := H
       have hnb47 := NB183_175.out
       have hnc47 := NB175_183.out
       have hnb48 := NB183_176.out
       have hnc48 := NB176_183.out
       obtain ⟨hcz49_0, hcz49_1, hcz49_2, hfz49_0, hfz49_1, hfz49_2⟩ := cx11_bc3 BK183.out
       obtain ⟨Ao50, co50, eo50⟩ := Kd.S_slice HO_184002.out
       subst eo50
       go_wp2_with (first | ((with_reducible refine gate_callee (f := 11) rfl ?_); refine goesL_ (some 39) rfl rfl Tryd.func11 (by kernel_rfl) rfl #[.agg #[.int .u64 t177, .int .u64 t180, .slice Ao50 x184002_1.length co50]] rfl zx11_4 ?_; (with_reducible refine (mark_Put.calls k1 t177 t180 _ _ x184002_1 t203 t204 _ ?side1 ?side2 A35.out).mono ?_); (case side1 => repeat (first | exact (Kd.S_reads' HO_184002.out).2.2 | (with_reducible refine Kd.C_alloc ?_ _) | (with_reducible refine Kd.C_drewN ?_ _) | (with_reducible refine Kd.C_drew ?_))); (case side2 => exact (Kd.S_reads' HO_184002.out).2.1); rintro e w51 ⟨rfl, hb⟩; refine ⟨_, rfl, ?_⟩; have n0_ := Aside0.mk (Kd.S_below zx11_6 hb); have n1_ := Aside0.mk (blk_below (g := gb175) (o := .cells #[.int .u64 0, .int .u64 0, .slice none 0 0] 25 (0, 0)) zx11_2 hb); have n2_ := Aside0.mk (blk_below (g := gb183) (o := .cells #[.int .u64 t177, .int .u64 t180, .slice Ao50 x184002_1.length co50] 25 (0, 0)) zx11_5 hb); have n3_ := Aside0.mk (IsS63.below zx11_3 hb); have n4_ := Aside0.mk (below_step zx11_1 hb); clear HO_184002; clear BK175; clear BK183; clear HI176; clear HB; have HO_184002 := n0_; have BK175 := n1_; have BK183 := n2_; have HI176 := n3_; have HB := n4_; clear n0_ n1_ n2_ n3_ n4_; (try clear hb); (try clear hb2); (try clear hk); (try clear hi); obtain ⟨HGz52, hgz52⟩ := HI176.out; have hcz52_0 := cellS63_0 HGz52; have hcz52_1 := cellS63_1 HGz52; have hfz52_0 := blk_frozen HGz52 0; have hfz52_1 := blk_frozen HGz52 1; clear HGz52 hgz52; have hcz53_0 : w51.cell? ⟨gb183, 0, none⟩ = some (.int .u64 t177) := (blk_cell BK183.out 0).trans rfl; have hcz53_1 : w51.cell? ⟨gb183, 1, none⟩ = some (.int .u64 t180) := (blk_cell BK183.out 1).trans rfl; have hcz53_2 : w51.cell? ⟨gb183, 2, none⟩ = some (.slice Ao50 x184002_1.length co50) := (blk_cell BK183.out 2).trans rfl; have hfz53_0 := blk_frozen BK183.out 0; have hfz53_1 := blk_frozen BK183.out 1; have hfz53_2 := blk_frozen BK183.out 2; have hnb54 := NB175_176.out; have hnc54 := NB176_175.out; have hcz55_0 : w51.cell? ⟨gb175, 0, none⟩ = some (.int .u64 0) := (blk_cell BK175.out 0).trans rfl; have hcz55_1 : w51.cell? ⟨gb175, 1, none⟩ = some (.int .u64 0) := (blk_cell BK175.out 1).trans rfl; have hcz55_2 : w51.cell? ⟨gb175, 2, none⟩ = some (.slice none 0 0) := (blk_cell BK175.out 2).trans rfl; have hfz55_0 := blk_frozen BK175.out 0; have hfz55_1 := blk_frozen BK175.out 1; have hfz55_2 := blk_frozen BK175.out 2))
       refine bodyPost_ret (results_ct rfl _ _ gb175 25 #[.int .u64 t177, .int .u64 t180, .slice Ao50 x184002_1.length co50] (0, 0) _ rfl (by (with_reducible repeat (first | refine blk_drewN ?_ _ | refine blk_drew ?_ | refine blk_alloc ?_ _)); refine blk_put (cs := #[.int .u64 t177, .int .u64 t180, .slice none 0 0]) ?_ 2 _ rfl; (with_reducible repeat (first | refine blk_drewN ?_ _ | refine blk_drew ?_ | refine blk_alloc ?_ _)); refine blk_put (cs := #[.int .u64 t177, .int .u64 0, .slice none 0 0]) ?_ 1 _ rfl; (with_reducible repeat (first | refine blk_drewN ?_ _ | refine blk_drew ?_ | refine blk_alloc ?_ _)); refine blk_put (cs := #[.int .u64 0, .int .u64 0, .slice none 0 0]) ?_ 0 _ rfl; (with_reducible repeat (first | refine blk_drewN ?_ _ | refine blk_drew ?_ | refine blk_alloc ?_ _)); exact BK175.out) Tryd.underlying25 rfl (by kernel_rfl)) rfl ?_
       exact ⟨_, by first | rfl | (simp [errW_none, errW_some] <;> rfl) | (simp [*, errW_none, errW_some] <;> rfl), by (with_reducible repeat (first | apply Kd.S_alloc | apply Kd.S_drewN | apply Kd.S_drew)); exact Kd.S_mono (Kd.S_far (p := ⟨gb175, 2, none⟩) (Kd.S_far (p := ⟨gb175, 1, none⟩) (Kd.S_far (p := ⟨gb175, 0, none⟩) (Kd.S_types HO_184002.out BK175.out (by decide)) (fun _ hk => hk.2) (.int .u64 t177)) (fun _ hk => hk.2) (.int .u64 t180)) (fun _ hk => hk.2) (.slice Ao50 x184002_1.length co50)) (fun _ hk => trivial), by repeat (first | (with_reducible first | exact HB.out | apply below_alloc | apply pw_below_drewN | apply below_drew1 | refine below_set ?_ (IsS63.ge HI176.out) | refine below_set ?_ GE175.out | refine below_set ?_ GE183.out) | exact HB.out)⟩
      ·rw [if_neg c46] at H
       have c46b0 : (t203.toList == a0.toList) = false := beq_eq_false_iff_ne.mpr c46
       have c46b1 : (t203.toList != a0.toList) = true := bne_iff_ne.mpr c46
       simp only [Option.some.injEq, Prod.mk.injEq] at H
       obtain ⟨rfl, rfl, rfl, rfl⟩ := H
       have hnb56 := NB183_175.out
       have hnc56 := NB175_183.out
       have hnb57 := NB183_176.out
       have hnc57 := NB176_183.out
       obtain ⟨hcz58_0, hcz58_1, hcz58_2, hfz58_0, hfz58_1, hfz58_2⟩ := cx11_bc3 BK183.out
       obtain ⟨Ao59, co59, eo59⟩ := Kd.S_slice HO_184002.out
       subst eo59
       go_wp2_with (first | ((with_reducible refine gate_callee (f := 11) rfl ?_); refine goesL_ (some 39) rfl rfl Tryd.func11 (by kernel_rfl) rfl #[.agg #[.int .u64 t177, .int .u64 t180, .slice Ao59 x184002_1.length co59]] rfl zx11_4 ?_; (with_reducible refine (mark_Put.calls k1 t177 t180 _ _ x184002_1 t203 t204 _ ?side1 ?side2 A35.out).mono ?_); (case side1 => repeat (first | exact (Kd.S_reads' HO_184002.out).2.2 | (with_reducible refine Kd.C_alloc ?_ _) | (with_reducible refine Kd.C_drewN ?_ _) | (with_reducible refine Kd.C_drew ?_))); (case side2 => exact (Kd.S_reads' HO_184002.out).2.1); rintro e w60 ⟨rfl, hb⟩; refine ⟨_, rfl, ?_⟩; have n0_ := Aside0.mk (Kd.S_below zx11_6 hb); have n1_ := Aside0.mk (blk_below (g := gb175) (o := .cells #[.int .u64 0, .int .u64 0, .slice none 0 0] 25 (0, 0)) zx11_2 hb); have n2_ := Aside0.mk (blk_below (g := gb183) (o := .cells #[.int .u64 t177, .int .u64 t180, .slice Ao59 x184002_1.length co59] 25 (0, 0)) zx11_5 hb); have n3_ := Aside0.mk (IsS63.below zx11_3 hb); have n4_ := Aside0.mk (below_step zx11_1 hb); clear HO_184002; clear BK175; clear BK183; clear HI176; clear HB; have HO_184002 := n0_; have BK175 := n1_; have BK183 := n2_; have HI176 := n3_; have HB := n4_; clear n0_ n1_ n2_ n3_ n4_; (try clear hb); (try clear hb2); (try clear hk); (try clear hi); obtain ⟨HGz61, hgz61⟩ := HI176.out; have hcz61_0 := cellS63_0 HGz61; have hcz61_1 := cellS63_1 HGz61; have hfz61_0 := blk_frozen HGz61 0; have hfz61_1 := blk_frozen HGz61 1; clear HGz61 hgz61; have hnb62 := NB175_176.out; have hnc62 := NB176_175.out; have hcz63_0 : w60.cell? ⟨gb175, 0, none⟩ = some (.int .u64 0) := (blk_cell BK175.out 0).trans rfl; have hcz63_1 : w60.cell? ⟨gb175, 1, none⟩ = some (.int .u64 0) := (blk_cell BK175.out 1).trans rfl; have hcz63_2 : w60.cell? ⟨gb175, 2, none⟩ = some (.slice none 0 0) := (blk_cell BK175.out 2).trans rfl; have hfz63_0 := blk_frozen BK175.out 0; have hfz63_1 := blk_frozen BK175.out 1; have hfz63_2 := blk_frozen BK175.out 2))
       refine bodyPost_ret (results_ct rfl _ _ gb175 25 #[.int .u64 0, .int .u64 0, .slice none 0 0] (0, 0) _ rfl zx11_0 Tryd.underlying25 rfl (by kernel_rfl)) rfl ?_
       exact ⟨_, by first | rfl | (simp [errW_none, errW_some] <;> rfl) | (simp [*, errW_none, errW_some] <;> rfl), by first | exact Kd.S_nil _ _ _ _ _ | exact Kd.N_nil _ _ _ _ _ | exact Kd.V_nil _ _ _ _ _ | exact Kd.Q_nil _ _ _ _ _ | exact Kd.R_nil _ _ _ _ _, by repeat (first | (with_reducible first | exact HB.out | apply below_alloc | apply pw_below_drewN | apply below_drew1 | refine below_set ?_ (IsS63.ge HI176.out) | refine below_set ?_ GE175.out | refine below_set ?_ GE183.out) | exact HB.out)⟩
     ·rw [if_neg c45] at H
      have c45b0 : (t204 == 0) = false := beq_eq_false_iff_ne.mpr c45
      have c45b1 : (t204 != 0) = true := bne_iff_ne.mpr c45
      simp only [Option.some.injEq, Prod.mk.injEq] at H
      obtain ⟨rfl, rfl, rfl, rfl⟩ := H
      have hnb64 := NB183_175.out
      have hnc64 := NB175_183.out
      have hnb65 := NB183_176.out
      have hnc65 := NB176_183.out
      obtain ⟨hcz66_0, hcz66_1, hcz66_2, hfz66_0, hfz66_1, hfz66_2⟩ := cx11_bc3 BK183.out
      obtain ⟨Ao67, co67, eo67⟩ := Kd.S_slice HO_184002.out
      subst eo67
      go_wp2_with (first | ((with_reducible refine gate_callee (f := 11) rfl ?_); refine goesL_ (some 39) rfl rfl Tryd.func11 (by kernel_rfl) rfl #[.agg #[.int .u64 t177, .int .u64 t180, .slice Ao67 x184002_1.length co67]] rfl zx11_4 ?_; (with_reducible refine (mark_Put.calls k1 t177 t180 _ _ x184002_1 t203 t204 _ ?side1 ?side2 A35.out).mono ?_); (case side1 => repeat (first | exact (Kd.S_reads' HO_184002.out).2.2 | (with_reducible refine Kd.C_alloc ?_ _) | (with_reducible refine Kd.C_drewN ?_ _) | (with_reducible refine Kd.C_drew ?_))); (case side2 => exact (Kd.S_reads' HO_184002.out).2.1); rintro e w68 ⟨rfl, hb⟩; refine ⟨_, rfl, ?_⟩; have n0_ := Aside0.mk (Kd.S_below zx11_6 hb); have n1_ := Aside0.mk (blk_below (g := gb175) (o := .cells #[.int .u64 0, .int .u64 0, .slice none 0 0] 25 (0, 0)) zx11_2 hb); have n2_ := Aside0.mk (blk_below (g := gb183) (o := .cells #[.int .u64 t177, .int .u64 t180, .slice Ao67 x184002_1.length co67] 25 (0, 0)) zx11_5 hb); have n3_ := Aside0.mk (IsS63.below zx11_3 hb); have n4_ := Aside0.mk (below_step zx11_1 hb); clear HO_184002; clear BK175; clear BK183; clear HI176; clear HB; have HO_184002 := n0_; have BK175 := n1_; have BK183 := n2_; have HI176 := n3_; have HB := n4_; clear n0_ n1_ n2_ n3_ n4_; (try clear hb); (try clear hb2); (try clear hk); (try clear hi); obtain ⟨HGz69, hgz69⟩ := HI176.out; have hcz69_0 := cellS63_0 HGz69; have hcz69_1 := cellS63_1 HGz69; have hfz69_0 := blk_frozen HGz69 0; have hfz69_1 := blk_frozen HGz69 1; clear HGz69 hgz69; have hnb70 := NB175_176.out; have hnc70 := NB176_175.out; have hcz71_0 : w68.cell? ⟨gb175, 0, none⟩ = some (.int .u64 0) := (blk_cell BK175.out 0).trans rfl; have hcz71_1 : w68.cell? ⟨gb175, 1, none⟩ = some (.int .u64 0) := (blk_cell BK175.out 1).trans rfl; have hcz71_2 : w68.cell? ⟨gb175, 2, none⟩ = some (.slice none 0 0) := (blk_cell BK175.out 2).trans rfl; have hfz71_0 := blk_frozen BK175.out 0; have hfz71_1 := blk_frozen BK175.out 1; have hfz71_2 := blk_frozen BK175.out 2))
      refine bodyPost_ret (results_ct rfl _ _ gb175 25 #[.int .u64 0, .int .u64 0, .slice none 0 0] (0, 0) _ rfl zx11_0 Tryd.underlying25 rfl (by kernel_rfl)) rfl ?_
      exact ⟨_, by first | rfl | (simp [errW_none, errW_some] <;> rfl) | (simp [*, errW_none, errW_some] <;> rfl), by first | exact Kd.S_nil _ _ _ _ _ | exact Kd.N_nil _ _ _ _ _ | exact Kd.V_nil _ _ _ _ _ | exact Kd.Q_nil _ _ _ _ _ | exact Kd.R_nil _ _ _ _ _, by repeat (first | (with_reducible first | exact HB.out | apply below_alloc | apply pw_below_drewN | apply below_drew1 | refine below_set ?_ (IsS63.ge HI176.out) | refine below_set ?_ GE175.out | refine below_set ?_ GE183.out) | exact HB.out)⟩

end Go.Proofs.YtmbigoeldobaiaaDoor.XMrk
end
section
/- What the functions of the translation answer, each as a plain Lean function, and that the code comes to it; for a law: its row. Conditions: none but those that each theorem names. Written by a program of this session (wip/xp). -/
namespace Go.Proofs.YtmbigoeldobaiaaDoor.XMrk
open Go.RowKit Go.Proofs.YtmbigoeldobaiaaDoorW.PrintWords Go.Proofs.YtmbigoeldobaiaaDoorW.PrintLast Go.Proofs.YtmbigoeldobaiaaDoorW.PrintMore
attribute [local go_sem] max2_int min2_int max_two min_two max_three min_three max_four min_four   -- for this text's walks alone
theorem cx15_bc3 {w : World} {g : Nat} {t : TypeId} {x0 x1 x2 : Value} (h : w.heap[g]? = some (.cells #[x0, x1, x2] t (0, 0))) : w.cell? ⟨g, 0, none⟩ = some x0 ∧ w.cell? ⟨g, 1, none⟩ = some x1 ∧ w.cell? ⟨g, 2, none⟩ = some x2 ∧ w.frozen? ⟨g, 0, none⟩ = false ∧ w.frozen? ⟨g, 1, none⟩ = false ∧ w.frozen? ⟨g, 2, none⟩ = false :=
 ⟨(blk_cell h 0).trans rfl, (blk_cell h 1).trans rfl, (blk_cell h 2).trans rfl, blk_frozen h 0, blk_frozen h 1, blk_frozen h 2⟩
theorem cx15_bc7 {w : World} {g : Nat} {t : TypeId} {x0 x1 x2 x3 x4 x5 x6 : Value} (h : w.heap[g]? = some (.cells #[x0, x1, x2, x3, x4, x5, x6] t (0, 0))) : w.cell? ⟨g, 0, none⟩ = some x0 ∧ w.cell? ⟨g, 1, none⟩ = some x1 ∧ w.cell? ⟨g, 2, none⟩ = some x2 ∧ w.cell? ⟨g, 3, none⟩ = some x3 ∧ w.cell? ⟨g, 4, none⟩ = some x4 ∧ w.cell? ⟨g, 5, none⟩ = some x5 ∧ w.cell? ⟨g, 6, none⟩ = some x6 ∧ w.frozen? ⟨g, 0, none⟩ = false ∧ w.frozen? ⟨g, 1, none⟩ = false ∧ w.frozen? ⟨g, 2, none⟩ = false ∧ w.frozen? ⟨g, 3, none⟩ = false ∧ w.frozen? ⟨g, 4, none⟩ = false ∧ w.frozen? ⟨g, 5, none⟩ = false ∧ w.frozen? ⟨g, 6, none⟩ = false :=
 ⟨(blk_cell h 0).trans rfl, (blk_cell h 1).trans rfl, (blk_cell h 2).trans rfl, (blk_cell h 3).trans rfl, (blk_cell h 4).trans rfl, (blk_cell h 5).trans rfl, (blk_cell h 6).trans rfl, blk_frozen h 0, blk_frozen h 1, blk_frozen h 2, blk_frozen h 3, blk_frozen h 4, blk_frozen h 5, blk_frozen h 6⟩
theorem zx15_4 {p : Prop} (h : p := by first | rfl | (simp; done) | (simp [*]; done)) : p := h
theorem zx15_0 {p : Prop} (h : p := by first | (with_reducible assumption) | assumption) : p := h
theorem zx15_3 {p : Prop} (h : p := by (with_reducible repeat (first | refine blk_drewN ?_ _ | refine blk_drew ?_ | refine blk_alloc ?_ _)); exact BK231.out) : p := h
theorem zx15_2 {p : Prop} (h : p := by repeat (first | (with_reducible first | exact HB.out | apply below_alloc | apply pw_below_drewN | apply below_drew1) | exact HB.out)) : p := h
theorem zx15_1 {p : Prop} (h : p := by repeat (first | (with_reducible first | exact HB.out | apply below_alloc | apply pw_below_drewN | apply below_drew1 | refine below_set ?_ GE231.out) | exact HB.out)) : p := h
set_option linter.unusedVariables false
set_option linter.unusedSimpArgs false

/-! ### postroomref11_Right: function 16 -/
mutual
def postroomref11_Right.j0 : Nat → Bool → Int → Int → List (S57) → Option (Bool)
 | 0, _, _, _, _ => none
 | k + 1, x24, x232000, x232001, x232002 => if x24 = true then (some false) else (postroomref11_Right.l0 k 0 x232000 x232001 x232002)
def postroomref11_Right.l0 : Nat → Int → Int → Int → List (S57) → Option (Bool)
 | 0, _, _, _, _ => none
 | k + 1, x3, x232000, x232001, x232002 => if x3 < (x232002.length : Int) then (if 0 ≤ x3 then ((postroomref3_Name.f k ((rd_T57 x232002 x3).f0)).bind fun t234 => (if t234 = true then (if ((rd_T57 x232002 x3).f1) < 1 then (postroomref11_Right.j2 k x3 true x232000 x232001 x232002 ((rd_T57 x232002 x3).f0) ((rd_T57 x232002 x3).f1) ((rd_T57 x232002 x3).f2) ((rd_T57 x232002 x3).f3) ((rd_T57 x232002 x3).f4) ((rd_T57 x232002 x3).f5) ((rd_T57 x232002 x3).f6)) else (if ((rd_T57 x232002 x3).f2) < ((rd_T57 x232002 x3).f1) then (postroomref11_Right.j2 k x3 true x232000 x232001 x232002 ((rd_T57 x232002 x3).f0) ((rd_T57 x232002 x3).f1) ((rd_T57 x232002 x3).f2) ((rd_T57 x232002 x3).f3) ((rd_T57 x232002 x3).f4) ((rd_T57 x232002 x3).f5) ((rd_T57 x232002 x3).f6)) else (postroomref11_Right.j2 k x3 (decide (x232001 < ((rd_T57 x232002 x3).f2))) x232000 x232001 x232002 ((rd_T57 x232002 x3).f0) ((rd_T57 x232002 x3).f1) ((rd_T57 x232002 x3).f2) ((rd_T57 x232002 x3).f3) ((rd_T57 x232002 x3).f4) ((rd_T57 x232002 x3).f5) ((rd_T57 x232002 x3).f6)))) else (postroomref11_Right.j2 k x3 true x232000 x232001 x232002 ((rd_T57 x232002 x3).f0) ((rd_T57 x232002 x3).f1) ((rd_T57 x232002 x3).f2) ((rd_T57 x232002 x3).f3) ((rd_T57 x232002 x3).f4) ((rd_T57 x232002 x3).f5) ((rd_T57 x232002 x3).f6)))) else (none)) else (some true)
def postroomref11_Right.j2 : Nat → Int → Bool → Int → Int → List (S57) → ByteArray → Int → Int → List Int → Int → Int → Int → Option (Bool)
 | 0, _, _, _, _, _, _, _, _, _, _, _, _ => none
 | k + 1, x3, x60, x232000, x232001, x232002, x234000, x234001, x234002, x234003, x234004, x234005, x234006 => if x60 = true then (some false) else (postroomref11_Right.l1 k x3 0 x232000 x232001 x232002 x234000 x234001 x234002 x234003 x234004 x234005 x234006)
def postroomref11_Right.l1 : Nat → Int → Int → Int → Int → List (S57) → ByteArray → Int → Int → List Int → Int → Int → Int → Option (Bool)
 | 0, _, _, _, _, _, _, _, _, _, _, _, _ => none
 | k + 1, x3, x6, x232000, x232001, x232002, x234000, x234001, x234002, x234003, x234004, x234005, x234006 => if x6 < x3 then (if 0 ≤ x6 then (if x6 < (x232002.length : Int) then (if ((rd_T57 x232002 x6).f0).toList = x234000.toList then (some false) else (postroomref11_Right.l1 k x3 (wrap64 (x6 + 1)) x232000 x232001 x232002 x234000 x234001 x234002 x234003 x234004 x234005 x234006)) else (none)) else (none)) else (postroomref11_Right.l2 k x3 0 x232000 x232001 x232002 x234000 x234001 x234002 x234003 x234004 x234005 x234006)
def postroomref11_Right.l2 : Nat → Int → Int → Int → Int → List (S57) → ByteArray → Int → Int → List Int → Int → Int → Int → Option (Bool)
 | 0, _, _, _, _, _, _, _, _, _, _, _, _ => none
 | k + 1, x3, x7, x232000, x232001, x232002, x234000, x234001, x234002, x234003, x234004, x234005, x234006 => if x7 < (x234003.length : Int) then (if 0 ≤ x7 then (if (rd x234003 x7) ≤ x234002 then (some false) else (if (rd x234003 x7) ≥ x232001 then (some false) else (if x7 > 0 then (if 0 ≤ (wrap64 (x7 - 1)) then (if (wrap64 (x7 - 1)) < (x234003.length : Int) then (if (rd x234003 x7) ≤ (rd x234003 (wrap64 (x7 - 1))) then (some false) else (postroomref11_Right.l2 k x3 (wrap64 (x7 + 1)) x232000 x232001 x232002 x234000 x234001 x234002 x234003 x234004 x234005 x234006)) else (none)) else (none)) else (postroomref11_Right.l2 k x3 (wrap64 (x7 + 1)) x232000 x232001 x232002 x234000 x234001 x234002 x234003 x234004 x234005 x234006)))) else (none)) else (if (IntKind.u64.wrap ((IntKind.u64.wrap (x234004 + x234005)) + x234006)) = (IntKind.u64.wrap ((IntKind.u64.wrap (x234002 - x234001)) + (IntKind.u64.wrap ((x234003.length : Int))))) then (if (IntKind.u64.wrap ((IntKind.u64.wrap (x234002 - x234001)) + (IntKind.u64.wrap ((x234003.length : Int))))) = (IntKind.u64.wrap (x232001 - x234001)) then (postroomref11_Right.l0 k (wrap64 (x3 + 1)) x232000 x232001 x232002) else (if x234002 < x232000 then (some false) else (postroomref11_Right.l0 k (wrap64 (x3 + 1)) x232000 x232001 x232002))) else (some false))
end
def postroomref11_Right.f (k : Nat) (a0_0 : Int) (a0_1 : Int) (l0_2 : List (S57)) : Option (Bool) := if a0_0 < 1 then (postroomref11_Right.j0 k true a0_0 a0_1 l0_2) else (if a0_1 < a0_0 then (postroomref11_Right.j0 k true a0_0 a0_1 l0_2) else (postroomref11_Right.j0 k (decide ((l0_2.length : Int) > 4)) a0_0 a0_1 l0_2))
theorem postroomref11_Right.mono_l : ∀ k, (∀ y0 y1 y2 y3, LeO (postroomref11_Right.j0 k y0 y1 y2 y3) (postroomref11_Right.j0 (k + 1) y0 y1 y2 y3)) ∧ (∀ y0 y1 y2 y3, LeO (postroomref11_Right.l0 k y0 y1 y2 y3) (postroomref11_Right.l0 (k + 1) y0 y1 y2 y3)) ∧ (∀ y0 y1 y2 y3 y4 y5 y6 y7 y8 y9 y10 y11, LeO (postroomref11_Right.j2 k y0 y1 y2 y3 y4 y5 y6 y7 y8 y9 y10 y11) (postroomref11_Right.j2 (k + 1) y0 y1 y2 y3 y4 y5 y6 y7 y8 y9 y10 y11)) ∧ (∀ y0 y1 y2 y3 y4 y5 y6 y7 y8 y9 y10 y11, LeO (postroomref11_Right.l1 k y0 y1 y2 y3 y4 y5 y6 y7 y8 y9 y10 y11) (postroomref11_Right.l1 (k + 1) y0 y1 y2 y3 y4 y5 y6 y7 y8 y9 y10 y11)) ∧ (∀ y0 y1 y2 y3 y4 y5 y6 y7 y8 y9 y10 y11, LeO (postroomref11_Right.l2 k y0 y1 y2 y3 y4 y5 y6 y7 y8 y9 y10 y11) (postroomref11_Right.l2 (k + 1) y0 y1 y2 y3 y4 y5 y6 y7 y8 y9 y10 y11))
 | 0 => ⟨fun _ _ _ _ r h => by simp [postroomref11_Right.j0] at h, fun _ _ _ _ r h => by simp [postroomref11_Right.l0] at h, fun _ _ _ _ _ _ _ _ _ _ _ _ r h => by simp [postroomref11_Right.j2] at h, fun _ _ _ _ _ _ _ _ _ _ _ _ r h => by simp [postroomref11_Right.l1] at h, fun _ _ _ _ _ _ _ _ _ _ _ _ r h => by simp [postroomref11_Right.l2] at h⟩
 | k + 1 => by
  obtain ⟨ih0, ih1, ih2, ih3, ih4⟩ := postroomref11_Right.mono_l k
  refine ⟨?_, ?_, ?_, ?_, ?_⟩
  ·intro y0 y1 y2 y3
   unfold postroomref11_Right.j0
   repeat' first
   | (with_reducible exact ih0 _ _ _ _)
   | (with_reducible exact ih1 _ _ _ _)
   | (with_reducible exact ih2 _ _ _ _ _ _ _ _ _ _ _ _)
   | (with_reducible exact ih3 _ _ _ _ _ _ _ _ _ _ _ _)
   | (with_reducible exact ih4 _ _ _ _ _ _ _ _ _ _ _ _)
   | (with_reducible exact postroomref3_Name.mono _ _)
   | (with_reducible exact LeO.refl _)
   | (with_reducible exact LeO.none _)
   | (with_reducible refine LeO.ite ?_ ?_)
   | (with_reducible refine LeO.bind ?_ (fun _ => ?_))
   | exact ih0 _ _ _ _
   | exact ih1 _ _ _ _
   | exact ih2 _ _ _ _ _ _ _ _ _ _ _ _
   | exact ih3 _ _ _ _ _ _ _ _ _ _ _ _
   | exact ih4 _ _ _ _ _ _ _ _ _ _ _ _
   | exact postroomref3_Name.mono _ _
   | exact LeO.none _
   | refine LeO.ite ?_ ?_
   | refine LeO.bind ?_ (fun _ => ?_)
  ·intro y0 y1 y2 y3
   unfold postroomref11_Right.l0
   repeat' first
   | (with_reducible exact ih0 _ _ _ _)
   | (with_reducible exact ih1 _ _ _ _)
   | (with_reducible exact ih2 _ _ _ _ _ _ _ _ _ _ _ _)
   | (with_reducible exact ih3 _ _ _ _ _ _ _ _ _ _ _ _)
   | (with_reducible exact ih4 _ _ _ _ _ _ _ _ _ _ _ _)
   | (with_reducible exact postroomref3_Name.mono _ _)
   | (with_reducible exact LeO.refl _)
   | (with_reducible exact LeO.none _)
   | (with_reducible refine LeO.ite ?_ ?_)
   | (with_reducible refine LeO.bind ?_ (fun _ => ?_))
   | exact ih0 _ _ _ _
   | exact ih1 _ _ _ _
   | exact ih2 _ _ _ _ _ _ _ _ _ _ _ _
   | exact ih3 _ _ _ _ _ _ _ _ _ _ _ _
   | exact ih4 _ _ _ _ _ _ _ _ _ _ _ _
   | exact postroomref3_Name.mono _ _
   | exact LeO.none _
   | refine LeO.ite ?_ ?_
   | refine LeO.bind ?_ (fun _ => ?_)
  ·intro y0 y1 y2 y3 y4 y5 y6 y7 y8 y9 y10 y11
   unfold postroomref11_Right.j2
   repeat' first
   | (with_reducible exact ih0 _ _ _ _)
   | (with_reducible exact ih1 _ _ _ _)
   | (with_reducible exact ih2 _ _ _ _ _ _ _ _ _ _ _ _)
   | (with_reducible exact ih3 _ _ _ _ _ _ _ _ _ _ _ _)
   | (with_reducible exact ih4 _ _ _ _ _ _ _ _ _ _ _ _)
   | (with_reducible exact postroomref3_Name.mono _ _)
   | (with_reducible exact LeO.refl _)
   | (with_reducible exact LeO.none _)
   | (with_reducible refine LeO.ite ?_ ?_)
   | (with_reducible refine LeO.bind ?_ (fun _ => ?_))
   | exact ih0 _ _ _ _
   | exact ih1 _ _ _ _
   | exact ih2 _ _ _ _ _ _ _ _ _ _ _ _
   | exact ih3 _ _ _ _ _ _ _ _ _ _ _ _
   | exact ih4 _ _ _ _ _ _ _ _ _ _ _ _
   | exact postroomref3_Name.mono _ _
   | exact LeO.none _
   | refine LeO.ite ?_ ?_
   | refine LeO.bind ?_ (fun _ => ?_)
  ·intro y0 y1 y2 y3 y4 y5 y6 y7 y8 y9 y10 y11
   unfold postroomref11_Right.l1
   repeat' first
   | (with_reducible exact ih0 _ _ _ _)
   | (with_reducible exact ih1 _ _ _ _)
   | (with_reducible exact ih2 _ _ _ _ _ _ _ _ _ _ _ _)
   | (with_reducible exact ih3 _ _ _ _ _ _ _ _ _ _ _ _)
   | (with_reducible exact ih4 _ _ _ _ _ _ _ _ _ _ _ _)
   | (with_reducible exact postroomref3_Name.mono _ _)
   | (with_reducible exact LeO.refl _)
   | (with_reducible exact LeO.none _)
   | (with_reducible refine LeO.ite ?_ ?_)
   | (with_reducible refine LeO.bind ?_ (fun _ => ?_))
   | exact ih0 _ _ _ _
   | exact ih1 _ _ _ _
   | exact ih2 _ _ _ _ _ _ _ _ _ _ _ _
   | exact ih3 _ _ _ _ _ _ _ _ _ _ _ _
   | exact ih4 _ _ _ _ _ _ _ _ _ _ _ _
   | exact postroomref3_Name.mono _ _
   | exact LeO.none _
   | refine LeO.ite ?_ ?_
   | refine LeO.bind ?_ (fun _ => ?_)
  ·intro y0 y1 y2 y3 y4 y5 y6 y7 y8 y9 y10 y11
   unfold postroomref11_Right.l2
   repeat' first
   | (with_reducible exact ih0 _ _ _ _)
   | (with_reducible exact ih1 _ _ _ _)
   | (with_reducible exact ih2 _ _ _ _ _ _ _ _ _ _ _ _)
   | (with_reducible exact ih3 _ _ _ _ _ _ _ _ _ _ _ _)
   | (with_reducible exact ih4 _ _ _ _ _ _ _ _ _ _ _ _)
   | (with_reducible exact postroomref3_Name.mono _ _)
   | (with_reducible exact LeO.refl _)
   | (with_reducible exact LeO.none _)
   | (with_reducible refine LeO.ite ?_ ?_)
   | (with_reducible refine LeO.bind ?_ (fun _ => ?_))
   | exact ih0 _ _ _ _
   | exact ih1 _ _ _ _
   | exact ih2 _ _ _ _ _ _ _ _ _ _ _ _
   | exact ih3 _ _ _ _ _ _ _ _ _ _ _ _
   | exact ih4 _ _ _ _ _ _ _ _ _ _ _ _
   | exact postroomref3_Name.mono _ _
   | exact LeO.none _
   | refine LeO.ite ?_ ?_
   | refine LeO.bind ?_ (fun _ => ?_)
theorem postroomref11_Right.mono : ∀ a0 a1 a2 k, LeO (postroomref11_Right.f k a0 a1 a2) (postroomref11_Right.f (k + 1) a0 a1 a2) := by
 intro a0 a1 a2 k
 obtain ⟨ih0, ih1, ih2, ih3, ih4⟩ := postroomref11_Right.mono_l k
 unfold postroomref11_Right.f
 repeat' first
   | (with_reducible exact ih0 _ _ _ _)
   | (with_reducible exact ih1 _ _ _ _)
   | (with_reducible exact ih2 _ _ _ _ _ _ _ _ _ _ _ _)
   | (with_reducible exact ih3 _ _ _ _ _ _ _ _ _ _ _ _)
   | (with_reducible exact ih4 _ _ _ _ _ _ _ _ _ _ _ _)
   | (with_reducible exact postroomref3_Name.mono _ _)
   | (with_reducible exact LeO.refl _)
   | (with_reducible exact LeO.none _)
   | (with_reducible refine LeO.ite ?_ ?_)
   | (with_reducible refine LeO.bind ?_ (fun _ => ?_))
   | exact ih0 _ _ _ _
   | exact ih1 _ _ _ _
   | exact ih2 _ _ _ _ _ _ _ _ _ _ _ _
   | exact ih3 _ _ _ _ _ _ _ _ _ _ _ _
   | exact ih4 _ _ _ _ _ _ _ _ _ _ _ _
   | exact postroomref3_Name.mono _ _
   | exact LeO.none _
   | refine LeO.ite ?_ ?_
   | refine LeO.bind ?_ (fun _ => ?_)
set_option maxHeartbeats 8000000 in
set_option maxRecDepth 100000 in
theorem postroomref11_Right.calls (k : Nat) (a0_0 : Int) (a0_1 : Int) (A0_2 : Option Addr) (c0_2 : Nat) (l0_2 : List (S57)) (r : Bool) (w : World) (hr0_2 : Kd.C k57 w A0_2 l0_2.length l0_2) (hc0_2 : l0_2.length ≤ c0_2) (h : postroomref11_Right.f k a0_0 a0_1 l0_2 = some r) :
  Calls Tryd.prog 16 #[.agg #[.int .u64 a0_0, .int .u64 a0_1, .slice A0_2 l0_2.length c0_2]] w fun e w' => e = .returned (.bool r) ∧ Below w.heap.size w w' := by
 have hu30 := Tryd.underlying30
 have hu57 := Tryd.underlying57
 have HR0_2 := Aside0.mk hr0_2
 have HC0_2 := Aside0.mk hc0_2
 clear hr0_2 hc0_2
 have HB := Aside0.mk (Below.refl w.heap.size w)
 have H : (if a0_0 < 1 then (postroomref11_Right.j0 k true a0_0 a0_1 l0_2) else (if a0_1 < a0_0 then (postroomref11_Right.j0 k true a0_0 a0_1 l0_2) else (postroomref11_Right.j0 k (decide ((l0_2.length : Int) > 4)) a0_0 a0_1 l0_2))) = some r := h
 clear h
 have HC2 := Aside0.mk H
 clear H
 go_enter Tryd.func16, Tryd.ntmps16
 go_upto_region 1 with (first | ((with_reducible refine gate_dst (N := 1) rfl ?_); (try (refine gate_guard (by rfl) ?_; dsimp only)); refine box_event ?hg (N := 1) ?hd (cs := #[.int .u64 a0_0, .int .u64 a0_1, .slice A0_2 l0_2.length c0_2]) (t := 30) ?hr ?_; (case hd => rfl); (case hg => rfl); (case hr => first | (go_simp; done) | (go_simp; rfl)); intro gb231 hg w3 hbox hb; have n0_ := Aside0.mk (below_step zx15_2 hb); have n1_ := Aside0.mk (hbox); have n2_ := Aside0.mk ((by rw [hg]; exact (below_size zx15_2) : w.heap.size ≤ gb231)); have n3_ := Aside0.mk ((by rw [hg]; exact (below_size zx15_2) : w.heap.size ≤ gb231)); clear HB; have HB := n0_; have BK231 := n1_; have GW231 := n2_; have GE231 := n3_; clear n0_ n1_ n2_ n3_; clear hb hbox hg))
 repeat (go_quiet (first | ((with_reducible refine gate_dst (N := 1) rfl ?_); (try (refine gate_guard (by rfl) ?_; dsimp only)); refine box_event ?hg (N := 1) ?hd (cs := #[.int .u64 a0_0, .int .u64 a0_1, .slice A0_2 l0_2.length c0_2]) (t := 30) ?hr ?_; (case hd => rfl); (case hg => rfl); (case hr => first | (go_simp; done) | (go_simp; rfl)); intro gb231 hg w3 hbox hb; have n0_ := Aside0.mk (below_step zx15_2 hb); have n1_ := Aside0.mk (hbox); have n2_ := Aside0.mk ((by rw [hg]; exact (below_size zx15_2) : w.heap.size ≤ gb231)); have n3_ := Aside0.mk ((by rw [hg]; exact (below_size zx15_2) : w.heap.size ≤ gb231)); clear HB; have HB := n0_; have BK231 := n1_; have GW231 := n2_; have GE231 := n3_; clear n0_ n1_ n2_ n3_; clear hb hbox hg)); go_upto_region 1 with (first | ((with_reducible refine gate_dst (N := 1) rfl ?_); (try (refine gate_guard (by rfl) ?_; dsimp only)); refine box_event ?hg (N := 1) ?hd (cs := #[.int .u64 a0_0, .int .u64 a0_1, .slice A0_2 l0_2.length c0_2]) (t := 30) ?hr ?_; (case hd => rfl); (case hg => rfl); (case hr => first | (go_simp; done) | (go_simp; rfl)); intro gb231 hg w3 hbox hb; have n0_ := Aside0.mk (below_step zx15_2 hb); have n1_ := Aside0.mk (hbox); have n2_ := Aside0.mk ((by rw [hg]; exact (below_size zx15_2) : w.heap.size ≤ gb231)); have n3_ := Aside0.mk ((by rw [hg]; exact (below_size zx15_2) : w.heap.size ≤ gb231)); clear HB; have HB := n0_; have BK231 := n1_; have GW231 := n2_; have GE231 := n3_; clear n0_ n1_ n2_ n3_; clear hb hbox hg)))
 (try simp only [Act.put, List.setIfInBounds_toArray, List.set_cons_zero, List.set_cons_succ])
 go_cut [24] (fun v24 wc => ∃ (kq : Nat) (x24_1 : Bool), v24 = .bool x24_1 ∧ Aside0 (postroomref11_Right.j0 kq x24_1 a0_0 a0_1 l0_2 = some r) ∧ Aside0 (kq ≤ k) ∧ Aside0 (wc.heap[gb231]? = some (.cells #[.int .u64 a0_0, .int .u64 a0_1, (.slice A0_2 l0_2.length c0_2)] 30 (0, 0))) ∧ Aside0 (Below w.heap.size w wc))
 case first =>
  have H := HC2.out
  clear HC2
  refine (if c4 : a0_0 < 1 then ?pos_c4 else ?neg_c4)
  case' neg_c4 =>
   rw [if_neg c4] at H
   have c4b0 : decide (a0_0 < 1) = false := decide_eq_false c4
   clear c4
   (first | rw [c4b0] | (simp only [i64_w, i32_w]; rw [c4b0]) | skip)
   refine (if c6 : a0_1 < a0_0 then ?pos_c6 else ?neg_c6)
   case neg_c6 =>
    rw [if_neg c6] at H
    have c6b0 : decide (a0_1 < a0_0) = false := decide_eq_false c6
    clear c6
    have H' := Aside0.mk H
    clear H
    obtain ⟨hcz8_0, hcz8_1, hcz8_2, hfz8_0, hfz8_1, hfz8_2⟩ := cx15_bc3 BK231.out
    go_wp2
    repeat (go_quiet (fail); try go_wp2)
    go_meet
    case rel => exact ⟨_, (decide ((l0_2.length : Int) > 4)), zx15_4, H', ⟨by first | omega | exact Nat.le_refl _⟩, ⟨by (with_reducible repeat (first | refine blk_drewN ?_ _ | refine blk_drew ?_ | refine blk_alloc ?_ _)); exact BK231.out⟩, ⟨by repeat (first | (with_reducible first | exact HB.out | apply below_alloc | apply pw_below_drewN | apply below_drew1 | refine below_set ?_ GE231.out) | exact HB.out)⟩⟩
   case' pos_c6 =>
    rw [if_pos c6] at H
    have c6b0 : decide (a0_1 < a0_0) = true := decide_eq_true c6
    clear c6
    have H' := Aside0.mk H
    clear H
  case' pos_c4 =>
   rw [if_pos c4] at H
   have c4b0 : decide (a0_0 < 1) = true := decide_eq_true c4
   clear c4
   (first | rw [c4b0] | (simp only [i64_w, i32_w]; rw [c4b0]) | skip)
   have H' := Aside0.mk H
   clear H
  all_goals
   obtain ⟨hcz5_0, hcz5_1, hcz5_2, hfz5_0, hfz5_1, hfz5_2⟩ := cx15_bc3 BK231.out
   go_wp2
   repeat (go_quiet (fail); try go_wp2)
   go_meet
   case rel => exact ⟨_, (true), zx15_4, H', ⟨by first | omega | exact Nat.le_refl _⟩, ⟨by (with_reducible repeat (first | refine blk_drewN ?_ _ | refine blk_drew ?_ | refine blk_alloc ?_ _)); exact BK231.out⟩, ⟨by repeat (first | (with_reducible first | exact HB.out | apply below_alloc | apply pw_below_drewN | apply below_drew1 | refine below_set ?_ GE231.out) | exact HB.out)⟩⟩
 case rest =>
  clear HC2
  (try clear c1); (try clear p2); (try clear c4); (try clear c4b0); (try clear c6); (try clear c6b0); (try clear hcz5_0); (try clear hcz5_1); (try clear hcz5_2); (try clear hcz7_0); (try clear hcz7_1); (try clear hcz7_2); (try clear hcz8_0); (try clear hcz8_1); (try clear hcz8_2); (try clear hfz5_0); (try clear hfz5_1); (try clear hfz5_2); (try clear hfz7_0); (try clear hfz7_1); (try clear hfz7_2); (try clear hfz8_0); (try clear hfz8_1); (try clear hfz8_2)
  obtain ⟨kq, x24_1, rfl, HA, HJ1, BK231, HB⟩ := hcut
  cases kq with
  | zero => exact absurd HA.out (by simp [postroomref11_Right.j0])
  | succ kj1 =>
   have H := HA.out
   clear HA
   simp only [postroomref11_Right.j0] at H
   by_cases c9 : x24_1 = true
   ·subst c9
    have H1 : (some false) = some r := by rw [if_pos rfl] at H; exact H
    clear H
    have H := H1
    clear H1
    obtain rfl := Option.some.inj H
    go_wp2
    repeat (go_quiet (fail); try go_wp2)
    go_ret
    exact ⟨by first | rfl | (simp [errW_none, errW_some] <;> rfl) | (simp [*, errW_none, errW_some] <;> rfl), by repeat (first | (with_reducible first | exact HB.out | apply below_alloc | apply pw_below_drewN | apply below_drew1 | refine below_set ?_ GE231.out) | exact HB.out)⟩
   ·replace c9 := Bool.eq_false_iff.mpr c9
    subst c9
    have H1 : (postroomref11_Right.l0 kj1 0 a0_0 a0_1 l0_2) = some r := by rw [if_neg (show ¬ (false = true) by decide)] at H; exact H
    clear H
    have H := H1
    clear H1
    have H' := Aside0.mk H
    clear H
    go_wp2
    repeat (go_quiet (fail); try go_wp2)
    go_loopg [3] kj1 (fun kq v3 w' => ∃ (x3_2 : Int), v3 = .int .i64 x3_2 ∧ Aside0 (postroomref11_Right.l0 kq x3_2 a0_0 a0_1 l0_2 = some r) ∧ Aside0 (kq ≤ kj1) ∧ Aside0 (w'.heap[gb231]? = some (.cells #[.int .u64 a0_0, .int .u64 a0_1, (.slice A0_2 l0_2.length c0_2)] 30 (0, 0))) ∧ Aside0 (Below w.heap.size w w'))
    case atStart => exact ⟨(0), zx15_4, H', ⟨Nat.le_refl _⟩, ⟨by (with_reducible repeat (first | refine blk_drewN ?_ _ | refine blk_drew ?_ | refine blk_alloc ?_ _)); exact BK231.out⟩, ⟨by repeat (first | (with_reducible first | exact HB.out | apply below_alloc | apply pw_below_drewN | apply below_drew1 | refine below_set ?_ GE231.out) | exact HB.out)⟩⟩
    case round =>
     clear H'
     (try clear c1); (try clear p2); (try clear c4); (try clear c4b0); (try clear c6); (try clear c6b0); (try clear c9); (try clear hcz5_0); (try clear hcz5_1); (try clear hcz5_2); (try clear hcz7_0); (try clear hcz7_1); (try clear hcz7_2); (try clear hcz8_0); (try clear hcz8_1); (try clear hcz8_2); (try clear hfz5_0); (try clear hfz5_1); (try clear hfz5_2); (try clear hfz7_0); (try clear hfz7_1); (try clear hfz7_2); (try clear hfz8_0); (try clear hfz8_1); (try clear hfz8_2); (try clear p2)
     obtain ⟨x3_2, rfl, HA, HK2, BK231, HB⟩ := hrel
     cases gk with
     | zero => exact absurd HA.out (by simp [postroomref11_Right.l0])
     | succ k2 =>
      have H := HA.out
      clear HA
      simp only [postroomref11_Right.l0] at H
      by_cases c10 : x3_2 < (l0_2.length : Int)
      ·rw [if_pos c10] at H
       have c10b0 : decide (x3_2 < (l0_2.length : Int)) = true := decide_eq_true c10
       clear c10
       by_cases c11 : 0 ≤ x3_2
       ·rw [if_pos c11] at H
        have c11b0 : decide (0 ≤ x3_2) = true := decide_eq_true c11
        clear c11
        replace H := Option.bind_eq_some_iff.mp H
        obtain ⟨t234, A120, H⟩ := H
        replace H : (if t234 = true then (if ((rd_T57 l0_2 x3_2).f1) < 1 then (postroomref11_Right.j2 k2 x3_2 true a0_0 a0_1 l0_2 ((rd_T57 l0_2 x3_2).f0) ((rd_T57 l0_2 x3_2).f1) ((rd_T57 l0_2 x3_2).f2) ((rd_T57 l0_2 x3_2).f3) ((rd_T57 l0_2 x3_2).f4) ((rd_T57 l0_2 x3_2).f5) ((rd_T57 l0_2 x3_2).f6)) else (if ((rd_T57 l0_2 x3_2).f2) < ((rd_T57 l0_2 x3_2).f1) then (postroomref11_Right.j2 k2 x3_2 true a0_0 a0_1 l0_2 ((rd_T57 l0_2 x3_2).f0) ((rd_T57 l0_2 x3_2).f1) ((rd_T57 l0_2 x3_2).f2) ((rd_T57 l0_2 x3_2).f3) ((rd_T57 l0_2 x3_2).f4) ((rd_T57 l0_2 x3_2).f5) ((rd_T57 l0_2 x3_2).f6)) else (postroomref11_Right.j2 k2 x3_2 (decide (a0_1 < ((rd_T57 l0_2 x3_2).f2))) a0_0 a0_1 l0_2 ((rd_T57 l0_2 x3_2).f0) ((rd_T57 l0_2 x3_2).f1) ((rd_T57 l0_2 x3_2).f2) ((rd_T57 l0_2 x3_2).f3) ((rd_T57 l0_2 x3_2).f4) ((rd_T57 l0_2 x3_2).f5) ((rd_T57 l0_2 x3_2).f6)))) else (postroomref11_Right.j2 k2 x3_2 true a0_0 a0_1 l0_2 ((rd_T57 l0_2 x3_2).f0) ((rd_T57 l0_2 x3_2).f1) ((rd_T57 l0_2 x3_2).f2) ((rd_T57 l0_2 x3_2).f3) ((rd_T57 l0_2 x3_2).f4) ((rd_T57 l0_2 x3_2).f5) ((rd_T57 l0_2 x3_2).f6))) = some r := H
        have A12 := Aside0.mk A120
        clear A120
        have HC13 := Aside0.mk H
        clear H
        obtain ⟨hcz14_0, hcz14_1, hcz14_2, hfz14_0, hfz14_1, hfz14_2⟩ := cx15_bc3 BK231.out
        have p232 : 0 ≤ (x3_2 : Int) := of_decide_eq_true zx15_0
        have q232 : x3_2 < (l0_2.length : Int) := of_decide_eq_true zx15_0
        obtain ⟨ad232, A232_3, c232_3, e232, hx232_0, hx232_1, hx232_2, hx232_3, hx232_4, hx232_5, hx232_6, hl232_3, hi232_3⟩ := at_T57 HR0_2.out x3_2 p232 q232
        cases e232
        replace hx232_0 := (HB.out.cell (World.block_lt_of_cell? w _ hx232_0)).trans hx232_0
        replace hx232_1 := (HB.out.cell (World.block_lt_of_cell? w _ hx232_1)).trans hx232_1
        replace hx232_2 := (HB.out.cell (World.block_lt_of_cell? w _ hx232_2)).trans hx232_2
        replace hx232_3 := (HB.out.cell (World.block_lt_of_cell? w _ hx232_3)).trans hx232_3
        replace hx232_4 := (HB.out.cell (World.block_lt_of_cell? w _ hx232_4)).trans hx232_4
        replace hx232_5 := (HB.out.cell (World.block_lt_of_cell? w _ hx232_5)).trans hx232_5
        replace hx232_6 := (HB.out.cell (World.block_lt_of_cell? w _ hx232_6)).trans hx232_6
        have HR232_3 := Aside0.mk hi232_3
        have HC232_3 := Aside0.mk hl232_3
        clear hi232_3 hl232_3
        replace p232 := eq_true p232
        replace q232 := eq_true q232
        go_upto_region 8 with (first | ((with_reducible refine gate_dst (N := 4) rfl ?_); (try (refine gate_guard (by rfl) ?_; dsimp only)); refine box_event ?hg (N := 4) ?hd (cs := #[.string (⟨#[]⟩ : ByteArray), .int .u64 0, .int .u64 0, .slice none 0 0, .int .u64 0, .int .u64 0, .int .u64 0]) (t := 57) ?hr ?_; (case hd => rfl); (case hg => rfl); (case hr => first | (go_simp; done) | (go_simp; rfl)); intro gb233 hg w15 hbox hb; have n0_ := Aside0.mk (blk_below (g := gb231) (o := .cells #[.int .u64 a0_0, .int .u64 a0_1, .slice (some ad232) l0_2.length c0_2] 30 (0, 0)) zx15_3 hb); have n1_ := Aside0.mk (below_step zx15_1 hb); have n2_ := Aside0.mk (hbox); have n3_ := Aside0.mk ((by rw [hg]; exact (below_size zx15_1) : w.heap.size ≤ gb233)); have n4_ := Aside0.mk ((by rw [hg]; exact (below_size zx15_1) : w.heap.size ≤ gb233)); have n5_ := Aside0.mk ((by rw [hg]; exact Nat.ne_of_lt (blk_lt (g := gb231) (o := .cells #[.int .u64 a0_0, .int .u64 a0_1, .slice (some ad232) l0_2.length c0_2] 30 (0, 0)) zx15_3) : gb231 ≠ gb233)); have n6_ := Aside0.mk ((by rw [hg]; exact Nat.ne_of_gt (blk_lt (g := gb231) (o := .cells #[.int .u64 a0_0, .int .u64 a0_1, .slice (some ad232) l0_2.length c0_2] 30 (0, 0)) zx15_3) : gb233 ≠ gb231)); clear BK231; clear HB; have BK231 := n0_; have HB := n1_; have BK233 := n2_; have GW233 := n3_; have GE233 := n4_; have NB231_233 := n5_; have NB233_231 := n6_; clear n0_ n1_ n2_ n3_ n4_ n5_ n6_; clear hb hbox hg; have hnb16 := NB233_231.out; have hnc16 := NB231_233.out; have hcz17_0 : w15.cell? ⟨gb233, 0, none⟩ = some (.string (⟨#[]⟩ : ByteArray)) := (blk_cell BK233.out 0).trans rfl; have hcz17_1 : w15.cell? ⟨gb233, 1, none⟩ = some (.int .u64 0) := (blk_cell BK233.out 1).trans rfl; have hcz17_2 : w15.cell? ⟨gb233, 2, none⟩ = some (.int .u64 0) := (blk_cell BK233.out 2).trans rfl; have hcz17_3 : w15.cell? ⟨gb233, 3, none⟩ = some (.slice none 0 0) := (blk_cell BK233.out 3).trans rfl; have hcz17_4 : w15.cell? ⟨gb233, 4, none⟩ = some (.int .u64 0) := (blk_cell BK233.out 4).trans rfl; have hcz17_5 : w15.cell? ⟨gb233, 5, none⟩ = some (.int .u64 0) := (blk_cell BK233.out 5).trans rfl; have hcz17_6 : w15.cell? ⟨gb233, 6, none⟩ = some (.int .u64 0) := (blk_cell BK233.out 6).trans rfl; have hfz17_0 := blk_frozen BK233.out 0; have hfz17_1 := blk_frozen BK233.out 1; have hfz17_2 := blk_frozen BK233.out 2; have hfz17_3 := blk_frozen BK233.out 3; have hfz17_4 := blk_frozen BK233.out 4; have hfz17_5 := blk_frozen BK233.out 5; have hfz17_6 := blk_frozen BK233.out 6) | (go_at_call 33; (with_reducible refine (postroomref3_Name.calls k2 ((rd_T57 l0_2 x3_2).f0) t234 _ A12.out).mono ?_); rintro e w' ⟨rfl, ⟨nd, rfl⟩⟩; (try first | exact ⟨rfl, _, World.drewN_drewN _ _ _⟩ | exact ⟨rfl, _, Eq.trans (World.drewN_drewN _ _ _) (congrArg (World.drewN _) (Nat.add_assoc _ _ _))⟩)))
        repeat (go_quiet (first | ((with_reducible refine gate_dst (N := 4) rfl ?_); (try (refine gate_guard (by rfl) ?_; dsimp only)); refine box_event ?hg (N := 4) ?hd (cs := #[.string (⟨#[]⟩ : ByteArray), .int .u64 0, .int .u64 0, .slice none 0 0, .int .u64 0, .int .u64 0, .int .u64 0]) (t := 57) ?hr ?_; (case hd => rfl); (case hg => rfl); (case hr => first | (go_simp; done) | (go_simp; rfl)); intro gb233 hg w15 hbox hb; have n0_ := Aside0.mk (blk_below (g := gb231) (o := .cells #[.int .u64 a0_0, .int .u64 a0_1, .slice (some ad232) l0_2.length c0_2] 30 (0, 0)) zx15_3 hb); have n1_ := Aside0.mk (below_step zx15_1 hb); have n2_ := Aside0.mk (hbox); have n3_ := Aside0.mk ((by rw [hg]; exact (below_size zx15_1) : w.heap.size ≤ gb233)); have n4_ := Aside0.mk ((by rw [hg]; exact (below_size zx15_1) : w.heap.size ≤ gb233)); have n5_ := Aside0.mk ((by rw [hg]; exact Nat.ne_of_lt (blk_lt (g := gb231) (o := .cells #[.int .u64 a0_0, .int .u64 a0_1, .slice (some ad232) l0_2.length c0_2] 30 (0, 0)) zx15_3) : gb231 ≠ gb233)); have n6_ := Aside0.mk ((by rw [hg]; exact Nat.ne_of_gt (blk_lt (g := gb231) (o := .cells #[.int .u64 a0_0, .int .u64 a0_1, .slice (some ad232) l0_2.length c0_2] 30 (0, 0)) zx15_3) : gb233 ≠ gb231)); clear BK231; clear HB; have BK231 := n0_; have HB := n1_; have BK233 := n2_; have GW233 := n3_; have GE233 := n4_; have NB231_233 := n5_; have NB233_231 := n6_; clear n0_ n1_ n2_ n3_ n4_ n5_ n6_; clear hb hbox hg; have hnb16 := NB233_231.out; have hnc16 := NB231_233.out; have hcz17_0 : w15.cell? ⟨gb233, 0, none⟩ = some (.string (⟨#[]⟩ : ByteArray)) := (blk_cell BK233.out 0).trans rfl; have hcz17_1 : w15.cell? ⟨gb233, 1, none⟩ = some (.int .u64 0) := (blk_cell BK233.out 1).trans rfl; have hcz17_2 : w15.cell? ⟨gb233, 2, none⟩ = some (.int .u64 0) := (blk_cell BK233.out 2).trans rfl; have hcz17_3 : w15.cell? ⟨gb233, 3, none⟩ = some (.slice none 0 0) := (blk_cell BK233.out 3).trans rfl; have hcz17_4 : w15.cell? ⟨gb233, 4, none⟩ = some (.int .u64 0) := (blk_cell BK233.out 4).trans rfl; have hcz17_5 : w15.cell? ⟨gb233, 5, none⟩ = some (.int .u64 0) := (blk_cell BK233.out 5).trans rfl; have hcz17_6 : w15.cell? ⟨gb233, 6, none⟩ = some (.int .u64 0) := (blk_cell BK233.out 6).trans rfl; have hfz17_0 := blk_frozen BK233.out 0; have hfz17_1 := blk_frozen BK233.out 1; have hfz17_2 := blk_frozen BK233.out 2; have hfz17_3 := blk_frozen BK233.out 3; have hfz17_4 := blk_frozen BK233.out 4; have hfz17_5 := blk_frozen BK233.out 5; have hfz17_6 := blk_frozen BK233.out 6) | (go_at_call 33; (with_reducible refine (postroomref3_Name.calls k2 ((rd_T57 l0_2 x3_2).f0) t234 _ A12.out).mono ?_); rintro e w' ⟨rfl, ⟨nd, rfl⟩⟩; (try first | exact ⟨rfl, _, World.drewN_drewN _ _ _⟩ | exact ⟨rfl, _, Eq.trans (World.drewN_drewN _ _ _) (congrArg (World.drewN _) (Nat.add_assoc _ _ _))⟩))); go_upto_region 8 with (first | ((with_reducible refine gate_dst (N := 4) rfl ?_); (try (refine gate_guard (by rfl) ?_; dsimp only)); refine box_event ?hg (N := 4) ?hd (cs := #[.string (⟨#[]⟩ : ByteArray), .int .u64 0, .int .u64 0, .slice none 0 0, .int .u64 0, .int .u64 0, .int .u64 0]) (t := 57) ?hr ?_; (case hd => rfl); (case hg => rfl); (case hr => first | (go_simp; done) | (go_simp; rfl)); intro gb233 hg w15 hbox hb; have n0_ := Aside0.mk (blk_below (g := gb231) (o := .cells #[.int .u64 a0_0, .int .u64 a0_1, .slice (some ad232) l0_2.length c0_2] 30 (0, 0)) zx15_3 hb); have n1_ := Aside0.mk (below_step zx15_1 hb); have n2_ := Aside0.mk (hbox); have n3_ := Aside0.mk ((by rw [hg]; exact (below_size zx15_1) : w.heap.size ≤ gb233)); have n4_ := Aside0.mk ((by rw [hg]; exact (below_size zx15_1) : w.heap.size ≤ gb233)); have n5_ := Aside0.mk ((by rw [hg]; exact Nat.ne_of_lt (blk_lt (g := gb231) (o := .cells #[.int .u64 a0_0, .int .u64 a0_1, .slice (some ad232) l0_2.length c0_2] 30 (0, 0)) zx15_3) : gb231 ≠ gb233)); have n6_ := Aside0.mk ((by rw [hg]; exact Nat.ne_of_gt (blk_lt (g := gb231) (o := .cells #[.int .u64 a0_0, .int .u64 a0_1, .slice (some ad232) l0_2.length c0_2] 30 (0, 0)) zx15_3) : gb233 ≠ gb231)); clear BK231; clear HB; have BK231 := n0_; have HB := n1_; have BK233 := n2_; have GW233 := n3_; have GE233 := n4_; have NB231_233 := n5_; have NB233_231 := n6_; clear n0_ n1_ n2_ n3_ n4_ n5_ n6_; clear hb hbox hg; have hnb16 := NB233_231.out; have hnc16 := NB231_233.out; have hcz17_0 : w15.cell? ⟨gb233, 0, none⟩ = some (.string (⟨#[]⟩ : ByteArray)) := (blk_cell BK233.out 0).trans rfl; have hcz17_1 : w15.cell? ⟨gb233, 1, none⟩ = some (.int .u64 0) := (blk_cell BK233.out 1).trans rfl; have hcz17_2 : w15.cell? ⟨gb233, 2, none⟩ = some (.int .u64 0) := (blk_cell BK233.out 2).trans rfl; have hcz17_3 : w15.cell? ⟨gb233, 3, none⟩ = some (.slice none 0 0) := (blk_cell BK233.out 3).trans rfl; have hcz17_4 : w15.cell? ⟨gb233, 4, none⟩ = some (.int .u64 0) := (blk_cell BK233.out 4).trans rfl; have hcz17_5 : w15.cell? ⟨gb233, 5, none⟩ = some (.int .u64 0) := (blk_cell BK233.out 5).trans rfl; have hcz17_6 : w15.cell? ⟨gb233, 6, none⟩ = some (.int .u64 0) := (blk_cell BK233.out 6).trans rfl; have hfz17_0 := blk_frozen BK233.out 0; have hfz17_1 := blk_frozen BK233.out 1; have hfz17_2 := blk_frozen BK233.out 2; have hfz17_3 := blk_frozen BK233.out 3; have hfz17_4 := blk_frozen BK233.out 4; have hfz17_5 := blk_frozen BK233.out 5; have hfz17_6 := blk_frozen BK233.out 6) | (go_at_call 33; (with_reducible refine (postroomref3_Name.calls k2 ((rd_T57 l0_2 x3_2).f0) t234 _ A12.out).mono ?_); rintro e w' ⟨rfl, ⟨nd, rfl⟩⟩; (try first | exact ⟨rfl, _, World.drewN_drewN _ _ _⟩ | exact ⟨rfl, _, Eq.trans (World.drewN_drewN _ _ _) (congrArg (World.drewN _) (Nat.add_assoc _ _ _))⟩))))
        (try simp only [Act.put, List.setIfInBounds_toArray, List.set_cons_zero, List.set_cons_succ])
        go_cut [60] (fun v60 wc => ∃ (kq : Nat) (x60_12 : Bool), v60 = .bool x60_12 ∧ Aside0 (postroomref11_Right.j2 kq x3_2 x60_12 a0_0 a0_1 l0_2 ((rd_T57 l0_2 x3_2).f0) ((rd_T57 l0_2 x3_2).f1) ((rd_T57 l0_2 x3_2).f2) ((rd_T57 l0_2 x3_2).f3) ((rd_T57 l0_2 x3_2).f4) ((rd_T57 l0_2 x3_2).f5) ((rd_T57 l0_2 x3_2).f6) = some r) ∧ Aside0 (kq ≤ k2) ∧ Aside0 (wc.heap[gb231]? = some (.cells #[.int .u64 a0_0, .int .u64 a0_1, (.slice (some ad232) l0_2.length c0_2)] 30 (0, 0))) ∧ Aside0 (wc.heap[gb233]? = some (.cells #[.string ((rd_T57 l0_2 x3_2).f0), .int .u64 ((rd_T57 l0_2 x3_2).f1), .int .u64 ((rd_T57 l0_2 x3_2).f2), (.slice A232_3 ((rd_T57 l0_2 x3_2).f3).length c232_3), .int .u64 ((rd_T57 l0_2 x3_2).f4), .int .u64 ((rd_T57 l0_2 x3_2).f5), .int .u64 ((rd_T57 l0_2 x3_2).f6)] 57 (0, 0))) ∧ Aside0 (Below w.heap.size w wc))
        case first =>
         have H := HC13.out
         clear HC13
         by_cases c18 : t234 = true
         ·subst c18
          have H1 : (if ((rd_T57 l0_2 x3_2).f1) < 1 then (postroomref11_Right.j2 k2 x3_2 true a0_0 a0_1 l0_2 ((rd_T57 l0_2 x3_2).f0) ((rd_T57 l0_2 x3_2).f1) ((rd_T57 l0_2 x3_2).f2) ((rd_T57 l0_2 x3_2).f3) ((rd_T57 l0_2 x3_2).f4) ((rd_T57 l0_2 x3_2).f5) ((rd_T57 l0_2 x3_2).f6)) else (if ((rd_T57 l0_2 x3_2).f2) < ((rd_T57 l0_2 x3_2).f1) then (postroomref11_Right.j2 k2 x3_2 true a0_0 a0_1 l0_2 ((rd_T57 l0_2 x3_2).f0) ((rd_T57 l0_2 x3_2).f1) ((rd_T57 l0_2 x3_2).f2) ((rd_T57 l0_2 x3_2).f3) ((rd_T57 l0_2 x3_2).f4) ((rd_T57 l0_2 x3_2).f5) ((rd_T57 l0_2 x3_2).f6)) else (postroomref11_Right.j2 k2 x3_2 (decide (a0_1 < ((rd_T57 l0_2 x3_2).f2))) a0_0 a0_1 l0_2 ((rd_T57 l0_2 x3_2).f0) ((rd_T57 l0_2 x3_2).f1) ((rd_T57 l0_2 x3_2).f2) ((rd_T57 l0_2 x3_2).f3) ((rd_T57 l0_2 x3_2).f4) ((rd_T57 l0_2 x3_2).f5) ((rd_T57 l0_2 x3_2).f6)))) = some r := by rw [if_pos rfl] at H; exact H
          clear H
          have H := H1
          clear H1
          refine (if c19 : ((rd_T57 l0_2 x3_2).f1) < 1 then ?pos_c19 else ?neg_c19)
          case' neg_c19 =>
           rw [if_neg c19] at H
           have c19b0 : decide (((rd_T57 l0_2 x3_2).f1) < 1) = false := decide_eq_false c19
           clear c19
           (first | rw [c19b0] | (simp only [i64_w, i32_w]; rw [c19b0]) | skip)
           refine (if c22 : ((rd_T57 l0_2 x3_2).f2) < ((rd_T57 l0_2 x3_2).f1) then ?pos_c22 else ?neg_c22)
           case neg_c22 =>
            rw [if_neg c22] at H
            have c22b0 : decide (((rd_T57 l0_2 x3_2).f2) < ((rd_T57 l0_2 x3_2).f1)) = false := decide_eq_false c22
            clear c22
            have H' := Aside0.mk H
            clear H
            have hnb25 := NB233_231.out
            have hnc25 := NB231_233.out
            obtain ⟨hcz26_0, hcz26_1, hcz26_2, hcz26_3, hcz26_4, hcz26_5, hcz26_6, hfz26_0, hfz26_1, hfz26_2, hfz26_3, hfz26_4, hfz26_5, hfz26_6⟩ := cx15_bc7 BK233.out
            obtain ⟨hcz27_0, hcz27_1, hcz27_2, hfz27_0, hfz27_1, hfz27_2⟩ := cx15_bc3 BK231.out
            go_wp2
            repeat (go_quiet (fail); try go_wp2)
            go_meet
            case rel => exact ⟨_, (decide (a0_1 < ((rd_T57 l0_2 x3_2).f2))), zx15_4, H', ⟨by have := HJ1.out; have := HK2.out; first | omega | exact Nat.le_refl _⟩, ⟨by (with_reducible repeat (first | refine blk_drewN ?_ _ | refine blk_drew ?_ | refine blk_alloc ?_ _)); refine blk_far ?_ NB231_233.out _; (with_reducible repeat (first | refine blk_drewN ?_ _ | refine blk_drew ?_ | refine blk_alloc ?_ _)); refine blk_far ?_ NB231_233.out _; (with_reducible repeat (first | refine blk_drewN ?_ _ | refine blk_drew ?_ | refine blk_alloc ?_ _)); refine blk_far ?_ NB231_233.out _; (with_reducible repeat (first | refine blk_drewN ?_ _ | refine blk_drew ?_ | refine blk_alloc ?_ _)); refine blk_far ?_ NB231_233.out _; (with_reducible repeat (first | refine blk_drewN ?_ _ | refine blk_drew ?_ | refine blk_alloc ?_ _)); refine blk_far ?_ NB231_233.out _; (with_reducible repeat (first | refine blk_drewN ?_ _ | refine blk_drew ?_ | refine blk_alloc ?_ _)); refine blk_far ?_ NB231_233.out _; (with_reducible repeat (first | refine blk_drewN ?_ _ | refine blk_drew ?_ | refine blk_alloc ?_ _)); refine blk_far ?_ NB231_233.out _; (with_reducible repeat (first | refine blk_drewN ?_ _ | refine blk_drew ?_ | refine blk_alloc ?_ _)); exact BK231.out⟩, ⟨by (with_reducible repeat (first | refine blk_drewN ?_ _ | refine blk_drew ?_ | refine blk_alloc ?_ _)); refine blk_put (cs := #[.string ((rd_T57 l0_2 x3_2).f0), .int .u64 ((rd_T57 l0_2 x3_2).f1), .int .u64 ((rd_T57 l0_2 x3_2).f2), .slice A232_3 ((rd_T57 l0_2 x3_2).f3).length c232_3, .int .u64 ((rd_T57 l0_2 x3_2).f4), .int .u64 ((rd_T57 l0_2 x3_2).f5), .int .u64 0]) ?_ 6 _ rfl; (with_reducible repeat (first | refine blk_drewN ?_ _ | refine blk_drew ?_ | refine blk_alloc ?_ _)); refine blk_put (cs := #[.string ((rd_T57 l0_2 x3_2).f0), .int .u64 ((rd_T57 l0_2 x3_2).f1), .int .u64 ((rd_T57 l0_2 x3_2).f2), .slice A232_3 ((rd_T57 l0_2 x3_2).f3).length c232_3, .int .u64 ((rd_T57 l0_2 x3_2).f4), .int .u64 0, .int .u64 0]) ?_ 5 _ rfl; (with_reducible repeat (first | refine blk_drewN ?_ _ | refine blk_drew ?_ | refine blk_alloc ?_ _)); refine blk_put (cs := #[.string ((rd_T57 l0_2 x3_2).f0), .int .u64 ((rd_T57 l0_2 x3_2).f1), .int .u64 ((rd_T57 l0_2 x3_2).f2), .slice A232_3 ((rd_T57 l0_2 x3_2).f3).length c232_3, .int .u64 0, .int .u64 0, .int .u64 0]) ?_ 4 _ rfl; (with_reducible repeat (first | refine blk_drewN ?_ _ | refine blk_drew ?_ | refine blk_alloc ?_ _)); refine blk_put (cs := #[.string ((rd_T57 l0_2 x3_2).f0), .int .u64 ((rd_T57 l0_2 x3_2).f1), .int .u64 ((rd_T57 l0_2 x3_2).f2), .slice none 0 0, .int .u64 0, .int .u64 0, .int .u64 0]) ?_ 3 _ rfl; (with_reducible repeat (first | refine blk_drewN ?_ _ | refine blk_drew ?_ | refine blk_alloc ?_ _)); refine blk_put (cs := #[.string ((rd_T57 l0_2 x3_2).f0), .int .u64 ((rd_T57 l0_2 x3_2).f1), .int .u64 0, .slice none 0 0, .int .u64 0, .int .u64 0, .int .u64 0]) ?_ 2 _ rfl; (with_reducible repeat (first | refine blk_drewN ?_ _ | refine blk_drew ?_ | refine blk_alloc ?_ _)); refine blk_put (cs := #[.string ((rd_T57 l0_2 x3_2).f0), .int .u64 0, .int .u64 0, .slice none 0 0, .int .u64 0, .int .u64 0, .int .u64 0]) ?_ 1 _ rfl; (with_reducible repeat (first | refine blk_drewN ?_ _ | refine blk_drew ?_ | refine blk_alloc ?_ _)); refine blk_put (cs := #[.string (⟨#[]⟩ : ByteArray), .int .u64 0, .int .u64 0, .slice none 0 0, .int .u64 0, .int .u64 0, .int .u64 0]) ?_ 0 _ rfl; (with_reducible repeat (first | refine blk_drewN ?_ _ | refine blk_drew ?_ | refine blk_alloc ?_ _)); exact BK233.out⟩, ⟨by repeat (first | (with_reducible first | exact HB.out | apply below_alloc | apply pw_below_drewN | apply below_drew1 | refine below_set ?_ GE231.out | refine below_set ?_ GE233.out) | exact HB.out)⟩⟩
           case' pos_c22 =>
            rw [if_pos c22] at H
            have c22b0 : decide (((rd_T57 l0_2 x3_2).f2) < ((rd_T57 l0_2 x3_2).f1)) = true := decide_eq_true c22
            clear c22
            have H' := Aside0.mk H
            clear H
            have hnb23 := NB233_231.out
            have hnc23 := NB231_233.out
          case' pos_c19 =>
           rw [if_pos c19] at H
           have c19b0 : decide (((rd_T57 l0_2 x3_2).f1) < 1) = true := decide_eq_true c19
           clear c19
           (first | rw [c19b0] | (simp only [i64_w, i32_w]; rw [c19b0]) | skip)
           have H' := Aside0.mk H
           clear H
           have hnb20 := NB233_231.out
           have hnc20 := NB231_233.out
          all_goals
           obtain ⟨hcz21_0, hcz21_1, hcz21_2, hcz21_3, hcz21_4, hcz21_5, hcz21_6, hfz21_0, hfz21_1, hfz21_2, hfz21_3, hfz21_4, hfz21_5, hfz21_6⟩ := cx15_bc7 BK233.out
           go_wp2
           repeat (go_quiet (fail); try go_wp2)
           go_meet
           case rel => exact ⟨_, (true), zx15_4, H', ⟨by have := HJ1.out; have := HK2.out; first | omega | exact Nat.le_refl _⟩, ⟨by (with_reducible repeat (first | refine blk_drewN ?_ _ | refine blk_drew ?_ | refine blk_alloc ?_ _)); refine blk_far ?_ NB231_233.out _; (with_reducible repeat (first | refine blk_drewN ?_ _ | refine blk_drew ?_ | refine blk_alloc ?_ _)); refine blk_far ?_ NB231_233.out _; (with_reducible repeat (first | refine blk_drewN ?_ _ | refine blk_drew ?_ | refine blk_alloc ?_ _)); refine blk_far ?_ NB231_233.out _; (with_reducible repeat (first | refine blk_drewN ?_ _ | refine blk_drew ?_ | refine blk_alloc ?_ _)); refine blk_far ?_ NB231_233.out _; (with_reducible repeat (first | refine blk_drewN ?_ _ | refine blk_drew ?_ | refine blk_alloc ?_ _)); refine blk_far ?_ NB231_233.out _; (with_reducible repeat (first | refine blk_drewN ?_ _ | refine blk_drew ?_ | refine blk_alloc ?_ _)); refine blk_far ?_ NB231_233.out _; (with_reducible repeat (first | refine blk_drewN ?_ _ | refine blk_drew ?_ | refine blk_alloc ?_ _)); refine blk_far ?_ NB231_233.out _; (with_reducible repeat (first | refine blk_drewN ?_ _ | refine blk_drew ?_ | refine blk_alloc ?_ _)); exact BK231.out⟩, ⟨by (with_reducible repeat (first | refine blk_drewN ?_ _ | refine blk_drew ?_ | refine blk_alloc ?_ _)); refine blk_put (cs := #[.string ((rd_T57 l0_2 x3_2).f0), .int .u64 ((rd_T57 l0_2 x3_2).f1), .int .u64 ((rd_T57 l0_2 x3_2).f2), .slice A232_3 ((rd_T57 l0_2 x3_2).f3).length c232_3, .int .u64 ((rd_T57 l0_2 x3_2).f4), .int .u64 ((rd_T57 l0_2 x3_2).f5), .int .u64 0]) ?_ 6 _ rfl; (with_reducible repeat (first | refine blk_drewN ?_ _ | refine blk_drew ?_ | refine blk_alloc ?_ _)); refine blk_put (cs := #[.string ((rd_T57 l0_2 x3_2).f0), .int .u64 ((rd_T57 l0_2 x3_2).f1), .int .u64 ((rd_T57 l0_2 x3_2).f2), .slice A232_3 ((rd_T57 l0_2 x3_2).f3).length c232_3, .int .u64 ((rd_T57 l0_2 x3_2).f4), .int .u64 0, .int .u64 0]) ?_ 5 _ rfl; (with_reducible repeat (first | refine blk_drewN ?_ _ | refine blk_drew ?_ | refine blk_alloc ?_ _)); refine blk_put (cs := #[.string ((rd_T57 l0_2 x3_2).f0), .int .u64 ((rd_T57 l0_2 x3_2).f1), .int .u64 ((rd_T57 l0_2 x3_2).f2), .slice A232_3 ((rd_T57 l0_2 x3_2).f3).length c232_3, .int .u64 0, .int .u64 0, .int .u64 0]) ?_ 4 _ rfl; (with_reducible repeat (first | refine blk_drewN ?_ _ | refine blk_drew ?_ | refine blk_alloc ?_ _)); refine blk_put (cs := #[.string ((rd_T57 l0_2 x3_2).f0), .int .u64 ((rd_T57 l0_2 x3_2).f1), .int .u64 ((rd_T57 l0_2 x3_2).f2), .slice none 0 0, .int .u64 0, .int .u64 0, .int .u64 0]) ?_ 3 _ rfl; (with_reducible repeat (first | refine blk_drewN ?_ _ | refine blk_drew ?_ | refine blk_alloc ?_ _)); refine blk_put (cs := #[.string ((rd_T57 l0_2 x3_2).f0), .int .u64 ((rd_T57 l0_2 x3_2).f1), .int .u64 0, .slice none 0 0, .int .u64 0, .int .u64 0, .int .u64 0]) ?_ 2 _ rfl; (with_reducible repeat (first | refine blk_drewN ?_ _ | refine blk_drew ?_ | refine blk_alloc ?_ _)); refine blk_put (cs := #[.string ((rd_T57 l0_2 x3_2).f0), .int .u64 0, .int .u64 0, .slice none 0 0, .int .u64 0, .int .u64 0, .int .u64 0]) ?_ 1 _ rfl; (with_reducible repeat (first | refine blk_drewN ?_ _ | refine blk_drew ?_ | refine blk_alloc ?_ _)); refine blk_put (cs := #[.string (⟨#[]⟩ : ByteArray), .int .u64 0, .int .u64 0, .slice none 0 0, .int .u64 0, .int .u64 0, .int .u64 0]) ?_ 0 _ rfl; (with_reducible repeat (first | refine blk_drewN ?_ _ | refine blk_drew ?_ | refine blk_alloc ?_ _)); exact BK233.out⟩, ⟨by repeat (first | (with_reducible first | exact HB.out | apply below_alloc | apply pw_below_drewN | apply below_drew1 | refine below_set ?_ GE231.out | refine below_set ?_ GE233.out) | exact HB.out)⟩⟩
         ·replace c18 := Bool.eq_false_iff.mpr c18
          subst c18
          have H1 : (postroomref11_Right.j2 k2 x3_2 true a0_0 a0_1 l0_2 ((rd_T57 l0_2 x3_2).f0) ((rd_T57 l0_2 x3_2).f1) ((rd_T57 l0_2 x3_2).f2) ((rd_T57 l0_2 x3_2).f3) ((rd_T57 l0_2 x3_2).f4) ((rd_T57 l0_2 x3_2).f5) ((rd_T57 l0_2 x3_2).f6)) = some r := by rw [if_neg (show ¬ (false = true) by decide)] at H; exact H
          clear H
          have H := H1
          clear H1
          have H' := Aside0.mk H
          clear H
          go_wp2
          repeat (go_quiet (fail); try go_wp2)
          go_meet
          case rel => exact ⟨_, (true), zx15_4, H', ⟨by have := HJ1.out; have := HK2.out; first | omega | exact Nat.le_refl _⟩, ⟨by (with_reducible repeat (first | refine blk_drewN ?_ _ | refine blk_drew ?_ | refine blk_alloc ?_ _)); refine blk_far ?_ NB231_233.out _; (with_reducible repeat (first | refine blk_drewN ?_ _ | refine blk_drew ?_ | refine blk_alloc ?_ _)); refine blk_far ?_ NB231_233.out _; (with_reducible repeat (first | refine blk_drewN ?_ _ | refine blk_drew ?_ | refine blk_alloc ?_ _)); refine blk_far ?_ NB231_233.out _; (with_reducible repeat (first | refine blk_drewN ?_ _ | refine blk_drew ?_ | refine blk_alloc ?_ _)); refine blk_far ?_ NB231_233.out _; (with_reducible repeat (first | refine blk_drewN ?_ _ | refine blk_drew ?_ | refine blk_alloc ?_ _)); refine blk_far ?_ NB231_233.out _; (with_reducible repeat (first | refine blk_drewN ?_ _ | refine blk_drew ?_ | refine blk_alloc ?_ _)); refine blk_far ?_ NB231_233.out _; (with_reducible repeat (first | refine blk_drewN ?_ _ | refine blk_drew ?_ | refine blk_alloc ?_ _)); refine blk_far ?_ NB231_233.out _; (with_reducible repeat (first | refine blk_drewN ?_ _ | refine blk_drew ?_ | refine blk_alloc ?_ _)); exact BK231.out⟩, ⟨by (with_reducible repeat (first | refine blk_drewN ?_ _ | refine blk_drew ?_ | refine blk_alloc ?_ _)); refine blk_put (cs := #[.string ((rd_T57 l0_2 x3_2).f0), .int .u64 ((rd_T57 l0_2 x3_2).f1), .int .u64 ((rd_T57 l0_2 x3_2).f2), .slice A232_3 ((rd_T57 l0_2 x3_2).f3).length c232_3, .int .u64 ((rd_T57 l0_2 x3_2).f4), .int .u64 ((rd_T57 l0_2 x3_2).f5), .int .u64 0]) ?_ 6 _ rfl; (with_reducible repeat (first | refine blk_drewN ?_ _ | refine blk_drew ?_ | refine blk_alloc ?_ _)); refine blk_put (cs := #[.string ((rd_T57 l0_2 x3_2).f0), .int .u64 ((rd_T57 l0_2 x3_2).f1), .int .u64 ((rd_T57 l0_2 x3_2).f2), .slice A232_3 ((rd_T57 l0_2 x3_2).f3).length c232_3, .int .u64 ((rd_T57 l0_2 x3_2).f4), .int .u64 0, .int .u64 0]) ?_ 5 _ rfl; (with_reducible repeat (first | refine blk_drewN ?_ _ | refine blk_drew ?_ | refine blk_alloc ?_ _)); refine blk_put (cs := #[.string ((rd_T57 l0_2 x3_2).f0), .int .u64 ((rd_T57 l0_2 x3_2).f1), .int .u64 ((rd_T57 l0_2 x3_2).f2), .slice A232_3 ((rd_T57 l0_2 x3_2).f3).length c232_3, .int .u64 0, .int .u64 0, .int .u64 0]) ?_ 4 _ rfl; (with_reducible repeat (first | refine blk_drewN ?_ _ | refine blk_drew ?_ | refine blk_alloc ?_ _)); refine blk_put (cs := #[.string ((rd_T57 l0_2 x3_2).f0), .int .u64 ((rd_T57 l0_2 x3_2).f1), .int .u64 ((rd_T57 l0_2 x3_2).f2), .slice none 0 0, .int .u64 0, .int .u64 0, .int .u64 0]) ?_ 3 _ rfl; (with_reducible repeat (first | refine blk_drewN ?_ _ | refine blk_drew ?_ | refine blk_alloc ?_ _)); refine blk_put (cs := #[.string ((rd_T57 l0_2 x3_2).f0), .int .u64 ((rd_T57 l0_2 x3_2).f1), .int .u64 0, .slice none 0 0, .int .u64 0, .int .u64 0, .int .u64 0]) ?_ 2 _ rfl; (with_reducible repeat (first | refine blk_drewN ?_ _ | refine blk_drew ?_ | refine blk_alloc ?_ _)); refine blk_put (cs := #[.string ((rd_T57 l0_2 x3_2).f0), .int .u64 0, .int .u64 0, .slice none 0 0, .int .u64 0, .int .u64 0, .int .u64 0]) ?_ 1 _ rfl; (with_reducible repeat (first | refine blk_drewN ?_ _ | refine blk_drew ?_ | refine blk_alloc ?_ _)); refine blk_put (cs := #[.string (⟨#[]⟩ : ByteArray), .int .u64 0, .int .u64 0, .slice none 0 0, .int .u64 0, .int .u64 0, .int .u64 0]) ?_ 0 _ rfl; (with_reducible repeat (first | refine blk_drewN ?_ _ | refine blk_drew ?_ | refine blk_alloc ?_ _)); exact BK233.out⟩, ⟨by repeat (first | (with_reducible first | exact HB.out | apply below_alloc | apply pw_below_drewN | apply below_drew1 | refine below_set ?_ GE231.out | refine below_set ?_ GE233.out) | exact HB.out)⟩⟩
        case rest =>
         clear HC13
         (try clear c1); (try clear c2); (try clear p2); (try clear q2); (try clear hx2); (try clear c4); (try clear c4b0); (try clear c6); (try clear c6b0); (try clear c9); (try clear c10); (try clear c10b0); (try clear c11); (try clear c11b0); (try clear c16); (try clear c18); (try clear c19); (try clear c19b0); (try clear c20); (try clear c22); (try clear c22b0); (try clear c23); (try clear p23); (try clear q23); (try clear hx23); (try clear c25); (try clear hcz14_0); (try clear hcz14_1); (try clear hcz14_2); (try clear hcz17_0); (try clear hcz17_1); (try clear hcz17_2); (try clear hcz17_3); (try clear hcz17_4); (try clear hcz17_5); (try clear hcz17_6); (try clear hcz21_0); (try clear hcz21_1); (try clear hcz21_2); (try clear hcz21_3); (try clear hcz21_4); (try clear hcz21_5); (try clear hcz21_6); (try clear hcz24_0); (try clear hcz24_1); (try clear hcz24_2); (try clear hcz24_3); (try clear hcz24_4); (try clear hcz24_5); (try clear hcz24_6); (try clear hcz26_0); (try clear hcz26_1); (try clear hcz26_2); (try clear hcz26_3); (try clear hcz26_4); (try clear hcz26_5); (try clear hcz26_6); (try clear hcz27_0); (try clear hcz27_1); (try clear hcz27_2); (try clear hcz5_0); (try clear hcz5_1); (try clear hcz5_2); (try clear hcz7_0); (try clear hcz7_1); (try clear hcz7_2); (try clear hcz8_0); (try clear hcz8_1); (try clear hcz8_2); (try clear hfz14_0); (try clear hfz14_1); (try clear hfz14_2); (try clear hfz17_0); (try clear hfz17_1); (try clear hfz17_2); (try clear hfz17_3); (try clear hfz17_4); (try clear hfz17_5); (try clear hfz17_6); (try clear hfz21_0); (try clear hfz21_1); (try clear hfz21_2); (try clear hfz21_3); (try clear hfz21_4); (try clear hfz21_5); (try clear hfz21_6); (try clear hfz24_0); (try clear hfz24_1); (try clear hfz24_2); (try clear hfz24_3); (try clear hfz24_4); (try clear hfz24_5); (try clear hfz24_6); (try clear hfz26_0); (try clear hfz26_1); (try clear hfz26_2); (try clear hfz26_3); (try clear hfz26_4); (try clear hfz26_5); (try clear hfz26_6); (try clear hfz27_0); (try clear hfz27_1); (try clear hfz27_2); (try clear hfz5_0); (try clear hfz5_1); (try clear hfz5_2); (try clear hfz7_0); (try clear hfz7_1); (try clear hfz7_2); (try clear hfz8_0); (try clear hfz8_1); (try clear hfz8_2); (try clear hx232_0); (try clear hx232_1); (try clear hx232_2); (try clear hx232_3); (try clear hx232_4); (try clear hx232_5); (try clear hx232_6); (try clear p2); (try clear p232); (try clear q232)
         obtain ⟨kq, x60_12, rfl, HA, HJ12, BK231, BK233, HB⟩ := hcut
         cases kq with
         | zero => exact absurd HA.out (by simp [postroomref11_Right.j2])
         | succ kj12 =>
          have H := HA.out
          clear HA
          simp only [postroomref11_Right.j2] at H
          by_cases c28 : x60_12 = true
          ·subst c28
           have H1 : (some false) = some r := by rw [if_pos rfl] at H; exact H
           clear H
           have H := H1
           clear H1
           obtain rfl := Option.some.inj H
           go_wp2
           repeat (go_quiet (fail); try go_wp2)
           go_ret
           exact ⟨by first | rfl | (simp [errW_none, errW_some] <;> rfl) | (simp [*, errW_none, errW_some] <;> rfl), by repeat (first | (with_reducible first | exact HB.out | apply below_alloc | apply pw_below_drewN | apply below_drew1 | refine below_set ?_ GE231.out | refine below_set ?_ GE233.out) | exact HB.out)⟩
          ·replace c28 := Bool.eq_false_iff.mpr c28
           subst c28
           have H1 : (postroomref11_Right.l1 kj12 x3_2 0 a0_0 a0_1 l0_2 ((rd_T57 l0_2 x3_2).f0) ((rd_T57 l0_2 x3_2).f1) ((rd_T57 l0_2 x3_2).f2) ((rd_T57 l0_2 x3_2).f3) ((rd_T57 l0_2 x3_2).f4) ((rd_T57 l0_2 x3_2).f5) ((rd_T57 l0_2 x3_2).f6)) = some r := by rw [if_neg (show ¬ (false = true) by decide)] at H; exact H
           clear H
           have H := H1
           clear H1
           have H' := Aside0.mk H
           clear H
           go_wp2
           repeat (go_quiet (fail); try go_wp2)
           go_loopg [6] kj12 (fun kq v6 w' => ∃ (x6_4 : Int), v6 = .int .i64 x6_4 ∧ Aside0 (postroomref11_Right.l1 kq x3_2 x6_4 a0_0 a0_1 l0_2 ((rd_T57 l0_2 x3_2).f0) ((rd_T57 l0_2 x3_2).f1) ((rd_T57 l0_2 x3_2).f2) ((rd_T57 l0_2 x3_2).f3) ((rd_T57 l0_2 x3_2).f4) ((rd_T57 l0_2 x3_2).f5) ((rd_T57 l0_2 x3_2).f6) = some r) ∧ Aside0 (kq ≤ kj12) ∧ Aside0 (w'.heap[gb231]? = some (.cells #[.int .u64 a0_0, .int .u64 a0_1, (.slice (some ad232) l0_2.length c0_2)] 30 (0, 0))) ∧ Aside0 (w'.heap[gb233]? = some (.cells #[.string ((rd_T57 l0_2 x3_2).f0), .int .u64 ((rd_T57 l0_2 x3_2).f1), .int .u64 ((rd_T57 l0_2 x3_2).f2), (.slice A232_3 ((rd_T57 l0_2 x3_2).f3).length c232_3), .int .u64 ((rd_T57 l0_2 x3_2).f4), .int .u64 ((rd_T57 l0_2 x3_2).f5), .int .u64 ((rd_T57 l0_2 x3_2).f6)] 57 (0, 0))) ∧ Aside0 (Below w.heap.size w w'))
           case atStart => exact ⟨(0), zx15_4, H', ⟨Nat.le_refl _⟩, ⟨by (with_reducible repeat (first | refine blk_drewN ?_ _ | refine blk_drew ?_ | refine blk_alloc ?_ _)); exact BK231.out⟩, ⟨by (with_reducible repeat (first | refine blk_drewN ?_ _ | refine blk_drew ?_ | refine blk_alloc ?_ _)); exact BK233.out⟩, ⟨by repeat (first | (with_reducible first | exact HB.out | apply below_alloc | apply pw_below_drewN | apply below_drew1 | refine below_set ?_ GE231.out | refine below_set ?_ GE233.out) | exact HB.out)⟩⟩
           case round =>
            clear H'
            (try clear c1); (try clear c2); (try clear p2); (try clear q2); (try clear hx2); (try clear c4); (try clear c4b0); (try clear c6); (try clear c6b0); (try clear c9); (try clear c10); (try clear c10b0); (try clear c11); (try clear c11b0); (try clear c16); (try clear c18); (try clear c19); (try clear c19b0); (try clear c20); (try clear c22); (try clear c22b0); (try clear c23); (try clear p23); (try clear q23); (try clear hx23); (try clear c25); (try clear c28); (try clear hcz14_0); (try clear hcz14_1); (try clear hcz14_2); (try clear hcz17_0); (try clear hcz17_1); (try clear hcz17_2); (try clear hcz17_3); (try clear hcz17_4); (try clear hcz17_5); (try clear hcz17_6); (try clear hcz21_0); (try clear hcz21_1); (try clear hcz21_2); (try clear hcz21_3); (try clear hcz21_4); (try clear hcz21_5); (try clear hcz21_6); (try clear hcz24_0); (try clear hcz24_1); (try clear hcz24_2); (try clear hcz24_3); (try clear hcz24_4); (try clear hcz24_5); (try clear hcz24_6); (try clear hcz26_0); (try clear hcz26_1); (try clear hcz26_2); (try clear hcz26_3); (try clear hcz26_4); (try clear hcz26_5); (try clear hcz26_6); (try clear hcz27_0); (try clear hcz27_1); (try clear hcz27_2); (try clear hcz5_0); (try clear hcz5_1); (try clear hcz5_2); (try clear hcz7_0); (try clear hcz7_1); (try clear hcz7_2); (try clear hcz8_0); (try clear hcz8_1); (try clear hcz8_2); (try clear hfz14_0); (try clear hfz14_1); (try clear hfz14_2); (try clear hfz17_0); (try clear hfz17_1); (try clear hfz17_2); (try clear hfz17_3); (try clear hfz17_4); (try clear hfz17_5); (try clear hfz17_6); (try clear hfz21_0); (try clear hfz21_1); (try clear hfz21_2); (try clear hfz21_3); (try clear hfz21_4); (try clear hfz21_5); (try clear hfz21_6); (try clear hfz24_0); (try clear hfz24_1); (try clear hfz24_2); (try clear hfz24_3); (try clear hfz24_4); (try clear hfz24_5); (try clear hfz24_6); (try clear hfz26_0); (try clear hfz26_1); (try clear hfz26_2); (try clear hfz26_3); (try clear hfz26_4); (try clear hfz26_5); (try clear hfz26_6); (try clear hfz27_0); (try clear hfz27_1); (try clear hfz27_2); (try clear hfz5_0); (try clear hfz5_1); (try clear hfz5_2); (try clear hfz7_0); (try clear hfz7_1); (try clear hfz7_2); (try clear hfz8_0); (try clear hfz8_1); (try clear hfz8_2); (try clear hx232_0); (try clear hx232_1); (try clear hx232_2); (try clear hx232_3); (try clear hx232_4); (try clear hx232_5); (try clear hx232_6); (try clear p2); (try clear p23); (try clear p232); (try clear q2); (try clear q23); (try clear q232)
            obtain ⟨x6_4, rfl, HA, HK4, BK231, BK233, HB⟩ := hrel
            cases gk with
            | zero => exact absurd HA.out (by simp [postroomref11_Right.l1])
            | succ k4 =>
             have H := HA.out
             clear HA
             simp only [postroomref11_Right.l1] at H
             by_cases c29 : x6_4 < x3_2
             ·rw [if_pos c29] at H
              have c29b0 : decide (x6_4 < x3_2) = true := decide_eq_true c29
              clear c29
              by_cases c30 : 0 ≤ x6_4
              ·rw [if_pos c30] at H
               have c30b0 : decide (0 ≤ x6_4) = true := decide_eq_true c30
               clear c30
               by_cases c31 : x6_4 < (l0_2.length : Int)
               ·rw [if_pos c31] at H
                have c31b0 : decide (x6_4 < (l0_2.length : Int)) = true := decide_eq_true c31
                clear c31
                by_cases c32 : ((rd_T57 l0_2 x6_4).f0).toList = ((rd_T57 l0_2 x3_2).f0).toList
                ·rw [if_pos c32] at H
                 have c32b0 : (((rd_T57 l0_2 x6_4).f0).toList == ((rd_T57 l0_2 x3_2).f0).toList) = true := beq_iff_eq.mpr c32
                 have c32b1 : (((rd_T57 l0_2 x6_4).f0).toList != ((rd_T57 l0_2 x3_2).f0).toList) = false := bne_eq_false_iff_eq.mpr c32
                 clear c32
                 obtain rfl := Option.some.inj H
                 have hnb33 := NB231_233.out
                 have hnc33 := NB233_231.out
                 obtain ⟨hcz34_0, hcz34_1, hcz34_2, hfz34_0, hfz34_1, hfz34_2⟩ := cx15_bc3 BK231.out
                 have p235 : 0 ≤ (x6_4 : Int) := of_decide_eq_true zx15_0
                 have q235 : x6_4 < (l0_2.length : Int) := of_decide_eq_true zx15_0
                 obtain ⟨ad235, A235_3, c235_3, e235, hx235_0, hx235_1, hx235_2, hx235_3, hx235_4, hx235_5, hx235_6, hl235_3, hi235_3⟩ := at_T57 HR0_2.out x6_4 p235 q235
                 obtain rfl : ad232 = ad235 := (by injection e235)
                 replace hx235_0 := (HB.out.cell (World.block_lt_of_cell? w _ hx235_0)).trans hx235_0
                 replace hx235_1 := (HB.out.cell (World.block_lt_of_cell? w _ hx235_1)).trans hx235_1
                 replace hx235_2 := (HB.out.cell (World.block_lt_of_cell? w _ hx235_2)).trans hx235_2
                 replace hx235_3 := (HB.out.cell (World.block_lt_of_cell? w _ hx235_3)).trans hx235_3
                 replace hx235_4 := (HB.out.cell (World.block_lt_of_cell? w _ hx235_4)).trans hx235_4
                 replace hx235_5 := (HB.out.cell (World.block_lt_of_cell? w _ hx235_5)).trans hx235_5
                 replace hx235_6 := (HB.out.cell (World.block_lt_of_cell? w _ hx235_6)).trans hx235_6
                 have HR235_3 := Aside0.mk hi235_3
                 have HC235_3 := Aside0.mk hl235_3
                 clear hi235_3 hl235_3
                 replace p235 := eq_true p235
                 replace q235 := eq_true q235
                 obtain ⟨hcz35_0, hcz35_1, hcz35_2, hcz35_3, hcz35_4, hcz35_5, hcz35_6, hfz35_0, hfz35_1, hfz35_2, hfz35_3, hfz35_4, hfz35_5, hfz35_6⟩ := cx15_bc7 BK233.out
                 go_wp2
                 repeat (go_quiet (fail); try go_wp2)
                 go_ret
                 exact ⟨by first | rfl | (simp [errW_none, errW_some] <;> rfl) | (simp [*, errW_none, errW_some] <;> rfl), by repeat (first | (with_reducible first | exact HB.out | apply below_alloc | apply pw_below_drewN | apply below_drew1 | refine below_set ?_ GE231.out | refine below_set ?_ GE233.out) | exact HB.out)⟩
                ·rw [if_neg c32] at H
                 have c32b0 : (((rd_T57 l0_2 x6_4).f0).toList == ((rd_T57 l0_2 x3_2).f0).toList) = false := beq_eq_false_iff_ne.mpr c32
                 have c32b1 : (((rd_T57 l0_2 x6_4).f0).toList != ((rd_T57 l0_2 x3_2).f0).toList) = true := bne_iff_ne.mpr c32
                 have H' := Aside0.mk H
                 clear H
                 have hnb36 := NB231_233.out
                 have hnc36 := NB233_231.out
                 obtain ⟨hcz37_0, hcz37_1, hcz37_2, hfz37_0, hfz37_1, hfz37_2⟩ := cx15_bc3 BK231.out
                 have p235 : 0 ≤ (x6_4 : Int) := of_decide_eq_true zx15_0
                 have q235 : x6_4 < (l0_2.length : Int) := of_decide_eq_true zx15_0
                 obtain ⟨ad235, A235_3, c235_3, e235, hx235_0, hx235_1, hx235_2, hx235_3, hx235_4, hx235_5, hx235_6, hl235_3, hi235_3⟩ := at_T57 HR0_2.out x6_4 p235 q235
                 obtain rfl : ad232 = ad235 := (by injection e235)
                 replace hx235_0 := (HB.out.cell (World.block_lt_of_cell? w _ hx235_0)).trans hx235_0
                 replace hx235_1 := (HB.out.cell (World.block_lt_of_cell? w _ hx235_1)).trans hx235_1
                 replace hx235_2 := (HB.out.cell (World.block_lt_of_cell? w _ hx235_2)).trans hx235_2
                 replace hx235_3 := (HB.out.cell (World.block_lt_of_cell? w _ hx235_3)).trans hx235_3
                 replace hx235_4 := (HB.out.cell (World.block_lt_of_cell? w _ hx235_4)).trans hx235_4
                 replace hx235_5 := (HB.out.cell (World.block_lt_of_cell? w _ hx235_5)).trans hx235_5
                 replace hx235_6 := (HB.out.cell (World.block_lt_of_cell? w _ hx235_6)).trans hx235_6
                 have HR235_3 := Aside0.mk hi235_3
                 have HC235_3 := Aside0.mk hl235_3
                 clear hi235_3 hl235_3
                 replace p235 := eq_true p235
                 replace q235 := eq_true q235
                 obtain ⟨hcz38_0, hcz38_1, hcz38_2, hcz38_3, hcz38_4, hcz38_5, hcz38_6, hfz38_0, hfz38_1, hfz38_2, hfz38_3, hfz38_4, hfz38_5, hfz38_6⟩ := cx15_bc7 BK233.out
                 go_wp2
                 repeat (go_quiet (fail); try go_wp2)
                 go_roundg k4
                 case measure => have := HJ1.out; have := HK2.out; have := HJ12.out; have := HK4.out; omega
                 case rel => exact ⟨(wrap64 (x6_4 + 1)), zx15_4, H', ⟨by have := HJ1.out; have := HK2.out; have := HJ12.out; have := HK4.out; omega⟩, ⟨by (with_reducible repeat (first | refine blk_drewN ?_ _ | refine blk_drew ?_ | refine blk_alloc ?_ _)); exact BK231.out⟩, ⟨by (with_reducible repeat (first | refine blk_drewN ?_ _ | refine blk_drew ?_ | refine blk_alloc ?_ _)); exact BK233.out⟩, ⟨by repeat (first | (with_reducible first | exact HB.out | apply below_alloc | apply pw_below_drewN | apply below_drew1 | refine below_set ?_ GE231.out | refine below_set ?_ GE233.out) | exact HB.out)⟩⟩
               ·rw [if_neg c31] at H
                exact absurd H (by simp)
              ·rw [if_neg c30] at H
               exact absurd H (by simp)
             ·rw [if_neg c29] at H
              have c29b0 : decide (x6_4 < x3_2) = false := decide_eq_false c29
              clear c29
              have H' := Aside0.mk H
              clear H
              go_wp2
              repeat (go_quiet (fail); try go_wp2)
              go_loopg [7] k4 (fun kq v7 w' => ∃ (x7_5 : Int), v7 = .int .i64 x7_5 ∧ Aside0 (postroomref11_Right.l2 kq x3_2 x7_5 a0_0 a0_1 l0_2 ((rd_T57 l0_2 x3_2).f0) ((rd_T57 l0_2 x3_2).f1) ((rd_T57 l0_2 x3_2).f2) ((rd_T57 l0_2 x3_2).f3) ((rd_T57 l0_2 x3_2).f4) ((rd_T57 l0_2 x3_2).f5) ((rd_T57 l0_2 x3_2).f6) = some r) ∧ Aside0 (kq ≤ k4) ∧ Aside0 (w'.heap[gb231]? = some (.cells #[.int .u64 a0_0, .int .u64 a0_1, (.slice (some ad232) l0_2.length c0_2)] 30 (0, 0))) ∧ Aside0 (w'.heap[gb233]? = some (.cells #[.string ((rd_T57 l0_2 x3_2).f0), .int .u64 ((rd_T57 l0_2 x3_2).f1), .int .u64 ((rd_T57 l0_2 x3_2).f2), (.slice A232_3 ((rd_T57 l0_2 x3_2).f3).length c232_3), .int .u64 ((rd_T57 l0_2 x3_2).f4), .int .u64 ((rd_T57 l0_2 x3_2).f5), .int .u64 ((rd_T57 l0_2 x3_2).f6)] 57 (0, 0))) ∧ Aside0 (Below w.heap.size w w'))
              case atStart => exact ⟨(0), zx15_4, H', ⟨Nat.le_refl _⟩, ⟨by (with_reducible repeat (first | refine blk_drewN ?_ _ | refine blk_drew ?_ | refine blk_alloc ?_ _)); exact BK231.out⟩, ⟨by (with_reducible repeat (first | refine blk_drewN ?_ _ | refine blk_drew ?_ | refine blk_alloc ?_ _)); exact BK233.out⟩, ⟨by repeat (first | (with_reducible first | exact HB.out | apply below_alloc | apply pw_below_drewN | apply below_drew1 | refine below_set ?_ GE231.out | refine below_set ?_ GE233.out) | exact HB.out)⟩⟩
              case round =>
               clear H'
               (try clear c1); (try clear c2); (try clear p2); (try clear q2); (try clear hx2); (try clear c3); (try clear c4); (try clear c4b0); (try clear c6); (try clear c6b0); (try clear p6); (try clear c9); (try clear c10); (try clear c10b0); (try clear c11); (try clear c11b0); (try clear c16); (try clear c18); (try clear c19); (try clear c19b0); (try clear c20); (try clear c22); (try clear c22b0); (try clear c23); (try clear p23); (try clear q23); (try clear hx23); (try clear c25); (try clear c28); (try clear c29); (try clear c29b0); (try clear c30); (try clear c30b0); (try clear c31); (try clear c31b0); (try clear c32); (try clear c32b0); (try clear c32b1); (try clear c33); (try clear c36); (try clear hcz14_0); (try clear hcz14_1); (try clear hcz14_2); (try clear hcz17_0); (try clear hcz17_1); (try clear hcz17_2); (try clear hcz17_3); (try clear hcz17_4); (try clear hcz17_5); (try clear hcz17_6); (try clear hcz21_0); (try clear hcz21_1); (try clear hcz21_2); (try clear hcz21_3); (try clear hcz21_4); (try clear hcz21_5); (try clear hcz21_6); (try clear hcz24_0); (try clear hcz24_1); (try clear hcz24_2); (try clear hcz24_3); (try clear hcz24_4); (try clear hcz24_5); (try clear hcz24_6); (try clear hcz26_0); (try clear hcz26_1); (try clear hcz26_2); (try clear hcz26_3); (try clear hcz26_4); (try clear hcz26_5); (try clear hcz26_6); (try clear hcz27_0); (try clear hcz27_1); (try clear hcz27_2); (try clear hcz34_0); (try clear hcz34_1); (try clear hcz34_2); (try clear hcz35_0); (try clear hcz35_1); (try clear hcz35_2); (try clear hcz35_3); (try clear hcz35_4); (try clear hcz35_5); (try clear hcz35_6); (try clear hcz37_0); (try clear hcz37_1); (try clear hcz37_2); (try clear hcz38_0); (try clear hcz38_1); (try clear hcz38_2); (try clear hcz38_3); (try clear hcz38_4); (try clear hcz38_5); (try clear hcz38_6); (try clear hcz5_0); (try clear hcz5_1); (try clear hcz5_2); (try clear hcz7_0); (try clear hcz7_1); (try clear hcz7_2); (try clear hcz8_0); (try clear hcz8_1); (try clear hcz8_2); (try clear hfz14_0); (try clear hfz14_1); (try clear hfz14_2); (try clear hfz17_0); (try clear hfz17_1); (try clear hfz17_2); (try clear hfz17_3); (try clear hfz17_4); (try clear hfz17_5); (try clear hfz17_6); (try clear hfz21_0); (try clear hfz21_1); (try clear hfz21_2); (try clear hfz21_3); (try clear hfz21_4); (try clear hfz21_5); (try clear hfz21_6); (try clear hfz24_0); (try clear hfz24_1); (try clear hfz24_2); (try clear hfz24_3); (try clear hfz24_4); (try clear hfz24_5); (try clear hfz24_6); (try clear hfz26_0); (try clear hfz26_1); (try clear hfz26_2); (try clear hfz26_3); (try clear hfz26_4); (try clear hfz26_5); (try clear hfz26_6); (try clear hfz27_0); (try clear hfz27_1); (try clear hfz27_2); (try clear hfz34_0); (try clear hfz34_1); (try clear hfz34_2); (try clear hfz35_0); (try clear hfz35_1); (try clear hfz35_2); (try clear hfz35_3); (try clear hfz35_4); (try clear hfz35_5); (try clear hfz35_6); (try clear hfz37_0); (try clear hfz37_1); (try clear hfz37_2); (try clear hfz38_0); (try clear hfz38_1); (try clear hfz38_2); (try clear hfz38_3); (try clear hfz38_4); (try clear hfz38_5); (try clear hfz38_6); (try clear hfz5_0); (try clear hfz5_1); (try clear hfz5_2); (try clear hfz7_0); (try clear hfz7_1); (try clear hfz7_2); (try clear hfz8_0); (try clear hfz8_1); (try clear hfz8_2); (try clear hx232_0); (try clear hx232_1); (try clear hx232_2); (try clear hx232_3); (try clear hx232_4); (try clear hx232_5); (try clear hx232_6); (try clear hx235_0); (try clear hx235_1); (try clear hx235_2); (try clear hx235_3); (try clear hx235_4); (try clear hx235_5); (try clear hx235_6); (try clear p2); (try clear p23); (try clear p232); (try clear p235); (try clear q2); (try clear q23); (try clear q232); (try clear q235)
               obtain ⟨x7_5, rfl, HA, HK5, BK231, BK233, HB⟩ := hrel
               cases gk with
               | zero => exact absurd HA.out (by simp [postroomref11_Right.l2])
               | succ k5 =>
                have H := HA.out
                clear HA
                simp only [postroomref11_Right.l2] at H
                by_cases c39 : x7_5 < (((rd_T57 l0_2 x3_2).f3).length : Int)
                ·rw [if_pos c39] at H
                 have c39b0 : decide (x7_5 < (((rd_T57 l0_2 x3_2).f3).length : Int)) = true := decide_eq_true c39
                 clear c39
                 by_cases c40 : 0 ≤ x7_5
                 ·rw [if_pos c40] at H
                  have c40b0 : decide (0 ≤ x7_5) = true := decide_eq_true c40
                  clear c40
                  by_cases c41 : (rd ((rd_T57 l0_2 x3_2).f3) x7_5) ≤ ((rd_T57 l0_2 x3_2).f2)
                  ·rw [if_pos c41] at H
                   have c41b0 : decide ((rd ((rd_T57 l0_2 x3_2).f3) x7_5) ≤ ((rd_T57 l0_2 x3_2).f2)) = true := decide_eq_true c41
                   clear c41
                   obtain rfl := Option.some.inj H
                   have hnb42 := NB233_231.out
                   have hnc42 := NB231_233.out
                   obtain ⟨hcz43_0, hcz43_1, hcz43_2, hcz43_3, hcz43_4, hcz43_5, hcz43_6, hfz43_0, hfz43_1, hfz43_2, hfz43_3, hfz43_4, hfz43_5, hfz43_6⟩ := cx15_bc7 BK233.out
                   have p236 : 0 ≤ (x7_5 : Int) := of_decide_eq_true zx15_0
                   have q236 : x7_5 < (((rd_T57 l0_2 x3_2).f3).length : Int) := of_decide_eq_true zx15_0
                   obtain ⟨ad236, e236, hx236_0⟩ := Kd.at_int HR232_3.out x7_5 p236 q236
                   cases e236
                   replace hx236_0 := (HB.out.cell (World.block_lt_of_cell? w _ hx236_0)).trans hx236_0
                   replace p236 := eq_true p236
                   replace q236 := eq_true q236
                   go_wp2
                   repeat (go_quiet (fail); try go_wp2)
                   go_ret
                   exact ⟨by first | rfl | (simp [errW_none, errW_some] <;> rfl) | (simp [*, errW_none, errW_some] <;> rfl), by repeat (first | (with_reducible first | exact HB.out | apply below_alloc | apply pw_below_drewN | apply below_drew1 | refine below_set ?_ GE231.out | refine below_set ?_ GE233.out) | exact HB.out)⟩
                  ·rw [if_neg c41] at H
                   have c41b0 : decide ((rd ((rd_T57 l0_2 x3_2).f3) x7_5) ≤ ((rd_T57 l0_2 x3_2).f2)) = false := decide_eq_false c41
                   clear c41
                   by_cases c44 : (rd ((rd_T57 l0_2 x3_2).f3) x7_5) ≥ a0_1
                   ·rw [if_pos c44] at H
                    have c44b0 : decide (a0_1 ≤ (rd ((rd_T57 l0_2 x3_2).f3) x7_5)) = true := decide_eq_true c44
                    clear c44
                    obtain rfl := Option.some.inj H
                    have hnb45 := NB233_231.out
                    have hnc45 := NB231_233.out
                    obtain ⟨hcz46_0, hcz46_1, hcz46_2, hcz46_3, hcz46_4, hcz46_5, hcz46_6, hfz46_0, hfz46_1, hfz46_2, hfz46_3, hfz46_4, hfz46_5, hfz46_6⟩ := cx15_bc7 BK233.out
                    have p236 : 0 ≤ (x7_5 : Int) := of_decide_eq_true zx15_0
                    have q236 : x7_5 < (((rd_T57 l0_2 x3_2).f3).length : Int) := of_decide_eq_true zx15_0
                    obtain ⟨ad236, e236, hx236_0⟩ := Kd.at_int HR232_3.out x7_5 p236 q236
                    cases e236
                    replace hx236_0 := (HB.out.cell (World.block_lt_of_cell? w _ hx236_0)).trans hx236_0
                    replace p236 := eq_true p236
                    replace q236 := eq_true q236
                    have p237 : 0 ≤ (x7_5 : Int) := of_decide_eq_true zx15_0
                    have q237 : x7_5 < (((rd_T57 l0_2 x3_2).f3).length : Int) := of_decide_eq_true zx15_0
                    obtain ⟨ad237, e237, hx237_0⟩ := Kd.at_int HR232_3.out x7_5 p237 q237
                    obtain rfl : ad236 = ad237 := (by injection e237)
                    replace hx237_0 := (HB.out.cell (World.block_lt_of_cell? w _ hx237_0)).trans hx237_0
                    replace p237 := eq_true p237
                    replace q237 := eq_true q237
                    obtain ⟨hcz47_0, hcz47_1, hcz47_2, hfz47_0, hfz47_1, hfz47_2⟩ := cx15_bc3 BK231.out
                    go_wp2
                    repeat (go_quiet (fail); try go_wp2)
                    go_ret
                    exact ⟨by first | rfl | (simp [errW_none, errW_some] <;> rfl) | (simp [*, errW_none, errW_some] <;> rfl), by repeat (first | (with_reducible first | exact HB.out | apply below_alloc | apply pw_below_drewN | apply below_drew1 | refine below_set ?_ GE231.out | refine below_set ?_ GE233.out) | exact HB.out)⟩
                   ·rw [if_neg c44] at H
                    have c44b0 : decide (a0_1 ≤ (rd ((rd_T57 l0_2 x3_2).f3) x7_5)) = false := decide_eq_false c44
                    clear c44
                    by_cases c48 : x7_5 > 0
                    ·rw [if_pos c48] at H
                     have c48b0 : decide (0 < x7_5) = true := decide_eq_true c48
                     clear c48
                     obtain ⟨ji49, hji49⟩ : ∃ j_ : Int, (wrap64 (x7_5 - 1)) = j_ := ⟨_, rfl⟩
                     replace H : (if 0 ≤ (ji49) then (if (ji49) < (((rd_T57 l0_2 x3_2).f3).length : Int) then (if (rd ((rd_T57 l0_2 x3_2).f3) x7_5) ≤ (rd ((rd_T57 l0_2 x3_2).f3) (ji49)) then (some false) else (postroomref11_Right.l2 k5 x3_2 (wrap64 (x7_5 + 1)) a0_0 a0_1 l0_2 ((rd_T57 l0_2 x3_2).f0) ((rd_T57 l0_2 x3_2).f1) ((rd_T57 l0_2 x3_2).f2) ((rd_T57 l0_2 x3_2).f3) ((rd_T57 l0_2 x3_2).f4) ((rd_T57 l0_2 x3_2).f5) ((rd_T57 l0_2 x3_2).f6))) else (none)) else (none)) = some r := by first | (rw [hji49] at H; exact H) | (simp only [hji49] at H ⊢; exact H)
                     have hji49w : (IntKind.i64.wrap (x7_5 - 1)) = ji49 := (i64_w _).trans hji49
                     by_cases c50 : 0 ≤ (ji49)
                     ·rw [if_pos c50] at H
                      have c50b0 : decide (0 ≤ (ji49)) = true := decide_eq_true c50
                      clear c50
                      by_cases c51 : (ji49) < (((rd_T57 l0_2 x3_2).f3).length : Int)
                      ·rw [if_pos c51] at H
                       have c51b0 : decide ((ji49) < (((rd_T57 l0_2 x3_2).f3).length : Int)) = true := decide_eq_true c51
                       clear c51
                       by_cases c52 : (rd ((rd_T57 l0_2 x3_2).f3) x7_5) ≤ (rd ((rd_T57 l0_2 x3_2).f3) (ji49))
                       ·rw [if_pos c52] at H
                        have c52b0 : decide ((rd ((rd_T57 l0_2 x3_2).f3) x7_5) ≤ (rd ((rd_T57 l0_2 x3_2).f3) (ji49))) = true := decide_eq_true c52
                        clear c52
                        obtain rfl := Option.some.inj H
                        have hnb53 := NB233_231.out
                        have hnc53 := NB231_233.out
                        obtain ⟨hcz54_0, hcz54_1, hcz54_2, hcz54_3, hcz54_4, hcz54_5, hcz54_6, hfz54_0, hfz54_1, hfz54_2, hfz54_3, hfz54_4, hfz54_5, hfz54_6⟩ := cx15_bc7 BK233.out
                        have p236 : 0 ≤ (x7_5 : Int) := of_decide_eq_true zx15_0
                        have q236 : x7_5 < (((rd_T57 l0_2 x3_2).f3).length : Int) := of_decide_eq_true zx15_0
                        obtain ⟨ad236, e236, hx236_0⟩ := Kd.at_int HR232_3.out x7_5 p236 q236
                        cases e236
                        replace hx236_0 := (HB.out.cell (World.block_lt_of_cell? w _ hx236_0)).trans hx236_0
                        replace p236 := eq_true p236
                        replace q236 := eq_true q236
                        have p237 : 0 ≤ (x7_5 : Int) := of_decide_eq_true zx15_0
                        have q237 : x7_5 < (((rd_T57 l0_2 x3_2).f3).length : Int) := of_decide_eq_true zx15_0
                        obtain ⟨ad237, e237, hx237_0⟩ := Kd.at_int HR232_3.out x7_5 p237 q237
                        obtain rfl : ad236 = ad237 := (by injection e237)
                        replace hx237_0 := (HB.out.cell (World.block_lt_of_cell? w _ hx237_0)).trans hx237_0
                        replace p237 := eq_true p237
                        replace q237 := eq_true q237
                        obtain ⟨hcz55_0, hcz55_1, hcz55_2, hfz55_0, hfz55_1, hfz55_2⟩ := cx15_bc3 BK231.out
                        have p238 : 0 ≤ (x7_5 : Int) := of_decide_eq_true zx15_0
                        have q238 : x7_5 < (((rd_T57 l0_2 x3_2).f3).length : Int) := of_decide_eq_true zx15_0
                        obtain ⟨ad238, e238, hx238_0⟩ := Kd.at_int HR232_3.out x7_5 p238 q238
                        obtain rfl : ad236 = ad238 := (by injection e238)
                        replace hx238_0 := (HB.out.cell (World.block_lt_of_cell? w _ hx238_0)).trans hx238_0
                        replace p238 := eq_true p238
                        replace q238 := eq_true q238
                        have p239 : 0 ≤ ((ji49) : Int) := of_decide_eq_true zx15_0
                        have q239 : (ji49) < (((rd_T57 l0_2 x3_2).f3).length : Int) := of_decide_eq_true zx15_0
                        obtain ⟨ad239, e239, hx239_0⟩ := Kd.at_int HR232_3.out (ji49) p239 q239
                        obtain rfl : ad236 = ad239 := (by injection e239)
                        replace hx239_0 := (HB.out.cell (World.block_lt_of_cell? w _ hx239_0)).trans hx239_0
                        replace p239 := eq_true p239
                        replace q239 := eq_true q239
                        go_wp2
                        repeat (go_quiet (fail); try go_wp2)
                        go_ret
                        exact ⟨by first | rfl | (simp [errW_none, errW_some] <;> rfl) | (simp only [← hji49]; first | rfl | (simp [errW_none, errW_some] <;> rfl)) | (simp [*, errW_none, errW_some] <;> rfl), by repeat (first | (with_reducible first | exact HB.out | apply below_alloc | apply pw_below_drewN | apply below_drew1 | refine below_set ?_ GE231.out | refine below_set ?_ GE233.out) | exact HB.out)⟩
                       ·rw [if_neg c52] at H
                        have c52b0 : decide ((rd ((rd_T57 l0_2 x3_2).f3) x7_5) ≤ (rd ((rd_T57 l0_2 x3_2).f3) (ji49))) = false := decide_eq_false c52
                        clear c52
                        have H' := Aside0.mk H
                        clear H
                        have hnb56 := NB233_231.out
                        have hnc56 := NB231_233.out
                        obtain ⟨hcz57_0, hcz57_1, hcz57_2, hcz57_3, hcz57_4, hcz57_5, hcz57_6, hfz57_0, hfz57_1, hfz57_2, hfz57_3, hfz57_4, hfz57_5, hfz57_6⟩ := cx15_bc7 BK233.out
                        have p236 : 0 ≤ (x7_5 : Int) := of_decide_eq_true zx15_0
                        have q236 : x7_5 < (((rd_T57 l0_2 x3_2).f3).length : Int) := of_decide_eq_true zx15_0
                        obtain ⟨ad236, e236, hx236_0⟩ := Kd.at_int HR232_3.out x7_5 p236 q236
                        cases e236
                        replace hx236_0 := (HB.out.cell (World.block_lt_of_cell? w _ hx236_0)).trans hx236_0
                        replace p236 := eq_true p236
                        replace q236 := eq_true q236
                        have p237 : 0 ≤ (x7_5 : Int) := of_decide_eq_true zx15_0
                        have q237 : x7_5 < (((rd_T57 l0_2 x3_2).f3).length : Int) := of_decide_eq_true zx15_0
                        obtain ⟨ad237, e237, hx237_0⟩ := Kd.at_int HR232_3.out x7_5 p237 q237
                        obtain rfl : ad236 = ad237 := (by injection e237)
                        replace hx237_0 := (HB.out.cell (World.block_lt_of_cell? w _ hx237_0)).trans hx237_0
                        replace p237 := eq_true p237
                        replace q237 := eq_true q237
                        obtain ⟨hcz58_0, hcz58_1, hcz58_2, hfz58_0, hfz58_1, hfz58_2⟩ := cx15_bc3 BK231.out
                        have p238 : 0 ≤ (x7_5 : Int) := of_decide_eq_true zx15_0
                        have q238 : x7_5 < (((rd_T57 l0_2 x3_2).f3).length : Int) := of_decide_eq_true zx15_0
                        obtain ⟨ad238, e238, hx238_0⟩ := Kd.at_int HR232_3.out x7_5 p238 q238
                        obtain rfl : ad236 = ad238 := (by injection e238)
                        replace hx238_0 := (HB.out.cell (World.block_lt_of_cell? w _ hx238_0)).trans hx238_0
                        replace p238 := eq_true p238
                        replace q238 := eq_true q238
                        have p239 : 0 ≤ ((ji49) : Int) := of_decide_eq_true zx15_0
                        have q239 : (ji49) < (((rd_T57 l0_2 x3_2).f3).length : Int) := of_decide_eq_true zx15_0
                        obtain ⟨ad239, e239, hx239_0⟩ := Kd.at_int HR232_3.out (ji49) p239 q239
                        obtain rfl : ad236 = ad239 := (by injection e239)
                        replace hx239_0 := (HB.out.cell (World.block_lt_of_cell? w _ hx239_0)).trans hx239_0
                        replace p239 := eq_true p239
                        replace q239 := eq_true q239
                        go_wp2
                        repeat (go_quiet (fail); try go_wp2)
                        go_roundg k5
                        case measure => have := HJ1.out; have := HK2.out; have := HJ12.out; have := HK4.out; have := HK5.out; omega
                        case rel => exact ⟨(wrap64 (x7_5 + 1)), zx15_4, H', ⟨by have := HJ1.out; have := HK2.out; have := HJ12.out; have := HK4.out; have := HK5.out; omega⟩, ⟨by (with_reducible repeat (first | refine blk_drewN ?_ _ | refine blk_drew ?_ | refine blk_alloc ?_ _)); exact BK231.out⟩, ⟨by (with_reducible repeat (first | refine blk_drewN ?_ _ | refine blk_drew ?_ | refine blk_alloc ?_ _)); exact BK233.out⟩, ⟨by repeat (first | (with_reducible first | exact HB.out | apply below_alloc | apply pw_below_drewN | apply below_drew1 | refine below_set ?_ GE231.out | refine below_set ?_ GE233.out) | exact HB.out)⟩⟩
                      ·rw [if_neg c51] at H
                       exact absurd H (by simp)
                     ·rw [if_neg c50] at H
                      exact absurd H (by simp)
                    ·rw [if_neg c48] at H
                     have c48b0 : decide (0 < x7_5) = false := decide_eq_false c48
                     clear c48
                     have H' := Aside0.mk H
                     clear H
                     have hnb59 := NB233_231.out
                     have hnc59 := NB231_233.out
                     obtain ⟨hcz60_0, hcz60_1, hcz60_2, hcz60_3, hcz60_4, hcz60_5, hcz60_6, hfz60_0, hfz60_1, hfz60_2, hfz60_3, hfz60_4, hfz60_5, hfz60_6⟩ := cx15_bc7 BK233.out
                     have p236 : 0 ≤ (x7_5 : Int) := of_decide_eq_true zx15_0
                     have q236 : x7_5 < (((rd_T57 l0_2 x3_2).f3).length : Int) := of_decide_eq_true zx15_0
                     obtain ⟨ad236, e236, hx236_0⟩ := Kd.at_int HR232_3.out x7_5 p236 q236
                     cases e236
                     replace hx236_0 := (HB.out.cell (World.block_lt_of_cell? w _ hx236_0)).trans hx236_0
                     replace p236 := eq_true p236
                     replace q236 := eq_true q236
                     have p237 : 0 ≤ (x7_5 : Int) := of_decide_eq_true zx15_0
                     have q237 : x7_5 < (((rd_T57 l0_2 x3_2).f3).length : Int) := of_decide_eq_true zx15_0
                     obtain ⟨ad237, e237, hx237_0⟩ := Kd.at_int HR232_3.out x7_5 p237 q237
                     obtain rfl : ad236 = ad237 := (by injection e237)
                     replace hx237_0 := (HB.out.cell (World.block_lt_of_cell? w _ hx237_0)).trans hx237_0
                     replace p237 := eq_true p237
                     replace q237 := eq_true q237
                     obtain ⟨hcz61_0, hcz61_1, hcz61_2, hfz61_0, hfz61_1, hfz61_2⟩ := cx15_bc3 BK231.out
                     go_wp2
                     repeat (go_quiet (fail); try go_wp2)
                     go_roundg k5
                     case measure => have := HJ1.out; have := HK2.out; have := HJ12.out; have := HK4.out; have := HK5.out; omega
                     case rel => exact ⟨(wrap64 (x7_5 + 1)), zx15_4, H', ⟨by have := HJ1.out; have := HK2.out; have := HJ12.out; have := HK4.out; have := HK5.out; omega⟩, ⟨by (with_reducible repeat (first | refine blk_drewN ?_ _ | refine blk_drew ?_ | refine blk_alloc ?_ _)); exact BK231.out⟩, ⟨by (with_reducible repeat (first | refine blk_drewN ?_ _ | refine blk_drew ?_ | refine blk_alloc ?_ _)); exact BK233.out⟩, ⟨by repeat (first | (with_reducible first | exact HB.out | apply below_alloc | apply pw_below_drewN | apply below_drew1 | refine below_set ?_ GE231.out | refine below_set ?_ GE233.out) | exact HB.out)⟩⟩
                 ·rw [if_neg c40] at H
                  exact absurd H (by simp)
                ·rw [if_neg c39] at H
                 have c39b0 : decide (x7_5 < (((rd_T57 l0_2 x3_2).f3).length : Int)) = false := decide_eq_false c39
                 clear c39
                 by_cases c62 : (IntKind.u64.wrap ((IntKind.u64.wrap (((rd_T57 l0_2 x3_2).f4) + ((rd_T57 l0_2 x3_2).f5))) + ((rd_T57 l0_2 x3_2).f6))) = (IntKind.u64.wrap ((IntKind.u64.wrap (((rd_T57 l0_2 x3_2).f2) - ((rd_T57 l0_2 x3_2).f1))) + (IntKind.u64.wrap ((((rd_T57 l0_2 x3_2).f3).length : Int)))))
                 ·rw [if_pos c62] at H
                  have c62b0 : ((IntKind.u64.wrap ((IntKind.u64.wrap (((rd_T57 l0_2 x3_2).f4) + ((rd_T57 l0_2 x3_2).f5))) + ((rd_T57 l0_2 x3_2).f6))) == (IntKind.u64.wrap ((IntKind.u64.wrap (((rd_T57 l0_2 x3_2).f2) - ((rd_T57 l0_2 x3_2).f1))) + (IntKind.u64.wrap ((((rd_T57 l0_2 x3_2).f3).length : Int)))))) = true := beq_iff_eq.mpr c62
                  have c62b1 : ((IntKind.u64.wrap ((IntKind.u64.wrap (((rd_T57 l0_2 x3_2).f4) + ((rd_T57 l0_2 x3_2).f5))) + ((rd_T57 l0_2 x3_2).f6))) != (IntKind.u64.wrap ((IntKind.u64.wrap (((rd_T57 l0_2 x3_2).f2) - ((rd_T57 l0_2 x3_2).f1))) + (IntKind.u64.wrap ((((rd_T57 l0_2 x3_2).f3).length : Int)))))) = false := bne_eq_false_iff_eq.mpr c62
                  clear c62
                  refine (if c63 : (IntKind.u64.wrap ((IntKind.u64.wrap (((rd_T57 l0_2 x3_2).f2) - ((rd_T57 l0_2 x3_2).f1))) + (IntKind.u64.wrap ((((rd_T57 l0_2 x3_2).f3).length : Int))))) = (IntKind.u64.wrap (a0_1 - ((rd_T57 l0_2 x3_2).f1))) then ?pos_c63 else ?neg_c63)
                  case' neg_c63 =>
                   rw [if_neg c63] at H
                   have c63b0 : ((IntKind.u64.wrap ((IntKind.u64.wrap (((rd_T57 l0_2 x3_2).f2) - ((rd_T57 l0_2 x3_2).f1))) + (IntKind.u64.wrap ((((rd_T57 l0_2 x3_2).f3).length : Int))))) == (IntKind.u64.wrap (a0_1 - ((rd_T57 l0_2 x3_2).f1)))) = false := beq_eq_false_iff_ne.mpr c63
                   have c63b1 : ((IntKind.u64.wrap ((IntKind.u64.wrap (((rd_T57 l0_2 x3_2).f2) - ((rd_T57 l0_2 x3_2).f1))) + (IntKind.u64.wrap ((((rd_T57 l0_2 x3_2).f3).length : Int))))) != (IntKind.u64.wrap (a0_1 - ((rd_T57 l0_2 x3_2).f1)))) = true := bne_iff_ne.mpr c63
                   refine (if c67 : ((rd_T57 l0_2 x3_2).f2) < a0_0 then ?pos_c67 else ?neg_c67)
                   case pos_c67 =>
                    rw [if_pos c67] at H
                    have c67b0 : decide (((rd_T57 l0_2 x3_2).f2) < a0_0) = true := decide_eq_true c67
                    clear c67
                    obtain rfl := Option.some.inj H
                    have hnb68 := NB233_231.out
                    have hnc68 := NB231_233.out
                    obtain ⟨hcz69_0, hcz69_1, hcz69_2, hcz69_3, hcz69_4, hcz69_5, hcz69_6, hfz69_0, hfz69_1, hfz69_2, hfz69_3, hfz69_4, hfz69_5, hfz69_6⟩ := cx15_bc7 BK233.out
                    obtain ⟨hcz70_0, hcz70_1, hcz70_2, hfz70_0, hfz70_1, hfz70_2⟩ := cx15_bc3 BK231.out
                    go_wp2
                    repeat (go_quiet (fail); try go_wp2)
                    go_ret
                    exact ⟨by first | rfl | (simp [errW_none, errW_some] <;> rfl) | (simp [*, errW_none, errW_some] <;> rfl), by repeat (first | (with_reducible first | exact HB.out | apply below_alloc | apply pw_below_drewN | apply below_drew1 | refine below_set ?_ GE231.out | refine below_set ?_ GE233.out) | exact HB.out)⟩
                   case' neg_c67 =>
                    rw [if_neg c67] at H
                    have c67b0 : decide (((rd_T57 l0_2 x3_2).f2) < a0_0) = false := decide_eq_false c67
                    clear c67
                    have H' := Aside0.mk H
                    clear H
                    have hnb71 := NB233_231.out
                    have hnc71 := NB231_233.out
                  case' pos_c63 =>
                   rw [if_pos c63] at H
                   have c63b0 : ((IntKind.u64.wrap ((IntKind.u64.wrap (((rd_T57 l0_2 x3_2).f2) - ((rd_T57 l0_2 x3_2).f1))) + (IntKind.u64.wrap ((((rd_T57 l0_2 x3_2).f3).length : Int))))) == (IntKind.u64.wrap (a0_1 - ((rd_T57 l0_2 x3_2).f1)))) = true := beq_iff_eq.mpr c63
                   have c63b1 : ((IntKind.u64.wrap ((IntKind.u64.wrap (((rd_T57 l0_2 x3_2).f2) - ((rd_T57 l0_2 x3_2).f1))) + (IntKind.u64.wrap ((((rd_T57 l0_2 x3_2).f3).length : Int))))) != (IntKind.u64.wrap (a0_1 - ((rd_T57 l0_2 x3_2).f1)))) = false := bne_eq_false_iff_eq.mpr c63
                   clear c63
                   have H' := Aside0.mk H
                   clear H
                   have hnb64 := NB233_231.out
                   have hnc64 := NB231_233.out
                  all_goals
                   obtain ⟨hcz65_0, hcz65_1, hcz65_2, hcz65_3, hcz65_4, hcz65_5, hcz65_6, hfz65_0, hfz65_1, hfz65_2, hfz65_3, hfz65_4, hfz65_5, hfz65_6⟩ := cx15_bc7 BK233.out
                   obtain ⟨hcz66_0, hcz66_1, hcz66_2, hfz66_0, hfz66_1, hfz66_2⟩ := cx15_bc3 BK231.out
                   go_wp2
                   repeat (go_quiet (fail); try go_wp2)
                   go_roundg k5
                   case measure => have := HJ1.out; have := HK2.out; have := HJ12.out; have := HK4.out; have := HK5.out; omega
                   case rel => exact ⟨(wrap64 (x3_2 + 1)), zx15_4, H', ⟨by have := HJ1.out; have := HK2.out; have := HJ12.out; have := HK4.out; have := HK5.out; omega⟩, ⟨by (with_reducible repeat (first | refine blk_drewN ?_ _ | refine blk_drew ?_ | refine blk_alloc ?_ _)); exact BK231.out⟩, ⟨by repeat (first | (with_reducible first | exact HB.out | apply below_alloc | apply pw_below_drewN | apply below_drew1 | refine below_set ?_ GE231.out | refine below_set ?_ GE233.out) | exact HB.out)⟩⟩
                 ·rw [if_neg c62] at H
                  have c62b0 : ((IntKind.u64.wrap ((IntKind.u64.wrap (((rd_T57 l0_2 x3_2).f4) + ((rd_T57 l0_2 x3_2).f5))) + ((rd_T57 l0_2 x3_2).f6))) == (IntKind.u64.wrap ((IntKind.u64.wrap (((rd_T57 l0_2 x3_2).f2) - ((rd_T57 l0_2 x3_2).f1))) + (IntKind.u64.wrap ((((rd_T57 l0_2 x3_2).f3).length : Int)))))) = false := beq_eq_false_iff_ne.mpr c62
                  have c62b1 : ((IntKind.u64.wrap ((IntKind.u64.wrap (((rd_T57 l0_2 x3_2).f4) + ((rd_T57 l0_2 x3_2).f5))) + ((rd_T57 l0_2 x3_2).f6))) != (IntKind.u64.wrap ((IntKind.u64.wrap (((rd_T57 l0_2 x3_2).f2) - ((rd_T57 l0_2 x3_2).f1))) + (IntKind.u64.wrap ((((rd_T57 l0_2 x3_2).f3).length : Int)))))) = true := bne_iff_ne.mpr c62
                  obtain rfl := Option.some.inj H
                  have hnb74 := NB233_231.out
                  have hnc74 := NB231_233.out
                  obtain ⟨hcz75_0, hcz75_1, hcz75_2, hcz75_3, hcz75_4, hcz75_5, hcz75_6, hfz75_0, hfz75_1, hfz75_2, hfz75_3, hfz75_4, hfz75_5, hfz75_6⟩ := cx15_bc7 BK233.out
                  go_wp2
                  repeat (go_quiet (fail); try go_wp2)
                  go_ret
                  exact ⟨by first | rfl | (simp [errW_none, errW_some] <;> rfl) | (simp [*, errW_none, errW_some] <;> rfl), by repeat (first | (with_reducible first | exact HB.out | apply below_alloc | apply pw_below_drewN | apply below_drew1 | refine below_set ?_ GE231.out | refine below_set ?_ GE233.out) | exact HB.out)⟩
       ·rw [if_neg c11] at H
        exact absurd H (by simp)
      ·rw [if_neg c10] at H
       have c10b0 : decide (x3_2 < (l0_2.length : Int)) = false := decide_eq_false c10
       clear c10
       obtain rfl := Option.some.inj H
       obtain ⟨hcz76_0, hcz76_1, hcz76_2, hfz76_0, hfz76_1, hfz76_2⟩ := cx15_bc3 BK231.out
       go_wp2
       repeat (go_quiet (fail); try go_wp2)
       go_ret
       exact ⟨by first | rfl | (simp [errW_none, errW_some] <;> rfl) | (simp [*, errW_none, errW_some] <;> rfl), by repeat (first | (with_reducible first | exact HB.out | apply below_alloc | apply pw_below_drewN | apply below_drew1 | refine below_set ?_ GE231.out) | exact HB.out)⟩

end Go.Proofs.YtmbigoeldobaiaaDoor.XMrk
end
section
/- What the functions of the translation answer, each as a plain Lean function, and that the code comes to it; for a law: its row. Conditions: none but those that each theorem names. Written by a program of this session (wip/xp). -/
namespace Go.Proofs.YtmbigoeldobaiaaDoor.XMrk
open Go.RowKit Go.Proofs.YtmbigoeldobaiaaDoorW.PrintWords Go.Proofs.YtmbigoeldobaiaaDoorW.PrintLast Go.Proofs.YtmbigoeldobaiaaDoorW.PrintMore
attribute [local go_sem] max2_int min2_int max_two min_two max_three min_three max_four min_four   -- for this text's walks alone
theorem cx20_bc7 {w : World} {g : Nat} {t : TypeId} {x0 x1 x2 x3 x4 x5 x6 : Value} (h : w.heap[g]? = some (.cells #[x0, x1, x2, x3, x4, x5, x6] t (0, 0))) : w.cell? ⟨g, 0, none⟩ = some x0 ∧ w.cell? ⟨g, 1, none⟩ = some x1 ∧ w.cell? ⟨g, 2, none⟩ = some x2 ∧ w.cell? ⟨g, 3, none⟩ = some x3 ∧ w.cell? ⟨g, 4, none⟩ = some x4 ∧ w.cell? ⟨g, 5, none⟩ = some x5 ∧ w.cell? ⟨g, 6, none⟩ = some x6 ∧ w.frozen? ⟨g, 0, none⟩ = false ∧ w.frozen? ⟨g, 1, none⟩ = false ∧ w.frozen? ⟨g, 2, none⟩ = false ∧ w.frozen? ⟨g, 3, none⟩ = false ∧ w.frozen? ⟨g, 4, none⟩ = false ∧ w.frozen? ⟨g, 5, none⟩ = false ∧ w.frozen? ⟨g, 6, none⟩ = false :=
 ⟨(blk_cell h 0).trans rfl, (blk_cell h 1).trans rfl, (blk_cell h 2).trans rfl, (blk_cell h 3).trans rfl, (blk_cell h 4).trans rfl, (blk_cell h 5).trans rfl, (blk_cell h 6).trans rfl, blk_frozen h 0, blk_frozen h 1, blk_frozen h 2, blk_frozen h 3, blk_frozen h 4, blk_frozen h 5, blk_frozen h 6⟩
theorem zx20_8 {p : Prop} (h : p := by first | (with_reducible assumption) | assumption) : p := h
theorem zx20_4 {p : Prop} (h : p := by (with_reducible repeat (first | refine blk_drewN ?_ _ | refine blk_drew ?_ | refine blk_alloc ?_ _)); exact BK274.out) : p := h
theorem zx20_5 {p : Prop} (h : p := by repeat (first | (with_reducible first | exact HB.out | apply below_alloc | apply pw_below_drewN | apply below_drew1) | exact HB.out)) : p := h
theorem zx20_7 {p : Prop} (h : p := by (try simp only [List.map_toArray, List.map_cons, List.map_nil]); first | done | rfl | (simp only [List.length_drop, List.length_take]; rfl)) : p := h
theorem zx20_2 {p : Prop} (h : p := by repeat (first | (with_reducible first | exact HB.out | apply below_alloc | apply pw_below_drewN | apply below_drew1 | refine below_set ?_ GE274.out) | exact HB.out)) : p := h
theorem zx20_6 {p : Prop} (h : p := by repeat (first | (with_reducible first | exact HB.out | apply below_alloc | apply pw_below_drewN | apply below_drew1 | refine below_set ?_ GE274.out | refine below_set ?_ GE289.out) | exact HB.out)) : p := h
theorem zx20_0 {p : Prop} (h : p := by first | exact Kd.own_blk (Kd.R_ne HO_7.out BK289.out (by decide)) | (rw [add_block]; exact Kd.own_blk (Kd.R_ne HO_7.out BK289.out (by decide))) | (show (Addr.add _ _).block ≠ _; rw [add_block]; exact Kd.own_blk (Kd.R_ne HO_7.out BK289.out (by decide))) | (dsimp only; exact Kd.own_blk (Kd.R_ne HO_7.out BK289.out (by decide)))) : p := h
theorem zx20_3 {p : Prop} (h : p := by (with_reducible repeat (first | apply Kd.R_alloc | apply Kd.R_drewN | apply Kd.R_drew)); exact (Kd.R_mono (Kd.R_far (p := ⟨gb289, 6, none⟩) (Kd.R_far (p := ⟨gb289, 5, none⟩) (Kd.R_far (p := ⟨gb289, 4, none⟩) (Kd.R_far (p := ⟨gb289, 3, none⟩) (Kd.R_far (p := ⟨gb289, 2, none⟩) (Kd.R_far (p := ⟨gb289, 1, none⟩) (Kd.R_far (p := ⟨gb289, 0, none⟩) (Kd.R_types HO_7.out BK289.out (by decide)) (fun _ hk => hk.2) (.string t275)) (fun _ hk => hk.2) (.int .u64 (rd t278 0))) (fun _ hk => hk.2) (.int .u64 (rd t278 1))) (fun _ hk => hk.2) (.slice none 0 0)) (fun _ hk => hk.2) (.int .u64 (rd t278 2))) (fun _ hk => hk.2) (.int .u64 (rd t278 3))) (fun _ hk => hk.2) (.int .u64 (rd t278 4))) (fun _ h_ => h_.1))) : p := h
theorem zx20_1 {p : Prop} (h : p := by (with_reducible repeat (first | refine blk_drewN ?_ _ | refine blk_drew ?_ | refine blk_alloc ?_ _)); refine blk_put (cs := #[.string (⟨#[]⟩ : ByteArray), .int .u64 0, .int .u64 0, .slice none 0 0, .int .u64 0, .int .u64 0, .int .u64 0]) ?_ 6 _ rfl; (with_reducible repeat (first | refine blk_drewN ?_ _ | refine blk_drew ?_ | refine blk_alloc ?_ _)); refine blk_put (cs := #[.string (⟨#[]⟩ : ByteArray), .int .u64 0, .int .u64 0, .slice none 0 0, .int .u64 0, .int .u64 0, .int .u64 0]) ?_ 5 _ rfl; (with_reducible repeat (first | refine blk_drewN ?_ _ | refine blk_drew ?_ | refine blk_alloc ?_ _)); refine blk_put (cs := #[.string (⟨#[]⟩ : ByteArray), .int .u64 0, .int .u64 0, .slice none 0 0, .int .u64 0, .int .u64 0, .int .u64 0]) ?_ 4 _ rfl; (with_reducible repeat (first | refine blk_drewN ?_ _ | refine blk_drew ?_ | refine blk_alloc ?_ _)); refine blk_put (cs := #[.string (⟨#[]⟩ : ByteArray), .int .u64 0, .int .u64 0, .slice none 0 0, .int .u64 0, .int .u64 0, .int .u64 0]) ?_ 3 _ rfl; (with_reducible repeat (first | refine blk_drewN ?_ _ | refine blk_drew ?_ | refine blk_alloc ?_ _)); refine blk_put (cs := #[.string (⟨#[]⟩ : ByteArray), .int .u64 0, .int .u64 0, .slice none 0 0, .int .u64 0, .int .u64 0, .int .u64 0]) ?_ 2 _ rfl; (with_reducible repeat (first | refine blk_drewN ?_ _ | refine blk_drew ?_ | refine blk_alloc ?_ _)); refine blk_put (cs := #[.string (⟨#[]⟩ : ByteArray), .int .u64 0, .int .u64 0, .slice none 0 0, .int .u64 0, .int .u64 0, .int .u64 0]) ?_ 1 _ rfl; (with_reducible repeat (first | refine blk_drewN ?_ _ | refine blk_drew ?_ | refine blk_alloc ?_ _)); refine blk_put (cs := #[.string (⟨#[]⟩ : ByteArray), .int .u64 0, .int .u64 0, .slice none 0 0, .int .u64 0, .int .u64 0, .int .u64 0]) ?_ 0 _ rfl; (with_reducible repeat (first | refine blk_drewN ?_ _ | refine blk_drew ?_ | refine blk_alloc ?_ _)); exact BK274.out) : p := h
set_option linter.unusedVariables false
set_option linter.unusedSimpArgs false

/-! ### postroomref11_dest: function 30 -/
mutual
def postroomref11_dest.j0 : Nat → ByteArray → ByteArray → List Int → Bool → Option (ByteArray × Int × Int × List Int × Int × Int × Int × ByteArray × Bool)
 | 0, _, _, _, _ => none
 | k + 1, x0, x5, x7, x38 => if x38 = true then (some ((⟨#[]⟩ : ByteArray), 0, 0, ([] : List Int), 0, 0, 0, (⟨#[]⟩ : ByteArray), false)) else (if 0 < (x7.length : Int) then (if 1 < (x7.length : Int) then (if 2 < (x7.length : Int) then (if 3 < (x7.length : Int) then (if 4 < (x7.length : Int) then (if 5 < (x7.length : Int) then ((postroomref11_row.f k x0 (wrap64 (rd x7 5))).bind fun bt291 => (postroomref11_dest.l0 k bt291.2.1 bt291.2.2 bt291.1 (rd x7 1) 0 x5 (rd x7 0) (rd x7 1) ([] : List Int) (rd x7 2) (rd x7 3) (rd x7 4))) else (none)) else (none)) else (none)) else (none)) else (none)) else (none))
def postroomref11_dest.l0 : Nat → ByteArray → Bool → List Int → Int → Int → ByteArray → Int → Int → List Int → Int → Int → Int → Option (ByteArray × Int × Int × List Int × Int × Int × Int × ByteArray × Bool)
 | 0, _, _, _, _, _, _, _, _, _, _, _, _ => none
 | k + 1, x0, x8, x10, x11, x12, x290000, x290001, x290002, x290003, x290004, x290005, x290006 => if x8 = true then (if x12 < (x10.length : Int) then (if 0 ≤ x12 then (if x290003.length < 17592186044416 then (postroomref11_dest.l0 k x0 x8 x10 (IntKind.u64.wrap (x11 + (rd x10 x12))) (wrap64 (x12 + 1)) x290000 x290001 x290002 (x290003 ++ [IntKind.u64.wrap (x11 + (rd x10 x12))]) x290004 x290005 x290006) else (none)) else (none)) else (some (x290000, x290001, x290002, x290003, x290004, x290005, x290006, x0, x8))) else (some (x290000, x290001, x290002, x290003, x290004, x290005, x290006, x0, x8))
end
def postroomref11_dest.f (k : Nat) (a0 : ByteArray) : Option (ByteArray × Int × Int × List Int × Int × Int × Int × ByteArray × Bool) := (postroomref1_TakeText.f k a0 20).bind fun bt275 => (if bt275.2.2 = 0 then ((postroomref11_row.f k bt275.2.1 6).bind fun bt278 => (if bt278.2.2 = true then (if 5 < (bt278.1.length : Int) then (postroomref11_dest.j0 k bt278.2.1 bt275.1 bt278.1 (decide ((rd bt278.1 5) > (IntKind.u64.wrap ((bt278.2.1.size : Int)))))) else (none)) else (postroomref11_dest.j0 k bt278.2.1 bt275.1 bt278.1 true))) else (some ((⟨#[]⟩ : ByteArray), 0, 0, ([] : List Int), 0, 0, 0, (⟨#[]⟩ : ByteArray), false)))
theorem postroomref11_dest.mono_l : ∀ k, (∀ y0 y1 y2 y3, LeO (postroomref11_dest.j0 k y0 y1 y2 y3) (postroomref11_dest.j0 (k + 1) y0 y1 y2 y3)) ∧ (∀ y0 y1 y2 y3 y4 y5 y6 y7 y8 y9 y10 y11, LeO (postroomref11_dest.l0 k y0 y1 y2 y3 y4 y5 y6 y7 y8 y9 y10 y11) (postroomref11_dest.l0 (k + 1) y0 y1 y2 y3 y4 y5 y6 y7 y8 y9 y10 y11))
 | 0 => ⟨fun _ _ _ _ r h => by simp [postroomref11_dest.j0] at h, fun _ _ _ _ _ _ _ _ _ _ _ _ r h => by simp [postroomref11_dest.l0] at h⟩
 | k + 1 => by
  obtain ⟨ih0, ih1⟩ := postroomref11_dest.mono_l k
  refine ⟨?_, ?_⟩
  ·intro y0 y1 y2 y3
   unfold postroomref11_dest.j0
   repeat' first
   | (with_reducible exact ih0 _ _ _ _)
   | (with_reducible exact ih1 _ _ _ _ _ _ _ _ _ _ _ _)
   | (with_reducible exact postroomref11_row.mono _ _ _)
   | (with_reducible exact postroomref1_TakeText.mono _ _ _)
   | (with_reducible exact LeO.refl _)
   | (with_reducible exact LeO.none _)
   | (with_reducible refine LeO.ite ?_ ?_)
   | (with_reducible refine LeO.bind ?_ (fun _ => ?_))
   | exact ih0 _ _ _ _
   | exact ih1 _ _ _ _ _ _ _ _ _ _ _ _
   | exact postroomref11_row.mono _ _ _
   | exact postroomref1_TakeText.mono _ _ _
   | exact LeO.none _
   | refine LeO.ite ?_ ?_
   | refine LeO.bind ?_ (fun _ => ?_)
  ·intro y0 y1 y2 y3 y4 y5 y6 y7 y8 y9 y10 y11
   unfold postroomref11_dest.l0
   repeat' first
   | (with_reducible exact ih0 _ _ _ _)
   | (with_reducible exact ih1 _ _ _ _ _ _ _ _ _ _ _ _)
   | (with_reducible exact postroomref11_row.mono _ _ _)
   | (with_reducible exact postroomref1_TakeText.mono _ _ _)
   | (with_reducible exact LeO.refl _)
   | (with_reducible exact LeO.none _)
   | (with_reducible refine LeO.ite ?_ ?_)
   | (with_reducible refine LeO.bind ?_ (fun _ => ?_))
   | exact ih0 _ _ _ _
   | exact ih1 _ _ _ _ _ _ _ _ _ _ _ _
   | exact postroomref11_row.mono _ _ _
   | exact postroomref1_TakeText.mono _ _ _
   | exact LeO.none _
   | refine LeO.ite ?_ ?_
   | refine LeO.bind ?_ (fun _ => ?_)
theorem postroomref11_dest.mono : ∀ a0 k, LeO (postroomref11_dest.f k a0) (postroomref11_dest.f (k + 1) a0) := by
 intro a0 k
 obtain ⟨ih0, ih1⟩ := postroomref11_dest.mono_l k
 unfold postroomref11_dest.f
 repeat' first
   | (with_reducible exact ih0 _ _ _ _)
   | (with_reducible exact ih1 _ _ _ _ _ _ _ _ _ _ _ _)
   | (with_reducible exact postroomref11_row.mono _ _ _)
   | (with_reducible exact postroomref1_TakeText.mono _ _ _)
   | (with_reducible exact LeO.refl _)
   | (with_reducible exact LeO.none _)
   | (with_reducible refine LeO.ite ?_ ?_)
   | (with_reducible refine LeO.bind ?_ (fun _ => ?_))
   | exact ih0 _ _ _ _
   | exact ih1 _ _ _ _ _ _ _ _ _ _ _ _
   | exact postroomref11_row.mono _ _ _
   | exact postroomref1_TakeText.mono _ _ _
   | exact LeO.none _
   | refine LeO.ite ?_ ?_
   | refine LeO.bind ?_ (fun _ => ?_)
def postroomref11_dest.T7 : Bool × List (List Nat × List Nat) := (true, [([], []), ([], []), ([1], [1]), ([2], [2]), ([], []), ([4], [4]), ([5], [5]), ([], []), ([7], [7]), ([8], [8]), ([], []), ([10], [10]), ([11], [11]), ([], []), ([13], [13]), ([14], [14]), ([0, 3, 6, 9, 12, 15], [0, 3, 6, 9, 12, 15]), ([], []), ([17, 16, 0, 1, 2, 3, 4, 5, 6, 7, 8, 9, 10, 11, 12, 13, 14, 15, 16, 17], [16, 17])])
def postroomref11_dest.B7 : List Nat := [0, 0, 2, 6, 0, 16, 48, 0, 128, 384, 0, 1024, 3072, 0, 8192, 24576, 65535, 0, 262143]
theorem postroomref11_dest.tab7 : rtab .any (opsOf Tryd.f30 7) = postroomref11_dest.T7 := by kernel_rfl
theorem postroomref11_dest.bits7 : waitsOk postroomref11_dest.T7.2 postroomref11_dest.B7 = true := by kernel_rfl
set_option maxHeartbeats 8000000 in
set_option maxRecDepth 100000 in
theorem postroomref11_dest.calls (k : Nat) (a0 : ByteArray) (r1 : ByteArray) (r2 : Int) (r3 : Int) (r4 : List Int) (r5 : Int) (r6 : Int) (r7 : Int) (r8 : ByteArray) (r9 : Bool) (w : World) (h : postroomref11_dest.f k a0 = some (r1, r2, r3, r4, r5, r6, r7, r8, r9)) :
  Calls Tryd.prog 30 #[.string a0] w fun e w' => ∃ v3_ : Value, e = .returned (.tuple #[.agg #[.string r1, .int .u64 r2, .int .u64 r3, v3_, .int .u64 r5, .int .u64 r6, .int .u64 r7], .string r8, .bool r9]) ∧ Kd.R (Kd.int .u64) 22 w' w.heap.size (fun _ => True) v3_ r4 ∧ Below w.heap.size w w' := by
 have hu57 := Tryd.underlying57
 have HB := Aside0.mk (Below.refl w.heap.size w)
 have H : ((postroomref1_TakeText.f k a0 20).bind fun bt275 => (if bt275.2.2 = 0 then ((postroomref11_row.f k bt275.2.1 6).bind fun bt278 => (if bt278.2.2 = true then (if 5 < (bt278.1.length : Int) then (postroomref11_dest.j0 k bt278.2.1 bt275.1 bt278.1 (decide ((rd bt278.1 5) > (IntKind.u64.wrap ((bt278.2.1.size : Int)))))) else (none)) else (postroomref11_dest.j0 k bt278.2.1 bt275.1 bt278.1 true))) else (some ((⟨#[]⟩ : ByteArray), 0, 0, ([] : List Int), 0, 0, 0, (⟨#[]⟩ : ByteArray), false)))) = some (r1, r2, r3, r4, r5, r6, r7, r8, r9) := h
 clear h
 replace H := Option.bind_eq_some_iff.mp H
 obtain ⟨⟨t275, t276, t277⟩, A20, H⟩ := H
 replace H : (if t277 = 0 then ((postroomref11_row.f k t276 6).bind fun bt278 => (if bt278.2.2 = true then (if 5 < (bt278.1.length : Int) then (postroomref11_dest.j0 k bt278.2.1 t275 bt278.1 (decide ((rd bt278.1 5) > (IntKind.u64.wrap ((bt278.2.1.size : Int)))))) else (none)) else (postroomref11_dest.j0 k bt278.2.1 t275 bt278.1 true))) else (some ((⟨#[]⟩ : ByteArray), 0, 0, ([] : List Int), 0, 0, 0, (⟨#[]⟩ : ByteArray), false))) = some (r1, r2, r3, r4, r5, r6, r7, r8, r9) := H
 have A2 := Aside0.mk A20
 clear A20
 by_cases c3 : t277 = 0
 ·rw [if_pos c3] at H
  have c3b0 : (t277 == 0) = true := beq_iff_eq.mpr c3
  have c3b1 : (t277 != 0) = false := bne_eq_false_iff_eq.mpr c3
  clear c3
  replace H := Option.bind_eq_some_iff.mp H
  obtain ⟨⟨t278, t279, t280⟩, A40, H⟩ := H
  replace H : (if t280 = true then (if 5 < (t278.length : Int) then (postroomref11_dest.j0 k t279 t275 t278 (decide ((rd t278 5) > (IntKind.u64.wrap ((t279.size : Int)))))) else (none)) else (postroomref11_dest.j0 k t279 t275 t278 true)) = some (r1, r2, r3, r4, r5, r6, r7, r8, r9) := H
  have A4 := Aside0.mk A40
  clear A40
  have HC5 := Aside0.mk H
  clear H
  go_enter Tryd.func30, Tryd.ntmps30
  go_upto_region 5 with (first | ((with_reducible refine gate_dst (N := 2) rfl ?_); (try (refine gate_guard (by rfl) ?_; dsimp only)); refine box_event ?hg (N := 2) ?hd (cs := #[.string (⟨#[]⟩ : ByteArray), .int .u64 0, .int .u64 0, .slice none 0 0, .int .u64 0, .int .u64 0, .int .u64 0]) (t := 57) ?hr ?_; (case hd => rfl); (case hg => rfl); (case hr => first | (go_simp; done) | (go_simp; rfl)); intro gb274 hg w6 hbox hb; have n0_ := Aside0.mk (below_step zx20_5 hb); have n1_ := Aside0.mk (hbox); have n2_ := Aside0.mk ((by rw [hg]; exact (below_size zx20_5) : w.heap.size ≤ gb274)); have n3_ := Aside0.mk ((by rw [hg]; exact (below_size zx20_5) : w.heap.size ≤ gb274)); clear HB; have HB := n0_; have BK274 := n1_; have GW274 := n2_; have GE274 := n3_; clear n0_ n1_ n2_ n3_; clear hb hbox hg) | ((with_reducible refine gate_callee (f := 47) rfl ?_); refine goesL_ (some 15) rfl rfl Tryd.func47 (by kernel_rfl) rfl #[.string a0, .int .i64 20] rfl zx20_7 ?_; (with_reducible refine (postroomref1_TakeText.calls k a0 20 t275 t276 t277 _ A2.out).mono ?_); rintro e w7 ⟨rfl, hb⟩; refine ⟨_, rfl, ?_⟩; have n0_ := Aside0.mk (blk_below (g := gb274) (o := .cells #[.string (⟨#[]⟩ : ByteArray), .int .u64 0, .int .u64 0, .slice none 0 0, .int .u64 0, .int .u64 0, .int .u64 0] 57 (0, 0)) zx20_4 hb); have n1_ := Aside0.mk (below_step zx20_2 hb); clear BK274; clear HB; have BK274 := n0_; have HB := n1_; clear n0_ n1_; (try clear hb); (try clear hb2); (try clear hk); (try clear hi)) | ((with_reducible refine gate_callee (f := 29) rfl ?_); refine goesL_ (some 24) rfl rfl Tryd.func29 (by kernel_rfl) rfl #[.string t276, .int .i64 6] rfl zx20_7 ?_; (with_reducible refine (postroomref11_row.calls k t276 6 t278 t279 t280 _ A4.out).mono ?_); rintro e w8 ⟨v281, rfl, ho0, hb⟩; refine ⟨_, rfl, ?_⟩; have n0_ := Aside0.mk (Kd.R_lower ho0 (below_size zx20_2)); have n1_ := Aside0.mk (blk_below (g := gb274) (o := .cells #[.string (⟨#[]⟩ : ByteArray), .int .u64 0, .int .u64 0, .slice none 0 0, .int .u64 0, .int .u64 0, .int .u64 0] 57 (0, 0)) zx20_4 hb); have n2_ := Aside0.mk (below_step zx20_2 hb); clear BK274; clear HB; have HO282 := n0_; have BK274 := n1_; have HB := n2_; clear n0_ n1_ n2_; (try clear hb); (try clear hb2); (try clear hk); (try clear hi); (try clear ho0)))
  (try simp only [Act.put, List.setIfInBounds_toArray, List.set_cons_zero, List.set_cons_succ])
  go_cut [38] (fun v38 wc => ∃ (kq : Nat) (x38_4 : Bool), v38 = .bool x38_4 ∧ Aside0 (postroomref11_dest.j0 kq t279 t275 t278 x38_4 = some (r1, r2, r3, r4, r5, r6, r7, r8, r9)) ∧ Aside0 (kq ≤ k) ∧ Aside0 (Kd.R (Kd.int .u64) 22 wc w.heap.size (fun _ => True) v281 t278) ∧ Aside0 (wc.heap[gb274]? = some (.cells #[.string (⟨#[]⟩ : ByteArray), .int .u64 0, .int .u64 0, (.slice none 0 0), .int .u64 0, .int .u64 0, .int .u64 0] 57 (0, 0))) ∧ Aside0 (Below w.heap.size w wc))
  case first =>
   have H := HC5.out
   clear HC5
   by_cases c9 : t280 = true
   ·subst c9
    have H1 : (if 5 < (t278.length : Int) then (postroomref11_dest.j0 k t279 t275 t278 (decide ((rd t278 5) > (IntKind.u64.wrap ((t279.size : Int)))))) else (none)) = some (r1, r2, r3, r4, r5, r6, r7, r8, r9) := by rw [if_pos rfl] at H; exact H
    clear H
    have H := H1
    clear H1
    by_cases c10 : 5 < (t278.length : Int)
    ·rw [if_pos c10] at H
     have c10b0 : decide (5 < (t278.length : Int)) = true := decide_eq_true c10
     have c10b1 : decide (5 < t278.length) = true := decide_eq_true (by omega)
     clear c10
     (first | rw [c10b0] | (simp only [i64_w, i32_w]; rw [c10b0]) | skip)
     have H' := Aside0.mk H
     clear H
     obtain ⟨Ao11, co11, eo11⟩ := Kd.R_slice HO282.out
     subst eo11
     have p283 : 0 ≤ (5 : Int) := (by omega)
     have q283 : 5 < (t278.length : Int) := of_decide_eq_true zx20_8
     obtain ⟨ad283, e283, hx283_0⟩ := Kd.at_int (Kd.R_reads' HO282.out).2.2 5 p283 q283
     cases e283
     (try simp only [show (5 : Int).toNat = 5 from rfl, Nat.reduceMul, Nat.reduceEqDiff, Go.Addr.add, ↓reduceIte] at hx283_0)
     have qi283 : (5 < t278.length) = True := eq_true (by omega)
     (try rw [show ((5 : Int)).toNat = 5 from rfl] at hx283_0)
     replace p283 := eq_true p283
     replace q283 := eq_true q283
     go_wp2
     go_meet
     case rel => exact ⟨_, (decide ((rd t278 5) > (IntKind.u64.wrap ((t279.size : Int))))), (by first | rfl | (simp; done) | (simp [*]; done)), H', ⟨by first | omega | exact Nat.le_refl _⟩, ⟨by (with_reducible repeat (first | apply Kd.R_alloc | apply Kd.R_drewN | apply Kd.R_drew)); exact HO282.out⟩, ⟨by (with_reducible repeat (first | refine blk_drewN ?_ _ | refine blk_drew ?_ | refine blk_alloc ?_ _)); exact BK274.out⟩, ⟨by repeat (first | (with_reducible first | exact HB.out | apply below_alloc | apply pw_below_drewN | apply below_drew1 | refine below_set ?_ GE274.out) | exact HB.out)⟩⟩
    ·rw [if_neg c10] at H
     exact absurd H (by simp)
   ·replace c9 := Bool.eq_false_iff.mpr c9
    subst c9
    have H1 : (postroomref11_dest.j0 k t279 t275 t278 true) = some (r1, r2, r3, r4, r5, r6, r7, r8, r9) := by rw [if_neg (show ¬ (false = true) by decide)] at H; exact H
    clear H
    have H := H1
    clear H1
    have H' := Aside0.mk H
    clear H
    go_wp2
    go_meet
    case rel => exact ⟨_, (true), (by first | rfl | (simp; done) | (simp [*]; done)), H', ⟨by first | omega | exact Nat.le_refl _⟩, ⟨by (with_reducible repeat (first | apply Kd.R_alloc | apply Kd.R_drewN | apply Kd.R_drew)); exact HO282.out⟩, ⟨by (with_reducible repeat (first | refine blk_drewN ?_ _ | refine blk_drew ?_ | refine blk_alloc ?_ _)); exact BK274.out⟩, ⟨by repeat (first | (with_reducible first | exact HB.out | apply below_alloc | apply pw_below_drewN | apply below_drew1 | refine below_set ?_ GE274.out) | exact HB.out)⟩⟩
  case rest =>
   clear HC5
   (try clear c1); (try clear c2); (try clear p2); (try clear q2); (try clear hx2); (try clear qi2); (try clear c3); (try clear c3b0); (try clear c3b1); (try clear c4); (try clear c9); (try clear c10); (try clear c10b0); (try clear c10b1); (try clear hx283_0); (try clear p283); (try clear q283)
   obtain ⟨kq, x38_4, rfl, HA, HJ4, HO_7, BK274, HB⟩ := hcut
   cases kq with
   | zero => exact absurd HA.out (by simp [postroomref11_dest.j0])
   | succ kj4 =>
    have H := HA.out
    clear HA
    simp only [postroomref11_dest.j0] at H
    by_cases c12 : x38_4 = true
    ·subst c12
     have H1 : (some ((⟨#[]⟩ : ByteArray), 0, 0, ([] : List Int), 0, 0, 0, (⟨#[]⟩ : ByteArray), false)) = some (r1, r2, r3, r4, r5, r6, r7, r8, r9) := by rw [if_pos rfl] at H; exact H
     clear H
     have H := H1
     clear H1
     simp only [Option.some.injEq, Prod.mk.injEq] at H
     obtain ⟨rfl, rfl, rfl, rfl, rfl, rfl, rfl, rfl, rfl⟩ := H
     obtain ⟨hcz13_0, hcz13_1, hcz13_2, hcz13_3, hcz13_4, hcz13_5, hcz13_6, hfz13_0, hfz13_1, hfz13_2, hfz13_3, hfz13_4, hfz13_5, hfz13_6⟩ := cx20_bc7 BK274.out
     go_wp2
     refine bodyPost_ret (results_ctt rfl _ _ gb274 57 #[.string (⟨#[]⟩ : ByteArray), .int .u64 0, .int .u64 0, .slice none 0 0, .int .u64 0, .int .u64 0, .int .u64 0] (0, 0) _ rfl zx20_1 Tryd.underlying57 rfl (by kernel_rfl)) rfl ?_
     exact ⟨_, by first | rfl | (simp [errW_none, errW_some] <;> rfl) | (simp [*, errW_none, errW_some] <;> rfl), by first | exact Kd.R_nil _ _ _ _ _ | exact Kd.N_nil _ _ _ _ _ | exact Kd.V_nil _ _ _ _ _ | exact Kd.Q_nil _ _ _ _ _ | exact Kd.S_nil _ _ _ _ _, by repeat (first | (with_reducible first | exact HB.out | apply below_alloc | apply pw_below_drewN | apply below_drew1 | refine below_set ?_ GE274.out) | exact HB.out)⟩
    ·replace c12 := Bool.eq_false_iff.mpr c12
     subst c12
     have H1 : (if 0 < (t278.length : Int) then (if 1 < (t278.length : Int) then (if 2 < (t278.length : Int) then (if 3 < (t278.length : Int) then (if 4 < (t278.length : Int) then (if 5 < (t278.length : Int) then ((postroomref11_row.f kj4 t279 (wrap64 (rd t278 5))).bind fun bt291 => (postroomref11_dest.l0 kj4 bt291.2.1 bt291.2.2 bt291.1 (rd t278 1) 0 t275 (rd t278 0) (rd t278 1) ([] : List Int) (rd t278 2) (rd t278 3) (rd t278 4))) else (none)) else (none)) else (none)) else (none)) else (none)) else (none)) = some (r1, r2, r3, r4, r5, r6, r7, r8, r9) := by rw [if_neg (show ¬ (false = true) by decide)] at H; exact H
     clear H
     have H := H1
     clear H1
     by_cases c14 : 0 < (t278.length : Int)
     ·rw [if_pos c14] at H
      have c14b0 : decide (0 < (t278.length : Int)) = true := decide_eq_true c14
      have c14b1 : decide (0 < t278.length) = true := decide_eq_true (by omega)
      clear c14
      by_cases c15 : 1 < (t278.length : Int)
      ·rw [if_pos c15] at H
       have c15b0 : decide (1 < (t278.length : Int)) = true := decide_eq_true c15
       have c15b1 : decide (1 < t278.length) = true := decide_eq_true (by omega)
       clear c15
       by_cases c16 : 2 < (t278.length : Int)
       ·rw [if_pos c16] at H
        have c16b0 : decide (2 < (t278.length : Int)) = true := decide_eq_true c16
        have c16b1 : decide (2 < t278.length) = true := decide_eq_true (by omega)
        clear c16
        by_cases c17 : 3 < (t278.length : Int)
        ·rw [if_pos c17] at H
         have c17b0 : decide (3 < (t278.length : Int)) = true := decide_eq_true c17
         have c17b1 : decide (3 < t278.length) = true := decide_eq_true (by omega)
         clear c17
         by_cases c18 : 4 < (t278.length : Int)
         ·rw [if_pos c18] at H
          have c18b0 : decide (4 < (t278.length : Int)) = true := decide_eq_true c18
          have c18b1 : decide (4 < t278.length) = true := decide_eq_true (by omega)
          clear c18
          by_cases c19 : 5 < (t278.length : Int)
          ·rw [if_pos c19] at H
           have c19b0 : decide (5 < (t278.length : Int)) = true := decide_eq_true c19
           have c19b1 : decide (5 < t278.length) = true := decide_eq_true (by omega)
           clear c19
           replace H := Option.bind_eq_some_iff.mp H
           obtain ⟨⟨t291, t292, t293⟩, A200, H⟩ := H
           replace H : (postroomref11_dest.l0 kj4 t292 t293 t291 (rd t278 1) 0 t275 (rd t278 0) (rd t278 1) ([] : List Int) (rd t278 2) (rd t278 3) (rd t278 4)) = some (r1, r2, r3, r4, r5, r6, r7, r8, r9) := H
           have A20 := Aside0.mk A200
           clear A200
           have H' := Aside0.mk H
           clear H
           try go_wp2
           have n0_ := Aside0.mk (Kd.R_drew HO_7.out)
           have n1_ := Aside0.mk (blk_drew BK274.out)
           have n2_ := Aside0.mk (below_drew1 HB.out)
           clear HO_7
           clear BK274
           clear HB
           have HO_7 := n0_
           have BK274 := n1_
           have HB := n2_
           clear n0_ n1_ n2_
           obtain ⟨Ao22, co22, eo22⟩ := Kd.R_slice HO_7.out
           (first | subst eo22 | (injection eo22 with f1_ f2_ f3_; have f4_ := f1_.symm; have f5_ := f3_.symm; clear f1_ f2_ f3_; subst f4_; subst f5_))
           have p284 : 0 ≤ (0 : Int) := (by omega)
           have q284 : 0 < (t278.length : Int) := of_decide_eq_true zx20_8
           obtain ⟨ad284, e284, hx284_0⟩ := Kd.at_int (Kd.R_reads' HO_7.out).2.2 0 p284 q284
           cases e284
           have qi284 : (0 < t278.length) = True := eq_true (by omega)
           (try rw [show ((0 : Int)).toNat = 0 from rfl] at hx284_0)
           (try rw [Addr.add_zero'] at hx284_0)
           replace p284 := eq_true p284
           replace q284 := eq_true q284
           have p285 : 0 ≤ (1 : Int) := (by omega)
           have q285 : 1 < (t278.length : Int) := of_decide_eq_true zx20_8
           obtain ⟨ad285, e285, hx285_0⟩ := Kd.at_int (Kd.R_reads' HO_7.out).2.2 1 p285 q285
           obtain rfl : ad284 = ad285 := (by injection e285)
           (try simp only [show (1 : Int).toNat = 1 from rfl, Nat.reduceMul, Nat.reduceEqDiff, Go.Addr.add, ↓reduceIte] at hx285_0)
           have qi285 : (1 < t278.length) = True := eq_true (by omega)
           (try rw [show ((1 : Int)).toNat = 1 from rfl] at hx285_0)
           replace p285 := eq_true p285
           replace q285 := eq_true q285
           have p286 : 0 ≤ (2 : Int) := (by omega)
           have q286 : 2 < (t278.length : Int) := of_decide_eq_true zx20_8
           obtain ⟨ad286, e286, hx286_0⟩ := Kd.at_int (Kd.R_reads' HO_7.out).2.2 2 p286 q286
           obtain rfl : ad284 = ad286 := (by injection e286)
           (try simp only [show (2 : Int).toNat = 2 from rfl, Nat.reduceMul, Nat.reduceEqDiff, Go.Addr.add, ↓reduceIte] at hx286_0)
           have qi286 : (2 < t278.length) = True := eq_true (by omega)
           (try rw [show ((2 : Int)).toNat = 2 from rfl] at hx286_0)
           replace p286 := eq_true p286
           replace q286 := eq_true q286
           have p287 : 0 ≤ (3 : Int) := (by omega)
           have q287 : 3 < (t278.length : Int) := of_decide_eq_true zx20_8
           obtain ⟨ad287, e287, hx287_0⟩ := Kd.at_int (Kd.R_reads' HO_7.out).2.2 3 p287 q287
           obtain rfl : ad284 = ad287 := (by injection e287)
           (try simp only [show (3 : Int).toNat = 3 from rfl, Nat.reduceMul, Nat.reduceEqDiff, Go.Addr.add, ↓reduceIte] at hx287_0)
           have qi287 : (3 < t278.length) = True := eq_true (by omega)
           (try rw [show ((3 : Int)).toNat = 3 from rfl] at hx287_0)
           replace p287 := eq_true p287
           replace q287 := eq_true q287
           have p288 : 0 ≤ (4 : Int) := (by omega)
           have q288 : 4 < (t278.length : Int) := of_decide_eq_true zx20_8
           obtain ⟨ad288, e288, hx288_0⟩ := Kd.at_int (Kd.R_reads' HO_7.out).2.2 4 p288 q288
           obtain rfl : ad284 = ad288 := (by injection e288)
           (try simp only [show (4 : Int).toNat = 4 from rfl, Nat.reduceMul, Nat.reduceEqDiff, Go.Addr.add, ↓reduceIte] at hx288_0)
           have qi288 : (4 < t278.length) = True := eq_true (by omega)
           (try rw [show ((4 : Int)).toNat = 4 from rfl] at hx288_0)
           replace p288 := eq_true p288
           replace q288 := eq_true q288
           refine start_ (n := 19) (S := fun w' => w'.cell? ad284 = some (.int .u64 (rd t278 0)) ∧ w'.cell? ⟨ad284.block, ad284.off + 1, none⟩ = some (.int .u64 (rd t278 1)) ∧ w'.cell? ⟨ad284.block, ad284.off + 2, none⟩ = some (.int .u64 (rd t278 2)) ∧ w'.cell? ⟨ad284.block, ad284.off + 3, none⟩ = some (.int .u64 (rd t278 3)) ∧ w'.cell? ⟨ad284.block, ad284.off + 4, none⟩ = some (.int .u64 (rd t278 4))) (ds := []) #[false, false, false, false, false, false, false, false, false, false, false, false, false, false, false, false, false, false, false] (by kernel_rfl) rfl rfl ⟨hx284_0, hx285_0, hx286_0, hx287_0, hx288_0⟩ (fun hHeld => ?_); refine with_tabW postroomref11_dest.tab7 postroomref11_dest.bits7 (fun HT_ HW_ => ?_)
           generalize wc.drew = w21 at HO_7 BK274 HB hx284_0 hx285_0 hx286_0 hx287_0 hx288_0 hHeld ⊢
           refine pure_ (i := 0) (N := some 40) (v := ?_) (a' := ?_) #[true, false, false, false, false, false, false, false, false, false, false, false, false, false, false, false, false, false, false] rfl rfl (any_of HT_.out (by kernel_rfl)) (fun _ _ _ h => h) (Or.inl ⟨by rfl, ?_⟩) ?_ ?_
           rotate_left
           ·intro w'
            go_simp
            with_reducible rfl
           rotate_left
           ·simp only [Act.put, List.setIfInBounds_toArray, List.set_cons_zero, List.set_cons_succ, i64_w, i32_w]
            rfl
           refine pure_ (i := 1) (N := some 41) (v := ?_) (a' := ?_) #[true, true, false, false, false, false, false, false, false, false, false, false, false, false, false, false, false, false, false] rfl rfl (any_of HT_.out (by kernel_rfl)) (fun _ _ _ h => h) (Or.inl ⟨by rfl, ?_⟩) ?_ ?_
           rotate_left
           ·intro w'
            go_simp
            with_reducible rfl
           rotate_left
           ·simp only [Act.put, List.setIfInBounds_toArray, List.set_cons_zero, List.set_cons_succ, i64_w, i32_w]
            rfl
           refine pure_ (i := 2) (N := some 42) (v := ?_) (a' := ?_) #[true, true, true, false, false, false, false, false, false, false, false, false, false, false, false, false, false, false, false] rfl rfl (any_of HT_.out (by kernel_rfl)) (fun _ _ _ h => h) (Or.inl ⟨by rfl, ?_⟩) ?_ ?_
           rotate_left
           ·intro w'
            go_simp
            with_reducible rfl
           rotate_left
           ·simp only [Act.put, List.setIfInBounds_toArray, List.set_cons_zero, List.set_cons_succ, i64_w, i32_w]
            rfl
           refine pure_ (i := 4) (N := some 44) (v := ?_) (a' := ?_) #[true, true, true, false, true, false, false, false, false, false, false, false, false, false, false, false, false, false, false] rfl rfl (any_of HT_.out (by kernel_rfl)) (fun _ _ _ h => h) (Or.inl ⟨by rfl, ?_⟩) ?_ ?_
           rotate_left
           ·intro w'
            go_simp
            with_reducible rfl
           rotate_left
           ·simp only [Act.put, List.setIfInBounds_toArray, List.set_cons_zero, List.set_cons_succ, i64_w, i32_w]
            rfl
           refine pure_ (i := 5) (N := some 45) (v := ?_) (a' := ?_) #[true, true, true, false, true, true, false, false, false, false, false, false, false, false, false, false, false, false, false] rfl rfl (any_of HT_.out (by kernel_rfl)) (fun _ _ _ h => h) (Or.inl ⟨by rfl, ?_⟩) ?_ ?_
           rotate_left
           ·intro w'
            go_simp
            with_reducible rfl
           rotate_left
           ·simp only [Act.put, List.setIfInBounds_toArray, List.set_cons_zero, List.set_cons_succ, i64_w, i32_w]
            rfl
           refine pure_ (i := 7) (N := some 47) (v := ?_) (a' := ?_) #[true, true, true, false, true, true, false, true, false, false, false, false, false, false, false, false, false, false, false] rfl rfl (any_of HT_.out (by kernel_rfl)) (fun _ _ _ h => h) (Or.inl ⟨by rfl, ?_⟩) ?_ ?_
           rotate_left
           ·intro w'
            go_simp
            with_reducible rfl
           rotate_left
           ·simp only [Act.put, List.setIfInBounds_toArray, List.set_cons_zero, List.set_cons_succ, i64_w, i32_w]
            rfl
           refine pure_ (i := 8) (N := some 48) (v := ?_) (a' := ?_) #[true, true, true, false, true, true, false, true, true, false, false, false, false, false, false, false, false, false, false] rfl rfl (any_of HT_.out (by kernel_rfl)) (fun _ _ _ h => h) (Or.inl ⟨by rfl, ?_⟩) ?_ ?_
           rotate_left
           ·intro w'
            go_simp
            with_reducible rfl
           rotate_left
           ·simp only [Act.put, List.setIfInBounds_toArray, List.set_cons_zero, List.set_cons_succ, i64_w, i32_w]
            rfl
           refine pure_ (i := 10) (N := some 50) (v := ?_) (a' := ?_) #[true, true, true, false, true, true, false, true, true, false, true, false, false, false, false, false, false, false, false] rfl rfl (any_of HT_.out (by kernel_rfl)) (fun _ _ _ h => h) (Or.inl ⟨by rfl, ?_⟩) ?_ ?_
           rotate_left
           ·intro w'
            go_simp
            with_reducible rfl
           rotate_left
           ·simp only [Act.put, List.setIfInBounds_toArray, List.set_cons_zero, List.set_cons_succ, i64_w, i32_w]
            rfl
           refine pure_ (i := 11) (N := some 51) (v := ?_) (a' := ?_) #[true, true, true, false, true, true, false, true, true, false, true, true, false, false, false, false, false, false, false] rfl rfl (any_of HT_.out (by kernel_rfl)) (fun _ _ _ h => h) (Or.inl ⟨by rfl, ?_⟩) ?_ ?_
           rotate_left
           ·intro w'
            go_simp
            with_reducible rfl
           rotate_left
           ·simp only [Act.put, List.setIfInBounds_toArray, List.set_cons_zero, List.set_cons_succ, i64_w, i32_w]
            rfl
           refine pure_ (i := 13) (N := some 53) (v := ?_) (a' := ?_) #[true, true, true, false, true, true, false, true, true, false, true, true, false, true, false, false, false, false, false] rfl rfl (any_of HT_.out (by kernel_rfl)) (fun _ _ _ h => h) (Or.inl ⟨by rfl, ?_⟩) ?_ ?_
           rotate_left
           ·intro w'
            go_simp
            with_reducible rfl
           rotate_left
           ·simp only [Act.put, List.setIfInBounds_toArray, List.set_cons_zero, List.set_cons_succ, i64_w, i32_w]
            rfl
           refine pure_ (i := 14) (N := some 54) (v := ?_) (a' := ?_) #[true, true, true, false, true, true, false, true, true, false, true, true, false, true, true, false, false, false, false] rfl rfl (any_of HT_.out (by kernel_rfl)) (fun _ _ _ h => h) (Or.inl ⟨by rfl, ?_⟩) ?_ ?_
           rotate_left
           ·intro w'
            go_simp
            with_reducible rfl
           rotate_left
           ·simp only [Act.put, List.setIfInBounds_toArray, List.set_cons_zero, List.set_cons_succ, i64_w, i32_w]
            rfl
           refine take_ (i := 3) (N := some 43) (v := ?_) (a' := ?_) #[true, true, true, true, true, true, false, true, true, false, true, true, false, true, true, false, false, false, false] rfl rfl (take_ofW HT_.out HW_.out (by kernel_rfl)) (fun _ _ _ h => h) (Or.inl ⟨by rfl, ?_⟩) hHeld ?_ ?_
           rotate_left
           ·rintro w' ⟨s0, s1, s2, s3, s4⟩
            go_simp
            with_reducible rfl
           rotate_left
           ·simp only [Act.put, List.setIfInBounds_toArray, List.set_cons_zero, List.set_cons_succ, i64_w, i32_w]
            rfl
           refine take_ (i := 6) (N := some 46) (v := ?_) (a' := ?_) #[true, true, true, true, true, true, true, true, true, false, true, true, false, true, true, false, false, false, false] rfl rfl (take_ofW HT_.out HW_.out (by kernel_rfl)) (fun _ _ _ h => h) (Or.inl ⟨by rfl, ?_⟩) hHeld ?_ ?_
           rotate_left
           ·rintro w' ⟨s0, s1, s2, s3, s4⟩
            go_simp
            with_reducible rfl
           rotate_left
           ·simp only [Act.put, List.setIfInBounds_toArray, List.set_cons_zero, List.set_cons_succ, i64_w, i32_w]
            rfl
           refine take_ (i := 9) (N := some 49) (v := ?_) (a' := ?_) #[true, true, true, true, true, true, true, true, true, true, true, true, false, true, true, false, false, false, false] rfl rfl (take_ofW HT_.out HW_.out (by kernel_rfl)) (fun _ _ _ h => h) (Or.inl ⟨by rfl, ?_⟩) hHeld ?_ ?_
           rotate_left
           ·rintro w' ⟨s0, s1, s2, s3, s4⟩
            go_simp
            with_reducible rfl
           rotate_left
           ·simp only [Act.put, List.setIfInBounds_toArray, List.set_cons_zero, List.set_cons_succ, i64_w, i32_w]
            rfl
           refine take_ (i := 12) (N := some 52) (v := ?_) (a' := ?_) #[true, true, true, true, true, true, true, true, true, true, true, true, true, true, true, false, false, false, false] rfl rfl (take_ofW HT_.out HW_.out (by kernel_rfl)) (fun _ _ _ h => h) (Or.inl ⟨by rfl, ?_⟩) hHeld ?_ ?_
           rotate_left
           ·rintro w' ⟨s0, s1, s2, s3, s4⟩
            go_simp
            with_reducible rfl
           rotate_left
           ·simp only [Act.put, List.setIfInBounds_toArray, List.set_cons_zero, List.set_cons_succ, i64_w, i32_w]
            rfl
           refine take_ (i := 15) (N := some 55) (v := ?_) (a' := ?_) #[true, true, true, true, true, true, true, true, true, true, true, true, true, true, true, true, false, false, false] rfl rfl (take_ofW HT_.out HW_.out (by kernel_rfl)) (fun _ _ _ h => h) (Or.inl ⟨by rfl, ?_⟩) hHeld ?_ ?_
           rotate_left
           ·rintro w' ⟨s0, s1, s2, s3, s4⟩
            go_simp
            with_reducible rfl
           rotate_left
           ·simp only [Act.put, List.setIfInBounds_toArray, List.set_cons_zero, List.set_cons_succ, i64_w, i32_w]
            rfl
           refine pure_ (i := 16) (N := some 56) (v := ?_) (a' := ?_) #[true, true, true, true, true, true, true, true, true, true, true, true, true, true, true, true, true, false, false] rfl rfl (any_of HT_.out (by kernel_rfl)) (fun _ _ _ h => h) (Or.inl ⟨by rfl, ?_⟩) ?_ ?_
           rotate_left
           ·intro w'
            go_simp
            with_reducible rfl
           rotate_left
           ·simp only [Act.put, List.setIfInBounds_toArray, List.set_cons_zero, List.set_cons_succ, i64_w, i32_w]
            rfl
           refine one_ (i := 17) (N := some 9) #[true, true, true, true, true, true, true, true, true, true, true, true, true, true, true, true, true, true, false] rfl rfl (one_of HT_.out (by kernel_rfl)) (by decide) (fun K hK => ?_)
           refine box_step ?hg (N := 9) ?hd (cs := #[.string (⟨#[]⟩ : ByteArray), .int .u64 0, .int .u64 0, .slice none 0 0, .int .u64 0, .int .u64 0, .int .u64 0]) (t := 57) ?hr ?_; (case hd => rfl); (case hg => rfl); (case hr => first | (go_simp; done) | (go_simp; rfl))
           intro gb289 hg w23 hbox hb
           have HS0_ := (hb.cell (World.block_lt_of_cell? _ _ (hHeld.1))).trans (hHeld.1)
           have HS1_ := (hb.cell (World.block_lt_of_cell? _ _ (hHeld.2.1))).trans (hHeld.2.1)
           have HS2_ := (hb.cell (World.block_lt_of_cell? _ _ (hHeld.2.2.1))).trans (hHeld.2.2.1)
           have HS3_ := (hb.cell (World.block_lt_of_cell? _ _ (hHeld.2.2.2.1))).trans (hHeld.2.2.2.1)
           have HS4_ := (hb.cell (World.block_lt_of_cell? _ _ (hHeld.2.2.2.2))).trans (hHeld.2.2.2.2)
           have n0_ := Aside0.mk (Kd.R_below (by (with_reducible repeat (first | apply Kd.R_alloc | apply Kd.R_drewN | apply Kd.R_drew)); exact HO_7.out) hb)
           have n1_ := Aside0.mk (blk_below (g := gb274) (o := .cells #[.string (⟨#[]⟩ : ByteArray), .int .u64 0, .int .u64 0, .slice none 0 0, .int .u64 0, .int .u64 0, .int .u64 0] 57 (0, 0)) zx20_4 hb)
           have n2_ := Aside0.mk (below_step zx20_2 hb)
           have n3_ := Aside0.mk (hbox)
           have n4_ := Aside0.mk ((by rw [hg]; exact (below_size zx20_2) : w.heap.size ≤ gb289))
           have n5_ := Aside0.mk ((by rw [hg]; exact (below_size zx20_2) : w.heap.size ≤ gb289))
           have n6_ := Aside0.mk ((by rw [hg]; exact Nat.ne_of_lt (blk_lt (g := gb274) (o := .cells #[.string (⟨#[]⟩ : ByteArray), .int .u64 0, .int .u64 0, .slice none 0 0, .int .u64 0, .int .u64 0, .int .u64 0] 57 (0, 0)) zx20_4) : gb274 ≠ gb289))
           have n7_ := Aside0.mk ((by rw [hg]; exact Nat.ne_of_gt (blk_lt (g := gb274) (o := .cells #[.string (⟨#[]⟩ : ByteArray), .int .u64 0, .int .u64 0, .slice none 0 0, .int .u64 0, .int .u64 0, .int .u64 0] 57 (0, 0)) zx20_4) : gb289 ≠ gb274))
           clear HO_7
           clear BK274
           clear HB
           have HO_7 := n0_
           have BK274 := n1_
           have HB := n2_
           have BK289 := n3_
           have GW289 := n4_
           have GE289 := n5_
           have NB274_289 := n6_
           have NB289_274 := n7_
           clear n0_ n1_ n2_ n3_ n4_ n5_ n6_ n7_
           clear hb hbox hg
           refine hK.out _ _ ⟨HS0_, HS1_, HS2_, HS3_, HS4_⟩ (fun hHeld => ?_)
           clear hK K
           refine norm_ (a' := ?_) ?_ ?_
           rotate_left
           ·show Act.put _ (some 9) _ = _
            simp only [Act.put, List.setIfInBounds_toArray, List.set_cons_zero, List.set_cons_succ, i64_w, i32_w]
            rfl
           refine one_ (i := 18) (N := none) #[true, true, true, true, true, true, true, true, true, true, true, true, true, true, true, true, true, true, true] rfl rfl (one_of HT_.out (by kernel_rfl)) (by decide) (fun K hK => ?_)
           have hs24 : w23.cell? ⟨gb289, 0, none⟩ = some (.string (⟨#[]⟩ : ByteArray)) := (blk_cell BK289.out 0).trans rfl
           have hfs24 := blk_frozen BK289.out 0
           have hns24_0 := NB274_289.out
           have hms24_0 := NB289_274.out
           have hs25 : w23.cell? ⟨gb289, 1, none⟩ = some (.int .u64 0) := (blk_cell BK289.out 1).trans rfl
           have hfs25 := blk_frozen BK289.out 1
           have hns25_0 := NB274_289.out
           have hms25_0 := NB289_274.out
           have hs26 : w23.cell? ⟨gb289, 2, none⟩ = some (.int .u64 0) := (blk_cell BK289.out 2).trans rfl
           have hfs26 := blk_frozen BK289.out 2
           have hns26_0 := NB274_289.out
           have hms26_0 := NB289_274.out
           have hs27 : w23.cell? ⟨gb289, 3, none⟩ = some (.slice none 0 0) := (blk_cell BK289.out 3).trans rfl
           have hfs27 := blk_frozen BK289.out 3
           have hns27_0 := NB274_289.out
           have hms27_0 := NB289_274.out
           have hs28 : w23.cell? ⟨gb289, 4, none⟩ = some (.int .u64 0) := (blk_cell BK289.out 4).trans rfl
           have hfs28 := blk_frozen BK289.out 4
           have hns28_0 := NB274_289.out
           have hms28_0 := NB289_274.out
           have hs29 : w23.cell? ⟨gb289, 5, none⟩ = some (.int .u64 0) := (blk_cell BK289.out 5).trans rfl
           have hfs29 := blk_frozen BK289.out 5
           have hns29_0 := NB274_289.out
           have hms29_0 := NB289_274.out
           have hs30 : w23.cell? ⟨gb289, 6, none⟩ = some (.int .u64 0) := (blk_cell BK289.out 6).trans rfl
           have hfs30 := blk_frozen BK289.out 6
           have hns30_0 := NB274_289.out
           have hms30_0 := NB289_274.out
           refine skip_ (w1 := ?_) (by rfl) rfl ?_ ?_
           rotate_left
           ·go_simp
            rfl
           refine hK.out _ _ ⟨((cell_far (p := ⟨gb289, _, none⟩) zx20_0 _).trans (((cell_far (p := ⟨gb289, _, none⟩) zx20_0 _).trans (((cell_far (p := ⟨gb289, _, none⟩) zx20_0 _).trans (((cell_far (p := ⟨gb289, _, none⟩) zx20_0 _).trans (((cell_far (p := ⟨gb289, _, none⟩) zx20_0 _).trans (((cell_far (p := ⟨gb289, _, none⟩) zx20_0 _).trans (((cell_far (p := ⟨gb289, _, none⟩) zx20_0 _).trans (hHeld.1)))))))))))))), ((cell_far (p := ⟨gb289, _, none⟩) zx20_0 _).trans (((cell_far (p := ⟨gb289, _, none⟩) zx20_0 _).trans (((cell_far (p := ⟨gb289, _, none⟩) zx20_0 _).trans (((cell_far (p := ⟨gb289, _, none⟩) zx20_0 _).trans (((cell_far (p := ⟨gb289, _, none⟩) zx20_0 _).trans (((cell_far (p := ⟨gb289, _, none⟩) zx20_0 _).trans (((cell_far (p := ⟨gb289, _, none⟩) zx20_0 _).trans (hHeld.2.1)))))))))))))), ((cell_far (p := ⟨gb289, _, none⟩) zx20_0 _).trans (((cell_far (p := ⟨gb289, _, none⟩) zx20_0 _).trans (((cell_far (p := ⟨gb289, _, none⟩) zx20_0 _).trans (((cell_far (p := ⟨gb289, _, none⟩) zx20_0 _).trans (((cell_far (p := ⟨gb289, _, none⟩) zx20_0 _).trans (((cell_far (p := ⟨gb289, _, none⟩) zx20_0 _).trans (((cell_far (p := ⟨gb289, _, none⟩) zx20_0 _).trans (hHeld.2.2.1)))))))))))))), ((cell_far (p := ⟨gb289, _, none⟩) zx20_0 _).trans (((cell_far (p := ⟨gb289, _, none⟩) zx20_0 _).trans (((cell_far (p := ⟨gb289, _, none⟩) zx20_0 _).trans (((cell_far (p := ⟨gb289, _, none⟩) zx20_0 _).trans (((cell_far (p := ⟨gb289, _, none⟩) zx20_0 _).trans (((cell_far (p := ⟨gb289, _, none⟩) zx20_0 _).trans (((cell_far (p := ⟨gb289, _, none⟩) zx20_0 _).trans (hHeld.2.2.2.1)))))))))))))), ((cell_far (p := ⟨gb289, _, none⟩) zx20_0 _).trans (((cell_far (p := ⟨gb289, _, none⟩) zx20_0 _).trans (((cell_far (p := ⟨gb289, _, none⟩) zx20_0 _).trans (((cell_far (p := ⟨gb289, _, none⟩) zx20_0 _).trans (((cell_far (p := ⟨gb289, _, none⟩) zx20_0 _).trans (((cell_far (p := ⟨gb289, _, none⟩) zx20_0 _).trans (((cell_far (p := ⟨gb289, _, none⟩) zx20_0 _).trans (hHeld.2.2.2.2))))))))))))))⟩ (fun hHeld => ?_)
           clear hK K
           refine done_ (done_of HT_.out (by kernel_rfl)) ?_
           have p290 : 0 ≤ (5 : Int) := (by omega)
           have q290 : 5 < (t278.length : Int) := of_decide_eq_true zx20_8
           obtain ⟨ad290, e290, hx290_0⟩ := Kd.at_int (Kd.R_reads' HO_7.out).2.2 5 p290 q290
           obtain rfl : ad284 = ad290 := (by injection e290)
           (try simp only [show (5 : Int).toNat = 5 from rfl, Nat.reduceMul, Nat.reduceEqDiff, Go.Addr.add, ↓reduceIte] at hx290_0)
           have qi290 : (5 < t278.length) = True := eq_true (by omega)
           (try rw [show ((5 : Int)).toNat = 5 from rfl] at hx290_0)
           have hn290_0 : ad284.block ≠ gb289 := Kd.own_blk (Kd.R_ne HO_7.out BK289.out (by decide))
           have hn290_1 : ad284.block ≠ gb289 := Kd.own_blk (Kd.R_ne HO_7.out BK289.out (by decide))
           have hn290_2 : ad284.block ≠ gb289 := Kd.own_blk (Kd.R_ne HO_7.out BK289.out (by decide))
           have hn290_3 : ad284.block ≠ gb289 := Kd.own_blk (Kd.R_ne HO_7.out BK289.out (by decide))
           have hn290_4 : ad284.block ≠ gb289 := Kd.own_blk (Kd.R_ne HO_7.out BK289.out (by decide))
           have hn290_5 : ad284.block ≠ gb289 := Kd.own_blk (Kd.R_ne HO_7.out BK289.out (by decide))
           have hn290_6 : ad284.block ≠ gb289 := Kd.own_blk (Kd.R_ne HO_7.out BK289.out (by decide))
           replace hx290_0 := (cell_far (p := ⟨gb289, 0, none⟩) (by first | (rw [add_block]; exact hn290_0) | (show (Addr.add _ _).block ≠ _; rw [add_block]; exact hn290_0) | exact hn290_0) (.string t275)).trans hx290_0
           replace hx290_0 := (cell_far (p := ⟨gb289, 1, none⟩) (by first | (rw [add_block]; exact hn290_1) | (show (Addr.add _ _).block ≠ _; rw [add_block]; exact hn290_1) | exact hn290_1) (.int .u64 (rd t278 0))).trans hx290_0
           replace hx290_0 := (cell_far (p := ⟨gb289, 2, none⟩) (by first | (rw [add_block]; exact hn290_2) | (show (Addr.add _ _).block ≠ _; rw [add_block]; exact hn290_2) | exact hn290_2) (.int .u64 (rd t278 1))).trans hx290_0
           replace hx290_0 := (cell_far (p := ⟨gb289, 3, none⟩) (by first | (rw [add_block]; exact hn290_3) | (show (Addr.add _ _).block ≠ _; rw [add_block]; exact hn290_3) | exact hn290_3) (.slice none 0 0)).trans hx290_0
           replace hx290_0 := (cell_far (p := ⟨gb289, 4, none⟩) (by first | (rw [add_block]; exact hn290_4) | (show (Addr.add _ _).block ≠ _; rw [add_block]; exact hn290_4) | exact hn290_4) (.int .u64 (rd t278 2))).trans hx290_0
           replace hx290_0 := (cell_far (p := ⟨gb289, 5, none⟩) (by first | (rw [add_block]; exact hn290_5) | (show (Addr.add _ _).block ≠ _; rw [add_block]; exact hn290_5) | exact hn290_5) (.int .u64 (rd t278 3))).trans hx290_0
           replace hx290_0 := (cell_far (p := ⟨gb289, 6, none⟩) (by first | (rw [add_block]; exact hn290_6) | (show (Addr.add _ _).block ≠ _; rw [add_block]; exact hn290_6) | exact hn290_6) (.int .u64 (rd t278 4))).trans hx290_0
           clear hn290_0
           clear hn290_1
           clear hn290_2
           clear hn290_3
           clear hn290_4
           clear hn290_5
           clear hn290_6
           replace p290 := eq_true p290
           replace q290 := eq_true q290
           try go_wp2_with (first | ((with_reducible refine gate_callee (f := 29) rfl ?_); refine goesL_ (some 63) rfl rfl Tryd.func29 (by kernel_rfl) rfl #[.string t279, .int .i64 (wrap64 (rd t278 5))] rfl zx20_7 ?_; (with_reducible refine (postroomref11_row.calls kj4 t279 (wrap64 (rd t278 5)) t291 t292 t293 _ A20.out).mono ?_); rintro e w31 ⟨v294, rfl, ho0, hb⟩; refine ⟨_, rfl, ?_⟩; have n0_ := Aside0.mk (Kd.R_elder' zx20_3 (Kd.R_base ho0) hb); have n1_ := Aside0.mk (Kd.R_lower (Kd.R_new' ho0 (Kd.R_lt zx20_3)) (below_size zx20_6)); have n2_ := Aside0.mk (blk_below (g := gb274) (o := .cells #[.string (⟨#[]⟩ : ByteArray), .int .u64 0, .int .u64 0, .slice none 0 0, .int .u64 0, .int .u64 0, .int .u64 0] 57 (0, 0)) (by (with_reducible repeat (first | refine blk_drewN ?_ _ | refine blk_drew ?_ | refine blk_alloc ?_ _)); refine blk_far ?_ NB274_289.out _; (with_reducible repeat (first | refine blk_drewN ?_ _ | refine blk_drew ?_ | refine blk_alloc ?_ _)); refine blk_far ?_ NB274_289.out _; (with_reducible repeat (first | refine blk_drewN ?_ _ | refine blk_drew ?_ | refine blk_alloc ?_ _)); refine blk_far ?_ NB274_289.out _; (with_reducible repeat (first | refine blk_drewN ?_ _ | refine blk_drew ?_ | refine blk_alloc ?_ _)); refine blk_far ?_ NB274_289.out _; (with_reducible repeat (first | refine blk_drewN ?_ _ | refine blk_drew ?_ | refine blk_alloc ?_ _)); refine blk_far ?_ NB274_289.out _; (with_reducible repeat (first | refine blk_drewN ?_ _ | refine blk_drew ?_ | refine blk_alloc ?_ _)); refine blk_far ?_ NB274_289.out _; (with_reducible repeat (first | refine blk_drewN ?_ _ | refine blk_drew ?_ | refine blk_alloc ?_ _)); refine blk_far ?_ NB274_289.out _; (with_reducible repeat (first | refine blk_drewN ?_ _ | refine blk_drew ?_ | refine blk_alloc ?_ _)); exact BK274.out) hb); have n3_ := Aside0.mk (blk_below (g := gb289) (o := .cells #[.string t275, .int .u64 (rd t278 0), .int .u64 (rd t278 1), .slice none 0 0, .int .u64 (rd t278 2), .int .u64 (rd t278 3), .int .u64 (rd t278 4)] 57 (0, 0)) (by (with_reducible repeat (first | refine blk_drewN ?_ _ | refine blk_drew ?_ | refine blk_alloc ?_ _)); refine blk_put (cs := #[.string t275, .int .u64 (rd t278 0), .int .u64 (rd t278 1), .slice none 0 0, .int .u64 (rd t278 2), .int .u64 (rd t278 3), .int .u64 0]) ?_ 6 _ rfl; (with_reducible repeat (first | refine blk_drewN ?_ _ | refine blk_drew ?_ | refine blk_alloc ?_ _)); refine blk_put (cs := #[.string t275, .int .u64 (rd t278 0), .int .u64 (rd t278 1), .slice none 0 0, .int .u64 (rd t278 2), .int .u64 0, .int .u64 0]) ?_ 5 _ rfl; (with_reducible repeat (first | refine blk_drewN ?_ _ | refine blk_drew ?_ | refine blk_alloc ?_ _)); refine blk_put (cs := #[.string t275, .int .u64 (rd t278 0), .int .u64 (rd t278 1), .slice none 0 0, .int .u64 0, .int .u64 0, .int .u64 0]) ?_ 4 _ rfl; (with_reducible repeat (first | refine blk_drewN ?_ _ | refine blk_drew ?_ | refine blk_alloc ?_ _)); refine blk_put (cs := #[.string t275, .int .u64 (rd t278 0), .int .u64 (rd t278 1), .slice none 0 0, .int .u64 0, .int .u64 0, .int .u64 0]) ?_ 3 _ rfl; (with_reducible repeat (first | refine blk_drewN ?_ _ | refine blk_drew ?_ | refine blk_alloc ?_ _)); refine blk_put (cs := #[.string t275, .int .u64 (rd t278 0), .int .u64 0, .slice none 0 0, .int .u64 0, .int .u64 0, .int .u64 0]) ?_ 2 _ rfl; (with_reducible repeat (first | refine blk_drewN ?_ _ | refine blk_drew ?_ | refine blk_alloc ?_ _)); refine blk_put (cs := #[.string t275, .int .u64 0, .int .u64 0, .slice none 0 0, .int .u64 0, .int .u64 0, .int .u64 0]) ?_ 1 _ rfl; (with_reducible repeat (first | refine blk_drewN ?_ _ | refine blk_drew ?_ | refine blk_alloc ?_ _)); refine blk_put (cs := #[.string (⟨#[]⟩ : ByteArray), .int .u64 0, .int .u64 0, .slice none 0 0, .int .u64 0, .int .u64 0, .int .u64 0]) ?_ 0 _ rfl; (with_reducible repeat (first | refine blk_drewN ?_ _ | refine blk_drew ?_ | refine blk_alloc ?_ _)); exact BK289.out) hb); have n4_ := Aside0.mk (below_step zx20_6 hb); clear HO_7; clear BK274; clear BK289; clear HB; have HO_7 := n0_; have HO295 := n1_; have BK274 := n2_; have BK289 := n3_; have HB := n4_; clear n0_ n1_ n2_ n3_ n4_; (try clear hb); (try clear hb2); (try clear hk); (try clear hi); (try clear ho0); have hnb32 := NB289_274.out; have hnc32 := NB274_289.out; have hcz33_0 : w31.cell? ⟨gb289, 0, none⟩ = some (.string t275) := (blk_cell BK289.out 0).trans rfl; have hcz33_1 : w31.cell? ⟨gb289, 1, none⟩ = some (.int .u64 (rd t278 0)) := (blk_cell BK289.out 1).trans rfl; have hcz33_2 : w31.cell? ⟨gb289, 2, none⟩ = some (.int .u64 (rd t278 1)) := (blk_cell BK289.out 2).trans rfl; have hcz33_3 : w31.cell? ⟨gb289, 3, none⟩ = some (.slice none 0 0) := (blk_cell BK289.out 3).trans rfl; have hcz33_4 : w31.cell? ⟨gb289, 4, none⟩ = some (.int .u64 (rd t278 2)) := (blk_cell BK289.out 4).trans rfl; have hcz33_5 : w31.cell? ⟨gb289, 5, none⟩ = some (.int .u64 (rd t278 3)) := (blk_cell BK289.out 5).trans rfl; have hcz33_6 : w31.cell? ⟨gb289, 6, none⟩ = some (.int .u64 (rd t278 4)) := (blk_cell BK289.out 6).trans rfl; have hfz33_0 := blk_frozen BK289.out 0; have hfz33_1 := blk_frozen BK289.out 1; have hfz33_2 := blk_frozen BK289.out 2; have hfz33_3 := blk_frozen BK289.out 3; have hfz33_4 := blk_frozen BK289.out 4; have hfz33_5 := blk_frozen BK289.out 5; have hfz33_6 := blk_frozen BK289.out 6))
           go_loopg [11, 12] kj4 (fun kq v11 v12 w' => ∃ (x11_2 : Int) (x12_2 : Int) (x290003_2 : List Int) (u290003 : Value), v11 = .int .u64 x11_2 ∧ v12 = .int .i64 x12_2 ∧ Aside0 (postroomref11_dest.l0 kq t292 t293 t291 x11_2 x12_2 t275 (rd t278 0) (rd t278 1) x290003_2 (rd t278 2) (rd t278 3) (rd t278 4) = some (r1, r2, r3, r4, r5, r6, r7, r8, r9)) ∧ Aside0 (kq ≤ kj4) ∧ Aside0 (Kd.R (Kd.int .u64) 22 w' w.heap.size (fun k_ => some k_ ≠ (u290003 : Value).ownBlock) v294 t291) ∧ Aside0 (Kd.R (Kd.int .u64) 22 w' w.heap.size (fun k_ => some k_ ≠ (v294 : Value).ownBlock) u290003 x290003_2) ∧ Aside0 (w'.heap[gb274]? = some (.cells #[.string (⟨#[]⟩ : ByteArray), .int .u64 0, .int .u64 0, (.slice none 0 0), .int .u64 0, .int .u64 0, .int .u64 0] 57 (0, 0))) ∧ Aside0 (w'.heap[gb289]? = some (.cells #[.string t275, .int .u64 (rd t278 0), .int .u64 (rd t278 1), u290003, .int .u64 (rd t278 2), .int .u64 (rd t278 3), .int .u64 (rd t278 4)] 57 (0, 0))) ∧ Aside0 (Below w.heap.size w w'))
           case atStart => exact ⟨(rd t278 1), (0), (([] : List Int)), (.slice none 0 0), (by first | rfl | (simp; done) | (simp [*]; done)), (by first | rfl | (simp; done) | (simp [*]; done)), H', ⟨Nat.le_refl _⟩, ⟨by (with_reducible repeat (first | apply Kd.R_alloc | apply Kd.R_drewN | apply Kd.R_drew)); exact Kd.R_mono HO295.out (fun _ hk => (by simp [Value.ownBlock]))⟩, ⟨by first | exact Kd.R_nil _ _ _ _ _ | exact Kd.N_nil _ _ _ _ _ | exact Kd.V_nil _ _ _ _ _ | exact Kd.Q_nil _ _ _ _ _ | exact Kd.S_nil _ _ _ _ _⟩, ⟨by (with_reducible repeat (first | refine blk_drewN ?_ _ | refine blk_drew ?_ | refine blk_alloc ?_ _)); exact BK274.out⟩, ⟨by (with_reducible repeat (first | refine blk_drewN ?_ _ | refine blk_drew ?_ | refine blk_alloc ?_ _)); exact BK289.out⟩, ⟨by repeat (first | (with_reducible first | exact HB.out | apply below_alloc | apply pw_below_drewN | apply below_drew1 | refine below_set ?_ GE274.out | refine below_set ?_ GE289.out) | exact HB.out)⟩⟩
           case round =>
            clear H'
            (try clear c1); (try clear c2); (try clear p2); (try clear q2); (try clear hx2); (try clear qi2); (try clear c3); (try clear c3b0); (try clear c3b1); (try clear c4); (try clear p6); (try clear c9); (try clear c10); (try clear c10b0); (try clear c10b1); (try clear c12); (try clear c14); (try clear c14b0); (try clear c14b1); (try clear c15); (try clear c15b0); (try clear c15b1); (try clear c16); (try clear c16b0); (try clear c16b1); (try clear c17); (try clear c17b0); (try clear c17b1); (try clear c18); (try clear c18b0); (try clear c18b1); (try clear c19); (try clear c19b0); (try clear c19b1); (try clear p28); (try clear q28); (try clear hx28); (try clear qi28); (try clear c29); (try clear p29); (try clear q29); (try clear hx29); (try clear qi29); (try clear c30); (try clear c32); (try clear hcz13_0); (try clear hcz13_1); (try clear hcz13_2); (try clear hcz13_3); (try clear hcz13_4); (try clear hcz13_5); (try clear hcz13_6); (try clear hcz33_0); (try clear hcz33_1); (try clear hcz33_2); (try clear hcz33_3); (try clear hcz33_4); (try clear hcz33_5); (try clear hcz33_6); (try clear hfz13_0); (try clear hfz13_1); (try clear hfz13_2); (try clear hfz13_3); (try clear hfz13_4); (try clear hfz13_5); (try clear hfz13_6); (try clear hfz33_0); (try clear hfz33_1); (try clear hfz33_2); (try clear hfz33_3); (try clear hfz33_4); (try clear hfz33_5); (try clear hfz33_6); (try clear hx283_0); (try clear hx284_0); (try clear hx285_0); (try clear hx286_0); (try clear hx287_0); (try clear hx288_0); (try clear hx290_0); (try clear p2); (try clear p283); (try clear p284); (try clear p285); (try clear p286); (try clear p287); (try clear p288); (try clear p290); (try clear q2); (try clear q283); (try clear q284); (try clear q285); (try clear q286); (try clear q287); (try clear q288); (try clear q290)
            obtain ⟨x11_2, x12_2, x290003_2, u290003, rfl, rfl, HA, HK2, HO_10, HO_290003, BK274, BK289, HB⟩ := hrel
            cases gk with
            | zero => exact absurd HA.out (by simp [postroomref11_dest.l0])
            | succ k2 =>
             have H := HA.out
             clear HA
             simp only [postroomref11_dest.l0] at H
             by_cases c34 : t293 = true
             ·subst c34
              have H1 : (if x12_2 < (t291.length : Int) then (if 0 ≤ x12_2 then (if x290003_2.length < 17592186044416 then (postroomref11_dest.l0 k2 t292 true t291 (IntKind.u64.wrap (x11_2 + (rd t291 x12_2))) (wrap64 (x12_2 + 1)) t275 (rd t278 0) (rd t278 1) (x290003_2 ++ [IntKind.u64.wrap (x11_2 + (rd t291 x12_2))]) (rd t278 2) (rd t278 3) (rd t278 4)) else (none)) else (none)) else (some (t275, (rd t278 0), (rd t278 1), x290003_2, (rd t278 2), (rd t278 3), (rd t278 4), t292, true))) = some (r1, r2, r3, r4, r5, r6, r7, r8, r9) := by rw [if_pos rfl] at H; exact H
              clear H
              have H := H1
              clear H1
              by_cases c35 : x12_2 < (t291.length : Int)
              ·rw [if_pos c35] at H
               have c35b0 : decide (x12_2 < (t291.length : Int)) = true := decide_eq_true c35
               clear c35
               by_cases c36 : 0 ≤ x12_2
               ·rw [if_pos c36] at H
                have c36b0 : decide (0 ≤ x12_2) = true := decide_eq_true c36
                clear c36
                by_cases c37 : x290003_2.length < 17592186044416
                ·rw [if_pos c37] at H
                 have LMc37 := Aside0.mk c37
                 clear c37
                 obtain ⟨y297, hy297⟩ : ∃ y_ : List Int, y_ = (x290003_2 ++ [IntKind.u64.wrap (x11_2 + (rd t291 x12_2))]) := ⟨_, rfl⟩
                 replace H : (postroomref11_dest.l0 k2 t292 true t291 (IntKind.u64.wrap (x11_2 + (rd t291 x12_2))) (wrap64 (x12_2 + 1)) t275 (rd t278 0) (rd t278 1) y297 (rd t278 2) (rd t278 3) (rd t278 4)) = some (r1, r2, r3, r4, r5, r6, r7, r8, r9) := by first | (rw [hy297]; with_reducible exact H) | (have H2_ := (Option.bind_some _ _).symm.trans H; rw [hy297]; with_reducible exact H2_) | (have H2_ := (Option.bind_some _ _).symm.trans H; with_reducible exact H2_) | with_reducible exact H | (rw [hy297]; exact H) | exact H
                 have Ny297 := Aside0.mk hy297
                 clear hy297
                 have H' := Aside0.mk H
                 clear H
                 obtain ⟨Ao38, co38, eo38⟩ := Kd.R_slice HO_10.out
                 subst eo38
                 have p296 : 0 ≤ (x12_2 : Int) := of_decide_eq_true zx20_8
                 have q296 : x12_2 < (t291.length : Int) := of_decide_eq_true zx20_8
                 obtain ⟨ad296, e296, hx296_0⟩ := Kd.at_int (Kd.R_reads' HO_10.out).2.2 x12_2 p296 q296
                 cases e296
                 replace p296 := eq_true p296
                 replace q296 := eq_true q296
                 have hnb39 := NB289_274.out
                 have hnc39 := NB274_289.out
                 obtain ⟨hcz40_0, hcz40_1, hcz40_2, hcz40_3, hcz40_4, hcz40_5, hcz40_6, hfz40_0, hfz40_1, hfz40_2, hfz40_3, hfz40_4, hfz40_5, hfz40_6⟩ := cx20_bc7 BK289.out
                 go_wp2_with (first | ((with_reducible refine gate_builtin (b := .append) (xs := #[.tmp 85, .tmp 87]) rfl ?_); (try (refine gate_guard (by rfl) ?_; dsimp only)); at_builtin; refine Kd.R_append (Kd.int .u64) (w0 := w) w.heap.size rfl (.tmp 85) (.tmp 87) 53 22 (.int .u64 0) 8 rfl Tryd.underlying53 info22 rfl (by decide) (by omega) u290003 x290003_2 (IntKind.u64.wrap (x11_2 + (rd t291 x12_2))) [.int .u64 (IntKind.u64.wrap (x11_2 + (rd t291 x12_2)))] (fun k_ => some k_ ≠ (.slice (some ad296) t291.length co38 : Value).ownBlock) (fun _ => False) rfl rfl ?aP (fun _ hk => hk.elim) ?aF ?aO ?aB ?aS ?aL ?_; (case aP => exact rfl); (case aB => exact zx20_6); (case aF => exact (fun k_ hk => Kd.fresh' (Kd.R_lt (by (with_reducible repeat (first | apply Kd.R_alloc | apply Kd.R_drewN | apply Kd.R_drew)); exact HO_10.out)) k_ hk)); (case aO => exact (by (with_reducible repeat (first | apply Kd.R_alloc | apply Kd.R_drewN | apply Kd.R_drew)); exact HO_290003.out)); (case aS => exact (below_size zx20_6)); (case aL => have := LMc37.out; omega); intro v298 w41 ho hb hg hat; rw [← Ny297.out] at ho; have n0_ := Aside0.mk (Kd.R_after (ok := (fun _ => True)) (by (with_reducible repeat (first | apply Kd.R_alloc | apply Kd.R_drewN | apply Kd.R_drew)); exact Kd.R_mono HO_10.out (fun _ hk => ⟨trivial, hk⟩)) hg hat); have n1_ := Aside0.mk (blk_grown (g := gb274) (o := .cells #[.string (⟨#[]⟩ : ByteArray), .int .u64 0, .int .u64 0, .slice none 0 0, .int .u64 0, .int .u64 0, .int .u64 0] 57 (0, 0)) zx20_4 hg (Kd.R_ne HO_290003.out BK274.out (by decide))); have n2_ := Aside0.mk (blk_grown (g := gb289) (o := .cells #[.string t275, .int .u64 (rd t278 0), .int .u64 (rd t278 1), u290003, .int .u64 (rd t278 2), .int .u64 (rd t278 3), .int .u64 (rd t278 4)] 57 (0, 0)) (by (with_reducible repeat (first | refine blk_drewN ?_ _ | refine blk_drew ?_ | refine blk_alloc ?_ _)); exact BK289.out) hg (Kd.R_ne HO_290003.out BK289.out (by decide))); have n3_ := Aside0.mk (hb); have n4_ := Aside0.mk (ho); clear HO_10; clear BK274; clear BK289; clear HB; clear HO_290003; have HO_10 := n0_; have BK274 := n1_; have BK289 := n2_; have HB := n3_; have HO299 := n4_; clear n0_ n1_ n2_ n3_ n4_; clear ho hb hg hat; obtain ⟨Ao42, co42, eo42⟩ := Kd.R_slice HO299.out; subst eo42; have hcz43_0 : w41.cell? ⟨gb289, 0, none⟩ = some (.string t275) := (blk_cell BK289.out 0).trans rfl; have hcz43_1 : w41.cell? ⟨gb289, 1, none⟩ = some (.int .u64 (rd t278 0)) := (blk_cell BK289.out 1).trans rfl; have hcz43_2 : w41.cell? ⟨gb289, 2, none⟩ = some (.int .u64 (rd t278 1)) := (blk_cell BK289.out 2).trans rfl; have hcz43_3 : w41.cell? ⟨gb289, 3, none⟩ = some (u290003) := (blk_cell BK289.out 3).trans rfl; have hcz43_4 : w41.cell? ⟨gb289, 4, none⟩ = some (.int .u64 (rd t278 2)) := (blk_cell BK289.out 4).trans rfl; have hcz43_5 : w41.cell? ⟨gb289, 5, none⟩ = some (.int .u64 (rd t278 3)) := (blk_cell BK289.out 5).trans rfl; have hcz43_6 : w41.cell? ⟨gb289, 6, none⟩ = some (.int .u64 (rd t278 4)) := (blk_cell BK289.out 6).trans rfl; have hfz43_0 := blk_frozen BK289.out 0; have hfz43_1 := blk_frozen BK289.out 1; have hfz43_2 := blk_frozen BK289.out 2; have hfz43_3 := blk_frozen BK289.out 3; have hfz43_4 := blk_frozen BK289.out 4; have hfz43_5 := blk_frozen BK289.out 5; have hfz43_6 := blk_frozen BK289.out 6))
                 go_roundg k2
                 case measure => have := HJ4.out; have := HK2.out; omega
                 case rel => exact ⟨(IntKind.u64.wrap (x11_2 + (rd t291 x12_2))), (wrap64 (x12_2 + 1)), (y297), (.slice Ao42 y297.length co42), (by first | rfl | (simp; done) | (simp [*]; done)), (by first | rfl | (simp; done) | (simp [*]; done)), H', ⟨by have := HJ4.out; have := HK2.out; omega⟩, ⟨by (with_reducible repeat (first | apply Kd.R_alloc | apply Kd.R_drewN | apply Kd.R_drew)); exact Kd.R_mono (Kd.R_far (p := ⟨gb289, 3, none⟩) (Kd.R_types HO_10.out BK289.out (by decide)) (fun _ hk => hk.2) (.slice Ao42 y297.length co42)) (fun _ hk => hk.1.2)⟩, ⟨by (with_reducible repeat (first | apply Kd.R_alloc | apply Kd.R_drewN | apply Kd.R_drew)); exact Kd.R_mono (Kd.R_far (p := ⟨gb289, 3, none⟩) (Kd.R_types HO299.out BK289.out (by decide)) (fun _ hk => hk.2) (.slice Ao42 y297.length co42)) (fun _ hk => hk.1)⟩, ⟨by (with_reducible repeat (first | refine blk_drewN ?_ _ | refine blk_drew ?_ | refine blk_alloc ?_ _)); refine blk_far ?_ NB274_289.out _; (with_reducible repeat (first | refine blk_drewN ?_ _ | refine blk_drew ?_ | refine blk_alloc ?_ _)); exact BK274.out⟩, ⟨by (with_reducible repeat (first | refine blk_drewN ?_ _ | refine blk_drew ?_ | refine blk_alloc ?_ _)); refine blk_put (cs := #[.string t275, .int .u64 (rd t278 0), .int .u64 (rd t278 1), u290003, .int .u64 (rd t278 2), .int .u64 (rd t278 3), .int .u64 (rd t278 4)]) ?_ 3 _ rfl; (with_reducible repeat (first | refine blk_drewN ?_ _ | refine blk_drew ?_ | refine blk_alloc ?_ _)); exact BK289.out⟩, ⟨by repeat (first | (with_reducible first | exact HB.out | apply below_alloc | apply pw_below_drewN | apply below_drew1 | refine below_set ?_ GE274.out | refine below_set ?_ GE289.out) | exact HB.out)⟩⟩
                ·rw [if_neg c37] at H
                 exact absurd H (by simp)
               ·rw [if_neg c36] at H
                exact absurd H (by simp)
              ·rw [if_neg c35] at H
               have c35b0 : decide (x12_2 < (t291.length : Int)) = false := decide_eq_false c35
               clear c35
               simp only [Option.some.injEq, Prod.mk.injEq] at H
               obtain ⟨rfl, rfl, rfl, rfl, rfl, rfl, rfl, rfl, rfl⟩ := H
               obtain ⟨Ao44, co44, eo44⟩ := Kd.R_slice HO_10.out
               subst eo44
               have hnb45 := NB289_274.out
               have hnc45 := NB274_289.out
               obtain ⟨hcz46_0, hcz46_1, hcz46_2, hcz46_3, hcz46_4, hcz46_5, hcz46_6, hfz46_0, hfz46_1, hfz46_2, hfz46_3, hfz46_4, hfz46_5, hfz46_6⟩ := cx20_bc7 BK289.out
               obtain ⟨hcz47_0, hcz47_1, hcz47_2, hcz47_3, hcz47_4, hcz47_5, hcz47_6, hfz47_0, hfz47_1, hfz47_2, hfz47_3, hfz47_4, hfz47_5, hfz47_6⟩ := cx20_bc7 BK274.out
               obtain ⟨Ao48, co48, eo48⟩ := Kd.R_slice HO_290003.out
               subst eo48
               go_wp2
               refine bodyPost_ret (results_ctt rfl _ _ gb274 57 #[.string t275, .int .u64 (rd t278 0), .int .u64 (rd t278 1), .slice Ao48 x290003_2.length co48, .int .u64 (rd t278 2), .int .u64 (rd t278 3), .int .u64 (rd t278 4)] (0, 0) _ rfl (by (with_reducible repeat (first | refine blk_drewN ?_ _ | refine blk_drew ?_ | refine blk_alloc ?_ _)); refine blk_put (cs := #[.string t275, .int .u64 (rd t278 0), .int .u64 (rd t278 1), .slice Ao48 x290003_2.length co48, .int .u64 (rd t278 2), .int .u64 (rd t278 3), .int .u64 0]) ?_ 6 _ rfl; (with_reducible repeat (first | refine blk_drewN ?_ _ | refine blk_drew ?_ | refine blk_alloc ?_ _)); refine blk_put (cs := #[.string t275, .int .u64 (rd t278 0), .int .u64 (rd t278 1), .slice Ao48 x290003_2.length co48, .int .u64 (rd t278 2), .int .u64 0, .int .u64 0]) ?_ 5 _ rfl; (with_reducible repeat (first | refine blk_drewN ?_ _ | refine blk_drew ?_ | refine blk_alloc ?_ _)); refine blk_put (cs := #[.string t275, .int .u64 (rd t278 0), .int .u64 (rd t278 1), .slice Ao48 x290003_2.length co48, .int .u64 0, .int .u64 0, .int .u64 0]) ?_ 4 _ rfl; (with_reducible repeat (first | refine blk_drewN ?_ _ | refine blk_drew ?_ | refine blk_alloc ?_ _)); refine blk_put (cs := #[.string t275, .int .u64 (rd t278 0), .int .u64 (rd t278 1), .slice none 0 0, .int .u64 0, .int .u64 0, .int .u64 0]) ?_ 3 _ rfl; (with_reducible repeat (first | refine blk_drewN ?_ _ | refine blk_drew ?_ | refine blk_alloc ?_ _)); refine blk_put (cs := #[.string t275, .int .u64 (rd t278 0), .int .u64 0, .slice none 0 0, .int .u64 0, .int .u64 0, .int .u64 0]) ?_ 2 _ rfl; (with_reducible repeat (first | refine blk_drewN ?_ _ | refine blk_drew ?_ | refine blk_alloc ?_ _)); refine blk_put (cs := #[.string t275, .int .u64 0, .int .u64 0, .slice none 0 0, .int .u64 0, .int .u64 0, .int .u64 0]) ?_ 1 _ rfl; (with_reducible repeat (first | refine blk_drewN ?_ _ | refine blk_drew ?_ | refine blk_alloc ?_ _)); refine blk_put (cs := #[.string (⟨#[]⟩ : ByteArray), .int .u64 0, .int .u64 0, .slice none 0 0, .int .u64 0, .int .u64 0, .int .u64 0]) ?_ 0 _ rfl; (with_reducible repeat (first | refine blk_drewN ?_ _ | refine blk_drew ?_ | refine blk_alloc ?_ _)); exact BK274.out) Tryd.underlying57 rfl (by kernel_rfl)) rfl ?_
               exact ⟨_, by first | rfl | (simp [errW_none, errW_some] <;> rfl) | (simp [*, errW_none, errW_some] <;> rfl), by (with_reducible repeat (first | apply Kd.R_alloc | apply Kd.R_drewN | apply Kd.R_drew)); exact Kd.R_mono (Kd.R_far (p := ⟨gb274, 6, none⟩) (Kd.R_far (p := ⟨gb274, 5, none⟩) (Kd.R_far (p := ⟨gb274, 4, none⟩) (Kd.R_far (p := ⟨gb274, 3, none⟩) (Kd.R_far (p := ⟨gb274, 2, none⟩) (Kd.R_far (p := ⟨gb274, 1, none⟩) (Kd.R_far (p := ⟨gb274, 0, none⟩) (Kd.R_types HO_290003.out BK274.out (by decide)) (fun _ hk => hk.2) (.string t275)) (fun _ hk => hk.2) (.int .u64 (rd t278 0))) (fun _ hk => hk.2) (.int .u64 (rd t278 1))) (fun _ hk => hk.2) (.slice Ao48 x290003_2.length co48)) (fun _ hk => hk.2) (.int .u64 (rd t278 2))) (fun _ hk => hk.2) (.int .u64 (rd t278 3))) (fun _ hk => hk.2) (.int .u64 (rd t278 4))) (fun _ hk => trivial), by repeat (first | (with_reducible first | exact HB.out | apply below_alloc | apply pw_below_drewN | apply below_drew1 | refine below_set ?_ GE274.out | refine below_set ?_ GE289.out) | exact HB.out)⟩
             ·replace c34 := Bool.eq_false_iff.mpr c34
              subst c34
              have H1 : (some (t275, (rd t278 0), (rd t278 1), x290003_2, (rd t278 2), (rd t278 3), (rd t278 4), t292, false)) = some (r1, r2, r3, r4, r5, r6, r7, r8, r9) := by rw [if_neg (show ¬ (false = true) by decide)] at H; exact H
              clear H
              have H := H1
              clear H1
              simp only [Option.some.injEq, Prod.mk.injEq] at H
              obtain ⟨rfl, rfl, rfl, rfl, rfl, rfl, rfl, rfl, rfl⟩ := H
              have hnb49 := NB289_274.out
              have hnc49 := NB274_289.out
              obtain ⟨hcz50_0, hcz50_1, hcz50_2, hcz50_3, hcz50_4, hcz50_5, hcz50_6, hfz50_0, hfz50_1, hfz50_2, hfz50_3, hfz50_4, hfz50_5, hfz50_6⟩ := cx20_bc7 BK289.out
              obtain ⟨hcz51_0, hcz51_1, hcz51_2, hcz51_3, hcz51_4, hcz51_5, hcz51_6, hfz51_0, hfz51_1, hfz51_2, hfz51_3, hfz51_4, hfz51_5, hfz51_6⟩ := cx20_bc7 BK274.out
              obtain ⟨Ao52, co52, eo52⟩ := Kd.R_slice HO_290003.out
              subst eo52
              go_wp2
              refine bodyPost_ret (results_ctt rfl _ _ gb274 57 #[.string t275, .int .u64 (rd t278 0), .int .u64 (rd t278 1), .slice Ao52 x290003_2.length co52, .int .u64 (rd t278 2), .int .u64 (rd t278 3), .int .u64 (rd t278 4)] (0, 0) _ rfl (by (with_reducible repeat (first | refine blk_drewN ?_ _ | refine blk_drew ?_ | refine blk_alloc ?_ _)); refine blk_put (cs := #[.string t275, .int .u64 (rd t278 0), .int .u64 (rd t278 1), .slice Ao52 x290003_2.length co52, .int .u64 (rd t278 2), .int .u64 (rd t278 3), .int .u64 0]) ?_ 6 _ rfl; (with_reducible repeat (first | refine blk_drewN ?_ _ | refine blk_drew ?_ | refine blk_alloc ?_ _)); refine blk_put (cs := #[.string t275, .int .u64 (rd t278 0), .int .u64 (rd t278 1), .slice Ao52 x290003_2.length co52, .int .u64 (rd t278 2), .int .u64 0, .int .u64 0]) ?_ 5 _ rfl; (with_reducible repeat (first | refine blk_drewN ?_ _ | refine blk_drew ?_ | refine blk_alloc ?_ _)); refine blk_put (cs := #[.string t275, .int .u64 (rd t278 0), .int .u64 (rd t278 1), .slice Ao52 x290003_2.length co52, .int .u64 0, .int .u64 0, .int .u64 0]) ?_ 4 _ rfl; (with_reducible repeat (first | refine blk_drewN ?_ _ | refine blk_drew ?_ | refine blk_alloc ?_ _)); refine blk_put (cs := #[.string t275, .int .u64 (rd t278 0), .int .u64 (rd t278 1), .slice none 0 0, .int .u64 0, .int .u64 0, .int .u64 0]) ?_ 3 _ rfl; (with_reducible repeat (first | refine blk_drewN ?_ _ | refine blk_drew ?_ | refine blk_alloc ?_ _)); refine blk_put (cs := #[.string t275, .int .u64 (rd t278 0), .int .u64 0, .slice none 0 0, .int .u64 0, .int .u64 0, .int .u64 0]) ?_ 2 _ rfl; (with_reducible repeat (first | refine blk_drewN ?_ _ | refine blk_drew ?_ | refine blk_alloc ?_ _)); refine blk_put (cs := #[.string t275, .int .u64 0, .int .u64 0, .slice none 0 0, .int .u64 0, .int .u64 0, .int .u64 0]) ?_ 1 _ rfl; (with_reducible repeat (first | refine blk_drewN ?_ _ | refine blk_drew ?_ | refine blk_alloc ?_ _)); refine blk_put (cs := #[.string (⟨#[]⟩ : ByteArray), .int .u64 0, .int .u64 0, .slice none 0 0, .int .u64 0, .int .u64 0, .int .u64 0]) ?_ 0 _ rfl; (with_reducible repeat (first | refine blk_drewN ?_ _ | refine blk_drew ?_ | refine blk_alloc ?_ _)); exact BK274.out) Tryd.underlying57 rfl (by kernel_rfl)) rfl ?_
              exact ⟨_, by first | rfl | (simp [errW_none, errW_some] <;> rfl) | (simp [*, errW_none, errW_some] <;> rfl), by (with_reducible repeat (first | apply Kd.R_alloc | apply Kd.R_drewN | apply Kd.R_drew)); exact Kd.R_mono (Kd.R_far (p := ⟨gb274, 6, none⟩) (Kd.R_far (p := ⟨gb274, 5, none⟩) (Kd.R_far (p := ⟨gb274, 4, none⟩) (Kd.R_far (p := ⟨gb274, 3, none⟩) (Kd.R_far (p := ⟨gb274, 2, none⟩) (Kd.R_far (p := ⟨gb274, 1, none⟩) (Kd.R_far (p := ⟨gb274, 0, none⟩) (Kd.R_types HO_290003.out BK274.out (by decide)) (fun _ hk => hk.2) (.string t275)) (fun _ hk => hk.2) (.int .u64 (rd t278 0))) (fun _ hk => hk.2) (.int .u64 (rd t278 1))) (fun _ hk => hk.2) (.slice Ao52 x290003_2.length co52)) (fun _ hk => hk.2) (.int .u64 (rd t278 2))) (fun _ hk => hk.2) (.int .u64 (rd t278 3))) (fun _ hk => hk.2) (.int .u64 (rd t278 4))) (fun _ hk => trivial), by repeat (first | (with_reducible first | exact HB.out | apply below_alloc | apply pw_below_drewN | apply below_drew1 | refine below_set ?_ GE274.out | refine below_set ?_ GE289.out) | exact HB.out)⟩
          ·rw [if_neg c19] at H
           exact absurd H (by simp)
         ·rw [if_neg c18] at H
          exact absurd H (by simp)
        ·rw [if_neg c17] at H
         exact absurd H (by simp)
       ·rw [if_neg c16] at H
        exact absurd H (by simp)
      ·rw [if_neg c15] at H
       exact absurd H (by simp)
     ·rw [if_neg c14] at H
      exact absurd H (by simp)
 ·rw [if_neg c3] at H
  have c3b0 : (t277 == 0) = false := beq_eq_false_iff_ne.mpr c3
  have c3b1 : (t277 != 0) = true := bne_iff_ne.mpr c3
  simp only [Option.some.injEq, Prod.mk.injEq] at H
  obtain ⟨rfl, rfl, rfl, rfl, rfl, rfl, rfl, rfl, rfl⟩ := H
  go_enter Tryd.func30, Tryd.ntmps30
  go_wp2_with (first | ((with_reducible refine gate_dst (N := 2) rfl ?_); (try (refine gate_guard (by rfl) ?_; dsimp only)); refine box_event ?hg (N := 2) ?hd (cs := #[.string (⟨#[]⟩ : ByteArray), .int .u64 0, .int .u64 0, .slice none 0 0, .int .u64 0, .int .u64 0, .int .u64 0]) (t := 57) ?hr ?_; (case hd => rfl); (case hg => rfl); (case hr => first | (go_simp; done) | (go_simp; rfl)); intro gb274 hg w53 hbox hb; have n0_ := Aside0.mk (below_step zx20_5 hb); have n1_ := Aside0.mk (hbox); have n2_ := Aside0.mk ((by rw [hg]; exact (below_size zx20_5) : w.heap.size ≤ gb274)); have n3_ := Aside0.mk ((by rw [hg]; exact (below_size zx20_5) : w.heap.size ≤ gb274)); clear HB; have HB := n0_; have BK274 := n1_; have GW274 := n2_; have GE274 := n3_; clear n0_ n1_ n2_ n3_; clear hb hbox hg) | ((with_reducible refine gate_callee (f := 47) rfl ?_); refine goesL_ (some 15) rfl rfl Tryd.func47 (by kernel_rfl) rfl #[.string a0, .int .i64 20] rfl zx20_7 ?_; (with_reducible refine (postroomref1_TakeText.calls k a0 20 t275 t276 t277 _ A2.out).mono ?_); rintro e w54 ⟨rfl, hb⟩; refine ⟨_, rfl, ?_⟩; have n0_ := Aside0.mk (blk_below (g := gb274) (o := .cells #[.string (⟨#[]⟩ : ByteArray), .int .u64 0, .int .u64 0, .slice none 0 0, .int .u64 0, .int .u64 0, .int .u64 0] 57 (0, 0)) zx20_4 hb); have n1_ := Aside0.mk (below_step zx20_2 hb); clear BK274; clear HB; have BK274 := n0_; have HB := n1_; clear n0_ n1_; (try clear hb); (try clear hb2); (try clear hk); (try clear hi); have hcz55_0 : w54.cell? ⟨gb274, 0, none⟩ = some (.string (⟨#[]⟩ : ByteArray)) := (blk_cell BK274.out 0).trans rfl; have hcz55_1 : w54.cell? ⟨gb274, 1, none⟩ = some (.int .u64 0) := (blk_cell BK274.out 1).trans rfl; have hcz55_2 : w54.cell? ⟨gb274, 2, none⟩ = some (.int .u64 0) := (blk_cell BK274.out 2).trans rfl; have hcz55_3 : w54.cell? ⟨gb274, 3, none⟩ = some (.slice none 0 0) := (blk_cell BK274.out 3).trans rfl; have hcz55_4 : w54.cell? ⟨gb274, 4, none⟩ = some (.int .u64 0) := (blk_cell BK274.out 4).trans rfl; have hcz55_5 : w54.cell? ⟨gb274, 5, none⟩ = some (.int .u64 0) := (blk_cell BK274.out 5).trans rfl; have hcz55_6 : w54.cell? ⟨gb274, 6, none⟩ = some (.int .u64 0) := (blk_cell BK274.out 6).trans rfl; have hfz55_0 := blk_frozen BK274.out 0; have hfz55_1 := blk_frozen BK274.out 1; have hfz55_2 := blk_frozen BK274.out 2; have hfz55_3 := blk_frozen BK274.out 3; have hfz55_4 := blk_frozen BK274.out 4; have hfz55_5 := blk_frozen BK274.out 5; have hfz55_6 := blk_frozen BK274.out 6))
  refine bodyPost_ret (results_ctt rfl _ _ gb274 57 #[.string (⟨#[]⟩ : ByteArray), .int .u64 0, .int .u64 0, .slice none 0 0, .int .u64 0, .int .u64 0, .int .u64 0] (0, 0) _ rfl zx20_1 Tryd.underlying57 rfl (by kernel_rfl)) rfl ?_
  exact ⟨_, by first | rfl | (simp [errW_none, errW_some] <;> rfl) | (simp [*, errW_none, errW_some] <;> rfl), by first | exact Kd.R_nil _ _ _ _ _ | exact Kd.N_nil _ _ _ _ _ | exact Kd.V_nil _ _ _ _ _ | exact Kd.Q_nil _ _ _ _ _ | exact Kd.S_nil _ _ _ _ _, by repeat (first | (with_reducible first | exact HB.out | apply below_alloc | apply pw_below_drewN | apply below_drew1 | refine below_set ?_ GE274.out) | exact HB.out)⟩

end Go.Proofs.YtmbigoeldobaiaaDoor.XMrk
end
