/- Texts of this seat, in one. Conditions: those that each theorem names. -/
import Derived.Test.YtmbigoeldobaiaaDoorXMrkP1
import Derived.Test.YtmbigoeldobaiaaDoorGLabelName
import Derived.Test.YtmbigoeldobaiaaDoorGClone
section
/- What the functions of the translation answer, each as a plain Lean function, and that the code comes to it; for a law: its row. Conditions: none but those that each theorem names. Written by a program of this session (wip/xp). -/
namespace Go.Proofs.YtmbigoeldobaiaaDoor.XMrk
open Go.RowKit Go.Proofs.YtmbigoeldobaiaaDoorW.PrintWords Go.Proofs.YtmbigoeldobaiaaDoorW.PrintLast Go.Proofs.YtmbigoeldobaiaaDoorW.PrintMore
attribute [local go_sem] max2_int min2_int max_two min_two max_three min_three max_four min_four   -- for this text's walks alone
theorem cx10_bc7 {w : World} {g : Nat} {t : TypeId} {x0 x1 x2 x3 x4 x5 x6 : Value} (h : w.heap[g]? = some (.cells #[x0, x1, x2, x3, x4, x5, x6] t (0, 0))) : w.cell? ⟨g, 0, none⟩ = some x0 ∧ w.cell? ⟨g, 1, none⟩ = some x1 ∧ w.cell? ⟨g, 2, none⟩ = some x2 ∧ w.cell? ⟨g, 3, none⟩ = some x3 ∧ w.cell? ⟨g, 4, none⟩ = some x4 ∧ w.cell? ⟨g, 5, none⟩ = some x5 ∧ w.cell? ⟨g, 6, none⟩ = some x6 ∧ w.frozen? ⟨g, 0, none⟩ = false ∧ w.frozen? ⟨g, 1, none⟩ = false ∧ w.frozen? ⟨g, 2, none⟩ = false ∧ w.frozen? ⟨g, 3, none⟩ = false ∧ w.frozen? ⟨g, 4, none⟩ = false ∧ w.frozen? ⟨g, 5, none⟩ = false ∧ w.frozen? ⟨g, 6, none⟩ = false :=
 ⟨(blk_cell h 0).trans rfl, (blk_cell h 1).trans rfl, (blk_cell h 2).trans rfl, (blk_cell h 3).trans rfl, (blk_cell h 4).trans rfl, (blk_cell h 5).trans rfl, (blk_cell h 6).trans rfl, blk_frozen h 0, blk_frozen h 1, blk_frozen h 2, blk_frozen h 3, blk_frozen h 4, blk_frozen h 5, blk_frozen h 6⟩
theorem zx10_1 {p : Prop} (h : p := by (with_reducible repeat (first | refine blk_drewN ?_ _ | refine blk_drew ?_ | refine blk_alloc ?_ _)); exact bi.out) : p := h
theorem zx10_2 {p : Prop} (h : p := by (try simp only [List.map_toArray, List.map_cons, List.map_nil]); first | done | rfl | (simp only [List.length_drop, List.length_take]; rfl)) : p := h
theorem zx10_4 {p : Prop} (h : p := by repeat (first | (with_reducible first | exact HK.out | apply KeepBut.set_ | apply keep_drewN | apply keep_drew | apply keep_alloc) | exact HK.out)) : p := h
theorem zx10_0 {p : Prop} (h : p := by repeat (first | (with_reducible first | exact HK.out | apply KeepBut.set_ | apply keep_drewN | apply keep_drew | apply keep_alloc | refine keep_far ?_ bI.out _) | exact HK.out)) : p := h
theorem zx10_3 {p : Prop} (h : p := by repeat (first | (with_reducible first | exact HK.out | apply KeepBut.set_ | apply keep_drewN | apply keep_drew | apply keep_alloc | refine keep_far ?_ bI.out _ | refine keep_far ?_ b2.out _) | exact HK.out)) : p := h
set_option linter.unusedVariables false
set_option linter.unusedSimpArgs false

/-! ### mark_reader_dest: function 28 -/
mutual
def mark_reader_dest.j0 : Nat → ByteArray → ByteArray → Bool → Option (ByteArray × Int × Int × List Int × Int × Int × Int × ByteArray × Bool)
 | 0, _, _, _ => none
 | k + 1, x3, bX, bN => (mark_reader_number.f k bX bN).bind fun dk => ((mark_reader_number.f k dk.2.1 dk.2.2).bind fun bH => ((mark_reader_number.f k bH.2.1 bH.2.2).bind fun bB => ((mark_reader_number.f k bB.2.1 bB.2.2).bind fun bz => ((mark_reader_number.f k bz.2.1 bz.2.2).bind fun bn => ((mark_reader_number.f k bn.2.1 bn.2.2).bind fun bk => (mark_reader_dest.l0 k bH.1 bk.1 bk.2.1 bk.2.2 x3 dk.1 bH.1 ([] : List Int) bB.1 bz.1 bn.1))))))
def mark_reader_dest.l0 : Nat → Int → Int → ByteArray → Bool → ByteArray → Int → Int → List Int → Int → Int → Int → Option (ByteArray × Int × Int × List Int × Int × Int × Int × ByteArray × Bool)
 | 0, _, _, _, _, _, _, _, _, _, _, _ => none
 | k + 1, x7, x8, bX, bN, bU, bS, bR, bK, bQ, bP, bO => if x8 > 0 then (if bN = true then (some (bU, bS, bR, bK, bQ, bP, bO, bX, bN)) else ((mark_reader_number.f k bX bN).bind fun bG => (if bK.length < 17592186044416 then (mark_reader_dest.l0 k (IntKind.u64.wrap (x7 + bG.1)) (IntKind.u64.wrap (x8 - 1)) bG.2.1 bG.2.2 bU bS bR (bK ++ [IntKind.u64.wrap (x7 + bG.1)]) bQ bP bO) else (none)))) else (some (bU, bS, bR, bK, bQ, bP, bO, bX, bN))
end
def mark_reader_dest.f (k : Nat) (bW : ByteArray) (bV : Bool) : Option (ByteArray × Int × Int × List Int × Int × Int × Int × ByteArray × Bool) := (num_TakeText.f k bW 20).bind fun bC => (if bV = true then (mark_reader_dest.j0 k bC.1 bC.2.1 true) else (mark_reader_dest.j0 k bC.1 bC.2.1 (bC.2.2 != 0)))
set_option maxHeartbeats 8000000 in
set_option maxRecDepth 100000 in
theorem mark_reader_dest.calls (k : Nat) (g : Nat) (bW : ByteArray) (bV : Bool) (r1 : ByteArray) (r2 : Int) (r3 : Int) (r4 : List Int) (r5 : Int) (r6 : Int) (r7 : Int) (r8 : ByteArray) (r9 : Bool) (w0 w : World) (hI : IsS63 w0 w g bW bV) (hB : Below w0.heap.size w0 w) (h : mark_reader_dest.f k bW bV = some (r1, r2, r3, r4, r5, r6, r7, r8, r9)) :
  Calls Tryd.prog 28 #[.pointer (some ⟨g, 0, none⟩)] w fun e w' => ∃ v3_ : Value, e = .returned (.agg #[.string r1, .int .u64 r2, .int .u64 r3, v3_, .int .u64 r5, .int .u64 r6, .int .u64 r7]) ∧ Kd.R (Kd.int .u64) 22 w' w.heap.size (fun _ => True) v3_ r4 ∧ IsS63 w0 w' g r8 r9 ∧ Below w0.heap.size w0 w' ∧ KeepBut w w' g none := by
 have jA := Tryd.underlying55
 have HI0 := Aside0.mk hI
 have HK := Aside0.mk (KeepBut.refl w g none)
 have HL := Aside0.mk hB.size
 clear hI
 have HW0 := Aside0.mk hB.size
 have HB := Aside0.mk hB
 clear hB
 have H : ((num_TakeText.f k bW 20).bind fun bC => (if bV = true then (mark_reader_dest.j0 k bC.1 bC.2.1 true) else (mark_reader_dest.j0 k bC.1 bC.2.1 (bC.2.2 != 0)))) = some (r1, r2, r3, r4, r5, r6, r7, r8, r9) := h
 clear h
 replace H := Option.bind_eq_some_iff.mp H
 obtain ⟨⟨bf, b3, du⟩, A20, H⟩ := H
 replace H : (if bV = true then (mark_reader_dest.j0 k bf b3 true) else (mark_reader_dest.j0 k bf b3 (du != 0))) = some (r1, r2, r3, r4, r5, r6, r7, r8, r9) := H
 have A2 := Aside0.mk A20
 clear A20
 have HC3 := Aside0.mk H
 clear H
 go_enter Tryd.func28, Tryd.ntmps28
 go_upto_region 2 with (first | ((with_reducible refine gate_dst (N := 2) rfl ?_); refine box_event ?hg (N := 2) ?hd (cs := #[.string (⟨#[]⟩ : ByteArray), .int .u64 0, .int .u64 0, .slice none 0 0, .int .u64 0, .int .u64 0, .int .u64 0]) (t := 55) ?hr ?_; (case hd => rfl); (case hg => rfl); (case hr => first | (go_simp; done) | (go_simp; rfl)); intro bc hg w4 hbox hb; replace HB := Aside0.mk (below_step (by repeat (first | (with_reducible first | exact HB.out | apply below_alloc | apply pw_below_drewN | apply below_drew1 | refine below_set ?_ (IsS63.ge HI0.out)) | exact HB.out)) hb); have bi := Aside0.mk (hbox); have bI := Aside0.mk ((by rw [hg]; exact (keep_size (w := w) (g := g) (row := none) zx10_4) : w.heap.size ≤ bc)); have bq := Aside0.mk ((Nat.le_trans HW0.out (by rw [hg]; exact (keep_size (w := w) (g := g) (row := none) zx10_4) : w.heap.size ≤ bc) : w0.heap.size ≤ bc)); replace HK := Aside0.mk (KeepBut.trans zx10_4 (KeepBut.of_below hb g none) (.inl rfl)); have bd := Aside0.mk ((by rw [hg]; exact Nat.ne_of_lt (IsS63.lt (show IsS63 w0 _ g bW bV from by repeat (first | (with_reducible first | exact HI0.out | apply IsS63.alloc | apply IsS63.drewN | apply IsS63.drew | apply IsS63.set_0 | apply IsS63.set_1) | exact HI0.out))) : g ≠ bc)); have bo := Aside0.mk ((by rw [hg]; exact Nat.ne_of_gt (IsS63.lt (show IsS63 w0 _ g bW bV from by repeat (first | (with_reducible first | exact HI0.out | apply IsS63.alloc | apply IsS63.drewN | apply IsS63.drew | apply IsS63.set_0 | apply IsS63.set_1) | exact HI0.out))) : bc ≠ g)); replace HI0 := Aside0.mk (IsS63.below (by repeat (first | (with_reducible first | exact HI0.out | apply IsS63.alloc | apply IsS63.drewN | apply IsS63.drew | apply IsS63.set_0 | apply IsS63.set_1) | exact HI0.out)) hb); clear hb hbox hg; obtain ⟨dn, jb⟩ := HI0.out; have dh := cellS63_0 dn; have dg := cellS63_1 dn; have db := blk_frozen dn 0; have da := blk_frozen dn 1; clear dn jb) | ((with_reducible refine gate_callee (f := 45) rfl ?_); refine goesL_ (some 14) rfl rfl Tryd.func45 (by kernel_rfl) rfl #[.string bW, .int .i64 20] rfl zx10_2 ?_; (with_reducible refine (num_TakeText.calls k bW 20 bf b3 du _ A2.out).mono ?_); rintro e w6 ⟨rfl, hb⟩; refine ⟨_, rfl, ?_⟩; replace bi := Aside0.mk (blk_below (g := bc) (o := .cells #[.string (⟨#[]⟩ : ByteArray), .int .u64 0, .int .u64 0, .slice none 0 0, .int .u64 0, .int .u64 0, .int .u64 0] 55 (0, 0)) zx10_1 hb); replace HK := Aside0.mk (KeepBut.trans zx10_0 (KeepBut.of_below hb g none) (.inl rfl)); replace HB := Aside0.mk (below_step (by repeat (first | (with_reducible first | exact HB.out | apply below_alloc | apply pw_below_drewN | apply below_drew1 | refine below_set ?_ (IsS63.ge HI0.out) | refine below_set ?_ bq.out) | exact HB.out)) hb); replace HI0 := Aside0.mk (IsS63.below (by repeat (first | (with_reducible first | exact HI0.out | apply IsS63.alloc | apply IsS63.drewN | apply IsS63.drew | apply IsS63.set_0 | apply IsS63.set_1 | refine IsS63.far ?_ bd.out _) | exact HI0.out)) hb); (try clear hb); (try clear hb2); (try clear hk); (try clear hi)))
 (try simp only [Act.put, List.setIfInBounds_toArray, List.set_cons_zero, List.set_cons_succ])
 go_cut [] (fun wc => ∃ (kq : Nat) (bl : ByteArray) (br : Bool), Aside0 (mark_reader_dest.j0 kq bf bl br = some (r1, r2, r3, r4, r5, r6, r7, r8, r9)) ∧ Aside0 (kq ≤ k) ∧ Aside0 (wc.heap[bc]? = some (.cells #[.string (⟨#[]⟩ : ByteArray), .int .u64 0, .int .u64 0, (.slice none 0 0), .int .u64 0, .int .u64 0, .int .u64 0] 55 (0, 0))) ∧ Aside0 (IsS63 w0 wc g bl br) ∧ Aside0 (KeepBut w wc g none) ∧ Aside0 (Below w0.heap.size w0 wc))
 case first =>
  have H := HC3.out
  clear HC3
  by_cases c7 : bV = true
  ·subst c7
   have H1 : (mark_reader_dest.j0 k bf b3 true) = some (r1, r2, r3, r4, r5, r6, r7, r8, r9) := by rw [if_pos rfl] at H; exact H
   clear H
   have H := H1
   clear H1
   have H' := Aside0.mk H
   clear H
   obtain ⟨dm, ja⟩ := HI0.out
   have df := cellS63_0 dm
   have de := cellS63_1 dm
   have b9 := blk_frozen dm 0
   have b8 := blk_frozen dm 1
   clear dm ja
   go_wp2
   go_meet
   case rel => exact ⟨_, (b3), (true), H', ⟨by first | omega | exact Nat.le_refl _⟩, ⟨by (iterate 2 ((with_reducible repeat (first | refine blk_drewN ?_ _ | refine blk_drew ?_ | refine blk_alloc ?_ _)); refine blk_far ?_ bo.out _)); (with_reducible repeat (first | refine blk_drewN ?_ _ | refine blk_drew ?_ | refine blk_alloc ?_ _)); exact bi.out⟩, ⟨by repeat (first | (with_reducible first | exact HI0.out | apply IsS63.alloc | apply IsS63.drewN | apply IsS63.drew | apply IsS63.set_0 | apply IsS63.set_1 | refine IsS63.far ?_ bd.out _) | exact HI0.out)⟩, ⟨by repeat (first | (with_reducible first | exact HK.out | apply KeepBut.set_ | apply keep_drewN | apply keep_drew | apply keep_alloc | refine keep_far ?_ bI.out _) | exact HK.out)⟩, ⟨by repeat (first | (with_reducible first | exact HB.out | apply below_alloc | apply pw_below_drewN | apply below_drew1 | refine below_set ?_ (IsS63.ge HI0.out) | refine below_set ?_ bq.out) | exact HB.out)⟩⟩
  replace c7 := Bool.eq_false_iff.mpr c7
  subst c7
  have H1 : (mark_reader_dest.j0 k bf b3 (du != 0)) = some (r1, r2, r3, r4, r5, r6, r7, r8, r9) := by rw [if_neg (show ¬ (false = true) by decide)] at H; exact H
  clear H
  have H := H1
  clear H1
  have H' := Aside0.mk H
  clear H
  obtain ⟨dl, hZ⟩ := HI0.out
  have dd := cellS63_0 dl
  have dc := cellS63_1 dl
  have b7 := blk_frozen dl 0
  have b6 := blk_frozen dl 1
  clear dl hZ
  go_wp2
  go_meet
  case rel => exact ⟨_, (b3), ((du != 0)), H', ⟨by first | omega | exact Nat.le_refl _⟩, ⟨by (iterate 2 ((with_reducible repeat (first | refine blk_drewN ?_ _ | refine blk_drew ?_ | refine blk_alloc ?_ _)); refine blk_far ?_ bo.out _)); (with_reducible repeat (first | refine blk_drewN ?_ _ | refine blk_drew ?_ | refine blk_alloc ?_ _)); exact bi.out⟩, ⟨by repeat (first | (with_reducible first | exact HI0.out | apply IsS63.alloc | apply IsS63.drewN | apply IsS63.drew | apply IsS63.set_0 | apply IsS63.set_1 | refine IsS63.far ?_ bd.out _) | exact HI0.out)⟩, ⟨by repeat (first | (with_reducible first | exact HK.out | apply KeepBut.set_ | apply keep_drewN | apply keep_drew | apply keep_alloc | refine keep_far ?_ bI.out _) | exact HK.out)⟩, ⟨by repeat (first | (with_reducible first | exact HB.out | apply below_alloc | apply pw_below_drewN | apply below_drew1 | refine below_set ?_ (IsS63.ge HI0.out) | refine below_set ?_ bq.out) | exact HB.out)⟩⟩
 case rest =>
  clear HC3
  (try clear c2); (try clear p2); (try clear c4); (try clear c7); (try clear dh); (try clear dg); (try clear df); (try clear de); (try clear dd); (try clear dc); (try clear db); (try clear da); (try clear b9); (try clear b8); (try clear b7); (try clear b6)
  obtain ⟨kq, bl, br, HA, HJ2, bi, HI0, HK, HB⟩ := hcut
  cases kq with
  | zero => exact absurd HA.out (by simp [mark_reader_dest.j0])
  | succ kj2 => ?_
  have H := HA.out
  clear HA
  simp only [mark_reader_dest.j0] at H
  replace H := Option.bind_eq_some_iff.mp H
  obtain ⟨⟨bj, dU, dT⟩, d8, H⟩ := H
  replace H : ((mark_reader_number.f kj2 dU dT).bind fun bH => ((mark_reader_number.f kj2 bH.2.1 bH.2.2).bind fun bB => ((mark_reader_number.f kj2 bB.2.1 bB.2.2).bind fun bz => ((mark_reader_number.f kj2 bz.2.1 bz.2.2).bind fun bn => ((mark_reader_number.f kj2 bn.2.1 bn.2.2).bind fun bk => (mark_reader_dest.l0 kj2 bH.1 bk.1 bk.2.1 bk.2.2 bf bj bH.1 ([] : List Int) bB.1 bz.1 bn.1)))))) = some (r1, r2, r3, r4, r5, r6, r7, r8, r9) := H
  have A10 := Aside0.mk d8
  clear d8
  replace H := Option.bind_eq_some_iff.mp H
  obtain ⟨⟨bh, dS, dR⟩, d7, H⟩ := H
  replace H : ((mark_reader_number.f kj2 dS dR).bind fun bB => ((mark_reader_number.f kj2 bB.2.1 bB.2.2).bind fun bz => ((mark_reader_number.f kj2 bz.2.1 bz.2.2).bind fun bn => ((mark_reader_number.f kj2 bn.2.1 bn.2.2).bind fun bk => (mark_reader_dest.l0 kj2 bh bk.1 bk.2.1 bk.2.2 bf bj bh ([] : List Int) bB.1 bz.1 bn.1))))) = some (r1, r2, r3, r4, r5, r6, r7, r8, r9) := H
  have A11 := Aside0.mk d7
  clear d7
  replace H := Option.bind_eq_some_iff.mp H
  obtain ⟨⟨bp, dQ, dP⟩, d6, H⟩ := H
  replace H : ((mark_reader_number.f kj2 dQ dP).bind fun bz => ((mark_reader_number.f kj2 bz.2.1 bz.2.2).bind fun bn => ((mark_reader_number.f kj2 bn.2.1 bn.2.2).bind fun bk => (mark_reader_dest.l0 kj2 bh bk.1 bk.2.1 bk.2.2 bf bj bh ([] : List Int) bp bz.1 bn.1)))) = some (r1, r2, r3, r4, r5, r6, r7, r8, r9) := H
  have A12 := Aside0.mk d6
  clear d6
  replace H := Option.bind_eq_some_iff.mp H
  obtain ⟨⟨bx, dO, dN⟩, d5, H⟩ := H
  replace H : ((mark_reader_number.f kj2 dO dN).bind fun bn => ((mark_reader_number.f kj2 bn.2.1 bn.2.2).bind fun bk => (mark_reader_dest.l0 kj2 bh bk.1 bk.2.1 bk.2.2 bf bj bh ([] : List Int) bp bx bn.1))) = some (r1, r2, r3, r4, r5, r6, r7, r8, r9) := H
  have A13 := Aside0.mk d5
  clear d5
  replace H := Option.bind_eq_some_iff.mp H
  obtain ⟨⟨bA, b5, b4⟩, d4, H⟩ := H
  replace H : ((mark_reader_number.f kj2 b5 b4).bind fun bk => (mark_reader_dest.l0 kj2 bh bk.1 bk.2.1 bk.2.2 bf bj bh ([] : List Int) bp bx bA)) = some (r1, r2, r3, r4, r5, r6, r7, r8, r9) := H
  have A14 := Aside0.mk d4
  clear d4
  replace H := Option.bind_eq_some_iff.mp H
  obtain ⟨⟨dM, dL, dK⟩, d3, H⟩ := H
  replace H : (mark_reader_dest.l0 kj2 bh dM dL dK bf bj bh ([] : List Int) bp bx bA) = some (r1, r2, r3, r4, r5, r6, r7, r8, r9) := H
  have A15 := Aside0.mk d3
  clear d3
  have H' := Aside0.mk H
  clear H
  go_wp2_with (first | ((with_reducible refine gate_callee (f := 27) rfl ?_); refine goesL_ (some 35) rfl rfl Tryd.func27 (by kernel_rfl) rfl #[.pointer (some ⟨g, 0, none⟩)] rfl zx10_2 ?_; (with_reducible refine (mark_reader_number.calls kj2 g bl br bj dU dT w0 _ ?side1 ?side2 A10.out).mono ?_); (case side1 => repeat (first | (with_reducible first | exact HI0.out | apply IsS63.alloc | apply IsS63.drewN | apply IsS63.drew | apply IsS63.set_0 | apply IsS63.set_1 | refine IsS63.far ?_ bd.out _) | exact HI0.out)); (case side2 => repeat (first | (with_reducible first | exact HB.out | apply below_alloc | apply pw_below_drewN | apply below_drew1 | refine below_set ?_ (IsS63.ge HI0.out) | refine below_set ?_ bq.out) | exact HB.out)); rintro e w16 ⟨rfl, hi, hb, hk⟩; refine ⟨_, rfl, ?_⟩; replace bi := Aside0.mk (KeepBut.blk hk (g' := bc) (o := .cells #[.string (⟨#[]⟩ : ByteArray), .int .u64 0, .int .u64 0, .slice none 0 0, .int .u64 0, .int .u64 0, .int .u64 0] 55 (0, 0)) zx10_1 bo.out (by simp)); replace HK := Aside0.mk (KeepBut.trans zx10_0 hk (.inl rfl)); replace HB := Aside0.mk (hb); replace HI0 := Aside0.mk (hi); (try clear hb); (try clear hb2); (try clear hk); (try clear hi)) | ((with_reducible refine gate_callee (f := 27) rfl ?_); refine goesL_ (some 37) rfl rfl Tryd.func27 (by kernel_rfl) rfl #[.pointer (some ⟨g, 0, none⟩)] rfl zx10_2 ?_; (with_reducible refine (mark_reader_number.calls kj2 g dU dT bh dS dR w0 _ ?side1 ?side2 A11.out).mono ?_); (case side1 => repeat (first | (with_reducible first | exact HI0.out | apply IsS63.alloc | apply IsS63.drewN | apply IsS63.drew | apply IsS63.set_0 | apply IsS63.set_1 | refine IsS63.far ?_ bd.out _) | exact HI0.out)); (case side2 => repeat (first | (with_reducible first | exact HB.out | apply below_alloc | apply pw_below_drewN | apply below_drew1 | refine below_set ?_ (IsS63.ge HI0.out) | refine below_set ?_ bq.out) | exact HB.out)); rintro e w17 ⟨rfl, hi, hb, hk⟩; refine ⟨_, rfl, ?_⟩; replace bi := Aside0.mk (KeepBut.blk hk (g' := bc) (o := .cells #[.string (⟨#[]⟩ : ByteArray), .int .u64 0, .int .u64 0, .slice none 0 0, .int .u64 0, .int .u64 0, .int .u64 0] 55 (0, 0)) zx10_1 bo.out (by simp)); replace HK := Aside0.mk (KeepBut.trans zx10_0 hk (.inl rfl)); replace HB := Aside0.mk (hb); replace HI0 := Aside0.mk (hi); (try clear hb); (try clear hb2); (try clear hk); (try clear hi)) | ((with_reducible refine gate_callee (f := 27) rfl ?_); refine goesL_ (some 39) rfl rfl Tryd.func27 (by kernel_rfl) rfl #[.pointer (some ⟨g, 0, none⟩)] rfl zx10_2 ?_; (with_reducible refine (mark_reader_number.calls kj2 g dS dR bp dQ dP w0 _ ?side1 ?side2 A12.out).mono ?_); (case side1 => repeat (first | (with_reducible first | exact HI0.out | apply IsS63.alloc | apply IsS63.drewN | apply IsS63.drew | apply IsS63.set_0 | apply IsS63.set_1 | refine IsS63.far ?_ bd.out _) | exact HI0.out)); (case side2 => repeat (first | (with_reducible first | exact HB.out | apply below_alloc | apply pw_below_drewN | apply below_drew1 | refine below_set ?_ (IsS63.ge HI0.out) | refine below_set ?_ bq.out) | exact HB.out)); rintro e w18 ⟨rfl, hi, hb, hk⟩; refine ⟨_, rfl, ?_⟩; replace bi := Aside0.mk (KeepBut.blk hk (g' := bc) (o := .cells #[.string (⟨#[]⟩ : ByteArray), .int .u64 0, .int .u64 0, .slice none 0 0, .int .u64 0, .int .u64 0, .int .u64 0] 55 (0, 0)) zx10_1 bo.out (by simp)); replace HK := Aside0.mk (KeepBut.trans zx10_0 hk (.inl rfl)); replace HB := Aside0.mk (hb); replace HI0 := Aside0.mk (hi); (try clear hb); (try clear hb2); (try clear hk); (try clear hi)) | ((with_reducible refine gate_callee (f := 27) rfl ?_); refine goesL_ (some 41) rfl rfl Tryd.func27 (by kernel_rfl) rfl #[.pointer (some ⟨g, 0, none⟩)] rfl zx10_2 ?_; (with_reducible refine (mark_reader_number.calls kj2 g dQ dP bx dO dN w0 _ ?side1 ?side2 A13.out).mono ?_); (case side1 => repeat (first | (with_reducible first | exact HI0.out | apply IsS63.alloc | apply IsS63.drewN | apply IsS63.drew | apply IsS63.set_0 | apply IsS63.set_1 | refine IsS63.far ?_ bd.out _) | exact HI0.out)); (case side2 => repeat (first | (with_reducible first | exact HB.out | apply below_alloc | apply pw_below_drewN | apply below_drew1 | refine below_set ?_ (IsS63.ge HI0.out) | refine below_set ?_ bq.out) | exact HB.out)); rintro e w19 ⟨rfl, hi, hb, hk⟩; refine ⟨_, rfl, ?_⟩; replace bi := Aside0.mk (KeepBut.blk hk (g' := bc) (o := .cells #[.string (⟨#[]⟩ : ByteArray), .int .u64 0, .int .u64 0, .slice none 0 0, .int .u64 0, .int .u64 0, .int .u64 0] 55 (0, 0)) zx10_1 bo.out (by simp)); replace HK := Aside0.mk (KeepBut.trans zx10_0 hk (.inl rfl)); replace HB := Aside0.mk (hb); replace HI0 := Aside0.mk (hi); (try clear hb); (try clear hb2); (try clear hk); (try clear hi)) | ((with_reducible refine gate_callee (f := 27) rfl ?_); refine goesL_ (some 43) rfl rfl Tryd.func27 (by kernel_rfl) rfl #[.pointer (some ⟨g, 0, none⟩)] rfl zx10_2 ?_; (with_reducible refine (mark_reader_number.calls kj2 g dO dN bA b5 b4 w0 _ ?side1 ?side2 A14.out).mono ?_); (case side1 => repeat (first | (with_reducible first | exact HI0.out | apply IsS63.alloc | apply IsS63.drewN | apply IsS63.drew | apply IsS63.set_0 | apply IsS63.set_1 | refine IsS63.far ?_ bd.out _) | exact HI0.out)); (case side2 => repeat (first | (with_reducible first | exact HB.out | apply below_alloc | apply pw_below_drewN | apply below_drew1 | refine below_set ?_ (IsS63.ge HI0.out) | refine below_set ?_ bq.out) | exact HB.out)); rintro e w20 ⟨rfl, hi, hb, hk⟩; refine ⟨_, rfl, ?_⟩; replace bi := Aside0.mk (KeepBut.blk hk (g' := bc) (o := .cells #[.string (⟨#[]⟩ : ByteArray), .int .u64 0, .int .u64 0, .slice none 0 0, .int .u64 0, .int .u64 0, .int .u64 0] 55 (0, 0)) zx10_1 bo.out (by simp)); replace HK := Aside0.mk (KeepBut.trans zx10_0 hk (.inl rfl)); replace HB := Aside0.mk (hb); replace HI0 := Aside0.mk (hi); (try clear hb); (try clear hb2); (try clear hk); (try clear hi)) | ((with_reducible refine gate_dst (N := 6) rfl ?_); refine box_event ?hg (N := 6) ?hd (cs := #[.string (⟨#[]⟩ : ByteArray), .int .u64 0, .int .u64 0, .slice none 0 0, .int .u64 0, .int .u64 0, .int .u64 0]) (t := 55) ?hr ?_; (case hd => rfl); (case hg => rfl); (case hr => first | (go_simp; done) | (go_simp; rfl)); intro be hg w21 hbox hb; replace HB := Aside0.mk (below_step (by repeat (first | (with_reducible first | exact HB.out | apply below_alloc | apply pw_below_drewN | apply below_drew1 | refine below_set ?_ (IsS63.ge HI0.out) | refine below_set ?_ bq.out) | exact HB.out)) hb); have ba := Aside0.mk (hbox); have b2 := Aside0.mk ((by rw [hg]; exact (keep_size (w := w) (g := g) (row := none) zx10_0) : w.heap.size ≤ be)); have bL := Aside0.mk ((Nat.le_trans HW0.out (by rw [hg]; exact (keep_size (w := w) (g := g) (row := none) zx10_0) : w.heap.size ≤ be) : w0.heap.size ≤ be)); replace HK := Aside0.mk (KeepBut.trans zx10_0 (KeepBut.of_below hb g none) (.inl rfl)); have bw := Aside0.mk ((by rw [hg]; exact Nat.ne_of_lt (blk_lt (g := bc) (o := .cells #[.string (⟨#[]⟩ : ByteArray), .int .u64 0, .int .u64 0, .slice none 0 0, .int .u64 0, .int .u64 0, .int .u64 0] 55 (0, 0)) zx10_1) : bc ≠ be)); have bD := Aside0.mk ((by rw [hg]; exact Nat.ne_of_gt (blk_lt (g := bc) (o := .cells #[.string (⟨#[]⟩ : ByteArray), .int .u64 0, .int .u64 0, .slice none 0 0, .int .u64 0, .int .u64 0, .int .u64 0] 55 (0, 0)) zx10_1) : be ≠ bc)); replace bi := Aside0.mk (blk_below (g := bc) (o := .cells #[.string (⟨#[]⟩ : ByteArray), .int .u64 0, .int .u64 0, .slice none 0 0, .int .u64 0, .int .u64 0, .int .u64 0] 55 (0, 0)) zx10_1 hb); have bm := Aside0.mk ((by rw [hg]; exact Nat.ne_of_lt (IsS63.lt (show IsS63 w0 _ g b5 b4 from by repeat (first | (with_reducible first | exact HI0.out | apply IsS63.alloc | apply IsS63.drewN | apply IsS63.drew | apply IsS63.set_0 | apply IsS63.set_1 | refine IsS63.far ?_ bd.out _) | exact HI0.out))) : g ≠ be)); have bE := Aside0.mk ((by rw [hg]; exact Nat.ne_of_gt (IsS63.lt (show IsS63 w0 _ g b5 b4 from by repeat (first | (with_reducible first | exact HI0.out | apply IsS63.alloc | apply IsS63.drewN | apply IsS63.drew | apply IsS63.set_0 | apply IsS63.set_1 | refine IsS63.far ?_ bd.out _) | exact HI0.out))) : be ≠ g)); replace HI0 := Aside0.mk (IsS63.below (by repeat (first | (with_reducible first | exact HI0.out | apply IsS63.alloc | apply IsS63.drewN | apply IsS63.drew | apply IsS63.set_0 | apply IsS63.set_1 | refine IsS63.far ?_ bd.out _) | exact HI0.out)) hb); clear hb hbox hg; have jy := bD.out; have jo := bw.out; have jx := bE.out; have jn := bm.out; have dI : w21.cell? ⟨be, 0, none⟩ = some (.string (⟨#[]⟩ : ByteArray)) := (blk_cell ba.out 0).trans rfl; have dH : w21.cell? ⟨be, 1, none⟩ = some (.int .u64 0) := (blk_cell ba.out 1).trans rfl; have dG : w21.cell? ⟨be, 2, none⟩ = some (.int .u64 0) := (blk_cell ba.out 2).trans rfl; have dF : w21.cell? ⟨be, 3, none⟩ = some (.slice none 0 0) := (blk_cell ba.out 3).trans rfl; have dE : w21.cell? ⟨be, 4, none⟩ = some (.int .u64 0) := (blk_cell ba.out 4).trans rfl; have dD : w21.cell? ⟨be, 5, none⟩ = some (.int .u64 0) := (blk_cell ba.out 5).trans rfl; have dC : w21.cell? ⟨be, 6, none⟩ = some (.int .u64 0) := (blk_cell ba.out 6).trans rfl; have dB := blk_frozen ba.out 0; have dA := blk_frozen ba.out 1; have dz := blk_frozen ba.out 2; have dy := blk_frozen ba.out 3; have dx := blk_frozen ba.out 4; have dw := blk_frozen ba.out 5; have dv := blk_frozen ba.out 6) | ((with_reducible refine gate_callee (f := 27) rfl ?_); refine goesL_ (some 48) rfl rfl Tryd.func27 (by kernel_rfl) rfl #[.pointer (some ⟨g, 0, none⟩)] rfl zx10_2 ?_; (with_reducible refine (mark_reader_number.calls kj2 g b5 b4 dM dL dK w0 _ ?side1 ?side2 A15.out).mono ?_); (case side1 => repeat (first | (with_reducible first | exact HI0.out | apply IsS63.alloc | apply IsS63.drewN | apply IsS63.drew | apply IsS63.set_0 | apply IsS63.set_1 | refine IsS63.far ?_ bd.out _ | refine IsS63.far ?_ bm.out _) | exact HI0.out)); (case side2 => repeat (first | (with_reducible first | exact HB.out | apply below_alloc | apply pw_below_drewN | apply below_drew1 | refine below_set ?_ (IsS63.ge HI0.out) | refine below_set ?_ bq.out | refine below_set ?_ bL.out) | exact HB.out)); rintro e w25 ⟨rfl, hi, hb, hk⟩; refine ⟨_, rfl, ?_⟩; replace bi := Aside0.mk (KeepBut.blk hk (g' := bc) (o := .cells #[.string (⟨#[]⟩ : ByteArray), .int .u64 0, .int .u64 0, .slice none 0 0, .int .u64 0, .int .u64 0, .int .u64 0] 55 (0, 0)) (by (iterate 7 ((with_reducible repeat (first | refine blk_drewN ?_ _ | refine blk_drew ?_ | refine blk_alloc ?_ _)); refine blk_far ?_ bw.out _)); (with_reducible repeat (first | refine blk_drewN ?_ _ | refine blk_drew ?_ | refine blk_alloc ?_ _)); exact bi.out) bo.out (by simp)); replace ba := Aside0.mk (KeepBut.blk hk (g' := be) (o := .cells #[.string bf, .int .u64 bj, .int .u64 bh, .slice none 0 0, .int .u64 bp, .int .u64 bx, .int .u64 bA] 55 (0, 0)) (by (with_reducible repeat (first | refine blk_drewN ?_ _ | refine blk_drew ?_ | refine blk_alloc ?_ _)); refine blk_put (cs := #[.string bf, .int .u64 bj, .int .u64 bh, .slice none 0 0, .int .u64 bp, .int .u64 bx, .int .u64 0]) ?_ 6 _ rfl; (with_reducible repeat (first | refine blk_drewN ?_ _ | refine blk_drew ?_ | refine blk_alloc ?_ _)); refine blk_put (cs := #[.string bf, .int .u64 bj, .int .u64 bh, .slice none 0 0, .int .u64 bp, .int .u64 0, .int .u64 0]) ?_ 5 _ rfl; (with_reducible repeat (first | refine blk_drewN ?_ _ | refine blk_drew ?_ | refine blk_alloc ?_ _)); refine blk_put (cs := #[.string bf, .int .u64 bj, .int .u64 bh, .slice none 0 0, .int .u64 0, .int .u64 0, .int .u64 0]) ?_ 4 _ rfl; (with_reducible repeat (first | refine blk_drewN ?_ _ | refine blk_drew ?_ | refine blk_alloc ?_ _)); refine blk_put (cs := #[.string bf, .int .u64 bj, .int .u64 bh, .slice none 0 0, .int .u64 0, .int .u64 0, .int .u64 0]) ?_ 3 _ rfl; (with_reducible repeat (first | refine blk_drewN ?_ _ | refine blk_drew ?_ | refine blk_alloc ?_ _)); refine blk_put (cs := #[.string bf, .int .u64 bj, .int .u64 0, .slice none 0 0, .int .u64 0, .int .u64 0, .int .u64 0]) ?_ 2 _ rfl; (with_reducible repeat (first | refine blk_drewN ?_ _ | refine blk_drew ?_ | refine blk_alloc ?_ _)); refine blk_put (cs := #[.string bf, .int .u64 0, .int .u64 0, .slice none 0 0, .int .u64 0, .int .u64 0, .int .u64 0]) ?_ 1 _ rfl; (with_reducible repeat (first | refine blk_drewN ?_ _ | refine blk_drew ?_ | refine blk_alloc ?_ _)); refine blk_put (cs := #[.string (⟨#[]⟩ : ByteArray), .int .u64 0, .int .u64 0, .slice none 0 0, .int .u64 0, .int .u64 0, .int .u64 0]) ?_ 0 _ rfl; (with_reducible repeat (first | refine blk_drewN ?_ _ | refine blk_drew ?_ | refine blk_alloc ?_ _)); exact ba.out) bE.out (by simp)); replace HK := Aside0.mk (KeepBut.trans zx10_3 hk (.inl rfl)); replace HB := Aside0.mk (hb); replace HI0 := Aside0.mk (hi); (try clear hb); (try clear hb2); (try clear hk); (try clear hi)))
  go_loopg [7, 8] kj2 (fun kq v7 v8 w' => ∃ (bJ : Int) (bM : Int) (bl : ByteArray) (br : Bool) (bb : List Int) (bu : Value), v7 = .int .u64 bJ ∧ v8 = .int .u64 bM ∧ Aside0 (mark_reader_dest.l0 kq bJ bM bl br bf bj bh bb bp bx bA = some (r1, r2, r3, r4, r5, r6, r7, r8, r9)) ∧ Aside0 (kq ≤ kj2) ∧ Aside0 (Kd.R (Kd.int .u64) 22 w' w.heap.size (fun _ => True) bu bb) ∧ Aside0 (w'.heap[bc]? = some (.cells #[.string (⟨#[]⟩ : ByteArray), .int .u64 0, .int .u64 0, (.slice none 0 0), .int .u64 0, .int .u64 0, .int .u64 0] 55 (0, 0))) ∧ Aside0 (w'.heap[be]? = some (.cells #[.string bf, .int .u64 bj, .int .u64 bh, bu, .int .u64 bp, .int .u64 bx, .int .u64 bA] 55 (0, 0))) ∧ Aside0 (IsS63 w0 w' g bl br) ∧ Aside0 (KeepBut w w' g none) ∧ Aside0 (Below w0.heap.size w0 w'))
  case atStart => exact ⟨(bh), (dM), (dL), (dK), (([] : List Int)), (.slice none 0 0), (by first | rfl | (simp; done) | (simp [*]; done)), (by first | rfl | (simp; done) | (simp [*]; done)), H', ⟨Nat.le_refl _⟩, ⟨by first | exact Kd.R_nil _ _ _ _ _ | exact Kd.N_nil _ _ _ _ _ | exact Kd.V_nil _ _ _ _ _ | exact Kd.Q_nil _ _ _ _ _ | exact Kd.S_nil _ _ _ _ _⟩, ⟨by (with_reducible repeat (first | refine blk_drewN ?_ _ | refine blk_drew ?_ | refine blk_alloc ?_ _)); exact bi.out⟩, ⟨by (with_reducible repeat (first | refine blk_drewN ?_ _ | refine blk_drew ?_ | refine blk_alloc ?_ _)); exact ba.out⟩, ⟨by repeat (first | (with_reducible first | exact HI0.out | apply IsS63.alloc | apply IsS63.drewN | apply IsS63.drew | apply IsS63.set_0 | apply IsS63.set_1 | refine IsS63.far ?_ bd.out _ | refine IsS63.far ?_ bm.out _) | exact HI0.out)⟩, ⟨by repeat (first | (with_reducible first | exact HK.out | apply KeepBut.set_ | apply keep_drewN | apply keep_drew | apply keep_alloc | refine keep_far ?_ bI.out _ | refine keep_far ?_ b2.out _) | exact HK.out)⟩, ⟨by repeat (first | (with_reducible first | exact HB.out | apply below_alloc | apply pw_below_drewN | apply below_drew1 | refine below_set ?_ (IsS63.ge HI0.out) | refine below_set ?_ bq.out | refine below_set ?_ bL.out) | exact HB.out)⟩⟩
  case round =>
   clear H'
   (try clear c2); (try clear p2); (try clear c4); (try clear c7); (try clear c22); (try clear c23); (try clear dI); (try clear dH); (try clear dG); (try clear dF); (try clear dE); (try clear dD); (try clear dC); (try clear dh); (try clear dg); (try clear df); (try clear de); (try clear dd); (try clear dc); (try clear dB); (try clear dA); (try clear dz); (try clear dy); (try clear dx); (try clear dw); (try clear dv); (try clear db); (try clear da); (try clear b9); (try clear b8); (try clear b7); (try clear b6); (try clear p2)
   obtain ⟨bJ, bM, bl, br, bb, bu, rfl, rfl, HA, HK2, bg, bi, ba, HI0, HK, HB⟩ := hrel
   cases gk with
   | zero => exact absurd HA.out (by simp [mark_reader_dest.l0])
   | succ k2 => ?_
   have H := HA.out
   clear HA
   simp only [mark_reader_dest.l0] at H
   by_cases c26 : bM > 0
   case neg =>
    rw [if_neg c26] at H
    have dY : decide (0 < bM) = false := decide_eq_false c26
    clear c26
    simp only [Option.some.injEq, Prod.mk.injEq] at H
    obtain ⟨rfl, rfl, rfl, rfl, rfl, rfl, rfl, rfl, rfl⟩ := H
    have jr := bD.out
    have jh := bw.out
    have jq := bE.out
    have jg := bm.out
    obtain ⟨hp, hn, hm, hl, hj, hh, hf, gp, go, gn, gm, gl, gj, gi⟩ := cx10_bc7 ba.out
    have jp := bo.out
    have jf := bd.out
    obtain ⟨he, hc, ha, gZ, gY, gX, gW, gh, gg, gf, gc, gb, ga, d9⟩ := cx10_bc7 bi.out
    obtain ⟨dp, di, jc⟩ := Kd.R_slice bg.out
    subst jc
    go_wp2
    refine bodyPost_ret (results_cell_row rfl _ _ bc 55 #[.string bf, .int .u64 bj, .int .u64 bh, .slice dp bb.length di, .int .u64 bp, .int .u64 bx, .int .u64 bA] (0, 0) _ rfl (by (with_reducible repeat (first | refine blk_drewN ?_ _ | refine blk_drew ?_ | refine blk_alloc ?_ _)); refine blk_put (cs := #[.string bf, .int .u64 bj, .int .u64 bh, .slice dp bb.length di, .int .u64 bp, .int .u64 bx, .int .u64 0]) ?_ 6 _ rfl; (with_reducible repeat (first | refine blk_drewN ?_ _ | refine blk_drew ?_ | refine blk_alloc ?_ _)); refine blk_put (cs := #[.string bf, .int .u64 bj, .int .u64 bh, .slice dp bb.length di, .int .u64 bp, .int .u64 0, .int .u64 0]) ?_ 5 _ rfl; (with_reducible repeat (first | refine blk_drewN ?_ _ | refine blk_drew ?_ | refine blk_alloc ?_ _)); refine blk_put (cs := #[.string bf, .int .u64 bj, .int .u64 bh, .slice dp bb.length di, .int .u64 0, .int .u64 0, .int .u64 0]) ?_ 4 _ rfl; (with_reducible repeat (first | refine blk_drewN ?_ _ | refine blk_drew ?_ | refine blk_alloc ?_ _)); refine blk_put (cs := #[.string bf, .int .u64 bj, .int .u64 bh, .slice none 0 0, .int .u64 0, .int .u64 0, .int .u64 0]) ?_ 3 _ rfl; (with_reducible repeat (first | refine blk_drewN ?_ _ | refine blk_drew ?_ | refine blk_alloc ?_ _)); refine blk_put (cs := #[.string bf, .int .u64 bj, .int .u64 0, .slice none 0 0, .int .u64 0, .int .u64 0, .int .u64 0]) ?_ 2 _ rfl; (with_reducible repeat (first | refine blk_drewN ?_ _ | refine blk_drew ?_ | refine blk_alloc ?_ _)); refine blk_put (cs := #[.string bf, .int .u64 0, .int .u64 0, .slice none 0 0, .int .u64 0, .int .u64 0, .int .u64 0]) ?_ 1 _ rfl; (with_reducible repeat (first | refine blk_drewN ?_ _ | refine blk_drew ?_ | refine blk_alloc ?_ _)); refine blk_put (cs := #[.string (⟨#[]⟩ : ByteArray), .int .u64 0, .int .u64 0, .slice none 0 0, .int .u64 0, .int .u64 0, .int .u64 0]) ?_ 0 _ rfl; (with_reducible repeat (first | refine blk_drewN ?_ _ | refine blk_drew ?_ | refine blk_alloc ?_ _)); exact bi.out) Tryd.underlying55 rfl (by kernel_rfl)) rfl ?_
    exact ⟨_, by first | rfl | (simp [errW_none, errW_some] <;> rfl) | (simp [*, errW_none, errW_some] <;> rfl), by (with_reducible repeat (first | apply Kd.R_alloc | apply Kd.R_drewN | apply Kd.R_drew)); exact Kd.R_mono (Kd.R_far (p := ⟨bc, 6, none⟩) (Kd.R_far (p := ⟨bc, 5, none⟩) (Kd.R_far (p := ⟨bc, 4, none⟩) (Kd.R_far (p := ⟨bc, 3, none⟩) (Kd.R_far (p := ⟨bc, 2, none⟩) (Kd.R_far (p := ⟨bc, 1, none⟩) (Kd.R_far (p := ⟨bc, 0, none⟩) (Kd.R_types bg.out bi.out (by decide)) (fun _ hk => hk.2) (.string bf)) (fun _ hk => hk.2) (.int .u64 bj)) (fun _ hk => hk.2) (.int .u64 bh)) (fun _ hk => hk.2) (.slice dp bb.length di)) (fun _ hk => hk.2) (.int .u64 bp)) (fun _ hk => hk.2) (.int .u64 bx)) (fun _ hk => hk.2) (.int .u64 bA)) (fun _ hk => trivial), by repeat (first | (with_reducible first | exact HI0.out | apply IsS63.alloc | apply IsS63.drewN | apply IsS63.drew | apply IsS63.set_0 | apply IsS63.set_1 | refine IsS63.far ?_ bd.out _ | refine IsS63.far ?_ bm.out _) | exact HI0.out), by repeat (first | (with_reducible first | exact HB.out | apply below_alloc | apply pw_below_drewN | apply below_drew1 | refine below_set ?_ (IsS63.ge HI0.out) | refine below_set ?_ bq.out | refine below_set ?_ bL.out) | exact HB.out), by repeat (first | (with_reducible first | exact HK.out | apply KeepBut.set_ | apply keep_drewN | apply keep_drew | apply keep_alloc | refine keep_far ?_ bI.out _ | refine keep_far ?_ b2.out _) | exact HK.out)⟩

   rw [if_pos c26] at H
   have dY : decide (0 < bM) = true := decide_eq_true c26
   clear c26
   by_cases c27 : br = true
   ·subst c27
    have H1 : (some (bf, bj, bh, bb, bp, bx, bA, bl, true)) = some (r1, r2, r3, r4, r5, r6, r7, r8, r9) := by rw [if_pos rfl] at H; exact H
    clear H
    have H := H1
    clear H1
    simp only [Option.some.injEq, Prod.mk.injEq] at H
    obtain ⟨rfl, rfl, rfl, rfl, rfl, rfl, rfl, rfl, rfl⟩ := H
    obtain ⟨b1, dW⟩ := HI0.out
    have hY := cellS63_0 b1
    have hX := cellS63_1 b1
    have gV := blk_frozen b1 0
    have gU := blk_frozen b1 1
    clear b1 dW
    have jw := bD.out
    have jm := bw.out
    have jv := bE.out
    have jl := bm.out
    obtain ⟨hW, hV, hU, hT, hS, hR, hQ, gT, gS, gR, gQ, gP, gO, gN⟩ := cx10_bc7 ba.out
    have ju := bo.out
    have jk := bd.out
    obtain ⟨hP, hO, hN, hM, hL, hK, hJ, gM, gL, gK, gJ, gI, gH, gG⟩ := cx10_bc7 bi.out
    obtain ⟨dq, dj, je⟩ := Kd.R_slice bg.out
    subst je
    go_wp2
    refine bodyPost_ret (results_cell_row rfl _ _ bc 55 #[.string bf, .int .u64 bj, .int .u64 bh, .slice dq bb.length dj, .int .u64 bp, .int .u64 bx, .int .u64 bA] (0, 0) _ rfl (by (with_reducible repeat (first | refine blk_drewN ?_ _ | refine blk_drew ?_ | refine blk_alloc ?_ _)); refine blk_put (cs := #[.string bf, .int .u64 bj, .int .u64 bh, .slice dq bb.length dj, .int .u64 bp, .int .u64 bx, .int .u64 0]) ?_ 6 _ rfl; (with_reducible repeat (first | refine blk_drewN ?_ _ | refine blk_drew ?_ | refine blk_alloc ?_ _)); refine blk_put (cs := #[.string bf, .int .u64 bj, .int .u64 bh, .slice dq bb.length dj, .int .u64 bp, .int .u64 0, .int .u64 0]) ?_ 5 _ rfl; (with_reducible repeat (first | refine blk_drewN ?_ _ | refine blk_drew ?_ | refine blk_alloc ?_ _)); refine blk_put (cs := #[.string bf, .int .u64 bj, .int .u64 bh, .slice dq bb.length dj, .int .u64 0, .int .u64 0, .int .u64 0]) ?_ 4 _ rfl; (with_reducible repeat (first | refine blk_drewN ?_ _ | refine blk_drew ?_ | refine blk_alloc ?_ _)); refine blk_put (cs := #[.string bf, .int .u64 bj, .int .u64 bh, .slice none 0 0, .int .u64 0, .int .u64 0, .int .u64 0]) ?_ 3 _ rfl; (with_reducible repeat (first | refine blk_drewN ?_ _ | refine blk_drew ?_ | refine blk_alloc ?_ _)); refine blk_put (cs := #[.string bf, .int .u64 bj, .int .u64 0, .slice none 0 0, .int .u64 0, .int .u64 0, .int .u64 0]) ?_ 2 _ rfl; (with_reducible repeat (first | refine blk_drewN ?_ _ | refine blk_drew ?_ | refine blk_alloc ?_ _)); refine blk_put (cs := #[.string bf, .int .u64 0, .int .u64 0, .slice none 0 0, .int .u64 0, .int .u64 0, .int .u64 0]) ?_ 1 _ rfl; (with_reducible repeat (first | refine blk_drewN ?_ _ | refine blk_drew ?_ | refine blk_alloc ?_ _)); refine blk_put (cs := #[.string (⟨#[]⟩ : ByteArray), .int .u64 0, .int .u64 0, .slice none 0 0, .int .u64 0, .int .u64 0, .int .u64 0]) ?_ 0 _ rfl; (with_reducible repeat (first | refine blk_drewN ?_ _ | refine blk_drew ?_ | refine blk_alloc ?_ _)); exact bi.out) Tryd.underlying55 rfl (by kernel_rfl)) rfl ?_
    exact ⟨_, by first | rfl | (simp [errW_none, errW_some] <;> rfl) | (simp [*, errW_none, errW_some] <;> rfl), by (with_reducible repeat (first | apply Kd.R_alloc | apply Kd.R_drewN | apply Kd.R_drew)); exact Kd.R_mono (Kd.R_far (p := ⟨bc, 6, none⟩) (Kd.R_far (p := ⟨bc, 5, none⟩) (Kd.R_far (p := ⟨bc, 4, none⟩) (Kd.R_far (p := ⟨bc, 3, none⟩) (Kd.R_far (p := ⟨bc, 2, none⟩) (Kd.R_far (p := ⟨bc, 1, none⟩) (Kd.R_far (p := ⟨bc, 0, none⟩) (Kd.R_types bg.out bi.out (by decide)) (fun _ hk => hk.2) (.string bf)) (fun _ hk => hk.2) (.int .u64 bj)) (fun _ hk => hk.2) (.int .u64 bh)) (fun _ hk => hk.2) (.slice dq bb.length dj)) (fun _ hk => hk.2) (.int .u64 bp)) (fun _ hk => hk.2) (.int .u64 bx)) (fun _ hk => hk.2) (.int .u64 bA)) (fun _ hk => trivial), by repeat (first | (with_reducible first | exact HI0.out | apply IsS63.alloc | apply IsS63.drewN | apply IsS63.drew | apply IsS63.set_0 | apply IsS63.set_1 | refine IsS63.far ?_ bd.out _ | refine IsS63.far ?_ bm.out _) | exact HI0.out), by repeat (first | (with_reducible first | exact HB.out | apply below_alloc | apply pw_below_drewN | apply below_drew1 | refine below_set ?_ (IsS63.ge HI0.out) | refine below_set ?_ bq.out | refine below_set ?_ bL.out) | exact HB.out), by repeat (first | (with_reducible first | exact HK.out | apply KeepBut.set_ | apply keep_drewN | apply keep_drew | apply keep_alloc | refine keep_far ?_ bI.out _ | refine keep_far ?_ b2.out _) | exact HK.out)⟩
   replace c27 := Bool.eq_false_iff.mpr c27
   subst c27
   have H1 : ((mark_reader_number.f k2 bl false).bind fun bG => (if bb.length < 17592186044416 then (mark_reader_dest.l0 k2 (IntKind.u64.wrap (bJ + bG.1)) (IntKind.u64.wrap (bM - 1)) bG.2.1 bG.2.2 bf bj bh (bb ++ [IntKind.u64.wrap (bJ + bG.1)]) bp bx bA) else (none))) = some (r1, r2, r3, r4, r5, r6, r7, r8, r9) := by rw [if_neg (show ¬ (false = true) by decide)] at H; exact H
   clear H
   have H := H1
   clear H1
   replace H := Option.bind_eq_some_iff.mp H
   obtain ⟨⟨bY, dt, ds⟩, d2, H⟩ := H
   replace H : (if bb.length < 17592186044416 then (mark_reader_dest.l0 k2 (IntKind.u64.wrap (bJ + bY)) (IntKind.u64.wrap (bM - 1)) dt ds bf bj bh (bb ++ [IntKind.u64.wrap (bJ + bY)]) bp bx bA) else (none)) = some (r1, r2, r3, r4, r5, r6, r7, r8, r9) := H
   have A35 := Aside0.mk d2
   clear d2
   by_cases c36 : bb.length < 17592186044416
   case neg =>
    rw [if_neg c36] at H
    exact absurd H (by simp)
   rw [if_pos c36] at H
   have d0 := Aside0.mk c36
   clear c36
   obtain ⟨dr, bZ⟩ : ∃ y_ : List Int, y_ = (bb ++ [IntKind.u64.wrap (bJ + bY)]) := ⟨_, rfl⟩
   replace H : (mark_reader_dest.l0 k2 (IntKind.u64.wrap (bJ + bY)) (IntKind.u64.wrap (bM - 1)) dt ds bf bj bh dr bp bx bA) = some (r1, r2, r3, r4, r5, r6, r7, r8, r9) := by first | (rw [bZ]; with_reducible exact H) | (have H2_ := (Option.bind_some _ _).symm.trans H; rw [bZ]; with_reducible exact H2_) | (have H2_ := (Option.bind_some _ _).symm.trans H; with_reducible exact H2_) | with_reducible exact H | (rw [bZ]; exact H) | exact H
   have dZ := Aside0.mk bZ
   clear bZ
   have H' := Aside0.mk H
   clear H
   obtain ⟨b0, dV⟩ := HI0.out
   have hH := cellS63_0 b0
   have hG := cellS63_1 b0
   have gF := blk_frozen b0 0
   have gE := blk_frozen b0 1
   clear b0 dV
   go_wp2_with (first | ((with_reducible refine gate_callee (f := 27) rfl ?_); refine goesL_ (some 62) rfl rfl Tryd.func27 (by kernel_rfl) rfl #[.pointer (some ⟨g, 0, none⟩)] rfl zx10_2 ?_; (with_reducible refine (mark_reader_number.calls k2 g bl false bY dt ds w0 _ ?side1 ?side2 A35.out).mono ?_); (case side1 => repeat (first | (with_reducible first | exact HI0.out | apply IsS63.alloc | apply IsS63.drewN | apply IsS63.drew | apply IsS63.set_0 | apply IsS63.set_1 | refine IsS63.far ?_ bd.out _ | refine IsS63.far ?_ bm.out _) | exact HI0.out)); (case side2 => repeat (first | (with_reducible first | exact HB.out | apply below_alloc | apply pw_below_drewN | apply below_drew1 | refine below_set ?_ (IsS63.ge HI0.out) | refine below_set ?_ bq.out | refine below_set ?_ bL.out) | exact HB.out)); rintro e w38 ⟨rfl, hi, hb, hk⟩; refine ⟨_, rfl, ?_⟩; replace bg := Aside0.mk (Kd.R_mono (Kd.R_keep (IsS63.apart (show IsS63 w0 _ g bl false from by repeat (first | (with_reducible first | exact HI0.out | apply IsS63.alloc | apply IsS63.drewN | apply IsS63.drew | apply IsS63.set_0 | apply IsS63.set_1 | refine IsS63.far ?_ bd.out _ | refine IsS63.far ?_ bm.out _) | exact HI0.out)) (by (with_reducible repeat (first | apply Kd.R_alloc | apply Kd.R_drewN | apply Kd.R_drew)); exact bg.out) (by decide)) hk (fun _ h => h.2)) (fun _ h => h.1)); replace bi := Aside0.mk (KeepBut.blk hk (g' := bc) (o := .cells #[.string (⟨#[]⟩ : ByteArray), .int .u64 0, .int .u64 0, .slice none 0 0, .int .u64 0, .int .u64 0, .int .u64 0] 55 (0, 0)) zx10_1 bo.out (by simp)); replace ba := Aside0.mk (KeepBut.blk hk (g' := be) (o := .cells #[.string bf, .int .u64 bj, .int .u64 bh, bu, .int .u64 bp, .int .u64 bx, .int .u64 bA] 55 (0, 0)) (by (with_reducible repeat (first | refine blk_drewN ?_ _ | refine blk_drew ?_ | refine blk_alloc ?_ _)); exact ba.out) bE.out (by simp)); replace HK := Aside0.mk (KeepBut.trans zx10_3 hk (.inl rfl)); replace HB := Aside0.mk (hb); replace HI0 := Aside0.mk (hi); (try clear hb); (try clear hb2); (try clear hk); (try clear hi); have jt := bD.out; have jj := bw.out; have js := bE.out; have ji := bm.out; have hF : w38.cell? ⟨be, 0, none⟩ = some (.string bf) := (blk_cell ba.out 0).trans rfl; have hE : w38.cell? ⟨be, 1, none⟩ = some (.int .u64 bj) := (blk_cell ba.out 1).trans rfl; have hD : w38.cell? ⟨be, 2, none⟩ = some (.int .u64 bh) := (blk_cell ba.out 2).trans rfl; have hC : w38.cell? ⟨be, 3, none⟩ = some (bu) := (blk_cell ba.out 3).trans rfl; have hA : w38.cell? ⟨be, 4, none⟩ = some (.int .u64 bp) := (blk_cell ba.out 4).trans rfl; have hz : w38.cell? ⟨be, 5, none⟩ = some (.int .u64 bx) := (blk_cell ba.out 5).trans rfl; have hy : w38.cell? ⟨be, 6, none⟩ = some (.int .u64 bA) := (blk_cell ba.out 6).trans rfl; have gD := blk_frozen ba.out 0; have gC := blk_frozen ba.out 1; have gB := blk_frozen ba.out 2; have gA := blk_frozen ba.out 3; have gz := blk_frozen ba.out 4; have gy := blk_frozen ba.out 5; have gx := blk_frozen ba.out 6) | ((with_reducible refine gate_builtin (b := .append) (xs := #[.tmp 65, .tmp 67]) rfl ?_); at_builtin; refine Kd.R_append (Kd.int .u64) w.heap.size rfl (.tmp 65) (.tmp 67) 53 22 (.int .u64 0) 8 rfl Tryd.underlying53 info22 rfl (by decide) (by omega) bu bb (IntKind.u64.wrap (bJ + bY)) [.int .u64 (IntKind.u64.wrap (bJ + bY))] (fun _ => True) (fun _ => False) rfl rfl ?aP (fun _ hk => hk.elim) ?aF ?aO (Below.refl _ _) ?aS ?aL ?_; (case aP => exact rfl); (case aF => exact (fun _ _ => trivial)); (case aO => exact (by (with_reducible repeat (first | apply Kd.R_alloc | apply Kd.R_drewN | apply Kd.R_drew)); exact bg.out)); (case aS => exact (keep_size (w := w) (g := g) (row := none) zx10_3)); (case aL => have := d0.out; omega); intro jz w42 ho hb hg hat; rw [← dZ.out] at ho; have n0_ := Aside0.mk (blk_grown (g := bc) (o := .cells #[.string (⟨#[]⟩ : ByteArray), .int .u64 0, .int .u64 0, .slice none 0 0, .int .u64 0, .int .u64 0, .int .u64 0] 55 (0, 0)) zx10_1 hg (Kd.R_ne bg.out bi.out (by decide))); have n1_ := Aside0.mk (blk_grown (g := be) (o := .cells #[.string bf, .int .u64 bj, .int .u64 bh, bu, .int .u64 bp, .int .u64 bx, .int .u64 bA] 55 (0, 0)) (by (with_reducible repeat (first | refine blk_drewN ?_ _ | refine blk_drew ?_ | refine blk_alloc ?_ _)); exact ba.out) hg (Kd.R_ne bg.out ba.out (by decide))); have n2_ := Aside0.mk (IsS63.grown (by repeat (first | (with_reducible first | exact HI0.out | apply IsS63.alloc | apply IsS63.drewN | apply IsS63.drew | apply IsS63.set_0 | apply IsS63.set_1 | refine IsS63.far ?_ bd.out _ | refine IsS63.far ?_ bm.out _) | exact HI0.out)) hg (IsS63.own_ne HI0.out bg.out (by decide))); have n3_ := Aside0.mk (below_weaken (by repeat (first | (with_reducible first | exact HB.out | apply below_alloc | apply pw_below_drewN | apply below_drew1 | refine below_set ?_ (IsS63.ge HI0.out) | refine below_set ?_ bq.out | refine below_set ?_ bL.out) | exact HB.out)) HL.out hb); have n4_ := Aside0.mk (KeepBut.trans zx10_3 (KeepBut.of_grown hg g) (Kd.R_base2 bg.out)); have n5_ := Aside0.mk (ho); clear bi; clear ba; clear HI0; clear HB; clear HK; clear bg; have bi := n0_; have ba := n1_; have HI0 := n2_; have HB := n3_; have HK := n4_; have dJ := n5_; clear n0_ n1_ n2_ n3_ n4_ n5_; clear ho hb hg hat; obtain ⟨d1, dX, jd⟩ := Kd.R_slice dJ.out; subst jd; have hx : w42.cell? ⟨be, 0, none⟩ = some (.string bf) := (blk_cell ba.out 0).trans rfl; have hw : w42.cell? ⟨be, 1, none⟩ = some (.int .u64 bj) := (blk_cell ba.out 1).trans rfl; have hv : w42.cell? ⟨be, 2, none⟩ = some (.int .u64 bh) := (blk_cell ba.out 2).trans rfl; have hu : w42.cell? ⟨be, 3, none⟩ = some (bu) := (blk_cell ba.out 3).trans rfl; have ht : w42.cell? ⟨be, 4, none⟩ = some (.int .u64 bp) := (blk_cell ba.out 4).trans rfl; have hs : w42.cell? ⟨be, 5, none⟩ = some (.int .u64 bx) := (blk_cell ba.out 5).trans rfl; have hq : w42.cell? ⟨be, 6, none⟩ = some (.int .u64 bA) := (blk_cell ba.out 6).trans rfl; have gw := blk_frozen ba.out 0; have gv := blk_frozen ba.out 1; have gu := blk_frozen ba.out 2; have gt := blk_frozen ba.out 3; have gs := blk_frozen ba.out 4; have gr := blk_frozen ba.out 5; have gq := blk_frozen ba.out 6))
   go_roundg k2
   case measure => have := HJ2.out; have := HK2.out; omega
   case rel => exact ⟨(IntKind.u64.wrap (bJ + bY)), (IntKind.u64.wrap (bM - 1)), (dt), (ds), (dr), (.slice d1 dr.length dX), (by first | rfl | (simp; done) | (simp [*]; done)), (by first | rfl | (simp; done) | (simp [*]; done)), H', ⟨by have := HJ2.out; have := HK2.out; omega⟩, ⟨by (with_reducible repeat (first | apply Kd.R_alloc | apply Kd.R_drewN | apply Kd.R_drew)); exact Kd.R_mono (Kd.R_far (p := ⟨be, 3, none⟩) (Kd.R_types dJ.out ba.out (by decide)) (fun _ hk => hk.2) (.slice d1 dr.length dX)) (fun _ hk => trivial)⟩, ⟨by (with_reducible repeat (first | refine blk_drewN ?_ _ | refine blk_drew ?_ | refine blk_alloc ?_ _)); refine blk_far ?_ bw.out _; (with_reducible repeat (first | refine blk_drewN ?_ _ | refine blk_drew ?_ | refine blk_alloc ?_ _)); exact bi.out⟩, ⟨by (with_reducible repeat (first | refine blk_drewN ?_ _ | refine blk_drew ?_ | refine blk_alloc ?_ _)); refine blk_put (cs := #[.string bf, .int .u64 bj, .int .u64 bh, bu, .int .u64 bp, .int .u64 bx, .int .u64 bA]) ?_ 3 _ rfl; (with_reducible repeat (first | refine blk_drewN ?_ _ | refine blk_drew ?_ | refine blk_alloc ?_ _)); exact ba.out⟩, ⟨by repeat (first | (with_reducible first | exact HI0.out | apply IsS63.alloc | apply IsS63.drewN | apply IsS63.drew | apply IsS63.set_0 | apply IsS63.set_1 | refine IsS63.far ?_ bd.out _ | refine IsS63.far ?_ bm.out _) | exact HI0.out)⟩, ⟨by repeat (first | (with_reducible first | exact HK.out | apply KeepBut.set_ | apply keep_drewN | apply keep_drew | apply keep_alloc | refine keep_far ?_ bI.out _ | refine keep_far ?_ b2.out _) | exact HK.out)⟩, ⟨by repeat (first | (with_reducible first | exact HB.out | apply below_alloc | apply pw_below_drewN | apply below_drew1 | refine below_set ?_ (IsS63.ge HI0.out) | refine below_set ?_ bq.out | refine below_set ?_ bL.out) | exact HB.out)⟩⟩
end Go.Proofs.YtmbigoeldobaiaaDoor.XMrk
end
section
/- What the functions of the translation answer, each as a plain Lean function, and that the code comes to it; for a law: its row. Conditions: none but those that each theorem names. Written by a program of this session (wip/xp). -/
namespace Go.Proofs.YtmbigoeldobaiaaDoor.XMrk
open Go.RowKit Go.Proofs.YtmbigoeldobaiaaDoorW.PrintWords Go.Proofs.YtmbigoeldobaiaaDoorW.PrintLast Go.Proofs.YtmbigoeldobaiaaDoorW.PrintMore
attribute [local go_sem] max2_int min2_int max_two min_two max_three min_three max_four min_four   -- for this text's walks alone
theorem cx2_bc3 {w : World} {g : Nat} {t : TypeId} {x0 x1 x2 : Value} (h : w.heap[g]? = some (.cells #[x0, x1, x2] t (0, 0))) : w.cell? ⟨g, 0, none⟩ = some x0 ∧ w.cell? ⟨g, 1, none⟩ = some x1 ∧ w.cell? ⟨g, 2, none⟩ = some x2 ∧ w.frozen? ⟨g, 0, none⟩ = false ∧ w.frozen? ⟨g, 1, none⟩ = false ∧ w.frozen? ⟨g, 2, none⟩ = false :=
 ⟨(blk_cell h 0).trans rfl, (blk_cell h 1).trans rfl, (blk_cell h 2).trans rfl, blk_frozen h 0, blk_frozen h 1, blk_frozen h 2⟩
theorem cx2_bc7 {w : World} {g : Nat} {t : TypeId} {x0 x1 x2 x3 x4 x5 x6 : Value} (h : w.heap[g]? = some (.cells #[x0, x1, x2, x3, x4, x5, x6] t (0, 0))) : w.cell? ⟨g, 0, none⟩ = some x0 ∧ w.cell? ⟨g, 1, none⟩ = some x1 ∧ w.cell? ⟨g, 2, none⟩ = some x2 ∧ w.cell? ⟨g, 3, none⟩ = some x3 ∧ w.cell? ⟨g, 4, none⟩ = some x4 ∧ w.cell? ⟨g, 5, none⟩ = some x5 ∧ w.cell? ⟨g, 6, none⟩ = some x6 ∧ w.frozen? ⟨g, 0, none⟩ = false ∧ w.frozen? ⟨g, 1, none⟩ = false ∧ w.frozen? ⟨g, 2, none⟩ = false ∧ w.frozen? ⟨g, 3, none⟩ = false ∧ w.frozen? ⟨g, 4, none⟩ = false ∧ w.frozen? ⟨g, 5, none⟩ = false ∧ w.frozen? ⟨g, 6, none⟩ = false :=
 ⟨(blk_cell h 0).trans rfl, (blk_cell h 1).trans rfl, (blk_cell h 2).trans rfl, (blk_cell h 3).trans rfl, (blk_cell h 4).trans rfl, (blk_cell h 5).trans rfl, (blk_cell h 6).trans rfl, blk_frozen h 0, blk_frozen h 1, blk_frozen h 2, blk_frozen h 3, blk_frozen h 4, blk_frozen h 5, blk_frozen h 6⟩
theorem zx2_5 {p : Prop} (h : p := by first | rfl | (simp; done) | (simp [*]; done)) : p := h
theorem zx2_7 {p : Prop} (h : p := by first | (with_reducible assumption) | assumption) : p := h
theorem zx2_0 {p : Prop} (h : p := by (with_reducible repeat (first | refine blk_drewN ?_ _ | refine blk_drew ?_ | refine blk_alloc ?_ _)); exact ba.out) : p := h
theorem zx2_3 {p : Prop} (h : p := by (with_reducible repeat (first | refine blk_drewN ?_ _ | refine blk_drew ?_ | refine blk_alloc ?_ _)); exact bk.out) : p := h
theorem zx2_6 {p : Prop} (h : p := by repeat (first | (with_reducible first | exact HB.out | apply below_alloc | apply pw_below_drewN | apply below_drew1) | exact HB.out)) : p := h
theorem zx2_2 {p : Prop} (h : p := by (try simp only [List.map_toArray, List.map_cons, List.map_nil]); first | done | rfl | (simp only [List.length_drop, List.length_take]; rfl)) : p := h
theorem zx2_4 {p : Prop} (h : p := by repeat (first | (with_reducible first | exact HB.out | apply below_alloc | apply pw_below_drewN | apply below_drew1 | refine below_set ?_ bw.out) | exact HB.out)) : p := h
theorem zx2_1 {p : Prop} (h : p := by repeat (first | (with_reducible first | exact HB.out | apply below_alloc | apply pw_below_drewN | apply below_drew1 | refine below_set ?_ bw.out | refine below_set ?_ bz.out) | exact HB.out)) : p := h
set_option linter.unusedVariables false
set_option linter.unusedSimpArgs false

/-! ### ledger_Dest_right: function 31 -/
mutual
def ledger_Dest_right.j0 : Nat → Bool → ByteArray → Int → Int → List Int → Int → Int → Int → Int → Int → List (S55) → Option (Bool)
 | 0, _, _, _, _, _, _, _, _, _, _, _ => none
 | k + 1, x32, bO, bA, bu, br, bH, bG, bE, bI, bD, bN => if x32 = true then (some false) else (ledger_Dest_right.l0 k bu br (br.length : Int) 0 bO bA bu br bH bG bE bI bD bN)
def ledger_Dest_right.l0 : Nat → Int → List Int → Int → Int → ByteArray → Int → Int → List Int → Int → Int → Int → Int → Int → List (S55) → Option (Bool)
 | 0, _, _, _, _, _, _, _, _, _, _, _, _, _, _ => none
 | k + 1, x5, x36, x37, x38, bO, bA, bu, br, bH, bG, bE, bI, bD, bN => if x38 < x37 then (if 0 ≤ x38 then (if x38 < (x36.length : Int) then (if (rd x36 x38) ≤ x5 then (some false) else (if (rd x36 x38) ≥ bD then (some false) else (ledger_Dest_right.l0 k (rd x36 x38) x36 x37 (wrap64 (x38 + 1)) bO bA bu br bH bG bE bI bD bN))) else (none)) else (none)) else (if (IntKind.u64.wrap ((IntKind.u64.wrap (bD - bA)) - (IntKind.u64.wrap ((IntKind.u64.wrap (bu - bA)) + (IntKind.u64.wrap ((br.length : Int))))))) = 0 then (some ((IntKind.u64.wrap ((IntKind.u64.wrap (bH + bG)) + bE)) == (IntKind.u64.wrap ((IntKind.u64.wrap (bu - bA)) + (IntKind.u64.wrap ((br.length : Int))))))) else (if bu ≥ bI then (some ((IntKind.u64.wrap ((IntKind.u64.wrap (bH + bG)) + bE)) == (IntKind.u64.wrap ((IntKind.u64.wrap (bu - bA)) + (IntKind.u64.wrap ((br.length : Int))))))) else (some false)))
end
def ledger_Dest_right.f (k : Nat) (bf : ByteArray) (bc : Int) (bd : Int) (bb : List Int) (bn : Int) (bm : Int) (bl : Int) (bp : Int) (bg : Int) (bo : List (S55)) : Option (Bool) := (label_Name.f bf).bind fun gD => (if gD = true then (if bc < 1 then (ledger_Dest_right.j0 k true bf bc bd bb bn bm bl bp bg bo) else (if bd < bc then (ledger_Dest_right.j0 k true bf bc bd bb bn bm bl bp bg bo) else (ledger_Dest_right.j0 k (decide (bg < bd)) bf bc bd bb bn bm bl bp bg bo))) else (ledger_Dest_right.j0 k true bf bc bd bb bn bm bl bp bg bo))
set_option maxHeartbeats 8000000 in
set_option maxRecDepth 100000 in
theorem ledger_Dest_right.calls (k : Nat) (bf : ByteArray) (bc : Int) (bd : Int) (bC : Option Addr) (bB : Nat) (bb : List Int) (bn : Int) (bm : Int) (bl : Int) (bp : Int) (bg : Int) (bM : Option Addr) (bL : Nat) (bo : List (S55)) (r : Bool) (w : World) (gW : Kd.C (Kd.int .u64) w bC bb.length bb) (gY : bb.length ≤ bB) (gV : Kd.C k55 w bM bo.length bo) (gX : bo.length ≤ bL) (h : ledger_Dest_right.f k bf bc bd bb bn bm bl bp bg bo = some r) :
  Calls Tryd.prog 31 #[.agg #[.string bf, .int .u64 bc, .int .u64 bd, .slice bC bb.length bB, .int .u64 bn, .int .u64 bm, .int .u64 bl], .agg #[.int .u64 bp, .int .u64 bg, .slice bM bo.length bL]] w fun e w' => e = .returned (.bool r) ∧ Below w.heap.size w w' := by
 have j8 := Tryd.underlying55
 have j9 := Tryd.underlying25
 have gG := Aside0.mk gW
 have j5 := Aside0.mk gY
 clear gW gY
 have j3 := Aside0.mk gV
 have j4 := Aside0.mk gX
 clear gV gX
 have HB := Aside0.mk (Below.refl w.heap.size w)
 have H : ((label_Name.f bf).bind fun gD => (if gD = true then (if bc < 1 then (ledger_Dest_right.j0 k true bf bc bd bb bn bm bl bp bg bo) else (if bd < bc then (ledger_Dest_right.j0 k true bf bc bd bb bn bm bl bp bg bo) else (ledger_Dest_right.j0 k (decide (bg < bd)) bf bc bd bb bn bm bl bp bg bo))) else (ledger_Dest_right.j0 k true bf bc bd bb bn bm bl bp bg bo))) = some r := h
 clear h
 have HC3 := Aside0.mk H
 clear H
 go_enter Tryd.func31, Tryd.ntmps31
 go_upto_region 1 with (first | ((with_reducible refine gate_dst (N := 2) rfl ?_); refine box_event ?hg (N := 2) ?hd (cs := #[.string bf, .int .u64 bc, .int .u64 bd, .slice bC bb.length bB, .int .u64 bn, .int .u64 bm, .int .u64 bl]) (t := 55) ?hr ?_; (case hd => rfl); (case hg => rfl); (case hr => first | (go_simp; done) | (go_simp; rfl)); intro be hg w4 hbox hb; have ba := Aside0.mk (hbox); have j7 := Aside0.mk ((by rw [hg]; exact (below_size zx2_6) : w.heap.size ≤ be)); have bw := Aside0.mk ((by rw [hg]; exact (below_size zx2_6) : w.heap.size ≤ be)); replace HB := Aside0.mk (below_step zx2_6 hb); clear hb hbox hg) | ((with_reducible refine gate_dst (N := 3) rfl ?_); refine box_event ?hg (N := 3) ?hd (cs := #[.int .u64 bp, .int .u64 bg, .slice bM bo.length bL]) (t := 25) ?hr ?_; (case hd => rfl); (case hg => rfl); (case hr => first | (go_simp; done) | (go_simp; rfl)); intro bx hg w5 hbox hb; have bk := Aside0.mk (hbox); have j6 := Aside0.mk ((by rw [hg]; exact (below_size zx2_4) : w.heap.size ≤ bx)); have bz := Aside0.mk ((by rw [hg]; exact (below_size zx2_4) : w.heap.size ≤ bx)); replace HB := Aside0.mk (below_step zx2_4 hb); have bj := Aside0.mk ((by rw [hg]; exact Nat.ne_of_lt (blk_lt (g := be) (o := .cells #[.string bf, .int .u64 bc, .int .u64 bd, .slice bC bb.length bB, .int .u64 bn, .int .u64 bm, .int .u64 bl] 55 (0, 0)) zx2_0) : be ≠ bx)); have bi := Aside0.mk ((by rw [hg]; exact Nat.ne_of_gt (blk_lt (g := be) (o := .cells #[.string bf, .int .u64 bc, .int .u64 bd, .slice bC bb.length bB, .int .u64 bn, .int .u64 bm, .int .u64 bl] 55 (0, 0)) zx2_0) : bx ≠ be)); replace ba := Aside0.mk (blk_below (g := be) (o := .cells #[.string bf, .int .u64 bc, .int .u64 bd, .slice bC bb.length bB, .int .u64 bn, .int .u64 bm, .int .u64 bl] 55 (0, 0)) zx2_0 hb); clear hb hbox hg))
 (try simp only [Act.put, List.setIfInBounds_toArray, List.set_cons_zero, List.set_cons_succ])
 go_cut [32] (fun v32 wc => ∃ (kq : Nat) (bQ : Bool), v32 = .bool bQ ∧ Aside0 (ledger_Dest_right.j0 kq bQ bf bc bd bb bn bm bl bp bg bo = some r) ∧ Aside0 (kq ≤ k) ∧ Aside0 (wc.heap[be]? = some (.cells #[.string bf, .int .u64 bc, .int .u64 bd, (.slice bC bb.length bB), .int .u64 bn, .int .u64 bm, .int .u64 bl] 55 (0, 0))) ∧ Aside0 (wc.heap[bx]? = some (.cells #[.int .u64 bp, .int .u64 bg, (.slice bM bo.length bL)] 25 (0, 0))) ∧ Aside0 (Below w.heap.size w wc))
 case first =>
  have H := HC3.out
  clear HC3
  replace H := Option.bind_eq_some_iff.mp H
  obtain ⟨gD, A60, H⟩ := H
  replace H : (if gD = true then (if bc < 1 then (ledger_Dest_right.j0 k true bf bc bd bb bn bm bl bp bg bo) else (if bd < bc then (ledger_Dest_right.j0 k true bf bc bd bb bn bm bl bp bg bo) else (ledger_Dest_right.j0 k (decide (bg < bd)) bf bc bd bb bn bm bl bp bg bo))) else (ledger_Dest_right.j0 k true bf bc bd bb bn bm bl bp bg bo)) = some r := H
  have A6 := Aside0.mk A60
  clear A60
  by_cases c7 : gD = true
  case neg =>
   replace c7 := Bool.eq_false_iff.mpr c7
   subst c7
   have H1 : (ledger_Dest_right.j0 k true bf bc bd bb bn bm bl bp bg bo) = some r := by rw [if_neg (show ¬ (false = true) by decide)] at H; exact H
   clear H
   have H := H1
   clear H1
   have H' := Aside0.mk H
   clear H
   have jV := bj.out
   have jM := bi.out
   obtain ⟨dP, dO, dN, dM, dL, dK, dJ, bY, bX, bW, bV, bU, bS, bR⟩ := cx2_bc7 ba.out
   go_wp2_with (first | ((with_reducible refine gate_callee (f := 48) rfl ?_); refine goesL_ (some 12) rfl rfl Tryd.func48 (by kernel_rfl) rfl #[.string bf] rfl zx2_2 ?_; (with_reducible refine (label_Name.calls bf false _ A6.out).mono ?_); rintro e w25 ⟨rfl, hb⟩; refine ⟨_, rfl, ?_⟩; replace ba := Aside0.mk (blk_below (g := be) (o := .cells #[.string bf, .int .u64 bc, .int .u64 bd, .slice bC bb.length bB, .int .u64 bn, .int .u64 bm, .int .u64 bl] 55 (0, 0)) zx2_0 hb); replace bk := Aside0.mk (blk_below (g := bx) (o := .cells #[.int .u64 bp, .int .u64 bg, .slice bM bo.length bL] 25 (0, 0)) zx2_3 hb); replace HB := Aside0.mk (below_step zx2_1 hb); (try clear hb); (try clear hb2); (try clear hk); (try clear hi)))
   go_meet
   case rel => exact ⟨_, (true), zx2_5, H', ⟨by first | omega | exact Nat.le_refl _⟩, ⟨by (with_reducible repeat (first | refine blk_drewN ?_ _ | refine blk_drew ?_ | refine blk_alloc ?_ _)); exact ba.out⟩, ⟨by (with_reducible repeat (first | refine blk_drewN ?_ _ | refine blk_drew ?_ | refine blk_alloc ?_ _)); exact bk.out⟩, ⟨by repeat (first | (with_reducible first | exact HB.out | apply below_alloc | apply pw_below_drewN | apply below_drew1 | refine below_set ?_ bw.out | refine below_set ?_ bz.out) | exact HB.out)⟩⟩
  subst c7
  have H1 : (if bc < 1 then (ledger_Dest_right.j0 k true bf bc bd bb bn bm bl bp bg bo) else (if bd < bc then (ledger_Dest_right.j0 k true bf bc bd bb bn bm bl bp bg bo) else (ledger_Dest_right.j0 k (decide (bg < bd)) bf bc bd bb bn bm bl bp bg bo))) = some r := by rw [if_pos rfl] at H; exact H
  clear H
  have H := H1
  clear H1
  by_cases c8 : bc < 1
  ·rw [if_pos c8] at H
   have bP : decide (bc < 1) = true := decide_eq_true c8
   clear c8
   (first | rw [bP] | (simp only [i64_w, i32_w]; rw [bP]) | skip)
   have H' := Aside0.mk H
   clear H
   have mb := bj.out
   have ma := bi.out
   obtain ⟨gB, gA, gz, gy, gx, gw, gv, dI, dH, dG, dF, dE, dD, dC⟩ := cx2_bc7 ba.out
   go_wp2_with (first | ((with_reducible refine gate_callee (f := 48) rfl ?_); refine goesL_ (some 12) rfl rfl Tryd.func48 (by kernel_rfl) rfl #[.string bf] rfl zx2_2 ?_; (with_reducible refine (label_Name.calls bf true _ A6.out).mono ?_); rintro e w11 ⟨rfl, hb⟩; refine ⟨_, rfl, ?_⟩; replace ba := Aside0.mk (blk_below (g := be) (o := .cells #[.string bf, .int .u64 bc, .int .u64 bd, .slice bC bb.length bB, .int .u64 bn, .int .u64 bm, .int .u64 bl] 55 (0, 0)) zx2_0 hb); replace bk := Aside0.mk (blk_below (g := bx) (o := .cells #[.int .u64 bp, .int .u64 bg, .slice bM bo.length bL] 25 (0, 0)) zx2_3 hb); replace HB := Aside0.mk (below_step zx2_1 hb); (try clear hb); (try clear hb2); (try clear hk); (try clear hi); have gu : w11.cell? ⟨be, 0, none⟩ = some (.string bf) := (blk_cell ba.out 0).trans rfl; have gt : w11.cell? ⟨be, 1, none⟩ = some (.int .u64 bc) := (blk_cell ba.out 1).trans rfl; have gs : w11.cell? ⟨be, 2, none⟩ = some (.int .u64 bd) := (blk_cell ba.out 2).trans rfl; have gr : w11.cell? ⟨be, 3, none⟩ = some (.slice bC bb.length bB) := (blk_cell ba.out 3).trans rfl; have gq : w11.cell? ⟨be, 4, none⟩ = some (.int .u64 bn) := (blk_cell ba.out 4).trans rfl; have gp : w11.cell? ⟨be, 5, none⟩ = some (.int .u64 bm) := (blk_cell ba.out 5).trans rfl; have go : w11.cell? ⟨be, 6, none⟩ = some (.int .u64 bl) := (blk_cell ba.out 6).trans rfl; have dB := blk_frozen ba.out 0; have dA := blk_frozen ba.out 1; have dz := blk_frozen ba.out 2; have dy := blk_frozen ba.out 3; have dx := blk_frozen ba.out 4; have dw := blk_frozen ba.out 5; have dv := blk_frozen ba.out 6))
   go_meet
   case rel => exact ⟨_, (true), zx2_5, H', ⟨by first | omega | exact Nat.le_refl _⟩, ⟨by (with_reducible repeat (first | refine blk_drewN ?_ _ | refine blk_drew ?_ | refine blk_alloc ?_ _)); exact ba.out⟩, ⟨by (with_reducible repeat (first | refine blk_drewN ?_ _ | refine blk_drew ?_ | refine blk_alloc ?_ _)); exact bk.out⟩, ⟨by repeat (first | (with_reducible first | exact HB.out | apply below_alloc | apply pw_below_drewN | apply below_drew1 | refine below_set ?_ bw.out | refine below_set ?_ bz.out) | exact HB.out)⟩⟩
  rw [if_neg c8] at H
  have bP : decide (bc < 1) = false := decide_eq_false c8
  clear c8
  (first | rw [bP] | (simp only [i64_w, i32_w]; rw [bP]) | skip)
  by_cases c13 : bd < bc
  ·rw [if_pos c13] at H
   have gF : decide (bd < bc) = true := decide_eq_true c13
   clear c13
   have H' := Aside0.mk H
   clear H
   have jX := bj.out
   have jO := bi.out
   obtain ⟨gn, gm, gl, gj, gi, gh, gg, du, dt, ds, dr, dq, dp, dn⟩ := cx2_bc7 ba.out
   go_wp2_with (first | ((with_reducible refine gate_callee (f := 48) rfl ?_); refine goesL_ (some 12) rfl rfl Tryd.func48 (by kernel_rfl) rfl #[.string bf] rfl zx2_2 ?_; (with_reducible refine (label_Name.calls bf true _ A6.out).mono ?_); rintro e w16 ⟨rfl, hb⟩; refine ⟨_, rfl, ?_⟩; replace ba := Aside0.mk (blk_below (g := be) (o := .cells #[.string bf, .int .u64 bc, .int .u64 bd, .slice bC bb.length bB, .int .u64 bn, .int .u64 bm, .int .u64 bl] 55 (0, 0)) zx2_0 hb); replace bk := Aside0.mk (blk_below (g := bx) (o := .cells #[.int .u64 bp, .int .u64 bg, .slice bM bo.length bL] 25 (0, 0)) zx2_3 hb); replace HB := Aside0.mk (below_step zx2_1 hb); (try clear hb); (try clear hb2); (try clear hk); (try clear hi); have gf : w16.cell? ⟨be, 0, none⟩ = some (.string bf) := (blk_cell ba.out 0).trans rfl; have gc : w16.cell? ⟨be, 1, none⟩ = some (.int .u64 bc) := (blk_cell ba.out 1).trans rfl; have gb : w16.cell? ⟨be, 2, none⟩ = some (.int .u64 bd) := (blk_cell ba.out 2).trans rfl; have ga : w16.cell? ⟨be, 3, none⟩ = some (.slice bC bb.length bB) := (blk_cell ba.out 3).trans rfl; have d9 : w16.cell? ⟨be, 4, none⟩ = some (.int .u64 bn) := (blk_cell ba.out 4).trans rfl; have d8 : w16.cell? ⟨be, 5, none⟩ = some (.int .u64 bm) := (blk_cell ba.out 5).trans rfl; have d7 : w16.cell? ⟨be, 6, none⟩ = some (.int .u64 bl) := (blk_cell ba.out 6).trans rfl; have dm := blk_frozen ba.out 0; have dl := blk_frozen ba.out 1; have dk := blk_frozen ba.out 2; have dj := blk_frozen ba.out 3; have di := blk_frozen ba.out 4; have dh := blk_frozen ba.out 5; have dg := blk_frozen ba.out 6))
   go_meet
   case rel => exact ⟨_, (true), zx2_5, H', ⟨by first | omega | exact Nat.le_refl _⟩, ⟨by (with_reducible repeat (first | refine blk_drewN ?_ _ | refine blk_drew ?_ | refine blk_alloc ?_ _)); exact ba.out⟩, ⟨by (with_reducible repeat (first | refine blk_drewN ?_ _ | refine blk_drew ?_ | refine blk_alloc ?_ _)); exact bk.out⟩, ⟨by repeat (first | (with_reducible first | exact HB.out | apply below_alloc | apply pw_below_drewN | apply below_drew1 | refine below_set ?_ bw.out | refine below_set ?_ bz.out) | exact HB.out)⟩⟩
  rw [if_neg c13] at H
  have gF : decide (bd < bc) = false := decide_eq_false c13
  clear c13
  have H' := Aside0.mk H
  clear H
  have jW := bj.out
  have jN := bi.out
  obtain ⟨d6, d5, d4, d3, d2, d1, d0, df, de, dd, dc, db, da, b9⟩ := cx2_bc7 ba.out
  go_wp2_with (first | ((with_reducible refine gate_callee (f := 48) rfl ?_); refine goesL_ (some 12) rfl rfl Tryd.func48 (by kernel_rfl) rfl #[.string bf] rfl zx2_2 ?_; (with_reducible refine (label_Name.calls bf true _ A6.out).mono ?_); rintro e w20 ⟨rfl, hb⟩; refine ⟨_, rfl, ?_⟩; replace ba := Aside0.mk (blk_below (g := be) (o := .cells #[.string bf, .int .u64 bc, .int .u64 bd, .slice bC bb.length bB, .int .u64 bn, .int .u64 bm, .int .u64 bl] 55 (0, 0)) zx2_0 hb); replace bk := Aside0.mk (blk_below (g := bx) (o := .cells #[.int .u64 bp, .int .u64 bg, .slice bM bo.length bL] 25 (0, 0)) zx2_3 hb); replace HB := Aside0.mk (below_step zx2_1 hb); (try clear hb); (try clear hb2); (try clear hk); (try clear hi); have dZ : w20.cell? ⟨be, 0, none⟩ = some (.string bf) := (blk_cell ba.out 0).trans rfl; have dY : w20.cell? ⟨be, 1, none⟩ = some (.int .u64 bc) := (blk_cell ba.out 1).trans rfl; have dX : w20.cell? ⟨be, 2, none⟩ = some (.int .u64 bd) := (blk_cell ba.out 2).trans rfl; have dW : w20.cell? ⟨be, 3, none⟩ = some (.slice bC bb.length bB) := (blk_cell ba.out 3).trans rfl; have dV : w20.cell? ⟨be, 4, none⟩ = some (.int .u64 bn) := (blk_cell ba.out 4).trans rfl; have dU : w20.cell? ⟨be, 5, none⟩ = some (.int .u64 bm) := (blk_cell ba.out 5).trans rfl; have dT : w20.cell? ⟨be, 6, none⟩ = some (.int .u64 bl) := (blk_cell ba.out 6).trans rfl; have b8 := blk_frozen ba.out 0; have b7 := blk_frozen ba.out 1; have b6 := blk_frozen ba.out 2; have b5 := blk_frozen ba.out 3; have b4 := blk_frozen ba.out 4; have b3 := blk_frozen ba.out 5; have b2 := blk_frozen ba.out 6; have dS : w20.cell? ⟨bx, 0, none⟩ = some (.int .u64 bp) := (blk_cell bk.out 0).trans rfl; have dR : w20.cell? ⟨bx, 1, none⟩ = some (.int .u64 bg) := (blk_cell bk.out 1).trans rfl; have dQ : w20.cell? ⟨bx, 2, none⟩ = some (.slice bM bo.length bL) := (blk_cell bk.out 2).trans rfl; have b1 := blk_frozen bk.out 0; have b0 := blk_frozen bk.out 1; have bZ := blk_frozen bk.out 2))
  go_meet
  case rel => exact ⟨_, (decide (bg < bd)), zx2_5, H', ⟨by first | omega | exact Nat.le_refl _⟩, ⟨by (with_reducible repeat (first | refine blk_drewN ?_ _ | refine blk_drew ?_ | refine blk_alloc ?_ _)); exact ba.out⟩, ⟨by (with_reducible repeat (first | refine blk_drewN ?_ _ | refine blk_drew ?_ | refine blk_alloc ?_ _)); exact bk.out⟩, ⟨by repeat (first | (with_reducible first | exact HB.out | apply below_alloc | apply pw_below_drewN | apply below_drew1 | refine below_set ?_ bw.out | refine below_set ?_ bz.out) | exact HB.out)⟩⟩
 case rest =>
  clear HC3
  (try clear c1); (try clear c2); (try clear p2); (try clear c3); (try clear c4); (try clear c7); (try clear c8); (try clear bP); (try clear c9); (try clear c13); (try clear gF); (try clear c14); (try clear c18); (try clear c23); (try clear gB); (try clear gA); (try clear gz); (try clear gy); (try clear gx); (try clear gw); (try clear gv); (try clear gu); (try clear gt); (try clear gs); (try clear gr); (try clear gq); (try clear gp); (try clear go); (try clear gn); (try clear gm); (try clear gl); (try clear gj); (try clear gi); (try clear gh); (try clear gg); (try clear gf); (try clear gc); (try clear gb); (try clear ga); (try clear d9); (try clear d8); (try clear d7); (try clear d6); (try clear d5); (try clear d4); (try clear d3); (try clear d2); (try clear d1); (try clear d0); (try clear dZ); (try clear dY); (try clear dX); (try clear dW); (try clear dV); (try clear dU); (try clear dT); (try clear dS); (try clear dR); (try clear dQ); (try clear dP); (try clear dO); (try clear dN); (try clear dM); (try clear dL); (try clear dK); (try clear dJ); (try clear dI); (try clear dH); (try clear dG); (try clear dF); (try clear dE); (try clear dD); (try clear dC); (try clear dB); (try clear dA); (try clear dz); (try clear dy); (try clear dx); (try clear dw); (try clear dv); (try clear du); (try clear dt); (try clear ds); (try clear dr); (try clear dq); (try clear dp); (try clear dn); (try clear dm); (try clear dl); (try clear dk); (try clear dj); (try clear di); (try clear dh); (try clear dg); (try clear df); (try clear de); (try clear dd); (try clear dc); (try clear db); (try clear da); (try clear b9); (try clear b8); (try clear b7); (try clear b6); (try clear b5); (try clear b4); (try clear b3); (try clear b2); (try clear b1); (try clear b0); (try clear bZ); (try clear bY); (try clear bX); (try clear bW); (try clear bV); (try clear bU); (try clear bS); (try clear bR)
  obtain ⟨kq, bQ, rfl, HA, HJ2, ba, bk, HB⟩ := hcut
  cases kq with
  | zero => exact absurd HA.out (by simp [ledger_Dest_right.j0])
  | succ kj2 => ?_
  have H := HA.out
  clear HA
  simp only [ledger_Dest_right.j0] at H
  by_cases c26 : bQ = true
  ·subst c26
   have H1 : (some false) = some r := by rw [if_pos rfl] at H; exact H
   clear H
   have H := H1
   clear H1
   obtain rfl := Option.some.inj H
   go_wp2
   go_ret
   exact ⟨by first | rfl | (simp [errW_none, errW_some] <;> rfl) | (simp [*, errW_none, errW_some] <;> rfl), by repeat (first | (with_reducible first | exact HB.out | apply below_alloc | apply pw_below_drewN | apply below_drew1 | refine below_set ?_ bw.out | refine below_set ?_ bz.out) | exact HB.out)⟩
  replace c26 := Bool.eq_false_iff.mpr c26
  subst c26
  have H1 : (ledger_Dest_right.l0 kj2 bd bb (bb.length : Int) 0 bf bc bd bb bn bm bl bp bg bo) = some r := by rw [if_neg (show ¬ (false = true) by decide)] at H; exact H
  clear H
  have H := H1
  clear H1
  have H' := Aside0.mk H
  clear H
  have jU := bj.out
  have jL := bi.out
  obtain ⟨gU, gT, gS, gR, gQ, gP, gO, gN, gM, gL, gK, gJ, gI, gH⟩ := cx2_bc7 ba.out
  go_wp2
  go_loopg [5, 38] kj2 (fun kq v5 v38 w' => ∃ (gC : Int) (bh : Int), v5 = .int .u64 gC ∧ v38 = .int .i64 bh ∧ Aside0 (ledger_Dest_right.l0 kq gC bb (bb.length : Int) bh bf bc bd bb bn bm bl bp bg bo = some r) ∧ Aside0 (kq ≤ kj2) ∧ Aside0 (w'.heap[be]? = some (.cells #[.string bf, .int .u64 bc, .int .u64 bd, (.slice bC bb.length bB), .int .u64 bn, .int .u64 bm, .int .u64 bl] 55 (0, 0))) ∧ Aside0 (w'.heap[bx]? = some (.cells #[.int .u64 bp, .int .u64 bg, (.slice bM bo.length bL)] 25 (0, 0))) ∧ Aside0 (Below w.heap.size w w'))
  case atStart => exact ⟨(bd), (0), zx2_5, zx2_5, H', ⟨Nat.le_refl _⟩, ⟨by (with_reducible repeat (first | refine blk_drewN ?_ _ | refine blk_drew ?_ | refine blk_alloc ?_ _)); exact ba.out⟩, ⟨by (with_reducible repeat (first | refine blk_drewN ?_ _ | refine blk_drew ?_ | refine blk_alloc ?_ _)); exact bk.out⟩, ⟨by repeat (first | (with_reducible first | exact HB.out | apply below_alloc | apply pw_below_drewN | apply below_drew1 | refine below_set ?_ bw.out | refine below_set ?_ bz.out) | exact HB.out)⟩⟩
  case round =>
   clear H'
   (try clear c1); (try clear c2); (try clear p2); (try clear c3); (try clear c4); (try clear c7); (try clear c8); (try clear bP); (try clear c9); (try clear c13); (try clear gF); (try clear c14); (try clear c18); (try clear c23); (try clear c26); (try clear c27); (try clear gB); (try clear gA); (try clear gz); (try clear gy); (try clear gx); (try clear gw); (try clear gv); (try clear gu); (try clear gt); (try clear gs); (try clear gr); (try clear gq); (try clear gp); (try clear go); (try clear gn); (try clear gm); (try clear gl); (try clear gj); (try clear gi); (try clear gh); (try clear gg); (try clear gf); (try clear gc); (try clear gb); (try clear ga); (try clear d9); (try clear d8); (try clear d7); (try clear d6); (try clear d5); (try clear d4); (try clear d3); (try clear d2); (try clear d1); (try clear d0); (try clear dZ); (try clear dY); (try clear dX); (try clear dW); (try clear dV); (try clear dU); (try clear dT); (try clear dS); (try clear dR); (try clear dQ); (try clear dP); (try clear dO); (try clear dN); (try clear dM); (try clear dL); (try clear dK); (try clear dJ); (try clear gU); (try clear gT); (try clear gS); (try clear gR); (try clear gQ); (try clear gP); (try clear gO); (try clear dI); (try clear dH); (try clear dG); (try clear dF); (try clear dE); (try clear dD); (try clear dC); (try clear dB); (try clear dA); (try clear dz); (try clear dy); (try clear dx); (try clear dw); (try clear dv); (try clear du); (try clear dt); (try clear ds); (try clear dr); (try clear dq); (try clear dp); (try clear dn); (try clear dm); (try clear dl); (try clear dk); (try clear dj); (try clear di); (try clear dh); (try clear dg); (try clear df); (try clear de); (try clear dd); (try clear dc); (try clear db); (try clear da); (try clear b9); (try clear b8); (try clear b7); (try clear b6); (try clear b5); (try clear b4); (try clear b3); (try clear b2); (try clear b1); (try clear b0); (try clear bZ); (try clear bY); (try clear bX); (try clear bW); (try clear bV); (try clear bU); (try clear bS); (try clear bR); (try clear gN); (try clear gM); (try clear gL); (try clear gK); (try clear gJ); (try clear gI); (try clear gH); (try clear p2)
   obtain ⟨gC, bh, rfl, rfl, HA, HK2, ba, bk, HB⟩ := hrel
   cases gk with
   | zero => exact absurd HA.out (by simp [ledger_Dest_right.l0])
   | succ k2 => ?_
   have H := HA.out
   clear HA
   simp only [ledger_Dest_right.l0] at H
   by_cases c29 : bh < (bb.length : Int)
   case neg =>
    rw [if_neg c29] at H
    have hj : decide (bh < (bb.length : Int)) = false := decide_eq_false c29
    clear c29
    by_cases c38 : (IntKind.u64.wrap ((IntKind.u64.wrap (bg - bc)) - (IntKind.u64.wrap ((IntKind.u64.wrap (bd - bc)) + (IntKind.u64.wrap ((bb.length : Int))))))) = 0
    ·rw [if_pos c38] at H
     have he : ((IntKind.u64.wrap ((IntKind.u64.wrap (bg - bc)) - (IntKind.u64.wrap ((IntKind.u64.wrap (bd - bc)) + (IntKind.u64.wrap ((bb.length : Int))))))) == 0) = true := beq_iff_eq.mpr c38
     have hc : ((IntKind.u64.wrap ((IntKind.u64.wrap (bg - bc)) - (IntKind.u64.wrap ((IntKind.u64.wrap (bd - bc)) + (IntKind.u64.wrap ((bb.length : Int))))))) != 0) = false := bne_eq_false_iff_eq.mpr c38
     clear c38
     obtain rfl := Option.some.inj H
     have jR := bj.out
     have jI := bi.out
     obtain ⟨jz, jy, jx, jw, jv, ju, jt, hP, hO, hN, hM, hL, hK, hJ⟩ := cx2_bc7 ba.out
     obtain ⟨js, jr, jq, hI, hH, hG⟩ := cx2_bc3 bk.out
     go_wp2
     go_ret
     exact ⟨by first | rfl | (simp [errW_none, errW_some] <;> rfl) | (simp [*, errW_none, errW_some] <;> rfl), by repeat (first | (with_reducible first | exact HB.out | apply below_alloc | apply pw_below_drewN | apply below_drew1 | refine below_set ?_ bw.out | refine below_set ?_ bz.out) | exact HB.out)⟩
    rw [if_neg c38] at H
    have he : ((IntKind.u64.wrap ((IntKind.u64.wrap (bg - bc)) - (IntKind.u64.wrap ((IntKind.u64.wrap (bd - bc)) + (IntKind.u64.wrap ((bb.length : Int))))))) == 0) = false := beq_eq_false_iff_ne.mpr c38
    have hc : ((IntKind.u64.wrap ((IntKind.u64.wrap (bg - bc)) - (IntKind.u64.wrap ((IntKind.u64.wrap (bd - bc)) + (IntKind.u64.wrap ((bb.length : Int))))))) != 0) = true := bne_iff_ne.mpr c38
    by_cases c42 : bd ≥ bp
    ·rw [if_pos c42] at H
     have ha : decide (bp ≤ bd) = true := decide_eq_true c42
     clear c42
     obtain rfl := Option.some.inj H
     have jQ := bj.out
     have jH := bi.out
     obtain ⟨jp, jo, jn, jm, jl, jk, jj, hF, hE, hD, hC, hB, hA, hz⟩ := cx2_bc7 ba.out
     obtain ⟨ji, jh, jg, hy, hx, hw⟩ := cx2_bc3 bk.out
     go_wp2
     go_ret
     exact ⟨by first | rfl | (simp [errW_none, errW_some] <;> rfl) | (simp [*, errW_none, errW_some] <;> rfl), by repeat (first | (with_reducible first | exact HB.out | apply below_alloc | apply pw_below_drewN | apply below_drew1 | refine below_set ?_ bw.out | refine below_set ?_ bz.out) | exact HB.out)⟩
    rw [if_neg c42] at H
    have ha : decide (bp ≤ bd) = false := decide_eq_false c42
    clear c42
    obtain rfl := Option.some.inj H
    have jP := bj.out
    have jG := bi.out
    obtain ⟨jf, je, jd, jc, jb, ja, hZ, hv, hu, ht, hs, hq, hp, ho⟩ := cx2_bc7 ba.out
    obtain ⟨hY, hX, hW, hn, hm, hl⟩ := cx2_bc3 bk.out
    go_wp2
    go_ret
    exact ⟨by first | rfl | (simp [errW_none, errW_some] <;> rfl) | (simp [*, errW_none, errW_some] <;> rfl), by repeat (first | (with_reducible first | exact HB.out | apply below_alloc | apply pw_below_drewN | apply below_drew1 | refine below_set ?_ bw.out | refine below_set ?_ bz.out) | exact HB.out)⟩

   rw [if_pos c29] at H
   have hj : decide (bh < (bb.length : Int)) = true := decide_eq_true c29
   clear c29
   by_cases c30 : 0 ≤ bh
   case neg =>
    rw [if_neg c30] at H
    exact absurd H (by simp)
   rw [if_pos c30] at H
   have jZ : decide (0 ≤ bh) = true := decide_eq_true c30
   clear c30
   by_cases c31 : bh < (bb.length : Int)
   case neg =>
    rw [if_neg c31] at H
    exact absurd H (by simp)
   rw [if_pos c31] at H
   have jY : decide (bh < (bb.length : Int)) = true := decide_eq_true c31
   clear c31
   by_cases c32 : (rd bb bh) ≤ gC
   ·rw [if_pos c32] at H
    have hh : decide ((rd bb bh) ≤ gC) = true := decide_eq_true c32
    clear c32
    obtain rfl := Option.some.inj H
    have bK : 0 ≤ (bh : Int) := of_decide_eq_true zx2_7
    have bJ : bh < (bb.length : Int) := of_decide_eq_true zx2_7
    obtain ⟨gZ, gE, bq⟩ := Kd.at_int gG.out bh bK bJ
    cases gE
    replace bq := (HB.out.cell (World.block_lt_of_cell? w _ bq)).trans bq
    replace bK := eq_true bK
    replace bJ := eq_true bJ
    go_wp2
    go_ret
    exact ⟨by first | rfl | (simp [errW_none, errW_some] <;> rfl) | (simp [*, errW_none, errW_some] <;> rfl), by repeat (first | (with_reducible first | exact HB.out | apply below_alloc | apply pw_below_drewN | apply below_drew1 | refine below_set ?_ bw.out | refine below_set ?_ bz.out) | exact HB.out)⟩
   rw [if_neg c32] at H
   have hh : decide ((rd bb bh) ≤ gC) = false := decide_eq_false c32
   clear c32
   by_cases c33 : (rd bb bh) ≥ bg
   ·rw [if_pos c33] at H
    have hf : decide (bg ≤ (rd bb bh)) = true := decide_eq_true c33
    clear c33
    obtain rfl := Option.some.inj H
    have bK : 0 ≤ (bh : Int) := of_decide_eq_true zx2_7
    have bJ : bh < (bb.length : Int) := of_decide_eq_true zx2_7
    obtain ⟨gZ, gE, bq⟩ := Kd.at_int gG.out bh bK bJ
    cases gE
    replace bq := (HB.out.cell (World.block_lt_of_cell? w _ bq)).trans bq
    replace bK := eq_true bK
    replace bJ := eq_true bJ
    have jT := bi.out
    have jK := bj.out
    obtain ⟨jF, jE, jD, hV, hU, hT⟩ := cx2_bc3 bk.out
    go_wp2
    go_ret
    exact ⟨by first | rfl | (simp [errW_none, errW_some] <;> rfl) | (simp [*, errW_none, errW_some] <;> rfl), by repeat (first | (with_reducible first | exact HB.out | apply below_alloc | apply pw_below_drewN | apply below_drew1 | refine below_set ?_ bw.out | refine below_set ?_ bz.out) | exact HB.out)⟩
   rw [if_neg c33] at H
   have hf : decide (bg ≤ (rd bb bh)) = false := decide_eq_false c33
   clear c33
   have H' := Aside0.mk H
   clear H
   have bK : 0 ≤ (bh : Int) := of_decide_eq_true zx2_7
   have bJ : bh < (bb.length : Int) := of_decide_eq_true zx2_7
   obtain ⟨gZ, gE, bq⟩ := Kd.at_int gG.out bh bK bJ
   cases gE
   replace bq := (HB.out.cell (World.block_lt_of_cell? w _ bq)).trans bq
   replace bK := eq_true bK
   replace bJ := eq_true bJ
   have jS := bi.out
   have jJ := bj.out
   obtain ⟨jC, jB, jA, hS, hR, hQ⟩ := cx2_bc3 bk.out
   go_wp2
   go_roundg k2
   case measure => have := HJ2.out; have := HK2.out; omega
   case rel => exact ⟨(rd bb bh), (wrap64 (bh + 1)), zx2_5, zx2_5, H', ⟨by have := HJ2.out; have := HK2.out; omega⟩, ⟨by (with_reducible repeat (first | refine blk_drewN ?_ _ | refine blk_drew ?_ | refine blk_alloc ?_ _)); exact ba.out⟩, ⟨by (with_reducible repeat (first | refine blk_drewN ?_ _ | refine blk_drew ?_ | refine blk_alloc ?_ _)); exact bk.out⟩, ⟨by repeat (first | (with_reducible first | exact HB.out | apply below_alloc | apply pw_below_drewN | apply below_drew1 | refine below_set ?_ bw.out | refine below_set ?_ bz.out) | exact HB.out)⟩⟩
end Go.Proofs.YtmbigoeldobaiaaDoor.XMrk
end
section
/- What the functions of the translation answer, each as a plain Lean function, and that the code comes to it; for a law: its row. Conditions: none but those that each theorem names. Written by a program of this session (wip/xp). -/
namespace Go.Proofs.YtmbigoeldobaiaaDoor.XMrk
open Go.RowKit Go.Proofs.YtmbigoeldobaiaaDoorW.PrintWords Go.Proofs.YtmbigoeldobaiaaDoorW.PrintLast Go.Proofs.YtmbigoeldobaiaaDoorW.PrintMore
attribute [local go_sem] max2_int min2_int max_two min_two max_three min_three max_four min_four   -- for this text's walks alone
set_option linter.unusedVariables false
set_option linter.unusedSimpArgs false

/-! ### ledger_Add: function 21 -/
def ledger_Add.f (bf : Int) (be : Int) (bd : List (S55)) : Option (Int × Int × (List (S55))) := (ledger_Dest_39.f bd).bind fun bn => (some (bf, IntKind.u64.wrap (be + 1), bn))
set_option maxHeartbeats 8000000 in
set_option maxRecDepth 100000 in
theorem ledger_Add.calls (bf : Int) (be : Int) (bm : Nat → Prop) (bi : Option Addr) (bh : Nat) (bd : List (S55)) (r1 : Int) (r2 : Int) (r3 : List (S55)) (w : World) (bw : Kd.V k55 55 w w.heap.size (fun k_ => bm k_) (.slice bi bd.length bh) bd) (h : ledger_Add.f bf be bd = some (r1, r2, r3)) :
  Calls Tryd.prog 21 #[.agg #[.int .u64 bf, .int .u64 be, .slice bi bd.length bh]] w fun e w' => ∃ v2_ : Value, e = .returned (.agg #[.int .u64 r1, .int .u64 r2, v2_]) ∧ Kd.N k55 55 w' w.heap.size (fun k_ => (bm k_ ∨ w.heap.size ≤ k_)) v2_ r3 ∧ Below w.heap.size w w' := by
 have b2 := Tryd.underlying25
 have bj := Aside0.mk (show Kd.V k55 55 w w.heap.size (fun k_ => (bm k_ ∨ w.heap.size ≤ k_)) (.slice bi bd.length bh) bd from Kd.V_mono bw (fun k_ hk => .inl hk))
 have HB := Aside0.mk (Below.refl w.heap.size w)
 have H : ((ledger_Dest_39.f bd).bind fun bn => (some (bf, IntKind.u64.wrap (be + 1), bn))) = some (r1, r2, r3) := h
 clear h
 replace H := Option.bind_eq_some_iff.mp H
 obtain ⟨bn, A20, H⟩ := H
 replace H : (some (bf, IntKind.u64.wrap (be + 1), bn)) = some (r1, r2, r3) := H
 have A2 := Aside0.mk A20
 clear A20
 simp only [Option.some.injEq, Prod.mk.injEq] at H
 obtain ⟨rfl, rfl, rfl⟩ := H
 go_enter Tryd.func21, Tryd.ntmps21
 go_wp2_with (first | ((with_reducible refine gate_dst (N := 1) rfl ?_); refine box_event ?hg (N := 1) ?hd (cs := #[.int .u64 bf, .int .u64 be, .slice bi bd.length bh]) (t := 25) ?hr ?_; (case hd => rfl); (case hg => rfl); (case hr => first | (go_simp; done) | (go_simp; rfl)); intro ba hg w3 hbox hb; replace bj := Aside0.mk (Kd.V_below (Kd.V_elderB (by (with_reducible repeat (first | apply Kd.V_alloc | apply Kd.V_drewN | apply Kd.V_drew)); exact bj.out) ba (Nat.le_of_eq hg.symm)) hb); have bb := Aside0.mk (hbox); have b0 := Aside0.mk ((by rw [hg]; exact (below_size (by repeat (first | (with_reducible first | exact HB.out | apply below_alloc | apply pw_below_drewN | apply below_drew1) | exact HB.out))) : w.heap.size ≤ ba)); have bl := Aside0.mk ((by rw [hg]; exact (below_size (by repeat (first | (with_reducible first | exact HB.out | apply below_alloc | apply pw_below_drewN | apply below_drew1) | exact HB.out))) : w.heap.size ≤ ba)); replace HB := Aside0.mk (below_step (by repeat (first | (with_reducible first | exact HB.out | apply below_alloc | apply pw_below_drewN | apply below_drew1) | exact HB.out)) hb); clear hb hbox hg) | ((with_reducible refine gate_dst (N := 2) rfl ?_); refine box_event ?hg (N := 2) ?hd (cs := #[.int .u64 0, .int .u64 0, .slice none 0 0]) (t := 25) ?hr ?_; (case hd => rfl); (case hg => rfl); (case hr => first | (go_simp; done) | (go_simp; rfl)); intro bc hg w4 hbox hb; replace bj := Aside0.mk (Kd.V_below (Kd.V_elderB (by (with_reducible repeat (first | apply Kd.V_alloc | apply Kd.V_drewN | apply Kd.V_drew)); exact bj.out) bc (Nat.le_of_eq hg.symm)) hb); have bg := Aside0.mk (hbox); have bZ := Aside0.mk ((by rw [hg]; exact (below_size (by repeat (first | (with_reducible first | exact HB.out | apply below_alloc | apply pw_below_drewN | apply below_drew1 | refine below_set ?_ bl.out) | exact HB.out))) : w.heap.size ≤ bc)); have bo := Aside0.mk ((by rw [hg]; exact (below_size (by repeat (first | (with_reducible first | exact HB.out | apply below_alloc | apply pw_below_drewN | apply below_drew1 | refine below_set ?_ bl.out) | exact HB.out))) : w.heap.size ≤ bc)); replace HB := Aside0.mk (below_step (by repeat (first | (with_reducible first | exact HB.out | apply below_alloc | apply pw_below_drewN | apply below_drew1 | refine below_set ?_ bl.out) | exact HB.out)) hb); have bp := Aside0.mk ((by rw [hg]; exact Nat.ne_of_lt (blk_lt (g := ba) (o := .cells #[.int .u64 bf, .int .u64 be, .slice bi bd.length bh] 25 (0, 0)) (by (with_reducible repeat (first | refine blk_drewN ?_ _ | refine blk_drew ?_ | refine blk_alloc ?_ _)); exact bb.out)) : ba ≠ bc)); have bk := Aside0.mk ((by rw [hg]; exact Nat.ne_of_gt (blk_lt (g := ba) (o := .cells #[.int .u64 bf, .int .u64 be, .slice bi bd.length bh] 25 (0, 0)) (by (with_reducible repeat (first | refine blk_drewN ?_ _ | refine blk_drew ?_ | refine blk_alloc ?_ _)); exact bb.out)) : bc ≠ ba)); replace bb := Aside0.mk (blk_below (g := ba) (o := .cells #[.int .u64 bf, .int .u64 be, .slice bi bd.length bh] 25 (0, 0)) (by (with_reducible repeat (first | refine blk_drewN ?_ _ | refine blk_drew ?_ | refine blk_alloc ?_ _)); exact bb.out) hb); clear hb hbox hg; have b4 := bp.out; have b3 := bk.out; have bX : w4.cell? ⟨ba, 0, none⟩ = some (.int .u64 bf) := (blk_cell bb.out 0).trans rfl; have bW : w4.cell? ⟨ba, 1, none⟩ = some (.int .u64 be) := (blk_cell bb.out 1).trans rfl; have bV : w4.cell? ⟨ba, 2, none⟩ = some (.slice bi bd.length bh) := (blk_cell bb.out 2).trans rfl; have bQ := blk_frozen bb.out 0; have bP := blk_frozen bb.out 1; have bO := blk_frozen bb.out 2) | ((with_reducible refine gate_store (t := 22) (p := 6) rfl ?_); refine store_event (t := 22) (p := 6) (v := ?vo_w7) (w1 := (w4.setCell ⟨ba, 1, none⟩ (.int .u64 (IntKind.u64.wrap (be + 1))))) ?hg ?ho ?hn ?hr ?_; (case ho => rfl); (case hg => rfl); (case hn => rfl); (case hr => first | (go_simp; done) | (go_simp; rfl)); intro w7 hw; have n0_ : Aside0 (Kd.V k55 55 w7 w.heap.size (fun k_ => (bm k_ ∨ w.heap.size ≤ k_) ∧ k_ ≠ ba ∧ k_ ≠ bc) (.slice bi bd.length bh) bd) := ⟨(by rw [hw]; exact (by (with_reducible repeat (first | apply Kd.V_alloc | apply Kd.V_drewN | apply Kd.V_drew)); exact Kd.V_mono (Kd.V_far (p := ⟨ba, 1, none⟩) (Kd.V_mono bj.out (fun k_ hk => (⟨hk, hk.1.2⟩ : _ ∧ k_ ≠ ba))) (fun _ hk => hk.2) (.int .u64 (IntKind.u64.wrap (be + 1)))) (fun _ hk => ⟨hk.1.1.1, ⟨hk.1.1.2, hk.1.2⟩⟩)))⟩; have n1_ : Aside0 (w7.heap[ba]? = some (.cells #[.int .u64 bf, .int .u64 (IntKind.u64.wrap (be + 1)), .slice bi bd.length bh] 25 (0, 0))) := ⟨(by rw [hw]; exact (by (with_reducible repeat (first | refine blk_drewN ?_ _ | refine blk_drew ?_ | refine blk_alloc ?_ _)); refine blk_put (cs := #[.int .u64 bf, .int .u64 be, .slice bi bd.length bh]) ?_ 1 _ rfl; (with_reducible repeat (first | refine blk_drewN ?_ _ | refine blk_drew ?_ | refine blk_alloc ?_ _)); exact bb.out))⟩; have n2_ : Aside0 (w7.heap[bc]? = some (.cells #[.int .u64 0, .int .u64 0, .slice none 0 0] 25 (0, 0))) := ⟨(by rw [hw]; exact (by (with_reducible repeat (first | refine blk_drewN ?_ _ | refine blk_drew ?_ | refine blk_alloc ?_ _)); refine blk_far ?_ bk.out _; (with_reducible repeat (first | refine blk_drewN ?_ _ | refine blk_drew ?_ | refine blk_alloc ?_ _)); exact bg.out))⟩; have n3_ : Aside0 (Below w.heap.size w w7) := ⟨(by rw [hw]; exact (by repeat (first | (with_reducible first | exact HB.out | apply below_alloc | apply pw_below_drewN | apply below_drew1 | refine below_set ?_ bl.out | refine below_set ?_ bo.out) | exact HB.out)))⟩; clear hw; clear bj; clear bb; clear bg; clear HB; have bj := n0_; have bb := n1_; have bg := n2_; have HB := n3_; clear n0_ n1_ n2_ n3_; have bU : w7.cell? ⟨ba, 0, none⟩ = some (.int .u64 bf) := (blk_cell bb.out 0).trans rfl; have bS : w7.cell? ⟨ba, 1, none⟩ = some (.int .u64 (IntKind.u64.wrap (be + 1))) := (blk_cell bb.out 1).trans rfl; have bR : w7.cell? ⟨ba, 2, none⟩ = some (.slice bi bd.length bh) := (blk_cell bb.out 2).trans rfl; have bN := blk_frozen bb.out 0; have bM := blk_frozen bb.out 1; have bL := blk_frozen bb.out 2) | ((with_reducible refine gate_callee (f := 39) rfl ?_); refine goesL_ (some 9) rfl rfl Tryd.func39 (by kernel_rfl) rfl #[.slice bi bd.length bh] rfl (by (try simp only [List.map_toArray, List.map_cons, List.map_nil]); first | done | rfl | (simp only [List.length_drop, List.length_take]; rfl)) ?_; (with_reducible refine (ledger_Dest_39.calls (fun k_ => ((bm k_ ∨ w.heap.size ≤ k_) ∧ (k_ ≠ ba ∧ k_ ≠ bc))) _ _ bd bn _ ?side1 A2.out).mono ?_); (case side1 => exact bj.out); rintro e w9 ⟨b1, rfl, ho0, hb⟩; refine ⟨_, rfl, ?_⟩; replace bj := Aside0.mk (Kd.V_elder' (by (with_reducible repeat (first | apply Kd.V_alloc | apply Kd.V_drewN | apply Kd.V_drew)); exact bj.out) (Kd.N_base ho0) hb); have bq := Aside0.mk (Kd.N_lower (Kd.N_mono (ok' := fun k_ => (bm k_ ∨ w.heap.size ≤ k_) ∧ k_ ≠ ba ∧ k_ ≠ bc) ho0 (fun k_ hk_ => ⟨Or.elim hk_ (fun hs_ => hs_.1) (fun hn_ => (.inr (Nat.le_trans (below_size (by repeat (first | (with_reducible first | exact HB.out | apply below_alloc | apply pw_below_drewN | apply below_drew1 | refine below_set ?_ bl.out | refine below_set ?_ bo.out) | exact HB.out))) hn_))), Or.elim hk_ (fun hs_ => hs_.2.1) (fun hn_ => (Kd.freshB (g := ba) (o := .cells #[.int .u64 bf, .int .u64 (IntKind.u64.wrap (be + 1)), .slice bi bd.length bh] 25 (0, 0)) (by (with_reducible repeat (first | refine blk_drewN ?_ _ | refine blk_drew ?_ | refine blk_alloc ?_ _)); exact bb.out) k_ hn_)), Or.elim hk_ (fun hs_ => hs_.2.2) (fun hn_ => (Kd.freshB (g := bc) (o := .cells #[.int .u64 0, .int .u64 0, .slice none 0 0] 25 (0, 0)) (by (with_reducible repeat (first | refine blk_drewN ?_ _ | refine blk_drew ?_ | refine blk_alloc ?_ _)); exact bg.out) k_ hn_))⟩)) (below_size (by repeat (first | (with_reducible first | exact HB.out | apply below_alloc | apply pw_below_drewN | apply below_drew1 | refine below_set ?_ bl.out | refine below_set ?_ bo.out) | exact HB.out)))); replace bb := Aside0.mk (blk_below (g := ba) (o := .cells #[.int .u64 bf, .int .u64 (IntKind.u64.wrap (be + 1)), .slice bi bd.length bh] 25 (0, 0)) (by (with_reducible repeat (first | refine blk_drewN ?_ _ | refine blk_drew ?_ | refine blk_alloc ?_ _)); exact bb.out) hb); replace bg := Aside0.mk (blk_below (g := bc) (o := .cells #[.int .u64 0, .int .u64 0, .slice none 0 0] 25 (0, 0)) (by (with_reducible repeat (first | refine blk_drewN ?_ _ | refine blk_drew ?_ | refine blk_alloc ?_ _)); exact bg.out) hb); replace HB := Aside0.mk (below_step (by repeat (first | (with_reducible first | exact HB.out | apply below_alloc | apply pw_below_drewN | apply below_drew1 | refine below_set ?_ bl.out | refine below_set ?_ bo.out) | exact HB.out)) hb); (try clear hb); (try clear hb2); (try clear hk); (try clear hi); (try clear ho0); obtain ⟨bu, br, bY⟩ := Kd.N_slice bq.out; subst bY; have bK : w9.cell? ⟨ba, 0, none⟩ = some (.int .u64 bf) := (blk_cell bb.out 0).trans rfl; have bJ : w9.cell? ⟨ba, 1, none⟩ = some (.int .u64 (IntKind.u64.wrap (be + 1))) := (blk_cell bb.out 1).trans rfl; have bI : w9.cell? ⟨ba, 2, none⟩ = some (.slice bi bd.length bh) := (blk_cell bb.out 2).trans rfl; have bD := blk_frozen bb.out 0; have bC := blk_frozen bb.out 1; have bB := blk_frozen bb.out 2; have bH : w9.cell? ⟨bc, 0, none⟩ = some (.int .u64 0) := (blk_cell bg.out 0).trans rfl; have bG : w9.cell? ⟨bc, 1, none⟩ = some (.int .u64 0) := (blk_cell bg.out 1).trans rfl; have bE : w9.cell? ⟨bc, 2, none⟩ = some (.slice none 0 0) := (blk_cell bg.out 2).trans rfl; have bA := blk_frozen bg.out 0; have bz := blk_frozen bg.out 1; have bx := blk_frozen bg.out 2))
 refine bodyPost_ret (results_cell_row rfl _ _ bc 25 #[.int .u64 bf, .int .u64 (IntKind.u64.wrap (be + 1)), .slice bu bn.length br] (0, 0) _ rfl (by (with_reducible repeat (first | refine blk_drewN ?_ _ | refine blk_drew ?_ | refine blk_alloc ?_ _)); refine blk_put (cs := #[.int .u64 bf, .int .u64 (IntKind.u64.wrap (be + 1)), .slice none 0 0]) ?_ 2 _ rfl; (with_reducible repeat (first | refine blk_drewN ?_ _ | refine blk_drew ?_ | refine blk_alloc ?_ _)); refine blk_put (cs := #[.int .u64 bf, .int .u64 0, .slice none 0 0]) ?_ 1 _ rfl; (with_reducible repeat (first | refine blk_drewN ?_ _ | refine blk_drew ?_ | refine blk_alloc ?_ _)); refine blk_put (cs := #[.int .u64 0, .int .u64 0, .slice none 0 0]) ?_ 0 _ rfl; (with_reducible repeat (first | refine blk_drewN ?_ _ | refine blk_drew ?_ | refine blk_alloc ?_ _)); refine blk_far ?_ bk.out _; (with_reducible repeat (first | refine blk_drewN ?_ _ | refine blk_drew ?_ | refine blk_alloc ?_ _)); exact bg.out) Tryd.underlying25 rfl (by kernel_rfl)) rfl ?_
 exact ⟨_, by first | rfl | (simp [errW_none, errW_some] <;> rfl) | (simp [*, errW_none, errW_some] <;> rfl), by (with_reducible repeat (first | apply Kd.N_alloc | apply Kd.N_drewN | apply Kd.N_drew)); exact Kd.N_mono (Kd.N_far (p := ⟨bc, 2, none⟩) (Kd.N_far (p := ⟨bc, 1, none⟩) (Kd.N_far (p := ⟨bc, 0, none⟩) (Kd.N_far (p := ⟨ba, 2, none⟩) (Kd.N_mono (Kd.N_mono bq.out (fun k_ hk => (⟨hk, hk.2.1⟩ : _ ∧ k_ ≠ ba))) (fun k_ hk => (⟨hk, hk.1.2.2⟩ : _ ∧ k_ ≠ bc))) (fun _ hk => hk.1.2) (.slice bu bn.length br)) (fun _ hk => hk.2) (.int .u64 bf)) (fun _ hk => hk.2) (.int .u64 (IntKind.u64.wrap (be + 1)))) (fun _ hk => hk.2) (.slice bu bn.length br)) (fun _ hk => hk.1.1.1), by repeat (first | (with_reducible first | exact HB.out | apply below_alloc | apply pw_below_drewN | apply below_drew1 | refine below_set ?_ bl.out | refine below_set ?_ bo.out) | exact HB.out)⟩

end Go.Proofs.YtmbigoeldobaiaaDoor.XMrk
end
