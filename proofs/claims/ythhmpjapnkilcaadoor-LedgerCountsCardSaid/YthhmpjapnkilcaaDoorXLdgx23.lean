/- What the functions of the translation answer, each as a plain Lean function, and that the code comes to it; for a law: its row. Conditions: none but those that each theorem names. Written by a program of this session (wip/xp). -/
import Derived.Test.YthhmpjapnkilcaaDoorXLdgP1
import Derived.Test.YthhmpjapnkilcaaDoorGMono
namespace Go.Proofs.YthhmpjapnkilcaaDoor.XLdg
open Go.RowKit Go.Proofs.YthhmpjapnkilcaaDoorW.PrintWords Go.Proofs.YthhmpjapnkilcaaDoorW.PrintLast Go.Proofs.YthhmpjapnkilcaaDoorW.PrintMore
attribute [local go_sem] max2_int min2_int max_two min_two max_three min_three max_four min_four   -- for this text's walks alone
theorem cx23_bc3 {w : World} {g : Nat} {t : TypeId} {x0 x1 x2 : Value} (h : w.heap[g]? = some (.cells #[x0, x1, x2] t (0, 0))) : w.cell? ⟨g, 0, none⟩ = some x0 ∧ w.cell? ⟨g, 1, none⟩ = some x1 ∧ w.cell? ⟨g, 2, none⟩ = some x2 ∧ w.frozen? ⟨g, 0, none⟩ = false ∧ w.frozen? ⟨g, 1, none⟩ = false ∧ w.frozen? ⟨g, 2, none⟩ = false :=
 ⟨(blk_cell h 0).trans rfl, (blk_cell h 1).trans rfl, (blk_cell h 2).trans rfl, blk_frozen h 0, blk_frozen h 1, blk_frozen h 2⟩
theorem zx23_0 {p : Prop} (h : p := by (with_reducible repeat (first | refine blk_drewN ?_ _ | refine blk_drew ?_ | refine blk_alloc ?_ _)); exact bu.out) : p := h
theorem zx23_4 {p : Prop} (h : p := by (with_reducible repeat (first | refine blk_drewN ?_ _ | refine blk_drew ?_ | refine blk_alloc ?_ _)); exact bf.out) : p := h
theorem zx23_7 {p : Prop} (h : p := by (with_reducible repeat (first | refine blk_drewN ?_ _ | refine blk_drew ?_ | refine blk_alloc ?_ _)); exact bh.out) : p := h
theorem zx23_6 {p : Prop} (h : p := by repeat (first | (with_reducible first | exact HB.out | apply below_alloc | apply pw_below_drewN | apply below_drew1) | exact HB.out)) : p := h
theorem zx23_5 {p : Prop} (h : p := by (try simp only [List.map_toArray, List.map_cons, List.map_nil]); first | done | rfl | (simp only [List.length_drop, List.length_take]; rfl)) : p := h
theorem zx23_3 {p : Prop} (h : p := by repeat (first | (with_reducible first | exact HB.out | apply below_alloc | apply pw_below_drewN | apply below_drew1 | refine below_set ?_ bQ.out) | exact HB.out)) : p := h
theorem zx23_1 {p : Prop} (h : p := by repeat (first | (with_reducible first | exact HB.out | apply below_alloc | apply pw_below_drewN | apply below_drew1 | refine below_set ?_ bQ.out | refine below_set ?_ bY.out) | exact HB.out)) : p := h
theorem zx23_2 {p : Prop} (h : p := by repeat (first | (with_reducible first | exact HB.out | apply below_alloc | apply pw_below_drewN | apply below_drew1 | refine below_set ?_ bQ.out | refine below_set ?_ bY.out | refine below_set ?_ b6.out) | exact HB.out)) : p := h
set_option linter.unusedVariables false
set_option linter.unusedSimpArgs false

/-! ### postroomlaw10_run: function 11 -/
def postroomlaw10_run.l0 : Nat → List (S43) → Int → Int → Int → List (S37) → Int → Int → List (S84) → Option (Int × Int × (List (S37)))
 | 0, _, _, _, _, _, _, _, _ => none
 | k + 1, x0, x5, b4, b3, b2, df, de, dd => if x5 < (x0.length : Int) then (if 0 ≤ x5 then ((postroomlaw10_does.f k b4 b3 b2 df de dd ((rd_T43 x0 x5).f0) ((rd_T43 x0 x5).f1) ((rd_T43 x0 x5).f2) ((rd_T43 x0 x5).f3)).bind fun bP => (postroomlaw10_run.l0 k x0 (wrap64 (x5 + 1)) bP.1 bP.2.1 bP.2.2.1 bP.2.2.2.1 bP.2.2.2.2.1 bP.2.2.2.2.2.1)) else (none)) else (some (b4, b3, b2))
def postroomlaw10_run.f (k : Nat) (l0 : List (S43)) : Option (Int × Int × (List (S37))) := (ledger_New.f).bind fun bL => ((postroomref10_New.f).bind fun bz => (postroomlaw10_run.l0 k l0 0 bL.1 bL.2.1 bL.2.2 bz.1 bz.2.1 bz.2.2))
def postroomlaw10_run.T6 : Bool × List (List Nat × List Nat) := (true, [([], []), ([], []), ([], []), ([], []), ([2, 3], [2, 3]), ([4], [4]), ([0, 1, 5], [0, 1, 5]), ([6], [6]), ([7], [7]), ([7], [7]), ([7], [7]), ([8, 6, 0, 1, 2, 3, 4, 5, 6, 7, 8], [8]), ([9, 11, 0, 1, 2, 3, 4, 5, 6, 7, 8, 9, 11], [9])])
def postroomlaw10_run.B6 : List Nat := [0, 0, 0, 0, 12, 28, 63, 127, 255, 255, 255, 511, 3071]
theorem postroomlaw10_run.tab6 : rtab .any (opsOf Tryd.f11 6) = postroomlaw10_run.T6 := by kernel_rfl
theorem postroomlaw10_run.bits6 : waitsOk postroomlaw10_run.T6.2 postroomlaw10_run.B6 = true := by kernel_rfl
set_option maxHeartbeats 8000000 in
set_option maxRecDepth 100000 in
theorem postroomlaw10_run.calls (k : Nat) (A0 : Option Addr) (c0 : Nat) (l0 : List (S43)) (r1 : Int) (r2 : Int) (r3 : List (S37)) (w : World) (hr0 : Kd.C k43 w A0 l0.length l0) (hc0 : l0.length ≤ c0) (h : postroomlaw10_run.f k l0 = some (r1, r2, r3)) :
  Calls Tryd.prog 11 #[.slice A0 l0.length c0] w fun e w' => ∃ v2_ : Value, e = .returned (.agg #[.int .u64 r1, .int .u64 r2, v2_]) ∧ Kd.V k37 37 w' w.heap.size (fun k_ => (w.heap.size ≤ k_)) v2_ r3 ∧ Below w.heap.size w w' := by
 have gS := Tryd.underlying27
 have gQ := Tryd.underlying57
 have gR := Tryd.underlying43
 have HR0 := Aside0.mk hr0
 have HC0 := Aside0.mk hc0
 clear hr0 hc0
 have HB := Aside0.mk (Below.refl w.heap.size w)
 have H : ((ledger_New.f).bind fun bL => ((postroomref10_New.f).bind fun bz => (postroomlaw10_run.l0 k l0 0 bL.1 bL.2.1 bL.2.2 bz.1 bz.2.1 bz.2.2))) = some (r1, r2, r3) := h
 clear h
 replace H := Option.bind_eq_some_iff.mp H
 obtain ⟨⟨bK, bO, bN⟩, A20, H⟩ := H
 replace H : ((postroomref10_New.f).bind fun bz => (postroomlaw10_run.l0 k l0 0 bK bO bN bz.1 bz.2.1 bz.2.2)) = some (r1, r2, r3) := H
 have A2 := Aside0.mk A20
 clear A20
 replace H := Option.bind_eq_some_iff.mp H
 obtain ⟨⟨b1, dc, db⟩, A30, H⟩ := H
 replace H : (postroomlaw10_run.l0 k l0 0 bK bO bN b1 dc db) = some (r1, r2, r3) := H
 have A3 := Aside0.mk A30
 clear A30
 have H' := Aside0.mk H
 clear H
 go_enter Tryd.func11, Tryd.ntmps11
 go_wp2_with (first | ((with_reducible refine gate_dst (N := 2) rfl ?_); refine box_event ?hg (N := 2) ?hd (cs := #[.int .u64 0, .int .u64 0, .slice none 0 0]) (t := 27) ?hr ?_; (case hd => rfl); (case hg => rfl); (case hr => first | (go_simp; done) | (go_simp; rfl)); intro bj hg w4 hbox hb; have bu := Aside0.mk (hbox); have gL := Aside0.mk ((by rw [hg]; exact (below_size zx23_6) : w.heap.size ≤ bj)); have bQ := Aside0.mk ((by rw [hg]; exact (below_size zx23_6) : w.heap.size ≤ bj)); replace HB := Aside0.mk (below_step zx23_6 hb); clear hb hbox hg) | ((with_reducible refine gate_callee (f := 25) rfl ?_); refine goesL_ (some 6) rfl rfl Tryd.func25 (by kernel_rfl) rfl #[] rfl zx23_5 ?_; (with_reducible refine (ledger_New.calls  bK bO bN _ A2.out).mono ?_); rintro e w5 ⟨gP, rfl, ho0, hb⟩; refine ⟨_, rfl, ?_⟩; have bE := Aside0.mk (Kd.S_lower (Kd.S_newM (M := fun k_ => (w.heap.size ≤ k_)) ho0 (below_size zx23_3) (fun k_ h_ => h_)) (below_size zx23_3)); replace bu := Aside0.mk (blk_below (g := bj) (o := .cells #[.int .u64 0, .int .u64 0, .slice none 0 0] 27 (0, 0)) zx23_0 hb); replace HB := Aside0.mk (below_step zx23_3 hb); (try clear hb); (try clear hb2); (try clear hk); (try clear hi); (try clear ho0)) | ((with_reducible refine gate_dst (N := 3) rfl ?_); refine box_event ?hg (N := 3) ?hd (cs := #[.int .u64 0, .int .u64 0, .slice none 0 0]) (t := 27) ?hr ?_; (case hd => rfl); (case hg => rfl); (case hr => first | (go_simp; done) | (go_simp; rfl)); intro ba hg w6 hbox hb; replace bE := Aside0.mk (Kd.S_below (by (with_reducible repeat (first | apply Kd.S_alloc | apply Kd.S_drewN | apply Kd.S_drew)); exact bE.out) hb); have bf := Aside0.mk (hbox); have gK := Aside0.mk ((by rw [hg]; exact (below_size zx23_3) : w.heap.size ≤ ba)); have bY := Aside0.mk ((by rw [hg]; exact (below_size zx23_3) : w.heap.size ≤ ba)); replace HB := Aside0.mk (below_step zx23_3 hb); have bq := Aside0.mk ((by rw [hg]; exact Nat.ne_of_lt (blk_lt (g := bj) (o := .cells #[.int .u64 0, .int .u64 0, .slice none 0 0] 27 (0, 0)) zx23_0) : bj ≠ ba)); have bx := Aside0.mk ((by rw [hg]; exact Nat.ne_of_gt (blk_lt (g := bj) (o := .cells #[.int .u64 0, .int .u64 0, .slice none 0 0] 27 (0, 0)) zx23_0) : ba ≠ bj)); replace bu := Aside0.mk (blk_below (g := bj) (o := .cells #[.int .u64 0, .int .u64 0, .slice none 0 0] 27 (0, 0)) zx23_0 hb); clear hb hbox hg; have ha := bx.out; have gZ := bq.out; have dx : w6.cell? ⟨ba, 0, none⟩ = some (.int .u64 0) := (blk_cell bf.out 0).trans rfl; have dw : w6.cell? ⟨ba, 1, none⟩ = some (.int .u64 0) := (blk_cell bf.out 1).trans rfl; have dv : w6.cell? ⟨ba, 2, none⟩ = some (.slice none 0 0) := (blk_cell bf.out 2).trans rfl; have du := blk_frozen bf.out 0; have dt := blk_frozen bf.out 1; have dr := blk_frozen bf.out 2; obtain ⟨Ao9, co9, eo9⟩ := Kd.S_slice bE.out; subst eo9) | ((with_reducible refine gate_callee (f := 26) rfl ?_); refine goesL_ (some 7) rfl rfl Tryd.func26 (by kernel_rfl) rfl #[] rfl zx23_5 ?_; (with_reducible refine (postroomref10_New.calls  b1 dc db _ A3.out).mono ?_); rintro e w10 ⟨gO, rfl, ho0, hb⟩; refine ⟨_, rfl, ?_⟩; replace bE := Aside0.mk (Kd.S_below (by (with_reducible repeat (first | apply Kd.S_alloc | apply Kd.S_drewN | apply Kd.S_drew)); exact (Kd.S_mono (Kd.S_far (p := ⟨ba, 2, none⟩) (Kd.S_far (p := ⟨ba, 1, none⟩) (Kd.S_far (p := ⟨ba, 0, none⟩) (Kd.S_types bE.out bf.out (by decide)) (fun _ hk => hk.2) (.int .u64 bK)) (fun _ hk => hk.2) (.int .u64 bO)) (fun _ hk => hk.2) (.slice Ao9 bN.length co9)) (fun _ h_ => h_.1))) hb); have b5 := Aside0.mk (Kd.S_lower (Kd.S_newM (M := fun k_ => (w.heap.size ≤ k_)) ho0 (below_size zx23_1) (fun k_ h_ => h_)) (below_size zx23_1)); replace bu := Aside0.mk (blk_below (g := bj) (o := .cells #[.int .u64 0, .int .u64 0, .slice none 0 0] 27 (0, 0)) (by (iterate 3 ((with_reducible repeat (first | refine blk_drewN ?_ _ | refine blk_drew ?_ | refine blk_alloc ?_ _)); refine blk_far ?_ bq.out _)); (with_reducible repeat (first | refine blk_drewN ?_ _ | refine blk_drew ?_ | refine blk_alloc ?_ _)); exact bu.out) hb); replace bf := Aside0.mk (blk_below (g := ba) (o := .cells #[.int .u64 bK, .int .u64 bO, .slice Ao9 bN.length co9] 27 (0, 0)) (by (with_reducible repeat (first | refine blk_drewN ?_ _ | refine blk_drew ?_ | refine blk_alloc ?_ _)); refine blk_put (cs := #[.int .u64 bK, .int .u64 bO, .slice none 0 0]) ?_ 2 _ rfl; (with_reducible repeat (first | refine blk_drewN ?_ _ | refine blk_drew ?_ | refine blk_alloc ?_ _)); refine blk_put (cs := #[.int .u64 bK, .int .u64 0, .slice none 0 0]) ?_ 1 _ rfl; (with_reducible repeat (first | refine blk_drewN ?_ _ | refine blk_drew ?_ | refine blk_alloc ?_ _)); refine blk_put (cs := #[.int .u64 0, .int .u64 0, .slice none 0 0]) ?_ 0 _ rfl; (with_reducible repeat (first | refine blk_drewN ?_ _ | refine blk_drew ?_ | refine blk_alloc ?_ _)); exact bf.out) hb); replace HB := Aside0.mk (below_step zx23_1 hb); (try clear hb); (try clear hb2); (try clear hk); (try clear hi); (try clear ho0)) | ((with_reducible refine gate_dst (N := 4) rfl ?_); refine box_event ?hg (N := 4) ?hd (cs := #[.int .u64 0, .int .u64 0, .slice none 0 0]) (t := 57) ?hr ?_; (case hd => rfl); (case hg => rfl); (case hr => first | (go_simp; done) | (go_simp; rfl)); intro bb hg w11 hbox hb; replace bE := Aside0.mk (Kd.S_below (by (with_reducible repeat (first | apply Kd.S_alloc | apply Kd.S_drewN | apply Kd.S_drew)); exact bE.out) hb); replace b5 := Aside0.mk (Kd.S_below (by (with_reducible repeat (first | apply Kd.S_alloc | apply Kd.S_drewN | apply Kd.S_drew)); exact b5.out) hb); have bh := Aside0.mk (hbox); have gJ := Aside0.mk ((by rw [hg]; exact (below_size zx23_1) : w.heap.size ≤ bb)); have b6 := Aside0.mk ((by rw [hg]; exact (below_size zx23_1) : w.heap.size ≤ bb)); replace HB := Aside0.mk (below_step zx23_1 hb); have bp := Aside0.mk ((by rw [hg]; exact Nat.ne_of_lt (blk_lt (g := bj) (o := .cells #[.int .u64 0, .int .u64 0, .slice none 0 0] 27 (0, 0)) zx23_0) : bj ≠ bb)); have bw := Aside0.mk ((by rw [hg]; exact Nat.ne_of_gt (blk_lt (g := bj) (o := .cells #[.int .u64 0, .int .u64 0, .slice none 0 0] 27 (0, 0)) zx23_0) : bb ≠ bj)); replace bu := Aside0.mk (blk_below (g := bj) (o := .cells #[.int .u64 0, .int .u64 0, .slice none 0 0] 27 (0, 0)) zx23_0 hb); have bl := Aside0.mk ((by rw [hg]; exact Nat.ne_of_lt (blk_lt (g := ba) (o := .cells #[.int .u64 bK, .int .u64 bO, .slice Ao9 bN.length co9] 27 (0, 0)) zx23_4) : ba ≠ bb)); have bm := Aside0.mk ((by rw [hg]; exact Nat.ne_of_gt (blk_lt (g := ba) (o := .cells #[.int .u64 bK, .int .u64 bO, .slice Ao9 bN.length co9] 27 (0, 0)) zx23_4) : bb ≠ ba)); replace bf := Aside0.mk (blk_below (g := ba) (o := .cells #[.int .u64 bK, .int .u64 bO, .slice Ao9 bN.length co9] 27 (0, 0)) zx23_4 hb); clear hb hbox hg; have gB := bw.out; have gw := bp.out; have gA := bm.out; have gv := bl.out; have dl : w11.cell? ⟨bb, 0, none⟩ = some (.int .u64 0) := (blk_cell bh.out 0).trans rfl; have dk : w11.cell? ⟨bb, 1, none⟩ = some (.int .u64 0) := (blk_cell bh.out 1).trans rfl; have dj : w11.cell? ⟨bb, 2, none⟩ = some (.slice none 0 0) := (blk_cell bh.out 2).trans rfl; have di := blk_frozen bh.out 0; have dh := blk_frozen bh.out 1; have dg := blk_frozen bh.out 2; obtain ⟨dD, dA, gq⟩ := Kd.S_slice b5.out; subst gq))
 go_loopg [5] k (fun kq v5 w' => ∃ (bo : Int) (be : Int) (bd : Int) (bc : List (S37)) (bk : Int) (bi : Int) (bg : List (S84)) (bS : Value) (bR : Value), v5 = .int .i64 bo ∧ Aside0 (postroomlaw10_run.l0 kq l0 bo be bd bc bk bi bg = some (r1, r2, r3)) ∧ Aside0 (kq ≤ k) ∧ Aside0 (Kd.V k37 37 w' w.heap.size (fun k_ => (w.heap.size ≤ k_) ∧ k_ ≠ bj ∧ k_ ≠ ba ∧ k_ ≠ bb) bS bc) ∧ Aside0 (Kd.V k84 84 w' w.heap.size (fun k_ => (w.heap.size ≤ k_) ∧ k_ ≠ bj ∧ k_ ≠ ba ∧ k_ ≠ bb) bR bg) ∧ Aside0 (w'.heap[bj]? = some (.cells #[.int .u64 0, .int .u64 0, (.slice none 0 0)] 27 (0, 0))) ∧ Aside0 (w'.heap[ba]? = some (.cells #[.int .u64 be, .int .u64 bd, bS] 27 (0, 0))) ∧ Aside0 (w'.heap[bb]? = some (.cells #[.int .u64 bk, .int .u64 bi, bR] 57 (0, 0))) ∧ Aside0 (Below w.heap.size w w'))
 case atStart => exact ⟨(0), (bK), (bO), (bN), (b1), (dc), (db), (.slice Ao9 bN.length co9), (.slice dD db.length dA), (by first | rfl | (simp; done) | (simp [*]; done)), H', ⟨Nat.le_refl _⟩, ⟨Kd.S_V (by (with_reducible repeat (first | apply Kd.S_alloc | apply Kd.S_drewN | apply Kd.S_drew)); exact Kd.S_mono (Kd.S_far (p := ⟨bb, 2, none⟩) (Kd.S_far (p := ⟨bb, 1, none⟩) (Kd.S_far (p := ⟨bb, 0, none⟩) (Kd.S_types (Kd.S_types (Kd.S_types (Kd.S_types bE.out bu.out (by decide)) bf.out (by decide)) bh.out (by decide)) bh.out (by decide)) (fun _ hk => hk.2) (.int .u64 b1)) (fun _ hk => hk.2) (.int .u64 dc)) (fun _ hk => hk.2) (.slice dD db.length dA)) (fun _ hk => ⟨hk.1.1.1.1.1, ⟨hk.1.1.1.2, ⟨hk.1.1.2, hk.1.2⟩⟩⟩))⟩, ⟨Kd.S_V (by (with_reducible repeat (first | apply Kd.S_alloc | apply Kd.S_drewN | apply Kd.S_drew)); exact Kd.S_mono (Kd.S_far (p := ⟨bb, 2, none⟩) (Kd.S_far (p := ⟨bb, 1, none⟩) (Kd.S_far (p := ⟨bb, 0, none⟩) (Kd.S_types (Kd.S_types (Kd.S_types (Kd.S_types b5.out bu.out (by decide)) bf.out (by decide)) bh.out (by decide)) bh.out (by decide)) (fun _ hk => hk.2) (.int .u64 b1)) (fun _ hk => hk.2) (.int .u64 dc)) (fun _ hk => hk.2) (.slice dD db.length dA)) (fun _ hk => ⟨hk.1.1.1.1.1, ⟨hk.1.1.1.2, ⟨hk.1.1.2, hk.1.2⟩⟩⟩))⟩, ⟨by (iterate 3 ((with_reducible repeat (first | refine blk_drewN ?_ _ | refine blk_drew ?_ | refine blk_alloc ?_ _)); refine blk_far ?_ bp.out _)); (with_reducible repeat (first | refine blk_drewN ?_ _ | refine blk_drew ?_ | refine blk_alloc ?_ _)); exact bu.out⟩, ⟨by (iterate 3 ((with_reducible repeat (first | refine blk_drewN ?_ _ | refine blk_drew ?_ | refine blk_alloc ?_ _)); refine blk_far ?_ bl.out _)); (with_reducible repeat (first | refine blk_drewN ?_ _ | refine blk_drew ?_ | refine blk_alloc ?_ _)); exact bf.out⟩, ⟨by (with_reducible repeat (first | refine blk_drewN ?_ _ | refine blk_drew ?_ | refine blk_alloc ?_ _)); refine blk_put (cs := #[.int .u64 b1, .int .u64 dc, .slice none 0 0]) ?_ 2 _ rfl; (with_reducible repeat (first | refine blk_drewN ?_ _ | refine blk_drew ?_ | refine blk_alloc ?_ _)); refine blk_put (cs := #[.int .u64 b1, .int .u64 0, .slice none 0 0]) ?_ 1 _ rfl; (with_reducible repeat (first | refine blk_drewN ?_ _ | refine blk_drew ?_ | refine blk_alloc ?_ _)); refine blk_put (cs := #[.int .u64 0, .int .u64 0, .slice none 0 0]) ?_ 0 _ rfl; (with_reducible repeat (first | refine blk_drewN ?_ _ | refine blk_drew ?_ | refine blk_alloc ?_ _)); exact bh.out⟩, ⟨by repeat (first | (with_reducible first | exact HB.out | apply below_alloc | apply pw_below_drewN | apply below_drew1 | refine below_set ?_ bQ.out | refine below_set ?_ bY.out | refine below_set ?_ b6.out) | exact HB.out)⟩⟩
 case round =>
  clear H'
  (try clear c1); (try clear c2); (try clear p2); (try clear c7); (try clear c11); (try clear c12); (try clear c13); (try clear dl); (try clear dk); (try clear dj); (try clear dx); (try clear dw); (try clear dv); (try clear di); (try clear dh); (try clear dg); (try clear du); (try clear dt); (try clear dr)
  obtain ⟨bo, be, bd, bc, bk, bi, bg, bS, bR, rfl, HA, HK1, bn, br, bu, bf, bh, HB⟩ := hrel
  cases gk with
  | zero => exact absurd HA.out (by simp [postroomlaw10_run.l0])
  | succ k1 => ?_
  have H := HA.out
  clear HA
  simp only [postroomlaw10_run.l0] at H
  by_cases c16 : bo < (l0.length : Int)
  case neg =>
   rw [if_neg c16] at H
   have dJ : decide (bo < (l0.length : Int)) = false := decide_eq_false c16
   clear c16
   simp only [Option.some.injEq, Prod.mk.injEq] at H
   obtain ⟨rfl, rfl, rfl⟩ := H
   have gz := bx.out
   have gu := bq.out
   have gy := bl.out
   have gt := bm.out
   obtain ⟨gn, gm, gl, gg, gf, ge⟩ := cx23_bc3 bf.out
   have gx := bp.out
   have gs := bw.out
   obtain ⟨gj, gi, gh, gc, gb, ga⟩ := cx23_bc3 bu.out
   obtain ⟨dK, dI, gp⟩ := Kd.V_slice bn.out
   subst gp
   go_wp2
   refine bodyPost_ret (results_cell_row rfl _ _ bj 27 #[.int .u64 be, .int .u64 bd, .slice dK bc.length dI] (0, 0) _ rfl (by (with_reducible repeat (first | refine blk_drewN ?_ _ | refine blk_drew ?_ | refine blk_alloc ?_ _)); refine blk_put (cs := #[.int .u64 be, .int .u64 bd, .slice none 0 0]) ?_ 2 _ rfl; (with_reducible repeat (first | refine blk_drewN ?_ _ | refine blk_drew ?_ | refine blk_alloc ?_ _)); refine blk_put (cs := #[.int .u64 be, .int .u64 0, .slice none 0 0]) ?_ 1 _ rfl; (with_reducible repeat (first | refine blk_drewN ?_ _ | refine blk_drew ?_ | refine blk_alloc ?_ _)); refine blk_put (cs := #[.int .u64 0, .int .u64 0, .slice none 0 0]) ?_ 0 _ rfl; (with_reducible repeat (first | refine blk_drewN ?_ _ | refine blk_drew ?_ | refine blk_alloc ?_ _)); exact bu.out) Tryd.underlying27 rfl (by kernel_rfl)) rfl ?_
   exact ⟨_, by first | rfl | (simp [errW_none, errW_some] <;> rfl) | (simp [*, errW_none, errW_some] <;> rfl), by (with_reducible repeat (first | apply Kd.V_alloc | apply Kd.V_drewN | apply Kd.V_drew)); exact Kd.V_mono (Kd.V_far (p := ⟨bj, 2, none⟩) (Kd.V_far (p := ⟨bj, 1, none⟩) (Kd.V_far (p := ⟨bj, 0, none⟩) (Kd.V_mono bn.out (fun k_ hk => (⟨hk, hk.2.1⟩ : _ ∧ k_ ≠ bj))) (fun _ hk => hk.2) (.int .u64 be)) (fun _ hk => hk.2) (.int .u64 bd)) (fun _ hk => hk.2) (.slice dK bc.length dI)) (fun _ hk => hk.1.1), by repeat (first | (with_reducible first | exact HB.out | apply below_alloc | apply pw_below_drewN | apply below_drew1 | refine below_set ?_ bQ.out | refine below_set ?_ bY.out | refine below_set ?_ b6.out) | exact HB.out)⟩

  rw [if_pos c16] at H
  have dJ : decide (bo < (l0.length : Int)) = true := decide_eq_true c16
  clear c16
  by_cases c17 : 0 ≤ bo
  case neg =>
   rw [if_neg c17] at H
   exact absurd H (by simp)
  rw [if_pos c17] at H
  have gI : decide (0 ≤ bo) = true := decide_eq_true c17
  clear c17
  replace H := Option.bind_eq_some_iff.mp H
  obtain ⟨⟨b0, da, b9, bZ, b8, b7, go⟩, dL, H⟩ := H
  replace H : (postroomlaw10_run.l0 k1 l0 (wrap64 (bo + 1)) b0 da b9 bZ b8 b7) = some (r1, r2, r3) := H
  have A18 := Aside0.mk dL
  clear dL
  have H' := Aside0.mk H
  clear H
  try go_wp2
  replace bn := Aside0.mk (Kd.V_drew bn.out)
  replace br := Aside0.mk (Kd.V_drew br.out)
  replace bu := Aside0.mk (blk_drew bu.out)
  replace bf := Aside0.mk (blk_drew bf.out)
  replace bh := Aside0.mk (blk_drew bh.out)
  replace HB := Aside0.mk (below_drew1 HB.out)
  have dq : 0 ≤ (bo : Int) := of_decide_eq_true (by first | (with_reducible assumption) | assumption)
  have dp : bo < (l0.length : Int) := of_decide_eq_true (by first | (with_reducible assumption) | assumption)
  obtain ⟨bM, gr, bD, bC, bB, bA⟩ := at_T43 HR0.out bo dq dp
  have bG := bA
  have bH := bB
  have bI := bC
  have bJ := bD
  cases gr
  replace bD := (HB.out.cell (World.block_lt_of_cell? w _ bD)).trans bD
  replace bC := (HB.out.cell (World.block_lt_of_cell? w _ bC)).trans bC
  replace bB := (HB.out.cell (World.block_lt_of_cell? w _ bB)).trans bB
  replace bA := (HB.out.cell (World.block_lt_of_cell? w _ bA)).trans bA
  replace dq := eq_true dq
  replace dp := eq_true dp
  obtain ⟨bX, bV, dH⟩ := Kd.V_slice bn.out
  (first | subst dH | (injection dH with f1_ f2_ f3_; have f4_ := f1_.symm; have f5_ := f3_.symm; clear f1_ f2_ f3_; subst f4_; subst f5_))
  obtain ⟨bW, bU, dG⟩ := Kd.V_slice br.out
  (first | subst dG | (injection dG with f1_ f2_ f3_; have f4_ := f1_.symm; have f5_ := f3_.symm; clear f1_ f2_ f3_; subst f4_; subst f5_))
  refine start_ (n := 13) (S := fun w' => w'.cell? ⟨ba, 0, none⟩ = some (.int .u64 be) ∧ w'.cell? ⟨ba, 1, none⟩ = some (.int .u64 bd) ∧ w'.cell? ⟨ba, 2, none⟩ = some (.slice bX bc.length bV) ∧ w'.cell? ⟨bb, 0, none⟩ = some (.int .u64 bk) ∧ w'.cell? ⟨bb, 1, none⟩ = some (.int .u64 bi) ∧ w'.cell? ⟨bb, 2, none⟩ = some (.slice bW bg.length bU) ∧ w'.cell? (bM.add ((bo).toNat * 4)) = some (.int .i64 ((rd_T43 l0 bo).f0)) ∧ w'.cell? ⟨(bM.add ((bo).toNat * 4)).block, (bM.add ((bo).toNat * 4)).off + 1, none⟩ = some (.int .i64 ((rd_T43 l0 bo).f1)) ∧ w'.cell? ⟨(bM.add ((bo).toNat * 4)).block, (bM.add ((bo).toNat * 4)).off + 2, none⟩ = some (.int .i64 ((rd_T43 l0 bo).f2)) ∧ w'.cell? ⟨(bM.add ((bo).toNat * 4)).block, (bM.add ((bo).toNat * 4)).off + 3, none⟩ = some (.int .i64 ((rd_T43 l0 bo).f3))) (ds := [11, 12]) #[Ff,Ff,Ff,Ff,Ff,Ff,Ff,Ff,Ff,Ff,Ff,Ff,Ff] (by kernel_rfl) rfl rfl ⟨(blk_cell bf.out 0).trans rfl, (blk_cell bf.out 1).trans rfl, (blk_cell bf.out 2).trans rfl, (blk_cell bh.out 0).trans rfl, (blk_cell bh.out 1).trans rfl, (blk_cell bh.out 2).trans rfl, ((HB.out.cell (World.block_lt_of_cell? w _ bJ)).trans bJ), ((HB.out.cell (World.block_lt_of_cell? w _ bI)).trans bI), ((HB.out.cell (World.block_lt_of_cell? w _ bH)).trans bH), ((HB.out.cell (World.block_lt_of_cell? w _ bG)).trans bG)⟩ (fun hHeld => ?_); refine with_tabW postroomlaw10_run.tab6 postroomlaw10_run.bits6 (fun HT_ HW_ => ?_)
  generalize wr.drew = w19 at bn br bu bf bh HB bD bC bB bA hHeld ⊢
  refine pp_ 2 (some 17) HT_.out ?_
  refine pp_ 3 (some 18) HT_.out ?_
  refine pp_ 4 (some 19) HT_.out ?_
  refine take_ (i := 0) (N := some 15) (v := ?_) (a' := ?_) #[Tt,Ff,Tt,Tt,Tt,Ff,Ff,Ff,Ff,Ff,Ff,Ff,Ff] rfl rfl (take_ofW HT_.out HW_.out (by kernel_rfl)) (fun _ _ _ h => h) (Or.inl ⟨by rfl, ?_⟩) hHeld ?_ ?_
  rotate_left
  ·rintro w' ⟨s0, s1, s2, s3, s4, s5, s6, s7, s8, s9⟩
   go_simp
   with_reducible rfl
  rotate_left
  ·simp only [Act.put, List.setIfInBounds_toArray, List.set_cons_zero, List.set_cons_succ, i64_w, i32_w]
   rfl
  refine take_ (i := 1) (N := some 16) (v := ?_) (a' := ?_) #[Tt,Tt,Tt,Tt,Tt,Ff,Ff,Ff,Ff,Ff,Ff,Ff,Ff] rfl rfl (take_ofW HT_.out HW_.out (by kernel_rfl)) (fun _ _ _ h => h) (Or.inl ⟨by rfl, ?_⟩) hHeld ?_ ?_
  rotate_left
  ·rintro w' ⟨s0, s1, s2, s3, s4, s5, s6, s7, s8, s9⟩
   go_simp
   with_reducible rfl
  rotate_left
  ·simp only [Act.put, List.setIfInBounds_toArray, List.set_cons_zero, List.set_cons_succ, i64_w, i32_w]
   rfl
  refine take_ (i := 5) (N := some 20) (v := ?_) (a' := ?_) #[Tt,Tt,Tt,Tt,Tt,Tt,Ff,Ff,Ff,Ff,Ff,Ff,Ff] rfl rfl (take_ofW HT_.out HW_.out (by kernel_rfl)) (fun _ _ _ h => h) (Or.inl ⟨by rfl, ?_⟩) hHeld ?_ ?_
  rotate_left
  ·rintro w' ⟨s0, s1, s2, s3, s4, s5, s6, s7, s8, s9⟩
   go_simp
   with_reducible rfl
  rotate_left
  ·simp only [Act.put, List.setIfInBounds_toArray, List.set_cons_zero, List.set_cons_succ, i64_w, i32_w]
   rfl
  refine one_ (i := 6) (N := some 21) #[Tt,Tt,Tt,Tt,Tt,Tt,Tt,Ff,Ff,Ff,Ff,Ff,Ff] rfl rfl (one_of HT_.out (by kernel_rfl)) (by decide) (fun K hK => ?_)
  refine goes_ Tryd.func27 (by kernel_rfl) rfl #[.agg #[.int .u64 be, .int .u64 bd, .slice bX bc.length bV], .agg #[.int .u64 bk, .int .u64 bi, .slice bW bg.length bU], .agg #[.int .i64 ((rd_T43 l0 bo).f0), .int .i64 ((rd_T43 l0 bo).f1), .int .i64 ((rd_T43 l0 bo).f2), .int .i64 ((rd_T43 l0 bo).f3)]] (by rfl) rfl rfl zx23_5 ?_
  with_reducible refine (postroomlaw10_does.calls k1 be bd (fun k_ => ((w.heap.size ≤ k_) ∧ (k_ ≠ bj ∧ (k_ ≠ ba ∧ k_ ≠ bb)))) _ _ bc bk bi (fun k_ => ((w.heap.size ≤ k_) ∧ (k_ ≠ bj ∧ (k_ ≠ ba ∧ k_ ≠ bb)))) _ _ bg ((rd_T43 l0 bo).f0) ((rd_T43 l0 bo).f1) ((rd_T43 l0 bo).f2) ((rd_T43 l0 bo).f3) b0 da b9 bZ b8 b7 go _ ?side1 ?side2 A18.out).mono ?_
  (case side1 => exact bn.out)
  (case side2 => exact br.out)
  rintro e w22 ⟨gN, gM, rfl, ho0, ho1, hb⟩
  refine ⟨_, rfl, ?_⟩
  replace bn := Aside0.mk (Kd.V_below (by (with_reducible repeat (first | apply Kd.V_alloc | apply Kd.V_drewN | apply Kd.V_drew)); exact bn.out) hb)
  replace br := Aside0.mk (Kd.V_below (by (with_reducible repeat (first | apply Kd.V_alloc | apply Kd.V_drewN | apply Kd.V_drew)); exact br.out) hb)
  have dn := Aside0.mk (Kd.V_lower (Kd.V_mono (ok' := fun k_ => (w.heap.size ≤ k_) ∧ k_ ≠ bj ∧ k_ ≠ ba ∧ k_ ≠ bb) ho0 (fun k_ hk_ => ⟨Or.elim hk_ (fun hs_ => Or.elim hs_ (fun hs_ => hs_.1) (fun hs_ => hs_.1)) (fun hn_ => (Nat.le_trans (below_size zx23_2) hn_)), Or.elim hk_ (fun hs_ => Or.elim hs_ (fun hs_ => hs_.2.1) (fun hs_ => hs_.2.1)) (fun hn_ => (Kd.freshB (g := bj) (o := .cells #[.int .u64 0, .int .u64 0, .slice none 0 0] 27 (0, 0)) zx23_0 k_ hn_)), Or.elim hk_ (fun hs_ => Or.elim hs_ (fun hs_ => hs_.2.2.1) (fun hs_ => hs_.2.2.1)) (fun hn_ => (Kd.freshB (g := ba) (o := .cells #[.int .u64 be, .int .u64 bd, .slice bX bc.length bV] 27 (0, 0)) zx23_4 k_ hn_)), Or.elim hk_ (fun hs_ => Or.elim hs_ (fun hs_ => hs_.2.2.2) (fun hs_ => hs_.2.2.2)) (fun hn_ => (Kd.freshB (g := bb) (o := .cells #[.int .u64 bk, .int .u64 bi, .slice bW bg.length bU] 57 (0, 0)) zx23_7 k_ hn_))⟩)) (below_size zx23_2))
  have dm := Aside0.mk (Kd.V_lower (Kd.V_mono (ok' := fun k_ => (w.heap.size ≤ k_) ∧ k_ ≠ bj ∧ k_ ≠ ba ∧ k_ ≠ bb) ho1 (fun k_ hk_ => ⟨Or.elim hk_ (fun hs_ => Or.elim hs_ (fun hs_ => hs_.1) (fun hs_ => hs_.1)) (fun hn_ => (Nat.le_trans (below_size zx23_2) hn_)), Or.elim hk_ (fun hs_ => Or.elim hs_ (fun hs_ => hs_.2.1) (fun hs_ => hs_.2.1)) (fun hn_ => (Kd.freshB (g := bj) (o := .cells #[.int .u64 0, .int .u64 0, .slice none 0 0] 27 (0, 0)) zx23_0 k_ hn_)), Or.elim hk_ (fun hs_ => Or.elim hs_ (fun hs_ => hs_.2.2.1) (fun hs_ => hs_.2.2.1)) (fun hn_ => (Kd.freshB (g := ba) (o := .cells #[.int .u64 be, .int .u64 bd, .slice bX bc.length bV] 27 (0, 0)) zx23_4 k_ hn_)), Or.elim hk_ (fun hs_ => Or.elim hs_ (fun hs_ => hs_.2.2.2) (fun hs_ => hs_.2.2.2)) (fun hn_ => (Kd.freshB (g := bb) (o := .cells #[.int .u64 bk, .int .u64 bi, .slice bW bg.length bU] 57 (0, 0)) zx23_7 k_ hn_))⟩)) (below_size zx23_2))
  replace bu := Aside0.mk (blk_below (g := bj) (o := .cells #[.int .u64 0, .int .u64 0, .slice none 0 0] 27 (0, 0)) zx23_0 hb)
  replace bf := Aside0.mk (blk_below (g := ba) (o := .cells #[.int .u64 be, .int .u64 bd, .slice bX bc.length bV] 27 (0, 0)) zx23_4 hb)
  replace bh := Aside0.mk (blk_below (g := bb) (o := .cells #[.int .u64 bk, .int .u64 bi, .slice bW bg.length bU] 57 (0, 0)) zx23_7 hb)
  replace HB := Aside0.mk (below_step zx23_2 hb)
  (try clear hb)
  (try clear hb2)
  (try clear hk)
  (try clear hi)
  (try clear ho0)
  (try clear ho1)
  obtain ⟨dC, dz, dF⟩ := Kd.V_slice dn.out
  (first | subst dF | (injection dF with f1_ f2_ f3_; have f4_ := f1_.symm; have f5_ := f3_.symm; clear f1_ f2_ f3_; subst f4_; subst f5_))
  obtain ⟨dB, dy, dE⟩ := Kd.V_slice dm.out
  (first | subst dE | (injection dE with f1_ f2_ f3_; have f4_ := f1_.symm; have f5_ := f3_.symm; clear f1_ f2_ f3_; subst f4_; subst f5_))
  refine hK.out _ _ ⟨(blk_cell bf.out 0).trans rfl, (blk_cell bf.out 1).trans rfl, (blk_cell bf.out 2).trans rfl, (blk_cell bh.out 0).trans rfl, (blk_cell bh.out 1).trans rfl, (blk_cell bh.out 2).trans rfl, ((HB.out.cell (World.block_lt_of_cell? w _ bJ)).trans bJ), ((HB.out.cell (World.block_lt_of_cell? w _ bI)).trans bI), ((HB.out.cell (World.block_lt_of_cell? w _ bH)).trans bH), ((HB.out.cell (World.block_lt_of_cell? w _ bG)).trans bG)⟩ (fun hHeld => ?_)
  clear hK K
  refine na_ 21 ?_
  refine pp_ 7 (some 14) HT_.out ?_
  refine pp_ 8 (some 22) HT_.out ?_
  refine pp_ 9 (some 23) HT_.out ?_
  refine pp_ 10 (some 24) HT_.out ?_
  refine last_ (i := 11) (N := none) #[Tt,Tt,Tt,Tt,Tt,Tt,Tt,Tt,Tt,Tt,Tt,Tt,Ff] rfl rfl (one_of HT_.out (by kernel_rfl)) (by decide) (fun K hK => ?_)
  have gY : w22.cell? ⟨ba, 0, none⟩ = some (.int .u64 be) := (blk_cell bf.out 0).trans rfl
  have gH := blk_frozen bf.out 0
  have dX := bq.out
  have dW := bm.out
  have d9 := bx.out
  have d8 := bl.out
  have gX : w22.cell? ⟨ba, 1, none⟩ = some (.int .u64 bd) := (blk_cell bf.out 1).trans rfl
  have gG := blk_frozen bf.out 1
  have dV := bq.out
  have dU := bm.out
  have d7 := bx.out
  have d6 := bl.out
  have gW : w22.cell? ⟨ba, 2, none⟩ = some (.slice bX bc.length bV) := (blk_cell bf.out 2).trans rfl
  have gF := blk_frozen bf.out 2
  have dT := bq.out
  have dS := bm.out
  have d5 := bx.out
  have d4 := bl.out
  refine skip_ (w1 := ?_) (by rfl) rfl ?_ ?_
  rotate_left
  ·go_simp
   rfl
  refine hK.out _ _ ?_
  clear hK K
  refine last_ (i := 12) (N := none) #[Tt,Tt,Tt,Tt,Tt,Tt,Tt,Tt,Tt,Tt,Tt,Tt,Tt] rfl rfl (one_of HT_.out (by kernel_rfl)) (by decide) (fun K hK => ?_)
  have gV : w22.cell? ⟨bb, 0, none⟩ = some (.int .u64 bk) := (blk_cell bh.out 0).trans rfl
  have gE := blk_frozen bh.out 0
  have dR := bp.out
  have dQ := bl.out
  have d3 := bw.out
  have d2 := bm.out
  have gU : w22.cell? ⟨bb, 1, none⟩ = some (.int .u64 bi) := (blk_cell bh.out 1).trans rfl
  have gD := blk_frozen bh.out 1
  have dP := bp.out
  have dO := bl.out
  have d1 := bw.out
  have d0 := bm.out
  have gT : w22.cell? ⟨bb, 2, none⟩ = some (.slice bW bg.length bU) := (blk_cell bh.out 2).trans rfl
  have gC := blk_frozen bh.out 2
  have dN := bp.out
  have dM := bl.out
  have dZ := bw.out
  have dY := bm.out
  refine skip_ (w1 := ?_) (by rfl) rfl ?_ ?_
  rotate_left
  ·go_simp
   rfl
  refine hK.out _ _ ?_
  clear hK K
  refine done_ (done_of HT_.out (by kernel_rfl)) ?_
  try go_wp2
  go_roundg k1
  case measure => have := HK1.out; omega
  case rel => exact ⟨(wrap64 (bo + 1)), (b0), (da), (b9), (bZ), (b8), (b7), (.slice dC b9.length dz), (.slice dB b7.length dy), (by first | rfl | (simp; done) | (simp [*]; done)), H', ⟨by have := HK1.out; omega⟩, ⟨by (with_reducible repeat (first | apply Kd.V_alloc | apply Kd.V_drewN | apply Kd.V_drew)); exact Kd.V_mono (Kd.V_far (p := ⟨bb, 2, none⟩) (Kd.V_far (p := ⟨bb, 1, none⟩) (Kd.V_far (p := ⟨bb, 0, none⟩) (Kd.V_far (p := ⟨ba, 2, none⟩) (Kd.V_far (p := ⟨ba, 1, none⟩) (Kd.V_far (p := ⟨ba, 0, none⟩) (Kd.V_mono (Kd.V_mono dn.out (fun k_ hk => (⟨hk, hk.2.2.1⟩ : _ ∧ k_ ≠ ba))) (fun k_ hk => (⟨hk, hk.1.2.2.2⟩ : _ ∧ k_ ≠ bb))) (fun _ hk => hk.1.2) (.int .u64 b0)) (fun _ hk => hk.1.2) (.int .u64 da)) (fun _ hk => hk.1.2) (.slice dC b9.length dz)) (fun _ hk => hk.2) (.int .u64 bZ)) (fun _ hk => hk.2) (.int .u64 b8)) (fun _ hk => hk.2) (.slice dB b7.length dy)) (fun _ hk => ⟨hk.1.1.1, ⟨hk.1.1.2.1, ⟨hk.1.1.2.2.1, hk.1.1.2.2.2⟩⟩⟩)⟩, ⟨by (with_reducible repeat (first | apply Kd.V_alloc | apply Kd.V_drewN | apply Kd.V_drew)); exact Kd.V_mono (Kd.V_far (p := ⟨bb, 2, none⟩) (Kd.V_far (p := ⟨bb, 1, none⟩) (Kd.V_far (p := ⟨bb, 0, none⟩) (Kd.V_far (p := ⟨ba, 2, none⟩) (Kd.V_far (p := ⟨ba, 1, none⟩) (Kd.V_far (p := ⟨ba, 0, none⟩) (Kd.V_mono (Kd.V_mono dm.out (fun k_ hk => (⟨hk, hk.2.2.1⟩ : _ ∧ k_ ≠ ba))) (fun k_ hk => (⟨hk, hk.1.2.2.2⟩ : _ ∧ k_ ≠ bb))) (fun _ hk => hk.1.2) (.int .u64 b0)) (fun _ hk => hk.1.2) (.int .u64 da)) (fun _ hk => hk.1.2) (.slice dC b9.length dz)) (fun _ hk => hk.2) (.int .u64 bZ)) (fun _ hk => hk.2) (.int .u64 b8)) (fun _ hk => hk.2) (.slice dB b7.length dy)) (fun _ hk => ⟨hk.1.1.1, ⟨hk.1.1.2.1, ⟨hk.1.1.2.2.1, hk.1.1.2.2.2⟩⟩⟩)⟩, ⟨by (iterate 3 ((with_reducible repeat (first | refine blk_drewN ?_ _ | refine blk_drew ?_ | refine blk_alloc ?_ _)); refine blk_far ?_ bp.out _)); (iterate 3 ((with_reducible repeat (first | refine blk_drewN ?_ _ | refine blk_drew ?_ | refine blk_alloc ?_ _)); refine blk_far ?_ bq.out _)); (with_reducible repeat (first | refine blk_drewN ?_ _ | refine blk_drew ?_ | refine blk_alloc ?_ _)); exact bu.out⟩, ⟨by (iterate 3 ((with_reducible repeat (first | refine blk_drewN ?_ _ | refine blk_drew ?_ | refine blk_alloc ?_ _)); refine blk_far ?_ bl.out _)); (with_reducible repeat (first | refine blk_drewN ?_ _ | refine blk_drew ?_ | refine blk_alloc ?_ _)); refine blk_put (cs := #[.int .u64 b0, .int .u64 da, .slice bX bc.length bV]) ?_ 2 _ rfl; (with_reducible repeat (first | refine blk_drewN ?_ _ | refine blk_drew ?_ | refine blk_alloc ?_ _)); refine blk_put (cs := #[.int .u64 b0, .int .u64 bd, .slice bX bc.length bV]) ?_ 1 _ rfl; (with_reducible repeat (first | refine blk_drewN ?_ _ | refine blk_drew ?_ | refine blk_alloc ?_ _)); refine blk_put (cs := #[.int .u64 be, .int .u64 bd, .slice bX bc.length bV]) ?_ 0 _ rfl; (with_reducible repeat (first | refine blk_drewN ?_ _ | refine blk_drew ?_ | refine blk_alloc ?_ _)); exact bf.out⟩, ⟨by (with_reducible repeat (first | refine blk_drewN ?_ _ | refine blk_drew ?_ | refine blk_alloc ?_ _)); refine blk_put (cs := #[.int .u64 bZ, .int .u64 b8, .slice bW bg.length bU]) ?_ 2 _ rfl; (with_reducible repeat (first | refine blk_drewN ?_ _ | refine blk_drew ?_ | refine blk_alloc ?_ _)); refine blk_put (cs := #[.int .u64 bZ, .int .u64 bi, .slice bW bg.length bU]) ?_ 1 _ rfl; (with_reducible repeat (first | refine blk_drewN ?_ _ | refine blk_drew ?_ | refine blk_alloc ?_ _)); refine blk_put (cs := #[.int .u64 bk, .int .u64 bi, .slice bW bg.length bU]) ?_ 0 _ rfl; (iterate 3 ((with_reducible repeat (first | refine blk_drewN ?_ _ | refine blk_drew ?_ | refine blk_alloc ?_ _)); refine blk_far ?_ bm.out _)); (with_reducible repeat (first | refine blk_drewN ?_ _ | refine blk_drew ?_ | refine blk_alloc ?_ _)); exact bh.out⟩, ⟨by repeat (first | (with_reducible first | exact HB.out | apply below_alloc | apply pw_below_drewN | apply below_drew1 | refine below_set ?_ bQ.out | refine below_set ?_ bY.out | refine below_set ?_ b6.out) | exact HB.out)⟩⟩
end Go.Proofs.YthhmpjapnkilcaaDoor.XLdg
