/- Texts of this seat, in one. Conditions: those that each theorem names. -/
import Derived.Test.YthhmpjapnkilcaaDoorXLdgP1
import Derived.Test.YthhmpjapnkilcaaDoorXLdgP3
import Derived.Test.YthhmpjapnkilcaaDoorXLdgP4
import Derived.Test.YthhmpjapnkilcaaDoorXLdgP2
section
/- What the functions of the translation answer, each as a plain Lean function, and that the code comes to it; for a law: its row. Conditions: none but those that each theorem names. Written by a program of this session (wip/xp). -/
namespace Go.Proofs.YthhmpjapnkilcaaDoor.XLdg
open Go.RowKit Go.Proofs.YthhmpjapnkilcaaDoorW.PrintWords Go.Proofs.YthhmpjapnkilcaaDoorW.PrintLast Go.Proofs.YthhmpjapnkilcaaDoorW.PrintMore
attribute [local go_sem] max2_int min2_int max_two min_two max_three min_three max_four min_four   -- for this text's walks alone
theorem cx18_bc3 {w : World} {g : Nat} {t : TypeId} {x0 x1 x2 : Value} (h : w.heap[g]? = some (.cells #[x0, x1, x2] t (0, 0))) : w.cell? ⟨g, 0, none⟩ = some x0 ∧ w.cell? ⟨g, 1, none⟩ = some x1 ∧ w.cell? ⟨g, 2, none⟩ = some x2 ∧ w.frozen? ⟨g, 0, none⟩ = false ∧ w.frozen? ⟨g, 1, none⟩ = false ∧ w.frozen? ⟨g, 2, none⟩ = false :=
 ⟨(blk_cell h 0).trans rfl, (blk_cell h 1).trans rfl, (blk_cell h 2).trans rfl, blk_frozen h 0, blk_frozen h 1, blk_frozen h 2⟩
theorem zx18_7 {p : Prop} (h : p := by first | (with_reducible assumption) | assumption) : p := h
theorem zx18_1 {p : Prop} (h : p := by (with_reducible repeat (first | refine blk_drewN ?_ _ | refine blk_drew ?_ | refine blk_alloc ?_ _)); exact bc.out) : p := h
theorem zx18_4 {p : Prop} (h : p := by (with_reducible repeat (first | refine blk_drewN ?_ _ | refine blk_drew ?_ | refine blk_alloc ?_ _)); exact be.out) : p := h
theorem zx18_5 {p : Prop} (h : p := by repeat (first | (with_reducible first | exact HB.out | apply below_alloc | apply pw_below_drewN | apply below_drew1) | exact HB.out)) : p := h
theorem zx18_6 {p : Prop} (h : p := by (try simp only [List.map_toArray, List.map_cons, List.map_nil]); first | done | rfl | (simp only [List.length_drop, List.length_take]; rfl)) : p := h
theorem zx18_3 {p : Prop} (h : p := by repeat (first | (with_reducible first | exact HB.out | apply below_alloc | apply pw_below_drewN | apply below_drew1 | refine below_set ?_ bz.out) | exact HB.out)) : p := h
theorem zx18_0 {p : Prop} (h : p := by repeat (first | (with_reducible first | exact HB.out | apply below_alloc | apply pw_below_drewN | apply below_drew1 | refine below_set ?_ bz.out | refine below_set ?_ bB.out) | exact HB.out)) : p := h
theorem zx18_2 {p : Prop} (h : p := by (with_reducible repeat (first | refine blk_drewN ?_ _ | refine blk_drew ?_ | refine blk_alloc ?_ _)); refine blk_put (cs := #[.int .u64 0, .int .u64 0, .slice none 0 0]) ?_ 2 _ rfl; (with_reducible repeat (first | refine blk_drewN ?_ _ | refine blk_drew ?_ | refine blk_alloc ?_ _)); refine blk_put (cs := #[.int .u64 0, .int .u64 0, .slice none 0 0]) ?_ 1 _ rfl; (with_reducible repeat (first | refine blk_drewN ?_ _ | refine blk_drew ?_ | refine blk_alloc ?_ _)); refine blk_put (cs := #[.int .u64 0, .int .u64 0, .slice none 0 0]) ?_ 0 _ rfl; (with_reducible repeat (first | refine blk_drewN ?_ _ | refine blk_drew ?_ | refine blk_alloc ?_ _)); exact be.out) : p := h
set_option linter.unusedVariables false
set_option linter.unusedSimpArgs false

/-! ### postroomref10_Done: function 43 -/
def postroomref10_Done.j0 : Nat → ByteArray → Int → Int → Int → Bool → Int → Int → List (S84) → Option (Int × Int × (List (S84)) × Int)
 | 0, _, _, _, _, _, _, _, _ => none
 | k + 1, x1, x2, x3, x10, x23, b0, bZ, bY => if x23 = true then (some (0, 0, ([] : List (S84)), 1)) else ((postroomref10_Waits.f k b0 bZ bY x1 x2).bind fun da => (if da = true then ((postroomref10_copied.f k b0 bZ bY).bind fun bb => (if 0 ≤ x10 then (if x10 < (bb.2.2.length : Int) then (if 0 ≤ (IntKind.u64.wrap (x2 - ((rd_T84 bb.2.2 x10).f1))) then (if (IntKind.u64.wrap (x2 - ((rd_T84 bb.2.2 x10).f1))) < (((rd_T84 bb.2.2 x10).f2).length : Int) then (some (bb.1, bb.2.1, (bb.2.2.set (x10 : Int).toNat (⟨(rd_T84 bb.2.2 x10).f0, (rd_T84 bb.2.2 x10).f1, (((rd_T84 bb.2.2 x10).f2).set ((IntKind.u64.wrap (x2 - ((rd_T84 bb.2.2 x10).f1))) : Int).toNat x3)⟩ : S84)), 0)) else (none)) else (none)) else (none)) else (none))) else (some (0, 0, ([] : List (S84)), 13))))
def postroomref10_Done.f (k : Nat) (bk : Int) (bj : Int) (bi : List (S84)) (a1 : ByteArray) (a2 : Int) (a3 : Int) : Option (Int × Int × (List (S84)) × Int) := (postroomref10_place.f k bk bj bi a1).bind fun ba => (if ba < 0 then (some (0, 0, ([] : List (S84)), 5)) else (if a3 = 97 then (postroomref10_Done.j0 k a1 a2 a3 ba false bk bj bi) else (postroomref10_Done.j0 k a1 a2 a3 ba (a3 != 114) bk bj bi)))
def postroomref10_Done.T9 : Bool × List (List Nat × List Nat) := (true, [([], []), ([0], [0]), ([], []), ([1, 2], [1, 2]), ([3], [3]), ([4], [4]), ([], []), ([], []), ([7], [7]), ([], []), ([8, 9], [8, 9]), ([10], [10]), ([11], [11]), ([6, 12], [6, 12]), ([], []), ([5, 13, 0, 1, 2, 3, 4, 5, 6, 7, 8, 9, 10, 11, 12, 13, 14], [5, 13]), ([15, 14, 0, 1, 2, 3, 4, 5, 6, 7, 8, 9, 10, 11, 12, 13, 14], [14, 15])])
def postroomref10_Done.B9 : List Nat := [0, 1, 0, 7, 15, 31, 0, 0, 128, 0, 896, 1920, 3968, 8128, 0, 32767, 65535]
theorem postroomref10_Done.tab9 : rtab .any (opsOf Tryd.f43 9) = postroomref10_Done.T9 := by kernel_rfl
theorem postroomref10_Done.bits9 : waitsOk postroomref10_Done.T9.2 postroomref10_Done.B9 = true := by kernel_rfl
set_option maxHeartbeats 8000000 in
set_option maxRecDepth 100000 in
theorem postroomref10_Done.calls (k : Nat) (bk : Int) (bj : Int) (bo : Option Addr) (bn : Nat) (bi : List (S84)) (a1 : ByteArray) (a2 : Int) (a3 : Int) (r1 : Int) (r2 : Int) (r3 : List (S84)) (r4 : Int) (w : World) (dM : Kd.C k84 w bo bi.length bi) (dO : bi.length ≤ bn) (h : postroomref10_Done.f k bk bj bi a1 a2 a3 = some (r1, r2, r3, r4)) :
  Calls Tryd.prog 43 #[.agg #[.int .u64 bk, .int .u64 bj, .slice bo bi.length bn], .string a1, .int .u64 a2, .int .u8 a3] w fun e w' => ∃ v2_ : Value, e = .returned (.tuple #[.agg #[.int .u64 r1, .int .u64 r2, v2_], .int .i64 r4]) ∧ Kd.S k84 84 w' w.heap.size (fun _ => True) v2_ r3 ∧ Below w.heap.size w w' := by
 have hT := Tryd.underlying57
 have bV := Aside0.mk dM
 have bW := Aside0.mk dO
 clear dM dO
 have HB := Aside0.mk (Below.refl w.heap.size w)
 have H : ((postroomref10_place.f k bk bj bi a1).bind fun ba => (if ba < 0 then (some (0, 0, ([] : List (S84)), 5)) else (if a3 = 97 then (postroomref10_Done.j0 k a1 a2 a3 ba false bk bj bi) else (postroomref10_Done.j0 k a1 a2 a3 ba (a3 != 114) bk bj bi)))) = some (r1, r2, r3, r4) := h
 clear h
 replace H := Option.bind_eq_some_iff.mp H
 obtain ⟨ba, A50, H⟩ := H
 replace H : (if ba < 0 then (some (0, 0, ([] : List (S84)), 5)) else (if a3 = 97 then (postroomref10_Done.j0 k a1 a2 a3 ba false bk bj bi) else (postroomref10_Done.j0 k a1 a2 a3 ba (a3 != 114) bk bj bi))) = some (r1, r2, r3, r4) := H
 have A5 := Aside0.mk A50
 clear A50
 by_cases c6 : ba < 0
 ·rw [if_pos c6] at H
  have d4 : decide (ba < 0) = true := decide_eq_true c6
  clear c6
  simp only [Option.some.injEq, Prod.mk.injEq] at H
  obtain ⟨rfl, rfl, rfl, rfl⟩ := H
  go_enter Tryd.func43, Tryd.ntmps43
  go_wp2_with (first | ((with_reducible refine gate_dst (N := 4) rfl ?_); refine box_event ?hg (N := 4) ?hd (cs := #[.int .u64 bk, .int .u64 bj, .slice bo bi.length bn]) (t := 57) ?hr ?_; (case hd => rfl); (case hg => rfl); (case hr => first | (go_simp; done) | (go_simp; rfl)); intro bf hg w7 hbox hb; have bc := Aside0.mk (hbox); have gb := Aside0.mk ((by rw [hg]; exact (below_size zx18_5) : w.heap.size ≤ bf)); have bz := Aside0.mk ((by rw [hg]; exact (below_size zx18_5) : w.heap.size ≤ bf)); replace HB := Aside0.mk (below_step zx18_5 hb); clear hb hbox hg) | ((with_reducible refine gate_dst (N := 8) rfl ?_); refine box_event ?hg (N := 8) ?hd (cs := #[.int .u64 0, .int .u64 0, .slice none 0 0]) (t := 57) ?hr ?_; (case hd => rfl); (case hg => rfl); (case hr => first | (go_simp; done) | (go_simp; rfl)); intro bh hg w8 hbox hb; have be := Aside0.mk (hbox); have ga := Aside0.mk ((by rw [hg]; exact (below_size zx18_3) : w.heap.size ≤ bh)); have bB := Aside0.mk ((by rw [hg]; exact (below_size zx18_3) : w.heap.size ≤ bh)); replace HB := Aside0.mk (below_step zx18_3 hb); have br := Aside0.mk ((by rw [hg]; exact Nat.ne_of_lt (blk_lt (g := bf) (o := .cells #[.int .u64 bk, .int .u64 bj, .slice bo bi.length bn] 57 (0, 0)) zx18_1) : bf ≠ bh)); have bq := Aside0.mk ((by rw [hg]; exact Nat.ne_of_gt (blk_lt (g := bf) (o := .cells #[.int .u64 bk, .int .u64 bj, .slice bo bi.length bn] 57 (0, 0)) zx18_1) : bh ≠ bf)); replace bc := Aside0.mk (blk_below (g := bf) (o := .cells #[.int .u64 bk, .int .u64 bj, .slice bo bi.length bn] 57 (0, 0)) zx18_1 hb); clear hb hbox hg; have hV := br.out; have hU := bq.out; have dG : w8.cell? ⟨bf, 0, none⟩ = some (.int .u64 bk) := (blk_cell bc.out 0).trans rfl; have dF : w8.cell? ⟨bf, 1, none⟩ = some (.int .u64 bj) := (blk_cell bc.out 1).trans rfl; have dE : w8.cell? ⟨bf, 2, none⟩ = some (.slice bo bi.length bn) := (blk_cell bc.out 2).trans rfl; have dx := blk_frozen bc.out 0; have dw := blk_frozen bc.out 1; have dv := blk_frozen bc.out 2) | ((with_reducible refine gate_callee (f := 46) rfl ?_); refine goesL_ (some 14) rfl rfl Tryd.func46 (by kernel_rfl) rfl #[.agg #[.int .u64 bk, .int .u64 bj, .slice bo bi.length bn], .string a1] rfl zx18_6 ?_; (with_reducible refine (postroomref10_place.calls k bk bj _ _ bi a1 ba _ ?side1 ?side2 A5.out).mono ?_); (case side1 => repeat (first | exact (Kd.C_below bV.out HB.out) | (with_reducible refine Kd.C_alloc ?_ _) | (with_reducible refine Kd.C_drewN ?_ _) | (with_reducible refine Kd.C_drew ?_))); (case side2 => exact bW.out); rintro e w11 ⟨rfl, hb⟩; refine ⟨_, rfl, ?_⟩; replace bc := Aside0.mk (blk_below (g := bf) (o := .cells #[.int .u64 bk, .int .u64 bj, .slice bo bi.length bn] 57 (0, 0)) zx18_1 hb); replace be := Aside0.mk (blk_below (g := bh) (o := .cells #[.int .u64 0, .int .u64 0, .slice none 0 0] 57 (0, 0)) zx18_4 hb); replace HB := Aside0.mk (below_step zx18_0 hb); (try clear hb); (try clear hb2); (try clear hk); (try clear hi); have dD : w11.cell? ⟨bh, 0, none⟩ = some (.int .u64 0) := (blk_cell be.out 0).trans rfl; have dC : w11.cell? ⟨bh, 1, none⟩ = some (.int .u64 0) := (blk_cell be.out 1).trans rfl; have dB : w11.cell? ⟨bh, 2, none⟩ = some (.slice none 0 0) := (blk_cell be.out 2).trans rfl; have du := blk_frozen be.out 0; have dt := blk_frozen be.out 1; have dr := blk_frozen be.out 2))
  refine bodyPost_ret (results_ct rfl _ _ bh 57 #[.int .u64 0, .int .u64 0, .slice none 0 0] (0, 0) _ rfl zx18_2 Tryd.underlying57 rfl (by kernel_rfl)) rfl ?_
  exact ⟨_, by first | rfl | (simp [errW_none, errW_some] <;> rfl) | (simp [*, errW_none, errW_some] <;> rfl), by first | exact Kd.S_nil _ _ _ _ _ | exact Kd.N_nil _ _ _ _ _ | exact Kd.V_nil _ _ _ _ _ | exact Kd.Q_nil _ _ _ _ _ | exact Kd.R_nil _ _ _ _ _, by repeat (first | (with_reducible first | exact HB.out | apply below_alloc | apply pw_below_drewN | apply below_drew1 | refine below_set ?_ bz.out | refine below_set ?_ bB.out) | exact HB.out)⟩
 rw [if_neg c6] at H
 have d4 : decide (ba < 0) = false := decide_eq_false c6
 clear c6
 have dY := Aside0.mk H
 clear H
 go_enter Tryd.func43, Tryd.ntmps43
 go_upto_region 4 with (first | ((with_reducible refine gate_dst (N := 4) rfl ?_); refine box_event ?hg (N := 4) ?hd (cs := #[.int .u64 bk, .int .u64 bj, .slice bo bi.length bn]) (t := 57) ?hr ?_; (case hd => rfl); (case hg => rfl); (case hr => first | (go_simp; done) | (go_simp; rfl)); intro bf hg w14 hbox hb; have bc := Aside0.mk (hbox); have gb := Aside0.mk ((by rw [hg]; exact (below_size zx18_5) : w.heap.size ≤ bf)); have bz := Aside0.mk ((by rw [hg]; exact (below_size zx18_5) : w.heap.size ≤ bf)); replace HB := Aside0.mk (below_step zx18_5 hb); clear hb hbox hg) | ((with_reducible refine gate_dst (N := 8) rfl ?_); refine box_event ?hg (N := 8) ?hd (cs := #[.int .u64 0, .int .u64 0, .slice none 0 0]) (t := 57) ?hr ?_; (case hd => rfl); (case hg => rfl); (case hr => first | (go_simp; done) | (go_simp; rfl)); intro bh hg w15 hbox hb; have be := Aside0.mk (hbox); have ga := Aside0.mk ((by rw [hg]; exact (below_size zx18_3) : w.heap.size ≤ bh)); have bB := Aside0.mk ((by rw [hg]; exact (below_size zx18_3) : w.heap.size ≤ bh)); replace HB := Aside0.mk (below_step zx18_3 hb); have br := Aside0.mk ((by rw [hg]; exact Nat.ne_of_lt (blk_lt (g := bf) (o := .cells #[.int .u64 bk, .int .u64 bj, .slice bo bi.length bn] 57 (0, 0)) zx18_1) : bf ≠ bh)); have bq := Aside0.mk ((by rw [hg]; exact Nat.ne_of_gt (blk_lt (g := bf) (o := .cells #[.int .u64 bk, .int .u64 bj, .slice bo bi.length bn] 57 (0, 0)) zx18_1) : bh ≠ bf)); replace bc := Aside0.mk (blk_below (g := bf) (o := .cells #[.int .u64 bk, .int .u64 bj, .slice bo bi.length bn] 57 (0, 0)) zx18_1 hb); clear hb hbox hg; have hJ := br.out; have hD := bq.out; have dA : w15.cell? ⟨bf, 0, none⟩ = some (.int .u64 bk) := (blk_cell bc.out 0).trans rfl; have dz : w15.cell? ⟨bf, 1, none⟩ = some (.int .u64 bj) := (blk_cell bc.out 1).trans rfl; have dy : w15.cell? ⟨bf, 2, none⟩ = some (.slice bo bi.length bn) := (blk_cell bc.out 2).trans rfl; have dq := blk_frozen bc.out 0; have dp := blk_frozen bc.out 1; have dn := blk_frozen bc.out 2) | ((with_reducible refine gate_callee (f := 46) rfl ?_); refine goesL_ (some 14) rfl rfl Tryd.func46 (by kernel_rfl) rfl #[.agg #[.int .u64 bk, .int .u64 bj, .slice bo bi.length bn], .string a1] rfl zx18_6 ?_; (with_reducible refine (postroomref10_place.calls k bk bj _ _ bi a1 ba _ ?side1 ?side2 A5.out).mono ?_); (case side1 => repeat (first | exact (Kd.C_below bV.out HB.out) | (with_reducible refine Kd.C_alloc ?_ _) | (with_reducible refine Kd.C_drewN ?_ _) | (with_reducible refine Kd.C_drew ?_))); (case side2 => exact bW.out); rintro e w18 ⟨rfl, hb⟩; refine ⟨_, rfl, ?_⟩; replace bc := Aside0.mk (blk_below (g := bf) (o := .cells #[.int .u64 bk, .int .u64 bj, .slice bo bi.length bn] 57 (0, 0)) zx18_1 hb); replace be := Aside0.mk (blk_below (g := bh) (o := .cells #[.int .u64 0, .int .u64 0, .slice none 0 0] 57 (0, 0)) zx18_4 hb); replace HB := Aside0.mk (below_step zx18_0 hb); (try clear hb); (try clear hb2); (try clear hk); (try clear hi)))
 (try simp only [Act.put, List.setIfInBounds_toArray, List.set_cons_zero, List.set_cons_succ])
 go_cut [23] (fun v23 wc => ∃ (kq : Nat) (bL : Bool), v23 = .bool bL ∧ Aside0 (postroomref10_Done.j0 kq a1 a2 a3 ba bL bk bj bi = some (r1, r2, r3, r4)) ∧ Aside0 (kq ≤ k) ∧ Aside0 (wc.heap[bf]? = some (.cells #[.int .u64 bk, .int .u64 bj, (.slice bo bi.length bn)] 57 (0, 0))) ∧ Aside0 (wc.heap[bh]? = some (.cells #[.int .u64 0, .int .u64 0, (.slice none 0 0)] 57 (0, 0))) ∧ Aside0 (Below w.heap.size w wc))
 case first =>
  have H := dY.out
  clear dY
  by_cases c19 : a3 = 97
  case neg =>
   rw [if_neg c19] at H
   have bI : (a3 == 97) = false := beq_eq_false_iff_ne.mpr c19
   have dQ : (a3 != 97) = true := bne_iff_ne.mpr c19
   (first | rw [bI] | (simp only [i64_w, i32_w]; rw [bI]) | skip)
   have H' := Aside0.mk H
   clear H
   go_wp2
   go_meet
   case rel => exact ⟨_, ((a3 != 114)), (by first | rfl | (simp; done) | (simp [*]; done)), H', ⟨by first | omega | exact Nat.le_refl _⟩, ⟨by (with_reducible repeat (first | refine blk_drewN ?_ _ | refine blk_drew ?_ | refine blk_alloc ?_ _)); exact bc.out⟩, ⟨by (with_reducible repeat (first | refine blk_drewN ?_ _ | refine blk_drew ?_ | refine blk_alloc ?_ _)); exact be.out⟩, ⟨by repeat (first | (with_reducible first | exact HB.out | apply below_alloc | apply pw_below_drewN | apply below_drew1 | refine below_set ?_ bz.out | refine below_set ?_ bB.out) | exact HB.out)⟩⟩
  rw [if_pos c19] at H
  have bI : (a3 == 97) = true := beq_iff_eq.mpr c19
  have dQ : (a3 != 97) = false := bne_eq_false_iff_eq.mpr c19
  clear c19
  (first | rw [bI] | (simp only [i64_w, i32_w]; rw [bI]) | skip)
  have H' := Aside0.mk H
  clear H
  go_wp2
  go_meet
  case rel => exact ⟨_, (false), (by first | rfl | (simp; done) | (simp [*]; done)), H', ⟨by first | omega | exact Nat.le_refl _⟩, ⟨by (with_reducible repeat (first | refine blk_drewN ?_ _ | refine blk_drew ?_ | refine blk_alloc ?_ _)); exact bc.out⟩, ⟨by (with_reducible repeat (first | refine blk_drewN ?_ _ | refine blk_drew ?_ | refine blk_alloc ?_ _)); exact be.out⟩, ⟨by repeat (first | (with_reducible first | exact HB.out | apply below_alloc | apply pw_below_drewN | apply below_drew1 | refine below_set ?_ bz.out | refine below_set ?_ bB.out) | exact HB.out)⟩⟩
 case rest =>
  clear dY
  (try clear c1); (try clear p2); (try clear c4); (try clear c6); (try clear d4); (try clear c9); (try clear c16); (try clear c19); (try clear bI); (try clear dQ); (try clear dG); (try clear dF); (try clear dE); (try clear dD); (try clear dC); (try clear dB); (try clear dA); (try clear dz); (try clear dy); (try clear dx); (try clear dw); (try clear dv); (try clear du); (try clear dt); (try clear dr); (try clear dq); (try clear dp); (try clear dn)
  obtain ⟨kq, bL, rfl, HA, hZ, bc, be, HB⟩ := hcut
  cases kq with
  | zero => exact absurd HA.out (by simp [postroomref10_Done.j0])
  | succ bX => ?_
  have H := HA.out
  clear HA
  simp only [postroomref10_Done.j0] at H
  by_cases c20 : bL = true
  ·subst c20
   have H1 : (some (0, 0, ([] : List (S84)), 1)) = some (r1, r2, r3, r4) := by rw [if_pos rfl] at H; exact H
   clear H
   have H := H1
   clear H1
   simp only [Option.some.injEq, Prod.mk.injEq] at H
   obtain ⟨rfl, rfl, rfl, rfl⟩ := H
   have hI := bq.out
   have hC := br.out
   obtain ⟨he, hc, ha, gE, gD, gC⟩ := cx18_bc3 be.out
   go_wp2
   refine bodyPost_ret (results_ct rfl _ _ bh 57 #[.int .u64 0, .int .u64 0, .slice none 0 0] (0, 0) _ rfl zx18_2 Tryd.underlying57 rfl (by kernel_rfl)) rfl ?_
   exact ⟨_, by first | rfl | (simp [errW_none, errW_some] <;> rfl) | (simp [*, errW_none, errW_some] <;> rfl), by first | exact Kd.S_nil _ _ _ _ _ | exact Kd.N_nil _ _ _ _ _ | exact Kd.V_nil _ _ _ _ _ | exact Kd.Q_nil _ _ _ _ _ | exact Kd.R_nil _ _ _ _ _, by repeat (first | (with_reducible first | exact HB.out | apply below_alloc | apply pw_below_drewN | apply below_drew1 | refine below_set ?_ bz.out | refine below_set ?_ bB.out) | exact HB.out)⟩
  replace c20 := Bool.eq_false_iff.mpr c20
  subst c20
  have H1 : ((postroomref10_Waits.f bX bk bj bi a1 a2).bind fun da => (if da = true then ((postroomref10_copied.f bX bk bj bi).bind fun bb => (if 0 ≤ ba then (if ba < (bb.2.2.length : Int) then (if 0 ≤ (IntKind.u64.wrap (a2 - ((rd_T84 bb.2.2 ba).f1))) then (if (IntKind.u64.wrap (a2 - ((rd_T84 bb.2.2 ba).f1))) < (((rd_T84 bb.2.2 ba).f2).length : Int) then (some (bb.1, bb.2.1, (bb.2.2.set (ba : Int).toNat (⟨(rd_T84 bb.2.2 ba).f0, (rd_T84 bb.2.2 ba).f1, (((rd_T84 bb.2.2 ba).f2).set ((IntKind.u64.wrap (a2 - ((rd_T84 bb.2.2 ba).f1))) : Int).toNat a3)⟩ : S84)), 0)) else (none)) else (none)) else (none)) else (none))) else (some (0, 0, ([] : List (S84)), 13)))) = some (r1, r2, r3, r4) := by rw [if_neg (show ¬ (false = true) by decide)] at H; exact H
  clear H
  have H := H1
  clear H1
  replace H := Option.bind_eq_some_iff.mp H
  obtain ⟨da, ge, H⟩ := H
  replace H : (if da = true then ((postroomref10_copied.f bX bk bj bi).bind fun bb => (if 0 ≤ ba then (if ba < (bb.2.2.length : Int) then (if 0 ≤ (IntKind.u64.wrap (a2 - ((rd_T84 bb.2.2 ba).f1))) then (if (IntKind.u64.wrap (a2 - ((rd_T84 bb.2.2 ba).f1))) < (((rd_T84 bb.2.2 ba).f2).length : Int) then (some (bb.1, bb.2.1, (bb.2.2.set (ba : Int).toNat (⟨(rd_T84 bb.2.2 ba).f0, (rd_T84 bb.2.2 ba).f1, (((rd_T84 bb.2.2 ba).f2).set ((IntKind.u64.wrap (a2 - ((rd_T84 bb.2.2 ba).f1))) : Int).toNat a3)⟩ : S84)), 0)) else (none)) else (none)) else (none)) else (none))) else (some (0, 0, ([] : List (S84)), 13))) = some (r1, r2, r3, r4) := H
  have A23 := Aside0.mk ge
  clear ge
  by_cases c24 : da = true
  case neg =>
   replace c24 := Bool.eq_false_iff.mpr c24
   subst c24
   have H1 : (some (0, 0, ([] : List (S84)), 13)) = some (r1, r2, r3, r4) := by rw [if_neg (show ¬ (false = true) by decide)] at H; exact H
   clear H
   have H := H1
   clear H1
   simp only [Option.some.injEq, Prod.mk.injEq] at H
   obtain ⟨rfl, rfl, rfl, rfl⟩ := H
   have hE := br.out
   have hy := bq.out
   obtain ⟨gK, gJ, gI, gm, gl, gk⟩ := cx18_bc3 bc.out
   go_wp2_with (first | ((with_reducible refine gate_callee (f := 29) rfl ?_); refine goesL_ (some 28) rfl rfl Tryd.func29 (by kernel_rfl) rfl #[.agg #[.int .u64 bk, .int .u64 bj, .slice bo bi.length bn], .string a1, .int .u64 a2] rfl zx18_6 ?_; (with_reducible refine (postroomref10_Waits.calls bX bk bj _ _ bi a1 a2 false _ ?side1 ?side2 A23.out).mono ?_); (case side1 => repeat (first | exact (Kd.C_below bV.out HB.out) | (with_reducible refine Kd.C_alloc ?_ _) | (with_reducible refine Kd.C_drewN ?_ _) | (with_reducible refine Kd.C_drew ?_))); (case side2 => exact bW.out); rintro e w51 ⟨rfl, hb⟩; refine ⟨_, rfl, ?_⟩; replace bc := Aside0.mk (blk_below (g := bf) (o := .cells #[.int .u64 bk, .int .u64 bj, .slice bo bi.length bn] 57 (0, 0)) zx18_1 hb); replace be := Aside0.mk (blk_below (g := bh) (o := .cells #[.int .u64 0, .int .u64 0, .slice none 0 0] 57 (0, 0)) zx18_4 hb); replace HB := Aside0.mk (below_step zx18_0 hb); (try clear hb); (try clear hb2); (try clear hk); (try clear hi); have gH : w51.cell? ⟨bh, 0, none⟩ = some (.int .u64 0) := (blk_cell be.out 0).trans rfl; have gG : w51.cell? ⟨bh, 1, none⟩ = some (.int .u64 0) := (blk_cell be.out 1).trans rfl; have gF : w51.cell? ⟨bh, 2, none⟩ = some (.slice none 0 0) := (blk_cell be.out 2).trans rfl; have gj := blk_frozen be.out 0; have gi := blk_frozen be.out 1; have gh := blk_frozen be.out 2))
   refine bodyPost_ret (results_ct rfl _ _ bh 57 #[.int .u64 0, .int .u64 0, .slice none 0 0] (0, 0) _ rfl zx18_2 Tryd.underlying57 rfl (by kernel_rfl)) rfl ?_
   exact ⟨_, by first | rfl | (simp [errW_none, errW_some] <;> rfl) | (simp [*, errW_none, errW_some] <;> rfl), by first | exact Kd.S_nil _ _ _ _ _ | exact Kd.N_nil _ _ _ _ _ | exact Kd.V_nil _ _ _ _ _ | exact Kd.Q_nil _ _ _ _ _ | exact Kd.R_nil _ _ _ _ _, by repeat (first | (with_reducible first | exact HB.out | apply below_alloc | apply pw_below_drewN | apply below_drew1 | refine below_set ?_ bz.out | refine below_set ?_ bB.out) | exact HB.out)⟩

  subst c24
  have H1 : ((postroomref10_copied.f bX bk bj bi).bind fun bb => (if 0 ≤ ba then (if ba < (bb.2.2.length : Int) then (if 0 ≤ (IntKind.u64.wrap (a2 - ((rd_T84 bb.2.2 ba).f1))) then (if (IntKind.u64.wrap (a2 - ((rd_T84 bb.2.2 ba).f1))) < (((rd_T84 bb.2.2 ba).f2).length : Int) then (some (bb.1, bb.2.1, (bb.2.2.set (ba : Int).toNat (⟨(rd_T84 bb.2.2 ba).f0, (rd_T84 bb.2.2 ba).f1, (((rd_T84 bb.2.2 ba).f2).set ((IntKind.u64.wrap (a2 - ((rd_T84 bb.2.2 ba).f1))) : Int).toNat a3)⟩ : S84)), 0)) else (none)) else (none)) else (none)) else (none))) = some (r1, r2, r3, r4) := by rw [if_pos rfl] at H; exact H
  clear H
  have H := H1
  clear H1
  replace H := Option.bind_eq_some_iff.mp H
  obtain ⟨⟨bu, bw, bd⟩, gc, H⟩ := H
  replace H : (if 0 ≤ ba then (if ba < (bd.length : Int) then (if 0 ≤ (IntKind.u64.wrap (a2 - ((rd_T84 bd ba).f1))) then (if (IntKind.u64.wrap (a2 - ((rd_T84 bd ba).f1))) < (((rd_T84 bd ba).f2).length : Int) then (some (bu, bw, (bd.set (ba : Int).toNat (⟨(rd_T84 bd ba).f0, (rd_T84 bd ba).f1, (((rd_T84 bd ba).f2).set ((IntKind.u64.wrap (a2 - ((rd_T84 bd ba).f1))) : Int).toNat a3)⟩ : S84)), 0)) else (none)) else (none)) else (none)) else (none)) = some (r1, r2, r3, r4) := H
  have A25 := Aside0.mk gc
  clear gc
  by_cases c26 : 0 ≤ ba
  case neg =>
   rw [if_neg c26] at H
   exact absurd H (by simp)
  rw [if_pos c26] at H
  have hQ : decide (0 ≤ ba) = true := decide_eq_true c26
  clear c26
  by_cases c27 : ba < (bd.length : Int)
  case neg =>
   rw [if_neg c27] at H
   exact absurd H (by simp)
  rw [if_pos c27] at H
  have hP : decide (ba < (bd.length : Int)) = true := decide_eq_true c27
  clear c27
  obtain ⟨bx, bS⟩ : ∃ j_ : Int, (IntKind.u64.wrap (a2 - ((rd_T84 bd ba).f1))) = j_ := ⟨_, rfl⟩
  replace H : (if 0 ≤ (bx) then (if (bx) < (((rd_T84 bd ba).f2).length : Int) then (some (bu, bw, (bd.set (ba : Int).toNat (⟨(rd_T84 bd ba).f0, (rd_T84 bd ba).f1, (((rd_T84 bd ba).f2).set ((bx) : Int).toNat a3)⟩ : S84)), 0)) else (none)) else (none)) = some (r1, r2, r3, r4) := by first | (rw [bS] at H; exact H) | (simp only [bS] at H ⊢; exact H)
  (try rw [bS] at A23)
  (try rw [bS] at A25)
  by_cases c29 : 0 ≤ (bx)
  case neg =>
   rw [if_neg c29] at H
   exact absurd H (by simp)
  rw [if_pos c29] at H
  have hO : decide (0 ≤ (bx)) = true := decide_eq_true c29
  clear c29
  by_cases c30 : (bx) < (((rd_T84 bd ba).f2).length : Int)
  case neg =>
   rw [if_neg c30] at H
   exact absurd H (by simp)
  rw [if_pos c30] at H
  have hN : decide ((bx) < (((rd_T84 bd ba).f2).length : Int)) = true := decide_eq_true c30
  clear c30
  obtain ⟨dh, bR⟩ : ∃ y_ : List Int, y_ = (((rd_T84 bd ba).f2).set ((bx) : Int).toNat a3) := ⟨_, rfl⟩
  replace H : (some (bu, bw, (bd.set (ba : Int).toNat (⟨(rd_T84 bd ba).f0, (rd_T84 bd ba).f1, dh⟩ : S84)), 0)) = some (r1, r2, r3, r4) := by first | (rw [bR]; with_reducible exact H) | (have H2_ := (Option.bind_some _ _).symm.trans H; rw [bR]; with_reducible exact H2_) | (have H2_ := (Option.bind_some _ _).symm.trans H; with_reducible exact H2_) | with_reducible exact H | (rw [bR]; exact H) | exact H
  have d7 := Aside0.mk bR
  clear bR
  obtain ⟨dZ, bQ⟩ : ∃ y_ : List (S84), y_ = (bd.set (ba : Int).toNat (⟨(rd_T84 bd ba).f0, (rd_T84 bd ba).f1, dh⟩ : S84)) := ⟨_, rfl⟩
  replace H : (some (bu, bw, dZ, 0)) = some (r1, r2, r3, r4) := by first | (rw [bQ]; with_reducible exact H) | (have H2_ := (Option.bind_some _ _).symm.trans H; rw [bQ]; with_reducible exact H2_) | (have H2_ := (Option.bind_some _ _).symm.trans H; with_reducible exact H2_) | with_reducible exact H | (rw [bQ]; exact H) | exact H
  have d6 := Aside0.mk bQ
  clear bQ
  simp only [Option.some.injEq, Prod.mk.injEq] at H
  obtain ⟨rfl, rfl, rfl, rfl⟩ := H
  have hH := br.out
  have hB := bq.out
  obtain ⟨gZ, gY, gX, gB, gA, gz⟩ := cx18_bc3 bc.out
  try go_wp2_with (first | ((with_reducible refine gate_callee (f := 29) rfl ?_); refine goesL_ (some 28) rfl rfl Tryd.func29 (by kernel_rfl) rfl #[.agg #[.int .u64 bk, .int .u64 bj, .slice bo bi.length bn], .string a1, .int .u64 a2] rfl zx18_6 ?_; (with_reducible refine (postroomref10_Waits.calls bX bk bj _ _ bi a1 a2 true _ ?side1 ?side2 A23.out).mono ?_); (case side1 => repeat (first | exact (Kd.C_below bV.out HB.out) | (with_reducible refine Kd.C_alloc ?_ _) | (with_reducible refine Kd.C_drewN ?_ _) | (with_reducible refine Kd.C_drew ?_))); (case side2 => exact bW.out); rintro e w34 ⟨rfl, hb⟩; refine ⟨_, rfl, ?_⟩; replace bc := Aside0.mk (blk_below (g := bf) (o := .cells #[.int .u64 bk, .int .u64 bj, .slice bo bi.length bn] 57 (0, 0)) zx18_1 hb); replace be := Aside0.mk (blk_below (g := bh) (o := .cells #[.int .u64 0, .int .u64 0, .slice none 0 0] 57 (0, 0)) zx18_4 hb); replace HB := Aside0.mk (below_step zx18_0 hb); (try clear hb); (try clear hb2); (try clear hk); (try clear hi); have gW : w34.cell? ⟨bf, 0, none⟩ = some (.int .u64 bk) := (blk_cell bc.out 0).trans rfl; have gV : w34.cell? ⟨bf, 1, none⟩ = some (.int .u64 bj) := (blk_cell bc.out 1).trans rfl; have gU : w34.cell? ⟨bf, 2, none⟩ = some (.slice bo bi.length bn) := (blk_cell bc.out 2).trans rfl; have gy := blk_frozen bc.out 0; have gx := blk_frozen bc.out 1; have gw := blk_frozen bc.out 2) | ((with_reducible refine gate_callee (f := 53) rfl ?_); refine goesL_ (some 32) rfl rfl Tryd.func53 (by kernel_rfl) rfl #[.agg #[.int .u64 bk, .int .u64 bj, .slice bo bi.length bn]] rfl zx18_6 ?_; (with_reducible refine (postroomref10_copied.calls bX bk bj _ _ bi bu bw bd _ ?side1 ?side2 A25.out).mono ?_); (case side1 => repeat (first | exact (Kd.C_below bV.out HB.out) | (with_reducible refine Kd.C_alloc ?_ _) | (with_reducible refine Kd.C_drewN ?_ _) | (with_reducible refine Kd.C_drew ?_))); (case side2 => exact bW.out); rintro e w36 ⟨hS, rfl, ho0, hb⟩; refine ⟨_, rfl, ?_⟩; have bm := Aside0.mk (Kd.S_lower ho0 (below_size zx18_0)); replace bc := Aside0.mk (blk_below (g := bf) (o := .cells #[.int .u64 bk, .int .u64 bj, .slice bo bi.length bn] 57 (0, 0)) zx18_1 hb); replace be := Aside0.mk (blk_below (g := bh) (o := .cells #[.int .u64 0, .int .u64 0, .slice none 0 0] 57 (0, 0)) zx18_4 hb); replace HB := Aside0.mk (below_step zx18_0 hb); (try clear hb); (try clear hb2); (try clear hk); (try clear hi); (try clear ho0)) | ((with_reducible refine gate_dst (N := 11) rfl ?_); refine box_event ?hg (N := 11) ?hd (cs := #[.int .u64 0, .int .u64 0, .slice none 0 0]) (t := 57) ?hr ?_; (case hd => rfl); (case hg => rfl); (case hr => first | (go_simp; done) | (go_simp; rfl)); intro bg hg w37 hbox hb; replace bm := Aside0.mk (Kd.S_below (by (with_reducible repeat (first | apply Kd.S_alloc | apply Kd.S_drewN | apply Kd.S_drew)); exact bm.out) hb); have bl := Aside0.mk (hbox); have hR := Aside0.mk ((by rw [hg]; exact (below_size zx18_0) : w.heap.size ≤ bg)); have dg := Aside0.mk ((by rw [hg]; exact (below_size zx18_0) : w.heap.size ≤ bg)); replace HB := Aside0.mk (below_step zx18_0 hb); have bK := Aside0.mk ((by rw [hg]; exact Nat.ne_of_lt (blk_lt (g := bf) (o := .cells #[.int .u64 bk, .int .u64 bj, .slice bo bi.length bn] 57 (0, 0)) zx18_1) : bf ≠ bg)); have dc := Aside0.mk ((by rw [hg]; exact Nat.ne_of_gt (blk_lt (g := bf) (o := .cells #[.int .u64 bk, .int .u64 bj, .slice bo bi.length bn] 57 (0, 0)) zx18_1) : bg ≠ bf)); replace bc := Aside0.mk (blk_below (g := bf) (o := .cells #[.int .u64 bk, .int .u64 bj, .slice bo bi.length bn] 57 (0, 0)) zx18_1 hb); have bJ := Aside0.mk ((by rw [hg]; exact Nat.ne_of_lt (blk_lt (g := bh) (o := .cells #[.int .u64 0, .int .u64 0, .slice none 0 0] 57 (0, 0)) zx18_4) : bh ≠ bg)); have db := Aside0.mk ((by rw [hg]; exact Nat.ne_of_gt (blk_lt (g := bh) (o := .cells #[.int .u64 0, .int .u64 0, .slice none 0 0] 57 (0, 0)) zx18_4) : bg ≠ bh)); replace be := Aside0.mk (blk_below (g := bh) (o := .cells #[.int .u64 0, .int .u64 0, .slice none 0 0] 57 (0, 0)) zx18_4 hb); clear hb hbox hg; have hG := dc.out; have hA := bK.out; have hF := db.out; have hz := bJ.out; have gT : w37.cell? ⟨bg, 0, none⟩ = some (.int .u64 0) := (blk_cell bl.out 0).trans rfl; have gS : w37.cell? ⟨bg, 1, none⟩ = some (.int .u64 0) := (blk_cell bl.out 1).trans rfl; have gR : w37.cell? ⟨bg, 2, none⟩ = some (.slice none 0 0) := (blk_cell bl.out 2).trans rfl; have gv := blk_frozen bl.out 0; have gu := blk_frozen bl.out 1; have gt := blk_frozen bl.out 2; obtain ⟨bP, bH, ho⟩ := Kd.S_slice bm.out; subst ho))
  have n0_ : Aside0 (Kd.S k84 84 (((w37.setCell ⟨bg, 0, none⟩ (.int .u64 bu)).setCell ⟨bg, 1, none⟩ (.int .u64 bw)).setCell ⟨bg, 2, none⟩ (.slice bP bd.length bH)) w.heap.size (fun _ => True) (.slice bP bd.length bH) bd) := ⟨by (with_reducible repeat (first | apply Kd.S_alloc | apply Kd.S_drewN | apply Kd.S_drew)); exact Kd.S_mono (Kd.S_far (p := ⟨bg, 2, none⟩) (Kd.S_far (p := ⟨bg, 1, none⟩) (Kd.S_far (p := ⟨bg, 0, none⟩) (Kd.S_types bm.out bl.out (by decide)) (fun _ hk => hk.2) (.int .u64 bu)) (fun _ hk => hk.2) (.int .u64 bw)) (fun _ hk => hk.2) (.slice bP bd.length bH)) (fun _ hk => trivial)⟩
  have n1_ : Aside0 ((((w37.setCell ⟨bg, 0, none⟩ (.int .u64 bu)).setCell ⟨bg, 1, none⟩ (.int .u64 bw)).setCell ⟨bg, 2, none⟩ (.slice bP bd.length bH)).heap[bf]? = some (.cells #[.int .u64 bk, .int .u64 bj, .slice bo bi.length bn] 57 (0, 0))) := ⟨by (iterate 3 ((with_reducible repeat (first | refine blk_drewN ?_ _ | refine blk_drew ?_ | refine blk_alloc ?_ _)); refine blk_far ?_ bK.out _)); (with_reducible repeat (first | refine blk_drewN ?_ _ | refine blk_drew ?_ | refine blk_alloc ?_ _)); exact bc.out⟩
  have n2_ : Aside0 ((((w37.setCell ⟨bg, 0, none⟩ (.int .u64 bu)).setCell ⟨bg, 1, none⟩ (.int .u64 bw)).setCell ⟨bg, 2, none⟩ (.slice bP bd.length bH)).heap[bh]? = some (.cells #[.int .u64 0, .int .u64 0, .slice none 0 0] 57 (0, 0))) := ⟨by (iterate 3 ((with_reducible repeat (first | refine blk_drewN ?_ _ | refine blk_drew ?_ | refine blk_alloc ?_ _)); refine blk_far ?_ bJ.out _)); (with_reducible repeat (first | refine blk_drewN ?_ _ | refine blk_drew ?_ | refine blk_alloc ?_ _)); exact be.out⟩
  have n3_ : Aside0 ((((w37.setCell ⟨bg, 0, none⟩ (.int .u64 bu)).setCell ⟨bg, 1, none⟩ (.int .u64 bw)).setCell ⟨bg, 2, none⟩ (.slice bP bd.length bH)).heap[bg]? = some (.cells #[.int .u64 bu, .int .u64 bw, .slice bP bd.length bH] 57 (0, 0))) := ⟨by (with_reducible repeat (first | refine blk_drewN ?_ _ | refine blk_drew ?_ | refine blk_alloc ?_ _)); refine blk_put (cs := #[.int .u64 bu, .int .u64 bw, .slice none 0 0]) ?_ 2 _ rfl; (with_reducible repeat (first | refine blk_drewN ?_ _ | refine blk_drew ?_ | refine blk_alloc ?_ _)); refine blk_put (cs := #[.int .u64 bu, .int .u64 0, .slice none 0 0]) ?_ 1 _ rfl; (with_reducible repeat (first | refine blk_drewN ?_ _ | refine blk_drew ?_ | refine blk_alloc ?_ _)); refine blk_put (cs := #[.int .u64 0, .int .u64 0, .slice none 0 0]) ?_ 0 _ rfl; (with_reducible repeat (first | refine blk_drewN ?_ _ | refine blk_drew ?_ | refine blk_alloc ?_ _)); exact bl.out⟩
  have n4_ : Aside0 (Below w.heap.size w (((w37.setCell ⟨bg, 0, none⟩ (.int .u64 bu)).setCell ⟨bg, 1, none⟩ (.int .u64 bw)).setCell ⟨bg, 2, none⟩ (.slice bP bd.length bH))) := ⟨by repeat (first | (with_reducible first | exact HB.out | apply below_alloc | apply pw_below_drewN | apply below_drew1 | refine below_set ?_ bz.out | refine below_set ?_ bB.out | refine below_set ?_ dg.out) | exact HB.out)⟩
  (try clear bm)
  (try clear bc)
  (try clear be)
  (try clear bl)
  (try clear HB)
  generalize (((w37.setCell ⟨bg, 0, none⟩ (.int .u64 bu)).setCell ⟨bg, 1, none⟩ (.int .u64 bw)).setCell ⟨bg, 2, none⟩ (.slice bP bd.length bH)) = w42 at n0_ n1_ n2_ n3_ n4_ ⊢
  have bm := n0_
  have bc := n1_
  have be := n2_
  have bl := n3_
  have HB := n4_
  clear n0_ n1_ n2_ n3_ n4_
  replace bm := Aside0.mk (Kd.S_drew bm.out)
  replace bc := Aside0.mk (blk_drew bc.out)
  replace be := Aside0.mk (blk_drew be.out)
  replace bl := Aside0.mk (blk_drew bl.out)
  replace HB := Aside0.mk (below_drew1 HB.out)
  have dl : 0 ≤ (ba : Int) := of_decide_eq_true zx18_7
  have dj : ba < (bd.length : Int) := of_decide_eq_true zx18_7
  obtain ⟨bp, hw, df, hq, b4, b3, bD, b6, b8⟩ := at_T84 (Kd.S_reads' bm.out).2.2 ba dl dj
  cases hq
  obtain ⟨hM, dU, dW, de⟩ := Kd.S_get bm.out z84 ba dl (by first | exact dj | exact of_decide_eq_true zx18_7 | (have e_ := (Kd.S_reads' bm.out).1; omega))
  obtain ⟨gg, rfl, bO⟩ := k84_openM dW
  have bG := de 2 _ rfl
  rw [add_field _ _ 2 (by omega)] at bG
  replace bG := Option.some.inj (bG.symm.trans bD)
  rw [bG] at bO
  have bA := Aside0.mk (show Kd.R (Kd.int .u8) 5 _ _ _ _ ((rd_T84 bd ba).f2) from bO)
  clear bG bO
  have b9 := Aside0.mk bD
  clear de dU
  have dJ := Aside0.mk b8
  have hh := Aside0.mk b6
  clear b8 b6
  replace dl := eq_true dl
  replace dj := eq_true dj
  have dk : 0 ≤ (ba : Int) := of_decide_eq_true zx18_7
  have di : ba < (bd.length : Int) := of_decide_eq_true zx18_7
  obtain ⟨d5, hv, hs, hp, b2, b1, bC, b5, b7⟩ := at_T84 (Kd.S_reads' bm.out).2.2 ba dk di
  obtain rfl : bp = d5 := (by injection hp)
  obtain ⟨hL, dT, dV, dd⟩ := Kd.S_get bm.out z84 ba dk (by first | exact di | exact of_decide_eq_true zx18_7 | (have e_ := (Kd.S_reads' bm.out).1; omega))
  obtain ⟨gf, rfl, bN⟩ := k84_openM dV
  have bE := dd 2 _ rfl
  rw [add_field _ _ 2 (by omega)] at bE
  replace bE := Option.some.inj (bE.symm.trans bC)
  rw [bE] at bN
  have dL := Aside0.mk (show Kd.R (Kd.int .u8) 5 _ _ _ _ ((rd_T84 bd ba).f2) from bN)
  clear bE bN
  have dH := Aside0.mk bC
  clear dd dT
  have dI := Aside0.mk b7
  have hf := Aside0.mk b5
  clear b7 b5
  replace dk := eq_true dk
  replace di := eq_true di
  have ea_ := Option.some.inj (bD.symm.trans bC)
  injection ea_ with ea_ en_ ec_
  subst ea_
  subst ec_
  clear en_
  have p31 : 0 ≤ ((bx) : Int) := of_decide_eq_true zx18_7
  have q31 : ((bx) : Int) < ((((rd_T84 bd ba).f2).length : Int) : Int) := of_decide_eq_true zx18_7
  obtain ⟨bU, hW, d3, d2, hn, hX, d9⟩ := Kd.R_form bA.out (by omega)
  (first | cases d3 | (injection d3 with ea_ en_ ec_; (first | subst ea_ | (injection ea_ with ea_; subst ea_)); subst ec_; clear en_))
  have hu := Aside0.mk d2
  have ht := Aside0.mk d9
  clear d2 hn d9
  obtain ⟨dR, dS⟩ := Kd.R_celln 0 bA.out ((bx) : Int) p31 q31
  replace p31 := eq_true p31
  replace q31 := eq_true q31
  have hl : (ba : Int) < (bd.length : Int) := (by have h_ : (ba : Int) < ((bd.length : Int) : Int) := of_decide_eq_true zx18_7; first | exact h_ | (have e_ := (Kd.S_reads' bm.out).1; omega) | simpa only [List.length_set, List.length_set] using h_)
  obtain ⟨hx, hY, d1, hm, dN, d0, dP⟩ := Kd.S_borrow bm.out z84 (ba : Int) (of_decide_eq_true zx18_7) hl
  obtain ⟨hj, rfl, bM⟩ := k84_openM hm
  have dm := dN 2 _ rfl
  rw [add_field _ _ 2 (by omega)] at dm
  replace dm := Option.some.inj (dm.symm.trans b9.out)
  subst dm
  clear dN d1
  replace bM := (show Kd.R (Kd.int .u8) 5 _ _ _ _ ((rd_T84 bd ba).f2) from bM)
  have dK := Kd.R_putg bM ((bx) : Int) a3
  rw [← d7.out] at dK
  have dX := dP dK.2 (fun k_ e_ => by injection e_ with e_; subst e_; exact bM.1 _ rfl) (x' := (⟨(rd_T84 bd ba).f0, (rd_T84 bd ba).f1, dh⟩ : S84)) (k84_mkM _ _ _ (⟨(rd_T84 bd ba).f0, (rd_T84 bd ba).f1, dh⟩ : S84) dK.1)
  rw [← d6.out] at dX
  have d8 := Aside0.mk dX
  clear dK dX dP d0
  refine start_ (n := 17) (S := fun w' => w'.cell? ⟨bg, 0, none⟩ = some (.int .u64 bu) ∧ w'.cell? ⟨bg, 1, none⟩ = some (.int .u64 bw) ∧ w'.cell? ⟨bg, 2, none⟩ = some (.slice (some bp) bd.length bH) ∧ w'.cell? (bp.add ((ba).toNat * 3)) = some (.string ((rd_T84 bd ba).f0)) ∧ w'.cell? ⟨(bp.add ((ba).toNat * 3)).block, (bp.add ((ba).toNat * 3)).off + 1, none⟩ = some (.int .u64 ((rd_T84 bd ba).f1)) ∧ w'.cell? ⟨(bp.add ((ba).toNat * 3)).block, (bp.add ((ba).toNat * 3)).off + 2, none⟩ = some (.slice (some ⟨bU, 0, none⟩) ((rd_T84 bd ba).f2).length df) ∧ w'.cell? (bp.add ((ba).toNat * 3)) = some (.string ((rd_T84 bd ba).f0)) ∧ w'.cell? ⟨(bp.add ((ba).toNat * 3)).block, (bp.add ((ba).toNat * 3)).off + 1, none⟩ = some (.int .u64 ((rd_T84 bd ba).f1)) ∧ w'.cell? ⟨(bp.add ((ba).toNat * 3)).block, (bp.add ((ba).toNat * 3)).off + 2, none⟩ = some (.slice (some ⟨bU, 0, none⟩) ((rd_T84 bd ba).f2).length df)) (ds := [16]) #[Ff,Ff,Ff,Ff,Ff,Ff,Ff,Ff,Ff,Ff,Ff,Ff,Ff,Ff,Ff,Ff,Ff] (by kernel_rfl) rfl rfl ⟨(blk_cell bl.out 0).trans rfl, (blk_cell bl.out 1).trans rfl, (blk_cell bl.out 2).trans rfl, b4, b3, bD, b2, b1, bC⟩ (fun hHeld => ?_); refine with_tabW postroomref10_Done.tab9 postroomref10_Done.bits9 (fun HT_ HW_ => ?_)
  generalize w42.drew = w43 at bm bc be bl HB ht bA dL d8 dJ dI b9 dH dS b4 b3 bD b2 b1 bC dR hHeld ⊢
  refine pp_ 0 (some 33) HT_.out ?_
  refine pp_ 2 (some 35) HT_.out ?_
  refine pp_ 6 (some 39) HT_.out ?_
  refine pp_ 7 (some 40) HT_.out ?_
  refine pp_ 9 (some 42) HT_.out ?_
  refine pp_ 14 (some 47) HT_.out ?_
  refine take_ (i := 1) (N := some 34) (v := ?_) (a' := ?_) #[Tt,Tt,Tt,Ff,Ff,Ff,Tt,Tt,Ff,Tt,Ff,Ff,Ff,Ff,Tt,Ff,Ff] rfl rfl (take_ofW HT_.out HW_.out (by kernel_rfl)) (fun _ _ _ h => h) (Or.inl ⟨by rfl, ?_⟩) hHeld ?_ ?_
  rotate_left
  ·rintro w' ⟨s0, s1, s2, s3, s4, s5, s6, s7, s8⟩
   go_simp
   with_reducible rfl
  rotate_left
  ·simp only [Act.put, List.setIfInBounds_toArray, List.set_cons_zero, List.set_cons_succ, i64_w, i32_w]
   rfl
  refine pp_ 3 (some 36) HT_.out ?_
  refine pp_ 4 (some 37) HT_.out ?_
  refine take_ (i := 5) (N := some 38) (v := ?_) (a' := ?_) #[Tt,Tt,Tt,Tt,Tt,Tt,Tt,Tt,Ff,Tt,Ff,Ff,Ff,Ff,Tt,Ff,Ff] rfl rfl (take_ofW HT_.out HW_.out (by kernel_rfl)) (fun _ _ _ h => h) (Or.inl ⟨by rfl, ?_⟩) hHeld ?_ ?_
  rotate_left
  ·rintro w' ⟨s0, s1, s2, s3, s4, s5, s6, s7, s8⟩
   go_simp
   with_reducible rfl
  rotate_left
  ·simp only [Act.put, List.setIfInBounds_toArray, List.set_cons_zero, List.set_cons_succ, i64_w, i32_w]
   rfl
  refine take_ (i := 8) (N := some 41) (v := ?_) (a' := ?_) #[Tt,Tt,Tt,Tt,Tt,Tt,Tt,Tt,Tt,Tt,Ff,Ff,Ff,Ff,Tt,Ff,Ff] rfl rfl (take_ofW HT_.out HW_.out (by kernel_rfl)) (fun _ _ _ h => h) (Or.inl ⟨by rfl, ?_⟩) hHeld ?_ ?_
  rotate_left
  ·rintro w' ⟨s0, s1, s2, s3, s4, s5, s6, s7, s8⟩
   go_simp
   with_reducible rfl
  rotate_left
  ·simp only [Act.put, List.setIfInBounds_toArray, List.set_cons_zero, List.set_cons_succ, i64_w, i32_w]
   rfl
  refine pp_ 10 (some 43) HT_.out ?_
  refine pp_ 11 (some 44) HT_.out ?_
  refine take_ (i := 12) (N := some 45) (v := ?_) (a' := ?_) #[Tt,Tt,Tt,Tt,Tt,Tt,Tt,Tt,Tt,Tt,Tt,Tt,Tt,Ff,Tt,Ff,Ff] rfl rfl (take_ofW HT_.out HW_.out (by kernel_rfl)) (fun _ _ _ h => h) (Or.inl ⟨by rfl, ?_⟩) hHeld ?_ ?_
  rotate_left
  ·rintro w' ⟨s0, s1, s2, s3, s4, s5, s6, s7, s8⟩
   go_simp
   with_reducible rfl
  rotate_left
  ·simp only [Act.put, List.setIfInBounds_toArray, List.set_cons_zero, List.set_cons_succ, i64_w, i32_w]
   rfl
  refine pp_ 13 (some 46) HT_.out ?_
  refine pp_ 15 (some 48) HT_.out ?_
  refine last_ (i := 16) (N := none) #[Tt,Tt,Tt,Tt,Tt,Tt,Tt,Tt,Tt,Tt,Tt,Tt,Tt,Tt,Tt,Tt,Tt] rfl rfl (one_of HT_.out (by kernel_rfl)) (by decide) (fun K hK => ?_)
  refine skip_ (w1 := ?_) (by rfl) rfl ?_ ?_
  rotate_left
  ·go_simp
   rfl
  refine hK.out _ _ ?_
  clear hK K
  refine done_ (done_of HT_.out (by kernel_rfl)) ?_
  have n0_ : Aside0 (Kd.S k84 84 (w43.setCell ⟨bU, ((bx) : Int).toNat, none⟩ (.int .u8 a3)) w.heap.size (fun _ => True) (.slice (some bp) bd.length bH) dZ) := ⟨by (with_reducible repeat (first | apply Kd.S_alloc | apply Kd.S_drewN | apply Kd.S_drew)); exact d8.out⟩
  have n1_ : Aside0 ((w43.setCell ⟨bU, ((bx) : Int).toNat, none⟩ (.int .u8 a3)).heap[bf]? = some (.cells #[.int .u64 bk, .int .u64 bj, .slice bo bi.length bn] 57 (0, 0))) := ⟨by (with_reducible repeat (first | refine blk_drewN ?_ _ | refine blk_drew ?_ | refine blk_alloc ?_ _)); refine blk_far ?_ (by have h_ := Kd.R_ne bA.out bc.out (by decide); intro e_; exact h_ (by rw [e_]; rfl)) _; (with_reducible repeat (first | refine blk_drewN ?_ _ | refine blk_drew ?_ | refine blk_alloc ?_ _)); exact bc.out⟩
  have n2_ : Aside0 ((w43.setCell ⟨bU, ((bx) : Int).toNat, none⟩ (.int .u8 a3)).heap[bh]? = some (.cells #[.int .u64 0, .int .u64 0, .slice none 0 0] 57 (0, 0))) := ⟨by (with_reducible repeat (first | refine blk_drewN ?_ _ | refine blk_drew ?_ | refine blk_alloc ?_ _)); refine blk_far ?_ (by have h_ := Kd.R_ne bA.out be.out (by decide); intro e_; exact h_ (by rw [e_]; rfl)) _; (with_reducible repeat (first | refine blk_drewN ?_ _ | refine blk_drew ?_ | refine blk_alloc ?_ _)); exact be.out⟩
  have n3_ : Aside0 ((w43.setCell ⟨bU, ((bx) : Int).toNat, none⟩ (.int .u8 a3)).heap[bg]? = some (.cells #[.int .u64 bu, .int .u64 bw, .slice (some bp) bd.length bH] 57 (0, 0))) := ⟨by (with_reducible repeat (first | refine blk_drewN ?_ _ | refine blk_drew ?_ | refine blk_alloc ?_ _)); refine blk_far ?_ (by have h_ := Kd.R_ne bA.out bl.out (by decide); intro e_; exact h_ (by rw [e_]; rfl)) _; (with_reducible repeat (first | refine blk_drewN ?_ _ | refine blk_drew ?_ | refine blk_alloc ?_ _)); exact bl.out⟩
  have n4_ : Aside0 (Below w.heap.size w (w43.setCell ⟨bU, ((bx) : Int).toNat, none⟩ (.int .u8 a3))) := ⟨by repeat (first | (with_reducible first | exact HB.out | apply below_alloc | apply pw_below_drewN | apply below_drew1 | refine below_set ?_ hu.out | refine below_set ?_ bz.out | refine below_set ?_ bB.out | refine below_set ?_ dg.out) | exact HB.out)⟩
  (try clear bm)
  (try clear bc)
  (try clear be)
  (try clear bl)
  (try clear HB)
  generalize (w43.setCell ⟨bU, ((bx) : Int).toNat, none⟩ (.int .u8 a3)) = w46 at n0_ n1_ n2_ n3_ n4_ ⊢
  have bm := n0_
  have bc := n1_
  have be := n2_
  have bl := n3_
  have HB := n4_
  clear n0_ n1_ n2_ n3_ n4_
  obtain ⟨gQ, gP, gO, gs, gr, gq⟩ := cx18_bc3 bl.out
  obtain ⟨gN, gM, gL, gp, go, gn⟩ := cx18_bc3 be.out
  try go_wp2
  refine bodyPost_ret (results_ct rfl _ _ bh 57 #[.int .u64 bu, .int .u64 bw, .slice (some bp) bd.length bH] (0, 0) _ rfl (by (with_reducible repeat (first | refine blk_drewN ?_ _ | refine blk_drew ?_ | refine blk_alloc ?_ _)); refine blk_put (cs := #[.int .u64 bu, .int .u64 bw, .slice none 0 0]) ?_ 2 _ rfl; (with_reducible repeat (first | refine blk_drewN ?_ _ | refine blk_drew ?_ | refine blk_alloc ?_ _)); refine blk_put (cs := #[.int .u64 bu, .int .u64 0, .slice none 0 0]) ?_ 1 _ rfl; (with_reducible repeat (first | refine blk_drewN ?_ _ | refine blk_drew ?_ | refine blk_alloc ?_ _)); refine blk_put (cs := #[.int .u64 0, .int .u64 0, .slice none 0 0]) ?_ 0 _ rfl; (with_reducible repeat (first | refine blk_drewN ?_ _ | refine blk_drew ?_ | refine blk_alloc ?_ _)); exact be.out) Tryd.underlying57 rfl (by kernel_rfl)) rfl ?_
  exact ⟨_, by first | rfl | (simp [errW_none, errW_some] <;> rfl) | (simp only [← bS]; first | rfl | (simp [errW_none, errW_some] <;> rfl)) | (simp [*, errW_none, errW_some] <;> rfl), by (with_reducible repeat (first | apply Kd.S_alloc | apply Kd.S_drewN | apply Kd.S_drew)); exact Kd.S_mono (Kd.S_far (p := ⟨bh, 2, none⟩) (Kd.S_far (p := ⟨bh, 1, none⟩) (Kd.S_far (p := ⟨bh, 0, none⟩) (Kd.S_types bm.out be.out (by decide)) (fun _ hk => hk.2) (.int .u64 bu)) (fun _ hk => hk.2) (.int .u64 bw)) (fun _ hk => hk.2) (.slice (some bp) bd.length bH)) (fun _ hk => trivial), by repeat (first | (with_reducible first | exact HB.out | apply below_alloc | apply pw_below_drewN | apply below_drew1 | refine below_set ?_ bz.out | refine below_set ?_ bB.out | refine below_set ?_ dg.out) | exact HB.out)⟩
end Go.Proofs.YthhmpjapnkilcaaDoor.XLdg
end
section
/- What the functions of the translation answer, each as a plain Lean function, and that the code comes to it; for a law: its row. Conditions: none but those that each theorem names. Written by a program of this session (wip/xp). -/
namespace Go.Proofs.YthhmpjapnkilcaaDoor.XLdg
open Go.RowKit Go.Proofs.YthhmpjapnkilcaaDoorW.PrintWords Go.Proofs.YthhmpjapnkilcaaDoorW.PrintLast Go.Proofs.YthhmpjapnkilcaaDoorW.PrintMore
attribute [local go_sem] max2_int min2_int max_two min_two max_three min_three max_four min_four   -- for this text's walks alone
theorem cx7_bc3 {w : World} {g : Nat} {t : TypeId} {x0 x1 x2 : Value} (h : w.heap[g]? = some (.cells #[x0, x1, x2] t (0, 0))) : w.cell? ⟨g, 0, none⟩ = some x0 ∧ w.cell? ⟨g, 1, none⟩ = some x1 ∧ w.cell? ⟨g, 2, none⟩ = some x2 ∧ w.frozen? ⟨g, 0, none⟩ = false ∧ w.frozen? ⟨g, 1, none⟩ = false ∧ w.frozen? ⟨g, 2, none⟩ = false :=
 ⟨(blk_cell h 0).trans rfl, (blk_cell h 1).trans rfl, (blk_cell h 2).trans rfl, blk_frozen h 0, blk_frozen h 1, blk_frozen h 2⟩
theorem cx7_bc7 {w : World} {g : Nat} {t : TypeId} {x0 x1 x2 x3 x4 x5 x6 : Value} (h : w.heap[g]? = some (.cells #[x0, x1, x2, x3, x4, x5, x6] t (0, 0))) : w.cell? ⟨g, 0, none⟩ = some x0 ∧ w.cell? ⟨g, 1, none⟩ = some x1 ∧ w.cell? ⟨g, 2, none⟩ = some x2 ∧ w.cell? ⟨g, 3, none⟩ = some x3 ∧ w.cell? ⟨g, 4, none⟩ = some x4 ∧ w.cell? ⟨g, 5, none⟩ = some x5 ∧ w.cell? ⟨g, 6, none⟩ = some x6 ∧ w.frozen? ⟨g, 0, none⟩ = false ∧ w.frozen? ⟨g, 1, none⟩ = false ∧ w.frozen? ⟨g, 2, none⟩ = false ∧ w.frozen? ⟨g, 3, none⟩ = false ∧ w.frozen? ⟨g, 4, none⟩ = false ∧ w.frozen? ⟨g, 5, none⟩ = false ∧ w.frozen? ⟨g, 6, none⟩ = false :=
 ⟨(blk_cell h 0).trans rfl, (blk_cell h 1).trans rfl, (blk_cell h 2).trans rfl, (blk_cell h 3).trans rfl, (blk_cell h 4).trans rfl, (blk_cell h 5).trans rfl, (blk_cell h 6).trans rfl, blk_frozen h 0, blk_frozen h 1, blk_frozen h 2, blk_frozen h 3, blk_frozen h 4, blk_frozen h 5, blk_frozen h 6⟩
theorem zx7_6 {p : Prop} (h : p := by (with_reducible repeat (first | apply Kd.R_alloc | apply Kd.R_drewN | apply Kd.R_drew)); exact ba.out) : p := h
theorem zx7_0 {p : Prop} (h : p := by (with_reducible repeat (first | refine blk_drewN ?_ _ | refine blk_drew ?_ | refine blk_alloc ?_ _)); exact bd.out) : p := h
theorem zx7_5 {p : Prop} (h : p := by (with_reducible repeat (first | refine blk_drewN ?_ _ | refine blk_drew ?_ | refine blk_alloc ?_ _)); exact bb.out) : p := h
theorem zx7_4 {p : Prop} (h : p := by repeat (first | (with_reducible first | exact HB.out | apply below_alloc | apply pw_below_drewN | apply below_drew1) | exact HB.out)) : p := h
theorem zx7_3 {p : Prop} (h : p := by (try simp only [List.map_toArray, List.map_cons, List.map_nil]); first | done | rfl | (simp only [List.length_drop, List.length_take]; rfl)) : p := h
theorem zx7_1 {p : Prop} (h : p := by repeat (first | (with_reducible first | exact HB.out | apply below_alloc | apply pw_below_drewN | apply below_drew1 | refine below_set ?_ bO.out) | exact HB.out)) : p := h
theorem zx7_2 {p : Prop} (h : p := by repeat (first | (with_reducible first | exact HB.out | apply below_alloc | apply pw_below_drewN | apply below_drew1 | refine below_set ?_ bO.out | refine below_set ?_ bR.out) | exact HB.out)) : p := h
set_option linter.unusedVariables false
set_option linter.unusedSimpArgs false

/-! ### ledger_Pending: function 18 -/
mutual
def ledger_Pending.l0 : Nat → Bool → List Int → Int → Int → Int → List (S37) → ByteArray → Int → Int → List Int → Int → Int → Int → Option (List Int)
 | 0, _, _, _, _, _, _, _, _, _, _, _, _, _ => none
 | k + 1, x6, x7, x8, bK, bw, bJ, bE, bD, bC, bB, bA, bz, bx => if x6 = true then (ledger_Pending.j1 k x6 x7 x8 (decide (x8 < bw)) bK bw bJ bE bD bC bB bA bz bx) else (ledger_Pending.j1 k x6 x7 x8 false bK bw bJ bE bD bC bB bA bz bx)
def ledger_Pending.j1 : Nat → Bool → List Int → Int → Bool → Int → Int → List (S37) → ByteArray → Int → Int → List Int → Int → Int → Int → Option (List Int)
 | 0, _, _, _, _, _, _, _, _, _, _, _, _, _, _ => none
 | k + 1, x6, x7, x8, x23, bK, bw, bJ, bE, bD, bC, bB, bA, bz, bx => if x23 = true then ((ledger_Dest_waits.f k bE bD bC bB bA bz bx x8 bw).bind fun bW => (if bW = true then (if x7.length < 17592186044416 then (ledger_Pending.l0 k x6 (x7 ++ [x8]) (IntKind.u64.wrap (x8 + 1)) bK bw bJ bE bD bC bB bA bz bx) else (none)) else (ledger_Pending.l0 k x6 x7 (IntKind.u64.wrap (x8 + 1)) bK bw bJ bE bD bC bB bA bz bx))) else (some x7)
end
def ledger_Pending.f (k : Nat) (bh : Int) (bc : Int) (be : List (S37)) (a1 : ByteArray) : Option (List Int) := (ledger_Find.f bh bc be a1).bind fun bl => (ledger_Pending.l0 k bl.2.2.2.2.2.2.2 ([] : List Int) bl.2.2.1 bh bc be bl.1 bl.2.1 bl.2.2.1 bl.2.2.2.1 bl.2.2.2.2.1 bl.2.2.2.2.2.1 bl.2.2.2.2.2.2.1)
theorem ledger_Pending.mono_l : ∀ k, (∀ y0 y1 y2 y3 y4 y5 y6 y7 y8 y9 y10 y11 y12, LeO (ledger_Pending.l0 k y0 y1 y2 y3 y4 y5 y6 y7 y8 y9 y10 y11 y12) (ledger_Pending.l0 (k + 1) y0 y1 y2 y3 y4 y5 y6 y7 y8 y9 y10 y11 y12)) ∧ (∀ y0 y1 y2 y3 y4 y5 y6 y7 y8 y9 y10 y11 y12 y13, LeO (ledger_Pending.j1 k y0 y1 y2 y3 y4 y5 y6 y7 y8 y9 y10 y11 y12 y13) (ledger_Pending.j1 (k + 1) y0 y1 y2 y3 y4 y5 y6 y7 y8 y9 y10 y11 y12 y13))
 | 0 => ⟨fun _ _ _ _ _ _ _ _ _ _ _ _ _ r h => by simp [ledger_Pending.l0] at h, fun _ _ _ _ _ _ _ _ _ _ _ _ _ _ r h => by simp [ledger_Pending.j1] at h⟩
 | k + 1 => by
  obtain ⟨ih0, ih1⟩ := ledger_Pending.mono_l k
  refine ⟨?_, ?_⟩
  ·intro y0 y1 y2 y3 y4 y5 y6 y7 y8 y9 y10 y11 y12
   unfold ledger_Pending.l0
   repeat' first
   | (with_reducible exact ih0 _ _ _ _ _ _ _ _ _ _ _ _ _)
   | (with_reducible exact ih1 _ _ _ _ _ _ _ _ _ _ _ _ _ _)
   | (with_reducible exact ledger_Dest_waits.mono _ _ _ _ _ _ _ _ _ _)
   | (with_reducible exact LeO.refl _)
   | (with_reducible exact LeO.none _)
   | (with_reducible refine LeO.ite ?_ ?_)
   | (with_reducible refine LeO.bind ?_ (fun _ => ?_))
   | exact ih0 _ _ _ _ _ _ _ _ _ _ _ _ _
   | exact ih1 _ _ _ _ _ _ _ _ _ _ _ _ _ _
   | exact ledger_Dest_waits.mono _ _ _ _ _ _ _ _ _ _
   | exact LeO.none _
   | refine LeO.ite ?_ ?_
   | refine LeO.bind ?_ (fun _ => ?_)
  intro y0 y1 y2 y3 y4 y5 y6 y7 y8 y9 y10 y11 y12 y13
  unfold ledger_Pending.j1
  repeat' first
  | (with_reducible exact ih0 _ _ _ _ _ _ _ _ _ _ _ _ _)
  | (with_reducible exact ih1 _ _ _ _ _ _ _ _ _ _ _ _ _ _)
  | (with_reducible exact ledger_Dest_waits.mono _ _ _ _ _ _ _ _ _ _)
  | (with_reducible exact LeO.refl _)
  | (with_reducible exact LeO.none _)
  | (with_reducible refine LeO.ite ?_ ?_)
  | (with_reducible refine LeO.bind ?_ (fun _ => ?_))
  | exact ih0 _ _ _ _ _ _ _ _ _ _ _ _ _
  | exact ih1 _ _ _ _ _ _ _ _ _ _ _ _ _ _
  | exact ledger_Dest_waits.mono _ _ _ _ _ _ _ _ _ _
  | exact LeO.none _
  | refine LeO.ite ?_ ?_
  | refine LeO.bind ?_ (fun _ => ?_)
theorem ledger_Pending.mono : ∀ a0 a1 a2 a3 k, LeO (ledger_Pending.f k a0 a1 a2 a3) (ledger_Pending.f (k + 1) a0 a1 a2 a3) := by
 intro a0 a1 a2 a3 k
 obtain ⟨ih0, ih1⟩ := ledger_Pending.mono_l k
 unfold ledger_Pending.f
 repeat' first
   | (with_reducible exact ih0 _ _ _ _ _ _ _ _ _ _ _ _ _)
   | (with_reducible exact ih1 _ _ _ _ _ _ _ _ _ _ _ _ _ _)
   | (with_reducible exact ledger_Dest_waits.mono _ _ _ _ _ _ _ _ _ _)
   | (with_reducible exact LeO.refl _)
   | (with_reducible exact LeO.none _)
   | (with_reducible refine LeO.ite ?_ ?_)
   | (with_reducible refine LeO.bind ?_ (fun _ => ?_))
   | exact ih0 _ _ _ _ _ _ _ _ _ _ _ _ _
   | exact ih1 _ _ _ _ _ _ _ _ _ _ _ _ _ _
   | exact ledger_Dest_waits.mono _ _ _ _ _ _ _ _ _ _
   | exact LeO.none _
   | refine LeO.ite ?_ ?_
   | refine LeO.bind ?_ (fun _ => ?_)
set_option maxHeartbeats 8000000 in
set_option maxRecDepth 100000 in
theorem ledger_Pending.calls (k : Nat) (bh : Int) (bc : Int) (bM : Option Addr) (bL : Nat) (be : List (S37)) (a1 : ByteArray) (r : List Int) (w : World) (dp : Kd.C k37 w bM be.length be) (dq : be.length ≤ bL) (h : ledger_Pending.f k bh bc be a1 = some r) :
  Calls Tryd.prog 18 #[.agg #[.int .u64 bh, .int .u64 bc, .slice bM be.length bL], .string a1] w fun e w' => ∃ v0_ : Value, e = .returned (v0_) ∧ Kd.R (Kd.int .u64) 24 w' w.heap.size (fun _ => True) v0_ r ∧ Below w.heap.size w w' := by
 have gr := Tryd.underlying27
 have gq := Tryd.underlying37
 have dv := Aside0.mk dp
 have dx := Aside0.mk dq
 clear dp dq
 have HB := Aside0.mk (Below.refl w.heap.size w)
 have H : ((ledger_Find.f bh bc be a1).bind fun bl => (ledger_Pending.l0 k bl.2.2.2.2.2.2.2 ([] : List Int) bl.2.2.1 bh bc be bl.1 bl.2.1 bl.2.2.1 bl.2.2.2.1 bl.2.2.2.2.1 bl.2.2.2.2.2.1 bl.2.2.2.2.2.2.1)) = some r := h
 clear h
 replace H := Option.bind_eq_some_iff.mp H
 obtain ⟨⟨bj, bk, bi, bg, bn, bo, bq, bP⟩, A30, H⟩ := H
 replace H : (ledger_Pending.l0 k bP ([] : List Int) bi bh bc be bj bk bi bg bn bo bq) = some r := H
 have A3 := Aside0.mk A30
 clear A30
 have H' := Aside0.mk H
 clear H
 go_enter Tryd.func18, Tryd.ntmps18
 go_wp2_with (first | ((with_reducible refine gate_dst (N := 2) rfl ?_); refine box_event ?hg (N := 2) ?hd (cs := #[.int .u64 bh, .int .u64 bc, .slice bM be.length bL]) (t := 27) ?hr ?_; (case hd => rfl); (case hg => rfl); (case hr => first | (go_simp; done) | (go_simp; rfl)); intro bp hg w4 hbox hb; have bd := Aside0.mk (hbox); have gn := Aside0.mk ((by rw [hg]; exact (below_size zx7_4) : w.heap.size ≤ bp)); have bO := Aside0.mk ((by rw [hg]; exact (below_size zx7_4) : w.heap.size ≤ bp)); replace HB := Aside0.mk (below_step zx7_4 hb); clear hb hbox hg; have dg : w4.cell? ⟨bp, 0, none⟩ = some (.int .u64 bh) := (blk_cell bd.out 0).trans rfl; have df : w4.cell? ⟨bp, 1, none⟩ = some (.int .u64 bc) := (blk_cell bd.out 1).trans rfl; have de : w4.cell? ⟨bp, 2, none⟩ = some (.slice bM be.length bL) := (blk_cell bd.out 2).trans rfl; have b6 := blk_frozen bd.out 0; have b5 := blk_frozen bd.out 1; have b4 := blk_frozen bd.out 2) | ((with_reducible refine gate_callee (f := 17) rfl ?_); refine goesL_ (some 12) rfl rfl Tryd.func17 (by kernel_rfl) rfl #[.agg #[.int .u64 bh, .int .u64 bc, .slice bM be.length bL], .string a1] rfl zx7_3 ?_; (with_reducible refine (ledger_Find.calls bh bc _ _ be a1 bj bk bi bg bn bo bq bP _ ?side1 ?side2 A3.out).mono ?_); (case side1 => repeat (first | exact (Kd.C_below dv.out HB.out) | (with_reducible refine Kd.C_alloc ?_ _) | (with_reducible refine Kd.C_drewN ?_ _) | (with_reducible refine Kd.C_drew ?_))); (case side2 => exact dx.out); rintro e w6 ⟨gp, rfl, ho0, hb⟩; refine ⟨_, rfl, ?_⟩; have bV := Aside0.mk (Kd.R_lower ho0 (below_size zx7_1)); replace bd := Aside0.mk (blk_below (g := bp) (o := .cells #[.int .u64 bh, .int .u64 bc, .slice bM be.length bL] 27 (0, 0)) zx7_0 hb); replace HB := Aside0.mk (below_step zx7_1 hb); (try clear hb); (try clear hb2); (try clear hk); (try clear hi); (try clear ho0)) | ((with_reducible refine gate_dst (N := 5) rfl ?_); refine box_event ?hg (N := 5) ?hd (cs := #[.string (⟨#[]⟩ : ByteArray), .int .u64 0, .int .u64 0, .slice none 0 0, .int .u64 0, .int .u64 0, .int .u64 0]) (t := 37) ?hr ?_; (case hd => rfl); (case hg => rfl); (case hr => first | (go_simp; done) | (go_simp; rfl)); intro bf hg w7 hbox hb; replace bV := Aside0.mk (Kd.R_below (by (with_reducible repeat (first | apply Kd.R_alloc | apply Kd.R_drewN | apply Kd.R_drew)); exact bV.out) hb); have bb := Aside0.mk (hbox); have gm := Aside0.mk ((by rw [hg]; exact (below_size zx7_1) : w.heap.size ≤ bf)); have bR := Aside0.mk ((by rw [hg]; exact (below_size zx7_1) : w.heap.size ≤ bf)); replace HB := Aside0.mk (below_step zx7_1 hb); have bu := Aside0.mk ((by rw [hg]; exact Nat.ne_of_lt (blk_lt (g := bp) (o := .cells #[.int .u64 bh, .int .u64 bc, .slice bM be.length bL] 27 (0, 0)) zx7_0) : bp ≠ bf)); have bG := Aside0.mk ((by rw [hg]; exact Nat.ne_of_gt (blk_lt (g := bp) (o := .cells #[.int .u64 bh, .int .u64 bc, .slice bM be.length bL] 27 (0, 0)) zx7_0) : bf ≠ bp)); replace bd := Aside0.mk (blk_below (g := bp) (o := .cells #[.int .u64 bh, .int .u64 bc, .slice bM be.length bL] 27 (0, 0)) zx7_0 hb); clear hb hbox hg; have gt := bG.out; have gs := bu.out; have dd : w7.cell? ⟨bf, 0, none⟩ = some (.string (⟨#[]⟩ : ByteArray)) := (blk_cell bb.out 0).trans rfl; have dc : w7.cell? ⟨bf, 1, none⟩ = some (.int .u64 0) := (blk_cell bb.out 1).trans rfl; have db : w7.cell? ⟨bf, 2, none⟩ = some (.int .u64 0) := (blk_cell bb.out 2).trans rfl; have da : w7.cell? ⟨bf, 3, none⟩ = some (.slice none 0 0) := (blk_cell bb.out 3).trans rfl; have b9 : w7.cell? ⟨bf, 4, none⟩ = some (.int .u64 0) := (blk_cell bb.out 4).trans rfl; have b8 : w7.cell? ⟨bf, 5, none⟩ = some (.int .u64 0) := (blk_cell bb.out 5).trans rfl; have b7 : w7.cell? ⟨bf, 6, none⟩ = some (.int .u64 0) := (blk_cell bb.out 6).trans rfl; have b3 := blk_frozen bb.out 0; have b2 := blk_frozen bb.out 1; have b1 := blk_frozen bb.out 2; have b0 := blk_frozen bb.out 3; have bZ := blk_frozen bb.out 4; have bY := blk_frozen bb.out 5; have bX := blk_frozen bb.out 6; obtain ⟨bI, bH, ge⟩ := Kd.R_slice bV.out; subst ge))
 go_loopg [7, 8] k (fun kq v7 v8 w' => ∃ (br : List Int) (bm : Int), v8 = .int .u64 bm ∧ Aside0 (ledger_Pending.l0 kq bP br bm bh bc be bj bk bi bg bn bo bq = some r) ∧ Aside0 (kq ≤ k) ∧ Aside0 (Kd.R (Kd.int .u64) 24 w' w.heap.size (fun k_ => some k_ ≠ ((.slice bI bg.length bH) : Value).ownBlock) v7 br) ∧ Aside0 (Kd.R (Kd.int .u64) 24 w' w.heap.size (fun k_ => some k_ ≠ (v7 : Value).ownBlock) (.slice bI bg.length bH) bg) ∧ Aside0 (w'.heap[bp]? = some (.cells #[.int .u64 bh, .int .u64 bc, (.slice bM be.length bL)] 27 (0, 0))) ∧ Aside0 (w'.heap[bf]? = some (.cells #[.string bj, .int .u64 bk, .int .u64 bi, (.slice bI bg.length bH), .int .u64 bn, .int .u64 bo, .int .u64 bq] 37 (0, 0))) ∧ Aside0 (Below w.heap.size w w'))
 case atStart => exact ⟨(([] : List Int)), (bi), (by first | rfl | (simp; done) | (simp [*]; done)), H', ⟨Nat.le_refl _⟩, ⟨by first | exact Kd.R_nil _ _ _ _ _ | exact Kd.N_nil _ _ _ _ _ | exact Kd.V_nil _ _ _ _ _ | exact Kd.Q_nil _ _ _ _ _ | exact Kd.S_nil _ _ _ _ _⟩, ⟨by (with_reducible repeat (first | apply Kd.R_alloc | apply Kd.R_drewN | apply Kd.R_drew)); exact Kd.R_mono (Kd.R_far (p := ⟨bf, 6, none⟩) (Kd.R_far (p := ⟨bf, 5, none⟩) (Kd.R_far (p := ⟨bf, 4, none⟩) (Kd.R_far (p := ⟨bf, 3, none⟩) (Kd.R_far (p := ⟨bf, 2, none⟩) (Kd.R_far (p := ⟨bf, 1, none⟩) (Kd.R_far (p := ⟨bf, 0, none⟩) (Kd.R_types bV.out bb.out (by decide)) (fun _ hk => hk.2) (.string bj)) (fun _ hk => hk.2) (.int .u64 bk)) (fun _ hk => hk.2) (.int .u64 bi)) (fun _ hk => hk.2) (.slice bI bg.length bH)) (fun _ hk => hk.2) (.int .u64 bn)) (fun _ hk => hk.2) (.int .u64 bo)) (fun _ hk => hk.2) (.int .u64 bq)) (fun _ hk => (by simp [Value.ownBlock]))⟩, ⟨by (iterate 7 ((with_reducible repeat (first | refine blk_drewN ?_ _ | refine blk_drew ?_ | refine blk_alloc ?_ _)); refine blk_far ?_ bu.out _)); (with_reducible repeat (first | refine blk_drewN ?_ _ | refine blk_drew ?_ | refine blk_alloc ?_ _)); exact bd.out⟩, ⟨by (with_reducible repeat (first | refine blk_drewN ?_ _ | refine blk_drew ?_ | refine blk_alloc ?_ _)); refine blk_put (cs := #[.string bj, .int .u64 bk, .int .u64 bi, .slice bI bg.length bH, .int .u64 bn, .int .u64 bo, .int .u64 0]) ?_ 6 _ rfl; (with_reducible repeat (first | refine blk_drewN ?_ _ | refine blk_drew ?_ | refine blk_alloc ?_ _)); refine blk_put (cs := #[.string bj, .int .u64 bk, .int .u64 bi, .slice bI bg.length bH, .int .u64 bn, .int .u64 0, .int .u64 0]) ?_ 5 _ rfl; (with_reducible repeat (first | refine blk_drewN ?_ _ | refine blk_drew ?_ | refine blk_alloc ?_ _)); refine blk_put (cs := #[.string bj, .int .u64 bk, .int .u64 bi, .slice bI bg.length bH, .int .u64 0, .int .u64 0, .int .u64 0]) ?_ 4 _ rfl; (with_reducible repeat (first | refine blk_drewN ?_ _ | refine blk_drew ?_ | refine blk_alloc ?_ _)); refine blk_put (cs := #[.string bj, .int .u64 bk, .int .u64 bi, .slice none 0 0, .int .u64 0, .int .u64 0, .int .u64 0]) ?_ 3 _ rfl; (with_reducible repeat (first | refine blk_drewN ?_ _ | refine blk_drew ?_ | refine blk_alloc ?_ _)); refine blk_put (cs := #[.string bj, .int .u64 bk, .int .u64 0, .slice none 0 0, .int .u64 0, .int .u64 0, .int .u64 0]) ?_ 2 _ rfl; (with_reducible repeat (first | refine blk_drewN ?_ _ | refine blk_drew ?_ | refine blk_alloc ?_ _)); refine blk_put (cs := #[.string bj, .int .u64 0, .int .u64 0, .slice none 0 0, .int .u64 0, .int .u64 0, .int .u64 0]) ?_ 1 _ rfl; (with_reducible repeat (first | refine blk_drewN ?_ _ | refine blk_drew ?_ | refine blk_alloc ?_ _)); refine blk_put (cs := #[.string (⟨#[]⟩ : ByteArray), .int .u64 0, .int .u64 0, .slice none 0 0, .int .u64 0, .int .u64 0, .int .u64 0]) ?_ 0 _ rfl; (with_reducible repeat (first | refine blk_drewN ?_ _ | refine blk_drew ?_ | refine blk_alloc ?_ _)); exact bb.out⟩, ⟨by repeat (first | (with_reducible first | exact HB.out | apply below_alloc | apply pw_below_drewN | apply below_drew1 | refine below_set ?_ bO.out | refine below_set ?_ bR.out) | exact HB.out)⟩⟩
 case round =>
  clear H'
  (try clear c1); (try clear p2); (try clear c8); (try clear dg); (try clear df); (try clear de); (try clear dd); (try clear dc); (try clear db); (try clear da); (try clear b9); (try clear b8); (try clear b7); (try clear b6); (try clear b5); (try clear b4); (try clear b3); (try clear b2); (try clear b1); (try clear b0); (try clear bZ); (try clear bY); (try clear bX)
  obtain ⟨br, bm, rfl, HA, HK1, bN, ba, bd, bb, HB⟩ := hrel
  cases gk with
  | zero => exact absurd HA.out (by simp [ledger_Pending.l0])
  | succ k1 => ?_
  have H := HA.out
  clear HA
  simp only [ledger_Pending.l0] at H
  have dr := Aside0.mk H
  clear H
  go_upto_region 4 with (fail)
  go_cut [23] (fun v23 wc => ∃ (kq : Nat) (bS : Bool), v23 = .bool bS ∧ Aside0 (ledger_Pending.j1 kq bP br bm bS bh bc be bj bk bi bg bn bo bq = some r) ∧ Aside0 (kq ≤ k1) ∧ Aside0 (Kd.R (Kd.int .u64) 24 wc w.heap.size (fun k_ => some k_ ≠ ((.slice bI bg.length bH) : Value).ownBlock) u7 br) ∧ Aside0 (Kd.R (Kd.int .u64) 24 wc w.heap.size (fun k_ => some k_ ≠ (u7 : Value).ownBlock) (.slice bI bg.length bH) bg) ∧ Aside0 (wc.heap[bp]? = some (.cells #[.int .u64 bh, .int .u64 bc, (.slice bM be.length bL)] 27 (0, 0))) ∧ Aside0 (wc.heap[bf]? = some (.cells #[.string bj, .int .u64 bk, .int .u64 bi, (.slice bI bg.length bH), .int .u64 bn, .int .u64 bo, .int .u64 bq] 37 (0, 0))) ∧ Aside0 (Below w.heap.size w wc))
  case first =>
   have H := dr.out
   clear dr
   by_cases c12 : bP = true
   case neg =>
    replace c12 := Bool.eq_false_iff.mpr c12
    subst c12
    have H1 : (ledger_Pending.j1 k1 false br bm false bh bc be bj bk bi bg bn bo bq) = some r := by rw [if_neg (show ¬ (false = true) by decide)] at H; exact H
    clear H
    have H := H1
    clear H1
    have H' := Aside0.mk H
    clear H
    go_wp2
    go_meet
    case rel => exact ⟨_, (false), (by first | rfl | (simp; done) | (simp [*]; done)), H', ⟨by have := HK1.out; first | omega | exact Nat.le_refl _⟩, ⟨by (with_reducible repeat (first | apply Kd.R_alloc | apply Kd.R_drewN | apply Kd.R_drew)); exact bN.out⟩, ⟨by (with_reducible repeat (first | apply Kd.R_alloc | apply Kd.R_drewN | apply Kd.R_drew)); exact ba.out⟩, ⟨by (with_reducible repeat (first | refine blk_drewN ?_ _ | refine blk_drew ?_ | refine blk_alloc ?_ _)); exact bd.out⟩, ⟨by (with_reducible repeat (first | refine blk_drewN ?_ _ | refine blk_drew ?_ | refine blk_alloc ?_ _)); exact bb.out⟩, ⟨by repeat (first | (with_reducible first | exact HB.out | apply below_alloc | apply pw_below_drewN | apply below_drew1 | refine below_set ?_ bO.out | refine below_set ?_ bR.out) | exact HB.out)⟩⟩
   subst c12
   have H1 : (ledger_Pending.j1 k1 true br bm (decide (bm < bc)) bh bc be bj bk bi bg bn bo bq) = some r := by rw [if_pos rfl] at H; exact H
   clear H
   have H := H1
   clear H1
   have H' := Aside0.mk H
   clear H
   have gl := bu.out
   have gh := bG.out
   obtain ⟨dm, dl, dk, dj, di, dh⟩ := cx7_bc3 bd.out
   go_wp2
   go_meet
   case rel => exact ⟨_, (decide (bm < bc)), (by first | rfl | (simp; done) | (simp [*]; done)), H', ⟨by have := HK1.out; first | omega | exact Nat.le_refl _⟩, ⟨by (with_reducible repeat (first | apply Kd.R_alloc | apply Kd.R_drewN | apply Kd.R_drew)); exact bN.out⟩, ⟨by (with_reducible repeat (first | apply Kd.R_alloc | apply Kd.R_drewN | apply Kd.R_drew)); exact ba.out⟩, ⟨by (with_reducible repeat (first | refine blk_drewN ?_ _ | refine blk_drew ?_ | refine blk_alloc ?_ _)); exact bd.out⟩, ⟨by (with_reducible repeat (first | refine blk_drewN ?_ _ | refine blk_drew ?_ | refine blk_alloc ?_ _)); exact bb.out⟩, ⟨by repeat (first | (with_reducible first | exact HB.out | apply below_alloc | apply pw_below_drewN | apply below_drew1 | refine below_set ?_ bO.out | refine below_set ?_ bR.out) | exact HB.out)⟩⟩
  case rest =>
   clear dr
   (try clear c1); (try clear p2); (try clear c8); (try clear c12); (try clear c13); (try clear dm); (try clear dl); (try clear dk); (try clear dg); (try clear df); (try clear de); (try clear dd); (try clear dc); (try clear db); (try clear da); (try clear b9); (try clear b8); (try clear b7); (try clear dj); (try clear di); (try clear dh); (try clear b6); (try clear b5); (try clear b4); (try clear b3); (try clear b2); (try clear b1); (try clear b0); (try clear bZ); (try clear bY); (try clear bX); (try clear p2)
   obtain ⟨kq, bS, rfl, HA, dn, bN, ba, bd, bb, HB⟩ := hcut
   cases kq with
   | zero => exact absurd HA.out (by simp [ledger_Pending.j1])
   | succ bQ => ?_
   have H := HA.out
   clear HA
   simp only [ledger_Pending.j1] at H
   by_cases c15 : bS = true
   case neg =>
    replace c15 := Bool.eq_false_iff.mpr c15
    subst c15
    have H1 : (some br) = some r := by rw [if_neg (show ¬ (false = true) by decide)] at H; exact H
    clear H
    have H := H1
    clear H1
    obtain rfl := Option.some.inj H
    go_wp2
    go_ret
    exact ⟨_, by first | rfl | (simp [errW_none, errW_some] <;> rfl) | (simp [*, errW_none, errW_some] <;> rfl), by (with_reducible repeat (first | apply Kd.R_alloc | apply Kd.R_drewN | apply Kd.R_drew)); exact Kd.R_mono bN.out (fun _ hk => trivial), by repeat (first | (with_reducible first | exact HB.out | apply below_alloc | apply pw_below_drewN | apply below_drew1 | refine below_set ?_ bO.out | refine below_set ?_ bR.out) | exact HB.out)⟩

   subst c15
   have H1 : ((ledger_Dest_waits.f bQ bj bk bi bg bn bo bq bm bc).bind fun bW => (if bW = true then (if br.length < 17592186044416 then (ledger_Pending.l0 bQ bP (br ++ [bm]) (IntKind.u64.wrap (bm + 1)) bh bc be bj bk bi bg bn bo bq) else (none)) else (ledger_Pending.l0 bQ bP br (IntKind.u64.wrap (bm + 1)) bh bc be bj bk bi bg bn bo bq))) = some r := by rw [if_pos rfl] at H; exact H
   clear H
   have H := H1
   clear H1
   replace H := Option.bind_eq_some_iff.mp H
   obtain ⟨bW, dy, H⟩ := H
   replace H : (if bW = true then (if br.length < 17592186044416 then (ledger_Pending.l0 bQ bP (br ++ [bm]) (IntKind.u64.wrap (bm + 1)) bh bc be bj bk bi bg bn bo bq) else (none)) else (ledger_Pending.l0 bQ bP br (IntKind.u64.wrap (bm + 1)) bh bc be bj bk bi bg bn bo bq)) = some r := H
   have A16 := Aside0.mk dy
   clear dy
   by_cases c17 : bW = true
   case neg =>
    replace c17 := Bool.eq_false_iff.mpr c17
    subst c17
    have H1 : (ledger_Pending.l0 bQ bP br (IntKind.u64.wrap (bm + 1)) bh bc be bj bk bi bg bn bo bq) = some r := by rw [if_neg (show ¬ (false = true) by decide)] at H; exact H
    clear H
    have H := H1
    clear H1
    have H' := Aside0.mk H
    clear H
    have gi := bG.out
    have gf := bu.out
    obtain ⟨d2, d1, d0, dZ, dY, dX, dW, dI, dH, dG, dF, dE, dD, dC⟩ := cx7_bc7 bb.out
    obtain ⟨dV, dU, dT, dB, dA, dz⟩ := cx7_bc3 bd.out
    go_wp2_with (first | ((with_reducible refine gate_callee (f := 36) rfl ?_); refine goesL_ (some 30) rfl rfl Tryd.func36 (by kernel_rfl) rfl #[.agg #[.string bj, .int .u64 bk, .int .u64 bi, .slice bI bg.length bH, .int .u64 bn, .int .u64 bo, .int .u64 bq], .int .u64 bm, .int .u64 bc] rfl zx7_3 ?_; (with_reducible refine (ledger_Dest_waits.calls bQ bj bk bi _ _ bg bn bo bq bm bc false _ ?side1 ?side2 A16.out).mono ?_); (case side1 => repeat (first | exact (Kd.R_reads' ba.out).2.2 | (with_reducible refine Kd.C_alloc ?_ _) | (with_reducible refine Kd.C_drewN ?_ _) | (with_reducible refine Kd.C_drew ?_))); (case side2 => exact (Kd.R_reads' ba.out).2.1); rintro e w27 ⟨rfl, hb⟩; refine ⟨_, rfl, ?_⟩; replace bN := Aside0.mk (Kd.R_below (by (with_reducible repeat (first | apply Kd.R_alloc | apply Kd.R_drewN | apply Kd.R_drew)); exact bN.out) hb); replace ba := Aside0.mk (Kd.R_below zx7_6 hb); replace bd := Aside0.mk (blk_below (g := bp) (o := .cells #[.int .u64 bh, .int .u64 bc, .slice bM be.length bL] 27 (0, 0)) zx7_0 hb); replace bb := Aside0.mk (blk_below (g := bf) (o := .cells #[.string bj, .int .u64 bk, .int .u64 bi, .slice bI bg.length bH, .int .u64 bn, .int .u64 bo, .int .u64 bq] 37 (0, 0)) zx7_5 hb); replace HB := Aside0.mk (below_step zx7_2 hb); (try clear hb); (try clear hb2); (try clear hk); (try clear hi)))
    go_roundg bQ
    case measure => have := HK1.out; have := dn.out; omega
    case rel => exact ⟨(br), (IntKind.u64.wrap (bm + 1)), (by first | rfl | (simp; done) | (simp [*]; done)), H', ⟨by have := HK1.out; have := dn.out; omega⟩, ⟨by (with_reducible repeat (first | apply Kd.R_alloc | apply Kd.R_drewN | apply Kd.R_drew)); exact bN.out⟩, ⟨by (with_reducible repeat (first | apply Kd.R_alloc | apply Kd.R_drewN | apply Kd.R_drew)); exact ba.out⟩, ⟨by (with_reducible repeat (first | refine blk_drewN ?_ _ | refine blk_drew ?_ | refine blk_alloc ?_ _)); exact bd.out⟩, ⟨by (with_reducible repeat (first | refine blk_drewN ?_ _ | refine blk_drew ?_ | refine blk_alloc ?_ _)); exact bb.out⟩, ⟨by repeat (first | (with_reducible first | exact HB.out | apply below_alloc | apply pw_below_drewN | apply below_drew1 | refine below_set ?_ bO.out | refine below_set ?_ bR.out) | exact HB.out)⟩⟩
   subst c17
   have H1 : (if br.length < 17592186044416 then (ledger_Pending.l0 bQ bP (br ++ [bm]) (IntKind.u64.wrap (bm + 1)) bh bc be bj bk bi bg bn bo bq) else (none)) = some r := by rw [if_pos rfl] at H; exact H
   clear H
   have H := H1
   clear H1
   by_cases c18 : br.length < 17592186044416
   case neg =>
    rw [if_neg c18] at H
    exact absurd H (by simp)
   rw [if_pos c18] at H
   have du := Aside0.mk c18
   clear c18
   obtain ⟨ds, bU⟩ : ∃ y_ : List Int, y_ = (br ++ [bm]) := ⟨_, rfl⟩
   replace H : (ledger_Pending.l0 bQ bP ds (IntKind.u64.wrap (bm + 1)) bh bc be bj bk bi bg bn bo bq) = some r := by first | (rw [bU]; with_reducible exact H) | (have H2_ := (Option.bind_some _ _).symm.trans H; rw [bU]; with_reducible exact H2_) | (have H2_ := (Option.bind_some _ _).symm.trans H; with_reducible exact H2_) | with_reducible exact H | (rw [bU]; exact H) | exact H
   have dt := Aside0.mk bU
   clear bU
   have H' := Aside0.mk H
   clear H
   have gj := bG.out
   have gg := bu.out
   obtain ⟨gc, gb, ga, d9, d8, d7, d6, dS, dR, dQ, dP, dO, dN, dM⟩ := cx7_bc7 bb.out
   obtain ⟨d5, d4, d3, dL, dK, dJ⟩ := cx7_bc3 bd.out
   go_wp2_with (first | ((with_reducible refine gate_callee (f := 36) rfl ?_); refine goesL_ (some 30) rfl rfl Tryd.func36 (by kernel_rfl) rfl #[.agg #[.string bj, .int .u64 bk, .int .u64 bi, .slice bI bg.length bH, .int .u64 bn, .int .u64 bo, .int .u64 bq], .int .u64 bm, .int .u64 bc] rfl zx7_3 ?_; (with_reducible refine (ledger_Dest_waits.calls bQ bj bk bi _ _ bg bn bo bq bm bc true _ ?side1 ?side2 A16.out).mono ?_); (case side1 => repeat (first | exact (Kd.R_reads' ba.out).2.2 | (with_reducible refine Kd.C_alloc ?_ _) | (with_reducible refine Kd.C_drewN ?_ _) | (with_reducible refine Kd.C_drew ?_))); (case side2 => exact (Kd.R_reads' ba.out).2.1); rintro e w22 ⟨rfl, hb⟩; refine ⟨_, rfl, ?_⟩; replace bN := Aside0.mk (Kd.R_below (by (with_reducible repeat (first | apply Kd.R_alloc | apply Kd.R_drewN | apply Kd.R_drew)); exact bN.out) hb); replace ba := Aside0.mk (Kd.R_below zx7_6 hb); replace bd := Aside0.mk (blk_below (g := bp) (o := .cells #[.int .u64 bh, .int .u64 bc, .slice bM be.length bL] 27 (0, 0)) zx7_0 hb); replace bb := Aside0.mk (blk_below (g := bf) (o := .cells #[.string bj, .int .u64 bk, .int .u64 bi, .slice bI bg.length bH, .int .u64 bn, .int .u64 bo, .int .u64 bq] 37 (0, 0)) zx7_5 hb); replace HB := Aside0.mk (below_step zx7_2 hb); (try clear hb); (try clear hb2); (try clear hk); (try clear hi)) | ((with_reducible refine gate_builtin (b := .append) (xs := #[.tmp 31, .tmp 33]) rfl ?_); at_builtin; refine Kd.R_append (Kd.int .u64) (w0 := w) w.heap.size rfl (.tmp 31) (.tmp 33) 35 24 (.int .u64 0) 8 rfl Tryd.underlying35 info24 rfl (by decide) (by omega) u7 br bm [.int .u64 bm] (fun k_ => some k_ ≠ (.slice bI bg.length bH : Value).ownBlock) (fun _ => False) rfl rfl ?aP (fun _ hk => hk.elim) ?aF ?aO ?aB ?aS ?aL ?_; (case aP => exact rfl); (case aB => exact zx7_2); (case aF => exact (fun k_ hk => Kd.fresh' (Kd.R_lt zx7_6) k_ hk)); (case aO => exact (by (with_reducible repeat (first | apply Kd.R_alloc | apply Kd.R_drewN | apply Kd.R_drew)); exact bN.out)); (case aS => exact (below_size zx7_2)); (case aL => have := du.out; omega); intro go w23 ho hb hg hat; rw [← dt.out] at ho; have n0_ := Aside0.mk (Kd.R_after (ok := (fun _ => True)) (by (with_reducible repeat (first | apply Kd.R_alloc | apply Kd.R_drewN | apply Kd.R_drew)); exact Kd.R_mono ba.out (fun _ hk => ⟨trivial, hk⟩)) hg hat); have n1_ := Aside0.mk (blk_grown (g := bp) (o := .cells #[.int .u64 bh, .int .u64 bc, .slice bM be.length bL] 27 (0, 0)) zx7_0 hg (Kd.R_ne bN.out bd.out (by decide))); have n2_ := Aside0.mk (blk_grown (g := bf) (o := .cells #[.string bj, .int .u64 bk, .int .u64 bi, .slice bI bg.length bH, .int .u64 bn, .int .u64 bo, .int .u64 bq] 37 (0, 0)) zx7_5 hg (Kd.R_ne bN.out bb.out (by decide))); have n3_ := Aside0.mk (hb); have n4_ := Aside0.mk (ho); clear ba; clear bd; clear bb; clear HB; clear bN; have ba := n0_; have bd := n1_; have bb := n2_; have HB := n3_; have dw := n4_; clear n0_ n1_ n2_ n3_ n4_; clear ho hb hg hat))
   go_roundg bQ
   case measure => have := HK1.out; have := dn.out; omega
   case rel => exact ⟨(ds), (IntKind.u64.wrap (bm + 1)), (by first | rfl | (simp; done) | (simp [*]; done)), H', ⟨by have := HK1.out; have := dn.out; omega⟩, ⟨by (with_reducible repeat (first | apply Kd.R_alloc | apply Kd.R_drewN | apply Kd.R_drew)); exact dw.out⟩, ⟨by (with_reducible repeat (first | apply Kd.R_alloc | apply Kd.R_drewN | apply Kd.R_drew)); exact Kd.R_mono ba.out (fun _ hk => hk.2)⟩, ⟨by (with_reducible repeat (first | refine blk_drewN ?_ _ | refine blk_drew ?_ | refine blk_alloc ?_ _)); exact bd.out⟩, ⟨by (with_reducible repeat (first | refine blk_drewN ?_ _ | refine blk_drew ?_ | refine blk_alloc ?_ _)); exact bb.out⟩, ⟨by repeat (first | (with_reducible first | exact HB.out | apply below_alloc | apply pw_below_drewN | apply below_drew1 | refine below_set ?_ bO.out | refine below_set ?_ bR.out) | exact HB.out)⟩⟩
end Go.Proofs.YthhmpjapnkilcaaDoor.XLdg
end
section
/- What the functions of the translation answer, each as a plain Lean function, and that the code comes to it; for a law: its row. Conditions: none but those that each theorem names. Written by a program of this session (wip/xp). -/
namespace Go.Proofs.YthhmpjapnkilcaaDoor.XLdg
open Go.RowKit Go.Proofs.YthhmpjapnkilcaaDoorW.PrintWords Go.Proofs.YthhmpjapnkilcaaDoorW.PrintLast Go.Proofs.YthhmpjapnkilcaaDoorW.PrintMore
attribute [local go_sem] max2_int min2_int max_two min_two max_three min_three max_four min_four   -- for this text's walks alone
set_option linter.unusedVariables false
set_option linter.unusedSimpArgs false

/-! ### postroomref10_Free: function 30 -/
mutual
def postroomref10_Free.l0 : Nat → Int → Int → Int → List (S84) → Option (Int)
 | 0, _, _, _, _ => none
 | k + 1, x3, bq, bn, bm => if x3 < bn then (postroomref10_Free.l1 k x3 0 bq bn bm) else (some bn)
def postroomref10_Free.l1 : Nat → Int → Int → Int → Int → List (S84) → Option (Int)
 | 0, _, _, _, _, _ => none
 | k + 1, x3, x4, bq, bn, bm => if x4 < (bm.length : Int) then (if 0 ≤ x4 then ((postroomref10_Waits.f k bq bn bm ((rd_T84 bm x4).f0) x3).bind fun bH => (if bH = true then (some x3) else (postroomref10_Free.l1 k x3 (wrap64 (x4 + 1)) bq bn bm))) else (none)) else (postroomref10_Free.l0 k (IntKind.u64.wrap (x3 + 1)) bq bn bm)
end
def postroomref10_Free.f (k : Nat) (bl : Int) (bk : Int) (bb : List (S84)) : Option (Int) := postroomref10_Free.l0 k 1 bl bk bb
def postroomref10_Free.T7 : Bool × List (List Nat × List Nat) := (true, [([], []), ([], []), ([1], [1]), ([], []), ([2, 3], [2, 3]), ([4], [4]), ([5], [5]), ([], []), ([0, 6, 7], [0, 6, 7])])
def postroomref10_Free.B7 : List Nat := [0, 0, 2, 0, 14, 30, 62, 0, 255]
end Go.Proofs.YthhmpjapnkilcaaDoor.XLdg
end
