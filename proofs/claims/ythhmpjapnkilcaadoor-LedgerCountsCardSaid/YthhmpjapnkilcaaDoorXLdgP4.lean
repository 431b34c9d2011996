/- Texts of this seat, in one. Conditions: those that each theorem names. -/
import Derived.Test.YthhmpjapnkilcaaDoorXLdgP1
import Derived.Test.YthhmpjapnkilcaaDoorXLdgP2
import Derived.Test.YthhmpjapnkilcaaDoorXLdgP3
import Derived.Test.YthhmpjapnkilcaaDoorGPlace
section
/- What the functions of the translation answer, each as a plain Lean function, and that the code comes to it; for a law: its row. Conditions: none but those that each theorem names. Written by a program of this session (wip/xp). -/
namespace Go.Proofs.YthhmpjapnkilcaaDoor.XLdg
open Go.RowKit Go.Proofs.YthhmpjapnkilcaaDoorW.PrintWords Go.Proofs.YthhmpjapnkilcaaDoorW.PrintLast Go.Proofs.YthhmpjapnkilcaaDoorW.PrintMore
attribute [local go_sem] max2_int min2_int max_two min_two max_three min_three max_four min_four   -- for this text's walks alone
theorem cx18_bc3 {w : World} {g : Nat} {t : TypeId} {x0 x1 x2 : Value} (h : w.heap[g]? = some (.cells #[x0, x1, x2] t (0, 0))) : w.cell? ⟨g, 0, none⟩ = some x0 ∧ w.cell? ⟨g, 1, none⟩ = some x1 ∧ w.cell? ⟨g, 2, none⟩ = some x2 ∧ w.frozen? ⟨g, 0, none⟩ = false ∧ w.frozen? ⟨g, 1, none⟩ = false ∧ w.frozen? ⟨g, 2, none⟩ = false :=
 ⟨(blk_cell h 0).trans rfl, (blk_cell h 1).trans rfl, (blk_cell h 2).trans rfl, blk_frozen h 0, blk_frozen h 1, blk_frozen h 2⟩
theorem zx18_7 {p : Prop} (h : p := by first | (with_reducible assumption) | assumption) : p := h
theorem zx18_1 {p : Prop} (h : p := by (with_reducible repeat (first | refine blk_drewN ?_ _ | refine blk_drew ?_ | refine blk_alloc ?_ _)); exact bc.out) : p := h
theorem zx18_4 {p : Prop} (h : p := by (with_reducible repeat (first | refine blk_drewN ?_ _ | refine blk_drew ?_ | refine blk_alloc ?_ _)); exact be.out) : p := h
theorem zx18_5 {p : Prop} (h : p := by repeat (first | (with_reducible first | exact HB.out | apply below_alloc | apply pw_below_drewN | apply below_drew1) | exact HB.out)) : p := h
theorem zx18_6 {p : Prop} (h : p := by (try simp only [List.map_toArray, List.map_cons, List.map_nil]); first | done | rfl | (simp only [List.length_drop, List.length_take]; rfl)) : p := h
theorem zx18_3 {p : Prop} (h : p := by repeat (first | (with_reducible first | exact HB.out | apply below_alloc | apply pw_below_drewN | apply below_drew1 | refine below_set ?_ bz.out) | exact HB.out)) : p := h
theorem zx18_0 {p : Prop} (h : p := by repeat (first | (with_reducible first | exact HB.out | apply below_alloc | apply pw_below_drewN | apply below_drew1 | refine below_set ?_ bz.out | refine below_set ?_ bB.out) | exact HB.out)) : p := h
theorem zx18_2 {p : Prop} (h : p := by (with_reducible repeat (first | refine blk_drewN ?_ _ | refine blk_drew ?_ | refine blk_alloc ?_ _)); refine blk_put (cs := #[.int .u64 0, .int .u64 0, .slice none 0 0]) ?_ 2 _ rfl; (with_reducible repeat (first | refine blk_drewN ?_ _ | refine blk_drew ?_ | refine blk_alloc ?_ _)); refine blk_put (cs := #[.int .u64 0, .int .u64 0, .slice none 0 0]) ?_ 1 _ rfl; (with_reducible repeat (first | refine blk_drewN ?_ _ | refine blk_drew ?_ | refine blk_alloc ?_ _)); refine blk_put (cs := #[.int .u64 0, .int .u64 0, .slice none 0 0]) ?_ 0 _ rfl; (with_reducible repeat (first | refine blk_drewN ?_ _ | refine blk_drew ?_ | refine blk_alloc ?_ _)); exact be.out) : p := h
set_option linter.unusedVariables false
set_option linter.unusedSimpArgs false

/-! ### postroomref10_Done: function 43 -/
def postroomref10_Done.j0 : Nat → ByteArray → Int → Int → Int → Bool → Int → Int → List (S84) → Option (Int × Int × (List (S84)) × Int)
 | 0, _, _, _, _, _, _, _, _ => none
 | k + 1, x1, x2, x3, x10, x23, b0, bZ, bY => if x23 = true then (some (0, 0, ([] : List (S84)), 1)) else ((postroomref10_Waits.f k b0 bZ bY x1 x2).bind fun da => (if da = true then ((postroomref10_copied.f k b0 bZ bY).bind fun bb => (if 0 ≤ x10 then (if x10 < (bb.2.2.length : Int) then (if 0 ≤ (IntKind.u64.wrap (x2 - ((rd_T84 bb.2.2 x10).f1))) then (if (IntKind.u64.wrap (x2 - ((rd_T84 bb.2.2 x10).f1))) < (((rd_T84 bb.2.2 x10).f2).length : Int) then (some (bb.1, bb.2.1, (bb.2.2.set (x10 : Int).toNat (⟨(rd_T84 bb.2.2 x10).f0, (rd_T84 bb.2.2 x10).f1, (((rd_T84 bb.2.2 x10).f2).set ((IntKind.u64.wrap (x2 - ((rd_T84 bb.2.2 x10).f1))) : Int).toNat x3)⟩ : S84)), 0)) else (none)) else (none)) else (none)) else (none))) else (some (0, 0, ([] : List (S84)), 13))))
def postroomref10_Done.f (k : Nat) (bk : Int) (bj : Int) (bi : List (S84)) (a1 : ByteArray) (a2 : Int) (a3 : Int) : Option (Int × Int × (List (S84)) × Int) := (postroomref10_place.f k bk bj bi a1).bind fun ba => (if ba < 0 then (some (0, 0, ([] : List (S84)), 5)) else (if a3 = 97 then (postroomref10_Done.j0 k a1 a2 a3 ba false bk bj bi) else (postroomref10_Done.j0 k a1 a2 a3 ba (a3 != 114) bk bj bi)))
def postroomref10_Done.T9 : Bool × List (List Nat × List Nat) := (true, [([], []), ([0], [0]), ([], []), ([1, 2], [1, 2]), ([3], [3]), ([4], [4]), ([], []), ([], []), ([7], [7]), ([], []), ([8, 9], [8, 9]), ([10], [10]), ([11], [11]), ([6, 12], [6, 12]), ([], []), ([5, 13, 0, 1, 2, 3, 4, 5, 6, 7, 8, 9, 10, 11, 12, 13, 14], [5, 13]), ([15, 14, 0, 1, 2, 3, 4, 5, 6, 7, 8, 9, 10, 11, 12, 13, 14], [14, 15])])
def postroomref10_Done.B9 : List Nat := [0, 1, 0, 7, 15, 31, 0, 0, 128, 0, 896, 1920, 3968, 8128, 0, 32767, 65535]
theorem postroomref10_Done.tab9 : rtab .any (opsOf Tryd.f43 9) = postroomref10_Done.T9 := by kernel_rfl
theorem postroomref10_Done.bits9 : waitsOk postroomref10_Done.T9.2 postroomref10_Done.B9 = true := by kernel_rfl
set_option maxHeartbeats 8000000 in
set_option maxRecDepth 100000 in
theorem postroomref10_Done.calls (k : Nat) (bk : Int) (bj : Int) (bo : Option Addr) (bn : Nat) (bi : List (S84)) (a1 : ByteArray) (a2 : Int) (a3 : Int) (r1 : Int) (r2 : Int) (r3 : List (S84)) (r4 : Int) (w : World) (dM : Kd.C k84 w bo bi.length bi) (dO : bi.length ≤ bn) (h : postroomref10_Done.f k bk bj bi a1 a2 a3 = some (r1, r2, r3, r4)) :
  Calls Tryd.prog 43 #[.agg #[.int .u64 bk, .int .u64 bj, .slice bo bi.length bn], .string a1, .int .u64 a2, .int .u8 a3] w fun e w' => ∃ v2_ : Value, e = .returned (.tuple #[.agg #[.int .u64 r1, .int .u64 r2, v2_], .int .i64 r4]) ∧ Kd.S k84 84 w' w.heap.size (fun _ => True) v2_ r3 ∧ Below w.heap.size w w' := by
 have hT := Tryd.underlying57
 have bV := Aside0.mk dM
 have bW := Aside0.mk dO
 clear dM dO
 have HB := Aside0.mk (Below.refl w.heap.size w)
 have H : ((postroomref10_place.f k bk bj bi a1).bind fun ba => (if ba < 0 then (some (0, 0, ([] : List (S84)), 5)) else (if a3 = 97 then (postroomref10_Done.j0 k a1 a2 a3 ba false bk bj bi) else (postroomref10_Done.j0 k a1 a2 a3 ba (a3 != 114) bk bj bi)))) = some (r1, r2, r3, r4) := h
 clear h
 replace H := Option.bind_eq_some_iff.mp H
 obtain ⟨ba, A50, H⟩ := H
 replace H : (if ba < 0 then (some (0, 0, ([] : List (S84)), 5)) else (if a3 = 97 then (postroomref10_Done.j0 k a1 a2 a3 ba false bk bj bi) else (postroomref10_Done.j0 k a1 a2 a3 ba (a3 != 114) bk bj bi))) = some (r1, r2, r3, r4) := H
 have A5 := Aside0.mk A50
 clear A50
 by_cases c6 : ba < 0
 ·rw [if_pos c6] at H
  have d4 : decide (ba < 0) = true := decide_eq_true c6
  clear c6
  simp only [Option.some.injEq, Prod.mk.injEq] at H
  obtain ⟨rfl, rfl, rfl, rfl⟩ := H
  go_enter Tryd.func43, Tryd.ntmps43
  go_wp2_with (first | ((with_reducible refine gate_dst (N := 4) rfl ?_); refine box_event ?hg (N := 4) ?hd (cs := #[.int .u64 bk, .int .u64 bj, .slice bo bi.length bn]) (t := 57) ?hr ?_; (case hd => rfl); (case hg => rfl); (case hr => first | (go_simp; done) | (go_simp; rfl)); intro bf hg w7 hbox hb; have bc := Aside0.mk (hbox); have gb := Aside0.mk ((by rw [hg]; exact (below_size zx18_5) : w.heap.size ≤ bf)); have bz := Aside0.mk ((by rw [hg]; exact (below_size zx18_5) : w.heap.size ≤ bf)); replace HB := Aside0.mk (below_step zx18_5 hb); clear hb hbox hg) | ((with_reducible refine gate_dst (N := 8) rfl ?_); refine box_event ?hg (N := 8) ?hd (cs := #[.int .u64 0, .int .u64 0, .slice none 0 0]) (t := 57) ?hr ?_; (case hd => rfl); (case hg => rfl); (case hr => first | (go_simp; done) | (go_simp; rfl)); intro bh hg w8 hbox hb; have be := Aside0.mk (hbox); have ga := Aside0.mk ((by rw [hg]; exact (below_size zx18_3) : w.heap.size ≤ bh)); have bB := Aside0.mk ((by rw [hg]; exact (below_size zx18_3) : w.heap.size ≤ bh)); replace HB := Aside0.mk (below_step zx18_3 hb); have br := Aside0.mk ((by rw [hg]; exact Nat.ne_of_lt (blk_lt (g := bf) (o := .cells #[.int .u64 bk, .int .u64 bj, .slice bo bi.length bn] 57 (0, 0)) zx18_1) : bf ≠ bh)); have bq := Aside0.mk ((by rw [hg]; exact Nat.ne_of_gt (blk_lt (g := bf) (o := .cells #[.int .u64 bk, .int .u64 bj, .slice bo bi.length bn] 57 (0, 0)) zx18_1) : bh ≠ bf)); replace bc := Aside0.mk (blk_below (g := bf) (o := .cells #[.int .u64 bk, .int .u64 bj, .slice bo bi.length bn] 57 (0, 0)) zx18_1 hb); clear hb hbox hg; have hV := br.out; have hU := bq.out; have dG : w8.cell? ⟨bf, 0, none⟩ = some (.int .u64 bk) := (blk_cell bc.out 0).trans rfl; have dF : w8.cell? ⟨bf, 1, none⟩ = some (.int .u64 bj) := (blk_cell bc.out 1).trans rfl; have dE : w8.cell? ⟨bf, 2, none⟩ = some (.slice bo bi.length bn) := (blk_cell bc.out 2).trans rfl; have dx := blk_frozen bc.out 0; have dw := blk_frozen bc.out 1; have dv := blk_frozen bc.out 2) | ((with_reducible refine gate_callee (f := 46) rfl ?_); refine goesL_ (some 14) rfl rfl Tryd.func46 (by kernel_rfl) rfl #[.agg #[.int .u64 bk, .int .u64 bj, .slice bo bi.length bn], .string a1] rfl zx18_6 ?_; (with_reducible refine (postroomref10_place.calls k bk bj _ _ bi a1 ba _ ?side1 ?side2 A5.out).mono ?_); (case side1 => repeat (first | exact (Kd.C_below bV.out HB.out) | (with_reducible refine Kd.C_alloc ?_ _) | (with_reducible refine Kd.C_drewN ?_ _) | (with_reducible refine Kd.C_drew ?_))); (case side2 => exact bW.out); rintro e w11 ⟨rfl, hb⟩; refine ⟨_, rfl, ?_⟩; replace bc := Aside0.mk (blk_below (g := bf) (o := .cells #[.int .u64 bk, .int .u64 bj, .slice bo bi.length bn] 57 (0, 0)) zx18_1 hb); replace be := Aside0.mk (blk_below (g := bh) (o := .cells #[.int .u64 0, .int .u64 0, .slice none 0 0] 57 (0, 0)) zx18_4 hb); replace HB := Aside0.mk (below_step zx18_0 hb); (try clear hb); (try clear hb2); (try clear hk); (try clear hi); have dD : w11.cell? ⟨bh, 0, none⟩ = some (.int .u64 0) := (blk_cell be.out 0).trans rfl; have dC : w11.cell? ⟨bh, 1, none⟩ = some (.int .u64 0) := (blk_cell be.out 1).trans rfl; have dB : w11.cell? ⟨bh, 2, none⟩ = some (.slice none 0 0) := (blk_cell be.out 2).trans rfl; have du := blk_frozen be.out 0; have dt := blk_frozen be.out 1; have dr := blk_frozen be.out 2))
  refine bodyPost_ret (results_ct rfl _ _ bh 57 #[.int .u64 0, .int .u64 0, .slice none 0 0] (0, 0) _ rfl zx18_2 Tryd.underlying57 rfl (by kernel_rfl)) rfl ?_
  exact ⟨_, by first | rfl | (simp [errW_none, errW_some] <;> rfl) | (simp [*, errW_none, errW_some] <;> rfl), by first | exact Kd.S_nil _ _ _ _ _ | exact Kd.N_nil _ _ _ _ _ | exact Kd.V_nil _ _ _ _ _ | exact Kd.Q_nil _ _ _ _ _ | exact Kd.R_nil _ _ _ _ _, by repeat (first | (with_reducible first | exact HB.out | apply below_alloc | apply pw_below_drewN | apply below_drew1 | refine below_set ?_ bz.out | refine below_set ?_ bB.out) | exact HB.out)⟩
 rw [if_neg c6] at H
 have d4 : decide (ba < 0) = false := decide_eq_false c6
 clear c6
 have dY := Aside0.mk H
 clear H
 go_enter Tryd.func43, Tryd.ntmps43
 go_upto_region 4 with (first | ((with_reducible refine gate_dst (N := 4) rfl ?_); refine box_event ?hg (N := 4) ?hd (cs := #[.int .u64 bk, .int .u64 bj, .slice bo bi.length bn]) (t := 57) ?hr ?_; (case hd => rfl); (case hg => rfl); (case hr => first | (go_simp; done) | (go_simp; rfl)); intro bf hg w14 hbox hb; have bc := Aside0.mk (hbox); have gb := Aside0.mk ((by rw [hg]; exact (below_size zx18_5) : w.heap.size ≤ bf)); have bz := Aside0.mk ((by rw [hg]; exact (below_size zx18_5) : w.heap.size ≤ bf)); replace HB := Aside0.mk (below_step zx18_5 hb); clear hb hbox hg) | ((with_reducible refine gate_dst (N := 8) rfl ?_); refine box_event ?hg (N := 8) ?hd (cs := #[.int .u64 0, .int .u64 0, .slice none 0 0]) (t := 57) ?hr ?_; (case hd => rfl); (case hg => rfl); (case hr => first | (go_simp; done) | (go_simp; rfl)); intro bh hg w15 hbox hb; have be := Aside0.mk (hbox); have ga := Aside0.mk ((by rw [hg]; exact (below_size zx18_3) : w.heap.size ≤ bh)); have bB := Aside0.mk ((by rw [hg]; exact (below_size zx18_3) : w.heap.size ≤ bh)); replace HB := Aside0.mk (below_step zx18_3 hb); have br := Aside0.mk ((by rw [hg]; exact Nat.ne_of_lt (blk_lt (g := bf) (o := .cells #[.int .u64 bk, .int .u64 bj, .slice bo bi.length bn] 57 (0, 0)) zx18_1) : bf ≠ bh)); have bq := Aside0.mk ((by rw [hg]; exact Nat.ne_of_gt (blk_lt (g := bf) (o := .cells #[.int .u64 bk, .int .u64 bj, .slice bo bi.length bn] 57 (0, 0)) zx18_1) : bh ≠ bf)); replace bc := Aside0.mk (blk_below (g := bf) (o := .cells #[.int .u64 bk, .int .u64 bj, .slice bo bi.length bn] 57 (0, 0)) zx18_1 hb); clear hb hbox hg; have hJ := br.out; have hD := bq.out; have dA : w15.cell? ⟨bf, 0, none⟩ = some (.int .u64 bk) := (blk_cell bc.out 0).trans rfl; have dz : w15.cell? ⟨bf, 1, none⟩ = some (.int .u64 bj) := (blk_cell bc.out 1).trans rfl; have dy : w15.cell? ⟨bf, 2, none⟩ = some (.slice bo bi.length bn) := (blk_cell bc.out 2).trans rfl; have dq := blk_frozen bc.out 0; have dp := blk_frozen bc.out 1; have dn := blk_frozen bc.out 2) | ((with_reducible refine gate_callee (f := 46) rfl ?_); refine goesL_ (some 14) rfl rfl Tryd.func46 (by kernel_rfl) rfl #[.agg #[.int .u64 bk, .int .u64 bj, .slice bo bi.length bn], .string a1] rfl zx18_6 ?_; (with_reducible refine (postroomref10_place.calls k bk bj _ _ bi a1 ba _ ?side1 ?side2 A5.out).mono ?_); (case side1 => repeat (first | exact (Kd.C_below bV.out HB.out) | (with_reducible refine Kd.C_alloc ?_ _) | (with_reducible refine Kd.C_drewN ?_ _) | (with_reducible refine Kd.C_drew ?_))); (case side2 => exact bW.out); rintro e w18 ⟨rfl, hb⟩; refine ⟨_, rfl, ?_⟩; replace bc := Aside0.mk (blk_below (g := bf) (o := .cells #[.int .u64 bk, .int .u64 bj, .slice bo bi.length bn] 57 (0, 0)) zx18_1 hb); replace be := Aside0.mk (blk_below (g := bh) (o := .cells #[.int .u64 0, .int .u64 0, .slice none 0 0] 57 (0, 0)) zx18_4 hb); replace HB := Aside0.mk (below_step zx18_0 hb); (try clear hb); (try clear hb2); (try clear hk); (try clear hi)))
 (try simp only [Act.put, List.setIfInBounds_toArray, List.set_cons_zero, List.set_cons_succ])
 go_cut [23] (fun v23 wc => ∃ (kq : Nat) (bL : Bool), v23 = .bool bL ∧ Aside0 (postroomref10_Done.j0 kq a1 a2 a3 ba bL bk bj bi = some (r1, r2, r3, r4)) ∧ Aside0 (kq ≤ k) ∧ Aside0 (wc.heap[bf]? = some (.cells #[.int .u64 bk, .int .u64 bj, (.slice bo bi.length bn)] 57 (0, 0))) ∧ Aside0 (wc.heap[bh]? = some (.cells #[.int .u64 0, .int .u64 0, (.slice none 0 0)] 57 (0, 0))) ∧ Aside0 (Below w.heap.size w wc))
 case first =>
  have H := dY.out
  clear dY
  by_cases c19 : a3 = 97
  case neg =>
   rw [if_neg c19] at H
   have bI : (a3 == 97) = false := beq_eq_false_iff_ne.mpr c19
   have dQ : (a3 != 97) = true := bne_iff_ne.mpr c19
   (first | rw [bI] | (simp only [i64_w, i32_w]; rw [bI]) | skip)
   have H' := Aside0.mk H
   clear H
   go_wp2
   go_meet
   case rel => exact ⟨_, ((a3 != 114)), (by first | rfl | (simp; done) | (simp [*]; done)), H', ⟨by first | omega | exact Nat.le_refl _⟩, ⟨by (with_reducible repeat (first | refine blk_drewN ?_ _ | refine blk_drew ?_ | refine blk_alloc ?_ _)); exact bc.out⟩, ⟨by (with_reducible repeat (first | refine blk_drewN ?_ _ | refine blk_drew ?_ | refine blk_alloc ?_ _)); exact be.out⟩, ⟨by repeat (first | (with_reducible first | exact HB.out | apply below_alloc | apply pw_below_drewN | apply below_drew1 | refine below_set ?_ bz.out | refine below_set ?_ bB.out) | exact HB.out)⟩⟩
  rw [if_pos c19] at H
  have bI : (a3 == 97) = true := beq_iff_eq.mpr c19
  have dQ : (a3 != 97) = false := bne_eq_false_iff_eq.mpr c19
  clear c19
  (first | rw [bI] | (simp only [i64_w, i32_w]; rw [bI]) | skip)
  have H' := Aside0.mk H
  clear H
  go_wp2
  go_meet
  case rel => exact ⟨_, (false), (by first | rfl | (simp; done) | (simp [*]; done)), H', ⟨by first | omega | exact Nat.le_refl _⟩, ⟨by (with_reducible repeat (first | refine blk_drewN ?_ _ | refine blk_drew ?_ | refine blk_alloc ?_ _)); exact bc.out⟩, ⟨by (with_reducible repeat (first | refine blk_drewN ?_ _ | refine blk_drew ?_ | refine blk_alloc ?_ _)); exact be.out⟩, ⟨by repeat (first | (with_reducible first | exact HB.out | apply below_alloc | apply pw_below_drewN | apply below_drew1 | refine below_set ?_ bz.out | refine below_set ?_ bB.out) | exact HB.out)⟩⟩
 case rest =>
  clear dY
  (try clear c1); (try clear p2); (try clear c4); (try clear c6); (try clear d4); (try clear c9); (try clear c16); (try clear c19); (try clear bI); (try clear dQ); (try clear dG); (try clear dF); (try clear dE); (try clear dD); (try clear dC); (try clear dB); (try clear dA); (try clear dz); (try clear dy); (try clear dx); (try clear dw); (try clear dv); (try clear du); (try clear dt); (try clear dr); (try clear dq); (try clear dp); (try clear dn)
  obtain ⟨kq, bL, rfl, HA, hZ, bc, be, HB⟩ := hcut
  cases kq with
  | zero => exact absurd HA.out (by simp [postroomref10_Done.j0])
  | succ bX => ?_
  have H := HA.out
  clear HA
  simp only [postroomref10_Done.j0] at H
  by_cases c20 : bL = true
  ·subst c20
   have H1 : (some (0, 0, ([] : List (S84)), 1)) = some (r1, r2, r3, r4) := by rw [if_pos rfl] at H; exact H
   clear H
   have H := H1
   clear H1
   simp only [Option.some.injEq, Prod.mk.injEq] at H
   obtain ⟨rfl, rfl, rfl, rfl⟩ := H
   have hI := bq.out
   have hC := br.out
   obtain ⟨he, hc, ha, gE, gD, gC⟩ := cx18_bc3 be.out
   go_wp2
   refine bodyPost_ret (results_ct rfl _ _ bh 57 #[.int .u64 0, .int .u64 0, .slice none 0 0] (0, 0) _ rfl zx18_2 Tryd.underlying57 rfl (by kernel_rfl)) rfl ?_
   exact ⟨_, by first | rfl | (simp [errW_none, errW_some] <;> rfl) | (simp [*, errW_none, errW_some] <;> rfl), by first | exact Kd.S_nil _ _ _ _ _ | exact Kd.N_nil _ _ _ _ _ | exact Kd.V_nil _ _ _ _ _ | exact Kd.Q_nil _ _ _ _ _ | exact Kd.R_nil _ _ _ _ _, by repeat (first | (with_reducible first | exact HB.out | apply below_alloc | apply pw_below_drewN | apply below_drew1 | refine below_set ?_ bz.out | refine below_set ?_ bB.out) | exact HB.out)⟩
  replace c20 := Bool.eq_false_iff.mpr c20
  subst c20
  have H1 : ((postroomref10_Waits.f bX bk bj bi a1 a2).bind fun da => (if da = true then ((postroomref10_copied.f bX bk bj bi).bind fun bb => (if 0 ≤ ba then (if ba < (bb.2.2.length : Int) then (if 0 ≤ (IntKind.u64.wrap (a2 - ((rd_T84 bb.2.2 ba).f1))) then (if (IntKind.u64.wrap (a2 - ((rd_T84 bb.2.2 ba).f1))) < (((rd_T84 bb.2.2 ba).f2).length : Int) then (some (bb.1, bb.2.1, (bb.2.2.set (ba : Int).toNat (⟨(rd_T84 bb.2.2 ba).f0, (rd_T84 bb.2.2 ba).f1, (((rd_T84 bb.2.2 ba).f2).set ((IntKind.u64.wrap (a2 - ((rd_T84 bb.2.2 ba).f1))) : Int).toNat a3)⟩ : S84)), 0)) else (none)) else (none)) else (none)) else (none))) else (some (0, 0, ([] : List (S84)), 13)))) = some (r1, r2, r3, r4) := by rw [if_neg (show ¬ (false = true) by decide)] at H; exact H
  clear H
  have H := H1
  clear H1
  replace H := Option.bind_eq_some_iff.mp H
  obtain ⟨da, ge, H⟩ := H
  replace H : (if da = true then ((postroomref10_copied.f bX bk bj bi).bind fun bb => (if 0 ≤ ba then (if ba < (bb.2.2.length : Int) then (if 0 ≤ (IntKind.u64.wrap (a2 - ((rd_T84 bb.2.2 ba).f1))) then (if (IntKind.u64.wrap (a2 - ((rd_T84 bb.2.2 ba).f1))) < (((rd_T84 bb.2.2 ba).f2).length : Int) then (some (bb.1, bb.2.1, (bb.2.2.set (ba : Int).toNat (⟨(rd_T84 bb.2.2 ba).f0, (rd_T84 bb.2.2 ba).f1, (((rd_T84 bb.2.2 ba).f2).set ((IntKind.u64.wrap (a2 - ((rd_T84 bb.2.2 ba).f1))) : Int).toNat a3)⟩ : S84)), 0)) else (none)) else (none)) else (none)) else (none))) else (some (0, 0, ([] : List (S84)), 13))) = some (r1, r2, r3, r4) := H
  have A23 := Aside0.mk ge
  clear ge
  by_cases c24 : da = true
  case neg =>
   replace c24 := Bool.eq_false_iff.mpr c24
   subst c24
   have H1 : (some (0, 0, ([] : List (S84)), 13)) = some (r1, r2, r3, r4) := by rw [if_neg (show ¬ (false = true) by decide)] at H; exact H
   clear H
   have H := H1
   clear H1
   simp only [Option.some.injEq, Prod.mk.injEq] at H
   obtain ⟨rfl, rfl, rfl, rfl⟩ := H
   have hE := br.out
   have hy := bq.out
   obtain ⟨gK, gJ, gI, gm, gl, gk⟩ := cx18_bc3 bc.out
   go_wp2_with (first | ((with_reducible refine gate_callee (f := 29) rfl ?_); refine goesL_ (some 28) rfl rfl Tryd.func29 (by kernel_rfl) rfl #[.agg #[.int .u64 bk, .int .u64 bj, .slice bo bi.length bn], .string a1, .int .u64 a2] rfl zx18_6 ?_; (with_reducible refine (postroomref10_Waits.calls bX bk bj _ _ bi a1 a2 false _ ?side1 ?side2 A23.out).mono ?_); (case side1 => repeat (first | exact (Kd.C_below bV.out HB.out) | (with_reducible refine Kd.C_alloc ?_ _) | (with_reducible refine Kd.C_drewN ?_ _) | (with_reducible refine Kd.C_drew ?_))); (case side2 => exact bW.out); rintro e w51 ⟨rfl, hb⟩; refine ⟨_, rfl, ?_⟩; replace bc := Aside0.mk (blk_below (g := bf) (o := .cells #[.int .u64 bk, .int .u64 bj, .slice bo bi.length bn] 57 (0, 0)) zx18_1 hb); replace be := Aside0.mk (blk_below (g := bh) (o := .cells #[.int .u64 0, .int .u64 0, .slice none 0 0] 57 (0, 0)) zx18_4 hb); replace HB := Aside0.mk (below_step zx18_0 hb); (try clear hb); (try clear hb2); (try clear hk); (try clear hi); have gH : w51.cell? ⟨bh, 0, none⟩ = some (.int .u64 0) := (blk_cell be.out 0).trans rfl; have gG : w51.cell? ⟨bh, 1, none⟩ = some (.int .u64 0) := (blk_cell be.out 1).trans rfl; have gF : w51.cell? ⟨bh, 2, none⟩ = some (.slice none 0 0) := (blk_cell be.out 2).trans rfl; have gj := blk_frozen be.out 0; have gi := blk_frozen be.out 1; have gh := blk_frozen be.out 2))
   refine bodyPost_ret (results_ct rfl _ _ bh 57 #[.int .u64 0, .int .u64 0, .slice none 0 0] (0, 0) _ rfl zx18_2 Tryd.underlying57 rfl (by kernel_rfl)) rfl ?_
   exact ⟨_, by first | rfl | (simp [errW_none, errW_some] <;> rfl) | (simp [*, errW_none, errW_some] <;> rfl), by first | exact Kd.S_nil _ _ _ _ _ | exact Kd.N_nil _ _ _ _ _ | exact Kd.V_nil _ _ _ _ _ | exact Kd.Q_nil _ _ _ _ _ | exact Kd.R_nil _ _ _ _ _, by repeat (first | (with_reducible first | exact HB.out | apply below_alloc | apply pw_below_drewN | apply below_drew1 | refine below_set ?_ bz.out | refine below_set ?_ bB.out) | exact HB.out)⟩

  subst c24
  have H1 : ((postroomref10_copied.f bX bk bj bi).bind fun bb => (if 0 ≤ ba then (if ba < (bb.2.2.length : Int) then (if 0 ≤ (IntKind.u64.wrap (a2 - ((rd_T84 bb.2.2 ba).f1))) then (if (IntKind.u64.wrap (a2 - ((rd_T84 bb.2.2 ba).f1))) < (((rd_T84 bb.2.2 ba).f2).length : Int) then (some (bb.1, bb.2.1, (bb.2.2.set (ba : Int).toNat (⟨(rd_T84 bb.2.2 ba).f0, (rd_T84 bb.2.2 ba).f1, (((rd_T84 bb.2.2 ba).f2).set ((IntKind.u64.wrap (a2 - ((rd_T84 bb.2.2 ba).f1))) : Int).toNat a3)⟩ : S84)), 0)) else (none)) else (none)) else (none)) else (none))) = some (r1, r2, r3, r4) := by rw [if_pos rfl] at H; exact H
  clear H
  have H := H1
  clear H1
  replace H := Option.bind_eq_some_iff.mp H
  obtain ⟨⟨bu, bw, bd⟩, gc, H⟩ := H
  replace H : (if 0 ≤ ba then (if ba < (bd.length : Int) then (if 0 ≤ (IntKind.u64.wrap (a2 - ((rd_T84 bd ba).f1))) then (if (IntKind.u64.wrap (a2 - ((rd_T84 bd ba).f1))) < (((rd_T84 bd ba).f2).length : Int) then (some (bu, bw, (bd.set (ba : Int).toNat (⟨(rd_T84 bd ba).f0, (rd_T84 bd ba).f1, (((rd_T84 bd ba).f2).set ((IntKind.u64.wrap (a2 - ((rd_T84 bd ba).f1))) : Int).toNat a3)⟩ : S84)), 0)) else (none)) else (none)) else (none)) else (none)) = some (r1, r2, r3, r4) := H
  have A25 := Aside0.mk gc
  clear gc
  by_cases c26 : 0 ≤ ba
  case neg =>
   rw [if_neg c26] at H
   exact absurd H (by simp)
  rw [if_pos c26] at H
  have hQ : decide (0 ≤ ba) = true := decide_eq_true c26
  clear c26
  by_cases c27 : ba < (bd.length : Int)
  case neg =>
   rw [if_neg c27] at H
   exact absurd H (by simp)
  rw [if_pos c27] at H
  have hP : decide (ba < (bd.length : Int)) = true := decide_eq_true c27
  clear c27
  obtain ⟨bx, bS⟩ : ∃ j_ : Int, (IntKind.u64.wrap (a2 - ((rd_T84 bd ba).f1))) = j_ := ⟨_, rfl⟩
  replace H : (if 0 ≤ (bx) then (if (bx) < (((rd_T84 bd ba).f2).length : Int) then (some (bu, bw, (bd.set (ba : Int).toNat (⟨(rd_T84 bd ba).f0, (rd_T84 bd ba).f1, (((rd_T84 bd ba).f2).set ((bx) : Int).toNat a3)⟩ : S84)), 0)) else (none)) else (none)) = some (r1, r2, r3, r4) := by first | (rw [bS] at H; exact H) | (simp only [bS] at H ⊢; exact H)
  (try rw [bS] at A23)
  (try rw [bS] at A25)
  by_cases c29 : 0 ≤ (bx)
  case neg =>
   rw [if_neg c29] at H
   exact absurd H (by simp)
  rw [if_pos c29] at H
  have hO : decide (0 ≤ (bx)) = true := decide_eq_true c29
  clear c29
  by_cases c30 : (bx) < (((rd_T84 bd ba).f2).length : Int)
  case neg =>
   rw [if_neg c30] at H
   exact absurd H (by simp)
  rw [if_pos c30] at H
  have hN : decide ((bx) < (((rd_T84 bd ba).f2).length : Int)) = true := decide_eq_true c30
  clear c30
  obtain ⟨dh, bR⟩ : ∃ y_ : List Int, y_ = (((rd_T84 bd ba).f2).set ((bx) : Int).toNat a3) := ⟨_, rfl⟩
  replace H : (some (bu, bw, (bd.set (ba : Int).toNat (⟨(rd_T84 bd ba).f0, (rd_T84 bd ba).f1, dh⟩ : S84)), 0)) = some (r1, r2, r3, r4) := by first | (rw [bR]; with_reducible exact H) | (have H2_ := (Option.bind_some _ _).symm.trans H; rw [bR]; with_reducible exact H2_) | (have H2_ := (Option.bind_some _ _).symm.trans H; with_reducible exact H2_) | with_reducible exact H | (rw [bR]; exact H) | exact H
  have d7 := Aside0.mk bR
  clear bR
  obtain ⟨dZ, bQ⟩ : ∃ y_ : List (S84), y_ = (bd.set (ba : Int).toNat (⟨(rd_T84 bd ba).f0, (rd_T84 bd ba).f1, dh⟩ : S84)) := ⟨_, rfl⟩
  replace H : (some (bu, bw, dZ, 0)) = some (r1, r2, r3, r4) := by first | (rw [bQ]; with_reducible exact H) | (have H2_ := (Option.bind_some _ _).symm.trans H; rw [bQ]; with_reducible exact H2_) | (have H2_ := (Option.bind_some _ _).symm.trans H; with_reducible exact H2_) | with_reducible exact H | (rw [bQ]; exact H) | exact H
  have d6 := Aside0.mk bQ
  clear bQ
  simp only [Option.some.injEq, Prod.mk.injEq] at H
  obtain ⟨rfl, rfl, rfl, rfl⟩ := H
  have hH := br.out
  have hB := bq.out
  obtain ⟨gZ, gY, gX, gB, gA, gz⟩ := cx18_bc3 bc.out
  try go_wp2_with (first | ((with_reducible refine gate_callee (f := 29) rfl ?_); refine goesL_ (some 28) rfl rfl Tryd.func29 (by kernel_rfl) rfl #[.agg #[.int .u64 bk, .int .u64 bj, .slice bo bi.length bn], .string a1, .int .u64 a2] rfl zx18_6 ?_; (with_reducible refine (postroomref10_Waits.calls bX bk bj _ _ bi a1 a2 true _ ?side1 ?side2 A23.out).mono ?_); (case side1 => repeat (first | exact (Kd.C_below bV.out HB.out) | (with_reducible refine Kd.C_alloc ?_ _) | (with_reducible refine Kd.C_drewN ?_ _) | (with_reducible refine Kd.C_drew ?_))); (case side2 => exact bW.out); rintro e w34 ⟨rfl, hb⟩; refine ⟨_, rfl, ?_⟩; replace bc := Aside0.mk (blk_below (g := bf) (o := .cells #[.int .u64 bk, .int .u64 bj, .slice bo bi.length bn] 57 (0, 0)) zx18_1 hb); replace be := Aside0.mk (blk_below (g := bh) (o := .cells #[.int .u64 0, .int .u64 0, .slice none 0 0] 57 (0, 0)) zx18_4 hb); replace HB := Aside0.mk (below_step zx18_0 hb); (try clear hb); (try clear hb2); (try clear hk); (try clear hi); have gW : w34.cell? ⟨bf, 0, none⟩ = some (.int .u64 bk) := (blk_cell bc.out 0).trans rfl; have gV : w34.cell? ⟨bf, 1, none⟩ = some (.int .u64 bj) := (blk_cell bc.out 1).trans rfl; have gU : w34.cell? ⟨bf, 2, none⟩ = some (.slice bo bi.length bn) := (blk_cell bc.out 2).trans rfl; have gy := blk_frozen bc.out 0; have gx := blk_frozen bc.out 1; have gw := blk_frozen bc.out 2) | ((with_reducible refine gate_callee (f := 53) rfl ?_); refine goesL_ (some 32) rfl rfl Tryd.func53 (by kernel_rfl) rfl #[.agg #[.int .u64 bk, .int .u64 bj, .slice bo bi.length bn]] rfl zx18_6 ?_; (with_reducible refine (postroomref10_copied.calls bX bk bj _ _ bi bu bw bd _ ?side1 ?side2 A25.out).mono ?_); (case side1 => repeat (first | exact (Kd.C_below bV.out HB.out) | (with_reducible refine Kd.C_alloc ?_ _) | (with_reducible refine Kd.C_drewN ?_ _) | (with_reducible refine Kd.C_drew ?_))); (case side2 => exact bW.out); rintro e w36 ⟨hS, rfl, ho0, hb⟩; refine ⟨_, rfl, ?_⟩; have bm := Aside0.mk (Kd.S_lower ho0 (below_size zx18_0)); replace bc := Aside0.mk (blk_below (g := bf) (o := .cells #[.int .u64 bk, .int .u64 bj, .slice bo bi.length bn] 57 (0, 0)) zx18_1 hb); replace be := Aside0.mk (blk_below (g := bh) (o := .cells #[.int .u64 0, .int .u64 0, .slice none 0 0] 57 (0, 0)) zx18_4 hb); replace HB := Aside0.mk (below_step zx18_0 hb); (try clear hb); (try clear hb2); (try clear hk); (try clear hi); (try clear ho0)) | ((with_reducible refine gate_dst (N := 11) rfl ?_); refine box_event ?hg (N := 11) ?hd (cs := #[.int .u64 0, .int .u64 0, .slice none 0 0]) (t := 57) ?hr ?_; (case hd => rfl); (case hg => rfl); (case hr => first | (go_simp; done) | (go_simp; rfl)); intro bg hg w37 hbox hb; replace bm := Aside0.mk (Kd.S_below (by (with_reducible repeat (first | apply Kd.S_alloc | apply Kd.S_drewN | apply Kd.S_drew)); exact bm.out) hb); have bl := Aside0.mk (hbox); have hR := Aside0.mk ((by rw [hg]; exact (below_size zx18_0) : w.heap.size ≤ bg)); have dg := Aside0.mk ((by rw [hg]; exact (below_size zx18_0) : w.heap.size ≤ bg)); replace HB := Aside0.mk (below_step zx18_0 hb); have bK := Aside0.mk ((by rw [hg]; exact Nat.ne_of_lt (blk_lt (g := bf) (o := .cells #[.int .u64 bk, .int .u64 bj, .slice bo bi.length bn] 57 (0, 0)) zx18_1) : bf ≠ bg)); have dc := Aside0.mk ((by rw [hg]; exact Nat.ne_of_gt (blk_lt (g := bf) (o := .cells #[.int .u64 bk, .int .u64 bj, .slice bo bi.length bn] 57 (0, 0)) zx18_1) : bg ≠ bf)); replace bc := Aside0.mk (blk_below (g := bf) (o := .cells #[.int .u64 bk, .int .u64 bj, .slice bo bi.length bn] 57 (0, 0)) zx18_1 hb); have bJ := Aside0.mk ((by rw [hg]; exact Nat.ne_of_lt (blk_lt (g := bh) (o := .cells #[.int .u64 0, .int .u64 0, .slice none 0 0] 57 (0, 0)) zx18_4) : bh ≠ bg)); have db := Aside0.mk ((by rw [hg]; exact Nat.ne_of_gt (blk_lt (g := bh) (o := .cells #[.int .u64 0, .int .u64 0, .slice none 0 0] 57 (0, 0)) zx18_4) : bg ≠ bh)); replace be := Aside0.mk (blk_below (g := bh) (o := .cells #[.int .u64 0, .int .u64 0, .slice none 0 0] 57 (0, 0)) zx18_4 hb); clear hb hbox hg; have hG := dc.out; have hA := bK.out; have hF := db.out; have hz := bJ.out; have gT : w37.cell? ⟨bg, 0, none⟩ = some (.int .u64 0) := (blk_cell bl.out 0).trans rfl; have gS : w37.cell? ⟨bg, 1, none⟩ = some (.int .u64 0) := (blk_cell bl.out 1).trans rfl; have gR : w37.cell? ⟨bg, 2, none⟩ = some (.slice none 0 0) := (blk_cell bl.out 2).trans rfl; have gv := blk_frozen bl.out 0; have gu := blk_frozen bl.out 1; have gt := blk_frozen bl.out 2; obtain ⟨bP, bH, ho⟩ := Kd.S_slice bm.out; subst ho))
  have n0_ : Aside0 (Kd.S k84 84 (((w37.setCell ⟨bg, 0, none⟩ (.int .u64 bu)).setCell ⟨bg, 1, none⟩ (.int .u64 bw)).setCell ⟨bg, 2, none⟩ (.slice bP bd.length bH)) w.heap.size (fun _ => True) (.slice bP bd.length bH) bd) := ⟨by (with_reducible repeat (first | apply Kd.S_alloc | apply Kd.S_drewN | apply Kd.S_drew)); exact Kd.S_mono (Kd.S_far (p := ⟨bg, 2, none⟩) (Kd.S_far (p := ⟨bg, 1, none⟩) (Kd.S_far (p := ⟨bg, 0, none⟩) (Kd.S_types bm.out bl.out (by decide)) (fun _ hk => hk.2) (.int .u64 bu)) (fun _ hk => hk.2) (.int .u64 bw)) (fun _ hk => hk.2) (.slice bP bd.length bH)) (fun _ hk => trivial)⟩
  have n1_ : Aside0 ((((w37.setCell ⟨bg, 0, none⟩ (.int .u64 bu)).setCell ⟨bg, 1, none⟩ (.int .u64 bw)).setCell ⟨bg, 2, none⟩ (.slice bP bd.length bH)).heap[bf]? = some (.cells #[.int .u64 bk, .int .u64 bj, .slice bo bi.length bn] 57 (0, 0))) := ⟨by (iterate 3 ((with_reducible repeat (first | refine blk_drewN ?_ _ | refine blk_drew ?_ | refine blk_alloc ?_ _)); refine blk_far ?_ bK.out _)); (with_reducible repeat (first | refine blk_drewN ?_ _ | refine blk_drew ?_ | refine blk_alloc ?_ _)); exact bc.out⟩
  have n2_ : Aside0 ((((w37.setCell ⟨bg, 0, none⟩ (.int .u64 bu)).setCell ⟨bg, 1, none⟩ (.int .u64 bw)).setCell ⟨bg, 2, none⟩ (.slice bP bd.length bH)).heap[bh]? = some (.cells #[.int .u64 0, .int .u64 0, .slice none 0 0] 57 (0, 0))) := ⟨by (iterate 3 ((with_reducible repeat (first | refine blk_drewN ?_ _ | refine blk_drew ?_ | refine blk_alloc ?_ _)); refine blk_far ?_ bJ.out _)); (with_reducible repeat (first | refine blk_drewN ?_ _ | refine blk_drew ?_ | refine blk_alloc ?_ _)); exact be.out⟩
  have n3_ : Aside0 ((((w37.setCell ⟨bg, 0, none⟩ (.int .u64 bu)).setCell ⟨bg, 1, none⟩ (.int .u64 bw)).setCell ⟨bg, 2, none⟩ (.slice bP bd.length bH)).heap[bg]? = some (.cells #[.int .u64 bu, .int .u64 bw, .slice bP bd.length bH] 57 (0, 0))) := ⟨by (with_reducible repeat (first | refine blk_drewN ?_ _ | refine blk_drew ?_ | refine blk_alloc ?_ _)); refine blk_put (cs := #[.int .u64 bu, .int .u64 bw, .slice none 0 0]) ?_ 2 _ rfl; (with_reducible repeat (first | refine blk_drewN ?_ _ | refine blk_drew ?_ | refine blk_alloc ?_ _)); refine blk_put (cs := #[.int .u64 bu, .int .u64 0, .slice none 0 0]) ?_ 1 _ rfl; (with_reducible repeat (first | refine blk_drewN ?_ _ | refine blk_drew ?_ | refine blk_alloc ?_ _)); refine blk_put (cs := #[.int .u64 0, .int .u64 0, .slice none 0 0]) ?_ 0 _ rfl; (with_reducible repeat (first | refine blk_drewN ?_ _ | refine blk_drew ?_ | refine blk_alloc ?_ _)); exact bl.out⟩
  have n4_ : Aside0 (Below w.heap.size w (((w37.setCell ⟨bg, 0, none⟩ (.int .u64 bu)).setCell ⟨bg, 1, none⟩ (.int .u64 bw)).setCell ⟨bg, 2, none⟩ (.slice bP bd.length bH))) := ⟨by repeat (first | (with_reducible first | exact HB.out | apply below_alloc | apply pw_below_drewN | apply below_drew1 | refine below_set ?_ bz.out | refine below_set ?_ bB.out | refine below_set ?_ dg.out) | exact HB.out)⟩
  (try clear bm)
  (try clear bc)
  (try clear be)
  (try clear bl)
  (try clear HB)
  generalize (((w37.setCell ⟨bg, 0, none⟩ (.int .u64 bu)).setCell ⟨bg, 1, none⟩ (.int .u64 bw)).setCell ⟨bg, 2, none⟩ (.slice bP bd.length bH)) = w42 at n0_ n1_ n2_ n3_ n4_ ⊢
  have bm := n0_
  have bc := n1_
  have be := n2_
  have bl := n3_
  have HB := n4_
  clear n0_ n1_ n2_ n3_ n4_
  replace bm := Aside0.mk (Kd.S_drew bm.out)
  replace bc := Aside0.mk (blk_drew bc.out)
  replace be := Aside0.mk (blk_drew be.out)
  replace bl := Aside0.mk (blk_drew bl.out)
  replace HB := Aside0.mk (below_drew1 HB.out)
  have dl : 0 ≤ (ba : Int) := of_decide_eq_true zx18_7
  have dj : ba < (bd.length : Int) := of_decide_eq_true zx18_7
  obtain ⟨bp, hw, df, hq, b4, b3, bD, b6, b8⟩ := at_T84 (Kd.S_reads' bm.out).2.2 ba dl dj
  cases hq
  obtain ⟨hM, dU, dW, de⟩ := Kd.S_get bm.out z84 ba dl (by first | exact dj | exact of_decide_eq_true zx18_7 | (have e_ := (Kd.S_reads' bm.out).1; omega))
  obtain ⟨gg, rfl, bO⟩ := k84_openM dW
  have bG := de 2 _ rfl
  rw [add_field _ _ 2 (by omega)] at bG
  replace bG := Option.some.inj (bG.symm.trans bD)
  rw [bG] at bO
  have bA := Aside0.mk (show Kd.R (Kd.int .u8) 5 _ _ _ _ ((rd_T84 bd ba).f2) from bO)
  clear bG bO
  have b9 := Aside0.mk bD
  clear de dU
  have dJ := Aside0.mk b8
  have hh := Aside0.mk b6
  clear b8 b6
  replace dl := eq_true dl
  replace dj := eq_true dj
  have dk : 0 ≤ (ba : Int) := of_decide_eq_true zx18_7
  have di : ba < (bd.length : Int) := of_decide_eq_true zx18_7
  obtain ⟨d5, hv, hs, hp, b2, b1, bC, b5, b7⟩ := at_T84 (Kd.S_reads' bm.out).2.2 ba dk di
  obtain rfl : bp = d5 := (by injection hp)
  obtain ⟨hL, dT, dV, dd⟩ := Kd.S_get bm.out z84 ba dk (by first | exact di | exact of_decide_eq_true zx18_7 | (have e_ := (Kd.S_reads' bm.out).1; omega))
  obtain ⟨gf, rfl, bN⟩ := k84_openM dV
  have bE := dd 2 _ rfl
  rw [add_field _ _ 2 (by omega)] at bE
  replace bE := Option.some.inj (bE.symm.trans bC)
  rw [bE] at bN
  have dL := Aside0.mk (show Kd.R (Kd.int .u8) 5 _ _ _ _ ((rd_T84 bd ba).f2) from bN)
  clear bE bN
  have dH := Aside0.mk bC
  clear dd dT
  have dI := Aside0.mk b7
  have hf := Aside0.mk b5
  clear b7 b5
  replace dk := eq_true dk
  replace di := eq_true di
  have ea_ := Option.some.inj (bD.symm.trans bC)
  injection ea_ with ea_ en_ ec_
  subst ea_
  subst ec_
  clear en_
  have p31 : 0 ≤ ((bx) : Int) := of_decide_eq_true zx18_7
  have q31 : ((bx) : Int) < ((((rd_T84 bd ba).f2).length : Int) : Int) := of_decide_eq_true zx18_7
  obtain ⟨bU, hW, d3, d2, hn, hX, d9⟩ := Kd.R_form bA.out (by omega)
  (first | cases d3 | (injection d3 with ea_ en_ ec_; (first | subst ea_ | (injection ea_ with ea_; subst ea_)); subst ec_; clear en_))
  have hu := Aside0.mk d2
  have ht := Aside0.mk d9
  clear d2 hn d9
  obtain ⟨dR, dS⟩ := Kd.R_celln 0 bA.out ((bx) : Int) p31 q31
  replace p31 := eq_true p31
  replace q31 := eq_true q31
  have hl : (ba : Int) < (bd.length : Int) := (by have h_ : (ba : Int) < ((bd.length : Int) : Int) := of_decide_eq_true zx18_7; first | exact h_ | (have e_ := (Kd.S_reads' bm.out).1; omega) | simpa only [List.length_set, List.length_set] using h_)
  obtain ⟨hx, hY, d1, hm, dN, d0, dP⟩ := Kd.S_borrow bm.out z84 (ba : Int) (of_decide_eq_true zx18_7) hl
  obtain ⟨hj, rfl, bM⟩ := k84_openM hm
  have dm := dN 2 _ rfl
  rw [add_field _ _ 2 (by omega)] at dm
  replace dm := Option.some.inj (dm.symm.trans b9.out)
  subst dm
  clear dN d1
  replace bM := (show Kd.R (Kd.int .u8) 5 _ _ _ _ ((rd_T84 bd ba).f2) from bM)
  have dK := Kd.R_putg bM ((bx) : Int) a3
  rw [← d7.out] at dK
  have dX := dP dK.2 (fun k_ e_ => by injection e_ with e_; subst e_; exact bM.1 _ rfl) (x' := (⟨(rd_T84 bd ba).f0, (rd_T84 bd ba).f1, dh⟩ : S84)) (k84_mkM _ _ _ (⟨(rd_T84 bd ba).f0, (rd_T84 bd ba).f1, dh⟩ : S84) dK.1)
  rw [← d6.out] at dX
  have d8 := Aside0.mk dX
  clear dK dX dP d0
  refine start_ (n := 17) (S := fun w' => w'.cell? ⟨bg, 0, none⟩ = some (.int .u64 bu) ∧ w'.cell? ⟨bg, 1, none⟩ = some (.int .u64 bw) ∧ w'.cell? ⟨bg, 2, none⟩ = some (.slice (some bp) bd.length bH) ∧ w'.cell? (bp.add ((ba).toNat * 3)) = some (.string ((rd_T84 bd ba).f0)) ∧ w'.cell? ⟨(bp.add ((ba).toNat * 3)).block, (bp.add ((ba).toNat * 3)).off + 1, none⟩ = some (.int .u64 ((rd_T84 bd ba).f1)) ∧ w'.cell? ⟨(bp.add ((ba).toNat * 3)).block, (bp.add ((ba).toNat * 3)).off + 2, none⟩ = some (.slice (some ⟨bU, 0, none⟩) ((rd_T84 bd ba).f2).length df) ∧ w'.cell? (bp.add ((ba).toNat * 3)) = some (.string ((rd_T84 bd ba).f0)) ∧ w'.cell? ⟨(bp.add ((ba).toNat * 3)).block, (bp.add ((ba).toNat * 3)).off + 1, none⟩ = some (.int .u64 ((rd_T84 bd ba).f1)) ∧ w'.cell? ⟨(bp.add ((ba).toNat * 3)).block, (bp.add ((ba).toNat * 3)).off + 2, none⟩ = some (.slice (some ⟨bU, 0, none⟩) ((rd_T84 bd ba).f2).length df)) (ds := [16]) #[Ff,Ff,Ff,Ff,Ff,Ff,Ff,Ff,Ff,Ff,Ff,Ff,Ff,Ff,Ff,Ff,Ff] (by kernel_rfl) rfl rfl ⟨(blk_cell bl.out 0).trans rfl, (blk_cell bl.out 1).trans rfl, (blk_cell bl.out 2).trans rfl, b4, b3, bD, b2, b1, bC⟩ (fun hHeld => ?_); refine with_tabW postroomref10_Done.tab9 postroomref10_Done.bits9 (fun HT_ HW_ => ?_)
  generalize w42.drew = w43 at bm bc be bl HB ht bA dL d8 dJ dI b9 dH dS b4 b3 bD b2 b1 bC dR hHeld ⊢
  refine pp_ 0 (some 33) HT_.out ?_
  refine pp_ 2 (some 35) HT_.out ?_
  refine pp_ 6 (some 39) HT_.out ?_
  refine pp_ 7 (some 40) HT_.out ?_
  refine pp_ 9 (some 42) HT_.out ?_
  refine pp_ 14 (some 47) HT_.out ?_
  refine take_ (i := 1) (N := some 34) (v := ?_) (a' := ?_) #[Tt,Tt,Tt,Ff,Ff,Ff,Tt,Tt,Ff,Tt,Ff,Ff,Ff,Ff,Tt,Ff,Ff] rfl rfl (take_ofW HT_.out HW_.out (by kernel_rfl)) (fun _ _ _ h => h) (Or.inl ⟨by rfl, ?_⟩) hHeld ?_ ?_
  rotate_left
  ·rintro w' ⟨s0, s1, s2, s3, s4, s5, s6, s7, s8⟩
   go_simp
   with_reducible rfl
  rotate_left
  ·simp only [Act.put, List.setIfInBounds_toArray, List.set_cons_zero, List.set_cons_succ, i64_w, i32_w]
   rfl
  refine pp_ 3 (some 36) HT_.out ?_
  refine pp_ 4 (some 37) HT_.out ?_
  refine take_ (i := 5) (N := some 38) (v := ?_) (a' := ?_) #[Tt,Tt,Tt,Tt,Tt,Tt,Tt,Tt,Ff,Tt,Ff,Ff,Ff,Ff,Tt,Ff,Ff] rfl rfl (take_ofW HT_.out HW_.out (by kernel_rfl)) (fun _ _ _ h => h) (Or.inl ⟨by rfl, ?_⟩) hHeld ?_ ?_
  rotate_left
  ·rintro w' ⟨s0, s1, s2, s3, s4, s5, s6, s7, s8⟩
   go_simp
   with_reducible rfl
  rotate_left
  ·simp only [Act.put, List.setIfInBounds_toArray, List.set_cons_zero, List.set_cons_succ, i64_w, i32_w]
   rfl
  refine take_ (i := 8) (N := some 41) (v := ?_) (a' := ?_) #[Tt,Tt,Tt,Tt,Tt,Tt,Tt,Tt,Tt,Tt,Ff,Ff,Ff,Ff,Tt,Ff,Ff] rfl rfl (take_ofW HT_.out HW_.out (by kernel_rfl)) (fun _ _ _ h => h) (Or.inl ⟨by rfl, ?_⟩) hHeld ?_ ?_
  rotate_left
  ·rintro w' ⟨s0, s1, s2, s3, s4, s5, s6, s7, s8⟩
   go_simp
   with_reducible rfl
  rotate_left
  ·simp only [Act.put, List.setIfInBounds_toArray, List.set_cons_zero, List.set_cons_succ, i64_w, i32_w]
   rfl
  refine pp_ 10 (some 43) HT_.out ?_
  refine pp_ 11 (some 44) HT_.out ?_
  refine take_ (i := 12) (N := some 45) (v := ?_) (a' := ?_) #[Tt,Tt,Tt,Tt,Tt,Tt,Tt,Tt,Tt,Tt,Tt,Tt,Tt,Ff,Tt,Ff,Ff] rfl rfl (take_ofW HT_.out HW_.out (by kernel_rfl)) (fun _ _ _ h => h) (Or.inl ⟨by rfl, ?_⟩) hHeld ?_ ?_
  rotate_left
  ·rintro w' ⟨s0, s1, s2, s3, s4, s5, s6, s7, s8⟩
   go_simp
   with_reducible rfl
  rotate_left
  ·simp only [Act.put, List.setIfInBounds_toArray, List.set_cons_zero, List.set_cons_succ, i64_w, i32_w]
   rfl
  refine pp_ 13 (some 46) HT_.out ?_
  refine pp_ 15 (some 48) HT_.out ?_
  refine last_ (i := 16) (N := none) #[Tt,Tt,Tt,Tt,Tt,Tt,Tt,Tt,Tt,Tt,Tt,Tt,Tt,Tt,Tt,Tt,Tt] rfl rfl (one_of HT_.out (by kernel_rfl)) (by decide) (fun K hK => ?_)
  refine skip_ (w1 := ?_) (by rfl) rfl ?_ ?_
  rotate_left
  ·go_simp
   rfl
  refine hK.out _ _ ?_
  clear hK K
  refine done_ (done_of HT_.out (by kernel_rfl)) ?_
  have n0_ : Aside0 (Kd.S k84 84 (w43.setCell ⟨bU, ((bx) : Int).toNat, none⟩ (.int .u8 a3)) w.heap.size (fun _ => True) (.slice (some bp) bd.length bH) dZ) := ⟨by (with_reducible repeat (first | apply Kd.S_alloc | apply Kd.S_drewN | apply Kd.S_drew)); exact d8.out⟩
  have n1_ : Aside0 ((w43.setCell ⟨bU, ((bx) : Int).toNat, none⟩ (.int .u8 a3)).heap[bf]? = some (.cells #[.int .u64 bk, .int .u64 bj, .slice bo bi.length bn] 57 (0, 0))) := ⟨by (with_reducible repeat (first | refine blk_drewN ?_ _ | refine blk_drew ?_ | refine blk_alloc ?_ _)); refine blk_far ?_ (by have h_ := Kd.R_ne bA.out bc.out (by decide); intro e_; exact h_ (by rw [e_]; rfl)) _; (with_reducible repeat (first | refine blk_drewN ?_ _ | refine blk_drew ?_ | refine blk_alloc ?_ _)); exact bc.out⟩
  have n2_ : Aside0 ((w43.setCell ⟨bU, ((bx) : Int).toNat, none⟩ (.int .u8 a3)).heap[bh]? = some (.cells #[.int .u64 0, .int .u64 0, .slice none 0 0] 57 (0, 0))) := ⟨by (with_reducible repeat (first | refine blk_drewN ?_ _ | refine blk_drew ?_ | refine blk_alloc ?_ _)); refine blk_far ?_ (by have h_ := Kd.R_ne bA.out be.out (by decide); intro e_; exact h_ (by rw [e_]; rfl)) _; (with_reducible repeat (first | refine blk_drewN ?_ _ | refine blk_drew ?_ | refine blk_alloc ?_ _)); exact be.out⟩
  have n3_ : Aside0 ((w43.setCell ⟨bU, ((bx) : Int).toNat, none⟩ (.int .u8 a3)).heap[bg]? = some (.cells #[.int .u64 bu, .int .u64 bw, .slice (some bp) bd.length bH] 57 (0, 0))) := ⟨by (with_reducible repeat (first | refine blk_drewN ?_ _ | refine blk_drew ?_ | refine blk_alloc ?_ _)); refine blk_far ?_ (by have h_ := Kd.R_ne bA.out bl.out (by decide); intro e_; exact h_ (by rw [e_]; rfl)) _; (with_reducible repeat (first | refine blk_drewN ?_ _ | refine blk_drew ?_ | refine blk_alloc ?_ _)); exact bl.out⟩
  have n4_ : Aside0 (Below w.heap.size w (w43.setCell ⟨bU, ((bx) : Int).toNat, none⟩ (.int .u8 a3))) := ⟨by repeat (first | (with_reducible first | exact HB.out | apply below_alloc | apply pw_below_drewN | apply below_drew1 | refine below_set ?_ hu.out | refine below_set ?_ bz.out | refine below_set ?_ bB.out | refine below_set ?_ dg.out) | exact HB.out)⟩
  (try clear bm)
  (try clear bc)
  (try clear be)
  (try clear bl)
  (try clear HB)
  generalize (w43.setCell ⟨bU, ((bx) : Int).toNat, none⟩ (.int .u8 a3)) = w46 at n0_ n1_ n2_ n3_ n4_ ⊢
  have bm := n0_
  have bc := n1_
  have be := n2_
  have bl := n3_
  have HB := n4_
  clear n0_ n1_ n2_ n3_ n4_
  obtain ⟨gQ, gP, gO, gs, gr, gq⟩ := cx18_bc3 bl.out
  obtain ⟨gN, gM, gL, gp, go, gn⟩ := cx18_bc3 be.out
  try go_wp2
  refine bodyPost_ret (results_ct rfl _ _ bh 57 #[.int .u64 bu, .int .u64 bw, .slice (some bp) bd.length bH] (0, 0) _ rfl (by (with_reducible repeat (first | refine blk_drewN ?_ _ | refine blk_drew ?_ | refine blk_alloc ?_ _)); refine blk_put (cs := #[.int .u64 bu, .int .u64 bw, .slice none 0 0]) ?_ 2 _ rfl; (with_reducible repeat (first | refine blk_drewN ?_ _ | refine blk_drew ?_ | refine blk_alloc ?_ _)); refine blk_put (cs := #[.int .u64 bu, .int .u64 0, .slice none 0 0]) ?_ 1 _ rfl; (with_reducible repeat (first | refine blk_drewN ?_ _ | refine blk_drew ?_ | refine blk_alloc ?_ _)); refine blk_put (cs := #[.int .u64 0, .int .u64 0, .slice none 0 0]) ?_ 0 _ rfl; (with_reducible repeat (first | refine blk_drewN ?_ _ | refine blk_drew ?_ | refine blk_alloc ?_ _)); exact be.out) Tryd.underlying57 rfl (by kernel_rfl)) rfl ?_
  exact ⟨_, by first | rfl | (simp [errW_none, errW_some] <;> rfl) | (simp only [← bS]; first | rfl | (simp [errW_none, errW_some] <;> rfl)) | (simp [*, errW_none, errW_some] <;> rfl), by (with_reducible repeat (first | apply Kd.S_alloc | apply Kd.S_drewN | apply Kd.S_drew)); exact Kd.S_mono (Kd.S_far (p := ⟨bh, 2, none⟩) (Kd.S_far (p := ⟨bh, 1, none⟩) (Kd.S_far (p := ⟨bh, 0, none⟩) (Kd.S_types bm.out be.out (by decide)) (fun _ hk => hk.2) (.int .u64 bu)) (fun _ hk => hk.2) (.int .u64 bw)) (fun _ hk => hk.2) (.slice (some bp) bd.length bH)) (fun _ hk => trivial), by repeat (first | (with_reducible first | exact HB.out | apply below_alloc | apply pw_below_drewN | apply below_drew1 | refine below_set ?_ bz.out | refine below_set ?_ bB.out | refine below_set ?_ dg.out) | exact HB.out)⟩
end Go.Proofs.YthhmpjapnkilcaaDoor.XLdg
end
section
/- What the functions of the translation answer, each as a plain Lean function, and that the code comes to it; for a law: its row. Conditions: none but those that each theorem names. Written by a program of this session (wip/xp). -/
namespace Go.Proofs.YthhmpjapnkilcaaDoor.XLdg
open Go.RowKit Go.Proofs.YthhmpjapnkilcaaDoorW.PrintWords Go.Proofs.YthhmpjapnkilcaaDoorW.PrintLast Go.Proofs.YthhmpjapnkilcaaDoorW.PrintMore
attribute [local go_sem] max2_int min2_int max_two min_two max_three min_three max_four min_four   -- for this text's walks alone
theorem cx19_bc3 {w : World} {g : Nat} {t : TypeId} {x0 x1 x2 : Value} (h : w.heap[g]? = some (.cells #[x0, x1, x2] t (0, 0))) : w.cell? ⟨g, 0, none⟩ = some x0 ∧ w.cell? ⟨g, 1, none⟩ = some x1 ∧ w.cell? ⟨g, 2, none⟩ = some x2 ∧ w.frozen? ⟨g, 0, none⟩ = false ∧ w.frozen? ⟨g, 1, none⟩ = false ∧ w.frozen? ⟨g, 2, none⟩ = false :=
 ⟨(blk_cell h 0).trans rfl, (blk_cell h 1).trans rfl, (blk_cell h 2).trans rfl, blk_frozen h 0, blk_frozen h 1, blk_frozen h 2⟩
theorem zx19_6 {p : Prop} (h : p := by first | rfl | (simp; done) | (simp [*]; done)) : p := h
theorem zx19_0 {p : Prop} (h : p := by first | (with_reducible assumption) | assumption) : p := h
theorem zx19_5 {p : Prop} (h : p := by first | exact bY | exact of_decide_eq_true zx19_0 | (have e_ := (Kd.S_reads' bb.out).1; omega)) : p := h
theorem zx19_1 {p : Prop} (h : p := by (with_reducible repeat (first | refine blk_drewN ?_ _ | refine blk_drew ?_ | refine blk_alloc ?_ _)); exact bm.out) : p := h
theorem zx19_3 {p : Prop} (h : p := by (with_reducible repeat (first | refine blk_drewN ?_ _ | refine blk_drew ?_ | refine blk_alloc ?_ _)); exact bk.out) : p := h
theorem zx19_7 {p : Prop} (h : p := by repeat (first | (with_reducible first | exact HB.out | apply below_alloc | apply pw_below_drewN | apply below_drew1) | exact HB.out)) : p := h
theorem zx19_4 {p : Prop} (h : p := by repeat (first | (with_reducible first | exact HB.out | apply below_alloc | apply pw_below_drewN | apply below_drew1 | refine below_set ?_ bU.out) | exact HB.out)) : p := h
theorem zx19_2 {p : Prop} (h : p := by repeat (first | (with_reducible first | exact HB.out | apply below_alloc | apply pw_below_drewN | apply below_drew1 | refine below_set ?_ bU.out | refine below_set ?_ bW.out) | exact HB.out)) : p := h
set_option linter.unusedVariables false
set_option linter.unusedSimpArgs false

/-! ### postroomref10_Evict: function 44 -/
mutual
def postroomref10_Evict.j0 : Nat → Int → Bool → Int → Int → List (S84) → Option (Int × Int × (List (S84)) × Int)
 | 0, _, _, _, _, _ => none
 | k + 1, x1, x18, gx, gw, gv => if x18 = true then (some (0, 0, ([] : List (S84)), 1)) else ((postroomref10_copied.f k gx gw gv).bind fun dC => (postroomref10_Evict.l0 k x1 0 x1 dC.2.1 dC.2.2))
def postroomref10_Evict.l0 : Nat → Int → Int → Int → Int → List (S84) → Option (Int × Int × (List (S84)) × Int)
 | 0, _, _, _, _, _ => none
 | k + 1, x1, x7, bO, bN, bg => if x7 < (bg.length : Int) then (postroomref10_Evict.l1 k x1 x7 0 bO bN bg) else (some (bO, bN, bg, 0))
def postroomref10_Evict.l1 : Nat → Int → Int → Int → Int → Int → List (S84) → Option (Int × Int × (List (S84)) × Int)
 | 0, _, _, _, _, _, _ => none
 | k + 1, x1, x7, x8, bO, bN, bg => if 0 ≤ x7 then (if x7 < (bg.length : Int) then (if x8 < (((rd_T84 bg x7).f2).length : Int) then (if (IntKind.u64.wrap (((rd_T84 bg x7).f1) + (IntKind.u64.wrap (x8)))) < x1 then (if 0 ≤ x8 then (if (rd ((rd_T84 bg x7).f2) x8) = 112 then (postroomref10_Evict.l1 k x1 x7 (wrap64 (x8 + 1)) bO bN (bg.set (x7 : Int).toNat (⟨(rd_T84 bg x7).f0, (rd_T84 bg x7).f1, (((rd_T84 bg x7).f2).set (x8 : Int).toNat 101)⟩ : S84))) else (postroomref10_Evict.l1 k x1 x7 (wrap64 (x8 + 1)) bO bN bg)) else (none)) else (postroomref10_Evict.l1 k x1 x7 (wrap64 (x8 + 1)) bO bN bg)) else (postroomref10_Evict.l0 k x1 (wrap64 (x7 + 1)) bO bN bg)) else (none)) else (none)
end
def postroomref10_Evict.f (k : Nat) (bz : Int) (bE : Int) (bC : List (S84)) (a1 : Int) : Option (Int × Int × (List (S84)) × Int) := if a1 < bz then (postroomref10_Evict.j0 k a1 true bz bE bC) else (postroomref10_Evict.j0 k a1 (decide (a1 > bE)) bz bE bC)
set_option maxHeartbeats 8000000 in
set_option maxRecDepth 100000 in
theorem postroomref10_Evict.calls (k : Nat) (bz : Int) (bE : Int) (b3 : Option Addr) (b2 : Nat) (bC : List (S84)) (a1 : Int) (r1 : Int) (r2 : Int) (r3 : List (S84)) (r4 : Int) (w : World) (gN : Kd.C k84 w b3 bC.length bC) (gQ : bC.length ≤ b2) (h : postroomref10_Evict.f k bz bE bC a1 = some (r1, r2, r3, r4)) :
  Calls Tryd.prog 44 #[.agg #[.int .u64 bz, .int .u64 bE, .slice b3 bC.length b2], .int .u64 a1] w fun e w' => ∃ v2_ : Value, e = .returned (.tuple #[.agg #[.int .u64 r1, .int .u64 r2, v2_], .int .i64 r4]) ∧ Kd.S k84 84 w' w.heap.size (fun _ => True) v2_ r3 ∧ Below w.heap.size w w' := by
 have mH := Tryd.underlying57
 have hD := Aside0.mk gN
 have hF := Aside0.mk gQ
 clear gN gQ
 have HB := Aside0.mk (Below.refl w.heap.size w)
 have H : (if a1 < bz then (postroomref10_Evict.j0 k a1 true bz bE bC) else (postroomref10_Evict.j0 k a1 (decide (a1 > bE)) bz bE bC)) = some (r1, r2, r3, r4) := h
 clear h
 have HC3 := Aside0.mk H
 clear H
 go_enter Tryd.func44, Tryd.ntmps44
 go_upto_region 1 with (first | ((with_reducible refine gate_dst (N := 2) rfl ?_); refine box_event ?hg (N := 2) ?hd (cs := #[.int .u64 bz, .int .u64 bE, .slice b3 bC.length b2]) (t := 57) ?hr ?_; (case hd => rfl); (case hg => rfl); (case hr => first | (go_simp; done) | (go_simp; rfl)); intro bD hg w4 hbox hb; have bm := Aside0.mk (hbox); have mF := Aside0.mk ((by rw [hg]; exact (below_size zx19_7) : w.heap.size ≤ bD)); have bU := Aside0.mk ((by rw [hg]; exact (below_size zx19_7) : w.heap.size ≤ bD)); replace HB := Aside0.mk (below_step zx19_7 hb); clear hb hbox hg) | ((with_reducible refine gate_dst (N := 4) rfl ?_); refine box_event ?hg (N := 4) ?hd (cs := #[.int .u64 0, .int .u64 0, .slice none 0 0]) (t := 57) ?hr ?_; (case hd => rfl); (case hg => rfl); (case hr => first | (go_simp; done) | (go_simp; rfl)); intro bx hg w5 hbox hb; have bk := Aside0.mk (hbox); have mE := Aside0.mk ((by rw [hg]; exact (below_size zx19_4) : w.heap.size ≤ bx)); have bW := Aside0.mk ((by rw [hg]; exact (below_size zx19_4) : w.heap.size ≤ bx)); replace HB := Aside0.mk (below_step zx19_4 hb); have bM := Aside0.mk ((by rw [hg]; exact Nat.ne_of_lt (blk_lt (g := bD) (o := .cells #[.int .u64 bz, .int .u64 bE, .slice b3 bC.length b2] 57 (0, 0)) zx19_1) : bD ≠ bx)); have bL := Aside0.mk ((by rw [hg]; exact Nat.ne_of_gt (blk_lt (g := bD) (o := .cells #[.int .u64 bz, .int .u64 bE, .slice b3 bC.length b2] 57 (0, 0)) zx19_1) : bx ≠ bD)); replace bm := Aside0.mk (blk_below (g := bD) (o := .cells #[.int .u64 bz, .int .u64 bE, .slice b3 bC.length b2] 57 (0, 0)) zx19_1 hb); clear hb hbox hg))
 (try simp only [Act.put, List.setIfInBounds_toArray, List.set_cons_zero, List.set_cons_succ])
 go_cut [18] (fun v18 wc => ∃ (kq : Nat) (dQ : Bool), v18 = .bool dQ ∧ Aside0 (postroomref10_Evict.j0 kq a1 dQ bz bE bC = some (r1, r2, r3, r4)) ∧ Aside0 (kq ≤ k) ∧ Aside0 (wc.heap[bD]? = some (.cells #[.int .u64 bz, .int .u64 bE, (.slice b3 bC.length b2)] 57 (0, 0))) ∧ Aside0 (wc.heap[bx]? = some (.cells #[.int .u64 0, .int .u64 0, (.slice none 0 0)] 57 (0, 0))) ∧ Aside0 (Below w.heap.size w wc))
 case first =>
  have H := HC3.out
  clear HC3
  by_cases c6 : a1 < bz
  ·rw [if_pos c6] at H
   have dB : decide (a1 < bz) = true := decide_eq_true c6
   clear c6
   (first | rw [dB] | (simp only [i64_w, i32_w]; rw [dB]) | skip)
   have H' := Aside0.mk H
   clear H
   have mL := bM.out
   have mJ := bL.out
   obtain ⟨dL, dK, dJ, dI, dH, dG⟩ := cx19_bc3 bm.out
   go_wp2
   go_meet
   case rel => exact ⟨_, (true), zx19_6, H', ⟨by first | omega | exact Nat.le_refl _⟩, ⟨by (with_reducible repeat (first | refine blk_drewN ?_ _ | refine blk_drew ?_ | refine blk_alloc ?_ _)); exact bm.out⟩, ⟨by (with_reducible repeat (first | refine blk_drewN ?_ _ | refine blk_drew ?_ | refine blk_alloc ?_ _)); exact bk.out⟩, ⟨by repeat (first | (with_reducible first | exact HB.out | apply below_alloc | apply pw_below_drewN | apply below_drew1 | refine below_set ?_ bU.out | refine below_set ?_ bW.out) | exact HB.out)⟩⟩
  rw [if_neg c6] at H
  have dB : decide (a1 < bz) = false := decide_eq_false c6
  clear c6
  (first | rw [dB] | (simp only [i64_w, i32_w]; rw [dB]) | skip)
  have H' := Aside0.mk H
  clear H
  have mK := bM.out
  have mI := bL.out
  obtain ⟨dr, dq, dp, dn, dm, dl⟩ := cx19_bc3 bm.out
  go_wp2
  go_meet
  case rel => exact ⟨_, (decide (a1 > bE)), zx19_6, H', ⟨by first | omega | exact Nat.le_refl _⟩, ⟨by (with_reducible repeat (first | refine blk_drewN ?_ _ | refine blk_drew ?_ | refine blk_alloc ?_ _)); exact bm.out⟩, ⟨by (with_reducible repeat (first | refine blk_drewN ?_ _ | refine blk_drew ?_ | refine blk_alloc ?_ _)); exact bk.out⟩, ⟨by repeat (first | (with_reducible first | exact HB.out | apply below_alloc | apply pw_below_drewN | apply below_drew1 | refine below_set ?_ bU.out | refine below_set ?_ bW.out) | exact HB.out)⟩⟩
 case rest =>
  clear HC3
  (try clear p2); (try clear c4); (try clear c6); (try clear dB); (try clear c7); (try clear c9); (try clear dr); (try clear dq); (try clear dp); (try clear dL); (try clear dK); (try clear dJ); (try clear dn); (try clear dm); (try clear dl); (try clear dI); (try clear dH); (try clear dG)
  obtain ⟨kq, dQ, rfl, HA, HJ2, bm, bk, HB⟩ := hcut
  cases kq with
  | zero => exact absurd HA.out (by simp [postroomref10_Evict.j0])
  | succ kj2 => ?_
  have H := HA.out
  clear HA
  simp only [postroomref10_Evict.j0] at H
  by_cases c11 : dQ = true
  ·subst c11
   have H1 : (some (0, 0, ([] : List (S84)), 1)) = some (r1, r2, r3, r4) := by rw [if_pos rfl] at H; exact H
   clear H
   have H := H1
   clear H1
   simp only [Option.some.injEq, Prod.mk.injEq] at H
   obtain ⟨rfl, rfl, rfl, rfl⟩ := H
   have mv := bL.out
   have mb := bM.out
   obtain ⟨gf, ge, gc, d5, d4, d3⟩ := cx19_bc3 bk.out
   go_wp2
   refine bodyPost_ret (results_ct rfl _ _ bx 57 #[.int .u64 0, .int .u64 0, .slice none 0 0] (0, 0) _ rfl (by (with_reducible repeat (first | refine blk_drewN ?_ _ | refine blk_drew ?_ | refine blk_alloc ?_ _)); refine blk_put (cs := #[.int .u64 0, .int .u64 0, .slice none 0 0]) ?_ 2 _ rfl; (with_reducible repeat (first | refine blk_drewN ?_ _ | refine blk_drew ?_ | refine blk_alloc ?_ _)); refine blk_put (cs := #[.int .u64 0, .int .u64 0, .slice none 0 0]) ?_ 1 _ rfl; (with_reducible repeat (first | refine blk_drewN ?_ _ | refine blk_drew ?_ | refine blk_alloc ?_ _)); refine blk_put (cs := #[.int .u64 0, .int .u64 0, .slice none 0 0]) ?_ 0 _ rfl; (with_reducible repeat (first | refine blk_drewN ?_ _ | refine blk_drew ?_ | refine blk_alloc ?_ _)); exact bk.out) Tryd.underlying57 rfl (by kernel_rfl)) rfl ?_
   exact ⟨_, by first | rfl | (simp [errW_none, errW_some] <;> rfl) | (simp [*, errW_none, errW_some] <;> rfl), by first | exact Kd.S_nil _ _ _ _ _ | exact Kd.N_nil _ _ _ _ _ | exact Kd.V_nil _ _ _ _ _ | exact Kd.Q_nil _ _ _ _ _ | exact Kd.R_nil _ _ _ _ _, by repeat (first | (with_reducible first | exact HB.out | apply below_alloc | apply pw_below_drewN | apply below_drew1 | refine below_set ?_ bU.out | refine below_set ?_ bW.out) | exact HB.out)⟩
  replace c11 := Bool.eq_false_iff.mpr c11
  subst c11
  have H1 : ((postroomref10_copied.f kj2 bz bE bC).bind fun dC => (postroomref10_Evict.l0 kj2 a1 0 a1 dC.2.1 dC.2.2)) = some (r1, r2, r3, r4) := by rw [if_neg (show ¬ (false = true) by decide)] at H; exact H
  clear H
  have H := H1
  clear H1
  replace H := Option.bind_eq_some_iff.mp H
  obtain ⟨⟨gn, bZ, gm⟩, hH, H⟩ := H
  replace H : (postroomref10_Evict.l0 kj2 a1 0 a1 bZ gm) = some (r1, r2, r3, r4) := H
  have A14 := Aside0.mk hH
  clear hH
  have H' := Aside0.mk H
  clear H
  have mu := bM.out
  have ma := bL.out
  obtain ⟨gb, ga, d9, d2, d1, d0⟩ := cx19_bc3 bm.out
  go_wp2_with (first | ((with_reducible refine gate_callee (f := 53) rfl ?_); refine goesL_ (some 21) rfl rfl Tryd.func53 (by kernel_rfl) rfl #[.agg #[.int .u64 bz, .int .u64 bE, .slice b3 bC.length b2]] rfl (by (try simp only [List.map_toArray, List.map_cons, List.map_nil]); first | done | rfl | (simp only [List.length_drop, List.length_take]; rfl)) ?_; (with_reducible refine (postroomref10_copied.calls kj2 bz bE _ _ bC gn bZ gm _ ?side1 ?side2 A14.out).mono ?_); (case side1 => repeat (first | exact (Kd.C_below hD.out HB.out) | (with_reducible refine Kd.C_alloc ?_ _) | (with_reducible refine Kd.C_drewN ?_ _) | (with_reducible refine Kd.C_drew ?_))); (case side2 => exact hF.out); rintro e w17 ⟨mG, rfl, ho0, hb⟩; refine ⟨_, rfl, ?_⟩; have gi := Aside0.mk (Kd.S_lower ho0 (below_size zx19_2)); replace bm := Aside0.mk (blk_below (g := bD) (o := .cells #[.int .u64 bz, .int .u64 bE, .slice b3 bC.length b2] 57 (0, 0)) zx19_1 hb); replace bk := Aside0.mk (blk_below (g := bx) (o := .cells #[.int .u64 0, .int .u64 0, .slice none 0 0] 57 (0, 0)) zx19_3 hb); replace HB := Aside0.mk (below_step zx19_2 hb); (try clear hb); (try clear hb2); (try clear hk); (try clear hi); (try clear ho0)) | ((with_reducible refine gate_dst (N := 6) rfl ?_); refine box_event ?hg (N := 6) ?hd (cs := #[.int .u64 0, .int .u64 0, .slice none 0 0]) (t := 57) ?hr ?_; (case hd => rfl); (case hg => rfl); (case hr => first | (go_simp; done) | (go_simp; rfl)); intro bG hg w18 hbox hb; replace gi := Aside0.mk (Kd.S_below (by (with_reducible repeat (first | apply Kd.S_alloc | apply Kd.S_drewN | apply Kd.S_drew)); exact gi.out) hb); have bi := Aside0.mk (hbox); have mD := Aside0.mk ((by rw [hg]; exact (below_size zx19_2) : w.heap.size ≤ bG)); have de := Aside0.mk ((by rw [hg]; exact (below_size zx19_2) : w.heap.size ≤ bG)); replace HB := Aside0.mk (below_step zx19_2 hb); have bo := Aside0.mk ((by rw [hg]; exact Nat.ne_of_lt (blk_lt (g := bD) (o := .cells #[.int .u64 bz, .int .u64 bE, .slice b3 bC.length b2] 57 (0, 0)) zx19_1) : bD ≠ bG)); have bB := Aside0.mk ((by rw [hg]; exact Nat.ne_of_gt (blk_lt (g := bD) (o := .cells #[.int .u64 bz, .int .u64 bE, .slice b3 bC.length b2] 57 (0, 0)) zx19_1) : bG ≠ bD)); replace bm := Aside0.mk (blk_below (g := bD) (o := .cells #[.int .u64 bz, .int .u64 bE, .slice b3 bC.length b2] 57 (0, 0)) zx19_1 hb); have bn := Aside0.mk ((by rw [hg]; exact Nat.ne_of_lt (blk_lt (g := bx) (o := .cells #[.int .u64 0, .int .u64 0, .slice none 0 0] 57 (0, 0)) zx19_3) : bx ≠ bG)); have bA := Aside0.mk ((by rw [hg]; exact Nat.ne_of_gt (blk_lt (g := bx) (o := .cells #[.int .u64 0, .int .u64 0, .slice none 0 0] 57 (0, 0)) zx19_3) : bG ≠ bx)); replace bk := Aside0.mk (blk_below (g := bx) (o := .cells #[.int .u64 0, .int .u64 0, .slice none 0 0] 57 (0, 0)) zx19_3 hb); clear hb hbox hg; have mt := bB.out; have j9 := bo.out; have ms := bA.out; have j8 := bn.out; have d8 : w18.cell? ⟨bG, 0, none⟩ = some (.int .u64 0) := (blk_cell bi.out 0).trans rfl; have d7 : w18.cell? ⟨bG, 1, none⟩ = some (.int .u64 0) := (blk_cell bi.out 1).trans rfl; have d6 : w18.cell? ⟨bG, 2, none⟩ = some (.slice none 0 0) := (blk_cell bi.out 2).trans rfl; have dZ := blk_frozen bi.out 0; have dY := blk_frozen bi.out 1; have dX := blk_frozen bi.out 2; obtain ⟨hh, hc, jJ⟩ := Kd.S_slice gi.out; subst jJ))
  go_loopg [7] kj2 (fun kq v7 w' => ∃ (bc : Int) (bj : List (S84)) (bP : Value), v7 = .int .i64 bc ∧ Aside0 (postroomref10_Evict.l0 kq a1 bc a1 bZ bj = some (r1, r2, r3, r4)) ∧ Aside0 (kq ≤ kj2) ∧ Aside0 (Kd.S k84 84 w' w.heap.size (fun _ => True) bP bj) ∧ Aside0 (w'.heap[bD]? = some (.cells #[.int .u64 bz, .int .u64 bE, (.slice b3 bC.length b2)] 57 (0, 0))) ∧ Aside0 (w'.heap[bx]? = some (.cells #[.int .u64 0, .int .u64 0, (.slice none 0 0)] 57 (0, 0))) ∧ Aside0 (w'.heap[bG]? = some (.cells #[.int .u64 a1, .int .u64 bZ, bP] 57 (0, 0))) ∧ Aside0 (Below w.heap.size w w'))
  case atStart => exact ⟨(0), (gm), (.slice hh gm.length hc), zx19_6, H', ⟨Nat.le_refl _⟩, ⟨by (with_reducible repeat (first | apply Kd.S_alloc | apply Kd.S_drewN | apply Kd.S_drew)); exact Kd.S_mono (Kd.S_far (p := ⟨bG, 0, none⟩) (Kd.S_far (p := ⟨bG, 2, none⟩) (Kd.S_far (p := ⟨bG, 1, none⟩) (Kd.S_far (p := ⟨bG, 0, none⟩) (Kd.S_types gi.out bi.out (by decide)) (fun _ hk => hk.2) (.int .u64 gn)) (fun _ hk => hk.2) (.int .u64 bZ)) (fun _ hk => hk.2) (.slice hh gm.length hc)) (fun _ hk => hk.2) (.int .u64 a1)) (fun _ hk => trivial)⟩, ⟨by (iterate 4 ((with_reducible repeat (first | refine blk_drewN ?_ _ | refine blk_drew ?_ | refine blk_alloc ?_ _)); refine blk_far ?_ bo.out _)); (with_reducible repeat (first | refine blk_drewN ?_ _ | refine blk_drew ?_ | refine blk_alloc ?_ _)); exact bm.out⟩, ⟨by (iterate 4 ((with_reducible repeat (first | refine blk_drewN ?_ _ | refine blk_drew ?_ | refine blk_alloc ?_ _)); refine blk_far ?_ bn.out _)); (with_reducible repeat (first | refine blk_drewN ?_ _ | refine blk_drew ?_ | refine blk_alloc ?_ _)); exact bk.out⟩, ⟨by (with_reducible repeat (first | refine blk_drewN ?_ _ | refine blk_drew ?_ | refine blk_alloc ?_ _)); refine blk_put (cs := #[.int .u64 gn, .int .u64 bZ, .slice hh gm.length hc]) ?_ 0 _ rfl; (with_reducible repeat (first | refine blk_drewN ?_ _ | refine blk_drew ?_ | refine blk_alloc ?_ _)); refine blk_put (cs := #[.int .u64 gn, .int .u64 bZ, .slice none 0 0]) ?_ 2 _ rfl; (with_reducible repeat (first | refine blk_drewN ?_ _ | refine blk_drew ?_ | refine blk_alloc ?_ _)); refine blk_put (cs := #[.int .u64 gn, .int .u64 0, .slice none 0 0]) ?_ 1 _ rfl; (with_reducible repeat (first | refine blk_drewN ?_ _ | refine blk_drew ?_ | refine blk_alloc ?_ _)); refine blk_put (cs := #[.int .u64 0, .int .u64 0, .slice none 0 0]) ?_ 0 _ rfl; (with_reducible repeat (first | refine blk_drewN ?_ _ | refine blk_drew ?_ | refine blk_alloc ?_ _)); exact bi.out⟩, ⟨by repeat (first | (with_reducible first | exact HB.out | apply below_alloc | apply pw_below_drewN | apply below_drew1 | refine below_set ?_ bU.out | refine below_set ?_ bW.out | refine below_set ?_ de.out) | exact HB.out)⟩⟩
  case round =>
   clear H'
   (try clear c1); (try clear c2); (try clear p2); (try clear c4); (try clear c5); (try clear c6); (try clear dB); (try clear c7); (try clear c9); (try clear c11); (try clear c12); (try clear c15); (try clear c19); (try clear c20); (try clear dr); (try clear dq); (try clear dp); (try clear gf); (try clear ge); (try clear gc); (try clear gb); (try clear ga); (try clear d9); (try clear d8); (try clear d7); (try clear d6); (try clear dL); (try clear dK); (try clear dJ); (try clear dn); (try clear dm); (try clear dl); (try clear d5); (try clear d4); (try clear d3); (try clear d2); (try clear d1); (try clear d0); (try clear dZ); (try clear dY); (try clear dX); (try clear dI); (try clear dH); (try clear dG); (try clear p2)
   obtain ⟨bc, bj, bP, rfl, HA, HK2, bb, bm, bk, bi, HB⟩ := hrel
   cases gk with
   | zero => exact absurd HA.out (by simp [postroomref10_Evict.l0])
   | succ k2 => ?_
   have H := HA.out
   clear HA
   simp only [postroomref10_Evict.l0] at H
   by_cases c23 : bc < (bj.length : Int)
   case neg =>
    rw [if_neg c23] at H
    have gT : decide (bc < (bj.length : Int)) = false := decide_eq_false c23
    clear c23
    simp only [Option.some.injEq, Prod.mk.injEq] at H
    obtain ⟨rfl, rfl, rfl, rfl⟩ := H
    have me := bB.out
    have jV := bo.out
    have md := bA.out
    have jU := bn.out
    obtain ⟨ji, jh, jg, hQ, hP, hO⟩ := cx19_bc3 bi.out
    obtain ⟨hG, hs, jD⟩ := Kd.S_slice bb.out
    subst jD
    have mc := bL.out
    have jT := bM.out
    obtain ⟨jf, je, jd, hN, hM, hL⟩ := cx19_bc3 bk.out
    go_wp2
    refine bodyPost_ret (results_ct rfl _ _ bx 57 #[.int .u64 a1, .int .u64 bZ, .slice hG bj.length hs] (0, 0) _ rfl (by (with_reducible repeat (first | refine blk_drewN ?_ _ | refine blk_drew ?_ | refine blk_alloc ?_ _)); refine blk_put (cs := #[.int .u64 a1, .int .u64 bZ, .slice none 0 0]) ?_ 2 _ rfl; (with_reducible repeat (first | refine blk_drewN ?_ _ | refine blk_drew ?_ | refine blk_alloc ?_ _)); refine blk_put (cs := #[.int .u64 a1, .int .u64 0, .slice none 0 0]) ?_ 1 _ rfl; (with_reducible repeat (first | refine blk_drewN ?_ _ | refine blk_drew ?_ | refine blk_alloc ?_ _)); refine blk_put (cs := #[.int .u64 0, .int .u64 0, .slice none 0 0]) ?_ 0 _ rfl; (with_reducible repeat (first | refine blk_drewN ?_ _ | refine blk_drew ?_ | refine blk_alloc ?_ _)); exact bk.out) Tryd.underlying57 rfl (by kernel_rfl)) rfl ?_
    exact ⟨_, by first | rfl | (simp [errW_none, errW_some] <;> rfl) | (simp [*, errW_none, errW_some] <;> rfl), by (with_reducible repeat (first | apply Kd.S_alloc | apply Kd.S_drewN | apply Kd.S_drew)); exact Kd.S_mono (Kd.S_far (p := ⟨bx, 2, none⟩) (Kd.S_far (p := ⟨bx, 1, none⟩) (Kd.S_far (p := ⟨bx, 0, none⟩) (Kd.S_types bb.out bk.out (by decide)) (fun _ hk => hk.2) (.int .u64 a1)) (fun _ hk => hk.2) (.int .u64 bZ)) (fun _ hk => hk.2) (.slice hG bj.length hs)) (fun _ hk => trivial), by repeat (first | (with_reducible first | exact HB.out | apply below_alloc | apply pw_below_drewN | apply below_drew1 | refine below_set ?_ bU.out | refine below_set ?_ bW.out | refine below_set ?_ de.out) | exact HB.out)⟩

   rw [if_pos c23] at H
   have gT : decide (bc < (bj.length : Int)) = true := decide_eq_true c23
   clear c23
   have H' := Aside0.mk H
   clear H
   have mr := bB.out
   have j7 := bo.out
   have mq := bA.out
   have j6 := bn.out
   obtain ⟨gJ, gI, gH, gG, gF, gE⟩ := cx19_bc3 bi.out
   obtain ⟨jR, jO, jI⟩ := Kd.S_slice bb.out
   subst jI
   go_wp2
   go_loopg [8] k2 (fun kq v8 w' => ∃ (bl : Int) (ba : List (S84)) (bP : Value), v8 = .int .i64 bl ∧ Aside0 (postroomref10_Evict.l1 kq a1 bc bl a1 bZ ba = some (r1, r2, r3, r4)) ∧ Aside0 (kq ≤ k2) ∧ Aside0 (Kd.S k84 84 w' w.heap.size (fun _ => True) bP ba) ∧ Aside0 (w'.heap[bD]? = some (.cells #[.int .u64 bz, .int .u64 bE, (.slice b3 bC.length b2)] 57 (0, 0))) ∧ Aside0 (w'.heap[bx]? = some (.cells #[.int .u64 0, .int .u64 0, (.slice none 0 0)] 57 (0, 0))) ∧ Aside0 (w'.heap[bG]? = some (.cells #[.int .u64 a1, .int .u64 bZ, bP] 57 (0, 0))) ∧ Aside0 (Below w.heap.size w w'))
   case atStart => exact ⟨(0), (bj), (.slice jR bj.length jO), zx19_6, H', ⟨Nat.le_refl _⟩, ⟨by (with_reducible repeat (first | apply Kd.S_alloc | apply Kd.S_drewN | apply Kd.S_drew)); exact bb.out⟩, ⟨by (with_reducible repeat (first | refine blk_drewN ?_ _ | refine blk_drew ?_ | refine blk_alloc ?_ _)); exact bm.out⟩, ⟨by (with_reducible repeat (first | refine blk_drewN ?_ _ | refine blk_drew ?_ | refine blk_alloc ?_ _)); exact bk.out⟩, ⟨by (with_reducible repeat (first | refine blk_drewN ?_ _ | refine blk_drew ?_ | refine blk_alloc ?_ _)); exact bi.out⟩, ⟨by repeat (first | (with_reducible first | exact HB.out | apply below_alloc | apply pw_below_drewN | apply below_drew1 | refine below_set ?_ bU.out | refine below_set ?_ bW.out | refine below_set ?_ de.out) | exact HB.out)⟩⟩
   case round =>
    clear H'
    (try clear c1); (try clear c2); (try clear p2); (try clear c4); (try clear c5); (try clear c6); (try clear dB); (try clear c7); (try clear c9); (try clear c11); (try clear c12); (try clear c15); (try clear c19); (try clear c20); (try clear c23); (try clear gT); (try clear c24); (try clear c25); (try clear dr); (try clear dq); (try clear dp); (try clear gf); (try clear ge); (try clear gc); (try clear gb); (try clear ga); (try clear d9); (try clear d8); (try clear d7); (try clear d6); (try clear gJ); (try clear gI); (try clear gH); (try clear dL); (try clear dK); (try clear dJ); (try clear dn); (try clear dm); (try clear dl); (try clear d5); (try clear d4); (try clear d3); (try clear d2); (try clear d1); (try clear d0); (try clear dZ); (try clear dY); (try clear dX); (try clear gG); (try clear gF); (try clear gE); (try clear dI); (try clear dH); (try clear dG); (try clear p2)
    obtain ⟨bl, ba, bP, rfl, HA, HK3, bb, bm, bk, bi, HB⟩ := hrel
    cases gk with
    | zero => exact absurd HA.out (by simp [postroomref10_Evict.l1])
    | succ k3 => ?_
    have H := HA.out
    clear HA
    simp only [postroomref10_Evict.l1] at H
    by_cases c28 : 0 ≤ bc
    case neg =>
     rw [if_neg c28] at H
     exact absurd H (by simp)
    rw [if_pos c28] at H
    have mA : decide (0 ≤ bc) = true := decide_eq_true c28
    clear c28
    by_cases c29 : bc < (ba.length : Int)
    case neg =>
     rw [if_neg c29] at H
     exact absurd H (by simp)
    rw [if_pos c29] at H
    have mz : decide (bc < (ba.length : Int)) = true := decide_eq_true c29
    clear c29
    by_cases c30 : bl < (((rd_T84 ba bc).f2).length : Int)
    case neg =>
     rw [if_neg c30] at H
     have hy : decide (bl < (((rd_T84 ba bc).f2).length : Int)) = false := decide_eq_false c30
     clear c30
     have H' := Aside0.mk H
     clear H
     have mg := bB.out
     have jX := bo.out
     have mf := bA.out
     have jW := bn.out
     obtain ⟨jl, jk, jj, hT, hS, hR⟩ := cx19_bc3 bi.out
     obtain ⟨mQ, jL, jE⟩ := Kd.S_slice bb.out
     subst jE
     have bQ : 0 ≤ (bc : Int) := of_decide_eq_true zx19_0
     have bY : bc < (ba.length : Int) := of_decide_eq_true zx19_0
     obtain ⟨bI, dP, du, dO, dk, dj, be, br, bu⟩ := at_T84 (Kd.S_reads' bb.out).2.2 bc bQ bY
     cases dO
     obtain ⟨gq, b0, b1, bH⟩ := Kd.S_get bb.out z84 bc bQ zx19_5
     obtain ⟨df, rfl, bh⟩ := k84_openM b1
     have bd := bH 2 _ rfl
     rw [add_field _ _ 2 (by omega)] at bd
     replace bd := Option.some.inj (bd.symm.trans be)
     rw [bd] at bh
     have da := Aside0.mk (show Kd.R (Kd.int .u8) 5 _ _ _ _ ((rd_T84 ba bc).f2) from bh)
     clear bd bh
     have dv := Aside0.mk be
     clear bH b0
     have dw := Aside0.mk bu
     have dy := Aside0.mk br
     clear bu br
     replace bQ := eq_true bQ
     replace bY := eq_true bY
     go_wp2
     go_roundg k3
     case measure => have := HJ2.out; have := HK2.out; have := HK3.out; omega
     case rel => exact ⟨(wrap64 (bc + 1)), (ba), (.slice (some bI) ba.length jL), zx19_6, H', ⟨by have := HJ2.out; have := HK2.out; have := HK3.out; omega⟩, ⟨by (with_reducible repeat (first | apply Kd.S_alloc | apply Kd.S_drewN | apply Kd.S_drew)); exact bb.out⟩, ⟨by (with_reducible repeat (first | refine blk_drewN ?_ _ | refine blk_drew ?_ | refine blk_alloc ?_ _)); exact bm.out⟩, ⟨by (with_reducible repeat (first | refine blk_drewN ?_ _ | refine blk_drew ?_ | refine blk_alloc ?_ _)); exact bk.out⟩, ⟨by (with_reducible repeat (first | refine blk_drewN ?_ _ | refine blk_drew ?_ | refine blk_alloc ?_ _)); exact bi.out⟩, ⟨by repeat (first | (with_reducible first | exact HB.out | apply below_alloc | apply pw_below_drewN | apply below_drew1 | refine below_set ?_ bU.out | refine below_set ?_ bW.out | refine below_set ?_ de.out) | exact HB.out)⟩⟩
    rw [if_pos c30] at H
    have hy : decide (bl < (((rd_T84 ba bc).f2).length : Int)) = true := decide_eq_true c30
    clear c30
    by_cases c31 : (IntKind.u64.wrap (((rd_T84 ba bc).f1) + (IntKind.u64.wrap (bl)))) < a1
    case neg =>
     rw [if_neg c31] at H
     have hx : decide ((IntKind.u64.wrap (((rd_T84 ba bc).f1) + (IntKind.u64.wrap (bl)))) < a1) = false := decide_eq_false c31
     clear c31
     have H' := Aside0.mk H
     clear H
     have mi := bB.out
     have jZ := bo.out
     have mh := bA.out
     have jY := bn.out
     obtain ⟨jo, jn, jm, hW, hV, hU⟩ := cx19_bc3 bi.out
     obtain ⟨mR, jM, jF⟩ := Kd.S_slice bb.out
     subst jF
     have bQ : 0 ≤ (bc : Int) := of_decide_eq_true zx19_0
     have bY : bc < (ba.length : Int) := of_decide_eq_true zx19_0
     obtain ⟨bI, dP, du, dO, dk, dj, be, br, bu⟩ := at_T84 (Kd.S_reads' bb.out).2.2 bc bQ bY
     cases dO
     obtain ⟨gq, b0, b1, bH⟩ := Kd.S_get bb.out z84 bc bQ zx19_5
     obtain ⟨df, rfl, bh⟩ := k84_openM b1
     have bd := bH 2 _ rfl
     rw [add_field _ _ 2 (by omega)] at bd
     replace bd := Option.some.inj (bd.symm.trans be)
     rw [bd] at bh
     have da := Aside0.mk (show Kd.R (Kd.int .u8) 5 _ _ _ _ ((rd_T84 ba bc).f2) from bh)
     clear bd bh
     have dv := Aside0.mk be
     clear bH b0
     have dw := Aside0.mk bu
     have dy := Aside0.mk br
     clear bu br
     replace bQ := eq_true bQ
     replace bY := eq_true bY
     have b5 : 0 ≤ (bc : Int) := of_decide_eq_true zx19_0
     have b4 : bc < (ba.length : Int) := of_decide_eq_true zx19_0
     obtain ⟨dD, gt, gr, gp, dU, dT, bp, bJ, bK⟩ := at_T84 (Kd.S_reads' bb.out).2.2 bc b5 b4
     obtain rfl : bI = dD := (by injection gp)
     obtain ⟨gS, db, dd, bV⟩ := Kd.S_get bb.out z84 bc b5 (by first | exact b4 | exact of_decide_eq_true zx19_0 | (have e_ := (Kd.S_reads' bb.out).1; omega))
     obtain ⟨dR, rfl, bw⟩ := k84_openM dd
     have bf := bV 2 _ rfl
     rw [add_field _ _ 2 (by omega)] at bf
     replace bf := Option.some.inj (bf.symm.trans bp)
     rw [bf] at bw
     have dx := Aside0.mk (show Kd.R (Kd.int .u8) 5 _ _ _ _ ((rd_T84 ba bc).f2) from bw)
     clear bf bw
     have gg := Aside0.mk bp
     clear bV db
     have gh := Aside0.mk bK
     have gl := Aside0.mk bJ
     clear bK bJ
     replace b5 := eq_true b5
     replace b4 := eq_true b4
     have ea_ := Option.some.inj (be.symm.trans bp)
     injection ea_ with ea_ en_ ec_
     subst ea_
     subst ec_
     clear en_
     go_wp2
     go_roundg k3
     case measure => have := HJ2.out; have := HK2.out; have := HK3.out; omega
     case rel => exact ⟨(wrap64 (bl + 1)), (ba), (.slice (some bI) ba.length jM), zx19_6, H', ⟨by have := HJ2.out; have := HK2.out; have := HK3.out; omega⟩, ⟨by (with_reducible repeat (first | apply Kd.S_alloc | apply Kd.S_drewN | apply Kd.S_drew)); exact bb.out⟩, ⟨by (with_reducible repeat (first | refine blk_drewN ?_ _ | refine blk_drew ?_ | refine blk_alloc ?_ _)); exact bm.out⟩, ⟨by (with_reducible repeat (first | refine blk_drewN ?_ _ | refine blk_drew ?_ | refine blk_alloc ?_ _)); exact bk.out⟩, ⟨by (with_reducible repeat (first | refine blk_drewN ?_ _ | refine blk_drew ?_ | refine blk_alloc ?_ _)); exact bi.out⟩, ⟨by repeat (first | (with_reducible first | exact HB.out | apply below_alloc | apply pw_below_drewN | apply below_drew1 | refine below_set ?_ bU.out | refine below_set ?_ bW.out | refine below_set ?_ de.out) | exact HB.out)⟩⟩
    rw [if_pos c31] at H
    have hx : decide ((IntKind.u64.wrap (((rd_T84 ba bc).f1) + (IntKind.u64.wrap (bl)))) < a1) = true := decide_eq_true c31
    clear c31
    by_cases c32 : 0 ≤ bl
    case neg =>
     rw [if_neg c32] at H
     exact absurd H (by simp)
    rw [if_pos c32] at H
    have my : decide (0 ≤ bl) = true := decide_eq_true c32
    clear c32
    by_cases c33 : (rd ((rd_T84 ba bc).f2) bl) = 112
    case neg =>
     rw [if_neg c33] at H
     have hv : ((rd ((rd_T84 ba bc).f2) bl) == 112) = false := beq_eq_false_iff_ne.mpr c33
     have hu : ((rd ((rd_T84 ba bc).f2) bl) != 112) = true := bne_iff_ne.mpr c33
     have H' := Aside0.mk H
     clear H
     have ml := bB.out
     have j3 := bo.out
     have mj := bA.out
     have j2 := bn.out
     obtain ⟨jr, jq, jp, hZ, hY, hX⟩ := cx19_bc3 bi.out
     obtain ⟨mS, jN, jG⟩ := Kd.S_slice bb.out
     subst jG
     have bQ : 0 ≤ (bc : Int) := of_decide_eq_true zx19_0
     have bY : bc < (ba.length : Int) := of_decide_eq_true zx19_0
     obtain ⟨bI, dP, du, dO, dk, dj, be, br, bu⟩ := at_T84 (Kd.S_reads' bb.out).2.2 bc bQ bY
     cases dO
     obtain ⟨gq, b0, b1, bH⟩ := Kd.S_get bb.out z84 bc bQ zx19_5
     obtain ⟨df, rfl, bh⟩ := k84_openM b1
     have bd := bH 2 _ rfl
     rw [add_field _ _ 2 (by omega)] at bd
     replace bd := Option.some.inj (bd.symm.trans be)
     rw [bd] at bh
     have da := Aside0.mk (show Kd.R (Kd.int .u8) 5 _ _ _ _ ((rd_T84 ba bc).f2) from bh)
     clear bd bh
     have dv := Aside0.mk be
     clear bH b0
     have dw := Aside0.mk bu
     have dy := Aside0.mk br
     clear bu br
     replace bQ := eq_true bQ
     replace bY := eq_true bY
     have b5 : 0 ≤ (bc : Int) := of_decide_eq_true zx19_0
     have b4 : bc < (ba.length : Int) := of_decide_eq_true zx19_0
     obtain ⟨dD, gt, gr, gp, dU, dT, bp, bJ, bK⟩ := at_T84 (Kd.S_reads' bb.out).2.2 bc b5 b4
     obtain rfl : bI = dD := (by injection gp)
     obtain ⟨gS, db, dd, bV⟩ := Kd.S_get bb.out z84 bc b5 (by first | exact b4 | exact of_decide_eq_true zx19_0 | (have e_ := (Kd.S_reads' bb.out).1; omega))
     obtain ⟨dR, rfl, bw⟩ := k84_openM dd
     have bf := bV 2 _ rfl
     rw [add_field _ _ 2 (by omega)] at bf
     replace bf := Option.some.inj (bf.symm.trans bp)
     rw [bf] at bw
     have dx := Aside0.mk (show Kd.R (Kd.int .u8) 5 _ _ _ _ ((rd_T84 ba bc).f2) from bw)
     clear bf bw
     have gg := Aside0.mk bp
     clear bV db
     have gh := Aside0.mk bK
     have gl := Aside0.mk bJ
     clear bK bJ
     replace b5 := eq_true b5
     replace b4 := eq_true b4
     have ea_ := Option.some.inj (be.symm.trans bp)
     injection ea_ with ea_ en_ ec_
     subst ea_
     subst ec_
     clear en_
     have dh : 0 ≤ (bc : Int) := of_decide_eq_true zx19_0
     have dg : bc < (ba.length : Int) := of_decide_eq_true zx19_0
     obtain ⟨gs, hj, he, gZ, gC, gB, bR, b7, b8⟩ := at_T84 (Kd.S_reads' bb.out).2.2 bc dh dg
     obtain rfl : bI = gs := (by injection gZ)
     obtain ⟨ht, dM, dN, dc⟩ := Kd.S_get bb.out z84 bc dh (by first | exact dg | exact of_decide_eq_true zx19_0 | (have e_ := (Kd.S_reads' bb.out).1; omega))
     obtain ⟨gy, rfl, bS⟩ := k84_openM dN
     have bq := dc 2 _ rfl
     rw [add_field _ _ 2 (by omega)] at bq
     replace bq := Option.some.inj (bq.symm.trans bR)
     rw [bq] at bS
     have gj := Aside0.mk (show Kd.R (Kd.int .u8) 5 _ _ _ _ ((rd_T84 ba bc).f2) from bS)
     clear bq bS
     have gL := Aside0.mk bR
     clear dc dM
     have b9 := Aside0.mk b8
     have gM := Aside0.mk b7
     clear b8 b7
     replace dh := eq_true dh
     replace dg := eq_true dg
     have ea_ := Option.some.inj (be.symm.trans bR)
     injection ea_ with ea_ en_ ec_
     subst ea_
     subst ec_
     clear en_
     have dF : 0 ≤ (bl : Int) := of_decide_eq_true zx19_0
     have dE : bl < (((rd_T84 ba bc).f2).length : Int) := of_decide_eq_true zx19_0
     obtain ⟨hA, gY, dS⟩ := Kd.at_int (by repeat (first | (with_reducible exact b9.out) | (with_reducible refine Kd.C_alloc ?_ _) | (with_reducible refine Kd.C_drewN ?_ _) | (with_reducible refine Kd.C_drew ?_) | exact b9.out)) bl dF dE
     cases gY
     replace dF := eq_true dF
     replace dE := eq_true dE
     go_wp2
     go_roundg k3
     case measure => have := HJ2.out; have := HK2.out; have := HK3.out; omega
     case rel => exact ⟨(wrap64 (bl + 1)), (ba), (.slice (some bI) ba.length jN), zx19_6, H', ⟨by have := HJ2.out; have := HK2.out; have := HK3.out; omega⟩, ⟨by (with_reducible repeat (first | apply Kd.S_alloc | apply Kd.S_drewN | apply Kd.S_drew)); exact bb.out⟩, ⟨by (with_reducible repeat (first | refine blk_drewN ?_ _ | refine blk_drew ?_ | refine blk_alloc ?_ _)); exact bm.out⟩, ⟨by (with_reducible repeat (first | refine blk_drewN ?_ _ | refine blk_drew ?_ | refine blk_alloc ?_ _)); exact bk.out⟩, ⟨by (with_reducible repeat (first | refine blk_drewN ?_ _ | refine blk_drew ?_ | refine blk_alloc ?_ _)); exact bi.out⟩, ⟨by repeat (first | (with_reducible first | exact HB.out | apply below_alloc | apply pw_below_drewN | apply below_drew1 | refine below_set ?_ bU.out | refine below_set ?_ bW.out | refine below_set ?_ de.out) | exact HB.out)⟩⟩
    rw [if_pos c33] at H
    have hv : ((rd ((rd_T84 ba bc).f2) bl) == 112) = true := beq_iff_eq.mpr c33
    have hu : ((rd ((rd_T84 ba bc).f2) bl) != 112) = false := bne_eq_false_iff_eq.mpr c33
    clear c33
    obtain ⟨gu, dA⟩ : ∃ y_ : List Int, y_ = (((rd_T84 ba bc).f2).set (bl : Int).toNat 101) := ⟨_, rfl⟩
    replace H : (postroomref10_Evict.l1 k3 a1 bc (wrap64 (bl + 1)) a1 bZ (ba.set (bc : Int).toNat (⟨(rd_T84 ba bc).f0, (rd_T84 ba bc).f1, gu⟩ : S84))) = some (r1, r2, r3, r4) := by first | (rw [dA]; with_reducible exact H) | (have H2_ := (Option.bind_some _ _).symm.trans H; rw [dA]; with_reducible exact H2_) | (have H2_ := (Option.bind_some _ _).symm.trans H; with_reducible exact H2_) | with_reducible exact H | (rw [dA]; exact H) | exact H
    have hC := Aside0.mk dA
    clear dA
    obtain ⟨gU, dz⟩ : ∃ y_ : List (S84), y_ = (ba.set (bc : Int).toNat (⟨(rd_T84 ba bc).f0, (rd_T84 ba bc).f1, gu⟩ : S84)) := ⟨_, rfl⟩
    replace H : (postroomref10_Evict.l1 k3 a1 bc (wrap64 (bl + 1)) a1 bZ gU) = some (r1, r2, r3, r4) := by first | (rw [dz]; with_reducible exact H) | (have H2_ := (Option.bind_some _ _).symm.trans H; rw [dz]; with_reducible exact H2_) | (have H2_ := (Option.bind_some _ _).symm.trans H; with_reducible exact H2_) | with_reducible exact H | (rw [dz]; exact H) | exact H
    have hB := Aside0.mk dz
    clear dz
    have H' := Aside0.mk H
    clear H
    have mo := bB.out
    have j5 := bo.out
    have mm := bA.out
    have j4 := bn.out
    obtain ⟨ju, jt, js, jc, jb, ja⟩ := cx19_bc3 bi.out
    obtain ⟨mT, ha, jH⟩ := Kd.S_slice bb.out
    subst jH
    have bQ : 0 ≤ (bc : Int) := of_decide_eq_true zx19_0
    have bY : bc < (ba.length : Int) := of_decide_eq_true zx19_0
    obtain ⟨bI, dP, du, dO, dk, dj, be, br, bu⟩ := at_T84 (Kd.S_reads' bb.out).2.2 bc bQ bY
    cases dO
    obtain ⟨gq, b0, b1, bH⟩ := Kd.S_get bb.out z84 bc bQ zx19_5
    obtain ⟨df, rfl, bh⟩ := k84_openM b1
    have bd := bH 2 _ rfl
    rw [add_field _ _ 2 (by omega)] at bd
    replace bd := Option.some.inj (bd.symm.trans be)
    rw [bd] at bh
    have da := Aside0.mk (show Kd.R (Kd.int .u8) 5 _ _ _ _ ((rd_T84 ba bc).f2) from bh)
    clear bd bh
    have dv := Aside0.mk be
    clear bH b0
    have dw := Aside0.mk bu
    have dy := Aside0.mk br
    clear bu br
    replace bQ := eq_true bQ
    replace bY := eq_true bY
    have b5 : 0 ≤ (bc : Int) := of_decide_eq_true zx19_0
    have b4 : bc < (ba.length : Int) := of_decide_eq_true zx19_0
    obtain ⟨dD, gt, gr, gp, dU, dT, bp, bJ, bK⟩ := at_T84 (Kd.S_reads' bb.out).2.2 bc b5 b4
    obtain rfl : bI = dD := (by injection gp)
    obtain ⟨gS, db, dd, bV⟩ := Kd.S_get bb.out z84 bc b5 (by first | exact b4 | exact of_decide_eq_true zx19_0 | (have e_ := (Kd.S_reads' bb.out).1; omega))
    obtain ⟨dR, rfl, bw⟩ := k84_openM dd
    have bf := bV 2 _ rfl
    rw [add_field _ _ 2 (by omega)] at bf
    replace bf := Option.some.inj (bf.symm.trans bp)
    rw [bf] at bw
    have dx := Aside0.mk (show Kd.R (Kd.int .u8) 5 _ _ _ _ ((rd_T84 ba bc).f2) from bw)
    clear bf bw
    have gg := Aside0.mk bp
    clear bV db
    have gh := Aside0.mk bK
    have gl := Aside0.mk bJ
    clear bK bJ
    replace b5 := eq_true b5
    replace b4 := eq_true b4
    have ea_ := Option.some.inj (be.symm.trans bp)
    injection ea_ with ea_ en_ ec_
    subst ea_
    subst ec_
    clear en_
    have dh : 0 ≤ (bc : Int) := of_decide_eq_true zx19_0
    have dg : bc < (ba.length : Int) := of_decide_eq_true zx19_0
    obtain ⟨gs, hj, he, gZ, gC, gB, bR, b7, b8⟩ := at_T84 (Kd.S_reads' bb.out).2.2 bc dh dg
    obtain rfl : bI = gs := (by injection gZ)
    obtain ⟨ht, dM, dN, dc⟩ := Kd.S_get bb.out z84 bc dh (by first | exact dg | exact of_decide_eq_true zx19_0 | (have e_ := (Kd.S_reads' bb.out).1; omega))
    obtain ⟨gy, rfl, bS⟩ := k84_openM dN
    have bq := dc 2 _ rfl
    rw [add_field _ _ 2 (by omega)] at bq
    replace bq := Option.some.inj (bq.symm.trans bR)
    rw [bq] at bS
    have gj := Aside0.mk (show Kd.R (Kd.int .u8) 5 _ _ _ _ ((rd_T84 ba bc).f2) from bS)
    clear bq bS
    have gL := Aside0.mk bR
    clear dc dM
    have b9 := Aside0.mk b8
    have gM := Aside0.mk b7
    clear b8 b7
    replace dh := eq_true dh
    replace dg := eq_true dg
    have ea_ := Option.some.inj (be.symm.trans bR)
    injection ea_ with ea_ en_ ec_
    subst ea_
    subst ec_
    clear en_
    have dF : 0 ≤ (bl : Int) := of_decide_eq_true zx19_0
    have dE : bl < (((rd_T84 ba bc).f2).length : Int) := of_decide_eq_true zx19_0
    obtain ⟨hA, gY, dS⟩ := Kd.at_int (by repeat (first | (with_reducible exact b9.out) | (with_reducible refine Kd.C_alloc ?_ _) | (with_reducible refine Kd.C_drewN ?_ _) | (with_reducible refine Kd.C_drew ?_) | exact b9.out)) bl dF dE
    cases gY
    replace dF := eq_true dF
    replace dE := eq_true dE
    have gA : 0 ≤ (bc : Int) := of_decide_eq_true zx19_0
    have gz : bc < (ba.length : Int) := of_decide_eq_true zx19_0
    obtain ⟨hz, jS, jP, jK, hK, hJ, di, dV, dW⟩ := at_T84 (Kd.S_reads' bb.out).2.2 bc gA gz
    obtain rfl : bI = hz := (by injection jK)
    obtain ⟨mw, gV, gW, go⟩ := Kd.S_get bb.out z84 bc gA (by first | exact gz | exact of_decide_eq_true zx19_0 | (have e_ := (Kd.S_reads' bb.out).1; omega))
    obtain ⟨hI, rfl, dt⟩ := k84_openM gW
    have b6 := go 2 _ rfl
    rw [add_field _ _ 2 (by omega)] at b6
    replace b6 := Option.some.inj (b6.symm.trans di)
    rw [b6] at dt
    have bX := Aside0.mk (show Kd.R (Kd.int .u8) 5 _ _ _ _ ((rd_T84 ba bc).f2) from dt)
    clear b6 dt
    have gK := Aside0.mk di
    clear go gV
    have jv := Aside0.mk dW
    have jw := Aside0.mk dV
    clear dW dV
    replace gA := eq_true gA
    replace gz := eq_true gz
    have ea_ := Option.some.inj (be.symm.trans di)
    injection ea_ with ea_ en_ ec_
    subst ea_
    subst ec_
    clear en_
    have p34 : 0 ≤ (bl : Int) := of_decide_eq_true zx19_0
    have q34 : (bl : Int) < ((((rd_T84 ba bc).f2).length : Int) : Int) := of_decide_eq_true zx19_0
    obtain ⟨gX, mM, hq, hp, jC, mN, hE⟩ := Kd.R_form bX.out (by omega)
    (first | cases hq | (injection hq with ea_ en_ ec_; (first | subst ea_ | (injection ea_ with ea_; subst ea_)); subst ec_; clear en_))
    have jQ := Aside0.mk hp
    have mP := Aside0.mk hE
    clear hp jC hE
    (first | simp only [add_plain] at dS | skip)
    obtain ⟨jy, jA⟩ := Kd.R_celln 0 bX.out (bl : Int) p34 q34
    replace p34 := eq_true p34
    replace q34 := eq_true q34
    have jz : (bc : Int) < (ba.length : Int) := (by have h_ : (bc : Int) < ((ba.length : Int) : Int) := of_decide_eq_true zx19_0; first | exact h_ | (have e_ := (Kd.S_reads' bb.out).1; omega) | simpa only [List.length_set, List.length_set] using h_)
    obtain ⟨hl, mO, hm, jB, gP, gO, gR⟩ := Kd.S_borrow bb.out z84 (bc : Int) (of_decide_eq_true zx19_0) jz
    obtain ⟨jx, rfl, ds⟩ := k84_openM jB
    have gD := gP 2 _ rfl
    rw [add_field _ _ 2 (by omega)] at gD
    replace gD := Option.some.inj (gD.symm.trans gK.out)
    subst gD
    clear gP hm
    replace ds := (show Kd.R (Kd.int .u8) 5 _ _ _ _ ((rd_T84 ba bc).f2) from ds)
    have hf := Kd.R_putg ds (bl : Int) 101
    go_wp2_with (first | ((with_reducible refine gate_store (t := 5) (p := 72) rfl ?_); refine store_event (t := 5) (p := 72) (v := ?vo_w40) (w1 := (wr.setCell ⟨gX, (bl : Int).toNat, none⟩ (.int .u8 101))) ?hg ?ho ?hn ?hr ?_; (case ho => rfl); (case hg => rfl); (case hn => rfl); (case hr => first | (go_simp; done) | (go_simp; rfl)); intro w40 hw; have hg : wr.grownBy w40 (some gX) := (by rw [hw]; exact hf.2); have hz_ : Kd.R (Kd.int .u8) 5 w40 w.heap.size hl (.slice (some ⟨gX, 0, none⟩) ((rd_T84 ba bc).f2).length du) gu := (by rw [hw, hC.out]; exact hf.1); have hp_ : Kd.S k84 84 w40 w.heap.size (fun _ => True) (.slice (some bI) ba.length ha) gU := (by rw [hB.out]; exact gR hg (fun k_ e_ => by injection e_ with e_; subst e_; exact ds.1 _ rfl) (k84_mkM _ _ _ (⟨(rd_T84 ba bc).f0, (rd_T84 ba bc).f1, gu⟩ : S84) hz_)); have hm_ := Kd.R_mono hz_ gO; clear hf gR; have n0_ := Aside0.mk (hp_); have n1_ := Aside0.mk (blk_grown (g := bD) (o := .cells #[.int .u64 bz, .int .u64 bE, .slice b3 bC.length b2] 57 (0, 0)) zx19_1 hg (Kd.R_ne bX.out bm.out (by decide))); have n2_ := Aside0.mk (blk_grown (g := bx) (o := .cells #[.int .u64 0, .int .u64 0, .slice none 0 0] 57 (0, 0)) zx19_3 hg (Kd.R_ne bX.out bk.out (by decide))); have n3_ := Aside0.mk (blk_grown (g := bG) (o := .cells #[.int .u64 a1, .int .u64 bZ, .slice (some bI) ba.length ha] 57 (0, 0)) (by (with_reducible repeat (first | refine blk_drewN ?_ _ | refine blk_drew ?_ | refine blk_alloc ?_ _)); exact bi.out) hg (Kd.R_ne bX.out bi.out (by decide))); have n4_ := Aside0.mk ((by rw [hw]; exact below_set (HB.out) jQ.out : Below w.heap.size w w40)); have n5_ := Aside0.mk (hm_); have n6_ := Aside0.mk ((Kd.R_reads' hm_).2.1); clear bb; clear bm; clear bk; clear bi; clear HB; clear da; clear dx; clear gj; clear bX; have bb := n0_; have bm := n1_; have bk := n2_; have bi := n3_; have HB := n4_; have mB := n5_; have mC := n6_; clear n0_ n1_ n2_ n3_ n4_ n5_ n6_; clear hg hw hp_ hz_ hm_ gO))
    go_roundg k3
    case measure => have := HJ2.out; have := HK2.out; have := HK3.out; omega
    case rel => exact ⟨(wrap64 (bl + 1)), (gU), (.slice (some bI) ba.length ha), zx19_6, H', ⟨by have := HJ2.out; have := HK2.out; have := HK3.out; omega⟩, ⟨by (with_reducible repeat (first | apply Kd.S_alloc | apply Kd.S_drewN | apply Kd.S_drew)); exact bb.out⟩, ⟨by (with_reducible repeat (first | refine blk_drewN ?_ _ | refine blk_drew ?_ | refine blk_alloc ?_ _)); exact bm.out⟩, ⟨by (with_reducible repeat (first | refine blk_drewN ?_ _ | refine blk_drew ?_ | refine blk_alloc ?_ _)); exact bk.out⟩, ⟨by (with_reducible repeat (first | refine blk_drewN ?_ _ | refine blk_drew ?_ | refine blk_alloc ?_ _)); exact bi.out⟩, ⟨by repeat (first | (with_reducible first | exact HB.out | apply below_alloc | apply pw_below_drewN | apply below_drew1 | refine below_set ?_ bU.out | refine below_set ?_ bW.out | refine below_set ?_ de.out) | exact HB.out)⟩⟩
end Go.Proofs.YthhmpjapnkilcaaDoor.XLdg
end
section
/- What the functions of the translation answer, each as a plain Lean function, and that the code comes to it; for a law: its row. Conditions: none but those that each theorem names. Written by a program of this session (wip/xp). -/
namespace Go.Proofs.YthhmpjapnkilcaaDoor.XLdg
open Go.RowKit Go.Proofs.YthhmpjapnkilcaaDoorW.PrintWords Go.Proofs.YthhmpjapnkilcaaDoorW.PrintLast Go.Proofs.YthhmpjapnkilcaaDoorW.PrintMore
attribute [local go_sem] max2_int min2_int max_two min_two max_three min_three max_four min_four   -- for this text's walks alone
set_option linter.unusedVariables false
set_option linter.unusedSimpArgs false

/-! ### ledger_Right: function 24 -/
mutual
def ledger_Right.j0 : Nat → Bool → Int → Int → List (S37) → Option (Bool)
 | 0, _, _, _, _ => none
 | k + 1, x20, bK, bJ, bx => if x20 = true then (some false) else (ledger_Right.l0 k bx (bx.length : Int) 0 bK bJ bx)
def ledger_Right.l0 : Nat → List (S37) → Int → Int → Int → Int → List (S37) → Option (Bool)
 | 0, _, _, _, _, _, _ => none
 | k + 1, x22, x23, x24, bK, bJ, bx => if x24 < x23 then (if 0 ≤ x24 then (if x24 < (x22.length : Int) then ((ledger_Dest_right.f k ((rd_T37 x22 x24).f0) ((rd_T37 x22 x24).f1) ((rd_T37 x22 x24).f2) ((rd_T37 x22 x24).f3) ((rd_T37 x22 x24).f4) ((rd_T37 x22 x24).f5) ((rd_T37 x22 x24).f6) bK bJ bx).bind fun di => (if di = true then (if x24 ≤ (bx.length : Int) then ((ledger_place.f (bx.take (x24 : Int).toNat) ((rd_T37 x22 x24).f0)).bind fun bD => (if bD ≥ 0 then (some false) else (ledger_Right.l0 k x22 x23 (wrap64 (x24 + 1)) bK bJ bx))) else (none)) else (some false))) else (none)) else (none)) else (some true)
end
def ledger_Right.f (k : Nat) (bh : Int) (bj : Int) (bb : List (S37)) : Option (Bool) := if bh < 1 then (ledger_Right.j0 k true bh bj bb) else (if bh > bj then (ledger_Right.j0 k true bh bj bb) else (ledger_Right.j0 k (decide ((bb.length : Int) > 4)) bh bj bb))
def ledger_Right.T6 : Bool × List (List Nat × List Nat) := (true, [([], []), ([], []), ([0, 1], [0, 1]), ([2], [2]), ([3, 2], [3]), ([4], [4]), ([5, 4], [4, 5]), ([4], [4]), ([6, 7, 4], [4, 6, 7]), ([4], [4]), ([9, 4], [4, 9]), ([8, 10, 4, 4], [4, 8, 10]), ([11, 4], [4, 11]), ([4, 12], [4, 12])])
def ledger_Right.B6 : List Nat := [0, 0, 3, 7, 15, 31, 63, 31, 255, 31, 543, 2047, 4095, 8191]
end Go.Proofs.YthhmpjapnkilcaaDoor.XLdg
end
section
/- What the functions of the translation answer, each as a plain Lean function, and that the code comes to it; for a law: its row. Conditions: none but those that each theorem names. Written by a program of this session (wip/xp). -/
namespace Go.Proofs.YthhmpjapnkilcaaDoor.XLdg
open Go.RowKit Go.Proofs.YthhmpjapnkilcaaDoorW.PrintWords Go.Proofs.YthhmpjapnkilcaaDoorW.PrintLast Go.Proofs.YthhmpjapnkilcaaDoorW.PrintMore
attribute [local go_sem] max2_int min2_int max_two min_two max_three min_three max_four min_four   -- for this text's walks alone
set_option linter.unusedVariables false
set_option linter.unusedSimpArgs false

/-! ### postroomref10_Pending: function 28 -/
mutual
def postroomref10_Pending.l0 : Nat → ByteArray → List Int → Int → Int → Int → Int → List (S84) → Option (List Int)
 | 0, _, _, _, _, _, _, _ => none
 | k + 1, x1, x5, x6, x7, bk, bf, bj => if x6 ≥ 0 then (postroomref10_Pending.j1 k x1 x5 x6 x7 (decide (x7 < bf)) bk bf bj) else (postroomref10_Pending.j1 k x1 x5 x6 x7 false bk bf bj)
def postroomref10_Pending.j1 : Nat → ByteArray → List Int → Int → Int → Bool → Int → Int → List (S84) → Option (List Int)
 | 0, _, _, _, _, _, _, _, _ => none
 | k + 1, x1, x5, x6, x7, x18, bk, bf, bj => if x18 = true then ((postroomref10_Waits.f k bk bf bj x1 x7).bind fun br => (if br = true then (if x5.length < 17592186044416 then (postroomref10_Pending.l0 k x1 (x5 ++ [x7]) x6 (IntKind.u64.wrap (x7 + 1)) bk bf bj) else (none)) else (postroomref10_Pending.l0 k x1 x5 x6 (IntKind.u64.wrap (x7 + 1)) bk bf bj))) else (some x5)
end
def postroomref10_Pending.f (k : Nat) (bd : Int) (bc : Int) (ba : List (S84)) (a1 : ByteArray) : Option (List Int) := (postroomref10_place.f k bd bc ba a1).bind fun bh => (postroomref10_Pending.l0 k a1 ([] : List Int) bh 1 bd bc ba)
end Go.Proofs.YthhmpjapnkilcaaDoor.XLdg
end
section
/- What the functions of the translation answer, each as a plain Lean function, and that the code comes to it; for a law: its row. Conditions: none but those that each theorem names. Written by a program of this session (wip/xp). -/
namespace Go.Proofs.YthhmpjapnkilcaaDoor.XLdg
open Go.RowKit Go.Proofs.YthhmpjapnkilcaaDoorW.PrintWords Go.Proofs.YthhmpjapnkilcaaDoorW.PrintLast Go.Proofs.YthhmpjapnkilcaaDoorW.PrintMore
attribute [local go_sem] max2_int min2_int max_two min_two max_three min_three max_four min_four   -- for this text's walks alone
set_option linter.unusedVariables false
set_option linter.unusedSimpArgs false

/-! ### postroomref10_Free: function 30 -/
mutual
def postroomref10_Free.l0 : Nat → Int → Int → Int → List (S84) → Option (Int)
 | 0, _, _, _, _ => none
 | k + 1, x3, bq, bn, bm => if x3 < bn then (postroomref10_Free.l1 k x3 0 bq bn bm) else (some bn)
def postroomref10_Free.l1 : Nat → Int → Int → Int → Int → List (S84) → Option (Int)
 | 0, _, _, _, _, _ => none
 | k + 1, x3, x4, bq, bn, bm => if x4 < (bm.length : Int) then (if 0 ≤ x4 then ((postroomref10_Waits.f k bq bn bm ((rd_T84 bm x4).f0) x3).bind fun bH => (if bH = true then (some x3) else (postroomref10_Free.l1 k x3 (wrap64 (x4 + 1)) bq bn bm))) else (none)) else (postroomref10_Free.l0 k (IntKind.u64.wrap (x3 + 1)) bq bn bm)
end
def postroomref10_Free.f (k : Nat) (bl : Int) (bk : Int) (bb : List (S84)) : Option (Int) := postroomref10_Free.l0 k 1 bl bk bb
def postroomref10_Free.T7 : Bool × List (List Nat × List Nat) := (true, [([], []), ([], []), ([1], [1]), ([], []), ([2, 3], [2, 3]), ([4], [4]), ([5], [5]), ([], []), ([0, 6, 7], [0, 6, 7])])
def postroomref10_Free.B7 : List Nat := [0, 0, 2, 0, 14, 30, 62, 0, 255]
end Go.Proofs.YthhmpjapnkilcaaDoor.XLdg
end
