/- Texts of this seat, in one. Conditions: those that each theorem names. -/
import Derived.Test.YthhmpjapnkilcaaDoorXLdgP1
import Derived.Test.YthhmpjapnkilcaaDoorGClone
import Derived.Test.YthhmpjapnkilcaaDoorGLabelName
import Derived.Test.YthhmpjapnkilcaaDoorGPlace
section
/- What the functions of the translation answer, each as a plain Lean function, and that the code comes to it; for a law: its row. Conditions: none but those that each theorem names. Written by a program of this session (wip/xp). -/
namespace Go.Proofs.YthhmpjapnkilcaaDoor.XLdg
open Go.RowKit Go.Proofs.YthhmpjapnkilcaaDoorW.PrintWords Go.Proofs.YthhmpjapnkilcaaDoorW.PrintLast Go.Proofs.YthhmpjapnkilcaaDoorW.PrintMore
attribute [local go_sem] max2_int min2_int max_two min_two max_three min_three max_four min_four   -- for this text's walks alone
theorem cx19_bc3 {w : World} {g : Nat} {t : TypeId} {x0 x1 x2 : Value} (h : w.heap[g]? = some (.cells #[x0, x1, x2] t (0, 0))) : w.cell? ⟨g, 0, none⟩ = some x0 ∧ w.cell? ⟨g, 1, none⟩ = some x1 ∧ w.cell? ⟨g, 2, none⟩ = some x2 ∧ w.frozen? ⟨g, 0, none⟩ = false ∧ w.frozen? ⟨g, 1, none⟩ = false ∧ w.frozen? ⟨g, 2, none⟩ = false :=
 ⟨(blk_cell h 0).trans rfl, (blk_cell h 1).trans rfl, (blk_cell h 2).trans rfl, blk_frozen h 0, blk_frozen h 1, blk_frozen h 2⟩
theorem zx19_6 {p : Prop} (h : p := by first | rfl | (simp; done) | (simp [*]; done)) : p := h
theorem zx19_0 {p : Prop} (h : p := by first | (with_reducible assumption) | assumption) : p := h
theorem zx19_5 {p : Prop} (h : p := by first | exact bY | exact of_decide_eq_true zx19_0 | (have e_ := (Kd.S_reads' bb.out).1; omega)) : p := h
theorem zx19_1 {p : Prop} (h : p := by (with_reducible repeat (first | refine blk_drewN ?_ _ | refine blk_drew ?_ | refine blk_alloc ?_ _)); exact bm.out) : p := h
theorem zx19_3 {p : Prop} (h : p := by (with_reducible repeat (first | refine blk_drewN ?_ _ | refine blk_drew ?_ | refine blk_alloc ?_ _)); exact bk.out) : p := h
theorem zx19_7 {p : Prop} (h : p := by repeat (first | (with_reducible first | exact HB.out | apply below_alloc | apply pw_below_drewN | apply below_drew1) | exact HB.out)) : p := h
theorem zx19_4 {p : Prop} (h : p := by repeat (first | (with_reducible first | exact HB.out | apply below_alloc | apply pw_below_drewN | apply below_drew1 | refine below_set ?_ bU.out) | exact HB.out)) : p := h
theorem zx19_2 {p : Prop} (h : p := by repeat (first | (with_reducible first | exact HB.out | apply below_alloc | apply pw_below_drewN | apply below_drew1 | refine below_set ?_ bU.out | refine below_set ?_ bW.out) | exact HB.out)) : p := h
set_option linter.unusedVariables false
set_option linter.unusedSimpArgs false

/-! ### postroomref10_Evict: function 44 -/
mutual
def postroomref10_Evict.j0 : Nat → Int → Bool → Int → Int → List (S84) → Option (Int × Int × (List (S84)) × Int)
 | 0, _, _, _, _, _ => none
 | k + 1, x1, x18, gx, gw, gv => if x18 = true then (some (0, 0, ([] : List (S84)), 1)) else ((postroomref10_copied.f k gx gw gv).bind fun dC => (postroomref10_Evict.l0 k x1 0 x1 dC.2.1 dC.2.2))
def postroomref10_Evict.l0 : Nat → Int → Int → Int → Int → List (S84) → Option (Int × Int × (List (S84)) × Int)
 | 0, _, _, _, _, _ => none
 | k + 1, x1, x7, bO, bN, bg => if x7 < (bg.length : Int) then (postroomref10_Evict.l1 k x1 x7 0 bO bN bg) else (some (bO, bN, bg, 0))
def postroomref10_Evict.l1 : Nat → Int → Int → Int → Int → Int → List (S84) → Option (Int × Int × (List (S84)) × Int)
 | 0, _, _, _, _, _, _ => none
 | k + 1, x1, x7, x8, bO, bN, bg => if 0 ≤ x7 then (if x7 < (bg.length : Int) then (if x8 < (((rd_T84 bg x7).f2).length : Int) then (if (IntKind.u64.wrap (((rd_T84 bg x7).f1) + (IntKind.u64.wrap (x8)))) < x1 then (if 0 ≤ x8 then (if (rd ((rd_T84 bg x7).f2) x8) = 112 then (postroomref10_Evict.l1 k x1 x7 (wrap64 (x8 + 1)) bO bN (bg.set (x7 : Int).toNat (⟨(rd_T84 bg x7).f0, (rd_T84 bg x7).f1, (((rd_T84 bg x7).f2).set (x8 : Int).toNat 101)⟩ : S84))) else (postroomref10_Evict.l1 k x1 x7 (wrap64 (x8 + 1)) bO bN bg)) else (none)) else (postroomref10_Evict.l1 k x1 x7 (wrap64 (x8 + 1)) bO bN bg)) else (postroomref10_Evict.l0 k x1 (wrap64 (x7 + 1)) bO bN bg)) else (none)) else (none)
end
def postroomref10_Evict.f (k : Nat) (bz : Int) (bE : Int) (bC : List (S84)) (a1 : Int) : Option (Int × Int × (List (S84)) × Int) := if a1 < bz then (postroomref10_Evict.j0 k a1 true bz bE bC) else (postroomref10_Evict.j0 k a1 (decide (a1 > bE)) bz bE bC)
set_option maxHeartbeats 8000000 in
set_option maxRecDepth 100000 in
theorem postroomref10_Evict.calls (k : Nat) (bz : Int) (bE : Int) (b3 : Option Addr) (b2 : Nat) (bC : List (S84)) (a1 : Int) (r1 : Int) (r2 : Int) (r3 : List (S84)) (r4 : Int) (w : World) (gN : Kd.C k84 w b3 bC.length bC) (gQ : bC.length ≤ b2) (h : postroomref10_Evict.f k bz bE bC a1 = some (r1, r2, r3, r4)) :
  Calls Tryd.prog 44 #[.agg #[.int .u64 bz, .int .u64 bE, .slice b3 bC.length b2], .int .u64 a1] w fun e w' => ∃ v2_ : Value, e = .returned (.tuple #[.agg #[.int .u64 r1, .int .u64 r2, v2_], .int .i64 r4]) ∧ Kd.S k84 84 w' w.heap.size (fun _ => True) v2_ r3 ∧ Below w.heap.size w w' := by
 have mH := Tryd.underlying57
 have hD := Aside0.mk gN
 have hF := Aside0.mk gQ
 clear gN gQ
 have HB := Aside0.mk (Below.refl w.heap.size w)
 have H : (if a1 < bz then (postroomref10_Evict.j0 k a1 true bz bE bC) else (postroomref10_Evict.j0 k a1 (decide (a1 > bE)) bz bE bC)) = some (r1, r2, r3, r4) := h
 clear h
 have HC3 := Aside0.mk H
 clear H
 go_enter Tryd.func44, Tryd.ntmps44
 go_upto_region 1 with (first | ((with_reducible refine gate_dst (N := 2) rfl ?_); refine box_event ?hg (N := 2) ?hd (cs := #[.int .u64 bz, .int .u64 bE, .slice b3 bC.length b2]) (t := 57) ?hr ?_; (case hd => rfl); (case hg => rfl); (case hr => first | (go_simp; done) | (go_simp; rfl)); intro bD hg w4 hbox hb; have bm := Aside0.mk (hbox); have mF := Aside0.mk ((by rw [hg]; exact (below_size zx19_7) : w.heap.size ≤ bD)); have bU := Aside0.mk ((by rw [hg]; exact (below_size zx19_7) : w.heap.size ≤ bD)); replace HB := Aside0.mk (below_step zx19_7 hb); clear hb hbox hg) | ((with_reducible refine gate_dst (N := 4) rfl ?_); refine box_event ?hg (N := 4) ?hd (cs := #[.int .u64 0, .int .u64 0, .slice none 0 0]) (t := 57) ?hr ?_; (case hd => rfl); (case hg => rfl); (case hr => first | (go_simp; done) | (go_simp; rfl)); intro bx hg w5 hbox hb; have bk := Aside0.mk (hbox); have mE := Aside0.mk ((by rw [hg]; exact (below_size zx19_4) : w.heap.size ≤ bx)); have bW := Aside0.mk ((by rw [hg]; exact (below_size zx19_4) : w.heap.size ≤ bx)); replace HB := Aside0.mk (below_step zx19_4 hb); have bM := Aside0.mk ((by rw [hg]; exact Nat.ne_of_lt (blk_lt (g := bD) (o := .cells #[.int .u64 bz, .int .u64 bE, .slice b3 bC.length b2] 57 (0, 0)) zx19_1) : bD ≠ bx)); have bL := Aside0.mk ((by rw [hg]; exact Nat.ne_of_gt (blk_lt (g := bD) (o := .cells #[.int .u64 bz, .int .u64 bE, .slice b3 bC.length b2] 57 (0, 0)) zx19_1) : bx ≠ bD)); replace bm := Aside0.mk (blk_below (g := bD) (o := .cells #[.int .u64 bz, .int .u64 bE, .slice b3 bC.length b2] 57 (0, 0)) zx19_1 hb); clear hb hbox hg))
 (try simp only [Act.put, List.setIfInBounds_toArray, List.set_cons_zero, List.set_cons_succ])
 go_cut [18] (fun v18 wc => ∃ (kq : Nat) (dQ : Bool), v18 = .bool dQ ∧ Aside0 (postroomref10_Evict.j0 kq a1 dQ bz bE bC = some (r1, r2, r3, r4)) ∧ Aside0 (kq ≤ k) ∧ Aside0 (wc.heap[bD]? = some (.cells #[.int .u64 bz, .int .u64 bE, (.slice b3 bC.length b2)] 57 (0, 0))) ∧ Aside0 (wc.heap[bx]? = some (.cells #[.int .u64 0, .int .u64 0, (.slice none 0 0)] 57 (0, 0))) ∧ Aside0 (Below w.heap.size w wc))
 case first =>
  have H := HC3.out
  clear HC3
  by_cases c6 : a1 < bz
  ·rw [if_pos c6] at H
   have dB : decide (a1 < bz) = true := decide_eq_true c6
   clear c6
   (first | rw [dB] | (simp only [i64_w, i32_w]; rw [dB]) | skip)
   have H' := Aside0.mk H
   clear H
   have mL := bM.out
   have mJ := bL.out
   obtain ⟨dL, dK, dJ, dI, dH, dG⟩ := cx19_bc3 bm.out
   go_wp2
   go_meet
   case rel => exact ⟨_, (true), zx19_6, H', ⟨by first | omega | exact Nat.le_refl _⟩, ⟨by (with_reducible repeat (first | refine blk_drewN ?_ _ | refine blk_drew ?_ | refine blk_alloc ?_ _)); exact bm.out⟩, ⟨by (with_reducible repeat (first | refine blk_drewN ?_ _ | refine blk_drew ?_ | refine blk_alloc ?_ _)); exact bk.out⟩, ⟨by repeat (first | (with_reducible first | exact HB.out | apply below_alloc | apply pw_below_drewN | apply below_drew1 | refine below_set ?_ bU.out | refine below_set ?_ bW.out) | exact HB.out)⟩⟩
  rw [if_neg c6] at H
  have dB : decide (a1 < bz) = false := decide_eq_false c6
  clear c6
  (first | rw [dB] | (simp only [i64_w, i32_w]; rw [dB]) | skip)
  have H' := Aside0.mk H
  clear H
  have mK := bM.out
  have mI := bL.out
  obtain ⟨dr, dq, dp, dn, dm, dl⟩ := cx19_bc3 bm.out
  go_wp2
  go_meet
  case rel => exact ⟨_, (decide (a1 > bE)), zx19_6, H', ⟨by first | omega | exact Nat.le_refl _⟩, ⟨by (with_reducible repeat (first | refine blk_drewN ?_ _ | refine blk_drew ?_ | refine blk_alloc ?_ _)); exact bm.out⟩, ⟨by (with_reducible repeat (first | refine blk_drewN ?_ _ | refine blk_drew ?_ | refine blk_alloc ?_ _)); exact bk.out⟩, ⟨by repeat (first | (with_reducible first | exact HB.out | apply below_alloc | apply pw_below_drewN | apply below_drew1 | refine below_set ?_ bU.out | refine below_set ?_ bW.out) | exact HB.out)⟩⟩
 case rest =>
  clear HC3
  (try clear p2); (try clear c4); (try clear c6); (try clear dB); (try clear c7); (try clear c9); (try clear dr); (try clear dq); (try clear dp); (try clear dL); (try clear dK); (try clear dJ); (try clear dn); (try clear dm); (try clear dl); (try clear dI); (try clear dH); (try clear dG)
  obtain ⟨kq, dQ, rfl, HA, HJ2, bm, bk, HB⟩ := hcut
  cases kq with
  | zero => exact absurd HA.out (by simp [postroomref10_Evict.j0])
  | succ kj2 => ?_
  have H := HA.out
  clear HA
  simp only [postroomref10_Evict.j0] at H
  by_cases c11 : dQ = true
  ·subst c11
   have H1 : (some (0, 0, ([] : List (S84)), 1)) = some (r1, r2, r3, r4) := by rw [if_pos rfl] at H; exact H
   clear H
   have H := H1
   clear H1
   simp only [Option.some.injEq, Prod.mk.injEq] at H
   obtain ⟨rfl, rfl, rfl, rfl⟩ := H
   have mv := bL.out
   have mb := bM.out
   obtain ⟨gf, ge, gc, d5, d4, d3⟩ := cx19_bc3 bk.out
   go_wp2
   refine bodyPost_ret (results_ct rfl _ _ bx 57 #[.int .u64 0, .int .u64 0, .slice none 0 0] (0, 0) _ rfl (by (with_reducible repeat (first | refine blk_drewN ?_ _ | refine blk_drew ?_ | refine blk_alloc ?_ _)); refine blk_put (cs := #[.int .u64 0, .int .u64 0, .slice none 0 0]) ?_ 2 _ rfl; (with_reducible repeat (first | refine blk_drewN ?_ _ | refine blk_drew ?_ | refine blk_alloc ?_ _)); refine blk_put (cs := #[.int .u64 0, .int .u64 0, .slice none 0 0]) ?_ 1 _ rfl; (with_reducible repeat (first | refine blk_drewN ?_ _ | refine blk_drew ?_ | refine blk_alloc ?_ _)); refine blk_put (cs := #[.int .u64 0, .int .u64 0, .slice none 0 0]) ?_ 0 _ rfl; (with_reducible repeat (first | refine blk_drewN ?_ _ | refine blk_drew ?_ | refine blk_alloc ?_ _)); exact bk.out) Tryd.underlying57 rfl (by kernel_rfl)) rfl ?_
   exact ⟨_, by first | rfl | (simp [errW_none, errW_some] <;> rfl) | (simp [*, errW_none, errW_some] <;> rfl), by first | exact Kd.S_nil _ _ _ _ _ | exact Kd.N_nil _ _ _ _ _ | exact Kd.V_nil _ _ _ _ _ | exact Kd.Q_nil _ _ _ _ _ | exact Kd.R_nil _ _ _ _ _, by repeat (first | (with_reducible first | exact HB.out | apply below_alloc | apply pw_below_drewN | apply below_drew1 | refine below_set ?_ bU.out | refine below_set ?_ bW.out) | exact HB.out)⟩
  replace c11 := Bool.eq_false_iff.mpr c11
  subst c11
  have H1 : ((postroomref10_copied.f kj2 bz bE bC).bind fun dC => (postroomref10_Evict.l0 kj2 a1 0 a1 dC.2.1 dC.2.2)) = some (r1, r2, r3, r4) := by rw [if_neg (show ¬ (false = true) by decide)] at H; exact H
  clear H
  have H := H1
  clear H1
  replace H := Option.bind_eq_some_iff.mp H
  obtain ⟨⟨gn, bZ, gm⟩, hH, H⟩ := H
  replace H : (postroomref10_Evict.l0 kj2 a1 0 a1 bZ gm) = some (r1, r2, r3, r4) := H
  have A14 := Aside0.mk hH
  clear hH
  have H' := Aside0.mk H
  clear H
  have mu := bM.out
  have ma := bL.out
  obtain ⟨gb, ga, d9, d2, d1, d0⟩ := cx19_bc3 bm.out
  go_wp2_with (first | ((with_reducible refine gate_callee (f := 53) rfl ?_); refine goesL_ (some 21) rfl rfl Tryd.func53 (by kernel_rfl) rfl #[.agg #[.int .u64 bz, .int .u64 bE, .slice b3 bC.length b2]] rfl (by (try simp only [List.map_toArray, List.map_cons, List.map_nil]); first | done | rfl | (simp only [List.length_drop, List.length_take]; rfl)) ?_; (with_reducible refine (postroomref10_copied.calls kj2 bz bE _ _ bC gn bZ gm _ ?side1 ?side2 A14.out).mono ?_); (case side1 => repeat (first | exact (Kd.C_below hD.out HB.out) | (with_reducible refine Kd.C_alloc ?_ _) | (with_reducible refine Kd.C_drewN ?_ _) | (with_reducible refine Kd.C_drew ?_))); (case side2 => exact hF.out); rintro e w17 ⟨mG, rfl, ho0, hb⟩; refine ⟨_, rfl, ?_⟩; have gi := Aside0.mk (Kd.S_lower ho0 (below_size zx19_2)); replace bm := Aside0.mk (blk_below (g := bD) (o := .cells #[.int .u64 bz, .int .u64 bE, .slice b3 bC.length b2] 57 (0, 0)) zx19_1 hb); replace bk := Aside0.mk (blk_below (g := bx) (o := .cells #[.int .u64 0, .int .u64 0, .slice none 0 0] 57 (0, 0)) zx19_3 hb); replace HB := Aside0.mk (below_step zx19_2 hb); (try clear hb); (try clear hb2); (try clear hk); (try clear hi); (try clear ho0)) | ((with_reducible refine gate_dst (N := 6) rfl ?_); refine box_event ?hg (N := 6) ?hd (cs := #[.int .u64 0, .int .u64 0, .slice none 0 0]) (t := 57) ?hr ?_; (case hd => rfl); (case hg => rfl); (case hr => first | (go_simp; done) | (go_simp; rfl)); intro bG hg w18 hbox hb; replace gi := Aside0.mk (Kd.S_below (by (with_reducible repeat (first | apply Kd.S_alloc | apply Kd.S_drewN | apply Kd.S_drew)); exact gi.out) hb); have bi := Aside0.mk (hbox); have mD := Aside0.mk ((by rw [hg]; exact (below_size zx19_2) : w.heap.size ≤ bG)); have de := Aside0.mk ((by rw [hg]; exact (below_size zx19_2) : w.heap.size ≤ bG)); replace HB := Aside0.mk (below_step zx19_2 hb); have bo := Aside0.mk ((by rw [hg]; exact Nat.ne_of_lt (blk_lt (g := bD) (o := .cells #[.int .u64 bz, .int .u64 bE, .slice b3 bC.length b2] 57 (0, 0)) zx19_1) : bD ≠ bG)); have bB := Aside0.mk ((by rw [hg]; exact Nat.ne_of_gt (blk_lt (g := bD) (o := .cells #[.int .u64 bz, .int .u64 bE, .slice b3 bC.length b2] 57 (0, 0)) zx19_1) : bG ≠ bD)); replace bm := Aside0.mk (blk_below (g := bD) (o := .cells #[.int .u64 bz, .int .u64 bE, .slice b3 bC.length b2] 57 (0, 0)) zx19_1 hb); have bn := Aside0.mk ((by rw [hg]; exact Nat.ne_of_lt (blk_lt (g := bx) (o := .cells #[.int .u64 0, .int .u64 0, .slice none 0 0] 57 (0, 0)) zx19_3) : bx ≠ bG)); have bA := Aside0.mk ((by rw [hg]; exact Nat.ne_of_gt (blk_lt (g := bx) (o := .cells #[.int .u64 0, .int .u64 0, .slice none 0 0] 57 (0, 0)) zx19_3) : bG ≠ bx)); replace bk := Aside0.mk (blk_below (g := bx) (o := .cells #[.int .u64 0, .int .u64 0, .slice none 0 0] 57 (0, 0)) zx19_3 hb); clear hb hbox hg; have mt := bB.out; have j9 := bo.out; have ms := bA.out; have j8 := bn.out; have d8 : w18.cell? ⟨bG, 0, none⟩ = some (.int .u64 0) := (blk_cell bi.out 0).trans rfl; have d7 : w18.cell? ⟨bG, 1, none⟩ = some (.int .u64 0) := (blk_cell bi.out 1).trans rfl; have d6 : w18.cell? ⟨bG, 2, none⟩ = some (.slice none 0 0) := (blk_cell bi.out 2).trans rfl; have dZ := blk_frozen bi.out 0; have dY := blk_frozen bi.out 1; have dX := blk_frozen bi.out 2; obtain ⟨hh, hc, jJ⟩ := Kd.S_slice gi.out; subst jJ))
  go_loopg [7] kj2 (fun kq v7 w' => ∃ (bc : Int) (bj : List (S84)) (bP : Value), v7 = .int .i64 bc ∧ Aside0 (postroomref10_Evict.l0 kq a1 bc a1 bZ bj = some (r1, r2, r3, r4)) ∧ Aside0 (kq ≤ kj2) ∧ Aside0 (Kd.S k84 84 w' w.heap.size (fun _ => True) bP bj) ∧ Aside0 (w'.heap[bD]? = some (.cells #[.int .u64 bz, .int .u64 bE, (.slice b3 bC.length b2)] 57 (0, 0))) ∧ Aside0 (w'.heap[bx]? = some (.cells #[.int .u64 0, .int .u64 0, (.slice none 0 0)] 57 (0, 0))) ∧ Aside0 (w'.heap[bG]? = some (.cells #[.int .u64 a1, .int .u64 bZ, bP] 57 (0, 0))) ∧ Aside0 (Below w.heap.size w w'))
  case atStart => exact ⟨(0), (gm), (.slice hh gm.length hc), zx19_6, H', ⟨Nat.le_refl _⟩, ⟨by (with_reducible repeat (first | apply Kd.S_alloc | apply Kd.S_drewN | apply Kd.S_drew)); exact Kd.S_mono (Kd.S_far (p := ⟨bG, 0, none⟩) (Kd.S_far (p := ⟨bG, 2, none⟩) (Kd.S_far (p := ⟨bG, 1, none⟩) (Kd.S_far (p := ⟨bG, 0, none⟩) (Kd.S_types gi.out bi.out (by decide)) (fun _ hk => hk.2) (.int .u64 gn)) (fun _ hk => hk.2) (.int .u64 bZ)) (fun _ hk => hk.2) (.slice hh gm.length hc)) (fun _ hk => hk.2) (.int .u64 a1)) (fun _ hk => trivial)⟩, ⟨by (iterate 4 ((with_reducible repeat (first | refine blk_drewN ?_ _ | refine blk_drew ?_ | refine blk_alloc ?_ _)); refine blk_far ?_ bo.out _)); (with_reducible repeat (first | refine blk_drewN ?_ _ | refine blk_drew ?_ | refine blk_alloc ?_ _)); exact bm.out⟩, ⟨by (iterate 4 ((with_reducible repeat (first | refine blk_drewN ?_ _ | refine blk_drew ?_ | refine blk_alloc ?_ _)); refine blk_far ?_ bn.out _)); (with_reducible repeat (first | refine blk_drewN ?_ _ | refine blk_drew ?_ | refine blk_alloc ?_ _)); exact bk.out⟩, ⟨by (with_reducible repeat (first | refine blk_drewN ?_ _ | refine blk_drew ?_ | refine blk_alloc ?_ _)); refine blk_put (cs := #[.int .u64 gn, .int .u64 bZ, .slice hh gm.length hc]) ?_ 0 _ rfl; (with_reducible repeat (first | refine blk_drewN ?_ _ | refine blk_drew ?_ | refine blk_alloc ?_ _)); refine blk_put (cs := #[.int .u64 gn, .int .u64 bZ, .slice none 0 0]) ?_ 2 _ rfl; (with_reducible repeat (first | refine blk_drewN ?_ _ | refine blk_drew ?_ | refine blk_alloc ?_ _)); refine blk_put (cs := #[.int .u64 gn, .int .u64 0, .slice none 0 0]) ?_ 1 _ rfl; (with_reducible repeat (first | refine blk_drewN ?_ _ | refine blk_drew ?_ | refine blk_alloc ?_ _)); refine blk_put (cs := #[.int .u64 0, .int .u64 0, .slice none 0 0]) ?_ 0 _ rfl; (with_reducible repeat (first | refine blk_drewN ?_ _ | refine blk_drew ?_ | refine blk_alloc ?_ _)); exact bi.out⟩, ⟨by repeat (first | (with_reducible first | exact HB.out | apply below_alloc | apply pw_below_drewN | apply below_drew1 | refine below_set ?_ bU.out | refine below_set ?_ bW.out | refine below_set ?_ de.out) | exact HB.out)⟩⟩
  case round =>
   clear H'
   (try clear c1); (try clear c2); (try clear p2); (try clear c4); (try clear c5); (try clear c6); (try clear dB); (try clear c7); (try clear c9); (try clear c11); (try clear c12); (try clear c15); (try clear c19); (try clear c20); (try clear dr); (try clear dq); (try clear dp); (try clear gf); (try clear ge); (try clear gc); (try clear gb); (try clear ga); (try clear d9); (try clear d8); (try clear d7); (try clear d6); (try clear dL); (try clear dK); (try clear dJ); (try clear dn); (try clear dm); (try clear dl); (try clear d5); (try clear d4); (try clear d3); (try clear d2); (try clear d1); (try clear d0); (try clear dZ); (try clear dY); (try clear dX); (try clear dI); (try clear dH); (try clear dG); (try clear p2)
   obtain ⟨bc, bj, bP, rfl, HA, HK2, bb, bm, bk, bi, HB⟩ := hrel
   cases gk with
   | zero => exact absurd HA.out (by simp [postroomref10_Evict.l0])
   | succ k2 => ?_
   have H := HA.out
   clear HA
   simp only [postroomref10_Evict.l0] at H
   by_cases c23 : bc < (bj.length : Int)
   case neg =>
    rw [if_neg c23] at H
    have gT : decide (bc < (bj.length : Int)) = false := decide_eq_false c23
    clear c23
    simp only [Option.some.injEq, Prod.mk.injEq] at H
    obtain ⟨rfl, rfl, rfl, rfl⟩ := H
    have me := bB.out
    have jV := bo.out
    have md := bA.out
    have jU := bn.out
    obtain ⟨ji, jh, jg, hQ, hP, hO⟩ := cx19_bc3 bi.out
    obtain ⟨hG, hs, jD⟩ := Kd.S_slice bb.out
    subst jD
    have mc := bL.out
    have jT := bM.out
    obtain ⟨jf, je, jd, hN, hM, hL⟩ := cx19_bc3 bk.out
    go_wp2
    refine bodyPost_ret (results_ct rfl _ _ bx 57 #[.int .u64 a1, .int .u64 bZ, .slice hG bj.length hs] (0, 0) _ rfl (by (with_reducible repeat (first | refine blk_drewN ?_ _ | refine blk_drew ?_ | refine blk_alloc ?_ _)); refine blk_put (cs := #[.int .u64 a1, .int .u64 bZ, .slice none 0 0]) ?_ 2 _ rfl; (with_reducible repeat (first | refine blk_drewN ?_ _ | refine blk_drew ?_ | refine blk_alloc ?_ _)); refine blk_put (cs := #[.int .u64 a1, .int .u64 0, .slice none 0 0]) ?_ 1 _ rfl; (with_reducible repeat (first | refine blk_drewN ?_ _ | refine blk_drew ?_ | refine blk_alloc ?_ _)); refine blk_put (cs := #[.int .u64 0, .int .u64 0, .slice none 0 0]) ?_ 0 _ rfl; (with_reducible repeat (first | refine blk_drewN ?_ _ | refine blk_drew ?_ | refine blk_alloc ?_ _)); exact bk.out) Tryd.underlying57 rfl (by kernel_rfl)) rfl ?_
    exact ⟨_, by first | rfl | (simp [errW_none, errW_some] <;> rfl) | (simp [*, errW_none, errW_some] <;> rfl), by (with_reducible repeat (first | apply Kd.S_alloc | apply Kd.S_drewN | apply Kd.S_drew)); exact Kd.S_mono (Kd.S_far (p := ⟨bx, 2, none⟩) (Kd.S_far (p := ⟨bx, 1, none⟩) (Kd.S_far (p := ⟨bx, 0, none⟩) (Kd.S_types bb.out bk.out (by decide)) (fun _ hk => hk.2) (.int .u64 a1)) (fun _ hk => hk.2) (.int .u64 bZ)) (fun _ hk => hk.2) (.slice hG bj.length hs)) (fun _ hk => trivial), by repeat (first | (with_reducible first | exact HB.out | apply below_alloc | apply pw_below_drewN | apply below_drew1 | refine below_set ?_ bU.out | refine below_set ?_ bW.out | refine below_set ?_ de.out) | exact HB.out)⟩

   rw [if_pos c23] at H
   have gT : decide (bc < (bj.length : Int)) = true := decide_eq_true c23
   clear c23
   have H' := Aside0.mk H
   clear H
   have mr := bB.out
   have j7 := bo.out
   have mq := bA.out
   have j6 := bn.out
   obtain ⟨gJ, gI, gH, gG, gF, gE⟩ := cx19_bc3 bi.out
   obtain ⟨jR, jO, jI⟩ := Kd.S_slice bb.out
   subst jI
   go_wp2
   go_loopg [8] k2 (fun kq v8 w' => ∃ (bl : Int) (ba : List (S84)) (bP : Value), v8 = .int .i64 bl ∧ Aside0 (postroomref10_Evict.l1 kq a1 bc bl a1 bZ ba = some (r1, r2, r3, r4)) ∧ Aside0 (kq ≤ k2) ∧ Aside0 (Kd.S k84 84 w' w.heap.size (fun _ => True) bP ba) ∧ Aside0 (w'.heap[bD]? = some (.cells #[.int .u64 bz, .int .u64 bE, (.slice b3 bC.length b2)] 57 (0, 0))) ∧ Aside0 (w'.heap[bx]? = some (.cells #[.int .u64 0, .int .u64 0, (.slice none 0 0)] 57 (0, 0))) ∧ Aside0 (w'.heap[bG]? = some (.cells #[.int .u64 a1, .int .u64 bZ, bP] 57 (0, 0))) ∧ Aside0 (Below w.heap.size w w'))
   case atStart => exact ⟨(0), (bj), (.slice jR bj.length jO), zx19_6, H', ⟨Nat.le_refl _⟩, ⟨by (with_reducible repeat (first | apply Kd.S_alloc | apply Kd.S_drewN | apply Kd.S_drew)); exact bb.out⟩, ⟨by (with_reducible repeat (first | refine blk_drewN ?_ _ | refine blk_drew ?_ | refine blk_alloc ?_ _)); exact bm.out⟩, ⟨by (with_reducible repeat (first | refine blk_drewN ?_ _ | refine blk_drew ?_ | refine blk_alloc ?_ _)); exact bk.out⟩, ⟨by (with_reducible repeat (first | refine blk_drewN ?_ _ | refine blk_drew ?_ | refine blk_alloc ?_ _)); exact bi.out⟩, ⟨by repeat (first | (with_reducible first | exact HB.out | apply below_alloc | apply pw_below_drewN | apply below_drew1 | refine below_set ?_ bU.out | refine below_set ?_ bW.out | refine below_set ?_ de.out) | exact HB.out)⟩⟩
   case round =>
    clear H'
    (try clear c1); (try clear c2); (try clear p2); (try clear c4); (try clear c5); (try clear c6); (try clear dB); (try clear c7); (try clear c9); (try clear c11); (try clear c12); (try clear c15); (try clear c19); (try clear c20); (try clear c23); (try clear gT); (try clear c24); (try clear c25); (try clear dr); (try clear dq); (try clear dp); (try clear gf); (try clear ge); (try clear gc); (try clear gb); (try clear ga); (try clear d9); (try clear d8); (try clear d7); (try clear d6); (try clear gJ); (try clear gI); (try clear gH); (try clear dL); (try clear dK); (try clear dJ); (try clear dn); (try clear dm); (try clear dl); (try clear d5); (try clear d4); (try clear d3); (try clear d2); (try clear d1); (try clear d0); (try clear dZ); (try clear dY); (try clear dX); (try clear gG); (try clear gF); (try clear gE); (try clear dI); (try clear dH); (try clear dG); (try clear p2)
    obtain ⟨bl, ba, bP, rfl, HA, HK3, bb, bm, bk, bi, HB⟩ := hrel
    cases gk with
    | zero => exact absurd HA.out (by simp [postroomref10_Evict.l1])
    | succ k3 => ?_
    have H := HA.out
    clear HA
    simp only [postroomref10_Evict.l1] at H
    by_cases c28 : 0 ≤ bc
    case neg =>
     rw [if_neg c28] at H
     exact absurd H (by simp)
    rw [if_pos c28] at H
    have mA : decide (0 ≤ bc) = true := decide_eq_true c28
    clear c28
    by_cases c29 : bc < (ba.length : Int)
    case neg =>
     rw [if_neg c29] at H
     exact absurd H (by simp)
    rw [if_pos c29] at H
    have mz : decide (bc < (ba.length : Int)) = true := decide_eq_true c29
    clear c29
    by_cases c30 : bl < (((rd_T84 ba bc).f2).length : Int)
    case neg =>
     rw [if_neg c30] at H
     have hy : decide (bl < (((rd_T84 ba bc).f2).length : Int)) = false := decide_eq_false c30
     clear c30
     have H' := Aside0.mk H
     clear H
     have mg := bB.out
     have jX := bo.out
     have mf := bA.out
     have jW := bn.out
     obtain ⟨jl, jk, jj, hT, hS, hR⟩ := cx19_bc3 bi.out
     obtain ⟨mQ, jL, jE⟩ := Kd.S_slice bb.out
     subst jE
     have bQ : 0 ≤ (bc : Int) := of_decide_eq_true zx19_0
     have bY : bc < (ba.length : Int) := of_decide_eq_true zx19_0
     obtain ⟨bI, dP, du, dO, dk, dj, be, br, bu⟩ := at_T84 (Kd.S_reads' bb.out).2.2 bc bQ bY
     cases dO
     obtain ⟨gq, b0, b1, bH⟩ := Kd.S_get bb.out z84 bc bQ zx19_5
     obtain ⟨df, rfl, bh⟩ := k84_openM b1
     have bd := bH 2 _ rfl
     rw [add_field _ _ 2 (by omega)] at bd
     replace bd := Option.some.inj (bd.symm.trans be)
     rw [bd] at bh
     have da := Aside0.mk (show Kd.R (Kd.int .u8) 5 _ _ _ _ ((rd_T84 ba bc).f2) from bh)
     clear bd bh
     have dv := Aside0.mk be
     clear bH b0
     have dw := Aside0.mk bu
     have dy := Aside0.mk br
     clear bu br
     replace bQ := eq_true bQ
     replace bY := eq_true bY
     go_wp2
     go_roundg k3
     case measure => have := HJ2.out; have := HK2.out; have := HK3.out; omega
     case rel => exact ⟨(wrap64 (bc + 1)), (ba), (.slice (some bI) ba.length jL), zx19_6, H', ⟨by have := HJ2.out; have := HK2.out; have := HK3.out; omega⟩, ⟨by (with_reducible repeat (first | apply Kd.S_alloc | apply Kd.S_drewN | apply Kd.S_drew)); exact bb.out⟩, ⟨by (with_reducible repeat (first | refine blk_drewN ?_ _ | refine blk_drew ?_ | refine blk_alloc ?_ _)); exact bm.out⟩, ⟨by (with_reducible repeat (first | refine blk_drewN ?_ _ | refine blk_drew ?_ | refine blk_alloc ?_ _)); exact bk.out⟩, ⟨by (with_reducible repeat (first | refine blk_drewN ?_ _ | refine blk_drew ?_ | refine blk_alloc ?_ _)); exact bi.out⟩, ⟨by repeat (first | (with_reducible first | exact HB.out | apply below_alloc | apply pw_below_drewN | apply below_drew1 | refine below_set ?_ bU.out | refine below_set ?_ bW.out | refine below_set ?_ de.out) | exact HB.out)⟩⟩
    rw [if_pos c30] at H
    have hy : decide (bl < (((rd_T84 ba bc).f2).length : Int)) = true := decide_eq_true c30
    clear c30
    by_cases c31 : (IntKind.u64.wrap (((rd_T84 ba bc).f1) + (IntKind.u64.wrap (bl)))) < a1
    case neg =>
     rw [if_neg c31] at H
     have hx : decide ((IntKind.u64.wrap (((rd_T84 ba bc).f1) + (IntKind.u64.wrap (bl)))) < a1) = false := decide_eq_false c31
     clear c31
     have H' := Aside0.mk H
     clear H
     have mi := bB.out
     have jZ := bo.out
     have mh := bA.out
     have jY := bn.out
     obtain ⟨jo, jn, jm, hW, hV, hU⟩ := cx19_bc3 bi.out
     obtain ⟨mR, jM, jF⟩ := Kd.S_slice bb.out
     subst jF
     have bQ : 0 ≤ (bc : Int) := of_decide_eq_true zx19_0
     have bY : bc < (ba.length : Int) := of_decide_eq_true zx19_0
     obtain ⟨bI, dP, du, dO, dk, dj, be, br, bu⟩ := at_T84 (Kd.S_reads' bb.out).2.2 bc bQ bY
     cases dO
     obtain ⟨gq, b0, b1, bH⟩ := Kd.S_get bb.out z84 bc bQ zx19_5
     obtain ⟨df, rfl, bh⟩ := k84_openM b1
     have bd := bH 2 _ rfl
     rw [add_field _ _ 2 (by omega)] at bd
     replace bd := Option.some.inj (bd.symm.trans be)
     rw [bd] at bh
     have da := Aside0.mk (show Kd.R (Kd.int .u8) 5 _ _ _ _ ((rd_T84 ba bc).f2) from bh)
     clear bd bh
     have dv := Aside0.mk be
     clear bH b0
     have dw := Aside0.mk bu
     have dy := Aside0.mk br
     clear bu br
     replace bQ := eq_true bQ
     replace bY := eq_true bY
     have b5 : 0 ≤ (bc : Int) := of_decide_eq_true zx19_0
     have b4 : bc < (ba.length : Int) := of_decide_eq_true zx19_0
     obtain ⟨dD, gt, gr, gp, dU, dT, bp, bJ, bK⟩ := at_T84 (Kd.S_reads' bb.out).2.2 bc b5 b4
     obtain rfl : bI = dD := (by injection gp)
     obtain ⟨gS, db, dd, bV⟩ := Kd.S_get bb.out z84 bc b5 (by first | exact b4 | exact of_decide_eq_true zx19_0 | (have e_ := (Kd.S_reads' bb.out).1; omega))
     obtain ⟨dR, rfl, bw⟩ := k84_openM dd
     have bf := bV 2 _ rfl
     rw [add_field _ _ 2 (by omega)] at bf
     replace bf := Option.some.inj (bf.symm.trans bp)
     rw [bf] at bw
     have dx := Aside0.mk (show Kd.R (Kd.int .u8) 5 _ _ _ _ ((rd_T84 ba bc).f2) from bw)
     clear bf bw
     have gg := Aside0.mk bp
     clear bV db
     have gh := Aside0.mk bK
     have gl := Aside0.mk bJ
     clear bK bJ
     replace b5 := eq_true b5
     replace b4 := eq_true b4
     have ea_ := Option.some.inj (be.symm.trans bp)
     injection ea_ with ea_ en_ ec_
     subst ea_
     subst ec_
     clear en_
     go_wp2
     go_roundg k3
     case measure => have := HJ2.out; have := HK2.out; have := HK3.out; omega
     case rel => exact ⟨(wrap64 (bl + 1)), (ba), (.slice (some bI) ba.length jM), zx19_6, H', ⟨by have := HJ2.out; have := HK2.out; have := HK3.out; omega⟩, ⟨by (with_reducible repeat (first | apply Kd.S_alloc | apply Kd.S_drewN | apply Kd.S_drew)); exact bb.out⟩, ⟨by (with_reducible repeat (first | refine blk_drewN ?_ _ | refine blk_drew ?_ | refine blk_alloc ?_ _)); exact bm.out⟩, ⟨by (with_reducible repeat (first | refine blk_drewN ?_ _ | refine blk_drew ?_ | refine blk_alloc ?_ _)); exact bk.out⟩, ⟨by (with_reducible repeat (first | refine blk_drewN ?_ _ | refine blk_drew ?_ | refine blk_alloc ?_ _)); exact bi.out⟩, ⟨by repeat (first | (with_reducible first | exact HB.out | apply below_alloc | apply pw_below_drewN | apply below_drew1 | refine below_set ?_ bU.out | refine below_set ?_ bW.out | refine below_set ?_ de.out) | exact HB.out)⟩⟩
    rw [if_pos c31] at H
    have hx : decide ((IntKind.u64.wrap (((rd_T84 ba bc).f1) + (IntKind.u64.wrap (bl)))) < a1) = true := decide_eq_true c31
    clear c31
    by_cases c32 : 0 ≤ bl
    case neg =>
     rw [if_neg c32] at H
     exact absurd H (by simp)
    rw [if_pos c32] at H
    have my : decide (0 ≤ bl) = true := decide_eq_true c32
    clear c32
    by_cases c33 : (rd ((rd_T84 ba bc).f2) bl) = 112
    case neg =>
     rw [if_neg c33] at H
     have hv : ((rd ((rd_T84 ba bc).f2) bl) == 112) = false := beq_eq_false_iff_ne.mpr c33
     have hu : ((rd ((rd_T84 ba bc).f2) bl) != 112) = true := bne_iff_ne.mpr c33
     have H' := Aside0.mk H
     clear H
     have ml := bB.out
     have j3 := bo.out
     have mj := bA.out
     have j2 := bn.out
     obtain ⟨jr, jq, jp, hZ, hY, hX⟩ := cx19_bc3 bi.out
     obtain ⟨mS, jN, jG⟩ := Kd.S_slice bb.out
     subst jG
     have bQ : 0 ≤ (bc : Int) := of_decide_eq_true zx19_0
     have bY : bc < (ba.length : Int) := of_decide_eq_true zx19_0
     obtain ⟨bI, dP, du, dO, dk, dj, be, br, bu⟩ := at_T84 (Kd.S_reads' bb.out).2.2 bc bQ bY
     cases dO
     obtain ⟨gq, b0, b1, bH⟩ := Kd.S_get bb.out z84 bc bQ zx19_5
     obtain ⟨df, rfl, bh⟩ := k84_openM b1
     have bd := bH 2 _ rfl
     rw [add_field _ _ 2 (by omega)] at bd
     replace bd := Option.some.inj (bd.symm.trans be)
     rw [bd] at bh
     have da := Aside0.mk (show Kd.R (Kd.int .u8) 5 _ _ _ _ ((rd_T84 ba bc).f2) from bh)
     clear bd bh
     have dv := Aside0.mk be
     clear bH b0
     have dw := Aside0.mk bu
     have dy := Aside0.mk br
     clear bu br
     replace bQ := eq_true bQ
     replace bY := eq_true bY
     have b5 : 0 ≤ (bc : Int) := of_decide_eq_true zx19_0
     have b4 : bc < (ba.length : Int) := of_decide_eq_true zx19_0
     obtain ⟨dD, gt, gr, gp, dU, dT, bp, bJ, bK⟩ := at_T84 (Kd.S_reads' bb.out).2.2 bc b5 b4
     obtain rfl : bI = dD := (by injection gp)
     obtain ⟨gS, db, dd, bV⟩ := Kd.S_get bb.out z84 bc b5 (by first | exact b4 | exact of_decide_eq_true zx19_0 | (have e_ := (Kd.S_reads' bb.out).1; omega))
     obtain ⟨dR, rfl, bw⟩ := k84_openM dd
     have bf := bV 2 _ rfl
     rw [add_field _ _ 2 (by omega)] at bf
     replace bf := Option.some.inj (bf.symm.trans bp)
     rw [bf] at bw
     have dx := Aside0.mk (show Kd.R (Kd.int .u8) 5 _ _ _ _ ((rd_T84 ba bc).f2) from bw)
     clear bf bw
     have gg := Aside0.mk bp
     clear bV db
     have gh := Aside0.mk bK
     have gl := Aside0.mk bJ
     clear bK bJ
     replace b5 := eq_true b5
     replace b4 := eq_true b4
     have ea_ := Option.some.inj (be.symm.trans bp)
     injection ea_ with ea_ en_ ec_
     subst ea_
     subst ec_
     clear en_
     have dh : 0 ≤ (bc : Int) := of_decide_eq_true zx19_0
     have dg : bc < (ba.length : Int) := of_decide_eq_true zx19_0
     obtain ⟨gs, hj, he, gZ, gC, gB, bR, b7, b8⟩ := at_T84 (Kd.S_reads' bb.out).2.2 bc dh dg
     obtain rfl : bI = gs := (by injection gZ)
     obtain ⟨ht, dM, dN, dc⟩ := Kd.S_get bb.out z84 bc dh (by first | exact dg | exact of_decide_eq_true zx19_0 | (have e_ := (Kd.S_reads' bb.out).1; omega))
     obtain ⟨gy, rfl, bS⟩ := k84_openM dN
     have bq := dc 2 _ rfl
     rw [add_field _ _ 2 (by omega)] at bq
     replace bq := Option.some.inj (bq.symm.trans bR)
     rw [bq] at bS
     have gj := Aside0.mk (show Kd.R (Kd.int .u8) 5 _ _ _ _ ((rd_T84 ba bc).f2) from bS)
     clear bq bS
     have gL := Aside0.mk bR
     clear dc dM
     have b9 := Aside0.mk b8
     have gM := Aside0.mk b7
     clear b8 b7
     replace dh := eq_true dh
     replace dg := eq_true dg
     have ea_ := Option.some.inj (be.symm.trans bR)
     injection ea_ with ea_ en_ ec_
     subst ea_
     subst ec_
     clear en_
     have dF : 0 ≤ (bl : Int) := of_decide_eq_true zx19_0
     have dE : bl < (((rd_T84 ba bc).f2).length : Int) := of_decide_eq_true zx19_0
     obtain ⟨hA, gY, dS⟩ := Kd.at_int (by repeat (first | (with_reducible exact b9.out) | (with_reducible refine Kd.C_alloc ?_ _) | (with_reducible refine Kd.C_drewN ?_ _) | (with_reducible refine Kd.C_drew ?_) | exact b9.out)) bl dF dE
     cases gY
     replace dF := eq_true dF
     replace dE := eq_true dE
     go_wp2
     go_roundg k3
     case measure => have := HJ2.out; have := HK2.out; have := HK3.out; omega
     case rel => exact ⟨(wrap64 (bl + 1)), (ba), (.slice (some bI) ba.length jN), zx19_6, H', ⟨by have := HJ2.out; have := HK2.out; have := HK3.out; omega⟩, ⟨by (with_reducible repeat (first | apply Kd.S_alloc | apply Kd.S_drewN | apply Kd.S_drew)); exact bb.out⟩, ⟨by (with_reducible repeat (first | refine blk_drewN ?_ _ | refine blk_drew ?_ | refine blk_alloc ?_ _)); exact bm.out⟩, ⟨by (with_reducible repeat (first | refine blk_drewN ?_ _ | refine blk_drew ?_ | refine blk_alloc ?_ _)); exact bk.out⟩, ⟨by (with_reducible repeat (first | refine blk_drewN ?_ _ | refine blk_drew ?_ | refine blk_alloc ?_ _)); exact bi.out⟩, ⟨by repeat (first | (with_reducible first | exact HB.out | apply below_alloc | apply pw_below_drewN | apply below_drew1 | refine below_set ?_ bU.out | refine below_set ?_ bW.out | refine below_set ?_ de.out) | exact HB.out)⟩⟩
    rw [if_pos c33] at H
    have hv : ((rd ((rd_T84 ba bc).f2) bl) == 112) = true := beq_iff_eq.mpr c33
    have hu : ((rd ((rd_T84 ba bc).f2) bl) != 112) = false := bne_eq_false_iff_eq.mpr c33
    clear c33
    obtain ⟨gu, dA⟩ : ∃ y_ : List Int, y_ = (((rd_T84 ba bc).f2).set (bl : Int).toNat 101) := ⟨_, rfl⟩
    replace H : (postroomref10_Evict.l1 k3 a1 bc (wrap64 (bl + 1)) a1 bZ (ba.set (bc : Int).toNat (⟨(rd_T84 ba bc).f0, (rd_T84 ba bc).f1, gu⟩ : S84))) = some (r1, r2, r3, r4) := by first | (rw [dA]; with_reducible exact H) | (have H2_ := (Option.bind_some _ _).symm.trans H; rw [dA]; with_reducible exact H2_) | (have H2_ := (Option.bind_some _ _).symm.trans H; with_reducible exact H2_) | with_reducible exact H | (rw [dA]; exact H) | exact H
    have hC := Aside0.mk dA
    clear dA
    obtain ⟨gU, dz⟩ : ∃ y_ : List (S84), y_ = (ba.set (bc : Int).toNat (⟨(rd_T84 ba bc).f0, (rd_T84 ba bc).f1, gu⟩ : S84)) := ⟨_, rfl⟩
    replace H : (postroomref10_Evict.l1 k3 a1 bc (wrap64 (bl + 1)) a1 bZ gU) = some (r1, r2, r3, r4) := by first | (rw [dz]; with_reducible exact H) | (have H2_ := (Option.bind_some _ _).symm.trans H; rw [dz]; with_reducible exact H2_) | (have H2_ := (Option.bind_some _ _).symm.trans H; with_reducible exact H2_) | with_reducible exact H | (rw [dz]; exact H) | exact H
    have hB := Aside0.mk dz
    clear dz
    have H' := Aside0.mk H
    clear H
    have mo := bB.out
    have j5 := bo.out
    have mm := bA.out
    have j4 := bn.out
    obtain ⟨ju, jt, js, jc, jb, ja⟩ := cx19_bc3 bi.out
    obtain ⟨mT, ha, jH⟩ := Kd.S_slice bb.out
    subst jH
    have bQ : 0 ≤ (bc : Int) := of_decide_eq_true zx19_0
    have bY : bc < (ba.length : Int) := of_decide_eq_true zx19_0
    obtain ⟨bI, dP, du, dO, dk, dj, be, br, bu⟩ := at_T84 (Kd.S_reads' bb.out).2.2 bc bQ bY
    cases dO
    obtain ⟨gq, b0, b1, bH⟩ := Kd.S_get bb.out z84 bc bQ zx19_5
    obtain ⟨df, rfl, bh⟩ := k84_openM b1
    have bd := bH 2 _ rfl
    rw [add_field _ _ 2 (by omega)] at bd
    replace bd := Option.some.inj (bd.symm.trans be)
    rw [bd] at bh
    have da := Aside0.mk (show Kd.R (Kd.int .u8) 5 _ _ _ _ ((rd_T84 ba bc).f2) from bh)
    clear bd bh
    have dv := Aside0.mk be
    clear bH b0
    have dw := Aside0.mk bu
    have dy := Aside0.mk br
    clear bu br
    replace bQ := eq_true bQ
    replace bY := eq_true bY
    have b5 : 0 ≤ (bc : Int) := of_decide_eq_true zx19_0
    have b4 : bc < (ba.length : Int) := of_decide_eq_true zx19_0
    obtain ⟨dD, gt, gr, gp, dU, dT, bp, bJ, bK⟩ := at_T84 (Kd.S_reads' bb.out).2.2 bc b5 b4
    obtain rfl : bI = dD := (by injection gp)
    obtain ⟨gS, db, dd, bV⟩ := Kd.S_get bb.out z84 bc b5 (by first | exact b4 | exact of_decide_eq_true zx19_0 | (have e_ := (Kd.S_reads' bb.out).1; omega))
    obtain ⟨dR, rfl, bw⟩ := k84_openM dd
    have bf := bV 2 _ rfl
    rw [add_field _ _ 2 (by omega)] at bf
    replace bf := Option.some.inj (bf.symm.trans bp)
    rw [bf] at bw
    have dx := Aside0.mk (show Kd.R (Kd.int .u8) 5 _ _ _ _ ((rd_T84 ba bc).f2) from bw)
    clear bf bw
    have gg := Aside0.mk bp
    clear bV db
    have gh := Aside0.mk bK
    have gl := Aside0.mk bJ
    clear bK bJ
    replace b5 := eq_true b5
    replace b4 := eq_true b4
    have ea_ := Option.some.inj (be.symm.trans bp)
    injection ea_ with ea_ en_ ec_
    subst ea_
    subst ec_
    clear en_
    have dh : 0 ≤ (bc : Int) := of_decide_eq_true zx19_0
    have dg : bc < (ba.length : Int) := of_decide_eq_true zx19_0
    obtain ⟨gs, hj, he, gZ, gC, gB, bR, b7, b8⟩ := at_T84 (Kd.S_reads' bb.out).2.2 bc dh dg
    obtain rfl : bI = gs := (by injection gZ)
    obtain ⟨ht, dM, dN, dc⟩ := Kd.S_get bb.out z84 bc dh (by first | exact dg | exact of_decide_eq_true zx19_0 | (have e_ := (Kd.S_reads' bb.out).1; omega))
    obtain ⟨gy, rfl, bS⟩ := k84_openM dN
    have bq := dc 2 _ rfl
    rw [add_field _ _ 2 (by omega)] at bq
    replace bq := Option.some.inj (bq.symm.trans bR)
    rw [bq] at bS
    have gj := Aside0.mk (show Kd.R (Kd.int .u8) 5 _ _ _ _ ((rd_T84 ba bc).f2) from bS)
    clear bq bS
    have gL := Aside0.mk bR
    clear dc dM
    have b9 := Aside0.mk b8
    have gM := Aside0.mk b7
    clear b8 b7
    replace dh := eq_true dh
    replace dg := eq_true dg
    have ea_ := Option.some.inj (be.symm.trans bR)
    injection ea_ with ea_ en_ ec_
    subst ea_
    subst ec_
    clear en_
    have dF : 0 ≤ (bl : Int) := of_decide_eq_true zx19_0
    have dE : bl < (((rd_T84 ba bc).f2).length : Int) := of_decide_eq_true zx19_0
    obtain ⟨hA, gY, dS⟩ := Kd.at_int (by repeat (first | (with_reducible exact b9.out) | (with_reducible refine Kd.C_alloc ?_ _) | (with_reducible refine Kd.C_drewN ?_ _) | (with_reducible refine Kd.C_drew ?_) | exact b9.out)) bl dF dE
    cases gY
    replace dF := eq_true dF
    replace dE := eq_true dE
    have gA : 0 ≤ (bc : Int) := of_decide_eq_true zx19_0
    have gz : bc < (ba.length : Int) := of_decide_eq_true zx19_0
    obtain ⟨hz, jS, jP, jK, hK, hJ, di, dV, dW⟩ := at_T84 (Kd.S_reads' bb.out).2.2 bc gA gz
    obtain rfl : bI = hz := (by injection jK)
    obtain ⟨mw, gV, gW, go⟩ := Kd.S_get bb.out z84 bc gA (by first | exact gz | exact of_decide_eq_true zx19_0 | (have e_ := (Kd.S_reads' bb.out).1; omega))
    obtain ⟨hI, rfl, dt⟩ := k84_openM gW
    have b6 := go 2 _ rfl
    rw [add_field _ _ 2 (by omega)] at b6
    replace b6 := Option.some.inj (b6.symm.trans di)
    rw [b6] at dt
    have bX := Aside0.mk (show Kd.R (Kd.int .u8) 5 _ _ _ _ ((rd_T84 ba bc).f2) from dt)
    clear b6 dt
    have gK := Aside0.mk di
    clear go gV
    have jv := Aside0.mk dW
    have jw := Aside0.mk dV
    clear dW dV
    replace gA := eq_true gA
    replace gz := eq_true gz
    have ea_ := Option.some.inj (be.symm.trans di)
    injection ea_ with ea_ en_ ec_
    subst ea_
    subst ec_
    clear en_
    have p34 : 0 ≤ (bl : Int) := of_decide_eq_true zx19_0
    have q34 : (bl : Int) < ((((rd_T84 ba bc).f2).length : Int) : Int) := of_decide_eq_true zx19_0
    obtain ⟨gX, mM, hq, hp, jC, mN, hE⟩ := Kd.R_form bX.out (by omega)
    (first | cases hq | (injection hq with ea_ en_ ec_; (first | subst ea_ | (injection ea_ with ea_; subst ea_)); subst ec_; clear en_))
    have jQ := Aside0.mk hp
    have mP := Aside0.mk hE
    clear hp jC hE
    (first | simp only [add_plain] at dS | skip)
    obtain ⟨jy, jA⟩ := Kd.R_celln 0 bX.out (bl : Int) p34 q34
    replace p34 := eq_true p34
    replace q34 := eq_true q34
    have jz : (bc : Int) < (ba.length : Int) := (by have h_ : (bc : Int) < ((ba.length : Int) : Int) := of_decide_eq_true zx19_0; first | exact h_ | (have e_ := (Kd.S_reads' bb.out).1; omega) | simpa only [List.length_set, List.length_set] using h_)
    obtain ⟨hl, mO, hm, jB, gP, gO, gR⟩ := Kd.S_borrow bb.out z84 (bc : Int) (of_decide_eq_true zx19_0) jz
    obtain ⟨jx, rfl, ds⟩ := k84_openM jB
    have gD := gP 2 _ rfl
    rw [add_field _ _ 2 (by omega)] at gD
    replace gD := Option.some.inj (gD.symm.trans gK.out)
    subst gD
    clear gP hm
    replace ds := (show Kd.R (Kd.int .u8) 5 _ _ _ _ ((rd_T84 ba bc).f2) from ds)
    have hf := Kd.R_putg ds (bl : Int) 101
    go_wp2_with (first | ((with_reducible refine gate_store (t := 5) (p := 72) rfl ?_); refine store_event (t := 5) (p := 72) (v := ?vo_w40) (w1 := (wr.setCell ⟨gX, (bl : Int).toNat, none⟩ (.int .u8 101))) ?hg ?ho ?hn ?hr ?_; (case ho => rfl); (case hg => rfl); (case hn => rfl); (case hr => first | (go_simp; done) | (go_simp; rfl)); intro w40 hw; have hg : wr.grownBy w40 (some gX) := (by rw [hw]; exact hf.2); have hz_ : Kd.R (Kd.int .u8) 5 w40 w.heap.size hl (.slice (some ⟨gX, 0, none⟩) ((rd_T84 ba bc).f2).length du) gu := (by rw [hw, hC.out]; exact hf.1); have hp_ : Kd.S k84 84 w40 w.heap.size (fun _ => True) (.slice (some bI) ba.length ha) gU := (by rw [hB.out]; exact gR hg (fun k_ e_ => by injection e_ with e_; subst e_; exact ds.1 _ rfl) (k84_mkM _ _ _ (⟨(rd_T84 ba bc).f0, (rd_T84 ba bc).f1, gu⟩ : S84) hz_)); have hm_ := Kd.R_mono hz_ gO; clear hf gR; have n0_ := Aside0.mk (hp_); have n1_ := Aside0.mk (blk_grown (g := bD) (o := .cells #[.int .u64 bz, .int .u64 bE, .slice b3 bC.length b2] 57 (0, 0)) zx19_1 hg (Kd.R_ne bX.out bm.out (by decide))); have n2_ := Aside0.mk (blk_grown (g := bx) (o := .cells #[.int .u64 0, .int .u64 0, .slice none 0 0] 57 (0, 0)) zx19_3 hg (Kd.R_ne bX.out bk.out (by decide))); have n3_ := Aside0.mk (blk_grown (g := bG) (o := .cells #[.int .u64 a1, .int .u64 bZ, .slice (some bI) ba.length ha] 57 (0, 0)) (by (with_reducible repeat (first | refine blk_drewN ?_ _ | refine blk_drew ?_ | refine blk_alloc ?_ _)); exact bi.out) hg (Kd.R_ne bX.out bi.out (by decide))); have n4_ := Aside0.mk ((by rw [hw]; exact below_set (HB.out) jQ.out : Below w.heap.size w w40)); have n5_ := Aside0.mk (hm_); have n6_ := Aside0.mk ((Kd.R_reads' hm_).2.1); clear bb; clear bm; clear bk; clear bi; clear HB; clear da; clear dx; clear gj; clear bX; have bb := n0_; have bm := n1_; have bk := n2_; have bi := n3_; have HB := n4_; have mB := n5_; have mC := n6_; clear n0_ n1_ n2_ n3_ n4_ n5_ n6_; clear hg hw hp_ hz_ hm_ gO))
    go_roundg k3
    case measure => have := HJ2.out; have := HK2.out; have := HK3.out; omega
    case rel => exact ⟨(wrap64 (bl + 1)), (gU), (.slice (some bI) ba.length ha), zx19_6, H', ⟨by have := HJ2.out; have := HK2.out; have := HK3.out; omega⟩, ⟨by (with_reducible repeat (first | apply Kd.S_alloc | apply Kd.S_drewN | apply Kd.S_drew)); exact bb.out⟩, ⟨by (with_reducible repeat (first | refine blk_drewN ?_ _ | refine blk_drew ?_ | refine blk_alloc ?_ _)); exact bm.out⟩, ⟨by (with_reducible repeat (first | refine blk_drewN ?_ _ | refine blk_drew ?_ | refine blk_alloc ?_ _)); exact bk.out⟩, ⟨by (with_reducible repeat (first | refine blk_drewN ?_ _ | refine blk_drew ?_ | refine blk_alloc ?_ _)); exact bi.out⟩, ⟨by repeat (first | (with_reducible first | exact HB.out | apply below_alloc | apply pw_below_drewN | apply below_drew1 | refine below_set ?_ bU.out | refine below_set ?_ bW.out | refine below_set ?_ de.out) | exact HB.out)⟩⟩
end Go.Proofs.YthhmpjapnkilcaaDoor.XLdg
end
section
/- What the functions of the translation answer, each as a plain Lean function, and that the code comes to it; for a law: its row. Conditions: none but those that each theorem names. Written by a program of this session (wip/xp). -/
namespace Go.Proofs.YthhmpjapnkilcaaDoor.XLdg
open Go.RowKit Go.Proofs.YthhmpjapnkilcaaDoorW.PrintWords Go.Proofs.YthhmpjapnkilcaaDoorW.PrintLast Go.Proofs.YthhmpjapnkilcaaDoorW.PrintMore
attribute [local go_sem] max2_int min2_int max_two min_two max_three min_three max_four min_four   -- for this text's walks alone
theorem cx3_bc3 {w : World} {g : Nat} {t : TypeId} {x0 x1 x2 : Value} (h : w.heap[g]? = some (.cells #[x0, x1, x2] t (0, 0))) : w.cell? ⟨g, 0, none⟩ = some x0 ∧ w.cell? ⟨g, 1, none⟩ = some x1 ∧ w.cell? ⟨g, 2, none⟩ = some x2 ∧ w.frozen? ⟨g, 0, none⟩ = false ∧ w.frozen? ⟨g, 1, none⟩ = false ∧ w.frozen? ⟨g, 2, none⟩ = false :=
 ⟨(blk_cell h 0).trans rfl, (blk_cell h 1).trans rfl, (blk_cell h 2).trans rfl, blk_frozen h 0, blk_frozen h 1, blk_frozen h 2⟩
theorem zx3_3 {p : Prop} (h : p := by (with_reducible repeat (first | apply Kd.V_alloc | apply Kd.V_drewN | apply Kd.V_drew)); exact bh.out) : p := h
theorem zx3_1 {p : Prop} (h : p := by (with_reducible repeat (first | refine blk_drewN ?_ _ | refine blk_drew ?_ | refine blk_alloc ?_ _)); exact bc.out) : p := h
theorem zx3_2 {p : Prop} (h : p := by (with_reducible repeat (first | refine blk_drewN ?_ _ | refine blk_drew ?_ | refine blk_alloc ?_ _)); exact bf.out) : p := h
theorem zx3_5 {p : Prop} (h : p := by repeat (first | (with_reducible first | exact HB.out | apply below_alloc | apply pw_below_drewN | apply below_drew1) | exact HB.out)) : p := h
theorem zx3_7 {p : Prop} (h : p := by (try simp only [List.map_toArray, List.map_cons, List.map_nil]); first | done | rfl | (simp only [List.length_drop, List.length_take]; rfl)) : p := h
theorem zx3_4 {p : Prop} (h : p := by repeat (first | (with_reducible first | exact HB.out | apply below_alloc | apply pw_below_drewN | apply below_drew1 | refine below_set ?_ bu.out) | exact HB.out)) : p := h
theorem zx3_0 {p : Prop} (h : p := by repeat (first | (with_reducible first | exact HB.out | apply below_alloc | apply pw_below_drewN | apply below_drew1 | refine below_set ?_ bu.out | refine below_set ?_ bx.out) | exact HB.out)) : p := h
theorem zx3_6 {p : Prop} (h : p := by (with_reducible repeat (first | refine blk_drewN ?_ _ | refine blk_drew ?_ | refine blk_alloc ?_ _)); refine blk_put (cs := #[.int .u64 0, .int .u64 0, .slice none 0 0]) ?_ 2 _ rfl; (with_reducible repeat (first | refine blk_drewN ?_ _ | refine blk_drew ?_ | refine blk_alloc ?_ _)); refine blk_put (cs := #[.int .u64 0, .int .u64 0, .slice none 0 0]) ?_ 1 _ rfl; (with_reducible repeat (first | refine blk_drewN ?_ _ | refine blk_drew ?_ | refine blk_alloc ?_ _)); refine blk_put (cs := #[.int .u64 0, .int .u64 0, .slice none 0 0]) ?_ 0 _ rfl; (with_reducible repeat (first | refine blk_drewN ?_ _ | refine blk_drew ?_ | refine blk_alloc ?_ _)); exact bf.out) : p := h
set_option linter.unusedVariables false
set_option linter.unusedSimpArgs false

/-! ### ledger_Join: function 14 -/
def ledger_Join.f (bg : Int) (bd : Int) (be : List (S37)) (a1 : ByteArray) : Option (Int × Int × (List (S37)) × Int) := (label_Name.f a1).bind fun bE => (if bE = true then ((ledger_place.f be a1).bind fun br => (if br ≥ 0 then (some (0, 0, ([] : List (S37)), 4)) else (if (be.length : Int) ≥ 4 then (some (0, 0, ([] : List (S37)), 6)) else ((ledger_Dest_33.f be).bind fun bo => ((some (([(⟨a1, bd, bd, ([] : List Int), 0, 0, 0⟩ : S37)] : List (S37)) : List (S37))).bind fun bn => (if bo.length + bn.length < 1759218604441 then (some (bg, bd, (bo ++ bn), 0)) else (none))))))) else (some (0, 0, ([] : List (S37)), 3)))
def ledger_Join.T7 : Bool × List (List Nat × List Nat) := (true, [([], []), ([0], [0]), ([1], [1]), ([], []), ([], []), ([4], [4]), ([], []), ([6], [6]), ([3, 5, 7], [3, 5, 7]), ([8], [8]), ([2, 9, 2], [2, 9]), ([0, 1, 2, 3, 4, 5, 6, 7, 8, 9, 10], []), ([11, 10, 10, 0, 1, 2, 3, 4, 5, 6, 7, 8, 9, 10], [10, 11])])
def ledger_Join.B7 : List Nat := [0, 1, 3, 0, 0, 16, 0, 64, 248, 504, 1023, 2047, 4095]
theorem ledger_Join.tab7 : rtab .any (opsOf Tryd.f14 7) = ledger_Join.T7 := by kernel_rfl
theorem ledger_Join.bits7 : waitsOk ledger_Join.T7.2 ledger_Join.B7 = true := by kernel_rfl
set_option maxHeartbeats 8000000 in
set_option maxRecDepth 100000 in
theorem ledger_Join.calls (bg : Int) (bd : Int) (bk : Nat → Prop) (bj : Option Addr) (bi : Nat) (be : List (S37)) (a1 : ByteArray) (r1 : Int) (r2 : Int) (r3 : List (S37)) (r4 : Int) (w : World) (bN : Kd.V k37 37 w w.heap.size (fun k_ => bk k_) (.slice bj be.length bi) be) (h : ledger_Join.f bg bd be a1 = some (r1, r2, r3, r4)) :
  Calls Tryd.prog 14 #[.agg #[.int .u64 bg, .int .u64 bd, .slice bj be.length bi], .string a1] w fun e w' => ∃ v2_ : Value, e = .returned (.tuple #[.agg #[.int .u64 r1, .int .u64 r2, v2_], .int .i64 r4]) ∧ Kd.N k37 37 w' w.heap.size (fun k_ => (bk k_ ∨ w.heap.size ≤ k_)) v2_ r3 ∧ Below w.heap.size w w' := by
 have gc := Tryd.underlying27
 have gb := Tryd.underlying37
 have bh := Aside0.mk (show Kd.V k37 37 w w.heap.size (fun k_ => (bk k_ ∨ w.heap.size ≤ k_)) (.slice bj be.length bi) be from Kd.V_mono bN (fun k_ hk => .inl hk))
 have HB := Aside0.mk (Below.refl w.heap.size w)
 have H : ((label_Name.f a1).bind fun bE => (if bE = true then ((ledger_place.f be a1).bind fun br => (if br ≥ 0 then (some (0, 0, ([] : List (S37)), 4)) else (if (be.length : Int) ≥ 4 then (some (0, 0, ([] : List (S37)), 6)) else ((ledger_Dest_33.f be).bind fun bo => ((some (([(⟨a1, bd, bd, ([] : List Int), 0, 0, 0⟩ : S37)] : List (S37)) : List (S37))).bind fun bn => (if bo.length + bn.length < 1759218604441 then (some (bg, bd, (bo ++ bn), 0)) else (none))))))) else (some (0, 0, ([] : List (S37)), 3)))) = some (r1, r2, r3, r4) := h
 clear h
 replace H := Option.bind_eq_some_iff.mp H
 obtain ⟨bE, A30, H⟩ := H
 replace H : (if bE = true then ((ledger_place.f be a1).bind fun br => (if br ≥ 0 then (some (0, 0, ([] : List (S37)), 4)) else (if (be.length : Int) ≥ 4 then (some (0, 0, ([] : List (S37)), 6)) else ((ledger_Dest_33.f be).bind fun bo => ((some (([(⟨a1, bd, bd, ([] : List Int), 0, 0, 0⟩ : S37)] : List (S37)) : List (S37))).bind fun bn => (if bo.length + bn.length < 1759218604441 then (some (bg, bd, (bo ++ bn), 0)) else (none))))))) else (some (0, 0, ([] : List (S37)), 3))) = some (r1, r2, r3, r4) := H
 have A3 := Aside0.mk A30
 clear A30
 by_cases c4 : bE = true
 case neg =>
  replace c4 := Bool.eq_false_iff.mpr c4
  subst c4
  have H1 : (some (0, 0, ([] : List (S37)), 3)) = some (r1, r2, r3, r4) := by rw [if_neg (show ¬ (false = true) by decide)] at H; exact H
  clear H
  have H := H1
  clear H1
  simp only [Option.some.injEq, Prod.mk.injEq] at H
  obtain ⟨rfl, rfl, rfl, rfl⟩ := H
  go_enter Tryd.func14, Tryd.ntmps14
  go_wp2_with (first | ((with_reducible refine gate_dst (N := 2) rfl ?_); refine box_event ?hg (N := 2) ?hd (cs := #[.int .u64 bg, .int .u64 bd, .slice bj be.length bi]) (t := 27) ?hr ?_; (case hd => rfl); (case hg => rfl); (case hr => first | (go_simp; done) | (go_simp; rfl)); intro ba hg w43 hbox hb; replace bh := Aside0.mk (Kd.V_below (Kd.V_elderB zx3_3 ba (Nat.le_of_eq hg.symm)) hb); have bc := Aside0.mk (hbox); have bI := Aside0.mk ((by rw [hg]; exact (below_size zx3_5) : w.heap.size ≤ ba)); have bu := Aside0.mk ((by rw [hg]; exact (below_size zx3_5) : w.heap.size ≤ ba)); replace HB := Aside0.mk (below_step zx3_5 hb); clear hb hbox hg) | ((with_reducible refine gate_dst (N := 4) rfl ?_); refine box_event ?hg (N := 4) ?hd (cs := #[.int .u64 0, .int .u64 0, .slice none 0 0]) (t := 27) ?hr ?_; (case hd => rfl); (case hg => rfl); (case hr => first | (go_simp; done) | (go_simp; rfl)); intro bb hg w44 hbox hb; replace bh := Aside0.mk (Kd.V_below (Kd.V_elderB zx3_3 bb (Nat.le_of_eq hg.symm)) hb); have bf := Aside0.mk (hbox); have bH := Aside0.mk ((by rw [hg]; exact (below_size zx3_4) : w.heap.size ≤ bb)); have bx := Aside0.mk ((by rw [hg]; exact (below_size zx3_4) : w.heap.size ≤ bb)); replace HB := Aside0.mk (below_step zx3_4 hb); have bm := Aside0.mk ((by rw [hg]; exact Nat.ne_of_lt (blk_lt (g := ba) (o := .cells #[.int .u64 bg, .int .u64 bd, .slice bj be.length bi] 27 (0, 0)) zx3_1) : ba ≠ bb)); have bl := Aside0.mk ((by rw [hg]; exact Nat.ne_of_gt (blk_lt (g := ba) (o := .cells #[.int .u64 bg, .int .u64 bd, .slice bj be.length bi] 27 (0, 0)) zx3_1) : bb ≠ ba)); replace bc := Aside0.mk (blk_below (g := ba) (o := .cells #[.int .u64 bg, .int .u64 bd, .slice bj be.length bi] 27 (0, 0)) zx3_1 hb); clear hb hbox hg) | ((with_reducible refine gate_callee (f := 34) rfl ?_); refine goesL_ (some 8) rfl rfl Tryd.func34 (by kernel_rfl) rfl #[.string a1] rfl zx3_7 ?_; (with_reducible refine (label_Name.calls a1 false _ A3.out).mono ?_); rintro e w45 ⟨rfl, hb⟩; refine ⟨_, rfl, ?_⟩; replace bh := Aside0.mk (Kd.V_below zx3_3 hb); replace bc := Aside0.mk (blk_below (g := ba) (o := .cells #[.int .u64 bg, .int .u64 bd, .slice bj be.length bi] 27 (0, 0)) zx3_1 hb); replace bf := Aside0.mk (blk_below (g := bb) (o := .cells #[.int .u64 0, .int .u64 0, .slice none 0 0] 27 (0, 0)) zx3_2 hb); replace HB := Aside0.mk (below_step zx3_0 hb); (try clear hb); (try clear hb2); (try clear hk); (try clear hi); have d5 := bl.out; have d1 := bm.out; have dw : w45.cell? ⟨bb, 0, none⟩ = some (.int .u64 0) := (blk_cell bf.out 0).trans rfl; have dv : w45.cell? ⟨bb, 1, none⟩ = some (.int .u64 0) := (blk_cell bf.out 1).trans rfl; have du : w45.cell? ⟨bb, 2, none⟩ = some (.slice none 0 0) := (blk_cell bf.out 2).trans rfl; have b0 := blk_frozen bf.out 0; have bZ := blk_frozen bf.out 1; have bY := blk_frozen bf.out 2))
  refine bodyPost_ret (results_ct rfl _ _ bb 27 #[.int .u64 0, .int .u64 0, .slice none 0 0] (0, 0) _ rfl zx3_6 Tryd.underlying27 rfl (by kernel_rfl)) rfl ?_
  exact ⟨_, by first | rfl | (simp [errW_none, errW_some] <;> rfl) | (simp [*, errW_none, errW_some] <;> rfl), by first | exact Kd.S_nil _ _ _ _ _ | exact Kd.N_nil _ _ _ _ _ | exact Kd.V_nil _ _ _ _ _ | exact Kd.Q_nil _ _ _ _ _ | exact Kd.R_nil _ _ _ _ _, by repeat (first | (with_reducible first | exact HB.out | apply below_alloc | apply pw_below_drewN | apply below_drew1 | refine below_set ?_ bu.out | refine below_set ?_ bx.out) | exact HB.out)⟩

 subst c4
 have H1 : ((ledger_place.f be a1).bind fun br => (if br ≥ 0 then (some (0, 0, ([] : List (S37)), 4)) else (if (be.length : Int) ≥ 4 then (some (0, 0, ([] : List (S37)), 6)) else ((ledger_Dest_33.f be).bind fun bo => ((some (([(⟨a1, bd, bd, ([] : List Int), 0, 0, 0⟩ : S37)] : List (S37)) : List (S37))).bind fun bn => (if bo.length + bn.length < 1759218604441 then (some (bg, bd, (bo ++ bn), 0)) else (none))))))) = some (r1, r2, r3, r4) := by rw [if_pos rfl] at H; exact H
 clear H
 have H := H1
 clear H1
 replace H := Option.bind_eq_some_iff.mp H
 obtain ⟨br, A50, H⟩ := H
 replace H : (if br ≥ 0 then (some (0, 0, ([] : List (S37)), 4)) else (if (be.length : Int) ≥ 4 then (some (0, 0, ([] : List (S37)), 6)) else ((ledger_Dest_33.f be).bind fun bo => ((some (([(⟨a1, bd, bd, ([] : List Int), 0, 0, 0⟩ : S37)] : List (S37)) : List (S37))).bind fun bn => (if bo.length + bn.length < 1759218604441 then (some (bg, bd, (bo ++ bn), 0)) else (none)))))) = some (r1, r2, r3, r4) := H
 have A5 := Aside0.mk A50
 clear A50
 by_cases c6 : br ≥ 0
 ·rw [if_pos c6] at H
  have dZ : decide (0 ≤ br) = true := decide_eq_true c6
  clear c6
  simp only [Option.some.injEq, Prod.mk.injEq] at H
  obtain ⟨rfl, rfl, rfl, rfl⟩ := H
  go_enter Tryd.func14, Tryd.ntmps14
  go_wp2_with (first | ((with_reducible refine gate_dst (N := 2) rfl ?_); refine box_event ?hg (N := 2) ?hd (cs := #[.int .u64 bg, .int .u64 bd, .slice bj be.length bi]) (t := 27) ?hr ?_; (case hd => rfl); (case hg => rfl); (case hr => first | (go_simp; done) | (go_simp; rfl)); intro ba hg w7 hbox hb; replace bh := Aside0.mk (Kd.V_below (Kd.V_elderB zx3_3 ba (Nat.le_of_eq hg.symm)) hb); have bc := Aside0.mk (hbox); have bI := Aside0.mk ((by rw [hg]; exact (below_size zx3_5) : w.heap.size ≤ ba)); have bu := Aside0.mk ((by rw [hg]; exact (below_size zx3_5) : w.heap.size ≤ ba)); replace HB := Aside0.mk (below_step zx3_5 hb); clear hb hbox hg) | ((with_reducible refine gate_dst (N := 4) rfl ?_); refine box_event ?hg (N := 4) ?hd (cs := #[.int .u64 0, .int .u64 0, .slice none 0 0]) (t := 27) ?hr ?_; (case hd => rfl); (case hg => rfl); (case hr => first | (go_simp; done) | (go_simp; rfl)); intro bb hg w8 hbox hb; replace bh := Aside0.mk (Kd.V_below (Kd.V_elderB zx3_3 bb (Nat.le_of_eq hg.symm)) hb); have bf := Aside0.mk (hbox); have bH := Aside0.mk ((by rw [hg]; exact (below_size zx3_4) : w.heap.size ≤ bb)); have bx := Aside0.mk ((by rw [hg]; exact (below_size zx3_4) : w.heap.size ≤ bb)); replace HB := Aside0.mk (below_step zx3_4 hb); have bm := Aside0.mk ((by rw [hg]; exact Nat.ne_of_lt (blk_lt (g := ba) (o := .cells #[.int .u64 bg, .int .u64 bd, .slice bj be.length bi] 27 (0, 0)) zx3_1) : ba ≠ bb)); have bl := Aside0.mk ((by rw [hg]; exact Nat.ne_of_gt (blk_lt (g := ba) (o := .cells #[.int .u64 bg, .int .u64 bd, .slice bj be.length bi] 27 (0, 0)) zx3_1) : bb ≠ ba)); replace bc := Aside0.mk (blk_below (g := ba) (o := .cells #[.int .u64 bg, .int .u64 bd, .slice bj be.length bi] 27 (0, 0)) zx3_1 hb); clear hb hbox hg) | ((with_reducible refine gate_callee (f := 34) rfl ?_); refine goesL_ (some 8) rfl rfl Tryd.func34 (by kernel_rfl) rfl #[.string a1] rfl zx3_7 ?_; (with_reducible refine (label_Name.calls a1 true _ A3.out).mono ?_); rintro e w9 ⟨rfl, hb⟩; refine ⟨_, rfl, ?_⟩; replace bh := Aside0.mk (Kd.V_below zx3_3 hb); replace bc := Aside0.mk (blk_below (g := ba) (o := .cells #[.int .u64 bg, .int .u64 bd, .slice bj be.length bi] 27 (0, 0)) zx3_1 hb); replace bf := Aside0.mk (blk_below (g := bb) (o := .cells #[.int .u64 0, .int .u64 0, .slice none 0 0] 27 (0, 0)) zx3_2 hb); replace HB := Aside0.mk (below_step zx3_0 hb); (try clear hb); (try clear hb2); (try clear hk); (try clear hi); have d8 := bm.out; have d4 := bl.out; have dX : w9.cell? ⟨ba, 0, none⟩ = some (.int .u64 bg) := (blk_cell bc.out 0).trans rfl; have dW : w9.cell? ⟨ba, 1, none⟩ = some (.int .u64 bd) := (blk_cell bc.out 1).trans rfl; have dV : w9.cell? ⟨ba, 2, none⟩ = some (.slice bj be.length bi) := (blk_cell bc.out 2).trans rfl; have dt := blk_frozen bc.out 0; have dr := blk_frozen bc.out 1; have dq := blk_frozen bc.out 2) | ((with_reducible refine gate_callee (f := 31) rfl ?_); refine goesL_ (some 15) rfl rfl Tryd.func31 (by kernel_rfl) rfl #[.slice bj be.length bi, .string a1] rfl zx3_7 ?_; (with_reducible refine (ledger_place.calls _ _ be a1 br _ ?side1 ?side2 A5.out).mono ?_); (case side1 => repeat (first | exact (Kd.V_reads' bh.out).2.2 | (with_reducible refine Kd.C_alloc ?_ _) | (with_reducible refine Kd.C_drewN ?_ _) | (with_reducible refine Kd.C_drew ?_))); (case side2 => exact (Kd.V_reads' bh.out).2.1); rintro e w12 ⟨rfl, hb⟩; refine ⟨_, rfl, ?_⟩; replace bh := Aside0.mk (Kd.V_below zx3_3 hb); replace bc := Aside0.mk (blk_below (g := ba) (o := .cells #[.int .u64 bg, .int .u64 bd, .slice bj be.length bi] 27 (0, 0)) zx3_1 hb); replace bf := Aside0.mk (blk_below (g := bb) (o := .cells #[.int .u64 0, .int .u64 0, .slice none 0 0] 27 (0, 0)) zx3_2 hb); replace HB := Aside0.mk (below_step zx3_0 hb); (try clear hb); (try clear hb2); (try clear hk); (try clear hi); have dU : w12.cell? ⟨bb, 0, none⟩ = some (.int .u64 0) := (blk_cell bf.out 0).trans rfl; have dT : w12.cell? ⟨bb, 1, none⟩ = some (.int .u64 0) := (blk_cell bf.out 1).trans rfl; have dS : w12.cell? ⟨bb, 2, none⟩ = some (.slice none 0 0) := (blk_cell bf.out 2).trans rfl; have dp := blk_frozen bf.out 0; have dn := blk_frozen bf.out 1; have dm := blk_frozen bf.out 2))
  refine bodyPost_ret (results_ct rfl _ _ bb 27 #[.int .u64 0, .int .u64 0, .slice none 0 0] (0, 0) _ rfl zx3_6 Tryd.underlying27 rfl (by kernel_rfl)) rfl ?_
  exact ⟨_, by first | rfl | (simp [errW_none, errW_some] <;> rfl) | (simp [*, errW_none, errW_some] <;> rfl), by first | exact Kd.S_nil _ _ _ _ _ | exact Kd.N_nil _ _ _ _ _ | exact Kd.V_nil _ _ _ _ _ | exact Kd.Q_nil _ _ _ _ _ | exact Kd.R_nil _ _ _ _ _, by repeat (first | (with_reducible first | exact HB.out | apply below_alloc | apply pw_below_drewN | apply below_drew1 | refine below_set ?_ bu.out | refine below_set ?_ bx.out) | exact HB.out)⟩
 rw [if_neg c6] at H
 have dZ : decide (0 ≤ br) = false := decide_eq_false c6
 clear c6
 by_cases c14 : (be.length : Int) ≥ 4
 ·rw [if_pos c14] at H
  have bR : decide (4 ≤ (be.length : Int)) = true := decide_eq_true c14
  have bQ : decide (4 ≤ be.length) = true := decide_eq_true (by omega)
  clear c14
  simp only [Option.some.injEq, Prod.mk.injEq] at H
  obtain ⟨rfl, rfl, rfl, rfl⟩ := H
  go_enter Tryd.func14, Tryd.ntmps14
  go_wp2_with (first | ((with_reducible refine gate_dst (N := 2) rfl ?_); refine box_event ?hg (N := 2) ?hd (cs := #[.int .u64 bg, .int .u64 bd, .slice bj be.length bi]) (t := 27) ?hr ?_; (case hd => rfl); (case hg => rfl); (case hr => first | (go_simp; done) | (go_simp; rfl)); intro ba hg w15 hbox hb; replace bh := Aside0.mk (Kd.V_below (Kd.V_elderB zx3_3 ba (Nat.le_of_eq hg.symm)) hb); have bc := Aside0.mk (hbox); have bI := Aside0.mk ((by rw [hg]; exact (below_size zx3_5) : w.heap.size ≤ ba)); have bu := Aside0.mk ((by rw [hg]; exact (below_size zx3_5) : w.heap.size ≤ ba)); replace HB := Aside0.mk (below_step zx3_5 hb); clear hb hbox hg) | ((with_reducible refine gate_dst (N := 4) rfl ?_); refine box_event ?hg (N := 4) ?hd (cs := #[.int .u64 0, .int .u64 0, .slice none 0 0]) (t := 27) ?hr ?_; (case hd => rfl); (case hg => rfl); (case hr => first | (go_simp; done) | (go_simp; rfl)); intro bb hg w16 hbox hb; replace bh := Aside0.mk (Kd.V_below (Kd.V_elderB zx3_3 bb (Nat.le_of_eq hg.symm)) hb); have bf := Aside0.mk (hbox); have bH := Aside0.mk ((by rw [hg]; exact (below_size zx3_4) : w.heap.size ≤ bb)); have bx := Aside0.mk ((by rw [hg]; exact (below_size zx3_4) : w.heap.size ≤ bb)); replace HB := Aside0.mk (below_step zx3_4 hb); have bm := Aside0.mk ((by rw [hg]; exact Nat.ne_of_lt (blk_lt (g := ba) (o := .cells #[.int .u64 bg, .int .u64 bd, .slice bj be.length bi] 27 (0, 0)) zx3_1) : ba ≠ bb)); have bl := Aside0.mk ((by rw [hg]; exact Nat.ne_of_gt (blk_lt (g := ba) (o := .cells #[.int .u64 bg, .int .u64 bd, .slice bj be.length bi] 27 (0, 0)) zx3_1) : bb ≠ ba)); replace bc := Aside0.mk (blk_below (g := ba) (o := .cells #[.int .u64 bg, .int .u64 bd, .slice bj be.length bi] 27 (0, 0)) zx3_1 hb); clear hb hbox hg) | ((with_reducible refine gate_callee (f := 34) rfl ?_); refine goesL_ (some 8) rfl rfl Tryd.func34 (by kernel_rfl) rfl #[.string a1] rfl zx3_7 ?_; (with_reducible refine (label_Name.calls a1 true _ A3.out).mono ?_); rintro e w17 ⟨rfl, hb⟩; refine ⟨_, rfl, ?_⟩; replace bh := Aside0.mk (Kd.V_below zx3_3 hb); replace bc := Aside0.mk (blk_below (g := ba) (o := .cells #[.int .u64 bg, .int .u64 bd, .slice bj be.length bi] 27 (0, 0)) zx3_1 hb); replace bf := Aside0.mk (blk_below (g := bb) (o := .cells #[.int .u64 0, .int .u64 0, .slice none 0 0] 27 (0, 0)) zx3_2 hb); replace HB := Aside0.mk (below_step zx3_0 hb); (try clear hb); (try clear hb2); (try clear hk); (try clear hi); have d7 := bm.out; have d3 := bl.out; have dR : w17.cell? ⟨ba, 0, none⟩ = some (.int .u64 bg) := (blk_cell bc.out 0).trans rfl; have dQ : w17.cell? ⟨ba, 1, none⟩ = some (.int .u64 bd) := (blk_cell bc.out 1).trans rfl; have dP : w17.cell? ⟨ba, 2, none⟩ = some (.slice bj be.length bi) := (blk_cell bc.out 2).trans rfl; have dl := blk_frozen bc.out 0; have dk := blk_frozen bc.out 1; have dj := blk_frozen bc.out 2) | ((with_reducible refine gate_callee (f := 31) rfl ?_); refine goesL_ (some 15) rfl rfl Tryd.func31 (by kernel_rfl) rfl #[.slice bj be.length bi, .string a1] rfl zx3_7 ?_; (with_reducible refine (ledger_place.calls _ _ be a1 br _ ?side1 ?side2 A5.out).mono ?_); (case side1 => repeat (first | exact (Kd.V_reads' bh.out).2.2 | (with_reducible refine Kd.C_alloc ?_ _) | (with_reducible refine Kd.C_drewN ?_ _) | (with_reducible refine Kd.C_drew ?_))); (case side2 => exact (Kd.V_reads' bh.out).2.1); rintro e w20 ⟨rfl, hb⟩; refine ⟨_, rfl, ?_⟩; replace bh := Aside0.mk (Kd.V_below zx3_3 hb); replace bc := Aside0.mk (blk_below (g := ba) (o := .cells #[.int .u64 bg, .int .u64 bd, .slice bj be.length bi] 27 (0, 0)) zx3_1 hb); replace bf := Aside0.mk (blk_below (g := bb) (o := .cells #[.int .u64 0, .int .u64 0, .slice none 0 0] 27 (0, 0)) zx3_2 hb); replace HB := Aside0.mk (below_step zx3_0 hb); (try clear hb); (try clear hb2); (try clear hk); (try clear hi); have dO : w20.cell? ⟨ba, 0, none⟩ = some (.int .u64 bg) := (blk_cell bc.out 0).trans rfl; have dN : w20.cell? ⟨ba, 1, none⟩ = some (.int .u64 bd) := (blk_cell bc.out 1).trans rfl; have dM : w20.cell? ⟨ba, 2, none⟩ = some (.slice bj be.length bi) := (blk_cell bc.out 2).trans rfl; have di := blk_frozen bc.out 0; have dh := blk_frozen bc.out 1; have dg := blk_frozen bc.out 2; have dL : w20.cell? ⟨bb, 0, none⟩ = some (.int .u64 0) := (blk_cell bf.out 0).trans rfl; have dK : w20.cell? ⟨bb, 1, none⟩ = some (.int .u64 0) := (blk_cell bf.out 1).trans rfl; have dJ : w20.cell? ⟨bb, 2, none⟩ = some (.slice none 0 0) := (blk_cell bf.out 2).trans rfl; have df := blk_frozen bf.out 0; have de := blk_frozen bf.out 1; have dd := blk_frozen bf.out 2))
  refine bodyPost_ret (results_ct rfl _ _ bb 27 #[.int .u64 0, .int .u64 0, .slice none 0 0] (0, 0) _ rfl zx3_6 Tryd.underlying27 rfl (by kernel_rfl)) rfl ?_
  exact ⟨_, by first | rfl | (simp [errW_none, errW_some] <;> rfl) | (simp [*, errW_none, errW_some] <;> rfl), by first | exact Kd.S_nil _ _ _ _ _ | exact Kd.N_nil _ _ _ _ _ | exact Kd.V_nil _ _ _ _ _ | exact Kd.Q_nil _ _ _ _ _ | exact Kd.R_nil _ _ _ _ _, by repeat (first | (with_reducible first | exact HB.out | apply below_alloc | apply pw_below_drewN | apply below_drew1 | refine below_set ?_ bu.out | refine below_set ?_ bx.out) | exact HB.out)⟩
 rw [if_neg c14] at H
 have bR : decide (4 ≤ (be.length : Int)) = false := decide_eq_false c14
 have bQ : decide (4 ≤ be.length) = false := decide_eq_false (by omega)
 clear c14
 replace H := Option.bind_eq_some_iff.mp H
 obtain ⟨bo, bV, H⟩ := H
 replace H : ((some (([(⟨a1, bd, bd, ([] : List Int), 0, 0, 0⟩ : S37)] : List (S37)) : List (S37))).bind fun bn => (if bo.length + bn.length < 1759218604441 then (some (bg, bd, (bo ++ bn), 0)) else (none))) = some (r1, r2, r3, r4) := H
 have A23 := Aside0.mk bV
 clear bV
 obtain ⟨bn, bB⟩ : ∃ y_ : List (S37), y_ = (([(⟨a1, bd, bd, ([] : List Int), 0, 0, 0⟩ : S37)] : List (S37))) := ⟨_, rfl⟩
 replace H : (if bo.length + bn.length < 1759218604441 then (some (bg, bd, (bo ++ bn), 0)) else (none)) = some (r1, r2, r3, r4) := by first | (rw [bB]; with_reducible exact H) | (have H2_ := (Option.bind_some _ _).symm.trans H; rw [bB]; with_reducible exact H2_) | (have H2_ := (Option.bind_some _ _).symm.trans H; with_reducible exact H2_) | with_reducible exact H | (rw [bB]; exact H) | exact H
 have bD := Aside0.mk bB
 clear bB
 by_cases c24 : bo.length + bn.length < 1759218604441
 case neg =>
  rw [if_neg c24] at H
  exact absurd H (by simp)
 rw [if_pos c24] at H
 have bU := Aside0.mk c24
 clear c24
 obtain ⟨bJ, bA⟩ : ∃ y_ : List (S37), y_ = (bo ++ bn) := ⟨_, rfl⟩
 replace H : (some (bg, bd, bJ, 0)) = some (r1, r2, r3, r4) := by first | (rw [bA]; with_reducible exact H) | (have H2_ := (Option.bind_some _ _).symm.trans H; rw [bA]; with_reducible exact H2_) | (have H2_ := (Option.bind_some _ _).symm.trans H; with_reducible exact H2_) | with_reducible exact H | (rw [bA]; exact H) | exact H
 have bS := Aside0.mk bA
 clear bA
 simp only [Option.some.injEq, Prod.mk.injEq] at H
 obtain ⟨rfl, rfl, rfl, rfl⟩ := H
 go_enter Tryd.func14, Tryd.ntmps14
 try go_wp2_with (first | ((with_reducible refine gate_dst (N := 2) rfl ?_); refine box_event ?hg (N := 2) ?hd (cs := #[.int .u64 bg, .int .u64 bd, .slice bj be.length bi]) (t := 27) ?hr ?_; (case hd => rfl); (case hg => rfl); (case hr => first | (go_simp; done) | (go_simp; rfl)); intro ba hg w25 hbox hb; replace bh := Aside0.mk (Kd.V_below (Kd.V_elderB zx3_3 ba (Nat.le_of_eq hg.symm)) hb); have bc := Aside0.mk (hbox); have bI := Aside0.mk ((by rw [hg]; exact (below_size zx3_5) : w.heap.size ≤ ba)); have bu := Aside0.mk ((by rw [hg]; exact (below_size zx3_5) : w.heap.size ≤ ba)); replace HB := Aside0.mk (below_step zx3_5 hb); clear hb hbox hg) | ((with_reducible refine gate_dst (N := 4) rfl ?_); refine box_event ?hg (N := 4) ?hd (cs := #[.int .u64 0, .int .u64 0, .slice none 0 0]) (t := 27) ?hr ?_; (case hd => rfl); (case hg => rfl); (case hr => first | (go_simp; done) | (go_simp; rfl)); intro bb hg w26 hbox hb; replace bh := Aside0.mk (Kd.V_below (Kd.V_elderB zx3_3 bb (Nat.le_of_eq hg.symm)) hb); have bf := Aside0.mk (hbox); have bH := Aside0.mk ((by rw [hg]; exact (below_size zx3_4) : w.heap.size ≤ bb)); have bx := Aside0.mk ((by rw [hg]; exact (below_size zx3_4) : w.heap.size ≤ bb)); replace HB := Aside0.mk (below_step zx3_4 hb); have bm := Aside0.mk ((by rw [hg]; exact Nat.ne_of_lt (blk_lt (g := ba) (o := .cells #[.int .u64 bg, .int .u64 bd, .slice bj be.length bi] 27 (0, 0)) zx3_1) : ba ≠ bb)); have bl := Aside0.mk ((by rw [hg]; exact Nat.ne_of_gt (blk_lt (g := ba) (o := .cells #[.int .u64 bg, .int .u64 bd, .slice bj be.length bi] 27 (0, 0)) zx3_1) : bb ≠ ba)); replace bc := Aside0.mk (blk_below (g := ba) (o := .cells #[.int .u64 bg, .int .u64 bd, .slice bj be.length bi] 27 (0, 0)) zx3_1 hb); clear hb hbox hg) | ((with_reducible refine gate_callee (f := 34) rfl ?_); refine goesL_ (some 8) rfl rfl Tryd.func34 (by kernel_rfl) rfl #[.string a1] rfl zx3_7 ?_; (with_reducible refine (label_Name.calls a1 true _ A3.out).mono ?_); rintro e w27 ⟨rfl, hb⟩; refine ⟨_, rfl, ?_⟩; replace bh := Aside0.mk (Kd.V_below zx3_3 hb); replace bc := Aside0.mk (blk_below (g := ba) (o := .cells #[.int .u64 bg, .int .u64 bd, .slice bj be.length bi] 27 (0, 0)) zx3_1 hb); replace bf := Aside0.mk (blk_below (g := bb) (o := .cells #[.int .u64 0, .int .u64 0, .slice none 0 0] 27 (0, 0)) zx3_2 hb); replace HB := Aside0.mk (below_step zx3_0 hb); (try clear hb); (try clear hb2); (try clear hk); (try clear hi); have d6 := bm.out; have d2 := bl.out; have dI : w27.cell? ⟨ba, 0, none⟩ = some (.int .u64 bg) := (blk_cell bc.out 0).trans rfl; have dH : w27.cell? ⟨ba, 1, none⟩ = some (.int .u64 bd) := (blk_cell bc.out 1).trans rfl; have dG : w27.cell? ⟨ba, 2, none⟩ = some (.slice bj be.length bi) := (blk_cell bc.out 2).trans rfl; have dc := blk_frozen bc.out 0; have db := blk_frozen bc.out 1; have da := blk_frozen bc.out 2) | ((with_reducible refine gate_callee (f := 31) rfl ?_); refine goesL_ (some 15) rfl rfl Tryd.func31 (by kernel_rfl) rfl #[.slice bj be.length bi, .string a1] rfl zx3_7 ?_; (with_reducible refine (ledger_place.calls _ _ be a1 br _ ?side1 ?side2 A5.out).mono ?_); (case side1 => repeat (first | exact (Kd.V_reads' bh.out).2.2 | (with_reducible refine Kd.C_alloc ?_ _) | (with_reducible refine Kd.C_drewN ?_ _) | (with_reducible refine Kd.C_drew ?_))); (case side2 => exact (Kd.V_reads' bh.out).2.1); rintro e w30 ⟨rfl, hb⟩; refine ⟨_, rfl, ?_⟩; replace bh := Aside0.mk (Kd.V_below zx3_3 hb); replace bc := Aside0.mk (blk_below (g := ba) (o := .cells #[.int .u64 bg, .int .u64 bd, .slice bj be.length bi] 27 (0, 0)) zx3_1 hb); replace bf := Aside0.mk (blk_below (g := bb) (o := .cells #[.int .u64 0, .int .u64 0, .slice none 0 0] 27 (0, 0)) zx3_2 hb); replace HB := Aside0.mk (below_step zx3_0 hb); (try clear hb); (try clear hb2); (try clear hk); (try clear hi); have dF : w30.cell? ⟨ba, 0, none⟩ = some (.int .u64 bg) := (blk_cell bc.out 0).trans rfl; have dE : w30.cell? ⟨ba, 1, none⟩ = some (.int .u64 bd) := (blk_cell bc.out 1).trans rfl; have dD : w30.cell? ⟨ba, 2, none⟩ = some (.slice bj be.length bi) := (blk_cell bc.out 2).trans rfl; have b9 := blk_frozen bc.out 0; have b8 := blk_frozen bc.out 1; have b7 := blk_frozen bc.out 2))
 replace bh := Aside0.mk (Kd.V_drew bh.out)
 replace bc := Aside0.mk (blk_drew bc.out)
 replace bf := Aside0.mk (blk_drew bf.out)
 replace HB := Aside0.mk (below_drew1 HB.out)
 refine start_ (n := 13) (S := fun w' => w'.cell? ⟨ba, 0, none⟩ = some (.int .u64 bg) ∧ w'.cell? ⟨ba, 1, none⟩ = some (.int .u64 bd) ∧ w'.cell? ⟨ba, 2, none⟩ = some (.slice bj be.length bi)) (ds := [12]) #[Ff,Ff,Ff,Ff,Ff,Ff,Ff,Ff,Ff,Ff,Ff,Ff,Ff] (by kernel_rfl) rfl rfl ⟨(blk_cell bc.out 0).trans rfl, (blk_cell bc.out 1).trans rfl, (blk_cell bc.out 2).trans rfl⟩ (fun hHeld => ?_); refine with_tabW ledger_Join.tab7 ledger_Join.bits7 (fun HT_ HW_ => ?_)
 generalize w30.drew = w32 at bh bc bf HB hHeld ⊢
 refine pp_ 0 (some 24) HT_.out ?_
 refine pp_ 3 (some 27) HT_.out ?_
 refine pp_ 4 (some 28) HT_.out ?_
 refine pp_ 6 (some 30) HT_.out ?_
 refine take_ (i := 1) (N := some 25) (v := ?_) (a' := ?_) #[Tt,Tt,Ff,Tt,Tt,Ff,Tt,Ff,Ff,Ff,Ff,Ff,Ff] rfl rfl (take_ofW HT_.out HW_.out (by kernel_rfl)) (fun _ _ _ h => h) (Or.inl ⟨by rfl, ?_⟩) hHeld ?_ ?_
 rotate_left
 ·rintro w' ⟨s0, s1, s2⟩
  go_simp
  with_reducible rfl
 rotate_left
 ·simp only [Act.put, List.setIfInBounds_toArray, List.set_cons_zero, List.set_cons_succ, i64_w, i32_w]
  rfl
 refine take_ (i := 5) (N := some 29) (v := ?_) (a' := ?_) #[Tt,Tt,Ff,Tt,Tt,Tt,Tt,Ff,Ff,Ff,Ff,Ff,Ff] rfl rfl (take_ofW HT_.out HW_.out (by kernel_rfl)) (fun _ _ _ h => h) (Or.inl ⟨by rfl, ?_⟩) hHeld ?_ ?_
 rotate_left
 ·rintro w' ⟨s0, s1, s2⟩
  go_simp
  with_reducible rfl
 rotate_left
 ·simp only [Act.put, List.setIfInBounds_toArray, List.set_cons_zero, List.set_cons_succ, i64_w, i32_w]
  rfl
 refine take_ (i := 7) (N := some 31) (v := ?_) (a' := ?_) #[Tt,Tt,Ff,Tt,Tt,Tt,Tt,Tt,Ff,Ff,Ff,Ff,Ff] rfl rfl (take_ofW HT_.out HW_.out (by kernel_rfl)) (fun _ _ _ h => h) (Or.inl ⟨by rfl, ?_⟩) hHeld ?_ ?_
 rotate_left
 ·rintro w' ⟨s0, s1, s2⟩
  go_simp
  with_reducible rfl
 rotate_left
 ·simp only [Act.put, List.setIfInBounds_toArray, List.set_cons_zero, List.set_cons_succ, i64_w, i32_w]
  rfl
 refine pp_ 8 (some 32) HT_.out ?_
 refine join_ (σ := Value × Value) 3 #[Tt,Tt,Tt,Tt,Tt,Tt,Tt,Tt,Tt,Tt,Ff,Ff,Ff] (fun s_ => [(26, s_.1), (33, s_.2)]) (fun s_ w' => (w'.cell? ⟨ba, 0, none⟩ = some (.int .u64 bg) ∧ w'.cell? ⟨ba, 1, none⟩ = some (.int .u64 bd) ∧ w'.cell? ⟨ba, 2, none⟩ = some (.slice bj be.length bi)) ∧ (Kd.V k37 37 w' w.heap.size (fun k_ => (bk k_ ∨ w.heap.size ≤ k_) ∧ some k_ ≠ (s_.1 : Value).ownBlock ∧ some k_ ≠ (s_.2 : Value).ownBlock ∧ k_ ≠ ba ∧ k_ ≠ bb) (.slice bj be.length bi) be) ∧ (Kd.N k37 37 w' w.heap.size (fun k_ => (bk k_ ∨ w.heap.size ≤ k_) ∧ some k_ ≠ (s_.2 : Value).ownBlock ∧ k_ ≠ ba ∧ k_ ≠ bb) s_.1 bo) ∧ (Kd.N k37 37 w' w.heap.size (fun k_ => (bk k_ ∨ w.heap.size ≤ k_) ∧ some k_ ≠ (s_.1 : Value).ownBlock ∧ k_ ≠ ba ∧ k_ ≠ bb) s_.2 bn) ∧ (w'.heap[ba]? = some (.cells #[.int .u64 bg, .int .u64 bd, .slice bj be.length bi] 27 (0, 0))) ∧ (w'.heap[bb]? = some (.cells #[.int .u64 0, .int .u64 0, .slice none 0 0] 27 (0, 0))) ∧ (Below w.heap.size w w')) ?_ ?_
 rotate_left
 ·intro hCont
  refine two_ (i := 2) (j := 9) (Ni := some 26) (Nj := some 33) #[Tt,Tt,Tt,Tt,Tt,Tt,Tt,Tt,Tt,Ff,Ff,Ff,Ff] #[Tt,Tt,Ff,Tt,Tt,Tt,Tt,Tt,Tt,Tt,Ff,Ff,Ff] rfl rfl rfl rfl (two_of HT_.out (by kernel_rfl)) (by decide) (by decide) (fun K hK => ?_) (fun K hK => ?_)
  ·skip
   refine goes_ Tryd.func33 (by kernel_rfl) rfl #[.slice bj be.length bi] (by rfl) rfl rfl zx3_7 ?_
   with_reducible refine (ledger_Dest_33.calls (fun k_ => (((bk k_ ∨ w.heap.size ≤ k_) ∧ k_ ≠ ba) ∧ k_ ≠ bb)) _ _ be bo _ ?side1 A23.out).mono ?_
   (case side1 => exact bh.out)
   rintro e w33 ⟨bw, rfl, ho0, hb⟩
   refine ⟨_, rfl, ?_⟩
   replace bh := Aside0.mk (Kd.V_elder' zx3_3 (Kd.N_base ho0) hb)
   have bp := Aside0.mk (Kd.N_lower (Kd.N_mono (ok' := fun k_ => (bk k_ ∨ w.heap.size ≤ k_) ∧ k_ ≠ ba ∧ k_ ≠ bb) ho0 (fun k_ hk_ => ⟨Or.elim hk_ (fun hs_ => hs_.1.1) (fun hn_ => (.inr (Nat.le_trans (below_size zx3_0) hn_))), Or.elim hk_ (fun hs_ => hs_.1.2) (fun hn_ => (Kd.freshB (g := ba) (o := .cells #[.int .u64 bg, .int .u64 bd, .slice bj be.length bi] 27 (0, 0)) zx3_1 k_ hn_)), Or.elim hk_ (fun hs_ => hs_.2) (fun hn_ => (Kd.freshB (g := bb) (o := .cells #[.int .u64 0, .int .u64 0, .slice none 0 0] 27 (0, 0)) zx3_2 k_ hn_))⟩)) (below_size zx3_0))
   replace bc := Aside0.mk (blk_below (g := ba) (o := .cells #[.int .u64 bg, .int .u64 bd, .slice bj be.length bi] 27 (0, 0)) zx3_1 hb)
   replace bf := Aside0.mk (blk_below (g := bb) (o := .cells #[.int .u64 0, .int .u64 0, .slice none 0 0] 27 (0, 0)) zx3_2 hb)
   replace HB := Aside0.mk (below_step zx3_0 hb)
   (try clear hb)
   (try clear hb2)
   (try clear hk)
   (try clear hi)
   (try clear ho0)
   refine hK.out _ _ ⟨(blk_cell bc.out 0).trans rfl, (blk_cell bc.out 1).trans rfl, (blk_cell bc.out 2).trans rfl⟩ (fun hHeld => ?_)
   clear hK K
   refine na_ 26 ?_
   refine one_ (i := 9) (N := some 33) #[Tt,Tt,Tt,Tt,Tt,Tt,Tt,Tt,Tt,Tt,Ff,Ff,Ff] rfl rfl (one_of HT_.out (by kernel_rfl)) (by decide) (fun K hK => ?_)
   refine Kd.N_lit_step k37 _ 37 ?hg (N' := 33) ?hd (xs := ([(⟨a1, bd, bd, ([] : List Int), 0, 0, 0⟩ : S37)] : List (S37))) (inner := [.string a1, .int .u64 bd, .int .u64 bd, .slice none 0 0, .int .u64 0, .int .u64 0, .int .u64 0]) (ok := (fun k_ => (bk k_ ∨ w.heap.size ≤ k_) ∧ some k_ ≠ (bw : Value).ownBlock ∧ k_ ≠ ba ∧ k_ ≠ bb)) (okp := (fun k_ => (bk k_ ∨ w.heap.size ≤ k_) ∧ some k_ ≠ (bw : Value).ownBlock ∧ k_ ≠ ba ∧ k_ ≠ bb)) ?hr ?hp (fun _ hk => hk) ((show ∀ k_, w33.heap.size ≤ k_ → (fun k_ => (bk k_ ∨ w.heap.size ≤ k_) ∧ some k_ ≠ (bw : Value).ownBlock ∧ k_ ≠ ba ∧ k_ ≠ bb) k_ from fun k_ hk => ⟨(.inr (Nat.le_trans (below_size zx3_0) hk)), Kd.fresh' (Kd.N_lt (by (with_reducible repeat (first | apply Kd.N_alloc | apply Kd.N_drewN | apply Kd.N_drew)); exact bp.out)) k_ hk, Kd.freshB (g := ba) (o := .cells #[.int .u64 bg, .int .u64 bd, .slice bj be.length bi] 27 (0, 0)) zx3_1 k_ hk, Kd.freshB (g := bb) (o := .cells #[.int .u64 0, .int .u64 0, .slice none 0 0] 27 (0, 0)) zx3_2 k_ hk⟩) _ (Nat.le_refl _)) (Below.refl _ _) (Nat.le_refl _) (by simp) ?_; (case hd => rfl); (case hg => rfl); (case hr => first | (go_simp; done) | (go_simp; rfl)); (case hp => exact (Reps.c7 (show Kd.FK k37 _ _ (⟨a1, bd, bd, ([] : List Int), 0, 0, 0⟩ : S37) [.string a1, .int .u64 bd, .int .u64 bd, .slice none 0 0, .int .u64 0, .int .u64 0, .int .u64 0] from (k37_mkF _ _ (⟨a1, bd, bd, ([] : List Int), 0, 0, 0⟩ : S37) (Nat.le_refl _) (Kd.F_nil _ _ _))) (Reps.none _ _)))
   intro bz w34 bC hb hg_ hnew_
   clear hg_ hnew_
   (first | rw [← bD.out] at bC | (simp only [Int.reduceToNat] at bC; rw [← bD.out] at bC))
   replace bh := Aside0.mk (Kd.V_elder' zx3_3 (Kd.N_base bC) hb)
   replace bp := Aside0.mk (Kd.N_elder' (by (with_reducible repeat (first | apply Kd.N_alloc | apply Kd.N_drewN | apply Kd.N_drew)); exact bp.out) (Kd.N_base bC) hb)
   have bq := Aside0.mk (Kd.N_lower bC (below_size zx3_0))
   replace bc := Aside0.mk (blk_below (g := ba) (o := .cells #[.int .u64 bg, .int .u64 bd, .slice bj be.length bi] 27 (0, 0)) zx3_1 hb)
   replace bf := Aside0.mk (blk_below (g := bb) (o := .cells #[.int .u64 0, .int .u64 0, .slice none 0 0] 27 (0, 0)) zx3_2 hb)
   replace HB := Aside0.mk (below_step zx3_0 hb)
   clear hb bC
   refine hK.out _ _ ⟨(blk_cell bc.out 0).trans rfl, (blk_cell bc.out 1).trans rfl, (blk_cell bc.out 2).trans rfl⟩ (fun hHeld => ?_)
   clear hK K
   refine na_ 33 ?_
   exact norm_ (by simp only [putAll, Act.put, List.setIfInBounds_toArray, List.set_cons_zero, List.set_cons_succ]) (hCont (bw, bz) _ ⟨hHeld, (by (with_reducible repeat (first | apply Kd.V_alloc | apply Kd.V_drewN | apply Kd.V_drew)); exact Kd.V_mono bh.out (fun _ hk => ⟨hk.1.1.1.1, ⟨hk.1.2, ⟨hk.2, ⟨hk.1.1.1.2, hk.1.1.2⟩⟩⟩⟩)), (by (with_reducible repeat (first | apply Kd.N_alloc | apply Kd.N_drewN | apply Kd.N_drew)); exact Kd.N_mono bp.out (fun _ hk => ⟨hk.1.1, ⟨hk.2, ⟨hk.1.2.1, hk.1.2.2⟩⟩⟩)), (by (with_reducible repeat (first | apply Kd.N_alloc | apply Kd.N_drewN | apply Kd.N_drew)); exact bq.out), zx3_1, zx3_2, zx3_0⟩)
  skip
  refine Kd.N_lit_step k37 _ 37 ?hg (N' := 33) ?hd (xs := ([(⟨a1, bd, bd, ([] : List Int), 0, 0, 0⟩ : S37)] : List (S37))) (inner := [.string a1, .int .u64 bd, .int .u64 bd, .slice none 0 0, .int .u64 0, .int .u64 0, .int .u64 0]) (ok := (fun k_ => (bk k_ ∨ w.heap.size ≤ k_) ∧ k_ ≠ ba ∧ k_ ≠ bb)) (okp := (fun k_ => (bk k_ ∨ w.heap.size ≤ k_) ∧ k_ ≠ ba ∧ k_ ≠ bb)) ?hr ?hp (fun _ hk => hk) ((show ∀ k_, w32.heap.size ≤ k_ → (fun k_ => (bk k_ ∨ w.heap.size ≤ k_) ∧ k_ ≠ ba ∧ k_ ≠ bb) k_ from fun k_ hk => ⟨(.inr (Nat.le_trans (below_size zx3_0) hk)), Kd.freshB (g := ba) (o := .cells #[.int .u64 bg, .int .u64 bd, .slice bj be.length bi] 27 (0, 0)) zx3_1 k_ hk, Kd.freshB (g := bb) (o := .cells #[.int .u64 0, .int .u64 0, .slice none 0 0] 27 (0, 0)) zx3_2 k_ hk⟩) _ (Nat.le_refl _)) (Below.refl _ _) (Nat.le_refl _) (by simp) ?_; (case hd => rfl); (case hg => rfl); (case hr => first | (go_simp; done) | (go_simp; rfl)); (case hp => exact (Reps.c7 (show Kd.FK k37 _ _ (⟨a1, bd, bd, ([] : List Int), 0, 0, 0⟩ : S37) [.string a1, .int .u64 bd, .int .u64 bd, .slice none 0 0, .int .u64 0, .int .u64 0, .int .u64 0] from (k37_mkF _ _ (⟨a1, bd, bd, ([] : List Int), 0, 0, 0⟩ : S37) (Nat.le_refl _) (Kd.F_nil _ _ _))) (Reps.none _ _)))
  intro bz w33 bG hb hg_ hnew_
  clear hg_ hnew_
  (first | rw [← bD.out] at bG | (simp only [Int.reduceToNat] at bG; rw [← bD.out] at bG))
  replace bh := Aside0.mk (Kd.V_elder' zx3_3 (Kd.N_base bG) hb)
  have bq := Aside0.mk (Kd.N_lower bG (below_size zx3_0))
  replace bc := Aside0.mk (blk_below (g := ba) (o := .cells #[.int .u64 bg, .int .u64 bd, .slice bj be.length bi] 27 (0, 0)) zx3_1 hb)
  replace bf := Aside0.mk (blk_below (g := bb) (o := .cells #[.int .u64 0, .int .u64 0, .slice none 0 0] 27 (0, 0)) zx3_2 hb)
  replace HB := Aside0.mk (below_step zx3_0 hb)
  clear hb bG
  refine hK.out _ _ ⟨(blk_cell bc.out 0).trans rfl, (blk_cell bc.out 1).trans rfl, (blk_cell bc.out 2).trans rfl⟩ (fun hHeld => ?_)
  clear hK K
  refine na_ 33 ?_
  refine one_ (i := 2) (N := some 26) #[Tt,Tt,Tt,Tt,Tt,Tt,Tt,Tt,Tt,Tt,Ff,Ff,Ff] rfl rfl (one_of HT_.out (by kernel_rfl)) (by decide) (fun K hK => ?_)
  refine goes_ Tryd.func33 (by kernel_rfl) rfl #[.slice bj be.length bi] (by rfl) rfl rfl zx3_7 ?_
  with_reducible refine (ledger_Dest_33.calls (fun k_ => ((((bk k_ ∨ w.heap.size ≤ k_) ∧ k_ ≠ ba) ∧ k_ ≠ bb) ∧ some k_ ≠ (bz : Value).ownBlock)) _ _ be bo _ ?side1 A23.out).mono ?_
  (case side1 => exact bh.out)
  rintro e w35 ⟨bw, rfl, ho0, hb⟩
  refine ⟨_, rfl, ?_⟩
  replace bh := Aside0.mk (Kd.V_elder' zx3_3 (Kd.N_base ho0) hb)
  have bp := Aside0.mk (Kd.N_lower (Kd.N_mono (ok' := fun k_ => (bk k_ ∨ w.heap.size ≤ k_) ∧ some k_ ≠ (bz : Value).ownBlock ∧ k_ ≠ ba ∧ k_ ≠ bb) ho0 (fun k_ hk_ => ⟨Or.elim hk_ (fun hs_ => hs_.1.1.1) (fun hn_ => (.inr (Nat.le_trans (below_size zx3_0) hn_))), Or.elim hk_ (fun hs_ => hs_.2) (fun hn_ => (Kd.fresh' (Kd.N_lt (by (with_reducible repeat (first | apply Kd.N_alloc | apply Kd.N_drewN | apply Kd.N_drew)); exact bq.out)) k_ hn_)), Or.elim hk_ (fun hs_ => hs_.1.1.2) (fun hn_ => (Kd.freshB (g := ba) (o := .cells #[.int .u64 bg, .int .u64 bd, .slice bj be.length bi] 27 (0, 0)) zx3_1 k_ hn_)), Or.elim hk_ (fun hs_ => hs_.1.2) (fun hn_ => (Kd.freshB (g := bb) (o := .cells #[.int .u64 0, .int .u64 0, .slice none 0 0] 27 (0, 0)) zx3_2 k_ hn_))⟩)) (below_size zx3_0))
  replace bq := Aside0.mk (Kd.N_elder' (by (with_reducible repeat (first | apply Kd.N_alloc | apply Kd.N_drewN | apply Kd.N_drew)); exact bq.out) (Kd.N_base ho0) hb)
  replace bc := Aside0.mk (blk_below (g := ba) (o := .cells #[.int .u64 bg, .int .u64 bd, .slice bj be.length bi] 27 (0, 0)) zx3_1 hb)
  replace bf := Aside0.mk (blk_below (g := bb) (o := .cells #[.int .u64 0, .int .u64 0, .slice none 0 0] 27 (0, 0)) zx3_2 hb)
  replace HB := Aside0.mk (below_step zx3_0 hb)
  (try clear hb)
  (try clear hb2)
  (try clear hk)
  (try clear hi)
  (try clear ho0)
  refine hK.out _ _ ⟨(blk_cell bc.out 0).trans rfl, (blk_cell bc.out 1).trans rfl, (blk_cell bc.out 2).trans rfl⟩ (fun hHeld => ?_)
  clear hK K
  refine na_ 26 ?_
  exact norm_ (by simp only [putAll, Act.put, List.setIfInBounds_toArray, List.set_cons_zero, List.set_cons_succ]) (hCont (bw, bz) _ ⟨hHeld, (by (with_reducible repeat (first | apply Kd.V_alloc | apply Kd.V_drewN | apply Kd.V_drew)); exact Kd.V_mono bh.out (fun _ hk => ⟨hk.1.1.1.1, ⟨hk.2, ⟨hk.1.2, ⟨hk.1.1.1.2, hk.1.1.2⟩⟩⟩⟩)), (by (with_reducible repeat (first | apply Kd.N_alloc | apply Kd.N_drewN | apply Kd.N_drew)); exact bp.out), (by (with_reducible repeat (first | apply Kd.N_alloc | apply Kd.N_drewN | apply Kd.N_drew)); exact Kd.N_mono bq.out (fun _ hk => ⟨hk.1.1, ⟨hk.2, ⟨hk.1.2.1, hk.1.2.2⟩⟩⟩)), zx3_1, zx3_2, zx3_0⟩)
 rintro ⟨bw, bz⟩ w36 ⟨hS_, h0_, h1_, h2_, h3_, h4_, h5_⟩
 have n0_ : Aside0 (Kd.V k37 37 w36 w.heap.size (fun k_ => (bk k_ ∨ w.heap.size ≤ k_) ∧ some k_ ≠ (bw : Value).ownBlock ∧ some k_ ≠ (bz : Value).ownBlock ∧ k_ ≠ ba ∧ k_ ≠ bb) (.slice bj be.length bi) be) := ⟨h0_⟩
 have n1_ : Aside0 (Kd.N k37 37 w36 w.heap.size (fun k_ => (bk k_ ∨ w.heap.size ≤ k_) ∧ some k_ ≠ (bz : Value).ownBlock ∧ k_ ≠ ba ∧ k_ ≠ bb) bw bo) := ⟨h1_⟩
 have n2_ : Aside0 (Kd.N k37 37 w36 w.heap.size (fun k_ => (bk k_ ∨ w.heap.size ≤ k_) ∧ some k_ ≠ (bw : Value).ownBlock ∧ k_ ≠ ba ∧ k_ ≠ bb) bz bn) := ⟨h2_⟩
 have n3_ : Aside0 (w36.heap[ba]? = some (.cells #[.int .u64 bg, .int .u64 bd, .slice bj be.length bi] 27 (0, 0))) := ⟨h3_⟩
 have n4_ : Aside0 (w36.heap[bb]? = some (.cells #[.int .u64 0, .int .u64 0, .slice none 0 0] 27 (0, 0))) := ⟨h4_⟩
 have n5_ : Aside0 (Below w.heap.size w w36) := ⟨h5_⟩
 clear bh
 clear bc
 clear bf
 clear HB
 clear h0_ h1_ h2_ h3_ h4_ h5_
 have bh := n0_
 have bp := n1_
 have bq := n2_
 have bc := n3_
 have bf := n4_
 have HB := n5_
 clear n0_ n1_ n2_ n3_ n4_ n5_
 have hHeld : w36.cell? ⟨ba, 0, none⟩ = some (.int .u64 bg) ∧ w36.cell? ⟨ba, 1, none⟩ = some (.int .u64 bd) ∧ w36.cell? ⟨ba, 2, none⟩ = some (.slice bj be.length bi) := hS_
 obtain ⟨d0, dY, bP⟩ := Kd.N_slice bq.out
 (first | subst bP | (injection bP with f1_ f2_ f3_; have f4_ := f1_.symm; have f5_ := f3_.symm; clear f1_ f2_ f3_; subst f4_; subst f5_))
 refine nb_ ?_
 refine one_ (i := 10) (N := some 34) #[Tt,Tt,Tt,Tt,Tt,Tt,Tt,Tt,Tt,Tt,Tt,Ff,Ff] rfl rfl (one_of HT_.out (by kernel_rfl)) (by decide) (fun K hK => ?_)
 refine Kd.N_append_rows_step k37 (w0 := w) w.heap.size (by rfl) (.tmp 26) (.tmp 33) 25 37 (.agg #[(.string ⟨#[]⟩), (.int .u64 0), (.int .u64 0), (.slice none 0 0), (.int .u64 0), (.int .u64 0), (.int .u64 0)]) 80 rfl Tryd.underlying25 info37 rfl (by decide) (by omega) bw bo bn _ _ _ (fun k_ => (bk k_ ∨ w.heap.size ≤ k_) ∧ k_ ≠ ba ∧ k_ ≠ bb) (fun k_ => ((fun k_ => (bk k_ ∨ w.heap.size ≤ k_) ∧ k_ ≠ ba ∧ k_ ≠ bb)) k_ ∧ some k_ ≠ (bw : Value).ownBlock) rfl rfl ?aO ?aR (fun _ hk => hk) ?aF ?aB ?aS ?aL ?_
 (case aR => exact (by skip; exact Kd.N_F (Kd.N_mono (ok' := (fun k_ => ((fun k_ => (bk k_ ∨ w.heap.size ≤ k_) ∧ k_ ≠ ba ∧ k_ ≠ bb)) k_ ∧ some k_ ≠ (bw : Value).ownBlock)) (bq.out) (fun k_ hk => ⟨⟨hk.1, ⟨hk.2.2.1, hk.2.2.2⟩⟩, hk.2.1⟩))))
 (case aB => exact zx3_0)
 (case aF => exact (fun k_ hk => ⟨(.inr (Nat.le_trans (below_size zx3_0) hk)), Kd.freshB (g := ba) (o := .cells #[.int .u64 bg, .int .u64 bd, .slice bj be.length bi] 27 (0, 0)) zx3_1 k_ hk, Kd.freshB (g := bb) (o := .cells #[.int .u64 0, .int .u64 0, .slice none 0 0] 27 (0, 0)) zx3_2 k_ hk⟩))
 (case aO => exact (by (with_reducible repeat (first | apply Kd.N_alloc | apply Kd.N_drewN | apply Kd.N_drew)); exact Kd.N_mono bp.out (fun _ hk => ⟨hk.1, ⟨hk.2.2.1, hk.2.2.2⟩⟩)))
 (case aS => exact (below_size zx3_0))
 (case aL => have := bU.out; omega)
 intro ga w37 ho hb hg hat
 rw [← bS.out] at ho
 have n0_ := Aside0.mk (Kd.V_afterv (ok := (fun k_ => (bk k_ ∨ w.heap.size ≤ k_) ∧ some k_ ≠ (.slice d0 bn.length dY : Value).ownBlock ∧ k_ ≠ ba ∧ k_ ≠ bb)) (by (with_reducible repeat (first | apply Kd.V_alloc | apply Kd.V_drewN | apply Kd.V_drew)); exact Kd.V_mono bh.out (fun _ hk => ⟨⟨hk.1, ⟨hk.2.2.1, ⟨hk.2.2.2.1, hk.2.2.2.2⟩⟩⟩, hk.2.1⟩)) hg hat)
 have n1_ := Aside0.mk (blk_grown (g := ba) (o := .cells #[.int .u64 bg, .int .u64 bd, .slice bj be.length bi] 27 (0, 0)) zx3_1 hg (Kd.N_ne bp.out bc.out (by decide)))
 have n2_ := Aside0.mk (blk_grown (g := bb) (o := .cells #[.int .u64 0, .int .u64 0, .slice none 0 0] 27 (0, 0)) zx3_2 hg (Kd.N_ne bp.out bf.out (by decide)))
 have n4_ := Aside0.mk (hb)
 have n5_ := Aside0.mk (ho)
 clear bh
 clear bc
 clear bf
 (try clear bq)
 clear HB
 (try clear bp)
 have bh := n0_
 have bc := n1_
 have bf := n2_
 have HB := n4_
 have bK := n5_
 clear n0_ n1_ n2_ n4_ n5_
 clear ho hb hg hat
 obtain ⟨bM, bL, bO⟩ := Kd.N_slice bK.out
 (first | subst bO | (injection bO with f1_ f2_ f3_; have f4_ := f1_.symm; have f5_ := f3_.symm; clear f1_ f2_ f3_; subst f4_; subst f5_))
 refine hK.out _ _ ⟨(blk_cell bc.out 0).trans rfl, (blk_cell bc.out 1).trans rfl, (blk_cell bc.out 2).trans rfl⟩ (fun hHeld => ?_)
 clear hK K
 refine na_ 34 ?_
 refine pp_ 11 (some 35) HT_.out ?_
 refine last_ (i := 12) (N := none) #[Tt,Tt,Tt,Tt,Tt,Tt,Tt,Tt,Tt,Tt,Tt,Tt,Tt] rfl rfl (one_of HT_.out (by kernel_rfl)) (by decide) (fun K hK => ?_)
 have ge : w37.cell? ⟨ba, 2, none⟩ = some (.slice bj be.length bi) := (blk_cell bc.out 2).trans rfl
 have d9 := blk_frozen bc.out 2
 have bW := bl.out
 have bX := bm.out
 refine skip_ (w1 := ?_) (by rfl) rfl ?_ ?_
 rotate_left
 ·go_simp
  rfl
 refine hK.out _ _ ?_
 clear hK K
 refine done_ (done_of HT_.out (by kernel_rfl)) ?_
 obtain ⟨dC, dB, dA, b6, b5, b4⟩ := cx3_bc3 bc.out
 obtain ⟨dz, dy, dx, b3, b2, b1⟩ := cx3_bc3 bf.out
 try go_wp2
 refine bodyPost_ret (results_ct rfl _ _ bb 27 #[.int .u64 bg, .int .u64 bd, .slice bM bJ.length bL] (0, 0) _ rfl (by (with_reducible repeat (first | refine blk_drewN ?_ _ | refine blk_drew ?_ | refine blk_alloc ?_ _)); refine blk_put (cs := #[.int .u64 bg, .int .u64 bd, .slice none 0 0]) ?_ 2 _ rfl; (with_reducible repeat (first | refine blk_drewN ?_ _ | refine blk_drew ?_ | refine blk_alloc ?_ _)); refine blk_put (cs := #[.int .u64 bg, .int .u64 0, .slice none 0 0]) ?_ 1 _ rfl; (with_reducible repeat (first | refine blk_drewN ?_ _ | refine blk_drew ?_ | refine blk_alloc ?_ _)); refine blk_put (cs := #[.int .u64 0, .int .u64 0, .slice none 0 0]) ?_ 0 _ rfl; (with_reducible repeat (first | refine blk_drewN ?_ _ | refine blk_drew ?_ | refine blk_alloc ?_ _)); refine blk_far ?_ bl.out _; (with_reducible repeat (first | refine blk_drewN ?_ _ | refine blk_drew ?_ | refine blk_alloc ?_ _)); exact bf.out) Tryd.underlying27 rfl (by kernel_rfl)) rfl ?_
 exact ⟨_, by first | rfl | (simp [errW_none, errW_some] <;> rfl) | (simp [*, errW_none, errW_some] <;> rfl), by (with_reducible repeat (first | apply Kd.N_alloc | apply Kd.N_drewN | apply Kd.N_drew)); exact Kd.N_mono (Kd.N_far (p := ⟨bb, 2, none⟩) (Kd.N_far (p := ⟨bb, 1, none⟩) (Kd.N_far (p := ⟨bb, 0, none⟩) (Kd.N_far (p := ⟨ba, 2, none⟩) (Kd.N_mono (Kd.N_mono bK.out (fun k_ hk => (⟨hk, hk.2.1⟩ : _ ∧ k_ ≠ ba))) (fun k_ hk => (⟨hk, hk.1.2.2⟩ : _ ∧ k_ ≠ bb))) (fun _ hk => hk.1.2) (.slice bM bJ.length bL)) (fun _ hk => hk.2) (.int .u64 bg)) (fun _ hk => hk.2) (.int .u64 bd)) (fun _ hk => hk.2) (.slice bM bJ.length bL)) (fun _ hk => hk.1.1.1), by repeat (first | (with_reducible first | exact HB.out | apply below_alloc | apply pw_below_drewN | apply below_drew1 | refine below_set ?_ bu.out | refine below_set ?_ bx.out) | exact HB.out)⟩
end Go.Proofs.YthhmpjapnkilcaaDoor.XLdg
end
section
/- What the functions of the translation answer, each as a plain Lean function, and that the code comes to it; for a law: its row. Conditions: none but those that each theorem names. Written by a program of this session (wip/xp). -/
namespace Go.Proofs.YthhmpjapnkilcaaDoor.XLdg
open Go.RowKit Go.Proofs.YthhmpjapnkilcaaDoorW.PrintWords Go.Proofs.YthhmpjapnkilcaaDoorW.PrintLast Go.Proofs.YthhmpjapnkilcaaDoorW.PrintMore
attribute [local go_sem] max2_int min2_int max_two min_two max_three min_three max_four min_four   -- for this text's walks alone
set_option linter.unusedVariables false
set_option linter.unusedSimpArgs false

/-! ### ledger_Add: function 16 -/
def ledger_Add.f (bf : Int) (be : Int) (bd : List (S37)) : Option (Int × Int × (List (S37))) := (ledger_Dest_33.f bd).bind fun bn => (some (bf, IntKind.u64.wrap (be + 1), bn))
set_option maxHeartbeats 8000000 in
set_option maxRecDepth 100000 in
theorem ledger_Add.calls (bf : Int) (be : Int) (bm : Nat → Prop) (bi : Option Addr) (bh : Nat) (bd : List (S37)) (r1 : Int) (r2 : Int) (r3 : List (S37)) (w : World) (bw : Kd.V k37 37 w w.heap.size (fun k_ => bm k_) (.slice bi bd.length bh) bd) (h : ledger_Add.f bf be bd = some (r1, r2, r3)) :
  Calls Tryd.prog 16 #[.agg #[.int .u64 bf, .int .u64 be, .slice bi bd.length bh]] w fun e w' => ∃ v2_ : Value, e = .returned (.agg #[.int .u64 r1, .int .u64 r2, v2_]) ∧ Kd.N k37 37 w' w.heap.size (fun k_ => (bm k_ ∨ w.heap.size ≤ k_)) v2_ r3 ∧ Below w.heap.size w w' := by
 have b2 := Tryd.underlying27
 have bj := Aside0.mk (show Kd.V k37 37 w w.heap.size (fun k_ => (bm k_ ∨ w.heap.size ≤ k_)) (.slice bi bd.length bh) bd from Kd.V_mono bw (fun k_ hk => .inl hk))
 have HB := Aside0.mk (Below.refl w.heap.size w)
 have H : ((ledger_Dest_33.f bd).bind fun bn => (some (bf, IntKind.u64.wrap (be + 1), bn))) = some (r1, r2, r3) := h
 clear h
 replace H := Option.bind_eq_some_iff.mp H
 obtain ⟨bn, A20, H⟩ := H
 replace H : (some (bf, IntKind.u64.wrap (be + 1), bn)) = some (r1, r2, r3) := H
 have A2 := Aside0.mk A20
 clear A20
 simp only [Option.some.injEq, Prod.mk.injEq] at H
 obtain ⟨rfl, rfl, rfl⟩ := H
 go_enter Tryd.func16, Tryd.ntmps16
 go_wp2_with (first | ((with_reducible refine gate_dst (N := 1) rfl ?_); refine box_event ?hg (N := 1) ?hd (cs := #[.int .u64 bf, .int .u64 be, .slice bi bd.length bh]) (t := 27) ?hr ?_; (case hd => rfl); (case hg => rfl); (case hr => first | (go_simp; done) | (go_simp; rfl)); intro ba hg w3 hbox hb; replace bj := Aside0.mk (Kd.V_below (Kd.V_elderB (by (with_reducible repeat (first | apply Kd.V_alloc | apply Kd.V_drewN | apply Kd.V_drew)); exact bj.out) ba (Nat.le_of_eq hg.symm)) hb); have bb := Aside0.mk (hbox); have b0 := Aside0.mk ((by rw [hg]; exact (below_size (by repeat (first | (with_reducible first | exact HB.out | apply below_alloc | apply pw_below_drewN | apply below_drew1) | exact HB.out))) : w.heap.size ≤ ba)); have bl := Aside0.mk ((by rw [hg]; exact (below_size (by repeat (first | (with_reducible first | exact HB.out | apply below_alloc | apply pw_below_drewN | apply below_drew1) | exact HB.out))) : w.heap.size ≤ ba)); replace HB := Aside0.mk (below_step (by repeat (first | (with_reducible first | exact HB.out | apply below_alloc | apply pw_below_drewN | apply below_drew1) | exact HB.out)) hb); clear hb hbox hg) | ((with_reducible refine gate_dst (N := 2) rfl ?_); refine box_event ?hg (N := 2) ?hd (cs := #[.int .u64 0, .int .u64 0, .slice none 0 0]) (t := 27) ?hr ?_; (case hd => rfl); (case hg => rfl); (case hr => first | (go_simp; done) | (go_simp; rfl)); intro bc hg w4 hbox hb; replace bj := Aside0.mk (Kd.V_below (Kd.V_elderB (by (with_reducible repeat (first | apply Kd.V_alloc | apply Kd.V_drewN | apply Kd.V_drew)); exact bj.out) bc (Nat.le_of_eq hg.symm)) hb); have bg := Aside0.mk (hbox); have bZ := Aside0.mk ((by rw [hg]; exact (below_size (by repeat (first | (with_reducible first | exact HB.out | apply below_alloc | apply pw_below_drewN | apply below_drew1 | refine below_set ?_ bl.out) | exact HB.out))) : w.heap.size ≤ bc)); have bo := Aside0.mk ((by rw [hg]; exact (below_size (by repeat (first | (with_reducible first | exact HB.out | apply below_alloc | apply pw_below_drewN | apply below_drew1 | refine below_set ?_ bl.out) | exact HB.out))) : w.heap.size ≤ bc)); replace HB := Aside0.mk (below_step (by repeat (first | (with_reducible first | exact HB.out | apply below_alloc | apply pw_below_drewN | apply below_drew1 | refine below_set ?_ bl.out) | exact HB.out)) hb); have bp := Aside0.mk ((by rw [hg]; exact Nat.ne_of_lt (blk_lt (g := ba) (o := .cells #[.int .u64 bf, .int .u64 be, .slice bi bd.length bh] 27 (0, 0)) (by (with_reducible repeat (first | refine blk_drewN ?_ _ | refine blk_drew ?_ | refine blk_alloc ?_ _)); exact bb.out)) : ba ≠ bc)); have bk := Aside0.mk ((by rw [hg]; exact Nat.ne_of_gt (blk_lt (g := ba) (o := .cells #[.int .u64 bf, .int .u64 be, .slice bi bd.length bh] 27 (0, 0)) (by (with_reducible repeat (first | refine blk_drewN ?_ _ | refine blk_drew ?_ | refine blk_alloc ?_ _)); exact bb.out)) : bc ≠ ba)); replace bb := Aside0.mk (blk_below (g := ba) (o := .cells #[.int .u64 bf, .int .u64 be, .slice bi bd.length bh] 27 (0, 0)) (by (with_reducible repeat (first | refine blk_drewN ?_ _ | refine blk_drew ?_ | refine blk_alloc ?_ _)); exact bb.out) hb); clear hb hbox hg; have b4 := bp.out; have b3 := bk.out; have bX : w4.cell? ⟨ba, 0, none⟩ = some (.int .u64 bf) := (blk_cell bb.out 0).trans rfl; have bW : w4.cell? ⟨ba, 1, none⟩ = some (.int .u64 be) := (blk_cell bb.out 1).trans rfl; have bV : w4.cell? ⟨ba, 2, none⟩ = some (.slice bi bd.length bh) := (blk_cell bb.out 2).trans rfl; have bQ := blk_frozen bb.out 0; have bP := blk_frozen bb.out 1; have bO := blk_frozen bb.out 2) | ((with_reducible refine gate_store (t := 24) (p := 6) rfl ?_); refine store_event (t := 24) (p := 6) (v := ?vo_w7) (w1 := (w4.setCell ⟨ba, 1, none⟩ (.int .u64 (IntKind.u64.wrap (be + 1))))) ?hg ?ho ?hn ?hr ?_; (case ho => rfl); (case hg => rfl); (case hn => rfl); (case hr => first | (go_simp; done) | (go_simp; rfl)); intro w7 hw; have n0_ : Aside0 (Kd.V k37 37 w7 w.heap.size (fun k_ => (bm k_ ∨ w.heap.size ≤ k_) ∧ k_ ≠ ba ∧ k_ ≠ bc) (.slice bi bd.length bh) bd) := ⟨(by rw [hw]; exact (by (with_reducible repeat (first | apply Kd.V_alloc | apply Kd.V_drewN | apply Kd.V_drew)); exact Kd.V_mono (Kd.V_far (p := ⟨ba, 1, none⟩) (Kd.V_mono bj.out (fun k_ hk => (⟨hk, hk.1.2⟩ : _ ∧ k_ ≠ ba))) (fun _ hk => hk.2) (.int .u64 (IntKind.u64.wrap (be + 1)))) (fun _ hk => ⟨hk.1.1.1, ⟨hk.1.1.2, hk.1.2⟩⟩)))⟩; have n1_ : Aside0 (w7.heap[ba]? = some (.cells #[.int .u64 bf, .int .u64 (IntKind.u64.wrap (be + 1)), .slice bi bd.length bh] 27 (0, 0))) := ⟨(by rw [hw]; exact (by (with_reducible repeat (first | refine blk_drewN ?_ _ | refine blk_drew ?_ | refine blk_alloc ?_ _)); refine blk_put (cs := #[.int .u64 bf, .int .u64 be, .slice bi bd.length bh]) ?_ 1 _ rfl; (with_reducible repeat (first | refine blk_drewN ?_ _ | refine blk_drew ?_ | refine blk_alloc ?_ _)); exact bb.out))⟩; have n2_ : Aside0 (w7.heap[bc]? = some (.cells #[.int .u64 0, .int .u64 0, .slice none 0 0] 27 (0, 0))) := ⟨(by rw [hw]; exact (by (with_reducible repeat (first | refine blk_drewN ?_ _ | refine blk_drew ?_ | refine blk_alloc ?_ _)); refine blk_far ?_ bk.out _; (with_reducible repeat (first | refine blk_drewN ?_ _ | refine blk_drew ?_ | refine blk_alloc ?_ _)); exact bg.out))⟩; have n3_ : Aside0 (Below w.heap.size w w7) := ⟨(by rw [hw]; exact (by repeat (first | (with_reducible first | exact HB.out | apply below_alloc | apply pw_below_drewN | apply below_drew1 | refine below_set ?_ bl.out | refine below_set ?_ bo.out) | exact HB.out)))⟩; clear hw; clear bj; clear bb; clear bg; clear HB; have bj := n0_; have bb := n1_; have bg := n2_; have HB := n3_; clear n0_ n1_ n2_ n3_; have bU : w7.cell? ⟨ba, 0, none⟩ = some (.int .u64 bf) := (blk_cell bb.out 0).trans rfl; have bS : w7.cell? ⟨ba, 1, none⟩ = some (.int .u64 (IntKind.u64.wrap (be + 1))) := (blk_cell bb.out 1).trans rfl; have bR : w7.cell? ⟨ba, 2, none⟩ = some (.slice bi bd.length bh) := (blk_cell bb.out 2).trans rfl; have bN := blk_frozen bb.out 0; have bM := blk_frozen bb.out 1; have bL := blk_frozen bb.out 2) | ((with_reducible refine gate_callee (f := 33) rfl ?_); refine goesL_ (some 9) rfl rfl Tryd.func33 (by kernel_rfl) rfl #[.slice bi bd.length bh] rfl (by (try simp only [List.map_toArray, List.map_cons, List.map_nil]); first | done | rfl | (simp only [List.length_drop, List.length_take]; rfl)) ?_; (with_reducible refine (ledger_Dest_33.calls (fun k_ => ((bm k_ ∨ w.heap.size ≤ k_) ∧ (k_ ≠ ba ∧ k_ ≠ bc))) _ _ bd bn _ ?side1 A2.out).mono ?_); (case side1 => exact bj.out); rintro e w9 ⟨b1, rfl, ho0, hb⟩; refine ⟨_, rfl, ?_⟩; replace bj := Aside0.mk (Kd.V_elder' (by (with_reducible repeat (first | apply Kd.V_alloc | apply Kd.V_drewN | apply Kd.V_drew)); exact bj.out) (Kd.N_base ho0) hb); have bq := Aside0.mk (Kd.N_lower (Kd.N_mono (ok' := fun k_ => (bm k_ ∨ w.heap.size ≤ k_) ∧ k_ ≠ ba ∧ k_ ≠ bc) ho0 (fun k_ hk_ => ⟨Or.elim hk_ (fun hs_ => hs_.1) (fun hn_ => (.inr (Nat.le_trans (below_size (by repeat (first | (with_reducible first | exact HB.out | apply below_alloc | apply pw_below_drewN | apply below_drew1 | refine below_set ?_ bl.out | refine below_set ?_ bo.out) | exact HB.out))) hn_))), Or.elim hk_ (fun hs_ => hs_.2.1) (fun hn_ => (Kd.freshB (g := ba) (o := .cells #[.int .u64 bf, .int .u64 (IntKind.u64.wrap (be + 1)), .slice bi bd.length bh] 27 (0, 0)) (by (with_reducible repeat (first | refine blk_drewN ?_ _ | refine blk_drew ?_ | refine blk_alloc ?_ _)); exact bb.out) k_ hn_)), Or.elim hk_ (fun hs_ => hs_.2.2) (fun hn_ => (Kd.freshB (g := bc) (o := .cells #[.int .u64 0, .int .u64 0, .slice none 0 0] 27 (0, 0)) (by (with_reducible repeat (first | refine blk_drewN ?_ _ | refine blk_drew ?_ | refine blk_alloc ?_ _)); exact bg.out) k_ hn_))⟩)) (below_size (by repeat (first | (with_reducible first | exact HB.out | apply below_alloc | apply pw_below_drewN | apply below_drew1 | refine below_set ?_ bl.out | refine below_set ?_ bo.out) | exact HB.out)))); replace bb := Aside0.mk (blk_below (g := ba) (o := .cells #[.int .u64 bf, .int .u64 (IntKind.u64.wrap (be + 1)), .slice bi bd.length bh] 27 (0, 0)) (by (with_reducible repeat (first | refine blk_drewN ?_ _ | refine blk_drew ?_ | refine blk_alloc ?_ _)); exact bb.out) hb); replace bg := Aside0.mk (blk_below (g := bc) (o := .cells #[.int .u64 0, .int .u64 0, .slice none 0 0] 27 (0, 0)) (by (with_reducible repeat (first | refine blk_drewN ?_ _ | refine blk_drew ?_ | refine blk_alloc ?_ _)); exact bg.out) hb); replace HB := Aside0.mk (below_step (by repeat (first | (with_reducible first | exact HB.out | apply below_alloc | apply pw_below_drewN | apply below_drew1 | refine below_set ?_ bl.out | refine below_set ?_ bo.out) | exact HB.out)) hb); (try clear hb); (try clear hb2); (try clear hk); (try clear hi); (try clear ho0); obtain ⟨bu, br, bY⟩ := Kd.N_slice bq.out; subst bY; have bK : w9.cell? ⟨ba, 0, none⟩ = some (.int .u64 bf) := (blk_cell bb.out 0).trans rfl; have bJ : w9.cell? ⟨ba, 1, none⟩ = some (.int .u64 (IntKind.u64.wrap (be + 1))) := (blk_cell bb.out 1).trans rfl; have bI : w9.cell? ⟨ba, 2, none⟩ = some (.slice bi bd.length bh) := (blk_cell bb.out 2).trans rfl; have bD := blk_frozen bb.out 0; have bC := blk_frozen bb.out 1; have bB := blk_frozen bb.out 2; have bH : w9.cell? ⟨bc, 0, none⟩ = some (.int .u64 0) := (blk_cell bg.out 0).trans rfl; have bG : w9.cell? ⟨bc, 1, none⟩ = some (.int .u64 0) := (blk_cell bg.out 1).trans rfl; have bE : w9.cell? ⟨bc, 2, none⟩ = some (.slice none 0 0) := (blk_cell bg.out 2).trans rfl; have bA := blk_frozen bg.out 0; have bz := blk_frozen bg.out 1; have bx := blk_frozen bg.out 2))
 refine bodyPost_ret (results_cell_row rfl _ _ bc 27 #[.int .u64 bf, .int .u64 (IntKind.u64.wrap (be + 1)), .slice bu bn.length br] (0, 0) _ rfl (by (with_reducible repeat (first | refine blk_drewN ?_ _ | refine blk_drew ?_ | refine blk_alloc ?_ _)); refine blk_put (cs := #[.int .u64 bf, .int .u64 (IntKind.u64.wrap (be + 1)), .slice none 0 0]) ?_ 2 _ rfl; (with_reducible repeat (first | refine blk_drewN ?_ _ | refine blk_drew ?_ | refine blk_alloc ?_ _)); refine blk_put (cs := #[.int .u64 bf, .int .u64 0, .slice none 0 0]) ?_ 1 _ rfl; (with_reducible repeat (first | refine blk_drewN ?_ _ | refine blk_drew ?_ | refine blk_alloc ?_ _)); refine blk_put (cs := #[.int .u64 0, .int .u64 0, .slice none 0 0]) ?_ 0 _ rfl; (with_reducible repeat (first | refine blk_drewN ?_ _ | refine blk_drew ?_ | refine blk_alloc ?_ _)); refine blk_far ?_ bk.out _; (with_reducible repeat (first | refine blk_drewN ?_ _ | refine blk_drew ?_ | refine blk_alloc ?_ _)); exact bg.out) Tryd.underlying27 rfl (by kernel_rfl)) rfl ?_
 exact ⟨_, by first | rfl | (simp [errW_none, errW_some] <;> rfl) | (simp [*, errW_none, errW_some] <;> rfl), by (with_reducible repeat (first | apply Kd.N_alloc | apply Kd.N_drewN | apply Kd.N_drew)); exact Kd.N_mono (Kd.N_far (p := ⟨bc, 2, none⟩) (Kd.N_far (p := ⟨bc, 1, none⟩) (Kd.N_far (p := ⟨bc, 0, none⟩) (Kd.N_far (p := ⟨ba, 2, none⟩) (Kd.N_mono (Kd.N_mono bq.out (fun k_ hk => (⟨hk, hk.2.1⟩ : _ ∧ k_ ≠ ba))) (fun k_ hk => (⟨hk, hk.1.2.2⟩ : _ ∧ k_ ≠ bc))) (fun _ hk => hk.1.2) (.slice bu bn.length br)) (fun _ hk => hk.2) (.int .u64 bf)) (fun _ hk => hk.2) (.int .u64 (IntKind.u64.wrap (be + 1)))) (fun _ hk => hk.2) (.slice bu bn.length br)) (fun _ hk => hk.1.1.1), by repeat (first | (with_reducible first | exact HB.out | apply below_alloc | apply pw_below_drewN | apply below_drew1 | refine below_set ?_ bl.out | refine below_set ?_ bo.out) | exact HB.out)⟩

end Go.Proofs.YthhmpjapnkilcaaDoor.XLdg
end
