/- Texts of this seat, in one. Conditions: those that each theorem names. -/
import Derived.Test.YthhmpjapnkilcaaDoorXLdgP1
import Derived.Test.YthhmpjapnkilcaaDoorXLdgP2
section
/- What the functions of the translation answer, each as a plain Lean function, and that the code comes to it; for a law: its row. Conditions: none but those that each theorem names. Written by a program of this session (wip/xp). -/
namespace Go.Proofs.YthhmpjapnkilcaaDoor.XLdg
open Go.RowKit Go.Proofs.YthhmpjapnkilcaaDoorW.PrintWords Go.Proofs.YthhmpjapnkilcaaDoorW.PrintLast Go.Proofs.YthhmpjapnkilcaaDoorW.PrintMore
attribute [local go_sem] max2_int min2_int max_two min_two max_three min_three max_four min_four   -- for this text's walks alone
theorem cx19_bc3 {w : World} {g : Nat} {t : TypeId} {x0 x1 x2 : Value} (h : w.heap[g]? = some (.cells #[x0, x1, x2] t (0, 0))) : w.cell? ⟨g, 0, none⟩ = some x0 ∧ w.cell? ⟨g, 1, none⟩ = some x1 ∧ w.cell? ⟨g, 2, none⟩ = some x2 ∧ w.frozen? ⟨g, 0, none⟩ = false ∧ w.frozen? ⟨g, 1, none⟩ = false ∧ w.frozen? ⟨g, 2, none⟩ = false :=
 ⟨(blk_cell h 0).trans rfl, (blk_cell h 1).trans rfl, (blk_cell h 2).trans rfl, blk_frozen h 0, blk_frozen h 1, blk_frozen h 2⟩
theorem zx19_6 {p : Prop} (h : p := by first | rfl | (simp; done) | (simp [*]; done)) : p := h
theorem zx19_0 {p : Prop} (h : p := by first | (with_reducible assumption) | assumption) : p := h
theorem zx19_5 {p : Prop} (h : p := by first | exact bY | exact of_decide_eq_true zx19_0 | (have e_ := (Kd.S_reads' bb.out).1; omega)) : p := h
theorem zx19_1 {p : Prop} (h : p := by (with_reducible repeat (first | refine blk_drewN ?_ _ | refine blk_drew ?_ | refine blk_alloc ?_ _)); exact bm.out) : p := h
theorem zx19_3 {p : Prop} (h : p := by (with_reducible repeat (first | refine blk_drewN ?_ _ | refine blk_drew ?_ | refine blk_alloc ?_ _)); exact bk.out) : p := h
theorem zx19_7 {p : Prop} (h : p := by repeat (first | (with_reducible first | exact HB.out | apply below_alloc | apply pw_below_drewN | apply below_drew1) | exact HB.out)) : p := h
theorem zx19_4 {p : Prop} (h : p := by repeat (first | (with_reducible first | exact HB.out | apply below_alloc | apply pw_below_drewN | apply below_drew1 | refine below_set ?_ bU.out) | exact HB.out)) : p := h
theorem zx19_2 {p : Prop} (h : p := by repeat (first | (with_reducible first | exact HB.out | apply below_alloc | apply pw_below_drewN | apply below_drew1 | refine below_set ?_ bU.out | refine below_set ?_ bW.out) | exact HB.out)) : p := h
set_option linter.unusedVariables false
set_option linter.unusedSimpArgs false

/-! ### postroomref10_Evict: function 44 -/
mutual
def postroomref10_Evict.j0 : Nat → Int → Bool → Int → Int → List (S84) → Option (Int × Int × (List (S84)) × Int)
 | 0, _, _, _, _, _ => none
 | k + 1, x1, x18, gx, gw, gv => if x18 = true then (some (0, 0, ([] : List (S84)), 1)) else ((postroomref10_copied.f k gx gw gv).bind fun dC => (postroomref10_Evict.l0 k x1 0 x1 dC.2.1 dC.2.2))
def postroomref10_Evict.l0 : Nat → Int → Int → Int → Int → List (S84) → Option (Int × Int × (List (S84)) × Int)
 | 0, _, _, _, _, _ => none
 | k + 1, x1, x7, bO, bN, bg => if x7 < (bg.length : Int) then (postroomref10_Evict.l1 k x1 x7 0 bO bN bg) else (some (bO, bN, bg, 0))
def postroomref10_Evict.l1 : Nat → Int → Int → Int → Int → Int → List (S84) → Option (Int × Int × (List (S84)) × Int)
 | 0, _, _, _, _, _, _ => none
 | k + 1, x1, x7, x8, bO, bN, bg => if 0 ≤ x7 then (if x7 < (bg.length : Int) then (if x8 < (((rd_T84 bg x7).f2).length : Int) then (if (IntKind.u64.wrap (((rd_T84 bg x7).f1) + (IntKind.u64.wrap (x8)))) < x1 then (if 0 ≤ x8 then (if (rd ((rd_T84 bg x7).f2) x8) = 112 then (postroomref10_Evict.l1 k x1 x7 (wrap64 (x8 + 1)) bO bN (bg.set (x7 : Int).toNat (⟨(rd_T84 bg x7).f0, (rd_T84 bg x7).f1, (((rd_T84 bg x7).f2).set (x8 : Int).toNat 101)⟩ : S84))) else (postroomref10_Evict.l1 k x1 x7 (wrap64 (x8 + 1)) bO bN bg)) else (none)) else (postroomref10_Evict.l1 k x1 x7 (wrap64 (x8 + 1)) bO bN bg)) else (postroomref10_Evict.l0 k x1 (wrap64 (x7 + 1)) bO bN bg)) else (none)) else (none)
end
def postroomref10_Evict.f (k : Nat) (bz : Int) (bE : Int) (bC : List (S84)) (a1 : Int) : Option (Int × Int × (List (S84)) × Int) := if a1 < bz then (postroomref10_Evict.j0 k a1 true bz bE bC) else (postroomref10_Evict.j0 k a1 (decide (a1 > bE)) bz bE bC)
set_option maxHeartbeats 8000000 in
set_option maxRecDepth 100000 in
theorem postroomref10_Evict.calls (k : Nat) (bz : Int) (bE : Int) (b3 : Option Addr) (b2 : Nat) (bC : List (S84)) (a1 : Int) (r1 : Int) (r2 : Int) (r3 : List (S84)) (r4 : Int) (w : World) (gN : Kd.C k84 w b3 bC.length bC) (gQ : bC.length ≤ b2) (h : postroomref10_Evict.f k bz bE bC a1 = some (r1, r2, r3, r4)) :
  Calls Tryd.prog 44 #[.agg #[.int .u64 bz, .int .u64 bE, .slice b3 bC.length b2], .int .u64 a1] w fun e w' => ∃ v2_ : Value, e = .returned (.tuple #[.agg #[.int .u64 r1, .int .u64 r2, v2_], .int .i64 r4]) ∧ Kd.S k84 84 w' w.heap.size (fun _ => True) v2_ r3 ∧ Below w.heap.size w w' := by
 have mH := Tryd.underlying57
 have hD := Aside0.mk gN
 have hF := Aside0.mk gQ
 clear gN gQ
 have HB := Aside0.mk (Below.refl w.heap.size w)
 have H : (if a1 < bz then (postroomref10_Evict.j0 k a1 true bz bE bC) else (postroomref10_Evict.j0 k a1 (decide (a1 > bE)) bz bE bC)) = some (r1, r2, r3, r4) := h
 clear h
 have HC3 := Aside0.mk H
 clear H
 go_enter Tryd.func44, Tryd.ntmps44
 go_upto_region 1 with (first | ((with_reducible refine gate_dst (N := 2) rfl ?_); refine box_event ?hg (N := 2) ?hd (cs := #[.int .u64 bz, .int .u64 bE, .slice b3 bC.length b2]) (t := 57) ?hr ?_; (case hd => rfl); (case hg => rfl); (case hr => first | (go_simp; done) | (go_simp; rfl)); intro bD hg w4 hbox hb; have bm := Aside0.mk (hbox); have mF := Aside0.mk ((by rw [hg]; exact (below_size zx19_7) : w.heap.size ≤ bD)); have bU := Aside0.mk ((by rw [hg]; exact (below_size zx19_7) : w.heap.size ≤ bD)); replace HB := Aside0.mk (below_step zx19_7 hb); clear hb hbox hg) | ((with_reducible refine gate_dst (N := 4) rfl ?_); refine box_event ?hg (N := 4) ?hd (cs := #[.int .u64 0, .int .u64 0, .slice none 0 0]) (t := 57) ?hr ?_; (case hd => rfl); (case hg => rfl); (case hr => first | (go_simp; done) | (go_simp; rfl)); intro bx hg w5 hbox hb; have bk := Aside0.mk (hbox); have mE := Aside0.mk ((by rw [hg]; exact (below_size zx19_4) : w.heap.size ≤ bx)); have bW := Aside0.mk ((by rw [hg]; exact (below_size zx19_4) : w.heap.size ≤ bx)); replace HB := Aside0.mk (below_step zx19_4 hb); have bM := Aside0.mk ((by rw [hg]; exact Nat.ne_of_lt (blk_lt (g := bD) (o := .cells #[.int .u64 bz, .int .u64 bE, .slice b3 bC.length b2] 57 (0, 0)) zx19_1) : bD ≠ bx)); have bL := Aside0.mk ((by rw [hg]; exact Nat.ne_of_gt (blk_lt (g := bD) (o := .cells #[.int .u64 bz, .int .u64 bE, .slice b3 bC.length b2] 57 (0, 0)) zx19_1) : bx ≠ bD)); replace bm := Aside0.mk (blk_below (g := bD) (o := .cells #[.int .u64 bz, .int .u64 bE, .slice b3 bC.length b2] 57 (0, 0)) zx19_1 hb); clear hb hbox hg))
 (try simp only [Act.put, List.setIfInBounds_toArray, List.set_cons_zero, List.set_cons_succ])
 go_cut [18] (fun v18 wc => ∃ (kq : Nat) (dQ : Bool), v18 = .bool dQ ∧ Aside0 (postroomref10_Evict.j0 kq a1 dQ bz bE bC = some (r1, r2, r3, r4)) ∧ Aside0 (kq ≤ k) ∧ Aside0 (wc.heap[bD]? = some (.cells #[.int .u64 bz, .int .u64 bE, (.slice b3 bC.length b2)] 57 (0, 0))) ∧ Aside0 (wc.heap[bx]? = some (.cells #[.int .u64 0, .int .u64 0, (.slice none 0 0)] 57 (0, 0))) ∧ Aside0 (Below w.heap.size w wc))
 case first =>
  have H := HC3.out
  clear HC3
  by_cases c6 : a1 < bz
  ·rw [if_pos c6] at H
   have dB : decide (a1 < bz) = true := decide_eq_true c6
   clear c6
   (first | rw [dB] | (simp only [i64_w, i32_w]; rw [dB]) | skip)
   have H' := Aside0.mk H
   clear H
   have mL := bM.out
   have mJ := bL.out
   obtain ⟨dL, dK, dJ, dI, dH, dG⟩ := cx19_bc3 bm.out
   go_wp2
   go_meet
   case rel => exact ⟨_, (true), zx19_6, H', ⟨by first | omega | exact Nat.le_refl _⟩, ⟨by (with_reducible repeat (first | refine blk_drewN ?_ _ | refine blk_drew ?_ | refine blk_alloc ?_ _)); exact bm.out⟩, ⟨by (with_reducible repeat (first | refine blk_drewN ?_ _ | refine blk_drew ?_ | refine blk_alloc ?_ _)); exact bk.out⟩, ⟨by repeat (first | (with_reducible first | exact HB.out | apply below_alloc | apply pw_below_drewN | apply below_drew1 | refine below_set ?_ bU.out | refine below_set ?_ bW.out) | exact HB.out)⟩⟩
  rw [if_neg c6] at H
  have dB : decide (a1 < bz) = false := decide_eq_false c6
  clear c6
  (first | rw [dB] | (simp only [i64_w, i32_w]; rw [dB]) | skip)
  have H' := Aside0.mk H
  clear H
  have mK := bM.out
  have mI := bL.out
  obtain ⟨dr, dq, dp, dn, dm, dl⟩ := cx19_bc3 bm.out
  go_wp2
  go_meet
  case rel => exact ⟨_, (decide (a1 > bE)), zx19_6, H', ⟨by first | omega | exact Nat.le_refl _⟩, ⟨by (with_reducible repeat (first | refine blk_drewN ?_ _ | refine blk_drew ?_ | refine blk_alloc ?_ _)); exact bm.out⟩, ⟨by (with_reducible repeat (first | refine blk_drewN ?_ _ | refine blk_drew ?_ | refine blk_alloc ?_ _)); exact bk.out⟩, ⟨by repeat (first | (with_reducible first | exact HB.out | apply below_alloc | apply pw_below_drewN | apply below_drew1 | refine below_set ?_ bU.out | refine below_set ?_ bW.out) | exact HB.out)⟩⟩
 case rest =>
  clear HC3
  (try clear p2); (try clear c4); (try clear c6); (try clear dB); (try clear c7); (try clear c9); (try clear dr); (try clear dq); (try clear dp); (try clear dL); (try clear dK); (try clear dJ); (try clear dn); (try clear dm); (try clear dl); (try clear dI); (try clear dH); (try clear dG)
  obtain ⟨kq, dQ, rfl, HA, HJ2, bm, bk, HB⟩ := hcut
  cases kq with
  | zero => exact absurd HA.out (by simp [postroomref10_Evict.j0])
  | succ kj2 => ?_
  have H := HA.out
  clear HA
  simp only [postroomref10_Evict.j0] at H
  by_cases c11 : dQ = true
  ·subst c11
   have H1 : (some (0, 0, ([] : List (S84)), 1)) = some (r1, r2, r3, r4) := by rw [if_pos rfl] at H; exact H
   clear H
   have H := H1
   clear H1
   simp only [Option.some.injEq, Prod.mk.injEq] at H
   obtain ⟨rfl, rfl, rfl, rfl⟩ := H
   have mv := bL.out
   have mb := bM.out
   obtain ⟨gf, ge, gc, d5, d4, d3⟩ := cx19_bc3 bk.out
   go_wp2
   refine bodyPost_ret (results_ct rfl _ _ bx 57 #[.int .u64 0, .int .u64 0, .slice none 0 0] (0, 0) _ rfl (by (with_reducible repeat (first | refine blk_drewN ?_ _ | refine blk_drew ?_ | refine blk_alloc ?_ _)); refine blk_put (cs := #[.int .u64 0, .int .u64 0, .slice none 0 0]) ?_ 2 _ rfl; (with_reducible repeat (first | refine blk_drewN ?_ _ | refine blk_drew ?_ | refine blk_alloc ?_ _)); refine blk_put (cs := #[.int .u64 0, .int .u64 0, .slice none 0 0]) ?_ 1 _ rfl; (with_reducible repeat (first | refine blk_drewN ?_ _ | refine blk_drew ?_ | refine blk_alloc ?_ _)); refine blk_put (cs := #[.int .u64 0, .int .u64 0, .slice none 0 0]) ?_ 0 _ rfl; (with_reducible repeat (first | refine blk_drewN ?_ _ | refine blk_drew ?_ | refine blk_alloc ?_ _)); exact bk.out) Tryd.underlying57 rfl (by kernel_rfl)) rfl ?_
   exact ⟨_, by first | rfl | (simp [errW_none, errW_some] <;> rfl) | (simp [*, errW_none, errW_some] <;> rfl), by first | exact Kd.S_nil _ _ _ _ _ | exact Kd.N_nil _ _ _ _ _ | exact Kd.V_nil _ _ _ _ _ | exact Kd.Q_nil _ _ _ _ _ | exact Kd.R_nil _ _ _ _ _, by repeat (first | (with_reducible first | exact HB.out | apply below_alloc | apply pw_below_drewN | apply below_drew1 | refine below_set ?_ bU.out | refine below_set ?_ bW.out) | exact HB.out)⟩
  replace c11 := Bool.eq_false_iff.mpr c11
  subst c11
  have H1 : ((postroomref10_copied.f kj2 bz bE bC).bind fun dC => (postroomref10_Evict.l0 kj2 a1 0 a1 dC.2.1 dC.2.2)) = some (r1, r2, r3, r4) := by rw [if_neg (show ¬ (false = true) by decide)] at H; exact H
  clear H
  have H := H1
  clear H1
  replace H := Option.bind_eq_some_iff.mp H
  obtain ⟨⟨gn, bZ, gm⟩, hH, H⟩ := H
  replace H : (postroomref10_Evict.l0 kj2 a1 0 a1 bZ gm) = some (r1, r2, r3, r4) := H
  have A14 := Aside0.mk hH
  clear hH
  have H' := Aside0.mk H
  clear H
  have mu := bM.out
  have ma := bL.out
  obtain ⟨gb, ga, d9, d2, d1, d0⟩ := cx19_bc3 bm.out
  go_wp2_with (first | ((with_reducible refine gate_callee (f := 53) rfl ?_); refine goesL_ (some 21) rfl rfl Tryd.func53 (by kernel_rfl) rfl #[.agg #[.int .u64 bz, .int .u64 bE, .slice b3 bC.length b2]] rfl (by (try simp only [List.map_toArray, List.map_cons, List.map_nil]); first | done | rfl | (simp only [List.length_drop, List.length_take]; rfl)) ?_; (with_reducible refine (postroomref10_copied.calls kj2 bz bE _ _ bC gn bZ gm _ ?side1 ?side2 A14.out).mono ?_); (case side1 => repeat (first | exact (Kd.C_below hD.out HB.out) | (with_reducible refine Kd.C_alloc ?_ _) | (with_reducible refine Kd.C_drewN ?_ _) | (with_reducible refine Kd.C_drew ?_))); (case side2 => exact hF.out); rintro e w17 ⟨mG, rfl, ho0, hb⟩; refine ⟨_, rfl, ?_⟩; have gi := Aside0.mk (Kd.S_lower ho0 (below_size zx19_2)); replace bm := Aside0.mk (blk_below (g := bD) (o := .cells #[.int .u64 bz, .int .u64 bE, .slice b3 bC.length b2] 57 (0, 0)) zx19_1 hb); replace bk := Aside0.mk (blk_below (g := bx) (o := .cells #[.int .u64 0, .int .u64 0, .slice none 0 0] 57 (0, 0)) zx19_3 hb); replace HB := Aside0.mk (below_step zx19_2 hb); (try clear hb); (try clear hb2); (try clear hk); (try clear hi); (try clear ho0)) | ((with_reducible refine gate_dst (N := 6) rfl ?_); refine box_event ?hg (N := 6) ?hd (cs := #[.int .u64 0, .int .u64 0, .slice none 0 0]) (t := 57) ?hr ?_; (case hd => rfl); (case hg => rfl); (case hr => first | (go_simp; done) | (go_simp; rfl)); intro bG hg w18 hbox hb; replace gi := Aside0.mk (Kd.S_below (by (with_reducible repeat (first | apply Kd.S_alloc | apply Kd.S_drewN | apply Kd.S_drew)); exact gi.out) hb); have bi := Aside0.mk (hbox); have mD := Aside0.mk ((by rw [hg]; exact (below_size zx19_2) : w.heap.size ≤ bG)); have de := Aside0.mk ((by rw [hg]; exact (below_size zx19_2) : w.heap.size ≤ bG)); replace HB := Aside0.mk (below_step zx19_2 hb); have bo := Aside0.mk ((by rw [hg]; exact Nat.ne_of_lt (blk_lt (g := bD) (o := .cells #[.int .u64 bz, .int .u64 bE, .slice b3 bC.length b2] 57 (0, 0)) zx19_1) : bD ≠ bG)); have bB := Aside0.mk ((by rw [hg]; exact Nat.ne_of_gt (blk_lt (g := bD) (o := .cells #[.int .u64 bz, .int .u64 bE, .slice b3 bC.length b2] 57 (0, 0)) zx19_1) : bG ≠ bD)); replace bm := Aside0.mk (blk_below (g := bD) (o := .cells #[.int .u64 bz, .int .u64 bE, .slice b3 bC.length b2] 57 (0, 0)) zx19_1 hb); have bn := Aside0.mk ((by rw [hg]; exact Nat.ne_of_lt (blk_lt (g := bx) (o := .cells #[.int .u64 0, .int .u64 0, .slice none 0 0] 57 (0, 0)) zx19_3) : bx ≠ bG)); have bA := Aside0.mk ((by rw [hg]; exact Nat.ne_of_gt (blk_lt (g := bx) (o := .cells #[.int .u64 0, .int .u64 0, .slice none 0 0] 57 (0, 0)) zx19_3) : bG ≠ bx)); replace bk := Aside0.mk (blk_below (g := bx) (o := .cells #[.int .u64 0, .int .u64 0, .slice none 0 0] 57 (0, 0)) zx19_3 hb); clear hb hbox hg; have mt := bB.out; have j9 := bo.out; have ms := bA.out; have j8 := bn.out; have d8 : w18.cell? ⟨bG, 0, none⟩ = some (.int .u64 0) := (blk_cell bi.out 0).trans rfl; have d7 : w18.cell? ⟨bG, 1, none⟩ = some (.int .u64 0) := (blk_cell bi.out 1).trans rfl; have d6 : w18.cell? ⟨bG, 2, none⟩ = some (.slice none 0 0) := (blk_cell bi.out 2).trans rfl; have dZ := blk_frozen bi.out 0; have dY := blk_frozen bi.out 1; have dX := blk_frozen bi.out 2; obtain ⟨hh, hc, jJ⟩ := Kd.S_slice gi.out; subst jJ))
  go_loopg [7] kj2 (fun kq v7 w' => ∃ (bc : Int) (bj : List (S84)) (bP : Value), v7 = .int .i64 bc ∧ Aside0 (postroomref10_Evict.l0 kq a1 bc a1 bZ bj = some (r1, r2, r3, r4)) ∧ Aside0 (kq ≤ kj2) ∧ Aside0 (Kd.S k84 84 w' w.heap.size (fun _ => True) bP bj) ∧ Aside0 (w'.heap[bD]? = some (.cells #[.int .u64 bz, .int .u64 bE, (.slice b3 bC.length b2)] 57 (0, 0))) ∧ Aside0 (w'.heap[bx]? = some (.cells #[.int .u64 0, .int .u64 0, (.slice none 0 0)] 57 (0, 0))) ∧ Aside0 (w'.heap[bG]? = some (.cells #[.int .u64 a1, .int .u64 bZ, bP] 57 (0, 0))) ∧ Aside0 (Below w.heap.size w w'))
  case atStart => exact ⟨(0), (gm), (.slice hh gm.length hc), zx19_6, H', ⟨Nat.le_refl _⟩, ⟨by (with_reducible repeat (first | apply Kd.S_alloc | apply Kd.S_drewN | apply Kd.S_drew)); exact Kd.S_mono (Kd.S_far (p := ⟨bG, 0, none⟩) (Kd.S_far (p := ⟨bG, 2, none⟩) (Kd.S_far (p := ⟨bG, 1, none⟩) (Kd.S_far (p := ⟨bG, 0, none⟩) (Kd.S_types gi.out bi.out (by decide)) (fun _ hk => hk.2) (.int .u64 gn)) (fun _ hk => hk.2) (.int .u64 bZ)) (fun _ hk => hk.2) (.slice hh gm.length hc)) (fun _ hk => hk.2) (.int .u64 a1)) (fun _ hk => trivial)⟩, ⟨by (iterate 4 ((with_reducible repeat (first | refine blk_drewN ?_ _ | refine blk_drew ?_ | refine blk_alloc ?_ _)); refine blk_far ?_ bo.out _)); (with_reducible repeat (first | refine blk_drewN ?_ _ | refine blk_drew ?_ | refine blk_alloc ?_ _)); exact bm.out⟩, ⟨by (iterate 4 ((with_reducible repeat (first | refine blk_drewN ?_ _ | refine blk_drew ?_ | refine blk_alloc ?_ _)); refine blk_far ?_ bn.out _)); (with_reducible repeat (first | refine blk_drewN ?_ _ | refine blk_drew ?_ | refine blk_alloc ?_ _)); exact bk.out⟩, ⟨by (with_reducible repeat (first | refine blk_drewN ?_ _ | refine blk_drew ?_ | refine blk_alloc ?_ _)); refine blk_put (cs := #[.int .u64 gn, .int .u64 bZ, .slice hh gm.length hc]) ?_ 0 _ rfl; (with_reducible repeat (first | refine blk_drewN ?_ _ | refine blk_drew ?_ | refine blk_alloc ?_ _)); refine blk_put (cs := #[.int .u64 gn, .int .u64 bZ, .slice none 0 0]) ?_ 2 _ rfl; (with_reducible repeat (first | refine blk_drewN ?_ _ | refine blk_drew ?_ | refine blk_alloc ?_ _)); refine blk_put (cs := #[.int .u64 gn, .int .u64 0, .slice none 0 0]) ?_ 1 _ rfl; (with_reducible repeat (first | refine blk_drewN ?_ _ | refine blk_drew ?_ | refine blk_alloc ?_ _)); refine blk_put (cs := #[.int .u64 0, .int .u64 0, .slice none 0 0]) ?_ 0 _ rfl; (with_reducible repeat (first | refine blk_drewN ?_ _ | refine blk_drew ?_ | refine blk_alloc ?_ _)); exact bi.out⟩, ⟨by repeat (first | (with_reducible first | exact HB.out | apply below_alloc | apply pw_below_drewN | apply below_drew1 | refine below_set ?_ bU.out | refine below_set ?_ bW.out | refine below_set ?_ de.out) | exact HB.out)⟩⟩
  case round =>
   clear H'
   (try clear c1); (try clear c2); (try clear p2); (try clear c4); (try clear c5); (try clear c6); (try clear dB); (try clear c7); (try clear c9); (try clear c11); (try clear c12); (try clear c15); (try clear c19); (try clear c20); (try clear dr); (try clear dq); (try clear dp); (try clear gf); (try clear ge); (try clear gc); (try clear gb); (try clear ga); (try clear d9); (try clear d8); (try clear d7); (try clear d6); (try clear dL); (try clear dK); (try clear dJ); (try clear dn); (try clear dm); (try clear dl); (try clear d5); (try clear d4); (try clear d3); (try clear d2); (try clear d1); (try clear d0); (try clear dZ); (try clear dY); (try clear dX); (try clear dI); (try clear dH); (try clear dG); (try clear p2)
   obtain ⟨bc, bj, bP, rfl, HA, HK2, bb, bm, bk, bi, HB⟩ := hrel
   cases gk with
   | zero => exact absurd HA.out (by simp [postroomref10_Evict.l0])
   | succ k2 => ?_
   have H := HA.out
   clear HA
   simp only [postroomref10_Evict.l0] at H
   by_cases c23 : bc < (bj.length : Int)
   case neg =>
    rw [if_neg c23] at H
    have gT : decide (bc < (bj.length : Int)) = false := decide_eq_false c23
    clear c23
    simp only [Option.some.injEq, Prod.mk.injEq] at H
    obtain ⟨rfl, rfl, rfl, rfl⟩ := H
    have me := bB.out
    have jV := bo.out
    have md := bA.out
    have jU := bn.out
    obtain ⟨ji, jh, jg, hQ, hP, hO⟩ := cx19_bc3 bi.out
    obtain ⟨hG, hs, jD⟩ := Kd.S_slice bb.out
    subst jD
    have mc := bL.out
    have jT := bM.out
    obtain ⟨jf, je, jd, hN, hM, hL⟩ := cx19_bc3 bk.out
    go_wp2
    refine bodyPost_ret (results_ct rfl _ _ bx 57 #[.int .u64 a1, .int .u64 bZ, .slice hG bj.length hs] (0, 0) _ rfl (by (with_reducible repeat (first | refine blk_drewN ?_ _ | refine blk_drew ?_ | refine blk_alloc ?_ _)); refine blk_put (cs := #[.int .u64 a1, .int .u64 bZ, .slice none 0 0]) ?_ 2 _ rfl; (with_reducible repeat (first | refine blk_drewN ?_ _ | refine blk_drew ?_ | refine blk_alloc ?_ _)); refine blk_put (cs := #[.int .u64 a1, .int .u64 0, .slice none 0 0]) ?_ 1 _ rfl; (with_reducible repeat (first | refine blk_drewN ?_ _ | refine blk_drew ?_ | refine blk_alloc ?_ _)); refine blk_put (cs := #[.int .u64 0, .int .u64 0, .slice none 0 0]) ?_ 0 _ rfl; (with_reducible repeat (first | refine blk_drewN ?_ _ | refine blk_drew ?_ | refine blk_alloc ?_ _)); exact bk.out) Tryd.underlying57 rfl (by kernel_rfl)) rfl ?_
    exact ⟨_, by first | rfl | (simp [errW_none, errW_some] <;> rfl) | (simp [*, errW_none, errW_some] <;> rfl), by (with_reducible repeat (first | apply Kd.S_alloc | apply Kd.S_drewN | apply Kd.S_drew)); exact Kd.S_mono (Kd.S_far (p := ⟨bx, 2, none⟩) (Kd.S_far (p := ⟨bx, 1, none⟩) (Kd.S_far (p := ⟨bx, 0, none⟩) (Kd.S_types bb.out bk.out (by decide)) (fun _ hk => hk.2) (.int .u64 a1)) (fun _ hk => hk.2) (.int .u64 bZ)) (fun _ hk => hk.2) (.slice hG bj.length hs)) (fun _ hk => trivial), by repeat (first | (with_reducible first | exact HB.out | apply below_alloc | apply pw_below_drewN | apply below_drew1 | refine below_set ?_ bU.out | refine below_set ?_ bW.out | refine below_set ?_ de.out) | exact HB.out)⟩

   rw [if_pos c23] at H
   have gT : decide (bc < (bj.length : Int)) = true := decide_eq_true c23
   clear c23
   have H' := Aside0.mk H
   clear H
   have mr := bB.out
   have j7 := bo.out
   have mq := bA.out
   have j6 := bn.out
   obtain ⟨gJ, gI, gH, gG, gF, gE⟩ := cx19_bc3 bi.out
   obtain ⟨jR, jO, jI⟩ := Kd.S_slice bb.out
   subst jI
   go_wp2
   go_loopg [8] k2 (fun kq v8 w' => ∃ (bl : Int) (ba : List (S84)) (bP : Value), v8 = .int .i64 bl ∧ Aside0 (postroomref10_Evict.l1 kq a1 bc bl a1 bZ ba = some (r1, r2, r3, r4)) ∧ Aside0 (kq ≤ k2) ∧ Aside0 (Kd.S k84 84 w' w.heap.size (fun _ => True) bP ba) ∧ Aside0 (w'.heap[bD]? = some (.cells #[.int .u64 bz, .int .u64 bE, (.slice b3 bC.length b2)] 57 (0, 0))) ∧ Aside0 (w'.heap[bx]? = some (.cells #[.int .u64 0, .int .u64 0, (.slice none 0 0)] 57 (0, 0))) ∧ Aside0 (w'.heap[bG]? = some (.cells #[.int .u64 a1, .int .u64 bZ, bP] 57 (0, 0))) ∧ Aside0 (Below w.heap.size w w'))
   case atStart => exact ⟨(0), (bj), (.slice jR bj.length jO), zx19_6, H', ⟨Nat.le_refl _⟩, ⟨by (with_reducible repeat (first | apply Kd.S_alloc | apply Kd.S_drewN | apply Kd.S_drew)); exact bb.out⟩, ⟨by (with_reducible repeat (first | refine blk_drewN ?_ _ | refine blk_drew ?_ | refine blk_alloc ?_ _)); exact bm.out⟩, ⟨by (with_reducible repeat (first | refine blk_drewN ?_ _ | refine blk_drew ?_ | refine blk_alloc ?_ _)); exact bk.out⟩, ⟨by (with_reducible repeat (first | refine blk_drewN ?_ _ | refine blk_drew ?_ | refine blk_alloc ?_ _)); exact bi.out⟩, ⟨by repeat (first | (with_reducible first | exact HB.out | apply below_alloc | apply pw_below_drewN | apply below_drew1 | refine below_set ?_ bU.out | refine below_set ?_ bW.out | refine below_set ?_ de.out) | exact HB.out)⟩⟩
   case round =>
    clear H'
    (try clear c1); (try clear c2); (try clear p2); (try clear c4); (try clear c5); (try clear c6); (try clear dB); (try clear c7); (try clear c9); (try clear c11); (try clear c12); (try clear c15); (try clear c19); (try clear c20); (try clear c23); (try clear gT); (try clear c24); (try clear c25); (try clear dr); (try clear dq); (try clear dp); (try clear gf); (try clear ge); (try clear gc); (try clear gb); (try clear ga); (try clear d9); (try clear d8); (try clear d7); (try clear d6); (try clear gJ); (try clear gI); (try clear gH); (try clear dL); (try clear dK); (try clear dJ); (try clear dn); (try clear dm); (try clear dl); (try clear d5); (try clear d4); (try clear d3); (try clear d2); (try clear d1); (try clear d0); (try clear dZ); (try clear dY); (try clear dX); (try clear gG); (try clear gF); (try clear gE); (try clear dI); (try clear dH); (try clear dG); (try clear p2)
    obtain ⟨bl, ba, bP, rfl, HA, HK3, bb, bm, bk, bi, HB⟩ := hrel
    cases gk with
    | zero => exact absurd HA.out (by simp [postroomref10_Evict.l1])
    | succ k3 => ?_
    have H := HA.out
    clear HA
    simp only [postroomref10_Evict.l1] at H
    by_cases c28 : 0 ≤ bc
    case neg =>
     rw [if_neg c28] at H
     exact absurd H (by simp)
    rw [if_pos c28] at H
    have mA : decide (0 ≤ bc) = true := decide_eq_true c28
    clear c28
    by_cases c29 : bc < (ba.length : Int)
    case neg =>
     rw [if_neg c29] at H
     exact absurd H (by simp)
    rw [if_pos c29] at H
    have mz : decide (bc < (ba.length : Int)) = true := decide_eq_true c29
    clear c29
    by_cases c30 : bl < (((rd_T84 ba bc).f2).length : Int)
    case neg =>
     rw [if_neg c30] at H
     have hy : decide (bl < (((rd_T84 ba bc).f2).length : Int)) = false := decide_eq_false c30
     clear c30
     have H' := Aside0.mk H
     clear H
     have mg := bB.out
     have jX := bo.out
     have mf := bA.out
     have jW := bn.out
     obtain ⟨jl, jk, jj, hT, hS, hR⟩ := cx19_bc3 bi.out
     obtain ⟨mQ, jL, jE⟩ := Kd.S_slice bb.out
     subst jE
     have bQ : 0 ≤ (bc : Int) := of_decide_eq_true zx19_0
     have bY : bc < (ba.length : Int) := of_decide_eq_true zx19_0
     obtain ⟨bI, dP, du, dO, dk, dj, be, br, bu⟩ := at_T84 (Kd.S_reads' bb.out).2.2 bc bQ bY
     cases dO
     obtain ⟨gq, b0, b1, bH⟩ := Kd.S_get bb.out z84 bc bQ zx19_5
     obtain ⟨df, rfl, bh⟩ := k84_openM b1
     have bd := bH 2 _ rfl
     rw [add_field _ _ 2 (by omega)] at bd
     replace bd := Option.some.inj (bd.symm.trans be)
     rw [bd] at bh
     have da := Aside0.mk (show Kd.R (Kd.int .u8) 5 _ _ _ _ ((rd_T84 ba bc).f2) from bh)
     clear bd bh
     have dv := Aside0.mk be
     clear bH b0
     have dw := Aside0.mk bu
     have dy := Aside0.mk br
     clear bu br
     replace bQ := eq_true bQ
     replace bY := eq_true bY
     go_wp2
     go_roundg k3
     case measure => have := HJ2.out; have := HK2.out; have := HK3.out; omega
     case rel => exact ⟨(wrap64 (bc + 1)), (ba), (.slice (some bI) ba.length jL), zx19_6, H', ⟨by have := HJ2.out; have := HK2.out; have := HK3.out; omega⟩, ⟨by (with_reducible repeat (first | apply Kd.S_alloc | apply Kd.S_drewN | apply Kd.S_drew)); exact bb.out⟩, ⟨by (with_reducible repeat (first | refine blk_drewN ?_ _ | refine blk_drew ?_ | refine blk_alloc ?_ _)); exact bm.out⟩, ⟨by (with_reducible repeat (first | refine blk_drewN ?_ _ | refine blk_drew ?_ | refine blk_alloc ?_ _)); exact bk.out⟩, ⟨by (with_reducible repeat (first | refine blk_drewN ?_ _ | refine blk_drew ?_ | refine blk_alloc ?_ _)); exact bi.out⟩, ⟨by repeat (first | (with_reducible first | exact HB.out | apply below_alloc | apply pw_below_drewN | apply below_drew1 | refine below_set ?_ bU.out | refine below_set ?_ bW.out | refine below_set ?_ de.out) | exact HB.out)⟩⟩
    rw [if_pos c30] at H
    have hy : decide (bl < (((rd_T84 ba bc).f2).length : Int)) = true := decide_eq_true c30
    clear c30
    by_cases c31 : (IntKind.u64.wrap (((rd_T84 ba bc).f1) + (IntKind.u64.wrap (bl)))) < a1
    case neg =>
     rw [if_neg c31] at H
     have hx : decide ((IntKind.u64.wrap (((rd_T84 ba bc).f1) + (IntKind.u64.wrap (bl)))) < a1) = false := decide_eq_false c31
     clear c31
     have H' := Aside0.mk H
     clear H
     have mi := bB.out
     have jZ := bo.out
     have mh := bA.out
     have jY := bn.out
     obtain ⟨jo, jn, jm, hW, hV, hU⟩ := cx19_bc3 bi.out
     obtain ⟨mR, jM, jF⟩ := Kd.S_slice bb.out
     subst jF
     have bQ : 0 ≤ (bc : Int) := of_decide_eq_true zx19_0
     have bY : bc < (ba.length : Int) := of_decide_eq_true zx19_0
     obtain ⟨bI, dP, du, dO, dk, dj, be, br, bu⟩ := at_T84 (Kd.S_reads' bb.out).2.2 bc bQ bY
     cases dO
     obtain ⟨gq, b0, b1, bH⟩ := Kd.S_get bb.out z84 bc bQ zx19_5
     obtain ⟨df, rfl, bh⟩ := k84_openM b1
     have bd := bH 2 _ rfl
     rw [add_field _ _ 2 (by omega)] at bd
     replace bd := Option.some.inj (bd.symm.trans be)
     rw [bd] at bh
     have da := Aside0.mk (show Kd.R (Kd.int .u8) 5 _ _ _ _ ((rd_T84 ba bc).f2) from bh)
     clear bd bh
     have dv := Aside0.mk be
     clear bH b0
     have dw := Aside0.mk bu
     have dy := Aside0.mk br
     clear bu br
     replace bQ := eq_true bQ
     replace bY := eq_true bY
     have b5 : 0 ≤ (bc : Int) := of_decide_eq_true zx19_0
     have b4 : bc < (ba.length : Int) := of_decide_eq_true zx19_0
     obtain ⟨dD, gt, gr, gp, dU, dT, bp, bJ, bK⟩ := at_T84 (Kd.S_reads' bb.out).2.2 bc b5 b4
     obtain rfl : bI = dD := (by injection gp)
     obtain ⟨gS, db, dd, bV⟩ := Kd.S_get bb.out z84 bc b5 (by first | exact b4 | exact of_decide_eq_true zx19_0 | (have e_ := (Kd.S_reads' bb.out).1; omega))
     obtain ⟨dR, rfl, bw⟩ := k84_openM dd
     have bf := bV 2 _ rfl
     rw [add_field _ _ 2 (by omega)] at bf
     replace bf := Option.some.inj (bf.symm.trans bp)
     rw [bf] at bw
     have dx := Aside0.mk (show Kd.R (Kd.int .u8) 5 _ _ _ _ ((rd_T84 ba bc).f2) from bw)
     clear bf bw
     have gg := Aside0.mk bp
     clear bV db
     have gh := Aside0.mk bK
     have gl := Aside0.mk bJ
     clear bK bJ
     replace b5 := eq_true b5
     replace b4 := eq_true b4
     have ea_ := Option.some.inj (be.symm.trans bp)
     injection ea_ with ea_ en_ ec_
     subst ea_
     subst ec_
     clear en_
     go_wp2
     go_roundg k3
     case measure => have := HJ2.out; have := HK2.out; have := HK3.out; omega
     case rel => exact ⟨(wrap64 (bl + 1)), (ba), (.slice (some bI) ba.length jM), zx19_6, H', ⟨by have := HJ2.out; have := HK2.out; have := HK3.out; omega⟩, ⟨by (with_reducible repeat (first | apply Kd.S_alloc | apply Kd.S_drewN | apply Kd.S_drew)); exact bb.out⟩, ⟨by (with_reducible repeat (first | refine blk_drewN ?_ _ | refine blk_drew ?_ | refine blk_alloc ?_ _)); exact bm.out⟩, ⟨by (with_reducible repeat (first | refine blk_drewN ?_ _ | refine blk_drew ?_ | refine blk_alloc ?_ _)); exact bk.out⟩, ⟨by (with_reducible repeat (first | refine blk_drewN ?_ _ | refine blk_drew ?_ | refine blk_alloc ?_ _)); exact bi.out⟩, ⟨by repeat (first | (with_reducible first | exact HB.out | apply below_alloc | apply pw_below_drewN | apply below_drew1 | refine below_set ?_ bU.out | refine below_set ?_ bW.out | refine below_set ?_ de.out) | exact HB.out)⟩⟩
    rw [if_pos c31] at H
    have hx : decide ((IntKind.u64.wrap (((rd_T84 ba bc).f1) + (IntKind.u64.wrap (bl)))) < a1) = true := decide_eq_true c31
    clear c31
    by_cases c32 : 0 ≤ bl
    case neg =>
     rw [if_neg c32] at H
     exact absurd H (by simp)
    rw [if_pos c32] at H
    have my : decide (0 ≤ bl) = true := decide_eq_true c32
    clear c32
    by_cases c33 : (rd ((rd_T84 ba bc).f2) bl) = 112
    case neg =>
     rw [if_neg c33] at H
     have hv : ((rd ((rd_T84 ba bc).f2) bl) == 112) = false := beq_eq_false_iff_ne.mpr c33
     have hu : ((rd ((rd_T84 ba bc).f2) bl) != 112) = true := bne_iff_ne.mpr c33
     have H' := Aside0.mk H
     clear H
     have ml := bB.out
     have j3 := bo.out
     have mj := bA.out
     have j2 := bn.out
     obtain ⟨jr, jq, jp, hZ, hY, hX⟩ := cx19_bc3 bi.out
     obtain ⟨mS, jN, jG⟩ := Kd.S_slice bb.out
     subst jG
     have bQ : 0 ≤ (bc : Int) := of_decide_eq_true zx19_0
     have bY : bc < (ba.length : Int) := of_decide_eq_true zx19_0
     obtain ⟨bI, dP, du, dO, dk, dj, be, br, bu⟩ := at_T84 (Kd.S_reads' bb.out).2.2 bc bQ bY
     cases dO
     obtain ⟨gq, b0, b1, bH⟩ := Kd.S_get bb.out z84 bc bQ zx19_5
     obtain ⟨df, rfl, bh⟩ := k84_openM b1
     have bd := bH 2 _ rfl
     rw [add_field _ _ 2 (by omega)] at bd
     replace bd := Option.some.inj (bd.symm.trans be)
     rw [bd] at bh
     have da := Aside0.mk (show Kd.R (Kd.int .u8) 5 _ _ _ _ ((rd_T84 ba bc).f2) from bh)
     clear bd bh
     have dv := Aside0.mk be
     clear bH b0
     have dw := Aside0.mk bu
     have dy := Aside0.mk br
     clear bu br
     replace bQ := eq_true bQ
     replace bY := eq_true bY
     have b5 : 0 ≤ (bc : Int) := of_decide_eq_true zx19_0
     have b4 : bc < (ba.length : Int) := of_decide_eq_true zx19_0
     obtain ⟨dD, gt, gr, gp, dU, dT, bp, bJ, bK⟩ := at_T84 (Kd.S_reads' bb.out).2.2 bc b5 b4
     obtain rfl : bI = dD := (by injection gp)
     obtain ⟨gS, db, dd, bV⟩ := Kd.S_get bb.out z84 bc b5 (by first | exact b4 | exact of_decide_eq_true zx19_0 | (have e_ := (Kd.S_reads' bb.out).1; omega))
     obtain ⟨dR, rfl, bw⟩ := k84_openM dd
     have bf := bV 2 _ rfl
     rw [add_field _ _ 2 (by omega)] at bf
     replace bf := Option.some.inj (bf.symm.trans bp)
     rw [bf] at bw
     have dx := Aside0.mk (show Kd.R (Kd.int .u8) 5 _ _ _ _ ((rd_T84 ba bc).f2) from bw)
     clear bf bw
     have gg := Aside0.mk bp
     clear bV db
     have gh := Aside0.mk bK
     have gl := Aside0.mk bJ
     clear bK bJ
     replace b5 := eq_true b5
     replace b4 := eq_true b4
     have ea_ := Option.some.inj (be.symm.trans bp)
     injection ea_ with ea_ en_ ec_
     subst ea_
     subst ec_
     clear en_
     have dh : 0 ≤ (bc : Int) := of_decide_eq_true zx19_0
     have dg : bc < (ba.length : Int) := of_decide_eq_true zx19_0
     obtain ⟨gs, hj, he, gZ, gC, gB, bR, b7, b8⟩ := at_T84 (Kd.S_reads' bb.out).2.2 bc dh dg
     obtain rfl : bI = gs := (by injection gZ)
     obtain ⟨ht, dM, dN, dc⟩ := Kd.S_get bb.out z84 bc dh (by first | exact dg | exact of_decide_eq_true zx19_0 | (have e_ := (Kd.S_reads' bb.out).1; omega))
     obtain ⟨gy, rfl, bS⟩ := k84_openM dN
     have bq := dc 2 _ rfl
     rw [add_field _ _ 2 (by omega)] at bq
     replace bq := Option.some.inj (bq.symm.trans bR)
     rw [bq] at bS
     have gj := Aside0.mk (show Kd.R (Kd.int .u8) 5 _ _ _ _ ((rd_T84 ba bc).f2) from bS)
     clear bq bS
     have gL := Aside0.mk bR
     clear dc dM
     have b9 := Aside0.mk b8
     have gM := Aside0.mk b7
     clear b8 b7
     replace dh := eq_true dh
     replace dg := eq_true dg
     have ea_ := Option.some.inj (be.symm.trans bR)
     injection ea_ with ea_ en_ ec_
     subst ea_
     subst ec_
     clear en_
     have dF : 0 ≤ (bl : Int) := of_decide_eq_true zx19_0
     have dE : bl < (((rd_T84 ba bc).f2).length : Int) := of_decide_eq_true zx19_0
     obtain ⟨hA, gY, dS⟩ := Kd.at_int (by repeat (first | (with_reducible exact b9.out) | (with_reducible refine Kd.C_alloc ?_ _) | (with_reducible refine Kd.C_drewN ?_ _) | (with_reducible refine Kd.C_drew ?_) | exact b9.out)) bl dF dE
     cases gY
     replace dF := eq_true dF
     replace dE := eq_true dE
     go_wp2
     go_roundg k3
     case measure => have := HJ2.out; have := HK2.out; have := HK3.out; omega
     case rel => exact ⟨(wrap64 (bl + 1)), (ba), (.slice (some bI) ba.length jN), zx19_6, H', ⟨by have := HJ2.out; have := HK2.out; have := HK3.out; omega⟩, ⟨by (with_reducible repeat (first | apply Kd.S_alloc | apply Kd.S_drewN | apply Kd.S_drew)); exact bb.out⟩, ⟨by (with_reducible repeat (first | refine blk_drewN ?_ _ | refine blk_drew ?_ | refine blk_alloc ?_ _)); exact bm.out⟩, ⟨by (with_reducible repeat (first | refine blk_drewN ?_ _ | refine blk_drew ?_ | refine blk_alloc ?_ _)); exact bk.out⟩, ⟨by (with_reducible repeat (first | refine blk_drewN ?_ _ | refine blk_drew ?_ | refine blk_alloc ?_ _)); exact bi.out⟩, ⟨by repeat (first | (with_reducible first | exact HB.out | apply below_alloc | apply pw_below_drewN | apply below_drew1 | refine below_set ?_ bU.out | refine below_set ?_ bW.out | refine below_set ?_ de.out) | exact HB.out)⟩⟩
    rw [if_pos c33] at H
    have hv : ((rd ((rd_T84 ba bc).f2) bl) == 112) = true := beq_iff_eq.mpr c33
    have hu : ((rd ((rd_T84 ba bc).f2) bl) != 112) = false := bne_eq_false_iff_eq.mpr c33
    clear c33
    obtain ⟨gu, dA⟩ : ∃ y_ : List Int, y_ = (((rd_T84 ba bc).f2).set (bl : Int).toNat 101) := ⟨_, rfl⟩
    replace H : (postroomref10_Evict.l1 k3 a1 bc (wrap64 (bl + 1)) a1 bZ (ba.set (bc : Int).toNat (⟨(rd_T84 ba bc).f0, (rd_T84 ba bc).f1, gu⟩ : S84))) = some (r1, r2, r3, r4) := by first | (rw [dA]; with_reducible exact H) | (have H2_ := (Option.bind_some _ _).symm.trans H; rw [dA]; with_reducible exact H2_) | (have H2_ := (Option.bind_some _ _).symm.trans H; with_reducible exact H2_) | with_reducible exact H | (rw [dA]; exact H) | exact H
    have hC := Aside0.mk dA
    clear dA
    obtain ⟨gU, dz⟩ : ∃ y_ : List (S84), y_ = (ba.set (bc : Int).toNat (⟨(rd_T84 ba bc).f0, (rd_T84 ba bc).f1, gu⟩ : S84)) := ⟨_, rfl⟩
    replace H : (postroomref10_Evict.l1 k3 a1 bc (wrap64 (bl + 1)) a1 bZ gU) = some (r1, r2, r3, r4) := by first | (rw [dz]; with_reducible exact H) | (have H2_ := (Option.bind_some _ _).symm.trans H; rw [dz]; with_reducible exact H2_) | (have H2_ := (Option.bind_some _ _).symm.trans H; with_reducible exact H2_) | with_reducible exact H | (rw [dz]; exact H) | exact H
    have hB := Aside0.mk dz
    clear dz
    have H' := Aside0.mk H
    clear H
    have mo := bB.out
    have j5 := bo.out
    have mm := bA.out
    have j4 := bn.out
    obtain ⟨ju, jt, js, jc, jb, ja⟩ := cx19_bc3 bi.out
    obtain ⟨mT, ha, jH⟩ := Kd.S_slice bb.out
    subst jH
    have bQ : 0 ≤ (bc : Int) := of_decide_eq_true zx19_0
    have bY : bc < (ba.length : Int) := of_decide_eq_true zx19_0
    obtain ⟨bI, dP, du, dO, dk, dj, be, br, bu⟩ := at_T84 (Kd.S_reads' bb.out).2.2 bc bQ bY
    cases dO
    obtain ⟨gq, b0, b1, bH⟩ := Kd.S_get bb.out z84 bc bQ zx19_5
    obtain ⟨df, rfl, bh⟩ := k84_openM b1
    have bd := bH 2 _ rfl
    rw [add_field _ _ 2 (by omega)] at bd
    replace bd := Option.some.inj (bd.symm.trans be)
    rw [bd] at bh
    have da := Aside0.mk (show Kd.R (Kd.int .u8) 5 _ _ _ _ ((rd_T84 ba bc).f2) from bh)
    clear bd bh
    have dv := Aside0.mk be
    clear bH b0
    have dw := Aside0.mk bu
    have dy := Aside0.mk br
    clear bu br
    replace bQ := eq_true bQ
    replace bY := eq_true bY
    have b5 : 0 ≤ (bc : Int) := of_decide_eq_true zx19_0
    have b4 : bc < (ba.length : Int) := of_decide_eq_true zx19_0
    obtain ⟨dD, gt, gr, gp, dU, dT, bp, bJ, bK⟩ := at_T84 (Kd.S_reads' bb.out).2.2 bc b5 b4
    obtain rfl : bI = dD := (by injection gp)
    obtain ⟨gS, db, dd, bV⟩ := Kd.S_get bb.out z84 bc b5 (by first | exact b4 | exact of_decide_eq_true zx19_0 | (have e_ := (Kd.S_reads' bb.out).1; omega))
    obtain ⟨dR, rfl, bw⟩ := k84_openM dd
    have bf := bV 2 _ rfl
    rw [add_field _ _ 2 (by omega)] at bf
    replace bf := Option.some.inj (bf.symm.trans bp)
    rw [bf] at bw
    have dx := Aside0.mk (show Kd.R (Kd.int .u8) 5 _ _ _ _ ((rd_T84 ba bc).f2) from bw)
    clear bf bw
    have gg := Aside0.mk bp
    clear bV db
    have gh := Aside0.mk bK
    have gl := Aside0.mk bJ
    clear bK bJ
    replace b5 := eq_true b5
    replace b4 := eq_true b4
    have ea_ := Option.some.inj (be.symm.trans bp)
    injection ea_ with ea_ en_ ec_
    subst ea_
    subst ec_
    clear en_
    have dh : 0 ≤ (bc : Int) := of_decide_eq_true zx19_0
    have dg : bc < (ba.length : Int) := of_decide_eq_true zx19_0
    obtain ⟨gs, hj, he, gZ, gC, gB, bR, b7, b8⟩ := at_T84 (Kd.S_reads' bb.out).2.2 bc dh dg
    obtain rfl : bI = gs := (by injection gZ)
    obtain ⟨ht, dM, dN, dc⟩ := Kd.S_get bb.out z84 bc dh (by first | exact dg | exact of_decide_eq_true zx19_0 | (have e_ := (Kd.S_reads' bb.out).1; omega))
    obtain ⟨gy, rfl, bS⟩ := k84_openM dN
    have bq := dc 2 _ rfl
    rw [add_field _ _ 2 (by omega)] at bq
    replace bq := Option.some.inj (bq.symm.trans bR)
    rw [bq] at bS
    have gj := Aside0.mk (show Kd.R (Kd.int .u8) 5 _ _ _ _ ((rd_T84 ba bc).f2) from bS)
    clear bq bS
    have gL := Aside0.mk bR
    clear dc dM
    have b9 := Aside0.mk b8
    have gM := Aside0.mk b7
    clear b8 b7
    replace dh := eq_true dh
    replace dg := eq_true dg
    have ea_ := Option.some.inj (be.symm.trans bR)
    injection ea_ with ea_ en_ ec_
    subst ea_
    subst ec_
    clear en_
    have dF : 0 ≤ (bl : Int) := of_decide_eq_true zx19_0
    have dE : bl < (((rd_T84 ba bc).f2).length : Int) := of_decide_eq_true zx19_0
    obtain ⟨hA, gY, dS⟩ := Kd.at_int (by repeat (first | (with_reducible exact b9.out) | (with_reducible refine Kd.C_alloc ?_ _) | (with_reducible refine Kd.C_drewN ?_ _) | (with_reducible refine Kd.C_drew ?_) | exact b9.out)) bl dF dE
    cases gY
    replace dF := eq_true dF
    replace dE := eq_true dE
    have gA : 0 ≤ (bc : Int) := of_decide_eq_true zx19_0
    have gz : bc < (ba.length : Int) := of_decide_eq_true zx19_0
    obtain ⟨hz, jS, jP, jK, hK, hJ, di, dV, dW⟩ := at_T84 (Kd.S_reads' bb.out).2.2 bc gA gz
    obtain rfl : bI = hz := (by injection jK)
    obtain ⟨mw, gV, gW, go⟩ := Kd.S_get bb.out z84 bc gA (by first | exact gz | exact of_decide_eq_true zx19_0 | (have e_ := (Kd.S_reads' bb.out).1; omega))
    obtain ⟨hI, rfl, dt⟩ := k84_openM gW
    have b6 := go 2 _ rfl
    rw [add_field _ _ 2 (by omega)] at b6
    replace b6 := Option.some.inj (b6.symm.trans di)
    rw [b6] at dt
    have bX := Aside0.mk (show Kd.R (Kd.int .u8) 5 _ _ _ _ ((rd_T84 ba bc).f2) from dt)
    clear b6 dt
    have gK := Aside0.mk di
    clear go gV
    have jv := Aside0.mk dW
    have jw := Aside0.mk dV
    clear dW dV
    replace gA := eq_true gA
    replace gz := eq_true gz
    have ea_ := Option.some.inj (be.symm.trans di)
    injection ea_ with ea_ en_ ec_
    subst ea_
    subst ec_
    clear en_
    have p34 : 0 ≤ (bl : Int) := of_decide_eq_true zx19_0
    have q34 : (bl : Int) < ((((rd_T84 ba bc).f2).length : Int) : Int) := of_decide_eq_true zx19_0
    obtain ⟨gX, mM, hq, hp, jC, mN, hE⟩ := Kd.R_form bX.out (by omega)
    (first | cases hq | (injection hq with ea_ en_ ec_; (first | subst ea_ | (injection ea_ with ea_; subst ea_)); subst ec_; clear en_))
    have jQ := Aside0.mk hp
    have mP := Aside0.mk hE
    clear hp jC hE
    (first | simp only [add_plain] at dS | skip)
    obtain ⟨jy, jA⟩ := Kd.R_celln 0 bX.out (bl : Int) p34 q34
    replace p34 := eq_true p34
    replace q34 := eq_true q34
    have jz : (bc : Int) < (ba.length : Int) := (by have h_ : (bc : Int) < ((ba.length : Int) : Int) := of_decide_eq_true zx19_0; first | exact h_ | (have e_ := (Kd.S_reads' bb.out).1; omega) | simpa only [List.length_set, List.length_set] using h_)
    obtain ⟨hl, mO, hm, jB, gP, gO, gR⟩ := Kd.S_borrow bb.out z84 (bc : Int) (of_decide_eq_true zx19_0) jz
    obtain ⟨jx, rfl, ds⟩ := k84_openM jB
    have gD := gP 2 _ rfl
    rw [add_field _ _ 2 (by omega)] at gD
    replace gD := Option.some.inj (gD.symm.trans gK.out)
    subst gD
    clear gP hm
    replace ds := (show Kd.R (Kd.int .u8) 5 _ _ _ _ ((rd_T84 ba bc).f2) from ds)
    have hf := Kd.R_putg ds (bl : Int) 101
    go_wp2_with (first | ((with_reducible refine gate_store (t := 5) (p := 72) rfl ?_); refine store_event (t := 5) (p := 72) (v := ?vo_w40) (w1 := (wr.setCell ⟨gX, (bl : Int).toNat, none⟩ (.int .u8 101))) ?hg ?ho ?hn ?hr ?_; (case ho => rfl); (case hg => rfl); (case hn => rfl); (case hr => first | (go_simp; done) | (go_simp; rfl)); intro w40 hw; have hg : wr.grownBy w40 (some gX) := (by rw [hw]; exact hf.2); have hz_ : Kd.R (Kd.int .u8) 5 w40 w.heap.size hl (.slice (some ⟨gX, 0, none⟩) ((rd_T84 ba bc).f2).length du) gu := (by rw [hw, hC.out]; exact hf.1); have hp_ : Kd.S k84 84 w40 w.heap.size (fun _ => True) (.slice (some bI) ba.length ha) gU := (by rw [hB.out]; exact gR hg (fun k_ e_ => by injection e_ with e_; subst e_; exact ds.1 _ rfl) (k84_mkM _ _ _ (⟨(rd_T84 ba bc).f0, (rd_T84 ba bc).f1, gu⟩ : S84) hz_)); have hm_ := Kd.R_mono hz_ gO; clear hf gR; have n0_ := Aside0.mk (hp_); have n1_ := Aside0.mk (blk_grown (g := bD) (o := .cells #[.int .u64 bz, .int .u64 bE, .slice b3 bC.length b2] 57 (0, 0)) zx19_1 hg (Kd.R_ne bX.out bm.out (by decide))); have n2_ := Aside0.mk (blk_grown (g := bx) (o := .cells #[.int .u64 0, .int .u64 0, .slice none 0 0] 57 (0, 0)) zx19_3 hg (Kd.R_ne bX.out bk.out (by decide))); have n3_ := Aside0.mk (blk_grown (g := bG) (o := .cells #[.int .u64 a1, .int .u64 bZ, .slice (some bI) ba.length ha] 57 (0, 0)) (by (with_reducible repeat (first | refine blk_drewN ?_ _ | refine blk_drew ?_ | refine blk_alloc ?_ _)); exact bi.out) hg (Kd.R_ne bX.out bi.out (by decide))); have n4_ := Aside0.mk ((by rw [hw]; exact below_set (HB.out) jQ.out : Below w.heap.size w w40)); have n5_ := Aside0.mk (hm_); have n6_ := Aside0.mk ((Kd.R_reads' hm_).2.1); clear bb; clear bm; clear bk; clear bi; clear HB; clear da; clear dx; clear gj; clear bX; have bb := n0_; have bm := n1_; have bk := n2_; have bi := n3_; have HB := n4_; have mB := n5_; have mC := n6_; clear n0_ n1_ n2_ n3_ n4_ n5_ n6_; clear hg hw hp_ hz_ hm_ gO))
    go_roundg k3
    case measure => have := HJ2.out; have := HK2.out; have := HK3.out; omega
    case rel => exact ⟨(wrap64 (bl + 1)), (gU), (.slice (some bI) ba.length ha), zx19_6, H', ⟨by have := HJ2.out; have := HK2.out; have := HK3.out; omega⟩, ⟨by (with_reducible repeat (first | apply Kd.S_alloc | apply Kd.S_drewN | apply Kd.S_drew)); exact bb.out⟩, ⟨by (with_reducible repeat (first | refine blk_drewN ?_ _ | refine blk_drew ?_ | refine blk_alloc ?_ _)); exact bm.out⟩, ⟨by (with_reducible repeat (first | refine blk_drewN ?_ _ | refine blk_drew ?_ | refine blk_alloc ?_ _)); exact bk.out⟩, ⟨by (with_reducible repeat (first | refine blk_drewN ?_ _ | refine blk_drew ?_ | refine blk_alloc ?_ _)); exact bi.out⟩, ⟨by repeat (first | (with_reducible first | exact HB.out | apply below_alloc | apply pw_below_drewN | apply below_drew1 | refine below_set ?_ bU.out | refine below_set ?_ bW.out | refine below_set ?_ de.out) | exact HB.out)⟩⟩
end Go.Proofs.YthhmpjapnkilcaaDoor.XLdg
end
section
/- What the functions of the translation answer, each as a plain Lean function, and that the code comes to it; for a law: its row. Conditions: none but those that each theorem names. Written by a program of this session (wip/xp). -/
namespace Go.Proofs.YthhmpjapnkilcaaDoor.XLdg
open Go.RowKit Go.Proofs.YthhmpjapnkilcaaDoorW.PrintWords Go.Proofs.YthhmpjapnkilcaaDoorW.PrintLast Go.Proofs.YthhmpjapnkilcaaDoorW.PrintMore
attribute [local go_sem] max2_int min2_int max_two min_two max_three min_three max_four min_four   -- for this text's walks alone
theorem zx25_1 {p : Prop} (h : p := by (with_reducible repeat (first | refine blk_drewN ?_ _ | refine blk_drew ?_ | refine blk_alloc ?_ _)); exact bd.out) : p := h
theorem zx25_3 {p : Prop} (h : p := by repeat (first | (with_reducible first | exact HB.out | apply below_alloc | apply pw_below_drewN | apply below_drew1) | exact HB.out)) : p := h
theorem zx25_0 {p : Prop} (h : p := by repeat (first | (with_reducible first | exact HB.out | apply below_alloc | apply pw_below_drewN | apply below_drew1 | refine below_set ?_ bx.out) | exact HB.out)) : p := h
theorem zx25_2 {p : Prop} (h : p := by (with_reducible repeat (first | apply Kd.R_alloc | apply Kd.R_drewN | apply Kd.R_drew)); exact (Kd.R_mono (Kd.R_far (p := ⟨bb, 6, none⟩) (Kd.R_far (p := ⟨bb, 5, none⟩) (Kd.R_far (p := ⟨bb, 4, none⟩) (Kd.R_far (p := ⟨bb, 3, none⟩) (Kd.R_far (p := ⟨bb, 2, none⟩) (Kd.R_far (p := ⟨bb, 1, none⟩) (Kd.R_far (p := ⟨bb, 0, none⟩) (Kd.R_types bl.out ba.out (by decide)) (fun _ hk => hk.2) (.string bm)) (fun _ hk => hk.2) (.int .u64 bo)) (fun _ hk => hk.2) (.int .u64 bq)) (fun _ hk => hk.2) (.slice bC bp.length bB)) (fun _ hk => hk.2) (.int .u64 bu)) (fun _ hk => hk.2) (.int .u64 bw)) (fun _ hk => hk.2) (.int .u64 bz)) (fun _ h_ => h_.1))) : p := h
set_option linter.unusedVariables false
set_option linter.unusedSimpArgs false

/-! ### ledger_Waits: function 19 -/
def ledger_Waits.f (k : Nat) (bh : Int) (be : Int) (bf : List (S37)) (a1 : ByteArray) (a2 : Int) : Option (Bool) := (ledger_Find.f bh be bf a1).bind fun bg => (if bg.2.2.2.2.2.2.2 = true then ((ledger_Dest_waits.f k bg.1 bg.2.1 bg.2.2.1 bg.2.2.2.1 bg.2.2.2.2.1 bg.2.2.2.2.2.1 bg.2.2.2.2.2.2.1 a2 be).bind fun br => (some br)) else (some false))
set_option maxHeartbeats 8000000 in
set_option maxRecDepth 100000 in
theorem ledger_Waits.calls (k : Nat) (bh : Int) (be : Int) (bj : Option Addr) (bi : Nat) (bf : List (S37)) (a1 : ByteArray) (a2 : Int) (r : Bool) (w : World) (bD : Kd.C k37 w bj bf.length bf) (bE : bf.length ≤ bi) (h : ledger_Waits.f k bh be bf a1 a2 = some r) :
  Calls Tryd.prog 19 #[.agg #[.int .u64 bh, .int .u64 be, .slice bj bf.length bi], .string a1, .int .u64 a2] w fun e w' => e = .returned (.bool r) ∧ Below w.heap.size w w' := by
 have dF := Tryd.underlying27
 have dE := Tryd.underlying37
 have bG := Aside0.mk bD
 have bH := Aside0.mk bE
 clear bD bE
 have HB := Aside0.mk (Below.refl w.heap.size w)
 have H : ((ledger_Find.f bh be bf a1).bind fun bg => (if bg.2.2.2.2.2.2.2 = true then ((ledger_Dest_waits.f k bg.1 bg.2.1 bg.2.2.1 bg.2.2.2.1 bg.2.2.2.2.1 bg.2.2.2.2.2.1 bg.2.2.2.2.2.2.1 a2 be).bind fun br => (some br)) else (some false))) = some r := h
 clear h
 replace H := Option.bind_eq_some_iff.mp H
 obtain ⟨⟨bm, bo, bq, bp, bu, bw, bz, bI⟩, A40, H⟩ := H
 replace H : (if bI = true then ((ledger_Dest_waits.f k bm bo bq bp bu bw bz a2 be).bind fun br => (some br)) else (some false)) = some r := H
 have A4 := Aside0.mk A40
 clear A40
 by_cases c5 : bI = true
 case neg =>
  replace c5 := Bool.eq_false_iff.mpr c5
  subst c5
  have H1 : (some false) = some r := by rw [if_neg (show ¬ (false = true) by decide)] at H; exact H
  clear H
  have H := H1
  clear H1
  obtain rfl := Option.some.inj H
  go_enter Tryd.func19, Tryd.ntmps19
  go_wp2_with (first | ((with_reducible refine gate_dst (N := 3) rfl ?_); refine box_event ?hg (N := 3) ?hd (cs := #[.int .u64 bh, .int .u64 be, .slice bj bf.length bi]) (t := 27) ?hr ?_; (case hd => rfl); (case hg => rfl); (case hr => first | (go_simp; done) | (go_simp; rfl)); intro bc hg w16 hbox hb; have bd := Aside0.mk (hbox); have bK := Aside0.mk ((by rw [hg]; exact (below_size zx25_3) : w.heap.size ≤ bc)); have bx := Aside0.mk ((by rw [hg]; exact (below_size zx25_3) : w.heap.size ≤ bc)); replace HB := Aside0.mk (below_step zx25_3 hb); clear hb hbox hg; have df : w16.cell? ⟨bc, 0, none⟩ = some (.int .u64 bh) := (blk_cell bd.out 0).trans rfl; have de : w16.cell? ⟨bc, 1, none⟩ = some (.int .u64 be) := (blk_cell bd.out 1).trans rfl; have dd : w16.cell? ⟨bc, 2, none⟩ = some (.slice bj bf.length bi) := (blk_cell bd.out 2).trans rfl; have bV := blk_frozen bd.out 0; have bU := blk_frozen bd.out 1; have bS := blk_frozen bd.out 2) | ((with_reducible refine gate_callee (f := 17) rfl ?_); refine goesL_ (some 12) rfl rfl Tryd.func17 (by kernel_rfl) rfl #[.agg #[.int .u64 bh, .int .u64 be, .slice bj bf.length bi], .string a1] rfl (by (try simp only [List.map_toArray, List.map_cons, List.map_nil]); first | done | rfl | (simp only [List.length_drop, List.length_take]; rfl)) ?_; (with_reducible refine (ledger_Find.calls bh be _ _ bf a1 bm bo bq bp bu bw bz false _ ?side1 ?side2 A4.out).mono ?_); (case side1 => repeat (first | exact (Kd.C_below bG.out HB.out) | (with_reducible refine Kd.C_alloc ?_ _) | (with_reducible refine Kd.C_drewN ?_ _) | (with_reducible refine Kd.C_drew ?_))); (case side2 => exact bH.out); rintro e w18 ⟨dr, rfl, ho0, hb⟩; refine ⟨_, rfl, ?_⟩; have bl := Aside0.mk (Kd.R_lower ho0 (below_size zx25_0)); replace bd := Aside0.mk (blk_below (g := bc) (o := .cells #[.int .u64 bh, .int .u64 be, .slice bj bf.length bi] 27 (0, 0)) zx25_1 hb); replace HB := Aside0.mk (below_step zx25_0 hb); (try clear hb); (try clear hb2); (try clear hk); (try clear hi); (try clear ho0)) | ((with_reducible refine gate_dst (N := 7) rfl ?_); refine box_event ?hg (N := 7) ?hd (cs := #[.string (⟨#[]⟩ : ByteArray), .int .u64 0, .int .u64 0, .slice none 0 0, .int .u64 0, .int .u64 0, .int .u64 0]) (t := 37) ?hr ?_; (case hd => rfl); (case hg => rfl); (case hr => first | (go_simp; done) | (go_simp; rfl)); intro bb hg w19 hbox hb; replace bl := Aside0.mk (Kd.R_below (by (with_reducible repeat (first | apply Kd.R_alloc | apply Kd.R_drewN | apply Kd.R_drew)); exact bl.out) hb); have ba := Aside0.mk (hbox); have bJ := Aside0.mk ((by rw [hg]; exact (below_size zx25_0) : w.heap.size ≤ bb)); have bA := Aside0.mk ((by rw [hg]; exact (below_size zx25_0) : w.heap.size ≤ bb)); replace HB := Aside0.mk (below_step zx25_0 hb); have bk := Aside0.mk ((by rw [hg]; exact Nat.ne_of_lt (blk_lt (g := bc) (o := .cells #[.int .u64 bh, .int .u64 be, .slice bj bf.length bi] 27 (0, 0)) zx25_1) : bc ≠ bb)); have bn := Aside0.mk ((by rw [hg]; exact Nat.ne_of_gt (blk_lt (g := bc) (o := .cells #[.int .u64 bh, .int .u64 be, .slice bj bf.length bi] 27 (0, 0)) zx25_1) : bb ≠ bc)); replace bd := Aside0.mk (blk_below (g := bc) (o := .cells #[.int .u64 bh, .int .u64 be, .slice bj bf.length bi] 27 (0, 0)) zx25_1 hb); clear hb hbox hg; have dC := bn.out; have dA := bk.out; have dc : w19.cell? ⟨bb, 0, none⟩ = some (.string (⟨#[]⟩ : ByteArray)) := (blk_cell ba.out 0).trans rfl; have db : w19.cell? ⟨bb, 1, none⟩ = some (.int .u64 0) := (blk_cell ba.out 1).trans rfl; have da : w19.cell? ⟨bb, 2, none⟩ = some (.int .u64 0) := (blk_cell ba.out 2).trans rfl; have b9 : w19.cell? ⟨bb, 3, none⟩ = some (.slice none 0 0) := (blk_cell ba.out 3).trans rfl; have b8 : w19.cell? ⟨bb, 4, none⟩ = some (.int .u64 0) := (blk_cell ba.out 4).trans rfl; have b7 : w19.cell? ⟨bb, 5, none⟩ = some (.int .u64 0) := (blk_cell ba.out 5).trans rfl; have b6 : w19.cell? ⟨bb, 6, none⟩ = some (.int .u64 0) := (blk_cell ba.out 6).trans rfl; have bR := blk_frozen ba.out 0; have bQ := blk_frozen ba.out 1; have bP := blk_frozen ba.out 2; have bO := blk_frozen ba.out 3; have bN := blk_frozen ba.out 4; have bM := blk_frozen ba.out 5; have bL := blk_frozen ba.out 6; obtain ⟨dH, dG, dy⟩ := Kd.R_slice bl.out; subst dy))
  go_ret
  exact ⟨by first | rfl | (simp [errW_none, errW_some] <;> rfl) | (simp [*, errW_none, errW_some] <;> rfl), by repeat (first | (with_reducible first | exact HB.out | apply below_alloc | apply pw_below_drewN | apply below_drew1 | refine below_set ?_ bx.out | refine below_set ?_ bA.out) | exact HB.out)⟩

 subst c5
 have H1 : ((ledger_Dest_waits.f k bm bo bq bp bu bw bz a2 be).bind fun br => (some br)) = some r := by rw [if_pos rfl] at H; exact H
 clear H
 have H := H1
 clear H1
 replace H := Option.bind_eq_some_iff.mp H
 obtain ⟨br, A60, H⟩ := H
 replace H : (some br) = some r := H
 have A6 := Aside0.mk A60
 clear A60
 obtain rfl := Option.some.inj H
 go_enter Tryd.func19, Tryd.ntmps19
 go_wp2_with (first | ((with_reducible refine gate_dst (N := 3) rfl ?_); refine box_event ?hg (N := 3) ?hd (cs := #[.int .u64 bh, .int .u64 be, .slice bj bf.length bi]) (t := 27) ?hr ?_; (case hd => rfl); (case hg => rfl); (case hr => first | (go_simp; done) | (go_simp; rfl)); intro bc hg w7 hbox hb; have bd := Aside0.mk (hbox); have bK := Aside0.mk ((by rw [hg]; exact (below_size zx25_3) : w.heap.size ≤ bc)); have bx := Aside0.mk ((by rw [hg]; exact (below_size zx25_3) : w.heap.size ≤ bc)); replace HB := Aside0.mk (below_step zx25_3 hb); clear hb hbox hg; have dx : w7.cell? ⟨bc, 0, none⟩ = some (.int .u64 bh) := (blk_cell bd.out 0).trans rfl; have dw : w7.cell? ⟨bc, 1, none⟩ = some (.int .u64 be) := (blk_cell bd.out 1).trans rfl; have dv : w7.cell? ⟨bc, 2, none⟩ = some (.slice bj bf.length bi) := (blk_cell bd.out 2).trans rfl; have du := blk_frozen bd.out 0; have dt := blk_frozen bd.out 1; have ds := blk_frozen bd.out 2) | ((with_reducible refine gate_callee (f := 17) rfl ?_); refine goesL_ (some 12) rfl rfl Tryd.func17 (by kernel_rfl) rfl #[.agg #[.int .u64 bh, .int .u64 be, .slice bj bf.length bi], .string a1] rfl (by (try simp only [List.map_toArray, List.map_cons, List.map_nil]); first | done | rfl | (simp only [List.length_drop, List.length_take]; rfl)) ?_; (with_reducible refine (ledger_Find.calls bh be _ _ bf a1 bm bo bq bp bu bw bz true _ ?side1 ?side2 A4.out).mono ?_); (case side1 => repeat (first | exact (Kd.C_below bG.out HB.out) | (with_reducible refine Kd.C_alloc ?_ _) | (with_reducible refine Kd.C_drewN ?_ _) | (with_reducible refine Kd.C_drew ?_))); (case side2 => exact bH.out); rintro e w9 ⟨dr, rfl, ho0, hb⟩; refine ⟨_, rfl, ?_⟩; have bl := Aside0.mk (Kd.R_lower ho0 (below_size zx25_0)); replace bd := Aside0.mk (blk_below (g := bc) (o := .cells #[.int .u64 bh, .int .u64 be, .slice bj bf.length bi] 27 (0, 0)) zx25_1 hb); replace HB := Aside0.mk (below_step zx25_0 hb); (try clear hb); (try clear hb2); (try clear hk); (try clear hi); (try clear ho0)) | ((with_reducible refine gate_dst (N := 7) rfl ?_); refine box_event ?hg (N := 7) ?hd (cs := #[.string (⟨#[]⟩ : ByteArray), .int .u64 0, .int .u64 0, .slice none 0 0, .int .u64 0, .int .u64 0, .int .u64 0]) (t := 37) ?hr ?_; (case hd => rfl); (case hg => rfl); (case hr => first | (go_simp; done) | (go_simp; rfl)); intro bb hg w10 hbox hb; replace bl := Aside0.mk (Kd.R_below (by (with_reducible repeat (first | apply Kd.R_alloc | apply Kd.R_drewN | apply Kd.R_drew)); exact bl.out) hb); have ba := Aside0.mk (hbox); have bJ := Aside0.mk ((by rw [hg]; exact (below_size zx25_0) : w.heap.size ≤ bb)); have bA := Aside0.mk ((by rw [hg]; exact (below_size zx25_0) : w.heap.size ≤ bb)); replace HB := Aside0.mk (below_step zx25_0 hb); have bk := Aside0.mk ((by rw [hg]; exact Nat.ne_of_lt (blk_lt (g := bc) (o := .cells #[.int .u64 bh, .int .u64 be, .slice bj bf.length bi] 27 (0, 0)) zx25_1) : bc ≠ bb)); have bn := Aside0.mk ((by rw [hg]; exact Nat.ne_of_gt (blk_lt (g := bc) (o := .cells #[.int .u64 bh, .int .u64 be, .slice bj bf.length bi] 27 (0, 0)) zx25_1) : bb ≠ bc)); replace bd := Aside0.mk (blk_below (g := bc) (o := .cells #[.int .u64 bh, .int .u64 be, .slice bj bf.length bi] 27 (0, 0)) zx25_1 hb); clear hb hbox hg; have dD := bn.out; have dB := bk.out; have dq : w10.cell? ⟨bb, 0, none⟩ = some (.string (⟨#[]⟩ : ByteArray)) := (blk_cell ba.out 0).trans rfl; have dp : w10.cell? ⟨bb, 1, none⟩ = some (.int .u64 0) := (blk_cell ba.out 1).trans rfl; have dn : w10.cell? ⟨bb, 2, none⟩ = some (.int .u64 0) := (blk_cell ba.out 2).trans rfl; have dm : w10.cell? ⟨bb, 3, none⟩ = some (.slice none 0 0) := (blk_cell ba.out 3).trans rfl; have dl : w10.cell? ⟨bb, 4, none⟩ = some (.int .u64 0) := (blk_cell ba.out 4).trans rfl; have dk : w10.cell? ⟨bb, 5, none⟩ = some (.int .u64 0) := (blk_cell ba.out 5).trans rfl; have dj : w10.cell? ⟨bb, 6, none⟩ = some (.int .u64 0) := (blk_cell ba.out 6).trans rfl; have b5 := blk_frozen ba.out 0; have b4 := blk_frozen ba.out 1; have b3 := blk_frozen ba.out 2; have b2 := blk_frozen ba.out 3; have b1 := blk_frozen ba.out 4; have b0 := blk_frozen ba.out 5; have bZ := blk_frozen ba.out 6; obtain ⟨bC, bB, dz⟩ := Kd.R_slice bl.out; subst dz; have di : w10.cell? ⟨bc, 0, none⟩ = some (.int .u64 bh) := (blk_cell bd.out 0).trans rfl; have dh : w10.cell? ⟨bc, 1, none⟩ = some (.int .u64 be) := (blk_cell bd.out 1).trans rfl; have dg : w10.cell? ⟨bc, 2, none⟩ = some (.slice bj bf.length bi) := (blk_cell bd.out 2).trans rfl; have bY := blk_frozen bd.out 0; have bX := blk_frozen bd.out 1; have bW := blk_frozen bd.out 2) | (go_at_call 36; (with_reducible refine (ledger_Dest_waits.calls k bm bo bq _ _ bp bu bw bz a2 be br _ ?side1 ?side2 A6.out).mono ?_); (case side1 => refine (Kd.R_reads' (e := 24) (base := w.heap.size) (ok := fun k_ => True) (n := bp.length) (c := bB) ?_).2.2; exact zx25_2); (case side2 => exact (Kd.R_reads' bl.out).2.1); rintro e w15 ⟨rfl, hb⟩; replace bl := Aside0.mk (Kd.R_below zx25_2 hb); replace bd := Aside0.mk (blk_below (g := bc) (o := .cells #[.int .u64 bh, .int .u64 be, .slice bj bf.length bi] 27 (0, 0)) (by (iterate 7 ((with_reducible repeat (first | refine blk_drewN ?_ _ | refine blk_drew ?_ | refine blk_alloc ?_ _)); refine blk_far ?_ bk.out _)); (with_reducible repeat (first | refine blk_drewN ?_ _ | refine blk_drew ?_ | refine blk_alloc ?_ _)); exact bd.out) hb); replace ba := Aside0.mk (blk_below (g := bb) (o := .cells #[.string bm, .int .u64 bo, .int .u64 bq, .slice bC bp.length bB, .int .u64 bu, .int .u64 bw, .int .u64 bz] 37 (0, 0)) (by (with_reducible repeat (first | refine blk_drewN ?_ _ | refine blk_drew ?_ | refine blk_alloc ?_ _)); refine blk_put (cs := #[.string bm, .int .u64 bo, .int .u64 bq, .slice bC bp.length bB, .int .u64 bu, .int .u64 bw, .int .u64 0]) ?_ 6 _ rfl; (with_reducible repeat (first | refine blk_drewN ?_ _ | refine blk_drew ?_ | refine blk_alloc ?_ _)); refine blk_put (cs := #[.string bm, .int .u64 bo, .int .u64 bq, .slice bC bp.length bB, .int .u64 bu, .int .u64 0, .int .u64 0]) ?_ 5 _ rfl; (with_reducible repeat (first | refine blk_drewN ?_ _ | refine blk_drew ?_ | refine blk_alloc ?_ _)); refine blk_put (cs := #[.string bm, .int .u64 bo, .int .u64 bq, .slice bC bp.length bB, .int .u64 0, .int .u64 0, .int .u64 0]) ?_ 4 _ rfl; (with_reducible repeat (first | refine blk_drewN ?_ _ | refine blk_drew ?_ | refine blk_alloc ?_ _)); refine blk_put (cs := #[.string bm, .int .u64 bo, .int .u64 bq, .slice none 0 0, .int .u64 0, .int .u64 0, .int .u64 0]) ?_ 3 _ rfl; (with_reducible repeat (first | refine blk_drewN ?_ _ | refine blk_drew ?_ | refine blk_alloc ?_ _)); refine blk_put (cs := #[.string bm, .int .u64 bo, .int .u64 0, .slice none 0 0, .int .u64 0, .int .u64 0, .int .u64 0]) ?_ 2 _ rfl; (with_reducible repeat (first | refine blk_drewN ?_ _ | refine blk_drew ?_ | refine blk_alloc ?_ _)); refine blk_put (cs := #[.string bm, .int .u64 0, .int .u64 0, .slice none 0 0, .int .u64 0, .int .u64 0, .int .u64 0]) ?_ 1 _ rfl; (with_reducible repeat (first | refine blk_drewN ?_ _ | refine blk_drew ?_ | refine blk_alloc ?_ _)); refine blk_put (cs := #[.string (⟨#[]⟩ : ByteArray), .int .u64 0, .int .u64 0, .slice none 0 0, .int .u64 0, .int .u64 0, .int .u64 0]) ?_ 0 _ rfl; (with_reducible repeat (first | refine blk_drewN ?_ _ | refine blk_drew ?_ | refine blk_alloc ?_ _)); exact ba.out) hb); replace HB := Aside0.mk (below_step (by repeat (first | (with_reducible first | exact HB.out | apply below_alloc | apply pw_below_drewN | apply below_drew1 | refine below_set ?_ bx.out | refine below_set ?_ bA.out) | exact HB.out)) hb); (try clear hb); (try clear hb2); (try clear hk); (try clear hi)))
 go_ret
 exact ⟨by first | rfl | (simp [errW_none, errW_some] <;> rfl) | (simp [*, errW_none, errW_some] <;> rfl), by repeat (first | (with_reducible first | exact HB.out | apply below_alloc | apply pw_below_drewN | apply below_drew1 | refine below_set ?_ bx.out | refine below_set ?_ bA.out) | exact HB.out)⟩
-- NOT PRINTED: function 4 (postroomlaw10_LedgerCounts)

end Go.Proofs.YthhmpjapnkilcaaDoor.XLdg
end
