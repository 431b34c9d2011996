/- What the functions of the translation answer, each as a plain Lean function, and that the code comes to it; for a law: its row. Conditions: none but those that each theorem names. Written by a program of this session (wip/xp). -/
import Derived.Test.YtmbigoeldobaiaaDoorXMrkP1
import Derived.Test.YtmbigoeldobaiaaDoorXMrkP4
import Derived.Test.YtmbigoeldobaiaaDoorXMrkx12
import Derived.Test.YtmbigoeldobaiaaDoorXMrkx22
namespace Go.Proofs.YtmbigoeldobaiaaDoor.XMrk
open Go.RowKit Go.Proofs.YtmbigoeldobaiaaDoorW.PrintWords Go.Proofs.YtmbigoeldobaiaaDoorW.PrintLast Go.Proofs.YtmbigoeldobaiaaDoorW.PrintMore
attribute [local go_sem] max2_int min2_int max_two min_two max_three min_three max_four min_four   -- for this text's walks alone
theorem cx25_bc3 {w : World} {g : Nat} {t : TypeId} {x0 x1 x2 : Value} (h : w.heap[g]? = some (.cells #[x0, x1, x2] t (0, 0))) : w.cell? ⟨g, 0, none⟩ = some x0 ∧ w.cell? ⟨g, 1, none⟩ = some x1 ∧ w.cell? ⟨g, 2, none⟩ = some x2 ∧ w.frozen? ⟨g, 0, none⟩ = false ∧ w.frozen? ⟨g, 1, none⟩ = false ∧ w.frozen? ⟨g, 2, none⟩ = false :=
 ⟨(blk_cell h 0).trans rfl, (blk_cell h 1).trans rfl, (blk_cell h 2).trans rfl, blk_frozen h 0, blk_frozen h 1, blk_frozen h 2⟩
theorem zx25_3 {p : Prop} (h : p := by first | rfl | (simp; done) | (simp [*]; done)) : p := h
theorem zx25_5 {p : Prop} (h : p := by (with_reducible repeat (first | refine blk_drewN ?_ _ | refine blk_drew ?_ | refine blk_alloc ?_ _)); exact bd.out) : p := h
theorem zx25_0 {p : Prop} (h : p := by repeat (first | (with_reducible first | exact HB.out | apply below_alloc | apply pw_below_drewN | apply below_drew1) | exact HB.out)) : p := h
theorem zx25_4 {p : Prop} (h : p := by (try simp only [List.map_toArray, List.map_cons, List.map_nil]); first | done | rfl | (simp only [List.length_drop, List.length_take]; rfl)) : p := h
theorem zx25_1 {p : Prop} (h : p := by repeat (first | (with_reducible first | exact HB.out | apply below_alloc | apply pw_below_drewN | apply below_drew1 | refine below_set ?_ bq.out) | exact HB.out)) : p := h
theorem zx25_2 {p : Prop} (h : p := by (with_reducible repeat (first | apply Kd.V_alloc | apply Kd.V_drewN | apply Kd.V_drew)); exact (Kd.V_mono (Kd.V_far (p := ⟨bc, 2, none⟩) (Kd.V_far (p := ⟨bc, 1, none⟩) (Kd.V_far (p := ⟨bc, 0, none⟩) (Kd.V_mono bo.out (fun k_ hk => (⟨hk, hk.2⟩ : _ ∧ k_ ≠ bc))) (fun _ hk => hk.2) (.int .u64 bj)) (fun _ hk => hk.2) (.int .u64 bl)) (fun _ hk => hk.2) (.slice bK ba.length bw)) (fun _ h_ => h_.1))) : p := h
set_option linter.unusedVariables false
set_option linter.unusedSimpArgs false

-- NOT PRINTED: function 6 (postroomlaw11_MarkGoes)

/-! ### postroomlaw11_MarkShort: function 7 -/
mutual
def postroomlaw11_MarkShort.j0 : Nat → List (S75) → Bool → Bool → Option (Bool)
 | 0, _, _, _ => none
 | k + 1, x0, x3, x18 => if x18 = true then (some x3) else ((postroomlaw11_run.f k x0).bind fun bh => ((mark_Put.f k bh.1 bh.2.1 bh.2.2).bind fun bm => (postroomlaw11_MarkShort.l0 k bm.1 bm.2 21 3 0 bh.1 bh.2.1 bh.2.2)))
def postroomlaw11_MarkShort.l0 : Nat → ByteArray → Int → Int → Int → Int → Int → Int → List (S55) → Option (Bool)
 | 0, _, _, _, _, _, _, _, _ => none
 | k + 1, x5, x6, x7, x8, x9, bN, bM, bi => if x9 < (bi.length : Int) then (if 0 ≤ x9 then (postroomlaw11_MarkShort.l0 k x5 x6 (wrap64 ((wrap64 ((wrap64 ((wrap64 (x7 + 1)) + (((rd_T55 bi x9).f0).size : Int))) + 60)) + (wrap64 (10 * (((rd_T55 bi x9).f3).length : Int))))) (wrap64 ((wrap64 ((wrap64 ((wrap64 (x8 + 1)) + (((rd_T55 bi x9).f0).size : Int))) + 6)) + (((rd_T55 bi x9).f3).length : Int))) (wrap64 (x9 + 1)) bN bM bi) else (none)) else (if x6 = 0 then (if (x5.size : Int) ≥ x8 then (some (decide ((x5.size : Int) ≤ x7))) else (some false)) else (some false))
end
def postroomlaw11_MarkShort.f (k : Nat) (l0 : List (S75)) : Option (Bool) := (postroomlaw11_shown.f k).bind fun bk => (if bk = true then (postroomlaw11_MarkShort.j0 k l0 bk (decide ((l0.length : Int) > 100))) else (postroomlaw11_MarkShort.j0 k l0 bk true))
set_option maxHeartbeats 8000000 in
set_option maxRecDepth 100000 in
theorem postroomlaw11_MarkShort.calls (k : Nat) (A0 : Option Addr) (c0 : Nat) (l0 : List (S75)) (r : Bool) (w : World) (hr0 : Kd.C k75 w A0 l0.length l0) (hc0 : l0.length ≤ c0) (h : postroomlaw11_MarkShort.f k l0 = some r) :
  Calls Tryd.prog 7 #[.slice A0 l0.length c0] w fun e w' => e = .returned (.bool r) ∧ Below w.heap.size w w' := by
 have d3 := Tryd.underlying25
 have d2 := Tryd.underlying55
 have HR0 := Aside0.mk hr0
 have HC0 := Aside0.mk hc0
 clear hr0 hc0
 have HB := Aside0.mk (Below.refl w.heap.size w)
 have H : ((postroomlaw11_shown.f k).bind fun bk => (if bk = true then (postroomlaw11_MarkShort.j0 k l0 bk (decide ((l0.length : Int) > 100))) else (postroomlaw11_MarkShort.j0 k l0 bk true))) = some r := h
 clear h
 replace H := Option.bind_eq_some_iff.mp H
 obtain ⟨bk, A20, H⟩ := H
 replace H : (if bk = true then (postroomlaw11_MarkShort.j0 k l0 bk (decide ((l0.length : Int) > 100))) else (postroomlaw11_MarkShort.j0 k l0 bk true)) = some r := H
 have A2 := Aside0.mk A20
 clear A20
 have HC3 := Aside0.mk H
 clear H
 go_enter Tryd.func7, Tryd.ntmps7
 go_upto_region 2 with (first | ((with_reducible refine gate_callee (f := 8) rfl ?_); refine goesL_ (some 11) rfl rfl Tryd.func8 (by kernel_rfl) rfl #[] rfl zx25_4 ?_; (with_reducible refine (postroomlaw11_shown.calls k  bk _ A2.out).mono ?_); rintro e w4 ⟨rfl, hb⟩; refine ⟨_, rfl, ?_⟩; replace HB := Aside0.mk (below_step zx25_0 hb); (try clear hb); (try clear hb2); (try clear hk); (try clear hi)))
 (try simp only [Act.put, List.setIfInBounds_toArray, List.set_cons_zero, List.set_cons_succ])
 go_cut [18] (fun v18 wc => ∃ (kq : Nat) (bB : Bool), v18 = .bool bB ∧ Aside0 (postroomlaw11_MarkShort.j0 kq l0 bk bB = some r) ∧ Aside0 (kq ≤ k) ∧ Aside0 (Below w.heap.size w wc))
 case first =>
  have H := HC3.out
  clear HC3
  by_cases c5 : bk = true
  ·subst c5
   have H1 : (postroomlaw11_MarkShort.j0 k l0 true (decide ((l0.length : Int) > 100))) = some r := by rw [if_pos rfl] at H; exact H
   clear H
   have H := H1
   clear H1
   have H' := Aside0.mk H
   clear H
   go_wp2
   go_meet
   case rel => exact ⟨_, (decide ((l0.length : Int) > 100)), zx25_3, H', ⟨by first | omega | exact Nat.le_refl _⟩, ⟨by repeat (first | (with_reducible first | exact HB.out | apply below_alloc | apply pw_below_drewN | apply below_drew1) | exact HB.out)⟩⟩
  replace c5 := Bool.eq_false_iff.mpr c5
  subst c5
  have H1 : (postroomlaw11_MarkShort.j0 k l0 false true) = some r := by rw [if_neg (show ¬ (false = true) by decide)] at H; exact H
  clear H
  have H := H1
  clear H1
  have H' := Aside0.mk H
  clear H
  go_wp2
  go_meet
  case rel => exact ⟨_, (true), zx25_3, H', ⟨by first | omega | exact Nat.le_refl _⟩, ⟨by repeat (first | (with_reducible first | exact HB.out | apply below_alloc | apply pw_below_drewN | apply below_drew1) | exact HB.out)⟩⟩
 case rest =>
  clear HC3
  (try clear p2); (try clear c5)
  obtain ⟨kq, bB, rfl, HA, HJ2, HB⟩ := hcut
  cases kq with
  | zero => exact absurd HA.out (by simp [postroomlaw11_MarkShort.j0])
  | succ kj2 => ?_
  have H := HA.out
  clear HA
  simp only [postroomlaw11_MarkShort.j0] at H
  by_cases c6 : bB = true
  ·subst c6
   have H1 : (some bk) = some r := by rw [if_pos rfl] at H; exact H
   clear H
   have H := H1
   clear H1
   obtain rfl := Option.some.inj H
   go_wp2
   go_ret
   exact ⟨by first | rfl | (simp [errW_none, errW_some] <;> rfl) | (simp [*, errW_none, errW_some] <;> rfl), by repeat (first | (with_reducible first | exact HB.out | apply below_alloc | apply pw_below_drewN | apply below_drew1) | exact HB.out)⟩
  replace c6 := Bool.eq_false_iff.mpr c6
  subst c6
  have H1 : ((postroomlaw11_run.f kj2 l0).bind fun bh => ((mark_Put.f kj2 bh.1 bh.2.1 bh.2.2).bind fun bm => (postroomlaw11_MarkShort.l0 kj2 bm.1 bm.2 21 3 0 bh.1 bh.2.1 bh.2.2))) = some r := by rw [if_neg (show ¬ (false = true) by decide)] at H; exact H
  clear H
  have H := H1
  clear H1
  replace H := Option.bind_eq_some_iff.mp H
  obtain ⟨⟨bj, bl, ba⟩, A70, H⟩ := H
  replace H : ((mark_Put.f kj2 bj bl ba).bind fun bm => (postroomlaw11_MarkShort.l0 kj2 bm.1 bm.2 21 3 0 bj bl ba)) = some r := H
  have A7 := Aside0.mk A70
  clear A70
  replace H := Option.bind_eq_some_iff.mp H
  obtain ⟨⟨bG, bz⟩, A80, H⟩ := H
  replace H : (postroomlaw11_MarkShort.l0 kj2 bG bz 21 3 0 bj bl ba) = some r := H
  have A8 := Aside0.mk A80
  clear A80
  have H' := Aside0.mk H
  clear H
  go_wp2_with (first | ((with_reducible refine gate_callee (f := 18) rfl ?_); refine goesL_ (some 21) rfl rfl Tryd.func18 (by kernel_rfl) rfl #[.slice A0 l0.length c0] rfl zx25_4 ?_; (with_reducible refine (postroomlaw11_run.calls kj2 _ _ l0 bj bl ba _ ?side1 ?side2 A7.out).mono ?_); (case side1 => repeat (first | exact (Kd.C_below HR0.out HB.out) | (with_reducible refine Kd.C_alloc ?_ _) | (with_reducible refine Kd.C_drewN ?_ _) | (with_reducible refine Kd.C_drew ?_))); (case side2 => exact HC0.out); rintro e w9 ⟨d1, rfl, ho0, hb⟩; refine ⟨_, rfl, ?_⟩; have bo := Aside0.mk (Kd.V_lower (Kd.V_mono (ok' := fun k_ => True) ho0 (fun k_ hk_ => trivial)) (below_size zx25_0)); replace HB := Aside0.mk (below_step zx25_0 hb); (try clear hb); (try clear hb2); (try clear hk); (try clear hi); (try clear ho0)) | ((with_reducible refine gate_dst (N := 4) rfl ?_); (try (refine gate_guard (by rfl) ?_; dsimp only)); refine box_event ?hg (N := 4) ?hd (cs := #[.int .u64 0, .int .u64 0, .slice none 0 0]) (t := 25) ?hr ?_; (case hd => rfl); (case hg => rfl); (case hr => first | (go_simp; done) | (go_simp; rfl)); intro bc hg w10 hbox hb; replace bo := Aside0.mk (Kd.V_below (Kd.V_elderB (by (with_reducible repeat (first | apply Kd.V_alloc | apply Kd.V_drewN | apply Kd.V_drew)); exact bo.out) bc (Nat.le_of_eq hg.symm)) hb); have bd := Aside0.mk (hbox); have d0 := Aside0.mk ((by rw [hg]; exact (below_size zx25_0) : w.heap.size ≤ bc)); have bq := Aside0.mk ((by rw [hg]; exact (below_size zx25_0) : w.heap.size ≤ bc)); replace HB := Aside0.mk (below_step zx25_0 hb); clear hb hbox hg; have bX : w10.cell? ⟨bc, 0, none⟩ = some (.int .u64 0) := (blk_cell bd.out 0).trans rfl; have bW : w10.cell? ⟨bc, 1, none⟩ = some (.int .u64 0) := (blk_cell bd.out 1).trans rfl; have bV : w10.cell? ⟨bc, 2, none⟩ = some (.slice none 0 0) := (blk_cell bd.out 2).trans rfl; have bU := blk_frozen bd.out 0; have bS := blk_frozen bd.out 1; have bR := blk_frozen bd.out 2; obtain ⟨bK, bw, dT⟩ := Kd.V_slice bo.out; subst dT) | ((with_reducible refine gate_callee (f := 11) rfl ?_); refine goesL_ (some 24) rfl rfl Tryd.func11 (by kernel_rfl) rfl #[.agg #[.int .u64 bj, .int .u64 bl, .slice bK ba.length bw]] rfl zx25_4 ?_; (with_reducible refine (mark_Put.calls kj2 bj bl _ _ ba bG bz _ ?side1 ?side2 A8.out).mono ?_); (case side1 => refine (Kd.V_reads' (e := 55) (base := w.heap.size) (ok := fun k_ => (True ∧ k_ ≠ bc)) (n := ba.length) (c := bw) ?_).2.2; exact zx25_2); (case side2 => exact (Kd.V_reads' bo.out).2.1); rintro e w13 ⟨rfl, hb⟩; refine ⟨_, rfl, ?_⟩; replace bo := Aside0.mk (Kd.V_below zx25_2 hb); replace bd := Aside0.mk (blk_below (g := bc) (o := .cells #[.int .u64 bj, .int .u64 bl, .slice bK ba.length bw] 25 (0, 0)) (by (with_reducible repeat (first | refine blk_drewN ?_ _ | refine blk_drew ?_ | refine blk_alloc ?_ _)); refine blk_put (cs := #[.int .u64 bj, .int .u64 bl, .slice none 0 0]) ?_ 2 _ rfl; (with_reducible repeat (first | refine blk_drewN ?_ _ | refine blk_drew ?_ | refine blk_alloc ?_ _)); refine blk_put (cs := #[.int .u64 bj, .int .u64 0, .slice none 0 0]) ?_ 1 _ rfl; (with_reducible repeat (first | refine blk_drewN ?_ _ | refine blk_drew ?_ | refine blk_alloc ?_ _)); refine blk_put (cs := #[.int .u64 0, .int .u64 0, .slice none 0 0]) ?_ 0 _ rfl; (with_reducible repeat (first | refine blk_drewN ?_ _ | refine blk_drew ?_ | refine blk_alloc ?_ _)); exact bd.out) hb); replace HB := Aside0.mk (below_step zx25_1 hb); (try clear hb); (try clear hb2); (try clear hk); (try clear hi)))
  go_loopg [7, 8, 9] kj2 (fun kq v7 v8 v9 w' => ∃ (bL : Int) (bA : Int) (be : Int), v7 = .int .i64 bL ∧ v8 = .int .i64 bA ∧ v9 = .int .i64 be ∧ Aside0 (postroomlaw11_MarkShort.l0 kq bG bz bL bA be bj bl ba = some r) ∧ Aside0 (kq ≤ kj2) ∧ Aside0 (Kd.V k55 55 w' w.heap.size (fun k_ => k_ ≠ bc) (.slice bK ba.length bw) ba) ∧ Aside0 (w'.heap[bc]? = some (.cells #[.int .u64 bj, .int .u64 bl, (.slice bK ba.length bw)] 25 (0, 0))) ∧ Aside0 (Below w.heap.size w w'))
  case atStart => exact ⟨(21), (3), (0), zx25_3, zx25_3, zx25_3, H', ⟨Nat.le_refl _⟩, ⟨by (with_reducible repeat (first | apply Kd.V_alloc | apply Kd.V_drewN | apply Kd.V_drew)); exact Kd.V_mono bo.out (fun _ hk => hk.2)⟩, ⟨by (with_reducible repeat (first | refine blk_drewN ?_ _ | refine blk_drew ?_ | refine blk_alloc ?_ _)); exact bd.out⟩, ⟨by repeat (first | (with_reducible first | exact HB.out | apply below_alloc | apply pw_below_drewN | apply below_drew1 | refine below_set ?_ bq.out) | exact HB.out)⟩⟩
  case round =>
   clear H'
   (try clear c1); (try clear p2); (try clear c5); (try clear c6); (try clear c7); (try clear c8); (try clear c11); (try clear bX); (try clear bW); (try clear bV); (try clear bU); (try clear bS); (try clear bR); (try clear p2)
   obtain ⟨bL, bA, be, rfl, rfl, rfl, HA, HK2, bf, bd, HB⟩ := hrel
   cases gk with
   | zero => exact absurd HA.out (by simp [postroomlaw11_MarkShort.l0])
   | succ k2 => ?_
   have H := HA.out
   clear HA
   simp only [postroomlaw11_MarkShort.l0] at H
   by_cases c14 : be < (ba.length : Int)
   case neg =>
    rw [if_neg c14] at H
    have b5 : decide (be < (ba.length : Int)) = false := decide_eq_false c14
    clear c14
    by_cases c20 : bz = 0
    case neg =>
     rw [if_neg c20] at H
     have b4 : (bz == 0) = false := beq_eq_false_iff_ne.mpr c20
     have b3 : (bz != 0) = true := bne_iff_ne.mpr c20
     obtain rfl := Option.some.inj H
     obtain ⟨dB, dA, dz, dh, dg, df⟩ := cx25_bc3 bd.out
     go_wp2
     go_ret
     exact ⟨by first | rfl | (simp [errW_none, errW_some] <;> rfl) | (simp [*, errW_none, errW_some] <;> rfl), by repeat (first | (with_reducible first | exact HB.out | apply below_alloc | apply pw_below_drewN | apply below_drew1 | refine below_set ?_ bq.out) | exact HB.out)⟩

    rw [if_pos c20] at H
    have b4 : (bz == 0) = true := beq_iff_eq.mpr c20
    have b3 : (bz != 0) = false := bne_eq_false_iff_eq.mpr c20
    clear c20
    by_cases c21 : (bG.size : Int) ≥ bA
    ·rw [if_pos c21] at H
     have b2 : decide (bA ≤ (bG.size : Int)) = true := decide_eq_true c21
     clear c21
     obtain rfl := Option.some.inj H
     obtain ⟨dH, dG, dF, dn, dm, dl⟩ := cx25_bc3 bd.out
     go_wp2
     go_ret
     exact ⟨by first | rfl | (simp [errW_none, errW_some] <;> rfl) | (simp [*, errW_none, errW_some] <;> rfl), by repeat (first | (with_reducible first | exact HB.out | apply below_alloc | apply pw_below_drewN | apply below_drew1 | refine below_set ?_ bq.out) | exact HB.out)⟩
    rw [if_neg c21] at H
    have b2 : decide (bA ≤ (bG.size : Int)) = false := decide_eq_false c21
    clear c21
    obtain rfl := Option.some.inj H
    obtain ⟨dE, dD, dC, dk, dj, di⟩ := cx25_bc3 bd.out
    go_wp2
    go_ret
    exact ⟨by first | rfl | (simp [errW_none, errW_some] <;> rfl) | (simp [*, errW_none, errW_some] <;> rfl), by repeat (first | (with_reducible first | exact HB.out | apply below_alloc | apply pw_below_drewN | apply below_drew1 | refine below_set ?_ bq.out) | exact HB.out)⟩
   rw [if_pos c14] at H
   have b5 : decide (be < (ba.length : Int)) = true := decide_eq_true c14
   clear c14
   by_cases c15 : 0 ≤ be
   case neg =>
    rw [if_neg c15] at H
    exact absurd H (by simp)
   rw [if_pos c15] at H
   have dY : decide (0 ≤ be) = true := decide_eq_true c15
   clear c15
   have H' := Aside0.mk H
   clear H
   obtain ⟨dR, dQ, dP, dy, dx, dw⟩ := cx25_bc3 bd.out
   have bP : 0 ≤ (be : Int) := of_decide_eq_true (by first | (with_reducible assumption) | assumption)
   have bO : be < (ba.length : Int) := of_decide_eq_true (by first | (with_reducible assumption) | assumption)
   obtain ⟨bJ, b1, b0, dU, de, dd, dc, bQ, db, da, b9, bC, bD⟩ := at_T55 (Kd.V_reads' bf.out).2.2 be bP bO
   cases dU
   obtain ⟨dX, bY, bZ, bI⟩ := Kd.V_get bf.out z55 be bP (by first | exact bO | exact of_decide_eq_true (by first | (with_reducible assumption) | assumption) | (have e_ := (Kd.V_reads' bf.out).1; omega))
   obtain ⟨b8, b7, rfl, br, bu⟩ := k55_openF bZ
   have bn := bI 3 _ rfl
   rw [add_field _ _ 3 (by omega)] at bn
   replace bn := Option.some.inj (bn.symm.trans bQ)
   injection bn with hva_ hvn_ hvc_
   rw [hva_] at bu
   rw [hvc_] at br
   have bE := Aside0.mk (show Kd.V (Kd.int .u64) 22 _ w.heap.size _ _ ((rd_T55 ba be).f3) from Kd.V_mk br bu)
   clear hva_ hvn_ hvc_ bu br
   clear bI bY
   have bx := Aside0.mk bD
   have dS := Aside0.mk bC
   clear bD bC
   replace bP := eq_true bP
   replace bO := eq_true bO
   go_wp2_with (first | ((with_reducible refine gate_dst (N := 10) rfl ?_); (try (refine gate_guard (by rfl) ?_; dsimp only)); refine box_event ?hg (N := 10) ?hd (cs := #[.string (⟨#[]⟩ : ByteArray), .int .u64 0, .int .u64 0, .slice none 0 0, .int .u64 0, .int .u64 0, .int .u64 0]) (t := 55) ?hr ?_; (case hd => rfl); (case hg => rfl); (case hr => first | (go_simp; done) | (go_simp; rfl)); intro bb hg w17 hbox hb; replace bf := Aside0.mk (Kd.V_below (Kd.V_elderB (by (with_reducible repeat (first | apply Kd.V_alloc | apply Kd.V_drewN | apply Kd.V_drew)); exact bf.out) bb (Nat.le_of_eq hg.symm)) hb); replace bE := Aside0.mk (Kd.V_below (Kd.V_elderB (by (with_reducible repeat (first | apply Kd.V_alloc | apply Kd.V_drewN | apply Kd.V_drew)); exact bE.out) bb (Nat.le_of_eq hg.symm)) hb); replace bx := Aside0.mk (Kd.C_below (by repeat (first | (with_reducible exact bx.out) | (with_reducible refine Kd.C_alloc ?_ _) | (with_reducible refine Kd.C_drewN ?_ _) | (with_reducible refine Kd.C_drew ?_) | exact bx.out)) hb); have bg := Aside0.mk (hbox); have dZ := Aside0.mk ((by rw [hg]; exact (below_size zx25_1) : w.heap.size ≤ bb)); have b6 := Aside0.mk ((by rw [hg]; exact (below_size zx25_1) : w.heap.size ≤ bb)); replace HB := Aside0.mk (below_step zx25_1 hb); have bp := Aside0.mk ((by rw [hg]; exact Nat.ne_of_lt (blk_lt (g := bc) (o := .cells #[.int .u64 bj, .int .u64 bl, .slice (some bJ) ba.length bw] 25 (0, 0)) zx25_5) : bc ≠ bb)); have bH := Aside0.mk ((by rw [hg]; exact Nat.ne_of_gt (blk_lt (g := bc) (o := .cells #[.int .u64 bj, .int .u64 bl, .slice (some bJ) ba.length bw] 25 (0, 0)) zx25_5) : bb ≠ bc)); replace bd := Aside0.mk (blk_below (g := bc) (o := .cells #[.int .u64 bj, .int .u64 bl, .slice (some bJ) ba.length bw] 25 (0, 0)) zx25_5 hb); clear hb hbox hg; have dW := bH.out; have dV := bp.out; have dO : w17.cell? ⟨bb, 0, none⟩ = some (.string (⟨#[]⟩ : ByteArray)) := (blk_cell bg.out 0).trans rfl; have dN : w17.cell? ⟨bb, 1, none⟩ = some (.int .u64 0) := (blk_cell bg.out 1).trans rfl; have dM : w17.cell? ⟨bb, 2, none⟩ = some (.int .u64 0) := (blk_cell bg.out 2).trans rfl; have dL : w17.cell? ⟨bb, 3, none⟩ = some (.slice none 0 0) := (blk_cell bg.out 3).trans rfl; have dK : w17.cell? ⟨bb, 4, none⟩ = some (.int .u64 0) := (blk_cell bg.out 4).trans rfl; have dJ : w17.cell? ⟨bb, 5, none⟩ = some (.int .u64 0) := (blk_cell bg.out 5).trans rfl; have dI : w17.cell? ⟨bb, 6, none⟩ = some (.int .u64 0) := (blk_cell bg.out 6).trans rfl; have dv := blk_frozen bg.out 0; have du := blk_frozen bg.out 1; have dt := blk_frozen bg.out 2; have ds := blk_frozen bg.out 3; have dr := blk_frozen bg.out 4; have dq := blk_frozen bg.out 5; have dp := blk_frozen bg.out 6))
   go_roundg k2
   case measure => have := HJ2.out; have := HK2.out; omega
   case rel => exact ⟨(wrap64 ((wrap64 ((wrap64 ((wrap64 (bL + 1)) + (((rd_T55 ba be).f0).size : Int))) + 60)) + (wrap64 (10 * (((rd_T55 ba be).f3).length : Int))))), (wrap64 ((wrap64 ((wrap64 ((wrap64 (bA + 1)) + (((rd_T55 ba be).f0).size : Int))) + 6)) + (((rd_T55 ba be).f3).length : Int))), (wrap64 (be + 1)), zx25_3, zx25_3, zx25_3, H', ⟨by have := HJ2.out; have := HK2.out; omega⟩, ⟨by (with_reducible repeat (first | apply Kd.V_alloc | apply Kd.V_drewN | apply Kd.V_drew)); exact Kd.V_mono (Kd.V_far (p := ⟨bb, 6, none⟩) (Kd.V_far (p := ⟨bb, 5, none⟩) (Kd.V_far (p := ⟨bb, 4, none⟩) (Kd.V_far (p := ⟨bb, 3, none⟩) (Kd.V_far (p := ⟨bb, 2, none⟩) (Kd.V_far (p := ⟨bb, 1, none⟩) (Kd.V_far (p := ⟨bb, 0, none⟩) (Kd.V_mono bf.out (fun k_ hk => (⟨hk, hk.2⟩ : _ ∧ k_ ≠ bb))) (fun _ hk => hk.2) (.string ((rd_T55 ba be).f0))) (fun _ hk => hk.2) (.int .u64 ((rd_T55 ba be).f1))) (fun _ hk => hk.2) (.int .u64 ((rd_T55 ba be).f2))) (fun _ hk => hk.2) (.slice b1 ((rd_T55 ba be).f3).length b0)) (fun _ hk => hk.2) (.int .u64 ((rd_T55 ba be).f4))) (fun _ hk => hk.2) (.int .u64 ((rd_T55 ba be).f5))) (fun _ hk => hk.2) (.int .u64 ((rd_T55 ba be).f6))) (fun _ hk => hk.1.1)⟩, ⟨by (iterate 7 ((with_reducible repeat (first | refine blk_drewN ?_ _ | refine blk_drew ?_ | refine blk_alloc ?_ _)); refine blk_far ?_ bp.out _)); (with_reducible repeat (first | refine blk_drewN ?_ _ | refine blk_drew ?_ | refine blk_alloc ?_ _)); exact bd.out⟩, ⟨by repeat (first | (with_reducible first | exact HB.out | apply below_alloc | apply pw_below_drewN | apply below_drew1 | refine below_set ?_ bq.out | refine below_set ?_ b6.out) | exact HB.out)⟩⟩
/-- THE ONE PURE STATEMENT of postroomlaw11_MarkShort. -/
def postroomlaw11_MarkShort.Pure : Prop := ∀ (l0 : List (S75)), l0.length ≤ maxLen → l0.length * 24 ≤ 140737488351232 → (∀ x ∈ l0, ((Lit.int .i64 x.f0).wf = true ∧ (Lit.int .i64 x.f1).wf = true ∧ (Lit.int .i64 x.f2).wf = true)) → ∃ k, postroomlaw11_MarkShort.f k l0 = some true
theorem postroomlaw11_MarkShort.walk (P : postroomlaw11_MarkShort.Pure) (A0 : Option Addr) (c0 : Nat) (l0 : List (S75)) (w : World) (hr0 : Kd.C k75 w A0 l0.length l0) (hc0 : l0.length ≤ c0) (hm0 : l0.length ≤ maxLen) (hy0 : l0.length * 24 ≤ 140737488351232) (hw0 : (∀ x ∈ l0, ((Lit.int .i64 x.f0).wf = true ∧ (Lit.int .i64 x.f1).wf = true ∧ (Lit.int .i64 x.f2).wf = true))) :
  Calls Tryd.prog 7 #[.slice A0 l0.length c0] w fun e w' => e = .returned (.bool true) ∧ Below w.heap.size w w' := by
 obtain ⟨k, h⟩ := P l0 hm0 hy0 hw0
 refine (postroomlaw11_MarkShort.calls k A0 c0 l0 true w hr0 hc0 h).mono ?_
 rintro e w' ⟨rfl, hd⟩
 exact ⟨rfl, hd⟩

end Go.Proofs.YtmbigoeldobaiaaDoor.XMrk
