/- Texts of this seat, in one. Conditions: those that each theorem names. -/
import Derived.Test.YthhmpjapnkilcaaDoorXLdgP1
import Derived.Test.YthhmpjapnkilcaaDoorGCloneU
import Derived.Test.YthhmpjapnkilcaaDoorGPlace
import Derived.Test.YthhmpjapnkilcaaDoorGLabelName
import Derived.Test.YthhmpjapnkilcaaDoorXLdgP3
import Derived.Test.YthhmpjapnkilcaaDoorXLdgP4
section
/- What the functions of the translation answer, each as a plain Lean function, and that the code comes to it; for a law: its row. Conditions: none but those that each theorem names. Written by a program of this session (wip/xp). -/
namespace Go.Proofs.YthhmpjapnkilcaaDoor.XLdg
open Go.RowKit Go.Proofs.YthhmpjapnkilcaaDoorW.PrintWords Go.Proofs.YthhmpjapnkilcaaDoorW.PrintLast Go.Proofs.YthhmpjapnkilcaaDoorW.PrintMore
attribute [local go_sem] max2_int min2_int max_two min_two max_three min_three max_four min_four   -- for this text's walks alone
theorem zx5_0 {p : Prop} (h : p := by (with_reducible repeat (first | refine blk_drewN ?_ _ | refine blk_drew ?_ | refine blk_alloc ?_ _)); exact bg.out) : p := h
theorem zx5_5 {p : Prop} (h : p := by (with_reducible repeat (first | refine blk_drewN ?_ _ | refine blk_drew ?_ | refine blk_alloc ?_ _)); exact bd.out) : p := h
theorem zx5_4 {p : Prop} (h : p := by repeat (first | (with_reducible first | exact HB.out | apply below_alloc | apply pw_below_drewN | apply below_drew1) | exact HB.out)) : p := h
theorem zx5_3 {p : Prop} (h : p := by (try simp only [List.map_toArray, List.map_cons, List.map_nil]); first | done | rfl | (simp only [List.length_drop, List.length_take]; rfl)) : p := h
theorem zx5_1 {p : Prop} (h : p := by repeat (first | (with_reducible first | exact HB.out | apply below_alloc | apply pw_below_drewN | apply below_drew1 | refine below_set ?_ bx.out) | exact HB.out)) : p := h
theorem zx5_2 {p : Prop} (h : p := by repeat (first | (with_reducible first | exact HB.out | apply below_alloc | apply pw_below_drewN | apply below_drew1 | refine below_set ?_ bx.out | refine below_set ?_ bH.out) | exact HB.out)) : p := h
theorem zx5_6 {p : Prop} (h : p := by repeat (first | (with_reducible first | exact HB.out | apply below_alloc | apply pw_below_drewN | apply below_drew1 | refine below_set ?_ bx.out | refine below_set ?_ bH.out | refine below_set ?_ bY.out) | exact HB.out)) : p := h
set_option linter.unusedVariables false
set_option linter.unusedSimpArgs false

/-! ### ledger_Find: function 17 -/
def ledger_Find.f (bk : Int) (bj : Int) (ba : List (S37)) (a1 : ByteArray) : Option (ByteArray × Int × Int × List Int × Int × Int × Int × Bool) := (ledger_place.f ba a1).bind fun bb => (if bb < 0 then (some ((⟨#[]⟩ : ByteArray), 0, 0, ([] : List Int), 0, 0, 0, false)) else (if 0 ≤ bb then (if bb < (ba.length : Int) then ((slices_Clone_uint64_uint64.f ((rd_T37 ba bb).f3)).bind fun bm => (some ((rd_T37 ba bb).f0, (rd_T37 ba bb).f1, (rd_T37 ba bb).f2, bm, (rd_T37 ba bb).f4, (rd_T37 ba bb).f5, (rd_T37 ba bb).f6, true))) else (none)) else (none)))
set_option maxHeartbeats 8000000 in
set_option maxRecDepth 100000 in
theorem ledger_Find.calls (bk : Int) (bj : Int) (bl : Option Addr) (bi : Nat) (ba : List (S37)) (a1 : ByteArray) (r1 : ByteArray) (r2 : Int) (r3 : Int) (r4 : List Int) (r5 : Int) (r6 : Int) (r7 : Int) (r8 : Bool) (w : World) (bU : Kd.C k37 w bl ba.length ba) (bV : ba.length ≤ bi) (h : ledger_Find.f bk bj ba a1 = some (r1, r2, r3, r4, r5, r6, r7, r8)) :
  Calls Tryd.prog 17 #[.agg #[.int .u64 bk, .int .u64 bj, .slice bl ba.length bi], .string a1] w fun e w' => ∃ v3_ : Value, e = .returned (.tuple #[.agg #[.string r1, .int .u64 r2, .int .u64 r3, v3_, .int .u64 r5, .int .u64 r6, .int .u64 r7], .bool r8]) ∧ Kd.R (Kd.int .u64) 24 w' w.heap.size (fun _ => True) v3_ r4 ∧ Below w.heap.size w w' := by
 have gw := Tryd.underlying27
 have gv := Tryd.underlying37
 have bQ := Aside0.mk bU
 have bX := Aside0.mk bV
 clear bU bV
 have HB := Aside0.mk (Below.refl w.heap.size w)
 have H : ((ledger_place.f ba a1).bind fun bb => (if bb < 0 then (some ((⟨#[]⟩ : ByteArray), 0, 0, ([] : List Int), 0, 0, 0, false)) else (if 0 ≤ bb then (if bb < (ba.length : Int) then ((slices_Clone_uint64_uint64.f ((rd_T37 ba bb).f3)).bind fun bm => (some ((rd_T37 ba bb).f0, (rd_T37 ba bb).f1, (rd_T37 ba bb).f2, bm, (rd_T37 ba bb).f4, (rd_T37 ba bb).f5, (rd_T37 ba bb).f6, true))) else (none)) else (none)))) = some (r1, r2, r3, r4, r5, r6, r7, r8) := h
 clear h
 replace H := Option.bind_eq_some_iff.mp H
 obtain ⟨bb, A30, H⟩ := H
 replace H : (if bb < 0 then (some ((⟨#[]⟩ : ByteArray), 0, 0, ([] : List Int), 0, 0, 0, false)) else (if 0 ≤ bb then (if bb < (ba.length : Int) then ((slices_Clone_uint64_uint64.f ((rd_T37 ba bb).f3)).bind fun bm => (some ((rd_T37 ba bb).f0, (rd_T37 ba bb).f1, (rd_T37 ba bb).f2, bm, (rd_T37 ba bb).f4, (rd_T37 ba bb).f5, (rd_T37 ba bb).f6, true))) else (none)) else (none))) = some (r1, r2, r3, r4, r5, r6, r7, r8) := H
 have A3 := Aside0.mk A30
 clear A30
 by_cases c4 : bb < 0
 ·rw [if_pos c4] at H
  have gk : decide (bb < 0) = true := decide_eq_true c4
  clear c4
  simp only [Option.some.injEq, Prod.mk.injEq] at H
  obtain ⟨rfl, rfl, rfl, rfl, rfl, rfl, rfl, rfl⟩ := H
  go_enter Tryd.func17, Tryd.ntmps17
  go_wp2_with (first | ((with_reducible refine gate_dst (N := 2) rfl ?_); refine box_event ?hg (N := 2) ?hd (cs := #[.int .u64 bk, .int .u64 bj, .slice bl ba.length bi]) (t := 27) ?hr ?_; (case hd => rfl); (case hg => rfl); (case hr => first | (go_simp; done) | (go_simp; rfl)); intro be hg w5 hbox hb; have bg := Aside0.mk (hbox); have b2 := Aside0.mk ((by rw [hg]; exact (below_size zx5_4) : w.heap.size ≤ be)); have bx := Aside0.mk ((by rw [hg]; exact (below_size zx5_4) : w.heap.size ≤ be)); replace HB := Aside0.mk (below_step zx5_4 hb); clear hb hbox hg) | ((with_reducible refine gate_dst (N := 4) rfl ?_); refine box_event ?hg (N := 4) ?hd (cs := #[.string (⟨#[]⟩ : ByteArray), .int .u64 0, .int .u64 0, .slice none 0 0, .int .u64 0, .int .u64 0, .int .u64 0]) (t := 37) ?hr ?_; (case hd => rfl); (case hg => rfl); (case hr => first | (go_simp; done) | (go_simp; rfl)); intro bc hg w6 hbox hb; have bd := Aside0.mk (hbox); have b1 := Aside0.mk ((by rw [hg]; exact (below_size zx5_1) : w.heap.size ≤ bc)); have bH := Aside0.mk ((by rw [hg]; exact (below_size zx5_1) : w.heap.size ≤ bc)); replace HB := Aside0.mk (below_step zx5_1 hb); have bq := Aside0.mk ((by rw [hg]; exact Nat.ne_of_lt (blk_lt (g := be) (o := .cells #[.int .u64 bk, .int .u64 bj, .slice bl ba.length bi] 27 (0, 0)) zx5_0) : be ≠ bc)); have bp := Aside0.mk ((by rw [hg]; exact Nat.ne_of_gt (blk_lt (g := be) (o := .cells #[.int .u64 bk, .int .u64 bj, .slice bl ba.length bi] 27 (0, 0)) zx5_0) : bc ≠ be)); replace bg := Aside0.mk (blk_below (g := be) (o := .cells #[.int .u64 bk, .int .u64 bj, .slice bl ba.length bi] 27 (0, 0)) zx5_0 hb); clear hb hbox hg; have gy := bq.out; have gx := bp.out; have gh : w6.cell? ⟨be, 0, none⟩ = some (.int .u64 bk) := (blk_cell bg.out 0).trans rfl; have gg : w6.cell? ⟨be, 1, none⟩ = some (.int .u64 bj) := (blk_cell bg.out 1).trans rfl; have gf : w6.cell? ⟨be, 2, none⟩ = some (.slice bl ba.length bi) := (blk_cell bg.out 2).trans rfl; have ge := blk_frozen bg.out 0; have gc := blk_frozen bg.out 1; have gb := blk_frozen bg.out 2) | ((with_reducible refine gate_callee (f := 31) rfl ?_); refine goesL_ (some 11) rfl rfl Tryd.func31 (by kernel_rfl) rfl #[.slice bl ba.length bi, .string a1] rfl zx5_3 ?_; (with_reducible refine (ledger_place.calls _ _ ba a1 bb _ ?side1 ?side2 A3.out).mono ?_); (case side1 => repeat (first | exact (Kd.C_below bQ.out HB.out) | (with_reducible refine Kd.C_alloc ?_ _) | (with_reducible refine Kd.C_drewN ?_ _) | (with_reducible refine Kd.C_drew ?_))); (case side2 => exact bX.out); rintro e w9 ⟨rfl, hb⟩; refine ⟨_, rfl, ?_⟩; replace bg := Aside0.mk (blk_below (g := be) (o := .cells #[.int .u64 bk, .int .u64 bj, .slice bl ba.length bi] 27 (0, 0)) zx5_0 hb); replace bd := Aside0.mk (blk_below (g := bc) (o := .cells #[.string (⟨#[]⟩ : ByteArray), .int .u64 0, .int .u64 0, .slice none 0 0, .int .u64 0, .int .u64 0, .int .u64 0] 37 (0, 0)) zx5_5 hb); replace HB := Aside0.mk (below_step zx5_2 hb); (try clear hb); (try clear hb2); (try clear hk); (try clear hi); have ga : w9.cell? ⟨bc, 0, none⟩ = some (.string (⟨#[]⟩ : ByteArray)) := (blk_cell bd.out 0).trans rfl; have d9 : w9.cell? ⟨bc, 1, none⟩ = some (.int .u64 0) := (blk_cell bd.out 1).trans rfl; have d8 : w9.cell? ⟨bc, 2, none⟩ = some (.int .u64 0) := (blk_cell bd.out 2).trans rfl; have d7 : w9.cell? ⟨bc, 3, none⟩ = some (.slice none 0 0) := (blk_cell bd.out 3).trans rfl; have d6 : w9.cell? ⟨bc, 4, none⟩ = some (.int .u64 0) := (blk_cell bd.out 4).trans rfl; have d5 : w9.cell? ⟨bc, 5, none⟩ = some (.int .u64 0) := (blk_cell bd.out 5).trans rfl; have d4 : w9.cell? ⟨bc, 6, none⟩ = some (.int .u64 0) := (blk_cell bd.out 6).trans rfl; have dC := blk_frozen bd.out 0; have dB := blk_frozen bd.out 1; have dA := blk_frozen bd.out 2; have dz := blk_frozen bd.out 3; have dy := blk_frozen bd.out 4; have dx := blk_frozen bd.out 5; have dw := blk_frozen bd.out 6))
  refine bodyPost_ret (results_ct rfl _ _ bc 37 #[.string (⟨#[]⟩ : ByteArray), .int .u64 0, .int .u64 0, .slice none 0 0, .int .u64 0, .int .u64 0, .int .u64 0] (0, 0) _ rfl (by (with_reducible repeat (first | refine blk_drewN ?_ _ | refine blk_drew ?_ | refine blk_alloc ?_ _)); refine blk_put (cs := #[.string (⟨#[]⟩ : ByteArray), .int .u64 0, .int .u64 0, .slice none 0 0, .int .u64 0, .int .u64 0, .int .u64 0]) ?_ 6 _ rfl; (with_reducible repeat (first | refine blk_drewN ?_ _ | refine blk_drew ?_ | refine blk_alloc ?_ _)); refine blk_put (cs := #[.string (⟨#[]⟩ : ByteArray), .int .u64 0, .int .u64 0, .slice none 0 0, .int .u64 0, .int .u64 0, .int .u64 0]) ?_ 5 _ rfl; (with_reducible repeat (first | refine blk_drewN ?_ _ | refine blk_drew ?_ | refine blk_alloc ?_ _)); refine blk_put (cs := #[.string (⟨#[]⟩ : ByteArray), .int .u64 0, .int .u64 0, .slice none 0 0, .int .u64 0, .int .u64 0, .int .u64 0]) ?_ 4 _ rfl; (with_reducible repeat (first | refine blk_drewN ?_ _ | refine blk_drew ?_ | refine blk_alloc ?_ _)); refine blk_put (cs := #[.string (⟨#[]⟩ : ByteArray), .int .u64 0, .int .u64 0, .slice none 0 0, .int .u64 0, .int .u64 0, .int .u64 0]) ?_ 3 _ rfl; (with_reducible repeat (first | refine blk_drewN ?_ _ | refine blk_drew ?_ | refine blk_alloc ?_ _)); refine blk_put (cs := #[.string (⟨#[]⟩ : ByteArray), .int .u64 0, .int .u64 0, .slice none 0 0, .int .u64 0, .int .u64 0, .int .u64 0]) ?_ 2 _ rfl; (with_reducible repeat (first | refine blk_drewN ?_ _ | refine blk_drew ?_ | refine blk_alloc ?_ _)); refine blk_put (cs := #[.string (⟨#[]⟩ : ByteArray), .int .u64 0, .int .u64 0, .slice none 0 0, .int .u64 0, .int .u64 0, .int .u64 0]) ?_ 1 _ rfl; (with_reducible repeat (first | refine blk_drewN ?_ _ | refine blk_drew ?_ | refine blk_alloc ?_ _)); refine blk_put (cs := #[.string (⟨#[]⟩ : ByteArray), .int .u64 0, .int .u64 0, .slice none 0 0, .int .u64 0, .int .u64 0, .int .u64 0]) ?_ 0 _ rfl; (with_reducible repeat (first | refine blk_drewN ?_ _ | refine blk_drew ?_ | refine blk_alloc ?_ _)); exact bd.out) Tryd.underlying37 rfl (by kernel_rfl)) rfl ?_
  exact ⟨_, by first | rfl | (simp [errW_none, errW_some] <;> rfl) | (simp [*, errW_none, errW_some] <;> rfl), by first | exact Kd.R_nil _ _ _ _ _ | exact Kd.N_nil _ _ _ _ _ | exact Kd.V_nil _ _ _ _ _ | exact Kd.Q_nil _ _ _ _ _ | exact Kd.S_nil _ _ _ _ _, by repeat (first | (with_reducible first | exact HB.out | apply below_alloc | apply pw_below_drewN | apply below_drew1 | refine below_set ?_ bx.out | refine below_set ?_ bH.out) | exact HB.out)⟩
 rw [if_neg c4] at H
 have gk : decide (bb < 0) = false := decide_eq_false c4
 clear c4
 by_cases c11 : 0 ≤ bb
 case neg =>
  rw [if_neg c11] at H
  exact absurd H (by simp)

 rw [if_pos c11] at H
 have gs : decide (0 ≤ bb) = true := decide_eq_true c11
 clear c11
 by_cases c12 : bb < (ba.length : Int)
 case neg =>
  rw [if_neg c12] at H
  exact absurd H (by simp)
 rw [if_pos c12] at H
 have gr : decide (bb < (ba.length : Int)) = true := decide_eq_true c12
 clear c12
 replace H := Option.bind_eq_some_iff.mp H
 obtain ⟨bm, b3, H⟩ := H
 replace H : (some ((rd_T37 ba bb).f0, (rd_T37 ba bb).f1, (rd_T37 ba bb).f2, bm, (rd_T37 ba bb).f4, (rd_T37 ba bb).f5, (rd_T37 ba bb).f6, true)) = some (r1, r2, r3, r4, r5, r6, r7, r8) := H
 have A13 := Aside0.mk b3
 clear b3
 simp only [Option.some.injEq, Prod.mk.injEq] at H
 obtain ⟨rfl, rfl, rfl, rfl, rfl, rfl, rfl, rfl⟩ := H
 go_enter Tryd.func17, Tryd.ntmps17
 go_wp2_with (first | ((with_reducible refine gate_dst (N := 2) rfl ?_); refine box_event ?hg (N := 2) ?hd (cs := #[.int .u64 bk, .int .u64 bj, .slice bl ba.length bi]) (t := 27) ?hr ?_; (case hd => rfl); (case hg => rfl); (case hr => first | (go_simp; done) | (go_simp; rfl)); intro be hg w14 hbox hb; have bg := Aside0.mk (hbox); have b2 := Aside0.mk ((by rw [hg]; exact (below_size zx5_4) : w.heap.size ≤ be)); have bx := Aside0.mk ((by rw [hg]; exact (below_size zx5_4) : w.heap.size ≤ be)); replace HB := Aside0.mk (below_step zx5_4 hb); clear hb hbox hg) | ((with_reducible refine gate_dst (N := 4) rfl ?_); refine box_event ?hg (N := 4) ?hd (cs := #[.string (⟨#[]⟩ : ByteArray), .int .u64 0, .int .u64 0, .slice none 0 0, .int .u64 0, .int .u64 0, .int .u64 0]) (t := 37) ?hr ?_; (case hd => rfl); (case hg => rfl); (case hr => first | (go_simp; done) | (go_simp; rfl)); intro bc hg w15 hbox hb; have bd := Aside0.mk (hbox); have b1 := Aside0.mk ((by rw [hg]; exact (below_size zx5_1) : w.heap.size ≤ bc)); have bH := Aside0.mk ((by rw [hg]; exact (below_size zx5_1) : w.heap.size ≤ bc)); replace HB := Aside0.mk (below_step zx5_1 hb); have bq := Aside0.mk ((by rw [hg]; exact Nat.ne_of_lt (blk_lt (g := be) (o := .cells #[.int .u64 bk, .int .u64 bj, .slice bl ba.length bi] 27 (0, 0)) zx5_0) : be ≠ bc)); have bp := Aside0.mk ((by rw [hg]; exact Nat.ne_of_gt (blk_lt (g := be) (o := .cells #[.int .u64 bk, .int .u64 bj, .slice bl ba.length bi] 27 (0, 0)) zx5_0) : bc ≠ be)); replace bg := Aside0.mk (blk_below (g := be) (o := .cells #[.int .u64 bk, .int .u64 bj, .slice bl ba.length bi] 27 (0, 0)) zx5_0 hb); clear hb hbox hg; have gq := bq.out; have gn := bp.out; have d3 : w15.cell? ⟨be, 0, none⟩ = some (.int .u64 bk) := (blk_cell bg.out 0).trans rfl; have d2 : w15.cell? ⟨be, 1, none⟩ = some (.int .u64 bj) := (blk_cell bg.out 1).trans rfl; have d1 : w15.cell? ⟨be, 2, none⟩ = some (.slice bl ba.length bi) := (blk_cell bg.out 2).trans rfl; have dv := blk_frozen bg.out 0; have du := blk_frozen bg.out 1; have dt := blk_frozen bg.out 2) | ((with_reducible refine gate_callee (f := 31) rfl ?_); refine goesL_ (some 11) rfl rfl Tryd.func31 (by kernel_rfl) rfl #[.slice bl ba.length bi, .string a1] rfl zx5_3 ?_; (with_reducible refine (ledger_place.calls _ _ ba a1 bb _ ?side1 ?side2 A3.out).mono ?_); (case side1 => repeat (first | exact (Kd.C_below bQ.out HB.out) | (with_reducible refine Kd.C_alloc ?_ _) | (with_reducible refine Kd.C_drewN ?_ _) | (with_reducible refine Kd.C_drew ?_))); (case side2 => exact bX.out); rintro e w18 ⟨rfl, hb⟩; refine ⟨_, rfl, ?_⟩; replace bg := Aside0.mk (blk_below (g := be) (o := .cells #[.int .u64 bk, .int .u64 bj, .slice bl ba.length bi] 27 (0, 0)) zx5_0 hb); replace bd := Aside0.mk (blk_below (g := bc) (o := .cells #[.string (⟨#[]⟩ : ByteArray), .int .u64 0, .int .u64 0, .slice none 0 0, .int .u64 0, .int .u64 0, .int .u64 0] 37 (0, 0)) zx5_5 hb); replace HB := Aside0.mk (below_step zx5_2 hb); (try clear hb); (try clear hb2); (try clear hk); (try clear hi); have d0 : w18.cell? ⟨be, 0, none⟩ = some (.int .u64 bk) := (blk_cell bg.out 0).trans rfl; have dZ : w18.cell? ⟨be, 1, none⟩ = some (.int .u64 bj) := (blk_cell bg.out 1).trans rfl; have dY : w18.cell? ⟨be, 2, none⟩ = some (.slice bl ba.length bi) := (blk_cell bg.out 2).trans rfl; have ds := blk_frozen bg.out 0; have dr := blk_frozen bg.out 1; have dq := blk_frozen bg.out 2; have b0 : 0 ≤ (bb : Int) := of_decide_eq_true (by first | (with_reducible assumption) | assumption); have bZ : bb < (ba.length : Int) := of_decide_eq_true (by first | (with_reducible assumption) | assumption); obtain ⟨bK, br, bn, gj, bG, bE, bD, bC, bB, bA, bz, bI, bJ⟩ := at_T37 bQ.out bb b0 bZ; cases gj; replace bG := (HB.out.cell (World.block_lt_of_cell? w _ bG)).trans bG; replace bE := (HB.out.cell (World.block_lt_of_cell? w _ bE)).trans bE; replace bD := (HB.out.cell (World.block_lt_of_cell? w _ bD)).trans bD; replace bC := (HB.out.cell (World.block_lt_of_cell? w _ bC)).trans bC; replace bB := (HB.out.cell (World.block_lt_of_cell? w _ bB)).trans bB; replace bA := (HB.out.cell (World.block_lt_of_cell? w _ bA)).trans bA; replace bz := (HB.out.cell (World.block_lt_of_cell? w _ bz)).trans bz; have bR := Aside0.mk bJ; have bS := Aside0.mk bI; clear bJ bI; replace b0 := eq_true b0; replace bZ := eq_true bZ) | ((with_reducible refine gate_dst (N := 7) rfl ?_); refine box_event ?hg (N := 7) ?hd (cs := #[.string (⟨#[]⟩ : ByteArray), .int .u64 0, .int .u64 0, .slice none 0 0, .int .u64 0, .int .u64 0, .int .u64 0]) (t := 37) ?hr ?_; (case hd => rfl); (case hg => rfl); (case hr => first | (go_simp; done) | (go_simp; rfl)); intro bh hg w20 hbox hb; have bf := Aside0.mk (hbox); have gt := Aside0.mk ((by rw [hg]; exact (below_size zx5_2) : w.heap.size ≤ bh)); have bY := Aside0.mk ((by rw [hg]; exact (below_size zx5_2) : w.heap.size ≤ bh)); replace HB := Aside0.mk (below_step zx5_2 hb); have bw := Aside0.mk ((by rw [hg]; exact Nat.ne_of_lt (blk_lt (g := be) (o := .cells #[.int .u64 bk, .int .u64 bj, .slice (some bK) ba.length bi] 27 (0, 0)) zx5_0) : be ≠ bh)); have bO := Aside0.mk ((by rw [hg]; exact Nat.ne_of_gt (blk_lt (g := be) (o := .cells #[.int .u64 bk, .int .u64 bj, .slice (some bK) ba.length bi] 27 (0, 0)) zx5_0) : bh ≠ be)); replace bg := Aside0.mk (blk_below (g := be) (o := .cells #[.int .u64 bk, .int .u64 bj, .slice (some bK) ba.length bi] 27 (0, 0)) zx5_0 hb); have bo := Aside0.mk ((by rw [hg]; exact Nat.ne_of_lt (blk_lt (g := bc) (o := .cells #[.string (⟨#[]⟩ : ByteArray), .int .u64 0, .int .u64 0, .slice none 0 0, .int .u64 0, .int .u64 0, .int .u64 0] 37 (0, 0)) zx5_5) : bc ≠ bh)); have bN := Aside0.mk ((by rw [hg]; exact Nat.ne_of_gt (blk_lt (g := bc) (o := .cells #[.string (⟨#[]⟩ : ByteArray), .int .u64 0, .int .u64 0, .slice none 0 0, .int .u64 0, .int .u64 0, .int .u64 0] 37 (0, 0)) zx5_5) : bh ≠ bc)); replace bd := Aside0.mk (blk_below (g := bc) (o := .cells #[.string (⟨#[]⟩ : ByteArray), .int .u64 0, .int .u64 0, .slice none 0 0, .int .u64 0, .int .u64 0, .int .u64 0] 37 (0, 0)) zx5_5 hb); clear hb hbox hg; have gp := bO.out; have gm := bw.out; have go := bN.out; have gl := bo.out; have dX : w20.cell? ⟨bh, 0, none⟩ = some (.string (⟨#[]⟩ : ByteArray)) := (blk_cell bf.out 0).trans rfl; have dW : w20.cell? ⟨bh, 1, none⟩ = some (.int .u64 0) := (blk_cell bf.out 1).trans rfl; have dV : w20.cell? ⟨bh, 2, none⟩ = some (.int .u64 0) := (blk_cell bf.out 2).trans rfl; have dU : w20.cell? ⟨bh, 3, none⟩ = some (.slice none 0 0) := (blk_cell bf.out 3).trans rfl; have dT : w20.cell? ⟨bh, 4, none⟩ = some (.int .u64 0) := (blk_cell bf.out 4).trans rfl; have dS : w20.cell? ⟨bh, 5, none⟩ = some (.int .u64 0) := (blk_cell bf.out 5).trans rfl; have dR : w20.cell? ⟨bh, 6, none⟩ = some (.int .u64 0) := (blk_cell bf.out 6).trans rfl; have dp := blk_frozen bf.out 0; have dn := blk_frozen bf.out 1; have dm := blk_frozen bf.out 2; have dl := blk_frozen bf.out 3; have dk := blk_frozen bf.out 4; have dj := blk_frozen bf.out 5; have di := blk_frozen bf.out 6) | ((with_reducible refine gate_callee (f := 35) rfl ?_); refine goesL_ (some 22) rfl rfl Tryd.func35 (by kernel_rfl) rfl #[.slice br ((rd_T37 ba bb).f3).length bn] rfl zx5_3 ?_; (with_reducible refine (slices_Clone_uint64_uint64.calls _ _ ((rd_T37 ba bb).f3) bm _ ?side1 ?side2 A13.out).mono ?_); (case side1 => exact Kd.C_below bR.out zx5_6); (case side2 => exact bS.out); rintro e w24 ⟨gu, rfl, ho0, hb⟩; refine ⟨_, rfl, ?_⟩; have bW := Aside0.mk (Kd.R_lower ho0 (below_size zx5_6)); replace bg := Aside0.mk (blk_below (g := be) (o := .cells #[.int .u64 bk, .int .u64 bj, .slice (some bK) ba.length bi] 27 (0, 0)) (by (iterate 7 ((with_reducible repeat (first | refine blk_drewN ?_ _ | refine blk_drew ?_ | refine blk_alloc ?_ _)); refine blk_far ?_ bw.out _)); (with_reducible repeat (first | refine blk_drewN ?_ _ | refine blk_drew ?_ | refine blk_alloc ?_ _)); exact bg.out) hb); replace bd := Aside0.mk (blk_below (g := bc) (o := .cells #[.string (⟨#[]⟩ : ByteArray), .int .u64 0, .int .u64 0, .slice none 0 0, .int .u64 0, .int .u64 0, .int .u64 0] 37 (0, 0)) (by (iterate 7 ((with_reducible repeat (first | refine blk_drewN ?_ _ | refine blk_drew ?_ | refine blk_alloc ?_ _)); refine blk_far ?_ bo.out _)); (with_reducible repeat (first | refine blk_drewN ?_ _ | refine blk_drew ?_ | refine blk_alloc ?_ _)); exact bd.out) hb); replace bf := Aside0.mk (blk_below (g := bh) (o := .cells #[.string ((rd_T37 ba bb).f0), .int .u64 ((rd_T37 ba bb).f1), .int .u64 ((rd_T37 ba bb).f2), .slice br ((rd_T37 ba bb).f3).length bn, .int .u64 ((rd_T37 ba bb).f4), .int .u64 ((rd_T37 ba bb).f5), .int .u64 ((rd_T37 ba bb).f6)] 37 (0, 0)) (by (with_reducible repeat (first | refine blk_drewN ?_ _ | refine blk_drew ?_ | refine blk_alloc ?_ _)); refine blk_put (cs := #[.string ((rd_T37 ba bb).f0), .int .u64 ((rd_T37 ba bb).f1), .int .u64 ((rd_T37 ba bb).f2), .slice br ((rd_T37 ba bb).f3).length bn, .int .u64 ((rd_T37 ba bb).f4), .int .u64 ((rd_T37 ba bb).f5), .int .u64 0]) ?_ 6 _ rfl; (with_reducible repeat (first | refine blk_drewN ?_ _ | refine blk_drew ?_ | refine blk_alloc ?_ _)); refine blk_put (cs := #[.string ((rd_T37 ba bb).f0), .int .u64 ((rd_T37 ba bb).f1), .int .u64 ((rd_T37 ba bb).f2), .slice br ((rd_T37 ba bb).f3).length bn, .int .u64 ((rd_T37 ba bb).f4), .int .u64 0, .int .u64 0]) ?_ 5 _ rfl; (with_reducible repeat (first | refine blk_drewN ?_ _ | refine blk_drew ?_ | refine blk_alloc ?_ _)); refine blk_put (cs := #[.string ((rd_T37 ba bb).f0), .int .u64 ((rd_T37 ba bb).f1), .int .u64 ((rd_T37 ba bb).f2), .slice br ((rd_T37 ba bb).f3).length bn, .int .u64 0, .int .u64 0, .int .u64 0]) ?_ 4 _ rfl; (with_reducible repeat (first | refine blk_drewN ?_ _ | refine blk_drew ?_ | refine blk_alloc ?_ _)); refine blk_put (cs := #[.string ((rd_T37 ba bb).f0), .int .u64 ((rd_T37 ba bb).f1), .int .u64 ((rd_T37 ba bb).f2), .slice none 0 0, .int .u64 0, .int .u64 0, .int .u64 0]) ?_ 3 _ rfl; (with_reducible repeat (first | refine blk_drewN ?_ _ | refine blk_drew ?_ | refine blk_alloc ?_ _)); refine blk_put (cs := #[.string ((rd_T37 ba bb).f0), .int .u64 ((rd_T37 ba bb).f1), .int .u64 0, .slice none 0 0, .int .u64 0, .int .u64 0, .int .u64 0]) ?_ 2 _ rfl; (with_reducible repeat (first | refine blk_drewN ?_ _ | refine blk_drew ?_ | refine blk_alloc ?_ _)); refine blk_put (cs := #[.string ((rd_T37 ba bb).f0), .int .u64 0, .int .u64 0, .slice none 0 0, .int .u64 0, .int .u64 0, .int .u64 0]) ?_ 1 _ rfl; (with_reducible repeat (first | refine blk_drewN ?_ _ | refine blk_drew ?_ | refine blk_alloc ?_ _)); refine blk_put (cs := #[.string (⟨#[]⟩ : ByteArray), .int .u64 0, .int .u64 0, .slice none 0 0, .int .u64 0, .int .u64 0, .int .u64 0]) ?_ 0 _ rfl; (with_reducible repeat (first | refine blk_drewN ?_ _ | refine blk_drew ?_ | refine blk_alloc ?_ _)); exact bf.out) hb); replace HB := Aside0.mk (below_step zx5_6 hb); (try clear hb); (try clear hb2); (try clear hk); (try clear hi); (try clear ho0); obtain ⟨bP, bM, gi⟩ := Kd.R_slice bW.out; subst gi; have dQ : w24.cell? ⟨bh, 0, none⟩ = some (.string ((rd_T37 ba bb).f0)) := (blk_cell bf.out 0).trans rfl; have dP : w24.cell? ⟨bh, 1, none⟩ = some (.int .u64 ((rd_T37 ba bb).f1)) := (blk_cell bf.out 1).trans rfl; have dO : w24.cell? ⟨bh, 2, none⟩ = some (.int .u64 ((rd_T37 ba bb).f2)) := (blk_cell bf.out 2).trans rfl; have dN : w24.cell? ⟨bh, 3, none⟩ = some (.slice br ((rd_T37 ba bb).f3).length bn) := (blk_cell bf.out 3).trans rfl; have dM : w24.cell? ⟨bh, 4, none⟩ = some (.int .u64 ((rd_T37 ba bb).f4)) := (blk_cell bf.out 4).trans rfl; have dL : w24.cell? ⟨bh, 5, none⟩ = some (.int .u64 ((rd_T37 ba bb).f5)) := (blk_cell bf.out 5).trans rfl; have dK : w24.cell? ⟨bh, 6, none⟩ = some (.int .u64 ((rd_T37 ba bb).f6)) := (blk_cell bf.out 6).trans rfl; have dh := blk_frozen bf.out 0; have dg := blk_frozen bf.out 1; have df := blk_frozen bf.out 2; have de := blk_frozen bf.out 3; have dd := blk_frozen bf.out 4; have dc := blk_frozen bf.out 5; have db := blk_frozen bf.out 6; have dJ : w24.cell? ⟨bc, 0, none⟩ = some (.string (⟨#[]⟩ : ByteArray)) := (blk_cell bd.out 0).trans rfl; have dI : w24.cell? ⟨bc, 1, none⟩ = some (.int .u64 0) := (blk_cell bd.out 1).trans rfl; have dH : w24.cell? ⟨bc, 2, none⟩ = some (.int .u64 0) := (blk_cell bd.out 2).trans rfl; have dG : w24.cell? ⟨bc, 3, none⟩ = some (.slice none 0 0) := (blk_cell bd.out 3).trans rfl; have dF : w24.cell? ⟨bc, 4, none⟩ = some (.int .u64 0) := (blk_cell bd.out 4).trans rfl; have dE : w24.cell? ⟨bc, 5, none⟩ = some (.int .u64 0) := (blk_cell bd.out 5).trans rfl; have dD : w24.cell? ⟨bc, 6, none⟩ = some (.int .u64 0) := (blk_cell bd.out 6).trans rfl; have da := blk_frozen bd.out 0; have b9 := blk_frozen bd.out 1; have b8 := blk_frozen bd.out 2; have b7 := blk_frozen bd.out 3; have b6 := blk_frozen bd.out 4; have b5 := blk_frozen bd.out 5; have b4 := blk_frozen bd.out 6))
 refine bodyPost_ret (results_ct rfl _ _ bc 37 #[.string ((rd_T37 ba bb).f0), .int .u64 ((rd_T37 ba bb).f1), .int .u64 ((rd_T37 ba bb).f2), .slice bP bm.length bM, .int .u64 ((rd_T37 ba bb).f4), .int .u64 ((rd_T37 ba bb).f5), .int .u64 ((rd_T37 ba bb).f6)] (0, 0) _ rfl (by (with_reducible repeat (first | refine blk_drewN ?_ _ | refine blk_drew ?_ | refine blk_alloc ?_ _)); refine blk_put (cs := #[.string ((rd_T37 ba bb).f0), .int .u64 ((rd_T37 ba bb).f1), .int .u64 ((rd_T37 ba bb).f2), .slice bP bm.length bM, .int .u64 ((rd_T37 ba bb).f4), .int .u64 ((rd_T37 ba bb).f5), .int .u64 0]) ?_ 6 _ rfl; (with_reducible repeat (first | refine blk_drewN ?_ _ | refine blk_drew ?_ | refine blk_alloc ?_ _)); refine blk_put (cs := #[.string ((rd_T37 ba bb).f0), .int .u64 ((rd_T37 ba bb).f1), .int .u64 ((rd_T37 ba bb).f2), .slice bP bm.length bM, .int .u64 ((rd_T37 ba bb).f4), .int .u64 0, .int .u64 0]) ?_ 5 _ rfl; (with_reducible repeat (first | refine blk_drewN ?_ _ | refine blk_drew ?_ | refine blk_alloc ?_ _)); refine blk_put (cs := #[.string ((rd_T37 ba bb).f0), .int .u64 ((rd_T37 ba bb).f1), .int .u64 ((rd_T37 ba bb).f2), .slice bP bm.length bM, .int .u64 0, .int .u64 0, .int .u64 0]) ?_ 4 _ rfl; (with_reducible repeat (first | refine blk_drewN ?_ _ | refine blk_drew ?_ | refine blk_alloc ?_ _)); refine blk_put (cs := #[.string ((rd_T37 ba bb).f0), .int .u64 ((rd_T37 ba bb).f1), .int .u64 ((rd_T37 ba bb).f2), .slice none 0 0, .int .u64 0, .int .u64 0, .int .u64 0]) ?_ 3 _ rfl; (with_reducible repeat (first | refine blk_drewN ?_ _ | refine blk_drew ?_ | refine blk_alloc ?_ _)); refine blk_put (cs := #[.string ((rd_T37 ba bb).f0), .int .u64 ((rd_T37 ba bb).f1), .int .u64 0, .slice none 0 0, .int .u64 0, .int .u64 0, .int .u64 0]) ?_ 2 _ rfl; (with_reducible repeat (first | refine blk_drewN ?_ _ | refine blk_drew ?_ | refine blk_alloc ?_ _)); refine blk_put (cs := #[.string ((rd_T37 ba bb).f0), .int .u64 0, .int .u64 0, .slice none 0 0, .int .u64 0, .int .u64 0, .int .u64 0]) ?_ 1 _ rfl; (with_reducible repeat (first | refine blk_drewN ?_ _ | refine blk_drew ?_ | refine blk_alloc ?_ _)); refine blk_put (cs := #[.string (⟨#[]⟩ : ByteArray), .int .u64 0, .int .u64 0, .slice none 0 0, .int .u64 0, .int .u64 0, .int .u64 0]) ?_ 0 _ rfl; (with_reducible repeat (first | refine blk_drewN ?_ _ | refine blk_drew ?_ | refine blk_alloc ?_ _)); refine blk_far ?_ bo.out _; (with_reducible repeat (first | refine blk_drewN ?_ _ | refine blk_drew ?_ | refine blk_alloc ?_ _)); exact bd.out) Tryd.underlying37 rfl (by kernel_rfl)) rfl ?_
 exact ⟨_, by first | rfl | (simp [errW_none, errW_some] <;> rfl) | (simp [*, errW_none, errW_some] <;> rfl), by (with_reducible repeat (first | apply Kd.R_alloc | apply Kd.R_drewN | apply Kd.R_drew)); exact Kd.R_mono (Kd.R_far (p := ⟨bc, 6, none⟩) (Kd.R_far (p := ⟨bc, 5, none⟩) (Kd.R_far (p := ⟨bc, 4, none⟩) (Kd.R_far (p := ⟨bc, 3, none⟩) (Kd.R_far (p := ⟨bc, 2, none⟩) (Kd.R_far (p := ⟨bc, 1, none⟩) (Kd.R_far (p := ⟨bc, 0, none⟩) (Kd.R_far (p := ⟨bh, 3, none⟩) (Kd.R_types (Kd.R_types bW.out bf.out (by decide)) bd.out (by decide)) (fun _ hk => hk.1.2) (.slice bP bm.length bM)) (fun _ hk => hk.2) (.string ((rd_T37 ba bb).f0))) (fun _ hk => hk.2) (.int .u64 ((rd_T37 ba bb).f1))) (fun _ hk => hk.2) (.int .u64 ((rd_T37 ba bb).f2))) (fun _ hk => hk.2) (.slice bP bm.length bM)) (fun _ hk => hk.2) (.int .u64 ((rd_T37 ba bb).f4))) (fun _ hk => hk.2) (.int .u64 ((rd_T37 ba bb).f5))) (fun _ hk => hk.2) (.int .u64 ((rd_T37 ba bb).f6))) (fun _ hk => trivial), by repeat (first | (with_reducible first | exact HB.out | apply below_alloc | apply pw_below_drewN | apply below_drew1 | refine below_set ?_ bx.out | refine below_set ?_ bH.out | refine below_set ?_ bY.out) | exact HB.out)⟩
/-! ### cmp_isNaN_uint64: function 75 -/
def cmp_isNaN_uint64.f (a0 : Int) : Option (Bool) := some (a0 != a0)
set_option maxHeartbeats 8000000 in
set_option maxRecDepth 100000 in
theorem cmp_isNaN_uint64.calls (a0 : Int) (r : Bool) (w : World) (h : cmp_isNaN_uint64.f a0 = some r) :
  Calls Tryd.prog 75 #[.int .u64 a0] w fun e w' => e = .returned (.bool r) ∧ Drawn0 w w' := by
 have H : (some (a0 != a0)) = some r := h
 clear h
 obtain rfl := Option.some.inj H
 go_enter Tryd.func75, Tryd.ntmps75
 go_wp2
 go_ret
 exact ⟨by first | rfl | (simp; done) | (simp [*]; done), by repeat (first | exact Drawn0.refl _ | apply Drawn0.step)⟩

/-! ### cmp_Less_uint64: function 66 -/
def cmp_Less_uint64.f (a0 : Int) (a1 : Int) : Option (Bool) := (cmp_isNaN_uint64.f a0).bind fun bL => (if bL = true then ((cmp_isNaN_uint64.f a1).bind fun bu => (if bu = true then (some (decide (a0 < a1))) else (some true))) else (some (decide (a0 < a1))))
set_option maxHeartbeats 8000000 in
set_option maxRecDepth 100000 in
theorem cmp_Less_uint64.calls (a0 : Int) (a1 : Int) (r : Bool) (w : World) (h : cmp_Less_uint64.f a0 a1 = some r) :
  Calls Tryd.prog 66 #[.int .u64 a0, .int .u64 a1] w fun e w' => e = .returned (.bool r) ∧ Drawn0 w w' := by
 have H : ((cmp_isNaN_uint64.f a0).bind fun bL => (if bL = true then ((cmp_isNaN_uint64.f a1).bind fun bu => (if bu = true then (some (decide (a0 < a1))) else (some true))) else (some (decide (a0 < a1))))) = some r := h
 clear h
 replace H := Option.bind_eq_some_iff.mp H
 obtain ⟨bL, A30, H⟩ := H
 replace H : (if bL = true then ((cmp_isNaN_uint64.f a1).bind fun bu => (if bu = true then (some (decide (a0 < a1))) else (some true))) else (some (decide (a0 < a1)))) = some r := H
 have A3 := Aside0.mk A30
 clear A30
 by_cases c4 : bL = true
 case neg =>
  replace c4 := Bool.eq_false_iff.mpr c4
  subst c4
  have H1 : (some (decide (a0 < a1))) = some r := by rw [if_neg (show ¬ (false = true) by decide)] at H; exact H
  clear H
  have H := H1
  clear H1
  obtain rfl := Option.some.inj H
  go_enter Tryd.func66, Tryd.ntmps66
  go_wp2_with (first | ((with_reducible refine gate_callee (f := 75) rfl ?_); refine goesL_ (some 6) rfl rfl Tryd.func75 (by kernel_rfl) rfl #[.int .u64 a0] rfl zx5_3 ?_; (with_reducible refine (cmp_isNaN_uint64.calls a0 false _ A3.out).mono ?_); rintro e w' ⟨rfl, ⟨nd, rfl⟩⟩; refine ⟨_, rfl, ?_⟩))
  go_ret
  exact ⟨by first | rfl | (simp; done) | (simp [*]; done), by repeat (first | exact Drawn0.refl _ | apply Drawn0.step)⟩

 subst c4
 have H1 : ((cmp_isNaN_uint64.f a1).bind fun bu => (if bu = true then (some (decide (a0 < a1))) else (some true))) = some r := by rw [if_pos rfl] at H; exact H
 clear H
 have H := H1
 clear H1
 replace H := Option.bind_eq_some_iff.mp H
 obtain ⟨bu, A50, H⟩ := H
 replace H : (if bu = true then (some (decide (a0 < a1))) else (some true)) = some r := H
 have A5 := Aside0.mk A50
 clear A50
 by_cases c6 : bu = true
 ·subst c6
  have H1 : (some (decide (a0 < a1))) = some r := by rw [if_pos rfl] at H; exact H
  clear H
  have H := H1
  clear H1
  obtain rfl := Option.some.inj H
  go_enter Tryd.func66, Tryd.ntmps66
  go_wp2_with (first | ((with_reducible refine gate_callee (f := 75) rfl ?_); refine goesL_ (some 6) rfl rfl Tryd.func75 (by kernel_rfl) rfl #[.int .u64 a0] rfl zx5_3 ?_; (with_reducible refine (cmp_isNaN_uint64.calls a0 true _ A3.out).mono ?_); rintro e w' ⟨rfl, ⟨nd, rfl⟩⟩; refine ⟨_, rfl, ?_⟩) | (go_at_call 75; (with_reducible refine (cmp_isNaN_uint64.calls a1 true _ A5.out).mono ?_); rintro e w' ⟨rfl, ⟨nd, rfl⟩⟩))
  go_ret
  exact ⟨by first | rfl | (simp; done) | (simp [*]; done), by repeat (first | exact Drawn0.refl _ | apply Drawn0.step)⟩
 replace c6 := Bool.eq_false_iff.mpr c6
 subst c6
 have H1 : (some true) = some r := by rw [if_neg (show ¬ (false = true) by decide)] at H; exact H
 clear H
 have H := H1
 clear H1
 obtain rfl := Option.some.inj H
 go_enter Tryd.func66, Tryd.ntmps66
 go_wp2_with (first | ((with_reducible refine gate_callee (f := 75) rfl ?_); refine goesL_ (some 6) rfl rfl Tryd.func75 (by kernel_rfl) rfl #[.int .u64 a0] rfl zx5_3 ?_; (with_reducible refine (cmp_isNaN_uint64.calls a0 true _ A3.out).mono ?_); rintro e w' ⟨rfl, ⟨nd, rfl⟩⟩; refine ⟨_, rfl, ?_⟩) | (go_at_call 75; (with_reducible refine (cmp_isNaN_uint64.calls a1 false _ A5.out).mono ?_); rintro e w' ⟨rfl, ⟨nd, rfl⟩⟩))
 go_ret
 exact ⟨by first | rfl | (simp; done) | (simp [*]; done), by repeat (first | exact Drawn0.refl _ | apply Drawn0.step)⟩
/-! ### slices_isNaN_uint64: function 67 -/
def slices_isNaN_uint64.f (a0 : Int) : Option (Bool) := some (a0 != a0)
set_option maxHeartbeats 8000000 in
set_option maxRecDepth 100000 in
theorem slices_isNaN_uint64.calls (a0 : Int) (r : Bool) (w : World) (h : slices_isNaN_uint64.f a0 = some r) :
  Calls Tryd.prog 67 #[.int .u64 a0] w fun e w' => e = .returned (.bool r) ∧ Drawn0 w w' := by
 have H : (some (a0 != a0)) = some r := h
 clear h
 obtain rfl := Option.some.inj H
 go_enter Tryd.func67, Tryd.ntmps67
 go_wp2
 go_ret
 exact ⟨by first | rfl | (simp; done) | (simp [*]; done), by repeat (first | exact Drawn0.refl _ | apply Drawn0.step)⟩

end Go.Proofs.YthhmpjapnkilcaaDoor.XLdg
end
section
/- What the functions of the translation answer, each as a plain Lean function, and that the code comes to it; for a law: its row. Conditions: none but those that each theorem names. Written by a program of this session (wip/xp). -/
namespace Go.Proofs.YthhmpjapnkilcaaDoor.XLdg
open Go.RowKit Go.Proofs.YthhmpjapnkilcaaDoorW.PrintWords Go.Proofs.YthhmpjapnkilcaaDoorW.PrintLast Go.Proofs.YthhmpjapnkilcaaDoorW.PrintMore
attribute [local go_sem] max2_int min2_int max_two min_two max_three min_three max_four min_four   -- for this text's walks alone
theorem zx6_1 {p : Prop} (h : p := by first | (with_reducible assumption) | assumption) : p := h
theorem zx6_0 {p : Prop} (h : p := by repeat (first | (with_reducible first | exact HB.out | apply below_alloc | apply pw_below_drewN | apply below_drew1) | exact HB.out)) : p := h
set_option linter.unusedVariables false
set_option linter.unusedSimpArgs false

/-! ### slices_BinarySearch_uint64_uint64: function 51 -/
def slices_BinarySearch_uint64_uint64.l0 : Nat → List Int → Int → Int → Int → Int → Option (Int × Bool)
 | 0, _, _, _, _, _ => none
 | k + 1, x0, x1, x6, x7, x8 => if x7 < x8 then (if 0 ≤ (wrap64 ((IntKind.u64.wrap (wrap64 (x7 + x8))) / 2)) then (if (wrap64 ((IntKind.u64.wrap (wrap64 (x7 + x8))) / 2)) < (x0.length : Int) then ((cmp_Less_uint64.f (rd x0 (wrap64 ((IntKind.u64.wrap (wrap64 (x7 + x8))) / 2))) x1).bind fun bC => (if bC = true then (slices_BinarySearch_uint64_uint64.l0 k x0 x1 x6 (wrap64 ((wrap64 ((IntKind.u64.wrap (wrap64 (x7 + x8))) / 2)) + 1)) x8) else (slices_BinarySearch_uint64_uint64.l0 k x0 x1 x6 x7 (wrap64 ((IntKind.u64.wrap (wrap64 (x7 + x8))) / 2))))) else (none)) else (none)) else (if x7 < x6 then (if 0 ≤ x7 then (if x7 < (x0.length : Int) then (if (rd x0 x7) = x1 then (some (x7, true)) else ((slices_isNaN_uint64.f (rd x0 x7)).bind fun bH => (if bH = true then ((slices_isNaN_uint64.f x1).bind fun bp => (some (x7, bp))) else (some (x7, false))))) else (none)) else (none)) else (some (x7, false)))
def slices_BinarySearch_uint64_uint64.f (k : Nat) (l0 : List Int) (a1 : Int) : Option (Int × Bool) := slices_BinarySearch_uint64_uint64.l0 k l0 a1 (l0.length : Int) 0 (l0.length : Int)
theorem slices_BinarySearch_uint64_uint64.mono_l : ∀ k, (∀ y0 y1 y2 y3 y4, LeO (slices_BinarySearch_uint64_uint64.l0 k y0 y1 y2 y3 y4) (slices_BinarySearch_uint64_uint64.l0 (k + 1) y0 y1 y2 y3 y4))
 | 0 => fun _ _ _ _ _ r h => by simp [slices_BinarySearch_uint64_uint64.l0] at h
 | k + 1 => by
  have ih0 := slices_BinarySearch_uint64_uint64.mono_l k
  ·intro y0 y1 y2 y3 y4
   unfold slices_BinarySearch_uint64_uint64.l0
   repeat' first
   | (with_reducible exact ih0 _ _ _ _ _)
   | (with_reducible exact LeO.refl _)
   | (with_reducible exact LeO.none _)
   | (with_reducible refine LeO.ite ?_ ?_)
   | (with_reducible refine LeO.bind ?_ (fun _ => ?_))
   | exact ih0 _ _ _ _ _
   | exact LeO.none _
   | refine LeO.ite ?_ ?_
   | refine LeO.bind ?_ (fun _ => ?_)
theorem slices_BinarySearch_uint64_uint64.mono : ∀ a0 a1 k, LeO (slices_BinarySearch_uint64_uint64.f k a0 a1) (slices_BinarySearch_uint64_uint64.f (k + 1) a0 a1) := by
 intro a0 a1 k
 have ih0 := slices_BinarySearch_uint64_uint64.mono_l k
 unfold slices_BinarySearch_uint64_uint64.f
 repeat' first
   | (with_reducible exact ih0 _ _ _ _ _)
   | (with_reducible exact LeO.refl _)
   | (with_reducible exact LeO.none _)
   | (with_reducible refine LeO.ite ?_ ?_)
   | (with_reducible refine LeO.bind ?_ (fun _ => ?_))
   | exact ih0 _ _ _ _ _
   | exact LeO.none _
   | refine LeO.ite ?_ ?_
   | refine LeO.bind ?_ (fun _ => ?_)
set_option maxHeartbeats 8000000 in
set_option maxRecDepth 100000 in
theorem slices_BinarySearch_uint64_uint64.calls (k : Nat) (A0 : Option Addr) (c0 : Nat) (l0 : List Int) (a1 : Int) (r1 : Int) (r2 : Bool) (w : World) (hr0 : Kd.C (Kd.int .u64) w A0 l0.length l0) (hc0 : l0.length ≤ c0) (h : slices_BinarySearch_uint64_uint64.f k l0 a1 = some (r1, r2)) :
  Calls Tryd.prog 51 #[.slice A0 l0.length c0, .int .u64 a1] w fun e w' => e = .returned (.tuple #[.int .i64 r1, .bool r2]) ∧ Drawn0 w w' := by
 have HR0 := Aside0.mk hr0
 have HC0 := Aside0.mk hc0
 clear hr0 hc0
 have H : (slices_BinarySearch_uint64_uint64.l0 k l0 a1 (l0.length : Int) 0 (l0.length : Int)) = some (r1, r2) := h
 clear h
 have H' := Aside0.mk H
 clear H
 go_enter Tryd.func51, Tryd.ntmps51
 go_wp2
 go_loopg [7, 8] k (fun kq v7 v8 w' => ∃ (bb : Int) (bf : Int), v7 = .int .i64 bb ∧ v8 = .int .i64 bf ∧ Aside0 (slices_BinarySearch_uint64_uint64.l0 kq l0 a1 (l0.length : Int) bb bf = some (r1, r2)) ∧ Aside0 (kq ≤ k) ∧ Drawn0 w w')
 case atStart => exact ⟨(0), ((l0.length : Int)), (by first | rfl | (simp; done) | (simp [*]; done)), (by first | rfl | (simp; done) | (simp [*]; done)), H', ⟨Nat.le_refl _⟩, by repeat (first | exact Drawn0.refl _ | apply Drawn0.step)⟩
 case round =>
  clear H'
  (try clear p2)
  obtain ⟨bb, bf, rfl, rfl, HA, HK1, ⟨m1, rfl⟩⟩ := hrel
  cases gk with
  | zero => exact absurd HA.out (by simp [slices_BinarySearch_uint64_uint64.l0])
  | succ k1 => ?_
  have H := HA.out
  clear HA
  simp only [slices_BinarySearch_uint64_uint64.l0] at H
  by_cases c3 : bb < bf
  ·rw [if_pos c3] at H
   have dK : decide (bb < bf) = true := decide_eq_true c3
   clear c3
   obtain ⟨ji4, bz⟩ : ∃ j_ : Int, (wrap64 ((IntKind.u64.wrap (wrap64 (bb + bf))) / 2)) = j_ := ⟨_, rfl⟩
   replace H : (if 0 ≤ (ji4) then (if (ji4) < (l0.length : Int) then ((cmp_Less_uint64.f (rd l0 (ji4)) a1).bind fun bC => (if bC = true then (slices_BinarySearch_uint64_uint64.l0 k1 l0 a1 (l0.length : Int) (wrap64 ((ji4) + 1)) bf) else (slices_BinarySearch_uint64_uint64.l0 k1 l0 a1 (l0.length : Int) bb ji4))) else (none)) else (none)) = some (r1, r2) := by first | (rw [bz] at H; exact H) | (simp only [bz] at H ⊢; exact H)
   have hji4w : (IntKind.i64.wrap ((IntKind.u64.wrap (wrap64 (bb + bf))) / 2)) = ji4 := (i64_w _).trans bz
   by_cases c5 : 0 ≤ (ji4)
   case neg =>
    rw [if_neg c5] at H
    exact absurd H (by simp)
   rw [if_pos c5] at H
   have dP : decide (0 ≤ (ji4)) = true := decide_eq_true c5
   clear c5
   by_cases c6 : (ji4) < (l0.length : Int)
   case neg =>
    rw [if_neg c6] at H
    exact absurd H (by simp)
   rw [if_pos c6] at H
   have dO : decide ((ji4) < (l0.length : Int)) = true := decide_eq_true c6
   clear c6
   replace H := Option.bind_eq_some_iff.mp H
   obtain ⟨bC, A70, H⟩ := H
   replace H : (if bC = true then (slices_BinarySearch_uint64_uint64.l0 k1 l0 a1 (l0.length : Int) (wrap64 ((ji4) + 1)) bf) else (slices_BinarySearch_uint64_uint64.l0 k1 l0 a1 (l0.length : Int) bb ji4)) = some (r1, r2) := H
   have A7 := Aside0.mk A70
   clear A70
   by_cases c8 : bC = true
   ·subst c8
    have H1 : (slices_BinarySearch_uint64_uint64.l0 k1 l0 a1 (l0.length : Int) (wrap64 ((ji4) + 1)) bf) = some (r1, r2) := by rw [if_pos rfl] at H; exact H
    clear H
    have H := H1
    clear H1
    have H' := Aside0.mk H
    clear H
    have bx : 0 ≤ ((ji4) : Int) := of_decide_eq_true zx6_1
    have bu : (ji4) < (l0.length : Int) := of_decide_eq_true zx6_1
    obtain ⟨bS, bO, bJ⟩ := Kd.at_int HR0.out (ji4) bx bu
    cases bO
    replace bx := eq_true bx
    replace bu := eq_true bu
    go_wp2_with (first | ((with_reducible refine gate_callee (f := 66) rfl ?_); refine goesL_ (some 27) rfl rfl Tryd.func66 (by kernel_rfl) rfl #[.int .u64 (rd l0 (ji4)), .int .u64 a1] rfl (by (try simp only [List.map_toArray, List.map_cons, List.map_nil]); first | done | (simp only [bz]; rfl) | rfl | (simp only [List.length_drop, List.length_take]; rfl)) ?_; (with_reducible refine (cmp_Less_uint64.calls (rd l0 (ji4)) a1 true _ A7.out).mono ?_); rintro e w' ⟨rfl, ⟨nd, rfl⟩⟩; refine ⟨_, rfl, ?_⟩))
    go_roundg k1
    case measure => have := HK1.out; omega
    case rel => exact ⟨(wrap64 ((ji4) + 1)), (bf), (by first | rfl | (simp; done) | (simp only [← bz] <;> (first | rfl | simp)) | (simp [*]; done)), (by first | rfl | (simp; done) | (simp [*]; done)), H', ⟨by have := HK1.out; omega⟩, by repeat (first | exact Drawn0.refl _ | apply Drawn0.step)⟩
   replace c8 := Bool.eq_false_iff.mpr c8
   subst c8
   have H1 : (slices_BinarySearch_uint64_uint64.l0 k1 l0 a1 (l0.length : Int) bb ji4) = some (r1, r2) := by rw [if_neg (show ¬ (false = true) by decide)] at H; exact H
   clear H
   have H := H1
   clear H1
   have H' := Aside0.mk H
   clear H
   have bx : 0 ≤ ((ji4) : Int) := of_decide_eq_true zx6_1
   have bu : (ji4) < (l0.length : Int) := of_decide_eq_true zx6_1
   obtain ⟨bS, bO, bJ⟩ := Kd.at_int HR0.out (ji4) bx bu
   cases bO
   replace bx := eq_true bx
   replace bu := eq_true bu
   go_wp2_with (first | ((with_reducible refine gate_callee (f := 66) rfl ?_); refine goesL_ (some 27) rfl rfl Tryd.func66 (by kernel_rfl) rfl #[.int .u64 (rd l0 (ji4)), .int .u64 a1] rfl (by (try simp only [List.map_toArray, List.map_cons, List.map_nil]); first | done | (simp only [bz]; rfl) | rfl | (simp only [List.length_drop, List.length_take]; rfl)) ?_; (with_reducible refine (cmp_Less_uint64.calls (rd l0 (ji4)) a1 false _ A7.out).mono ?_); rintro e w' ⟨rfl, ⟨nd, rfl⟩⟩; refine ⟨_, rfl, ?_⟩))
   go_roundg k1
   case measure => have := HK1.out; omega
   case rel => exact ⟨(bb), (ji4), (by first | rfl | (simp; done) | (simp [*]; done)), (by first | rfl | (simp; done) | (simp only [← bz] <;> (first | rfl | simp)) | (simp [*]; done)), H', ⟨by have := HK1.out; omega⟩, by repeat (first | exact Drawn0.refl _ | apply Drawn0.step)⟩
  rw [if_neg c3] at H
  have dK : decide (bb < bf) = false := decide_eq_false c3
  clear c3
  by_cases c9 : bb < (l0.length : Int)
  case neg =>
   rw [if_neg c9] at H
   have dH : decide (bb < (l0.length : Int)) = false := decide_eq_false c9
   clear c9
   simp only [Option.some.injEq, Prod.mk.injEq] at H
   obtain ⟨rfl, rfl⟩ := H
   go_wp2
   go_ret2
   exact ⟨by first | rfl | (simp; done) | (simp [*]; done), by repeat (first | exact Drawn0.refl _ | apply Drawn0.step)⟩

  rw [if_pos c9] at H
  have dH : decide (bb < (l0.length : Int)) = true := decide_eq_true c9
  clear c9
  by_cases c10 : 0 ≤ bb
  case neg =>
   rw [if_neg c10] at H
   exact absurd H (by simp)
  rw [if_pos c10] at H
  have dM : decide (0 ≤ bb) = true := decide_eq_true c10
  clear c10
  by_cases c11 : bb < (l0.length : Int)
  case neg =>
   rw [if_neg c11] at H
   exact absurd H (by simp)
  rw [if_pos c11] at H
  have dL : decide (bb < (l0.length : Int)) = true := decide_eq_true c11
  clear c11
  by_cases c12 : (rd l0 bb) = a1
  ·rw [if_pos c12] at H
   have bR : ((rd l0 bb) == a1) = true := beq_iff_eq.mpr c12
   have bQ : ((rd l0 bb) != a1) = false := bne_eq_false_iff_eq.mpr c12
   clear c12
   simp only [Option.some.injEq, Prod.mk.injEq] at H
   obtain ⟨rfl, rfl⟩ := H
   have bh : 0 ≤ (bb : Int) := of_decide_eq_true zx6_1
   have bg : bb < (l0.length : Int) := of_decide_eq_true zx6_1
   obtain ⟨bB, bD, bA⟩ := Kd.at_int HR0.out bb bh bg
   cases bD
   replace bh := eq_true bh
   replace bg := eq_true bg
   go_wp2
   go_ret2
   exact ⟨by first | rfl | (simp; done) | (simp [*]; done), by repeat (first | exact Drawn0.refl _ | apply Drawn0.step)⟩
  rw [if_neg c12] at H
  have bR : ((rd l0 bb) == a1) = false := beq_eq_false_iff_ne.mpr c12
  have bQ : ((rd l0 bb) != a1) = true := bne_iff_ne.mpr c12
  replace H := Option.bind_eq_some_iff.mp H
  obtain ⟨bH, bX, H⟩ := H
  replace H : (if bH = true then ((slices_isNaN_uint64.f a1).bind fun bp => (some (bb, bp))) else (some (bb, false))) = some (r1, r2) := H
  have A13 := Aside0.mk bX
  clear bX
  by_cases c14 : bH = true
  case neg =>
   replace c14 := Bool.eq_false_iff.mpr c14
   subst c14
   have H1 : (some (bb, false)) = some (r1, r2) := by rw [if_neg (show ¬ (false = true) by decide)] at H; exact H
   clear H
   have H := H1
   clear H1
   simp only [Option.some.injEq, Prod.mk.injEq] at H
   obtain ⟨rfl, rfl⟩ := H
   have bh : 0 ≤ (bb : Int) := of_decide_eq_true zx6_1
   have bg : bb < (l0.length : Int) := of_decide_eq_true zx6_1
   obtain ⟨bB, bD, bA⟩ := Kd.at_int HR0.out bb bh bg
   cases bD
   replace bh := eq_true bh
   replace bg := eq_true bg
   have bw : 0 ≤ (bb : Int) := of_decide_eq_true zx6_1
   have br : bb < (l0.length : Int) := of_decide_eq_true zx6_1
   obtain ⟨bG, bN, bI⟩ := Kd.at_int HR0.out bb bw br
   obtain rfl : bB = bG := (by injection bN)
   replace bw := eq_true bw
   replace br := eq_true br
   go_wp2_with (first | (go_at_call 67; (with_reducible refine (slices_isNaN_uint64.calls (rd l0 bb) false _ A13.out).mono ?_); rintro e w' ⟨rfl, ⟨nd, rfl⟩⟩))
   go_ret2
   exact ⟨by first | rfl | (simp; done) | (simp [*]; done), by repeat (first | exact Drawn0.refl _ | apply Drawn0.step)⟩
  subst c14
  have H1 : ((slices_isNaN_uint64.f a1).bind fun bp => (some (bb, bp))) = some (r1, r2) := by rw [if_pos rfl] at H; exact H
  clear H
  have H := H1
  clear H1
  replace H := Option.bind_eq_some_iff.mp H
  obtain ⟨bp, bW, H⟩ := H
  replace H : (some (bb, bp)) = some (r1, r2) := H
  have A15 := Aside0.mk bW
  clear bW
  simp only [Option.some.injEq, Prod.mk.injEq] at H
  obtain ⟨rfl, rfl⟩ := H
  have bh : 0 ≤ (bb : Int) := of_decide_eq_true zx6_1
  have bg : bb < (l0.length : Int) := of_decide_eq_true zx6_1
  obtain ⟨bB, bD, bA⟩ := Kd.at_int HR0.out bb bh bg
  cases bD
  replace bh := eq_true bh
  replace bg := eq_true bg
  have bw : 0 ≤ (bb : Int) := of_decide_eq_true zx6_1
  have br : bb < (l0.length : Int) := of_decide_eq_true zx6_1
  obtain ⟨bG, bN, bI⟩ := Kd.at_int HR0.out bb bw br
  obtain rfl : bB = bG := (by injection bN)
  replace bw := eq_true bw
  replace br := eq_true br
  go_wp2_with (first | (go_at_call 67; (with_reducible refine (slices_isNaN_uint64.calls (rd l0 bb) true _ A13.out).mono ?_); rintro e w' ⟨rfl, ⟨nd, rfl⟩⟩) | (go_at_call 67; (with_reducible refine (slices_isNaN_uint64.calls a1 bp _ A15.out).mono ?_); rintro e w' ⟨rfl, ⟨nd, rfl⟩⟩))
  go_ret2
  exact ⟨by first | rfl | (simp; done) | (simp [*]; done), by repeat (first | exact Drawn0.refl _ | apply Drawn0.step)⟩
/-! ### ledger_Dest_waits: function 36 -/
def ledger_Dest_waits.f (k : Nat) (bn : ByteArray) (bm : Int) (be : Int) (bd : List Int) (bl : Int) (bk : Int) (bj : Int) (a1 : Int) (a2 : Int) : Option (Bool) := if a1 < be then (some false) else (if a1 ≥ a2 then (some false) else ((slices_BinarySearch_uint64_uint64.f k bd a1).bind fun bE => (some (!bE.2))))
theorem ledger_Dest_waits.mono : ∀ a0 a1 a2 a3 a4 a5 a6 a7 a8 k, LeO (ledger_Dest_waits.f k a0 a1 a2 a3 a4 a5 a6 a7 a8) (ledger_Dest_waits.f (k + 1) a0 a1 a2 a3 a4 a5 a6 a7 a8) := by
 intro a0 a1 a2 a3 a4 a5 a6 a7 a8 k
 unfold ledger_Dest_waits.f
 repeat' first
   | (with_reducible exact slices_BinarySearch_uint64_uint64.mono _ _ _)
   | (with_reducible exact LeO.refl _)
   | (with_reducible exact LeO.none _)
   | (with_reducible refine LeO.ite ?_ ?_)
   | (with_reducible refine LeO.bind ?_ (fun _ => ?_))
   | exact slices_BinarySearch_uint64_uint64.mono _ _ _
   | exact LeO.none _
   | refine LeO.ite ?_ ?_
   | refine LeO.bind ?_ (fun _ => ?_)
set_option maxHeartbeats 8000000 in
set_option maxRecDepth 100000 in
theorem ledger_Dest_waits.calls (k : Nat) (bn : ByteArray) (bm : Int) (be : Int) (bo : Option Addr) (bi : Nat) (bd : List Int) (bl : Int) (bk : Int) (bj : Int) (a1 : Int) (a2 : Int) (r : Bool) (w : World) (bK : Kd.C (Kd.int .u64) w bo bd.length bd) (bL : bd.length ≤ bi) (h : ledger_Dest_waits.f k bn bm be bd bl bk bj a1 a2 = some r) :
  Calls Tryd.prog 36 #[.agg #[.string bn, .int .u64 bm, .int .u64 be, .slice bo bd.length bi, .int .u64 bl, .int .u64 bk, .int .u64 bj], .int .u64 a1, .int .u64 a2] w fun e w' => e = .returned (.bool r) ∧ Below w.heap.size w w' := by
 have dN := Tryd.underlying37
 have bU := Aside0.mk bK
 have bV := Aside0.mk bL
 clear bK bL
 have HB := Aside0.mk (Below.refl w.heap.size w)
 have H : (if a1 < be then (some false) else (if a1 ≥ a2 then (some false) else ((slices_BinarySearch_uint64_uint64.f k bd a1).bind fun bE => (some (!bE.2))))) = some r := h
 clear h
 by_cases c4 : a1 < be
 ·rw [if_pos c4] at H
  have dJ : decide (a1 < be) = true := decide_eq_true c4
  clear c4
  obtain rfl := Option.some.inj H
  go_enter Tryd.func36, Tryd.ntmps36
  go_wp2_with (first | ((with_reducible refine gate_dst (N := 3) rfl ?_); refine box_event ?hg (N := 3) ?hd (cs := #[.string bn, .int .u64 bm, .int .u64 be, .slice bo bd.length bi, .int .u64 bl, .int .u64 bk, .int .u64 bj]) (t := 37) ?hr ?_; (case hd => rfl); (case hg => rfl); (case hr => first | (go_simp; done) | (go_simp; rfl)); intro bc hg w5 hbox hb; have ba := Aside0.mk (hbox); have bM := Aside0.mk ((by rw [hg]; exact (below_size zx6_0) : w.heap.size ≤ bc)); have bq := Aside0.mk ((by rw [hg]; exact (below_size zx6_0) : w.heap.size ≤ bc)); replace HB := Aside0.mk (below_step zx6_0 hb); clear hb hbox hg; have dG : w5.cell? ⟨bc, 0, none⟩ = some (.string bn) := (blk_cell ba.out 0).trans rfl; have dF : w5.cell? ⟨bc, 1, none⟩ = some (.int .u64 bm) := (blk_cell ba.out 1).trans rfl; have dE : w5.cell? ⟨bc, 2, none⟩ = some (.int .u64 be) := (blk_cell ba.out 2).trans rfl; have dD : w5.cell? ⟨bc, 3, none⟩ = some (.slice bo bd.length bi) := (blk_cell ba.out 3).trans rfl; have dC : w5.cell? ⟨bc, 4, none⟩ = some (.int .u64 bl) := (blk_cell ba.out 4).trans rfl; have dB : w5.cell? ⟨bc, 5, none⟩ = some (.int .u64 bk) := (blk_cell ba.out 5).trans rfl; have dA : w5.cell? ⟨bc, 6, none⟩ = some (.int .u64 bj) := (blk_cell ba.out 6).trans rfl; have ds := blk_frozen ba.out 0; have dr := blk_frozen ba.out 1; have dq := blk_frozen ba.out 2; have dp := blk_frozen ba.out 3; have dn := blk_frozen ba.out 4; have dm := blk_frozen ba.out 5; have dl := blk_frozen ba.out 6))
  go_ret
  exact ⟨by first | rfl | (simp [errW_none, errW_some] <;> rfl) | (simp [*, errW_none, errW_some] <;> rfl), by repeat (first | (with_reducible first | exact HB.out | apply below_alloc | apply pw_below_drewN | apply below_drew1 | refine below_set ?_ bq.out) | exact HB.out)⟩
 rw [if_neg c4] at H
 have dJ : decide (a1 < be) = false := decide_eq_false c4
 clear c4
 by_cases c7 : a1 ≥ a2
 ·rw [if_pos c7] at H
  have dI : decide (a2 ≤ a1) = true := decide_eq_true c7
  clear c7
  obtain rfl := Option.some.inj H
  go_enter Tryd.func36, Tryd.ntmps36
  go_wp2_with (first | ((with_reducible refine gate_dst (N := 3) rfl ?_); refine box_event ?hg (N := 3) ?hd (cs := #[.string bn, .int .u64 bm, .int .u64 be, .slice bo bd.length bi, .int .u64 bl, .int .u64 bk, .int .u64 bj]) (t := 37) ?hr ?_; (case hd => rfl); (case hg => rfl); (case hr => first | (go_simp; done) | (go_simp; rfl)); intro bc hg w8 hbox hb; have ba := Aside0.mk (hbox); have bM := Aside0.mk ((by rw [hg]; exact (below_size zx6_0) : w.heap.size ≤ bc)); have bq := Aside0.mk ((by rw [hg]; exact (below_size zx6_0) : w.heap.size ≤ bc)); replace HB := Aside0.mk (below_step zx6_0 hb); clear hb hbox hg; have dz : w8.cell? ⟨bc, 0, none⟩ = some (.string bn) := (blk_cell ba.out 0).trans rfl; have dy : w8.cell? ⟨bc, 1, none⟩ = some (.int .u64 bm) := (blk_cell ba.out 1).trans rfl; have dx : w8.cell? ⟨bc, 2, none⟩ = some (.int .u64 be) := (blk_cell ba.out 2).trans rfl; have dw : w8.cell? ⟨bc, 3, none⟩ = some (.slice bo bd.length bi) := (blk_cell ba.out 3).trans rfl; have dv : w8.cell? ⟨bc, 4, none⟩ = some (.int .u64 bl) := (blk_cell ba.out 4).trans rfl; have du : w8.cell? ⟨bc, 5, none⟩ = some (.int .u64 bk) := (blk_cell ba.out 5).trans rfl; have dt : w8.cell? ⟨bc, 6, none⟩ = some (.int .u64 bj) := (blk_cell ba.out 6).trans rfl; have dk := blk_frozen ba.out 0; have dj := blk_frozen ba.out 1; have di := blk_frozen ba.out 2; have dh := blk_frozen ba.out 3; have dg := blk_frozen ba.out 4; have df := blk_frozen ba.out 5; have de := blk_frozen ba.out 6))
  go_ret
  exact ⟨by first | rfl | (simp [errW_none, errW_some] <;> rfl) | (simp [*, errW_none, errW_some] <;> rfl), by repeat (first | (with_reducible first | exact HB.out | apply below_alloc | apply pw_below_drewN | apply below_drew1 | refine below_set ?_ bq.out) | exact HB.out)⟩
 rw [if_neg c7] at H
 have dI : decide (a2 ≤ a1) = false := decide_eq_false c7
 clear c7
 replace H := Option.bind_eq_some_iff.mp H
 obtain ⟨⟨dd, bP⟩, bY, H⟩ := H
 replace H : (some (!bP)) = some r := H
 have A10 := Aside0.mk bY
 clear bY
 obtain rfl := Option.some.inj H
 go_enter Tryd.func36, Tryd.ntmps36
 go_wp2_with (first | ((with_reducible refine gate_dst (N := 3) rfl ?_); refine box_event ?hg (N := 3) ?hd (cs := #[.string bn, .int .u64 bm, .int .u64 be, .slice bo bd.length bi, .int .u64 bl, .int .u64 bk, .int .u64 bj]) (t := 37) ?hr ?_; (case hd => rfl); (case hg => rfl); (case hr => first | (go_simp; done) | (go_simp; rfl)); intro bc hg w11 hbox hb; have ba := Aside0.mk (hbox); have bM := Aside0.mk ((by rw [hg]; exact (below_size zx6_0) : w.heap.size ≤ bc)); have bq := Aside0.mk ((by rw [hg]; exact (below_size zx6_0) : w.heap.size ≤ bc)); replace HB := Aside0.mk (below_step zx6_0 hb); clear hb hbox hg; have dc : w11.cell? ⟨bc, 0, none⟩ = some (.string bn) := (blk_cell ba.out 0).trans rfl; have db : w11.cell? ⟨bc, 1, none⟩ = some (.int .u64 bm) := (blk_cell ba.out 1).trans rfl; have da : w11.cell? ⟨bc, 2, none⟩ = some (.int .u64 be) := (blk_cell ba.out 2).trans rfl; have b9 : w11.cell? ⟨bc, 3, none⟩ = some (.slice bo bd.length bi) := (blk_cell ba.out 3).trans rfl; have b8 : w11.cell? ⟨bc, 4, none⟩ = some (.int .u64 bl) := (blk_cell ba.out 4).trans rfl; have b7 : w11.cell? ⟨bc, 5, none⟩ = some (.int .u64 bk) := (blk_cell ba.out 5).trans rfl; have b6 : w11.cell? ⟨bc, 6, none⟩ = some (.int .u64 bj) := (blk_cell ba.out 6).trans rfl; have b5 := blk_frozen ba.out 0; have b4 := blk_frozen ba.out 1; have b3 := blk_frozen ba.out 2; have b2 := blk_frozen ba.out 3; have b1 := blk_frozen ba.out 4; have b0 := blk_frozen ba.out 5; have bZ := blk_frozen ba.out 6) | ((with_reducible refine gate_callee (f := 51) rfl ?_); refine goesL_ (some 22) rfl rfl Tryd.func51 (by kernel_rfl) rfl #[.slice bo bd.length bi, .int .u64 a1] rfl (by (try simp only [List.map_toArray, List.map_cons, List.map_nil]); first | done | rfl | (simp only [List.length_drop, List.length_take]; rfl)) ?_; (with_reducible refine (slices_BinarySearch_uint64_uint64.calls k _ _ bd a1 dd bP _ ?side1 ?side2 A10.out).mono ?_); (case side1 => repeat (first | exact (Kd.C_below bU.out HB.out) | (with_reducible refine Kd.C_alloc ?_ _) | (with_reducible refine Kd.C_drewN ?_ _) | (with_reducible refine Kd.C_drew ?_))); (case side2 => exact bV.out); rintro e w' ⟨rfl, ⟨nd, rfl⟩⟩; refine ⟨_, rfl, ?_⟩))
 go_ret
 exact ⟨by first | rfl | (simp [errW_none, errW_some] <;> rfl) | (simp [*, errW_none, errW_some] <;> rfl), by repeat (first | (with_reducible first | exact HB.out | apply below_alloc | apply pw_below_drewN | apply below_drew1 | refine below_set ?_ bq.out) | exact HB.out)⟩

end Go.Proofs.YthhmpjapnkilcaaDoor.XLdg
end
section
/- What the functions of the translation answer, each as a plain Lean function, and that the code comes to it; for a law: its row. Conditions: none but those that each theorem names. Written by a program of this session (wip/xp). -/
namespace Go.Proofs.YthhmpjapnkilcaaDoor.XLdg
open Go.RowKit Go.Proofs.YthhmpjapnkilcaaDoorW.PrintWords Go.Proofs.YthhmpjapnkilcaaDoorW.PrintLast Go.Proofs.YthhmpjapnkilcaaDoorW.PrintMore
attribute [local go_sem] max2_int min2_int max_two min_two max_three min_three max_four min_four   -- for this text's walks alone
theorem cx21_bc3 {w : World} {g : Nat} {t : TypeId} {x0 x1 x2 : Value} (h : w.heap[g]? = some (.cells #[x0, x1, x2] t (0, 0))) : w.cell? ⟨g, 0, none⟩ = some x0 ∧ w.cell? ⟨g, 1, none⟩ = some x1 ∧ w.cell? ⟨g, 2, none⟩ = some x2 ∧ w.frozen? ⟨g, 0, none⟩ = false ∧ w.frozen? ⟨g, 1, none⟩ = false ∧ w.frozen? ⟨g, 2, none⟩ = false :=
 ⟨(blk_cell h 0).trans rfl, (blk_cell h 1).trans rfl, (blk_cell h 2).trans rfl, blk_frozen h 0, blk_frozen h 1, blk_frozen h 2⟩
theorem zx21_3 {p : Prop} (h : p := by first | (with_reducible assumption) | assumption) : p := h
theorem zx21_2 {p : Prop} (h : p := by (with_reducible repeat (first | refine blk_drewN ?_ _ | refine blk_drew ?_ | refine blk_alloc ?_ _)); exact ba.out) : p := h
theorem zx21_1 {p : Prop} (h : p := by repeat (first | (with_reducible first | exact HB.out | apply below_alloc | apply pw_below_drewN | apply below_drew1) | exact HB.out)) : p := h
theorem zx21_0 {p : Prop} (h : p := by repeat (first | (with_reducible first | exact HB.out | apply below_alloc | apply pw_below_drewN | apply below_drew1 | refine below_set ?_ br.out) | exact HB.out)) : p := h
set_option linter.unusedVariables false
set_option linter.unusedSimpArgs false

/-! ### postroomref10_Above: function 56 -/
def postroomref10_Above.l0 : Nat → List Int → Int → ByteArray → Int → List Int → Option (List Int)
 | 0, _, _, _, _, _ => none
 | k + 1, x3, x4, bn, bl, bk => if x4 < (bk.length : Int) then (if 0 ≤ x4 then (if (rd bk x4) = 112 then (postroomref10_Above.l0 k x3 (wrap64 (x4 + 1)) bn bl bk) else ((postroomref10_Low.f k bn bl bk).bind fun bu => (if (IntKind.u64.wrap (bl + (IntKind.u64.wrap (x4)))) > bu then (if x3.length < 17592186044416 then (postroomref10_Above.l0 k (x3 ++ [IntKind.u64.wrap (bl + (IntKind.u64.wrap (x4)))]) (wrap64 (x4 + 1)) bn bl bk) else (none)) else (postroomref10_Above.l0 k x3 (wrap64 (x4 + 1)) bn bl bk)))) else (none)) else (some x3)
def postroomref10_Above.f (k : Nat) (bh : ByteArray) (bf : Int) (bd : List Int) : Option (List Int) := postroomref10_Above.l0 k ([] : List Int) 0 bh bf bd
def postroomref10_Above.T5 : Bool × List (List Nat × List Nat) := (true, [([], []), ([0], [0]), ([], []), ([1, 2], [1, 2]), ([3], [3]), ([4], [4]), ([5], [5]), ([6], [6]), ([7, 6], [6, 7]), ([6], [6]), ([9, 6], [6, 9]), ([8, 10, 6], [6, 8, 10]), ([6], [6]), ([12, 6, 6], [6, 12]), ([11, 13, 6], [6, 11, 13]), ([6, 14], [6, 14])])
def postroomref10_Above.B5 : List Nat := [0, 1, 0, 7, 15, 31, 63, 127, 255, 127, 639, 2047, 127, 4223, 16383, 32767]
theorem postroomref10_Above.tab5 : rtab .any (opsOf Tryd.f56 5) = postroomref10_Above.T5 := by kernel_rfl
theorem postroomref10_Above.bits5 : waitsOk postroomref10_Above.T5.2 postroomref10_Above.B5 = true := by kernel_rfl
set_option maxHeartbeats 8000000 in
set_option maxRecDepth 100000 in
theorem postroomref10_Above.calls (k : Nat) (bh : ByteArray) (bf : Int) (bA : Option Addr) (bm : Nat) (bd : List Int) (r : List Int) (w : World) (bB : Kd.C (Kd.int .u8) w bA bd.length bd) (bC : bd.length ≤ bm) (h : postroomref10_Above.f k bh bf bd = some r) :
  Calls Tryd.prog 56 #[.agg #[.string bh, .int .u64 bf, .slice bA bd.length bm]] w fun e w' => ∃ v0_ : Value, e = .returned (v0_) ∧ Kd.R (Kd.int .u64) 24 w' w.heap.size (fun _ => True) v0_ r ∧ Below w.heap.size w w' := by
 have dk := Tryd.underlying84
 have bx := Aside0.mk bB
 have bD := Aside0.mk bC
 clear bB bC
 have HB := Aside0.mk (Below.refl w.heap.size w)
 have H : (postroomref10_Above.l0 k ([] : List Int) 0 bh bf bd) = some r := h
 clear h
 have H' := Aside0.mk H
 clear H
 go_enter Tryd.func56, Tryd.ntmps56
 go_wp2_with (first | ((with_reducible refine gate_dst (N := 1) rfl ?_); refine box_event ?hg (N := 1) ?hd (cs := #[.string bh, .int .u64 bf, .slice bA bd.length bm]) (t := 84) ?hr ?_; (case hd => rfl); (case hg => rfl); (case hr => first | (go_simp; done) | (go_simp; rfl)); intro bg hg w2 hbox hb; have ba := Aside0.mk (hbox); have di := Aside0.mk ((by rw [hg]; exact (below_size zx21_1) : w.heap.size ≤ bg)); have br := Aside0.mk ((by rw [hg]; exact (below_size zx21_1) : w.heap.size ≤ bg)); replace HB := Aside0.mk (below_step zx21_1 hb); clear hb hbox hg))
 go_loopg [3, 4] k (fun kq v3 v4 w' => ∃ (bo : List Int) (bc : Int), v4 = .int .i64 bc ∧ Aside0 (postroomref10_Above.l0 kq bo bc bh bf bd = some r) ∧ Aside0 (kq ≤ k) ∧ Aside0 (Kd.R (Kd.int .u64) 24 w' w.heap.size (fun _ => True) v3 bo) ∧ Aside0 (w'.heap[bg]? = some (.cells #[.string bh, .int .u64 bf, (.slice bA bd.length bm)] 84 (0, 0))) ∧ Aside0 (Below w.heap.size w w'))
 case atStart => exact ⟨(([] : List Int)), (0), (by first | rfl | (simp; done) | (simp [*]; done)), H', ⟨Nat.le_refl _⟩, ⟨by first | exact Kd.R_nil _ _ _ _ _ | exact Kd.N_nil _ _ _ _ _ | exact Kd.V_nil _ _ _ _ _ | exact Kd.Q_nil _ _ _ _ _ | exact Kd.S_nil _ _ _ _ _⟩, ⟨by (with_reducible repeat (first | refine blk_drewN ?_ _ | refine blk_drew ?_ | refine blk_alloc ?_ _)); exact ba.out⟩, ⟨by repeat (first | (with_reducible first | exact HB.out | apply below_alloc | apply pw_below_drewN | apply below_drew1 | refine below_set ?_ br.out) | exact HB.out)⟩⟩
 case round =>
  clear H'
  (try clear p2)
  obtain ⟨bo, bc, rfl, HA, HK1, bj, ba, HB⟩ := hrel
  cases gk with
  | zero => exact absurd HA.out (by simp [postroomref10_Above.l0])
  | succ k1 => ?_
  have H := HA.out
  clear HA
  simp only [postroomref10_Above.l0] at H
  by_cases c3 : bc < (bd.length : Int)
  case neg =>
   rw [if_neg c3] at H
   have dh : decide (bc < (bd.length : Int)) = false := decide_eq_false c3
   clear c3
   obtain rfl := Option.some.inj H
   obtain ⟨bY, bX, bW, bL, bK, bJ⟩ := cx21_bc3 ba.out
   go_wp2
   go_ret
   exact ⟨_, by first | rfl | (simp [errW_none, errW_some] <;> rfl) | (simp [*, errW_none, errW_some] <;> rfl), by (with_reducible repeat (first | apply Kd.R_alloc | apply Kd.R_drewN | apply Kd.R_drew)); exact bj.out, by repeat (first | (with_reducible first | exact HB.out | apply below_alloc | apply pw_below_drewN | apply below_drew1 | refine below_set ?_ br.out) | exact HB.out)⟩

  rw [if_pos c3] at H
  have dh : decide (bc < (bd.length : Int)) = true := decide_eq_true c3
  clear c3
  by_cases c4 : 0 ≤ bc
  case neg =>
   rw [if_neg c4] at H
   exact absurd H (by simp)
  rw [if_pos c4] at H
  have dl : decide (0 ≤ bc) = true := decide_eq_true c4
  clear c4
  by_cases c5 : (rd bd bc) = 112
  ·rw [if_pos c5] at H
   have dg : ((rd bd bc) == 112) = true := beq_iff_eq.mpr c5
   have df : ((rd bd bc) != 112) = false := bne_eq_false_iff_eq.mpr c5
   clear c5
   have H' := Aside0.mk H
   clear H
   obtain ⟨dd, dc, db, da, b9, b8⟩ := cx21_bc3 ba.out
   try go_wp2
   replace bj := Aside0.mk (Kd.R_drew bj.out)
   replace ba := Aside0.mk (blk_drew ba.out)
   replace HB := Aside0.mk (below_drew1 HB.out)
   have bq : 0 ≤ (bc : Int) := of_decide_eq_true zx21_3
   have bp : bc < (bd.length : Int) := of_decide_eq_true zx21_3
   obtain ⟨bi, bz, bb⟩ := Kd.at_int bx.out bc bq bp
   have be := bb
   cases bz
   replace bb := (HB.out.cell (World.block_lt_of_cell? w _ bb)).trans bb
   replace bq := eq_true bq
   replace bp := eq_true bp
   refine start_ (n := 16) (S := fun w' => w'.cell? ⟨bg, 0, none⟩ = some (.string bh) ∧ w'.cell? ⟨bg, 1, none⟩ = some (.int .u64 bf) ∧ w'.cell? ⟨bg, 2, none⟩ = some (.slice (some bi) bd.length bm) ∧ w'.cell? (bi.add (bc).toNat) = some (.int .u8 (rd bd bc))) (ds := []) #[Ff,Ff,Ff,Ff,Ff,Ff,Ff,Ff,Ff,Ff,Ff,Ff,Ff,Ff,Ff,Ff] (by kernel_rfl) rfl rfl ⟨(blk_cell ba.out 0).trans rfl, (blk_cell ba.out 1).trans rfl, (blk_cell ba.out 2).trans rfl, ((HB.out.cell (World.block_lt_of_cell? w _ be)).trans be)⟩ (fun hHeld => ?_); refine with_tabW postroomref10_Above.tab5 postroomref10_Above.bits5 (fun HT_ HW_ => ?_)
   generalize wr.drew = w7 at bj ba HB bb hHeld ⊢
   refine pp_ 0 (some 12) HT_.out ?_
   refine pp_ 2 (some 14) HT_.out ?_
   refine take_ (i := 1) (N := some 13) (v := ?_) (a' := ?_) #[Tt,Tt,Tt,Ff,Ff,Ff,Ff,Ff,Ff,Ff,Ff,Ff,Ff,Ff,Ff,Ff] rfl rfl (take_ofW HT_.out HW_.out (by kernel_rfl)) (fun _ _ _ h => h) (Or.inl ⟨by rfl, ?_⟩) hHeld ?_ ?_
   rotate_left
   ·rintro w' ⟨s0, s1, s2, s3⟩
    go_simp
    with_reducible rfl
   rotate_left
   ·simp only [Act.put, List.setIfInBounds_toArray, List.set_cons_zero, List.set_cons_succ, i64_w, i32_w]
    rfl
   refine pp_ 3 (some 15) HT_.out ?_
   refine take_ (i := 4) (N := some 16) (v := ?_) (a' := ?_) #[Tt,Tt,Tt,Tt,Tt,Ff,Ff,Ff,Ff,Ff,Ff,Ff,Ff,Ff,Ff,Ff] rfl rfl (take_ofW HT_.out HW_.out (by kernel_rfl)) (fun _ _ _ h => h) (Or.inl ⟨by rfl, ?_⟩) hHeld ?_ ?_
   rotate_left
   ·rintro w' ⟨s0, s1, s2, s3⟩
    go_simp
    with_reducible rfl
   rotate_left
   ·simp only [Act.put, List.setIfInBounds_toArray, List.set_cons_zero, List.set_cons_succ, i64_w, i32_w]
    rfl
   refine pp_ 5 (some 17) HT_.out ?_
   refine pp_ 6 (some 18) HT_.out ?_
   refine pu_ 7 (some 19) HT_.out ?_
   refine pu_ 8 (some 20) HT_.out ?_
   refine pu_ 9 (some 21) HT_.out ?_
   refine pu_ 10 (some 22) HT_.out ?_
   refine pu_ 11 (some 23) HT_.out ?_
   refine pu_ 12 (some 24) HT_.out ?_
   refine pu_ 13 (some 25) HT_.out ?_
   refine pu_ 14 (some 26) HT_.out ?_
   refine pp_ 15 (some 27) HT_.out ?_
   refine done_ (done_of HT_.out (by kernel_rfl)) ?_
   try go_wp2
   go_roundg k1
   case measure => have := HK1.out; omega
   case rel => exact ⟨(bo), (wrap64 (bc + 1)), (by first | rfl | (simp; done) | (simp [*]; done)), H', ⟨by have := HK1.out; omega⟩, ⟨by (with_reducible repeat (first | apply Kd.R_alloc | apply Kd.R_drewN | apply Kd.R_drew)); exact bj.out⟩, ⟨by (with_reducible repeat (first | refine blk_drewN ?_ _ | refine blk_drew ?_ | refine blk_alloc ?_ _)); exact ba.out⟩, ⟨by repeat (first | (with_reducible first | exact HB.out | apply below_alloc | apply pw_below_drewN | apply below_drew1 | refine below_set ?_ br.out) | exact HB.out)⟩⟩
  rw [if_neg c5] at H
  have dg : ((rd bd bc) == 112) = false := beq_eq_false_iff_ne.mpr c5
  have df : ((rd bd bc) != 112) = true := bne_iff_ne.mpr c5
  replace H := Option.bind_eq_some_iff.mp H
  obtain ⟨bu, A80, H⟩ := H
  replace H : (if (IntKind.u64.wrap (bf + (IntKind.u64.wrap (bc)))) > bu then (if bo.length < 17592186044416 then (postroomref10_Above.l0 k1 (bo ++ [IntKind.u64.wrap (bf + (IntKind.u64.wrap (bc)))]) (wrap64 (bc + 1)) bh bf bd) else (none)) else (postroomref10_Above.l0 k1 bo (wrap64 (bc + 1)) bh bf bd)) = some r := H
  have A8 := Aside0.mk A80
  clear A80
  by_cases c9 : (IntKind.u64.wrap (bf + (IntKind.u64.wrap (bc)))) > bu
  case neg =>
   rw [if_neg c9] at H
   have de : decide (bu < (IntKind.u64.wrap (bf + (IntKind.u64.wrap (bc))))) = false := decide_eq_false c9
   clear c9
   have H' := Aside0.mk H
   clear H
   obtain ⟨b1, b0, bZ, bO, bN, bM⟩ := cx21_bc3 ba.out
   try go_wp2
   replace bj := Aside0.mk (Kd.R_drew bj.out)
   replace ba := Aside0.mk (blk_drew ba.out)
   replace HB := Aside0.mk (below_drew1 HB.out)
   have bq : 0 ≤ (bc : Int) := of_decide_eq_true zx21_3
   have bp : bc < (bd.length : Int) := of_decide_eq_true zx21_3
   obtain ⟨bi, bz, bb⟩ := Kd.at_int bx.out bc bq bp
   have be := bb
   cases bz
   replace bb := (HB.out.cell (World.block_lt_of_cell? w _ bb)).trans bb
   replace bq := eq_true bq
   replace bp := eq_true bp
   refine start_ (n := 16) (S := fun w' => w'.cell? ⟨bg, 0, none⟩ = some (.string bh) ∧ w'.cell? ⟨bg, 1, none⟩ = some (.int .u64 bf) ∧ w'.cell? ⟨bg, 2, none⟩ = some (.slice (some bi) bd.length bm) ∧ w'.cell? (bi.add (bc).toNat) = some (.int .u8 (rd bd bc))) (ds := []) #[Ff,Ff,Ff,Ff,Ff,Ff,Ff,Ff,Ff,Ff,Ff,Ff,Ff,Ff,Ff,Ff] (by kernel_rfl) rfl rfl ⟨(blk_cell ba.out 0).trans rfl, (blk_cell ba.out 1).trans rfl, (blk_cell ba.out 2).trans rfl, ((HB.out.cell (World.block_lt_of_cell? w _ be)).trans be)⟩ (fun hHeld => ?_); refine with_tabW postroomref10_Above.tab5 postroomref10_Above.bits5 (fun HT_ HW_ => ?_)
   generalize wr.drew = w17 at bj ba HB bb hHeld ⊢
   refine pp_ 0 (some 12) HT_.out ?_
   refine pp_ 2 (some 14) HT_.out ?_
   refine take_ (i := 1) (N := some 13) (v := ?_) (a' := ?_) #[Tt,Tt,Tt,Ff,Ff,Ff,Ff,Ff,Ff,Ff,Ff,Ff,Ff,Ff,Ff,Ff] rfl rfl (take_ofW HT_.out HW_.out (by kernel_rfl)) (fun _ _ _ h => h) (Or.inl ⟨by rfl, ?_⟩) hHeld ?_ ?_
   rotate_left
   ·rintro w' ⟨s0, s1, s2, s3⟩
    go_simp
    with_reducible rfl
   rotate_left
   ·simp only [Act.put, List.setIfInBounds_toArray, List.set_cons_zero, List.set_cons_succ, i64_w, i32_w]
    rfl
   refine pp_ 3 (some 15) HT_.out ?_
   refine take_ (i := 4) (N := some 16) (v := ?_) (a' := ?_) #[Tt,Tt,Tt,Tt,Tt,Ff,Ff,Ff,Ff,Ff,Ff,Ff,Ff,Ff,Ff,Ff] rfl rfl (take_ofW HT_.out HW_.out (by kernel_rfl)) (fun _ _ _ h => h) (Or.inl ⟨by rfl, ?_⟩) hHeld ?_ ?_
   rotate_left
   ·rintro w' ⟨s0, s1, s2, s3⟩
    go_simp
    with_reducible rfl
   rotate_left
   ·simp only [Act.put, List.setIfInBounds_toArray, List.set_cons_zero, List.set_cons_succ, i64_w, i32_w]
    rfl
   refine pp_ 5 (some 17) HT_.out ?_
   refine pp_ 6 (some 18) HT_.out ?_
   refine pp_ 7 (some 19) HT_.out ?_
   refine pp_ 9 (some 21) HT_.out ?_
   refine pp_ 10 (some 22) HT_.out ?_
   refine take_ (i := 8) (N := some 20) (v := ?_) (a' := ?_) #[Tt,Tt,Tt,Tt,Tt,Tt,Tt,Tt,Tt,Tt,Tt,Ff,Ff,Ff,Ff,Ff] rfl rfl (take_ofW HT_.out HW_.out (by kernel_rfl)) (fun _ _ _ h => h) (Or.inl ⟨by rfl, ?_⟩) hHeld ?_ ?_
   rotate_left
   ·rintro w' ⟨s0, s1, s2, s3⟩
    go_simp
    with_reducible rfl
   rotate_left
   ·simp only [Act.put, List.setIfInBounds_toArray, List.set_cons_zero, List.set_cons_succ, i64_w, i32_w]
    rfl
   refine pp_ 11 (some 23) HT_.out ?_
   refine take_ (i := 12) (N := some 24) (v := ?_) (a' := ?_) #[Tt,Tt,Tt,Tt,Tt,Tt,Tt,Tt,Tt,Tt,Tt,Tt,Tt,Ff,Ff,Ff] rfl rfl (take_ofW HT_.out HW_.out (by kernel_rfl)) (fun _ _ _ h => h) (Or.inl ⟨by rfl, ?_⟩) hHeld ?_ ?_
   rotate_left
   ·rintro w' ⟨s0, s1, s2, s3⟩
    go_simp
    with_reducible rfl
   rotate_left
   ·simp only [Act.put, List.setIfInBounds_toArray, List.set_cons_zero, List.set_cons_succ, i64_w, i32_w]
    rfl
   refine one_ (i := 13) (N := some 25) #[Tt,Tt,Tt,Tt,Tt,Tt,Tt,Tt,Tt,Tt,Tt,Tt,Tt,Tt,Ff,Ff] rfl rfl (one_of HT_.out (by kernel_rfl)) (by decide) (fun K hK => ?_)
   refine goes_ Tryd.func55 (by kernel_rfl) rfl #[.agg #[.string bh, .int .u64 bf, .slice (some bi) bd.length bm]] (by rfl) rfl rfl (by (try simp only [List.map_toArray, List.map_cons, List.map_nil]); first | done | rfl | (simp only [List.length_drop, List.length_take]; rfl)) ?_
   with_reducible refine (postroomref10_Low.calls k1 bh bf _ _ bd bu _ ?side1 ?side2 A8.out).mono ?_
   (case side1 => repeat (first | exact (Kd.C_below bx.out HB.out) | (with_reducible refine Kd.C_alloc ?_ _) | (with_reducible refine Kd.C_drewN ?_ _) | (with_reducible refine Kd.C_drew ?_)))
   (case side2 => exact bD.out)
   rintro e w18 ⟨rfl, hb⟩
   refine ⟨_, rfl, ?_⟩
   replace bj := Aside0.mk (Kd.R_below (by (with_reducible repeat (first | apply Kd.R_alloc | apply Kd.R_drewN | apply Kd.R_drew)); exact bj.out) hb)
   replace ba := Aside0.mk (blk_below (g := bg) (o := .cells #[.string bh, .int .u64 bf, .slice (some bi) bd.length bm] 84 (0, 0)) zx21_2 hb)
   replace HB := Aside0.mk (below_step zx21_0 hb)
   (try clear hb)
   (try clear hb2)
   (try clear hk)
   (try clear hi)
   refine hK.out _ _ ⟨(blk_cell ba.out 0).trans rfl, (blk_cell ba.out 1).trans rfl, (blk_cell ba.out 2).trans rfl, ((HB.out.cell (World.block_lt_of_cell? w _ be)).trans be)⟩ (fun hHeld => ?_)
   clear hK K
   refine norm_ (a' := ?_) ?_ ?_
   rotate_left
   ·show Act.put _ (some 25) _ = _
    simp only [Act.put, List.setIfInBounds_toArray, List.set_cons_zero, List.set_cons_succ, i64_w, i32_w]
    rfl
   refine pp_ 14 (some 26) HT_.out ?_
   refine pp_ 15 (some 27) HT_.out ?_
   refine done_ (done_of HT_.out (by kernel_rfl)) ?_
   try go_wp2
   go_roundg k1
   case measure => have := HK1.out; omega
   case rel => exact ⟨(bo), (wrap64 (bc + 1)), (by first | rfl | (simp; done) | (simp [*]; done)), H', ⟨by have := HK1.out; omega⟩, ⟨by (with_reducible repeat (first | apply Kd.R_alloc | apply Kd.R_drewN | apply Kd.R_drew)); exact bj.out⟩, ⟨by (with_reducible repeat (first | refine blk_drewN ?_ _ | refine blk_drew ?_ | refine blk_alloc ?_ _)); exact ba.out⟩, ⟨by repeat (first | (with_reducible first | exact HB.out | apply below_alloc | apply pw_below_drewN | apply below_drew1 | refine below_set ?_ br.out) | exact HB.out)⟩⟩
  rw [if_pos c9] at H
  have de : decide (bu < (IntKind.u64.wrap (bf + (IntKind.u64.wrap (bc))))) = true := decide_eq_true c9
  clear c9
  by_cases c10 : bo.length < 17592186044416
  case neg =>
   rw [if_neg c10] at H
   exact absurd H (by simp)
  rw [if_pos c10] at H
  have bH := Aside0.mk c10
  clear c10
  obtain ⟨bE, bw⟩ : ∃ y_ : List Int, y_ = (bo ++ [IntKind.u64.wrap (bf + (IntKind.u64.wrap (bc)))]) := ⟨_, rfl⟩
  replace H : (postroomref10_Above.l0 k1 bE (wrap64 (bc + 1)) bh bf bd) = some r := by first | (rw [bw]; with_reducible exact H) | (have H2_ := (Option.bind_some _ _).symm.trans H; rw [bw]; with_reducible exact H2_) | (have H2_ := (Option.bind_some _ _).symm.trans H; with_reducible exact H2_) | with_reducible exact H | (rw [bw]; exact H) | exact H
  have bG := Aside0.mk bw
  clear bw
  have H' := Aside0.mk H
  clear H
  obtain ⟨b7, b6, b5, bV, bU, bS⟩ := cx21_bc3 ba.out
  try go_wp2
  replace bj := Aside0.mk (Kd.R_drew bj.out)
  replace ba := Aside0.mk (blk_drew ba.out)
  replace HB := Aside0.mk (below_drew1 HB.out)
  have bq : 0 ≤ (bc : Int) := of_decide_eq_true zx21_3
  have bp : bc < (bd.length : Int) := of_decide_eq_true zx21_3
  obtain ⟨bi, bz, bb⟩ := Kd.at_int bx.out bc bq bp
  have be := bb
  cases bz
  replace bb := (HB.out.cell (World.block_lt_of_cell? w _ bb)).trans bb
  replace bq := eq_true bq
  replace bp := eq_true bp
  refine start_ (n := 16) (S := fun w' => w'.cell? ⟨bg, 0, none⟩ = some (.string bh) ∧ w'.cell? ⟨bg, 1, none⟩ = some (.int .u64 bf) ∧ w'.cell? ⟨bg, 2, none⟩ = some (.slice (some bi) bd.length bm) ∧ w'.cell? (bi.add (bc).toNat) = some (.int .u8 (rd bd bc))) (ds := []) #[Ff,Ff,Ff,Ff,Ff,Ff,Ff,Ff,Ff,Ff,Ff,Ff,Ff,Ff,Ff,Ff] (by kernel_rfl) rfl rfl ⟨(blk_cell ba.out 0).trans rfl, (blk_cell ba.out 1).trans rfl, (blk_cell ba.out 2).trans rfl, ((HB.out.cell (World.block_lt_of_cell? w _ be)).trans be)⟩ (fun hHeld => ?_); refine with_tabW postroomref10_Above.tab5 postroomref10_Above.bits5 (fun HT_ HW_ => ?_)
  generalize wr.drew = w12 at bj ba HB bb hHeld ⊢
  refine pp_ 0 (some 12) HT_.out ?_
  refine pp_ 2 (some 14) HT_.out ?_
  refine take_ (i := 1) (N := some 13) (v := ?_) (a' := ?_) #[Tt,Tt,Tt,Ff,Ff,Ff,Ff,Ff,Ff,Ff,Ff,Ff,Ff,Ff,Ff,Ff] rfl rfl (take_ofW HT_.out HW_.out (by kernel_rfl)) (fun _ _ _ h => h) (Or.inl ⟨by rfl, ?_⟩) hHeld ?_ ?_
  rotate_left
  ·rintro w' ⟨s0, s1, s2, s3⟩
   go_simp
   with_reducible rfl
  rotate_left
  ·simp only [Act.put, List.setIfInBounds_toArray, List.set_cons_zero, List.set_cons_succ, i64_w, i32_w]
   rfl
  refine pp_ 3 (some 15) HT_.out ?_
  refine take_ (i := 4) (N := some 16) (v := ?_) (a' := ?_) #[Tt,Tt,Tt,Tt,Tt,Ff,Ff,Ff,Ff,Ff,Ff,Ff,Ff,Ff,Ff,Ff] rfl rfl (take_ofW HT_.out HW_.out (by kernel_rfl)) (fun _ _ _ h => h) (Or.inl ⟨by rfl, ?_⟩) hHeld ?_ ?_
  rotate_left
  ·rintro w' ⟨s0, s1, s2, s3⟩
   go_simp
   with_reducible rfl
  rotate_left
  ·simp only [Act.put, List.setIfInBounds_toArray, List.set_cons_zero, List.set_cons_succ, i64_w, i32_w]
   rfl
  refine pp_ 5 (some 17) HT_.out ?_
  refine pp_ 6 (some 18) HT_.out ?_
  refine pp_ 7 (some 19) HT_.out ?_
  refine pp_ 9 (some 21) HT_.out ?_
  refine pp_ 10 (some 22) HT_.out ?_
  refine take_ (i := 8) (N := some 20) (v := ?_) (a' := ?_) #[Tt,Tt,Tt,Tt,Tt,Tt,Tt,Tt,Tt,Tt,Tt,Ff,Ff,Ff,Ff,Ff] rfl rfl (take_ofW HT_.out HW_.out (by kernel_rfl)) (fun _ _ _ h => h) (Or.inl ⟨by rfl, ?_⟩) hHeld ?_ ?_
  rotate_left
  ·rintro w' ⟨s0, s1, s2, s3⟩
   go_simp
   with_reducible rfl
  rotate_left
  ·simp only [Act.put, List.setIfInBounds_toArray, List.set_cons_zero, List.set_cons_succ, i64_w, i32_w]
   rfl
  refine pp_ 11 (some 23) HT_.out ?_
  refine take_ (i := 12) (N := some 24) (v := ?_) (a' := ?_) #[Tt,Tt,Tt,Tt,Tt,Tt,Tt,Tt,Tt,Tt,Tt,Tt,Tt,Ff,Ff,Ff] rfl rfl (take_ofW HT_.out HW_.out (by kernel_rfl)) (fun _ _ _ h => h) (Or.inl ⟨by rfl, ?_⟩) hHeld ?_ ?_
  rotate_left
  ·rintro w' ⟨s0, s1, s2, s3⟩
   go_simp
   with_reducible rfl
  rotate_left
  ·simp only [Act.put, List.setIfInBounds_toArray, List.set_cons_zero, List.set_cons_succ, i64_w, i32_w]
   rfl
  refine one_ (i := 13) (N := some 25) #[Tt,Tt,Tt,Tt,Tt,Tt,Tt,Tt,Tt,Tt,Tt,Tt,Tt,Tt,Ff,Ff] rfl rfl (one_of HT_.out (by kernel_rfl)) (by decide) (fun K hK => ?_)
  refine goes_ Tryd.func55 (by kernel_rfl) rfl #[.agg #[.string bh, .int .u64 bf, .slice (some bi) bd.length bm]] (by rfl) rfl rfl (by (try simp only [List.map_toArray, List.map_cons, List.map_nil]); first | done | rfl | (simp only [List.length_drop, List.length_take]; rfl)) ?_
  with_reducible refine (postroomref10_Low.calls k1 bh bf _ _ bd bu _ ?side1 ?side2 A8.out).mono ?_
  (case side1 => repeat (first | exact (Kd.C_below bx.out HB.out) | (with_reducible refine Kd.C_alloc ?_ _) | (with_reducible refine Kd.C_drewN ?_ _) | (with_reducible refine Kd.C_drew ?_)))
  (case side2 => exact bD.out)
  rintro e w13 ⟨rfl, hb⟩
  refine ⟨_, rfl, ?_⟩
  replace bj := Aside0.mk (Kd.R_below (by (with_reducible repeat (first | apply Kd.R_alloc | apply Kd.R_drewN | apply Kd.R_drew)); exact bj.out) hb)
  replace ba := Aside0.mk (blk_below (g := bg) (o := .cells #[.string bh, .int .u64 bf, .slice (some bi) bd.length bm] 84 (0, 0)) zx21_2 hb)
  replace HB := Aside0.mk (below_step zx21_0 hb)
  (try clear hb)
  (try clear hb2)
  (try clear hk)
  (try clear hi)
  refine hK.out _ _ ⟨(blk_cell ba.out 0).trans rfl, (blk_cell ba.out 1).trans rfl, (blk_cell ba.out 2).trans rfl, ((HB.out.cell (World.block_lt_of_cell? w _ be)).trans be)⟩ (fun hHeld => ?_)
  clear hK K
  refine norm_ (a' := ?_) ?_ ?_
  rotate_left
  ·show Act.put _ (some 25) _ = _
   simp only [Act.put, List.setIfInBounds_toArray, List.set_cons_zero, List.set_cons_succ, i64_w, i32_w]
   rfl
  refine pp_ 14 (some 26) HT_.out ?_
  refine pp_ 15 (some 27) HT_.out ?_
  refine done_ (done_of HT_.out (by kernel_rfl)) ?_
  obtain ⟨b4, b3, b2, bR, bQ, bP⟩ := cx21_bc3 ba.out
  try go_wp2_with (first | ((with_reducible refine gate_builtin (b := .append) (xs := #[.tmp 28, .tmp 34]) rfl ?_); at_builtin; refine Kd.R_append (Kd.int .u64) (w0 := w) w.heap.size rfl (.tmp 28) (.tmp 34) 35 24 (.int .u64 0) 8 rfl Tryd.underlying35 info24 rfl (by decide) (by omega) u3 bo (IntKind.u64.wrap (bf + (IntKind.u64.wrap (bc)))) [.int .u64 (IntKind.u64.wrap (bf + (IntKind.u64.wrap (bc))))] (fun _ => True) (fun _ => False) rfl rfl ?aP (fun _ hk => hk.elim) ?aF ?aO ?aB ?aS ?aL ?_; (case aP => exact rfl); (case aB => exact zx21_0); (case aF => exact (fun _ _ => trivial)); (case aO => exact (by (with_reducible repeat (first | apply Kd.R_alloc | apply Kd.R_drewN | apply Kd.R_drew)); exact bj.out)); (case aS => exact (below_size zx21_0)); (case aL => have := bH.out; omega); intro dj w15 ho hb hg hat; rw [← bG.out] at ho; have n0_ := Aside0.mk (blk_grown (g := bg) (o := .cells #[.string bh, .int .u64 bf, .slice (some bi) bd.length bm] 84 (0, 0)) zx21_2 hg (Kd.R_ne bj.out ba.out (by decide))); have n1_ := Aside0.mk (hb); have n2_ := Aside0.mk (ho); clear ba; clear HB; clear bj; have ba := n0_; have HB := n1_; have bI := n2_; clear n0_ n1_ n2_; clear ho hb hg hat))
  go_roundg k1
  case measure => have := HK1.out; omega
  case rel => exact ⟨(bE), (wrap64 (bc + 1)), (by first | rfl | (simp; done) | (simp [*]; done)), H', ⟨by have := HK1.out; omega⟩, ⟨by (with_reducible repeat (first | apply Kd.R_alloc | apply Kd.R_drewN | apply Kd.R_drew)); exact bI.out⟩, ⟨by (with_reducible repeat (first | refine blk_drewN ?_ _ | refine blk_drew ?_ | refine blk_alloc ?_ _)); exact ba.out⟩, ⟨by repeat (first | (with_reducible first | exact HB.out | apply below_alloc | apply pw_below_drewN | apply below_drew1 | refine below_set ?_ br.out) | exact HB.out)⟩⟩
end Go.Proofs.YthhmpjapnkilcaaDoor.XLdg
end
section
/- What the functions of the translation answer, each as a plain Lean function, and that the code comes to it; for a law: its row. Conditions: none but those that each theorem names. Written by a program of this session (wip/xp). -/
namespace Go.Proofs.YthhmpjapnkilcaaDoor.XLdg
open Go.RowKit Go.Proofs.YthhmpjapnkilcaaDoorW.PrintWords Go.Proofs.YthhmpjapnkilcaaDoorW.PrintLast Go.Proofs.YthhmpjapnkilcaaDoorW.PrintMore
attribute [local go_sem] max2_int min2_int max_two min_two max_three min_three max_four min_four   -- for this text's walks alone
set_option linter.unusedVariables false
set_option linter.unusedSimpArgs false

/-! ### ledger_Dest_right: function 38 -/
mutual
def ledger_Dest_right.j0 : Nat → Bool → ByteArray → Int → Int → List Int → Int → Int → Int → Int → Int → List (S37) → Option (Bool)
 | 0, _, _, _, _, _, _, _, _, _, _, _ => none
 | k + 1, x32, bO, bA, bu, br, bH, bG, bE, bI, bD, bN => if x32 = true then (some false) else (ledger_Dest_right.l0 k bu br (br.length : Int) 0 bO bA bu br bH bG bE bI bD bN)
def ledger_Dest_right.l0 : Nat → Int → List Int → Int → Int → ByteArray → Int → Int → List Int → Int → Int → Int → Int → Int → List (S37) → Option (Bool)
 | 0, _, _, _, _, _, _, _, _, _, _, _, _, _, _ => none
 | k + 1, x5, x36, x37, x38, bO, bA, bu, br, bH, bG, bE, bI, bD, bN => if x38 < x37 then (if 0 ≤ x38 then (if x38 < (x36.length : Int) then (if (rd x36 x38) ≤ x5 then (some false) else (if (rd x36 x38) ≥ bD then (some false) else (ledger_Dest_right.l0 k (rd x36 x38) x36 x37 (wrap64 (x38 + 1)) bO bA bu br bH bG bE bI bD bN))) else (none)) else (none)) else (if (IntKind.u64.wrap ((IntKind.u64.wrap (bD - bA)) - (IntKind.u64.wrap ((IntKind.u64.wrap (bu - bA)) + (IntKind.u64.wrap ((br.length : Int))))))) = 0 then (some ((IntKind.u64.wrap ((IntKind.u64.wrap (bH + bG)) + bE)) == (IntKind.u64.wrap ((IntKind.u64.wrap (bu - bA)) + (IntKind.u64.wrap ((br.length : Int))))))) else (if bu ≥ bI then (some ((IntKind.u64.wrap ((IntKind.u64.wrap (bH + bG)) + bE)) == (IntKind.u64.wrap ((IntKind.u64.wrap (bu - bA)) + (IntKind.u64.wrap ((br.length : Int))))))) else (some false)))
end
def ledger_Dest_right.f (k : Nat) (bf : ByteArray) (bc : Int) (bd : Int) (bb : List Int) (bn : Int) (bm : Int) (bl : Int) (bp : Int) (bg : Int) (bo : List (S37)) : Option (Bool) := (label_Name.f bf).bind fun gC => (if gC = true then (if bc < 1 then (ledger_Dest_right.j0 k true bf bc bd bb bn bm bl bp bg bo) else (if bd < bc then (ledger_Dest_right.j0 k true bf bc bd bb bn bm bl bp bg bo) else (ledger_Dest_right.j0 k (decide (bg < bd)) bf bc bd bb bn bm bl bp bg bo))) else (ledger_Dest_right.j0 k true bf bc bd bb bn bm bl bp bg bo))
end Go.Proofs.YthhmpjapnkilcaaDoor.XLdg
end
section
/- What the functions of the translation answer, each as a plain Lean function, and that the code comes to it; for a law: its row. Conditions: none but those that each theorem names. Written by a program of this session (wip/xp). -/
namespace Go.Proofs.YthhmpjapnkilcaaDoor.XLdg
open Go.RowKit Go.Proofs.YthhmpjapnkilcaaDoorW.PrintWords Go.Proofs.YthhmpjapnkilcaaDoorW.PrintLast Go.Proofs.YthhmpjapnkilcaaDoorW.PrintMore
attribute [local go_sem] max2_int min2_int max_two min_two max_three min_three max_four min_four   -- for this text's walks alone
set_option linter.unusedVariables false
set_option linter.unusedSimpArgs false

/-! ### ledger_Right: function 24 -/
mutual
def ledger_Right.j0 : Nat → Bool → Int → Int → List (S37) → Option (Bool)
 | 0, _, _, _, _ => none
 | k + 1, x20, bK, bJ, bx => if x20 = true then (some false) else (ledger_Right.l0 k bx (bx.length : Int) 0 bK bJ bx)
def ledger_Right.l0 : Nat → List (S37) → Int → Int → Int → Int → List (S37) → Option (Bool)
 | 0, _, _, _, _, _, _ => none
 | k + 1, x22, x23, x24, bK, bJ, bx => if x24 < x23 then (if 0 ≤ x24 then (if x24 < (x22.length : Int) then ((ledger_Dest_right.f k ((rd_T37 x22 x24).f0) ((rd_T37 x22 x24).f1) ((rd_T37 x22 x24).f2) ((rd_T37 x22 x24).f3) ((rd_T37 x22 x24).f4) ((rd_T37 x22 x24).f5) ((rd_T37 x22 x24).f6) bK bJ bx).bind fun di => (if di = true then (if x24 ≤ (bx.length : Int) then ((ledger_place.f (bx.take (x24 : Int).toNat) ((rd_T37 x22 x24).f0)).bind fun bD => (if bD ≥ 0 then (some false) else (ledger_Right.l0 k x22 x23 (wrap64 (x24 + 1)) bK bJ bx))) else (none)) else (some false))) else (none)) else (none)) else (some true)
end
def ledger_Right.f (k : Nat) (bh : Int) (bj : Int) (bb : List (S37)) : Option (Bool) := if bh < 1 then (ledger_Right.j0 k true bh bj bb) else (if bh > bj then (ledger_Right.j0 k true bh bj bb) else (ledger_Right.j0 k (decide ((bb.length : Int) > 4)) bh bj bb))
def ledger_Right.T6 : Bool × List (List Nat × List Nat) := (true, [([], []), ([], []), ([0, 1], [0, 1]), ([2], [2]), ([3, 2], [3]), ([4], [4]), ([5, 4], [4, 5]), ([4], [4]), ([6, 7, 4], [4, 6, 7]), ([4], [4]), ([9, 4], [4, 9]), ([8, 10, 4, 4], [4, 8, 10]), ([11, 4], [4, 11]), ([4, 12], [4, 12])])
def ledger_Right.B6 : List Nat := [0, 0, 3, 7, 15, 31, 63, 31, 255, 31, 543, 2047, 4095, 8191]
end Go.Proofs.YthhmpjapnkilcaaDoor.XLdg
end
section
/- What the functions of the translation answer, each as a plain Lean function, and that the code comes to it; for a law: its row. Conditions: none but those that each theorem names. Written by a program of this session (wip/xp). -/
namespace Go.Proofs.YthhmpjapnkilcaaDoor.XLdg
open Go.RowKit Go.Proofs.YthhmpjapnkilcaaDoorW.PrintWords Go.Proofs.YthhmpjapnkilcaaDoorW.PrintLast Go.Proofs.YthhmpjapnkilcaaDoorW.PrintMore
attribute [local go_sem] max2_int min2_int max_two min_two max_three min_three max_four min_four   -- for this text's walks alone
set_option linter.unusedVariables false
set_option linter.unusedSimpArgs false

/-! ### postroomref10_Pending: function 28 -/
mutual
def postroomref10_Pending.l0 : Nat → ByteArray → List Int → Int → Int → Int → Int → List (S84) → Option (List Int)
 | 0, _, _, _, _, _, _, _ => none
 | k + 1, x1, x5, x6, x7, bk, bf, bj => if x6 ≥ 0 then (postroomref10_Pending.j1 k x1 x5 x6 x7 (decide (x7 < bf)) bk bf bj) else (postroomref10_Pending.j1 k x1 x5 x6 x7 false bk bf bj)
def postroomref10_Pending.j1 : Nat → ByteArray → List Int → Int → Int → Bool → Int → Int → List (S84) → Option (List Int)
 | 0, _, _, _, _, _, _, _, _ => none
 | k + 1, x1, x5, x6, x7, x18, bk, bf, bj => if x18 = true then ((postroomref10_Waits.f k bk bf bj x1 x7).bind fun br => (if br = true then (if x5.length < 17592186044416 then (postroomref10_Pending.l0 k x1 (x5 ++ [x7]) x6 (IntKind.u64.wrap (x7 + 1)) bk bf bj) else (none)) else (postroomref10_Pending.l0 k x1 x5 x6 (IntKind.u64.wrap (x7 + 1)) bk bf bj))) else (some x5)
end
def postroomref10_Pending.f (k : Nat) (bd : Int) (bc : Int) (ba : List (S84)) (a1 : ByteArray) : Option (List Int) := (postroomref10_place.f k bd bc ba a1).bind fun bh => (postroomref10_Pending.l0 k a1 ([] : List Int) bh 1 bd bc ba)
end Go.Proofs.YthhmpjapnkilcaaDoor.XLdg
end
