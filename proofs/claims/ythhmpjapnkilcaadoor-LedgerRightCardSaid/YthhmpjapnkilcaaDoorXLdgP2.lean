/- Texts of this seat, in one. Conditions: those that each theorem names. -/
import Derived.Test.YthhmpjapnkilcaaDoorXLdgP1
import Derived.Test.YthhmpjapnkilcaaDoorGCloneU
import Derived.Test.YthhmpjapnkilcaaDoorGPlace
section
/- What the functions of the translation answer, each as a plain Lean function, and that the code comes to it; for a law: its row. Conditions: none but those that each theorem names. Written by a program of this session (wip/xp). -/
namespace Go.Proofs.YthhmpjapnkilcaaDoor.XLdg
open Go.RowKit Go.Proofs.YthhmpjapnkilcaaDoorW.PrintWords Go.Proofs.YthhmpjapnkilcaaDoorW.PrintLast Go.Proofs.YthhmpjapnkilcaaDoorW.PrintMore
attribute [local go_sem] max2_int min2_int max_two min_two max_three min_three max_four min_four   -- for this text's walks alone
theorem zx5_0 {p : Prop} (h : p := by (with_reducible repeat (first | refine blk_drewN ?_ _ | refine blk_drew ?_ | refine blk_alloc ?_ _)); exact bg.out) : p := h
theorem zx5_5 {p : Prop} (h : p := by (with_reducible repeat (first | refine blk_drewN ?_ _ | refine blk_drew ?_ | refine blk_alloc ?_ _)); exact bd.out) : p := h
theorem zx5_4 {p : Prop} (h : p := by repeat (first | (with_reducible first | exact HB.out | apply below_alloc | apply pw_below_drewN | apply below_drew1) | exact HB.out)) : p := h
theorem zx5_3 {p : Prop} (h : p := by (try simp only [List.map_toArray, List.map_cons, List.map_nil]); first | done | rfl | (simp only [List.length_drop, List.length_take]; rfl)) : p := h
theorem zx5_1 {p : Prop} (h : p := by repeat (first | (with_reducible first | exact HB.out | apply below_alloc | apply pw_below_drewN | apply below_drew1 | refine below_set ?_ bx.out) | exact HB.out)) : p := h
theorem zx5_2 {p : Prop} (h : p := by repeat (first | (with_reducible first | exact HB.out | apply below_alloc | apply pw_below_drewN | apply below_drew1 | refine below_set ?_ bx.out | refine below_set ?_ bH.out) | exact HB.out)) : p := h
theorem zx5_6 {p : Prop} (h : p := by repeat (first | (with_reducible first | exact HB.out | apply below_alloc | apply pw_below_drewN | apply below_drew1 | refine below_set ?_ bx.out | refine below_set ?_ bH.out | refine below_set ?_ bY.out) | exact HB.out)) : p := h
set_option linter.unusedVariables false
set_option linter.unusedSimpArgs false

/-! ### ledger_Find: function 17 -/
def ledger_Find.f (bk : Int) (bj : Int) (ba : List (S37)) (a1 : ByteArray) : Option (ByteArray × Int × Int × List Int × Int × Int × Int × Bool) := (ledger_place.f ba a1).bind fun bb => (if bb < 0 then (some ((⟨#[]⟩ : ByteArray), 0, 0, ([] : List Int), 0, 0, 0, false)) else (if 0 ≤ bb then (if bb < (ba.length : Int) then ((slices_Clone_uint64_uint64.f ((rd_T37 ba bb).f3)).bind fun bm => (some ((rd_T37 ba bb).f0, (rd_T37 ba bb).f1, (rd_T37 ba bb).f2, bm, (rd_T37 ba bb).f4, (rd_T37 ba bb).f5, (rd_T37 ba bb).f6, true))) else (none)) else (none)))
set_option maxHeartbeats 8000000 in
set_option maxRecDepth 100000 in
theorem ledger_Find.calls (bk : Int) (bj : Int) (bl : Option Addr) (bi : Nat) (ba : List (S37)) (a1 : ByteArray) (r1 : ByteArray) (r2 : Int) (r3 : Int) (r4 : List Int) (r5 : Int) (r6 : Int) (r7 : Int) (r8 : Bool) (w : World) (bU : Kd.C k37 w bl ba.length ba) (bV : ba.length ≤ bi) (h : ledger_Find.f bk bj ba a1 = some (r1, r2, r3, r4, r5, r6, r7, r8)) :
  Calls Tryd.prog 17 #[.agg #[.int .u64 bk, .int .u64 bj, .slice bl ba.length bi], .string a1] w fun e w' => ∃ v3_ : Value, e = .returned (.tuple #[.agg #[.string r1, .int .u64 r2, .int .u64 r3, v3_, .int .u64 r5, .int .u64 r6, .int .u64 r7], .bool r8]) ∧ Kd.R (Kd.int .u64) 24 w' w.heap.size (fun _ => True) v3_ r4 ∧ Below w.heap.size w w' := by
 have gw := Tryd.underlying27
 have gv := Tryd.underlying37
 have bQ := Aside0.mk bU
 have bX := Aside0.mk bV
 clear bU bV
 have HB := Aside0.mk (Below.refl w.heap.size w)
 have H : ((ledger_place.f ba a1).bind fun bb => (if bb < 0 then (some ((⟨#[]⟩ : ByteArray), 0, 0, ([] : List Int), 0, 0, 0, false)) else (if 0 ≤ bb then (if bb < (ba.length : Int) then ((slices_Clone_uint64_uint64.f ((rd_T37 ba bb).f3)).bind fun bm => (some ((rd_T37 ba bb).f0, (rd_T37 ba bb).f1, (rd_T37 ba bb).f2, bm, (rd_T37 ba bb).f4, (rd_T37 ba bb).f5, (rd_T37 ba bb).f6, true))) else (none)) else (none)))) = some (r1, r2, r3, r4, r5, r6, r7, r8) := h
 clear h
 replace H := Option.bind_eq_some_iff.mp H
 obtain ⟨bb, A30, H⟩ := H
 replace H : (if bb < 0 then (some ((⟨#[]⟩ : ByteArray), 0, 0, ([] : List Int), 0, 0, 0, false)) else (if 0 ≤ bb then (if bb < (ba.length : Int) then ((slices_Clone_uint64_uint64.f ((rd_T37 ba bb).f3)).bind fun bm => (some ((rd_T37 ba bb).f0, (rd_T37 ba bb).f1, (rd_T37 ba bb).f2, bm, (rd_T37 ba bb).f4, (rd_T37 ba bb).f5, (rd_T37 ba bb).f6, true))) else (none)) else (none))) = some (r1, r2, r3, r4, r5, r6, r7, r8) := H
 have A3 := Aside0.mk A30
 clear A30
 by_cases c4 : bb < 0
 ·rw [if_pos c4] at H
  have gk : decide (bb < 0) = true := decide_eq_true c4
  clear c4
  simp only [Option.some.injEq, Prod.mk.injEq] at H
  obtain ⟨rfl, rfl, rfl, rfl, rfl, rfl, rfl, rfl⟩ := H
  go_enter Tryd.func17, Tryd.ntmps17
  go_wp2_with (first | ((with_reducible refine gate_dst (N := 2) rfl ?_); refine box_event ?hg (N := 2) ?hd (cs := #[.int .u64 bk, .int .u64 bj, .slice bl ba.length bi]) (t := 27) ?hr ?_; (case hd => rfl); (case hg => rfl); (case hr => first | (go_simp; done) | (go_simp; rfl)); intro be hg w5 hbox hb; have bg := Aside0.mk (hbox); have b2 := Aside0.mk ((by rw [hg]; exact (below_size zx5_4) : w.heap.size ≤ be)); have bx := Aside0.mk ((by rw [hg]; exact (below_size zx5_4) : w.heap.size ≤ be)); replace HB := Aside0.mk (below_step zx5_4 hb); clear hb hbox hg) | ((with_reducible refine gate_dst (N := 4) rfl ?_); refine box_event ?hg (N := 4) ?hd (cs := #[.string (⟨#[]⟩ : ByteArray), .int .u64 0, .int .u64 0, .slice none 0 0, .int .u64 0, .int .u64 0, .int .u64 0]) (t := 37) ?hr ?_; (case hd => rfl); (case hg => rfl); (case hr => first | (go_simp; done) | (go_simp; rfl)); intro bc hg w6 hbox hb; have bd := Aside0.mk (hbox); have b1 := Aside0.mk ((by rw [hg]; exact (below_size zx5_1) : w.heap.size ≤ bc)); have bH := Aside0.mk ((by rw [hg]; exact (below_size zx5_1) : w.heap.size ≤ bc)); replace HB := Aside0.mk (below_step zx5_1 hb); have bq := Aside0.mk ((by rw [hg]; exact Nat.ne_of_lt (blk_lt (g := be) (o := .cells #[.int .u64 bk, .int .u64 bj, .slice bl ba.length bi] 27 (0, 0)) zx5_0) : be ≠ bc)); have bp := Aside0.mk ((by rw [hg]; exact Nat.ne_of_gt (blk_lt (g := be) (o := .cells #[.int .u64 bk, .int .u64 bj, .slice bl ba.length bi] 27 (0, 0)) zx5_0) : bc ≠ be)); replace bg := Aside0.mk (blk_below (g := be) (o := .cells #[.int .u64 bk, .int .u64 bj, .slice bl ba.length bi] 27 (0, 0)) zx5_0 hb); clear hb hbox hg; have gy := bq.out; have gx := bp.out; have gh : w6.cell? ⟨be, 0, none⟩ = some (.int .u64 bk) := (blk_cell bg.out 0).trans rfl; have gg : w6.cell? ⟨be, 1, none⟩ = some (.int .u64 bj) := (blk_cell bg.out 1).trans rfl; have gf : w6.cell? ⟨be, 2, none⟩ = some (.slice bl ba.length bi) := (blk_cell bg.out 2).trans rfl; have ge := blk_frozen bg.out 0; have gc := blk_frozen bg.out 1; have gb := blk_frozen bg.out 2) | ((with_reducible refine gate_callee (f := 31) rfl ?_); refine goesL_ (some 11) rfl rfl Tryd.func31 (by kernel_rfl) rfl #[.slice bl ba.length bi, .string a1] rfl zx5_3 ?_; (with_reducible refine (ledger_place.calls _ _ ba a1 bb _ ?side1 ?side2 A3.out).mono ?_); (case side1 => repeat (first | exact (Kd.C_below bQ.out HB.out) | (with_reducible refine Kd.C_alloc ?_ _) | (with_reducible refine Kd.C_drewN ?_ _) | (with_reducible refine Kd.C_drew ?_))); (case side2 => exact bX.out); rintro e w9 ⟨rfl, hb⟩; refine ⟨_, rfl, ?_⟩; replace bg := Aside0.mk (blk_below (g := be) (o := .cells #[.int .u64 bk, .int .u64 bj, .slice bl ba.length bi] 27 (0, 0)) zx5_0 hb); replace bd := Aside0.mk (blk_below (g := bc) (o := .cells #[.string (⟨#[]⟩ : ByteArray), .int .u64 0, .int .u64 0, .slice none 0 0, .int .u64 0, .int .u64 0, .int .u64 0] 37 (0, 0)) zx5_5 hb); replace HB := Aside0.mk (below_step zx5_2 hb); (try clear hb); (try clear hb2); (try clear hk); (try clear hi); have ga : w9.cell? ⟨bc, 0, none⟩ = some (.string (⟨#[]⟩ : ByteArray)) := (blk_cell bd.out 0).trans rfl; have d9 : w9.cell? ⟨bc, 1, none⟩ = some (.int .u64 0) := (blk_cell bd.out 1).trans rfl; have d8 : w9.cell? ⟨bc, 2, none⟩ = some (.int .u64 0) := (blk_cell bd.out 2).trans rfl; have d7 : w9.cell? ⟨bc, 3, none⟩ = some (.slice none 0 0) := (blk_cell bd.out 3).trans rfl; have d6 : w9.cell? ⟨bc, 4, none⟩ = some (.int .u64 0) := (blk_cell bd.out 4).trans rfl; have d5 : w9.cell? ⟨bc, 5, none⟩ = some (.int .u64 0) := (blk_cell bd.out 5).trans rfl; have d4 : w9.cell? ⟨bc, 6, none⟩ = some (.int .u64 0) := (blk_cell bd.out 6).trans rfl; have dC := blk_frozen bd.out 0; have dB := blk_frozen bd.out 1; have dA := blk_frozen bd.out 2; have dz := blk_frozen bd.out 3; have dy := blk_frozen bd.out 4; have dx := blk_frozen bd.out 5; have dw := blk_frozen bd.out 6))
  refine bodyPost_ret (results_ct rfl _ _ bc 37 #[.string (⟨#[]⟩ : ByteArray), .int .u64 0, .int .u64 0, .slice none 0 0, .int .u64 0, .int .u64 0, .int .u64 0] (0, 0) _ rfl (by (with_reducible repeat (first | refine blk_drewN ?_ _ | refine blk_drew ?_ | refine blk_alloc ?_ _)); refine blk_put (cs := #[.string (⟨#[]⟩ : ByteArray), .int .u64 0, .int .u64 0, .slice none 0 0, .int .u64 0, .int .u64 0, .int .u64 0]) ?_ 6 _ rfl; (with_reducible repeat (first | refine blk_drewN ?_ _ | refine blk_drew ?_ | refine blk_alloc ?_ _)); refine blk_put (cs := #[.string (⟨#[]⟩ : ByteArray), .int .u64 0, .int .u64 0, .slice none 0 0, .int .u64 0, .int .u64 0, .int .u64 0]) ?_ 5 _ rfl; (with_reducible repeat (first | refine blk_drewN ?_ _ | refine blk_drew ?_ | refine blk_alloc ?_ _)); refine blk_put (cs := #[.string (⟨#[]⟩ : ByteArray), .int .u64 0, .int .u64 0, .slice none 0 0, .int .u64 0, .int .u64 0, .int .u64 0]) ?_ 4 _ rfl; (with_reducible repeat (first | refine blk_drewN ?_ _ | refine blk_drew ?_ | refine blk_alloc ?_ _)); refine blk_put (cs := #[.string (⟨#[]⟩ : ByteArray), .int .u64 0, .int .u64 0, .slice none 0 0, .int .u64 0, .int .u64 0, .int .u64 0]) ?_ 3 _ rfl; (with_reducible repeat (first | refine blk_drewN ?_ _ | refine blk_drew ?_ | refine blk_alloc ?_ _)); refine blk_put (cs := #[.string (⟨#[]⟩ : ByteArray), .int .u64 0, .int .u64 0, .slice none 0 0, .int .u64 0, .int .u64 0, .int .u64 0]) ?_ 2 _ rfl; (with_reducible repeat (first | refine blk_drewN ?_ _ | refine blk_drew ?_ | refine blk_alloc ?_ _)); refine blk_put (cs := #[.string (⟨#[]⟩ : ByteArray), .int .u64 0, .int .u64 0, .slice none 0 0, .int .u64 0, .int .u64 0, .int .u64 0]) ?_ 1 _ rfl; (with_reducible repeat (first | refine blk_drewN ?_ _ | refine blk_drew ?_ | refine blk_alloc ?_ _)); refine blk_put (cs := #[.string (⟨#[]⟩ : ByteArray), .int .u64 0, .int .u64 0, .slice none 0 0, .int .u64 0, .int .u64 0, .int .u64 0]) ?_ 0 _ rfl; (with_reducible repeat (first | refine blk_drewN ?_ _ | refine blk_drew ?_ | refine blk_alloc ?_ _)); exact bd.out) Tryd.underlying37 rfl (by kernel_rfl)) rfl ?_
  exact ⟨_, by first | rfl | (simp [errW_none, errW_some] <;> rfl) | (simp [*, errW_none, errW_some] <;> rfl), by first | exact Kd.R_nil _ _ _ _ _ | exact Kd.N_nil _ _ _ _ _ | exact Kd.V_nil _ _ _ _ _ | exact Kd.Q_nil _ _ _ _ _ | exact Kd.S_nil _ _ _ _ _, by repeat (first | (with_reducible first | exact HB.out | apply below_alloc | apply pw_below_drewN | apply below_drew1 | refine below_set ?_ bx.out | refine below_set ?_ bH.out) | exact HB.out)⟩
 rw [if_neg c4] at H
 have gk : decide (bb < 0) = false := decide_eq_false c4
 clear c4
 by_cases c11 : 0 ≤ bb
 case neg =>
  rw [if_neg c11] at H
  exact absurd H (by simp)

 rw [if_pos c11] at H
 have gs : decide (0 ≤ bb) = true := decide_eq_true c11
 clear c11
 by_cases c12 : bb < (ba.length : Int)
 case neg =>
  rw [if_neg c12] at H
  exact absurd H (by simp)
 rw [if_pos c12] at H
 have gr : decide (bb < (ba.length : Int)) = true := decide_eq_true c12
 clear c12
 replace H := Option.bind_eq_some_iff.mp H
 obtain ⟨bm, b3, H⟩ := H
 replace H : (some ((rd_T37 ba bb).f0, (rd_T37 ba bb).f1, (rd_T37 ba bb).f2, bm, (rd_T37 ba bb).f4, (rd_T37 ba bb).f5, (rd_T37 ba bb).f6, true)) = some (r1, r2, r3, r4, r5, r6, r7, r8) := H
 have A13 := Aside0.mk b3
 clear b3
 simp only [Option.some.injEq, Prod.mk.injEq] at H
 obtain ⟨rfl, rfl, rfl, rfl, rfl, rfl, rfl, rfl⟩ := H
 go_enter Tryd.func17, Tryd.ntmps17
 go_wp2_with (first | ((with_reducible refine gate_dst (N := 2) rfl ?_); refine box_event ?hg (N := 2) ?hd (cs := #[.int .u64 bk, .int .u64 bj, .slice bl ba.length bi]) (t := 27) ?hr ?_; (case hd => rfl); (case hg => rfl); (case hr => first | (go_simp; done) | (go_simp; rfl)); intro be hg w14 hbox hb; have bg := Aside0.mk (hbox); have b2 := Aside0.mk ((by rw [hg]; exact (below_size zx5_4) : w.heap.size ≤ be)); have bx := Aside0.mk ((by rw [hg]; exact (below_size zx5_4) : w.heap.size ≤ be)); replace HB := Aside0.mk (below_step zx5_4 hb); clear hb hbox hg) | ((with_reducible refine gate_dst (N := 4) rfl ?_); refine box_event ?hg (N := 4) ?hd (cs := #[.string (⟨#[]⟩ : ByteArray), .int .u64 0, .int .u64 0, .slice none 0 0, .int .u64 0, .int .u64 0, .int .u64 0]) (t := 37) ?hr ?_; (case hd => rfl); (case hg => rfl); (case hr => first | (go_simp; done) | (go_simp; rfl)); intro bc hg w15 hbox hb; have bd := Aside0.mk (hbox); have b1 := Aside0.mk ((by rw [hg]; exact (below_size zx5_1) : w.heap.size ≤ bc)); have bH := Aside0.mk ((by rw [hg]; exact (below_size zx5_1) : w.heap.size ≤ bc)); replace HB := Aside0.mk (below_step zx5_1 hb); have bq := Aside0.mk ((by rw [hg]; exact Nat.ne_of_lt (blk_lt (g := be) (o := .cells #[.int .u64 bk, .int .u64 bj, .slice bl ba.length bi] 27 (0, 0)) zx5_0) : be ≠ bc)); have bp := Aside0.mk ((by rw [hg]; exact Nat.ne_of_gt (blk_lt (g := be) (o := .cells #[.int .u64 bk, .int .u64 bj, .slice bl ba.length bi] 27 (0, 0)) zx5_0) : bc ≠ be)); replace bg := Aside0.mk (blk_below (g := be) (o := .cells #[.int .u64 bk, .int .u64 bj, .slice bl ba.length bi] 27 (0, 0)) zx5_0 hb); clear hb hbox hg; have gq := bq.out; have gn := bp.out; have d3 : w15.cell? ⟨be, 0, none⟩ = some (.int .u64 bk) := (blk_cell bg.out 0).trans rfl; have d2 : w15.cell? ⟨be, 1, none⟩ = some (.int .u64 bj) := (blk_cell bg.out 1).trans rfl; have d1 : w15.cell? ⟨be, 2, none⟩ = some (.slice bl ba.length bi) := (blk_cell bg.out 2).trans rfl; have dv := blk_frozen bg.out 0; have du := blk_frozen bg.out 1; have dt := blk_frozen bg.out 2) | ((with_reducible refine gate_callee (f := 31) rfl ?_); refine goesL_ (some 11) rfl rfl Tryd.func31 (by kernel_rfl) rfl #[.slice bl ba.length bi, .string a1] rfl zx5_3 ?_; (with_reducible refine (ledger_place.calls _ _ ba a1 bb _ ?side1 ?side2 A3.out).mono ?_); (case side1 => repeat (first | exact (Kd.C_below bQ.out HB.out) | (with_reducible refine Kd.C_alloc ?_ _) | (with_reducible refine Kd.C_drewN ?_ _) | (with_reducible refine Kd.C_drew ?_))); (case side2 => exact bX.out); rintro e w18 ⟨rfl, hb⟩; refine ⟨_, rfl, ?_⟩; replace bg := Aside0.mk (blk_below (g := be) (o := .cells #[.int .u64 bk, .int .u64 bj, .slice bl ba.length bi] 27 (0, 0)) zx5_0 hb); replace bd := Aside0.mk (blk_below (g := bc) (o := .cells #[.string (⟨#[]⟩ : ByteArray), .int .u64 0, .int .u64 0, .slice none 0 0, .int .u64 0, .int .u64 0, .int .u64 0] 37 (0, 0)) zx5_5 hb); replace HB := Aside0.mk (below_step zx5_2 hb); (try clear hb); (try clear hb2); (try clear hk); (try clear hi); have d0 : w18.cell? ⟨be, 0, none⟩ = some (.int .u64 bk) := (blk_cell bg.out 0).trans rfl; have dZ : w18.cell? ⟨be, 1, none⟩ = some (.int .u64 bj) := (blk_cell bg.out 1).trans rfl; have dY : w18.cell? ⟨be, 2, none⟩ = some (.slice bl ba.length bi) := (blk_cell bg.out 2).trans rfl; have ds := blk_frozen bg.out 0; have dr := blk_frozen bg.out 1; have dq := blk_frozen bg.out 2; have b0 : 0 ≤ (bb : Int) := of_decide_eq_true (by first | (with_reducible assumption) | assumption); have bZ : bb < (ba.length : Int) := of_decide_eq_true (by first | (with_reducible assumption) | assumption); obtain ⟨bK, br, bn, gj, bG, bE, bD, bC, bB, bA, bz, bI, bJ⟩ := at_T37 bQ.out bb b0 bZ; cases gj; replace bG := (HB.out.cell (World.block_lt_of_cell? w _ bG)).trans bG; replace bE := (HB.out.cell (World.block_lt_of_cell? w _ bE)).trans bE; replace bD := (HB.out.cell (World.block_lt_of_cell? w _ bD)).trans bD; replace bC := (HB.out.cell (World.block_lt_of_cell? w _ bC)).trans bC; replace bB := (HB.out.cell (World.block_lt_of_cell? w _ bB)).trans bB; replace bA := (HB.out.cell (World.block_lt_of_cell? w _ bA)).trans bA; replace bz := (HB.out.cell (World.block_lt_of_cell? w _ bz)).trans bz; have bR := Aside0.mk bJ; have bS := Aside0.mk bI; clear bJ bI; replace b0 := eq_true b0; replace bZ := eq_true bZ) | ((with_reducible refine gate_dst (N := 7) rfl ?_); refine box_event ?hg (N := 7) ?hd (cs := #[.string (⟨#[]⟩ : ByteArray), .int .u64 0, .int .u64 0, .slice none 0 0, .int .u64 0, .int .u64 0, .int .u64 0]) (t := 37) ?hr ?_; (case hd => rfl); (case hg => rfl); (case hr => first | (go_simp; done) | (go_simp; rfl)); intro bh hg w20 hbox hb; have bf := Aside0.mk (hbox); have gt := Aside0.mk ((by rw [hg]; exact (below_size zx5_2) : w.heap.size ≤ bh)); have bY := Aside0.mk ((by rw [hg]; exact (below_size zx5_2) : w.heap.size ≤ bh)); replace HB := Aside0.mk (below_step zx5_2 hb); have bw := Aside0.mk ((by rw [hg]; exact Nat.ne_of_lt (blk_lt (g := be) (o := .cells #[.int .u64 bk, .int .u64 bj, .slice (some bK) ba.length bi] 27 (0, 0)) zx5_0) : be ≠ bh)); have bO := Aside0.mk ((by rw [hg]; exact Nat.ne_of_gt (blk_lt (g := be) (o := .cells #[.int .u64 bk, .int .u64 bj, .slice (some bK) ba.length bi] 27 (0, 0)) zx5_0) : bh ≠ be)); replace bg := Aside0.mk (blk_below (g := be) (o := .cells #[.int .u64 bk, .int .u64 bj, .slice (some bK) ba.length bi] 27 (0, 0)) zx5_0 hb); have bo := Aside0.mk ((by rw [hg]; exact Nat.ne_of_lt (blk_lt (g := bc) (o := .cells #[.string (⟨#[]⟩ : ByteArray), .int .u64 0, .int .u64 0, .slice none 0 0, .int .u64 0, .int .u64 0, .int .u64 0] 37 (0, 0)) zx5_5) : bc ≠ bh)); have bN := Aside0.mk ((by rw [hg]; exact Nat.ne_of_gt (blk_lt (g := bc) (o := .cells #[.string (⟨#[]⟩ : ByteArray), .int .u64 0, .int .u64 0, .slice none 0 0, .int .u64 0, .int .u64 0, .int .u64 0] 37 (0, 0)) zx5_5) : bh ≠ bc)); replace bd := Aside0.mk (blk_below (g := bc) (o := .cells #[.string (⟨#[]⟩ : ByteArray), .int .u64 0, .int .u64 0, .slice none 0 0, .int .u64 0, .int .u64 0, .int .u64 0] 37 (0, 0)) zx5_5 hb); clear hb hbox hg; have gp := bO.out; have gm := bw.out; have go := bN.out; have gl := bo.out; have dX : w20.cell? ⟨bh, 0, none⟩ = some (.string (⟨#[]⟩ : ByteArray)) := (blk_cell bf.out 0).trans rfl; have dW : w20.cell? ⟨bh, 1, none⟩ = some (.int .u64 0) := (blk_cell bf.out 1).trans rfl; have dV : w20.cell? ⟨bh, 2, none⟩ = some (.int .u64 0) := (blk_cell bf.out 2).trans rfl; have dU : w20.cell? ⟨bh, 3, none⟩ = some (.slice none 0 0) := (blk_cell bf.out 3).trans rfl; have dT : w20.cell? ⟨bh, 4, none⟩ = some (.int .u64 0) := (blk_cell bf.out 4).trans rfl; have dS : w20.cell? ⟨bh, 5, none⟩ = some (.int .u64 0) := (blk_cell bf.out 5).trans rfl; have dR : w20.cell? ⟨bh, 6, none⟩ = some (.int .u64 0) := (blk_cell bf.out 6).trans rfl; have dp := blk_frozen bf.out 0; have dn := blk_frozen bf.out 1; have dm := blk_frozen bf.out 2; have dl := blk_frozen bf.out 3; have dk := blk_frozen bf.out 4; have dj := blk_frozen bf.out 5; have di := blk_frozen bf.out 6) | ((with_reducible refine gate_callee (f := 35) rfl ?_); refine goesL_ (some 22) rfl rfl Tryd.func35 (by kernel_rfl) rfl #[.slice br ((rd_T37 ba bb).f3).length bn] rfl zx5_3 ?_; (with_reducible refine (slices_Clone_uint64_uint64.calls _ _ ((rd_T37 ba bb).f3) bm _ ?side1 ?side2 A13.out).mono ?_); (case side1 => exact Kd.C_below bR.out zx5_6); (case side2 => exact bS.out); rintro e w24 ⟨gu, rfl, ho0, hb⟩; refine ⟨_, rfl, ?_⟩; have bW := Aside0.mk (Kd.R_lower ho0 (below_size zx5_6)); replace bg := Aside0.mk (blk_below (g := be) (o := .cells #[.int .u64 bk, .int .u64 bj, .slice (some bK) ba.length bi] 27 (0, 0)) (by (iterate 7 ((with_reducible repeat (first | refine blk_drewN ?_ _ | refine blk_drew ?_ | refine blk_alloc ?_ _)); refine blk_far ?_ bw.out _)); (with_reducible repeat (first | refine blk_drewN ?_ _ | refine blk_drew ?_ | refine blk_alloc ?_ _)); exact bg.out) hb); replace bd := Aside0.mk (blk_below (g := bc) (o := .cells #[.string (⟨#[]⟩ : ByteArray), .int .u64 0, .int .u64 0, .slice none 0 0, .int .u64 0, .int .u64 0, .int .u64 0] 37 (0, 0)) (by (iterate 7 ((with_reducible repeat (first | refine blk_drewN ?_ _ | refine blk_drew ?_ | refine blk_alloc ?_ _)); refine blk_far ?_ bo.out _)); (with_reducible repeat (first | refine blk_drewN ?_ _ | refine blk_drew ?_ | refine blk_alloc ?_ _)); exact bd.out) hb); replace bf := Aside0.mk (blk_below (g := bh) (o := .cells #[.string ((rd_T37 ba bb).f0), .int .u64 ((rd_T37 ba bb).f1), .int .u64 ((rd_T37 ba bb).f2), .slice br ((rd_T37 ba bb).f3).length bn, .int .u64 ((rd_T37 ba bb).f4), .int .u64 ((rd_T37 ba bb).f5), .int .u64 ((rd_T37 ba bb).f6)] 37 (0, 0)) (by (with_reducible repeat (first | refine blk_drewN ?_ _ | refine blk_drew ?_ | refine blk_alloc ?_ _)); refine blk_put (cs := #[.string ((rd_T37 ba bb).f0), .int .u64 ((rd_T37 ba bb).f1), .int .u64 ((rd_T37 ba bb).f2), .slice br ((rd_T37 ba bb).f3).length bn, .int .u64 ((rd_T37 ba bb).f4), .int .u64 ((rd_T37 ba bb).f5), .int .u64 0]) ?_ 6 _ rfl; (with_reducible repeat (first | refine blk_drewN ?_ _ | refine blk_drew ?_ | refine blk_alloc ?_ _)); refine blk_put (cs := #[.string ((rd_T37 ba bb).f0), .int .u64 ((rd_T37 ba bb).f1), .int .u64 ((rd_T37 ba bb).f2), .slice br ((rd_T37 ba bb).f3).length bn, .int .u64 ((rd_T37 ba bb).f4), .int .u64 0, .int .u64 0]) ?_ 5 _ rfl; (with_reducible repeat (first | refine blk_drewN ?_ _ | refine blk_drew ?_ | refine blk_alloc ?_ _)); refine blk_put (cs := #[.string ((rd_T37 ba bb).f0), .int .u64 ((rd_T37 ba bb).f1), .int .u64 ((rd_T37 ba bb).f2), .slice br ((rd_T37 ba bb).f3).length bn, .int .u64 0, .int .u64 0, .int .u64 0]) ?_ 4 _ rfl; (with_reducible repeat (first | refine blk_drewN ?_ _ | refine blk_drew ?_ | refine blk_alloc ?_ _)); refine blk_put (cs := #[.string ((rd_T37 ba bb).f0), .int .u64 ((rd_T37 ba bb).f1), .int .u64 ((rd_T37 ba bb).f2), .slice none 0 0, .int .u64 0, .int .u64 0, .int .u64 0]) ?_ 3 _ rfl; (with_reducible repeat (first | refine blk_drewN ?_ _ | refine blk_drew ?_ | refine blk_alloc ?_ _)); refine blk_put (cs := #[.string ((rd_T37 ba bb).f0), .int .u64 ((rd_T37 ba bb).f1), .int .u64 0, .slice none 0 0, .int .u64 0, .int .u64 0, .int .u64 0]) ?_ 2 _ rfl; (with_reducible repeat (first | refine blk_drewN ?_ _ | refine blk_drew ?_ | refine blk_alloc ?_ _)); refine blk_put (cs := #[.string ((rd_T37 ba bb).f0), .int .u64 0, .int .u64 0, .slice none 0 0, .int .u64 0, .int .u64 0, .int .u64 0]) ?_ 1 _ rfl; (with_reducible repeat (first | refine blk_drewN ?_ _ | refine blk_drew ?_ | refine blk_alloc ?_ _)); refine blk_put (cs := #[.string (⟨#[]⟩ : ByteArray), .int .u64 0, .int .u64 0, .slice none 0 0, .int .u64 0, .int .u64 0, .int .u64 0]) ?_ 0 _ rfl; (with_reducible repeat (first | refine blk_drewN ?_ _ | refine blk_drew ?_ | refine blk_alloc ?_ _)); exact bf.out) hb); replace HB := Aside0.mk (below_step zx5_6 hb); (try clear hb); (try clear hb2); (try clear hk); (try clear hi); (try clear ho0); obtain ⟨bP, bM, gi⟩ := Kd.R_slice bW.out; subst gi; have dQ : w24.cell? ⟨bh, 0, none⟩ = some (.string ((rd_T37 ba bb).f0)) := (blk_cell bf.out 0).trans rfl; have dP : w24.cell? ⟨bh, 1, none⟩ = some (.int .u64 ((rd_T37 ba bb).f1)) := (blk_cell bf.out 1).trans rfl; have dO : w24.cell? ⟨bh, 2, none⟩ = some (.int .u64 ((rd_T37 ba bb).f2)) := (blk_cell bf.out 2).trans rfl; have dN : w24.cell? ⟨bh, 3, none⟩ = some (.slice br ((rd_T37 ba bb).f3).length bn) := (blk_cell bf.out 3).trans rfl; have dM : w24.cell? ⟨bh, 4, none⟩ = some (.int .u64 ((rd_T37 ba bb).f4)) := (blk_cell bf.out 4).trans rfl; have dL : w24.cell? ⟨bh, 5, none⟩ = some (.int .u64 ((rd_T37 ba bb).f5)) := (blk_cell bf.out 5).trans rfl; have dK : w24.cell? ⟨bh, 6, none⟩ = some (.int .u64 ((rd_T37 ba bb).f6)) := (blk_cell bf.out 6).trans rfl; have dh := blk_frozen bf.out 0; have dg := blk_frozen bf.out 1; have df := blk_frozen bf.out 2; have de := blk_frozen bf.out 3; have dd := blk_frozen bf.out 4; have dc := blk_frozen bf.out 5; have db := blk_frozen bf.out 6; have dJ : w24.cell? ⟨bc, 0, none⟩ = some (.string (⟨#[]⟩ : ByteArray)) := (blk_cell bd.out 0).trans rfl; have dI : w24.cell? ⟨bc, 1, none⟩ = some (.int .u64 0) := (blk_cell bd.out 1).trans rfl; have dH : w24.cell? ⟨bc, 2, none⟩ = some (.int .u64 0) := (blk_cell bd.out 2).trans rfl; have dG : w24.cell? ⟨bc, 3, none⟩ = some (.slice none 0 0) := (blk_cell bd.out 3).trans rfl; have dF : w24.cell? ⟨bc, 4, none⟩ = some (.int .u64 0) := (blk_cell bd.out 4).trans rfl; have dE : w24.cell? ⟨bc, 5, none⟩ = some (.int .u64 0) := (blk_cell bd.out 5).trans rfl; have dD : w24.cell? ⟨bc, 6, none⟩ = some (.int .u64 0) := (blk_cell bd.out 6).trans rfl; have da := blk_frozen bd.out 0; have b9 := blk_frozen bd.out 1; have b8 := blk_frozen bd.out 2; have b7 := blk_frozen bd.out 3; have b6 := blk_frozen bd.out 4; have b5 := blk_frozen bd.out 5; have b4 := blk_frozen bd.out 6))
 refine bodyPost_ret (results_ct rfl _ _ bc 37 #[.string ((rd_T37 ba bb).f0), .int .u64 ((rd_T37 ba bb).f1), .int .u64 ((rd_T37 ba bb).f2), .slice bP bm.length bM, .int .u64 ((rd_T37 ba bb).f4), .int .u64 ((rd_T37 ba bb).f5), .int .u64 ((rd_T37 ba bb).f6)] (0, 0) _ rfl (by (with_reducible repeat (first | refine blk_drewN ?_ _ | refine blk_drew ?_ | refine blk_alloc ?_ _)); refine blk_put (cs := #[.string ((rd_T37 ba bb).f0), .int .u64 ((rd_T37 ba bb).f1), .int .u64 ((rd_T37 ba bb).f2), .slice bP bm.length bM, .int .u64 ((rd_T37 ba bb).f4), .int .u64 ((rd_T37 ba bb).f5), .int .u64 0]) ?_ 6 _ rfl; (with_reducible repeat (first | refine blk_drewN ?_ _ | refine blk_drew ?_ | refine blk_alloc ?_ _)); refine blk_put (cs := #[.string ((rd_T37 ba bb).f0), .int .u64 ((rd_T37 ba bb).f1), .int .u64 ((rd_T37 ba bb).f2), .slice bP bm.length bM, .int .u64 ((rd_T37 ba bb).f4), .int .u64 0, .int .u64 0]) ?_ 5 _ rfl; (with_reducible repeat (first | refine blk_drewN ?_ _ | refine blk_drew ?_ | refine blk_alloc ?_ _)); refine blk_put (cs := #[.string ((rd_T37 ba bb).f0), .int .u64 ((rd_T37 ba bb).f1), .int .u64 ((rd_T37 ba bb).f2), .slice bP bm.length bM, .int .u64 0, .int .u64 0, .int .u64 0]) ?_ 4 _ rfl; (with_reducible repeat (first | refine blk_drewN ?_ _ | refine blk_drew ?_ | refine blk_alloc ?_ _)); refine blk_put (cs := #[.string ((rd_T37 ba bb).f0), .int .u64 ((rd_T37 ba bb).f1), .int .u64 ((rd_T37 ba bb).f2), .slice none 0 0, .int .u64 0, .int .u64 0, .int .u64 0]) ?_ 3 _ rfl; (with_reducible repeat (first | refine blk_drewN ?_ _ | refine blk_drew ?_ | refine blk_alloc ?_ _)); refine blk_put (cs := #[.string ((rd_T37 ba bb).f0), .int .u64 ((rd_T37 ba bb).f1), .int .u64 0, .slice none 0 0, .int .u64 0, .int .u64 0, .int .u64 0]) ?_ 2 _ rfl; (with_reducible repeat (first | refine blk_drewN ?_ _ | refine blk_drew ?_ | refine blk_alloc ?_ _)); refine blk_put (cs := #[.string ((rd_T37 ba bb).f0), .int .u64 0, .int .u64 0, .slice none 0 0, .int .u64 0, .int .u64 0, .int .u64 0]) ?_ 1 _ rfl; (with_reducible repeat (first | refine blk_drewN ?_ _ | refine blk_drew ?_ | refine blk_alloc ?_ _)); refine blk_put (cs := #[.string (⟨#[]⟩ : ByteArray), .int .u64 0, .int .u64 0, .slice none 0 0, .int .u64 0, .int .u64 0, .int .u64 0]) ?_ 0 _ rfl; (with_reducible repeat (first | refine blk_drewN ?_ _ | refine blk_drew ?_ | refine blk_alloc ?_ _)); refine blk_far ?_ bo.out _; (with_reducible repeat (first | refine blk_drewN ?_ _ | refine blk_drew ?_ | refine blk_alloc ?_ _)); exact bd.out) Tryd.underlying37 rfl (by kernel_rfl)) rfl ?_
 exact ⟨_, by first | rfl | (simp [errW_none, errW_some] <;> rfl) | (simp [*, errW_none, errW_some] <;> rfl), by (with_reducible repeat (first | apply Kd.R_alloc | apply Kd.R_drewN | apply Kd.R_drew)); exact Kd.R_mono (Kd.R_far (p := ⟨bc, 6, none⟩) (Kd.R_far (p := ⟨bc, 5, none⟩) (Kd.R_far (p := ⟨bc, 4, none⟩) (Kd.R_far (p := ⟨bc, 3, none⟩) (Kd.R_far (p := ⟨bc, 2, none⟩) (Kd.R_far (p := ⟨bc, 1, none⟩) (Kd.R_far (p := ⟨bc, 0, none⟩) (Kd.R_far (p := ⟨bh, 3, none⟩) (Kd.R_types (Kd.R_types bW.out bf.out (by decide)) bd.out (by decide)) (fun _ hk => hk.1.2) (.slice bP bm.length bM)) (fun _ hk => hk.2) (.string ((rd_T37 ba bb).f0))) (fun _ hk => hk.2) (.int .u64 ((rd_T37 ba bb).f1))) (fun _ hk => hk.2) (.int .u64 ((rd_T37 ba bb).f2))) (fun _ hk => hk.2) (.slice bP bm.length bM)) (fun _ hk => hk.2) (.int .u64 ((rd_T37 ba bb).f4))) (fun _ hk => hk.2) (.int .u64 ((rd_T37 ba bb).f5))) (fun _ hk => hk.2) (.int .u64 ((rd_T37 ba bb).f6))) (fun _ hk => trivial), by repeat (first | (with_reducible first | exact HB.out | apply below_alloc | apply pw_below_drewN | apply below_drew1 | refine below_set ?_ bx.out | refine below_set ?_ bH.out | refine below_set ?_ bY.out) | exact HB.out)⟩
/-! ### cmp_isNaN_uint64: function 75 -/
def cmp_isNaN_uint64.f (a0 : Int) : Option (Bool) := some (a0 != a0)
set_option maxHeartbeats 8000000 in
set_option maxRecDepth 100000 in
theorem cmp_isNaN_uint64.calls (a0 : Int) (r : Bool) (w : World) (h : cmp_isNaN_uint64.f a0 = some r) :
  Calls Tryd.prog 75 #[.int .u64 a0] w fun e w' => e = .returned (.bool r) ∧ Drawn0 w w' := by
 have H : (some (a0 != a0)) = some r := h
 clear h
 obtain rfl := Option.some.inj H
 go_enter Tryd.func75, Tryd.ntmps75
 go_wp2
 go_ret
 exact ⟨by first | rfl | (simp; done) | (simp [*]; done), by repeat (first | exact Drawn0.refl _ | apply Drawn0.step)⟩

/-! ### cmp_Less_uint64: function 66 -/
def cmp_Less_uint64.f (a0 : Int) (a1 : Int) : Option (Bool) := (cmp_isNaN_uint64.f a0).bind fun bL => (if bL = true then ((cmp_isNaN_uint64.f a1).bind fun bu => (if bu = true then (some (decide (a0 < a1))) else (some true))) else (some (decide (a0 < a1))))
set_option maxHeartbeats 8000000 in
set_option maxRecDepth 100000 in
theorem cmp_Less_uint64.calls (a0 : Int) (a1 : Int) (r : Bool) (w : World) (h : cmp_Less_uint64.f a0 a1 = some r) :
  Calls Tryd.prog 66 #[.int .u64 a0, .int .u64 a1] w fun e w' => e = .returned (.bool r) ∧ Drawn0 w w' := by
 have H : ((cmp_isNaN_uint64.f a0).bind fun bL => (if bL = true then ((cmp_isNaN_uint64.f a1).bind fun bu => (if bu = true then (some (decide (a0 < a1))) else (some true))) else (some (decide (a0 < a1))))) = some r := h
 clear h
 replace H := Option.bind_eq_some_iff.mp H
 obtain ⟨bL, A30, H⟩ := H
 replace H : (if bL = true then ((cmp_isNaN_uint64.f a1).bind fun bu => (if bu = true then (some (decide (a0 < a1))) else (some true))) else (some (decide (a0 < a1)))) = some r := H
 have A3 := Aside0.mk A30
 clear A30
 by_cases c4 : bL = true
 case neg =>
  replace c4 := Bool.eq_false_iff.mpr c4
  subst c4
  have H1 : (some (decide (a0 < a1))) = some r := by rw [if_neg (show ¬ (false = true) by decide)] at H; exact H
  clear H
  have H := H1
  clear H1
  obtain rfl := Option.some.inj H
  go_enter Tryd.func66, Tryd.ntmps66
  go_wp2_with (first | ((with_reducible refine gate_callee (f := 75) rfl ?_); refine goesL_ (some 6) rfl rfl Tryd.func75 (by kernel_rfl) rfl #[.int .u64 a0] rfl zx5_3 ?_; (with_reducible refine (cmp_isNaN_uint64.calls a0 false _ A3.out).mono ?_); rintro e w' ⟨rfl, ⟨nd, rfl⟩⟩; refine ⟨_, rfl, ?_⟩))
  go_ret
  exact ⟨by first | rfl | (simp; done) | (simp [*]; done), by repeat (first | exact Drawn0.refl _ | apply Drawn0.step)⟩

 subst c4
 have H1 : ((cmp_isNaN_uint64.f a1).bind fun bu => (if bu = true then (some (decide (a0 < a1))) else (some true))) = some r := by rw [if_pos rfl] at H; exact H
 clear H
 have H := H1
 clear H1
 replace H := Option.bind_eq_some_iff.mp H
 obtain ⟨bu, A50, H⟩ := H
 replace H : (if bu = true then (some (decide (a0 < a1))) else (some true)) = some r := H
 have A5 := Aside0.mk A50
 clear A50
 by_cases c6 : bu = true
 ·subst c6
  have H1 : (some (decide (a0 < a1))) = some r := by rw [if_pos rfl] at H; exact H
  clear H
  have H := H1
  clear H1
  obtain rfl := Option.some.inj H
  go_enter Tryd.func66, Tryd.ntmps66
  go_wp2_with (first | ((with_reducible refine gate_callee (f := 75) rfl ?_); refine goesL_ (some 6) rfl rfl Tryd.func75 (by kernel_rfl) rfl #[.int .u64 a0] rfl zx5_3 ?_; (with_reducible refine (cmp_isNaN_uint64.calls a0 true _ A3.out).mono ?_); rintro e w' ⟨rfl, ⟨nd, rfl⟩⟩; refine ⟨_, rfl, ?_⟩) | (go_at_call 75; (with_reducible refine (cmp_isNaN_uint64.calls a1 true _ A5.out).mono ?_); rintro e w' ⟨rfl, ⟨nd, rfl⟩⟩))
  go_ret
  exact ⟨by first | rfl | (simp; done) | (simp [*]; done), by repeat (first | exact Drawn0.refl _ | apply Drawn0.step)⟩
 replace c6 := Bool.eq_false_iff.mpr c6
 subst c6
 have H1 : (some true) = some r := by rw [if_neg (show ¬ (false = true) by decide)] at H; exact H
 clear H
 have H := H1
 clear H1
 obtain rfl := Option.some.inj H
 go_enter Tryd.func66, Tryd.ntmps66
 go_wp2_with (first | ((with_reducible refine gate_callee (f := 75) rfl ?_); refine goesL_ (some 6) rfl rfl Tryd.func75 (by kernel_rfl) rfl #[.int .u64 a0] rfl zx5_3 ?_; (with_reducible refine (cmp_isNaN_uint64.calls a0 true _ A3.out).mono ?_); rintro e w' ⟨rfl, ⟨nd, rfl⟩⟩; refine ⟨_, rfl, ?_⟩) | (go_at_call 75; (with_reducible refine (cmp_isNaN_uint64.calls a1 false _ A5.out).mono ?_); rintro e w' ⟨rfl, ⟨nd, rfl⟩⟩))
 go_ret
 exact ⟨by first | rfl | (simp; done) | (simp [*]; done), by repeat (first | exact Drawn0.refl _ | apply Drawn0.step)⟩
/-! ### slices_isNaN_uint64: function 67 -/
def slices_isNaN_uint64.f (a0 : Int) : Option (Bool) := some (a0 != a0)
set_option maxHeartbeats 8000000 in
set_option maxRecDepth 100000 in
theorem slices_isNaN_uint64.calls (a0 : Int) (r : Bool) (w : World) (h : slices_isNaN_uint64.f a0 = some r) :
  Calls Tryd.prog 67 #[.int .u64 a0] w fun e w' => e = .returned (.bool r) ∧ Drawn0 w w' := by
 have H : (some (a0 != a0)) = some r := h
 clear h
 obtain rfl := Option.some.inj H
 go_enter Tryd.func67, Tryd.ntmps67
 go_wp2
 go_ret
 exact ⟨by first | rfl | (simp; done) | (simp [*]; done), by repeat (first | exact Drawn0.refl _ | apply Drawn0.step)⟩

end Go.Proofs.YthhmpjapnkilcaaDoor.XLdg
end
section
/- What the functions of the translation answer, each as a plain Lean function, and that the code comes to it; for a law: its row. Conditions: none but those that each theorem names. Written by a program of this session (wip/xp). -/
namespace Go.Proofs.YthhmpjapnkilcaaDoor.XLdg
open Go.RowKit Go.Proofs.YthhmpjapnkilcaaDoorW.PrintWords Go.Proofs.YthhmpjapnkilcaaDoorW.PrintLast Go.Proofs.YthhmpjapnkilcaaDoorW.PrintMore
attribute [local go_sem] max2_int min2_int max_two min_two max_three min_three max_four min_four   -- for this text's walks alone
theorem zx6_1 {p : Prop} (h : p := by first | (with_reducible assumption) | assumption) : p := h
theorem zx6_0 {p : Prop} (h : p := by repeat (first | (with_reducible first | exact HB.out | apply below_alloc | apply pw_below_drewN | apply below_drew1) | exact HB.out)) : p := h
set_option linter.unusedVariables false
set_option linter.unusedSimpArgs false

/-! ### slices_BinarySearch_uint64_uint64: function 51 -/
def slices_BinarySearch_uint64_uint64.l0 : Nat → List Int → Int → Int → Int → Int → Option (Int × Bool)
 | 0, _, _, _, _, _ => none
 | k + 1, x0, x1, x6, x7, x8 => if x7 < x8 then (if 0 ≤ (wrap64 ((IntKind.u64.wrap (wrap64 (x7 + x8))) / 2)) then (if (wrap64 ((IntKind.u64.wrap (wrap64 (x7 + x8))) / 2)) < (x0.length : Int) then ((cmp_Less_uint64.f (rd x0 (wrap64 ((IntKind.u64.wrap (wrap64 (x7 + x8))) / 2))) x1).bind fun bC => (if bC = true then (slices_BinarySearch_uint64_uint64.l0 k x0 x1 x6 (wrap64 ((wrap64 ((IntKind.u64.wrap (wrap64 (x7 + x8))) / 2)) + 1)) x8) else (slices_BinarySearch_uint64_uint64.l0 k x0 x1 x6 x7 (wrap64 ((IntKind.u64.wrap (wrap64 (x7 + x8))) / 2))))) else (none)) else (none)) else (if x7 < x6 then (if 0 ≤ x7 then (if x7 < (x0.length : Int) then (if (rd x0 x7) = x1 then (some (x7, true)) else ((slices_isNaN_uint64.f (rd x0 x7)).bind fun bH => (if bH = true then ((slices_isNaN_uint64.f x1).bind fun bp => (some (x7, bp))) else (some (x7, false))))) else (none)) else (none)) else (some (x7, false)))
def slices_BinarySearch_uint64_uint64.f (k : Nat) (l0 : List Int) (a1 : Int) : Option (Int × Bool) := slices_BinarySearch_uint64_uint64.l0 k l0 a1 (l0.length : Int) 0 (l0.length : Int)
theorem slices_BinarySearch_uint64_uint64.mono_l : ∀ k, (∀ y0 y1 y2 y3 y4, LeO (slices_BinarySearch_uint64_uint64.l0 k y0 y1 y2 y3 y4) (slices_BinarySearch_uint64_uint64.l0 (k + 1) y0 y1 y2 y3 y4))
 | 0 => fun _ _ _ _ _ r h => by simp [slices_BinarySearch_uint64_uint64.l0] at h
 | k + 1 => by
  have ih0 := slices_BinarySearch_uint64_uint64.mono_l k
  ·intro y0 y1 y2 y3 y4
   unfold slices_BinarySearch_uint64_uint64.l0
   repeat' first
   | (with_reducible exact ih0 _ _ _ _ _)
   | (with_reducible exact LeO.refl _)
   | (with_reducible exact LeO.none _)
   | (with_reducible refine LeO.ite ?_ ?_)
   | (with_reducible refine LeO.bind ?_ (fun _ => ?_))
   | exact ih0 _ _ _ _ _
   | exact LeO.none _
   | refine LeO.ite ?_ ?_
   | refine LeO.bind ?_ (fun _ => ?_)
theorem slices_BinarySearch_uint64_uint64.mono : ∀ a0 a1 k, LeO (slices_BinarySearch_uint64_uint64.f k a0 a1) (slices_BinarySearch_uint64_uint64.f (k + 1) a0 a1) := by
 intro a0 a1 k
 have ih0 := slices_BinarySearch_uint64_uint64.mono_l k
 unfold slices_BinarySearch_uint64_uint64.f
 repeat' first
   | (with_reducible exact ih0 _ _ _ _ _)
   | (with_reducible exact LeO.refl _)
   | (with_reducible exact LeO.none _)
   | (with_reducible refine LeO.ite ?_ ?_)
   | (with_reducible refine LeO.bind ?_ (fun _ => ?_))
   | exact ih0 _ _ _ _ _
   | exact LeO.none _
   | refine LeO.ite ?_ ?_
   | refine LeO.bind ?_ (fun _ => ?_)
set_option maxHeartbeats 8000000 in
set_option maxRecDepth 100000 in
theorem slices_BinarySearch_uint64_uint64.calls (k : Nat) (A0 : Option Addr) (c0 : Nat) (l0 : List Int) (a1 : Int) (r1 : Int) (r2 : Bool) (w : World) (hr0 : Kd.C (Kd.int .u64) w A0 l0.length l0) (hc0 : l0.length ≤ c0) (h : slices_BinarySearch_uint64_uint64.f k l0 a1 = some (r1, r2)) :
  Calls Tryd.prog 51 #[.slice A0 l0.length c0, .int .u64 a1] w fun e w' => e = .returned (.tuple #[.int .i64 r1, .bool r2]) ∧ Drawn0 w w' := by
 have HR0 := Aside0.mk hr0
 have HC0 := Aside0.mk hc0
 clear hr0 hc0
 have H : (slices_BinarySearch_uint64_uint64.l0 k l0 a1 (l0.length : Int) 0 (l0.length : Int)) = some (r1, r2) := h
 clear h
 have H' := Aside0.mk H
 clear H
 go_enter Tryd.func51, Tryd.ntmps51
 go_wp2
 go_loopg [7, 8] k (fun kq v7 v8 w' => ∃ (bb : Int) (bf : Int), v7 = .int .i64 bb ∧ v8 = .int .i64 bf ∧ Aside0 (slices_BinarySearch_uint64_uint64.l0 kq l0 a1 (l0.length : Int) bb bf = some (r1, r2)) ∧ Aside0 (kq ≤ k) ∧ Drawn0 w w')
 case atStart => exact ⟨(0), ((l0.length : Int)), (by first | rfl | (simp; done) | (simp [*]; done)), (by first | rfl | (simp; done) | (simp [*]; done)), H', ⟨Nat.le_refl _⟩, by repeat (first | exact Drawn0.refl _ | apply Drawn0.step)⟩
 case round =>
  clear H'
  (try clear p2)
  obtain ⟨bb, bf, rfl, rfl, HA, HK1, ⟨m1, rfl⟩⟩ := hrel
  cases gk with
  | zero => exact absurd HA.out (by simp [slices_BinarySearch_uint64_uint64.l0])
  | succ k1 => ?_
  have H := HA.out
  clear HA
  simp only [slices_BinarySearch_uint64_uint64.l0] at H
  by_cases c3 : bb < bf
  ·rw [if_pos c3] at H
   have dK : decide (bb < bf) = true := decide_eq_true c3
   clear c3
   obtain ⟨ji4, bz⟩ : ∃ j_ : Int, (wrap64 ((IntKind.u64.wrap (wrap64 (bb + bf))) / 2)) = j_ := ⟨_, rfl⟩
   replace H : (if 0 ≤ (ji4) then (if (ji4) < (l0.length : Int) then ((cmp_Less_uint64.f (rd l0 (ji4)) a1).bind fun bC => (if bC = true then (slices_BinarySearch_uint64_uint64.l0 k1 l0 a1 (l0.length : Int) (wrap64 ((ji4) + 1)) bf) else (slices_BinarySearch_uint64_uint64.l0 k1 l0 a1 (l0.length : Int) bb ji4))) else (none)) else (none)) = some (r1, r2) := by first | (rw [bz] at H; exact H) | (simp only [bz] at H ⊢; exact H)
   have hji4w : (IntKind.i64.wrap ((IntKind.u64.wrap (wrap64 (bb + bf))) / 2)) = ji4 := (i64_w _).trans bz
   by_cases c5 : 0 ≤ (ji4)
   case neg =>
    rw [if_neg c5] at H
    exact absurd H (by simp)
   rw [if_pos c5] at H
   have dP : decide (0 ≤ (ji4)) = true := decide_eq_true c5
   clear c5
   by_cases c6 : (ji4) < (l0.length : Int)
   case neg =>
    rw [if_neg c6] at H
    exact absurd H (by simp)
   rw [if_pos c6] at H
   have dO : decide ((ji4) < (l0.length : Int)) = true := decide_eq_true c6
   clear c6
   replace H := Option.bind_eq_some_iff.mp H
   obtain ⟨bC, A70, H⟩ := H
   replace H : (if bC = true then (slices_BinarySearch_uint64_uint64.l0 k1 l0 a1 (l0.length : Int) (wrap64 ((ji4) + 1)) bf) else (slices_BinarySearch_uint64_uint64.l0 k1 l0 a1 (l0.length : Int) bb ji4)) = some (r1, r2) := H
   have A7 := Aside0.mk A70
   clear A70
   by_cases c8 : bC = true
   ·subst c8
    have H1 : (slices_BinarySearch_uint64_uint64.l0 k1 l0 a1 (l0.length : Int) (wrap64 ((ji4) + 1)) bf) = some (r1, r2) := by rw [if_pos rfl] at H; exact H
    clear H
    have H := H1
    clear H1
    have H' := Aside0.mk H
    clear H
    have bx : 0 ≤ ((ji4) : Int) := of_decide_eq_true zx6_1
    have bu : (ji4) < (l0.length : Int) := of_decide_eq_true zx6_1
    obtain ⟨bS, bO, bJ⟩ := Kd.at_int HR0.out (ji4) bx bu
    cases bO
    replace bx := eq_true bx
    replace bu := eq_true bu
    go_wp2_with (first | ((with_reducible refine gate_callee (f := 66) rfl ?_); refine goesL_ (some 27) rfl rfl Tryd.func66 (by kernel_rfl) rfl #[.int .u64 (rd l0 (ji4)), .int .u64 a1] rfl (by (try simp only [List.map_toArray, List.map_cons, List.map_nil]); first | done | (simp only [bz]; rfl) | rfl | (simp only [List.length_drop, List.length_take]; rfl)) ?_; (with_reducible refine (cmp_Less_uint64.calls (rd l0 (ji4)) a1 true _ A7.out).mono ?_); rintro e w' ⟨rfl, ⟨nd, rfl⟩⟩; refine ⟨_, rfl, ?_⟩))
    go_roundg k1
    case measure => have := HK1.out; omega
    case rel => exact ⟨(wrap64 ((ji4) + 1)), (bf), (by first | rfl | (simp; done) | (simp only [← bz] <;> (first | rfl | simp)) | (simp [*]; done)), (by first | rfl | (simp; done) | (simp [*]; done)), H', ⟨by have := HK1.out; omega⟩, by repeat (first | exact Drawn0.refl _ | apply Drawn0.step)⟩
   replace c8 := Bool.eq_false_iff.mpr c8
   subst c8
   have H1 : (slices_BinarySearch_uint64_uint64.l0 k1 l0 a1 (l0.length : Int) bb ji4) = some (r1, r2) := by rw [if_neg (show ¬ (false = true) by decide)] at H; exact H
   clear H
   have H := H1
   clear H1
   have H' := Aside0.mk H
   clear H
   have bx : 0 ≤ ((ji4) : Int) := of_decide_eq_true zx6_1
   have bu : (ji4) < (l0.length : Int) := of_decide_eq_true zx6_1
   obtain ⟨bS, bO, bJ⟩ := Kd.at_int HR0.out (ji4) bx bu
   cases bO
   replace bx := eq_true bx
   replace bu := eq_true bu
   go_wp2_with (first | ((with_reducible refine gate_callee (f := 66) rfl ?_); refine goesL_ (some 27) rfl rfl Tryd.func66 (by kernel_rfl) rfl #[.int .u64 (rd l0 (ji4)), .int .u64 a1] rfl (by (try simp only [List.map_toArray, List.map_cons, List.map_nil]); first | done | (simp only [bz]; rfl) | rfl | (simp only [List.length_drop, List.length_take]; rfl)) ?_; (with_reducible refine (cmp_Less_uint64.calls (rd l0 (ji4)) a1 false _ A7.out).mono ?_); rintro e w' ⟨rfl, ⟨nd, rfl⟩⟩; refine ⟨_, rfl, ?_⟩))
   go_roundg k1
   case measure => have := HK1.out; omega
   case rel => exact ⟨(bb), (ji4), (by first | rfl | (simp; done) | (simp [*]; done)), (by first | rfl | (simp; done) | (simp only [← bz] <;> (first | rfl | simp)) | (simp [*]; done)), H', ⟨by have := HK1.out; omega⟩, by repeat (first | exact Drawn0.refl _ | apply Drawn0.step)⟩
  rw [if_neg c3] at H
  have dK : decide (bb < bf) = false := decide_eq_false c3
  clear c3
  by_cases c9 : bb < (l0.length : Int)
  case neg =>
   rw [if_neg c9] at H
   have dH : decide (bb < (l0.length : Int)) = false := decide_eq_false c9
   clear c9
   simp only [Option.some.injEq, Prod.mk.injEq] at H
   obtain ⟨rfl, rfl⟩ := H
   go_wp2
   go_ret2
   exact ⟨by first | rfl | (simp; done) | (simp [*]; done), by repeat (first | exact Drawn0.refl _ | apply Drawn0.step)⟩

  rw [if_pos c9] at H
  have dH : decide (bb < (l0.length : Int)) = true := decide_eq_true c9
  clear c9
  by_cases c10 : 0 ≤ bb
  case neg =>
   rw [if_neg c10] at H
   exact absurd H (by simp)
  rw [if_pos c10] at H
  have dM : decide (0 ≤ bb) = true := decide_eq_true c10
  clear c10
  by_cases c11 : bb < (l0.length : Int)
  case neg =>
   rw [if_neg c11] at H
   exact absurd H (by simp)
  rw [if_pos c11] at H
  have dL : decide (bb < (l0.length : Int)) = true := decide_eq_true c11
  clear c11
  by_cases c12 : (rd l0 bb) = a1
  ·rw [if_pos c12] at H
   have bR : ((rd l0 bb) == a1) = true := beq_iff_eq.mpr c12
   have bQ : ((rd l0 bb) != a1) = false := bne_eq_false_iff_eq.mpr c12
   clear c12
   simp only [Option.some.injEq, Prod.mk.injEq] at H
   obtain ⟨rfl, rfl⟩ := H
   have bh : 0 ≤ (bb : Int) := of_decide_eq_true zx6_1
   have bg : bb < (l0.length : Int) := of_decide_eq_true zx6_1
   obtain ⟨bB, bD, bA⟩ := Kd.at_int HR0.out bb bh bg
   cases bD
   replace bh := eq_true bh
   replace bg := eq_true bg
   go_wp2
   go_ret2
   exact ⟨by first | rfl | (simp; done) | (simp [*]; done), by repeat (first | exact Drawn0.refl _ | apply Drawn0.step)⟩
  rw [if_neg c12] at H
  have bR : ((rd l0 bb) == a1) = false := beq_eq_false_iff_ne.mpr c12
  have bQ : ((rd l0 bb) != a1) = true := bne_iff_ne.mpr c12
  replace H := Option.bind_eq_some_iff.mp H
  obtain ⟨bH, bX, H⟩ := H
  replace H : (if bH = true then ((slices_isNaN_uint64.f a1).bind fun bp => (some (bb, bp))) else (some (bb, false))) = some (r1, r2) := H
  have A13 := Aside0.mk bX
  clear bX
  by_cases c14 : bH = true
  case neg =>
   replace c14 := Bool.eq_false_iff.mpr c14
   subst c14
   have H1 : (some (bb, false)) = some (r1, r2) := by rw [if_neg (show ¬ (false = true) by decide)] at H; exact H
   clear H
   have H := H1
   clear H1
   simp only [Option.some.injEq, Prod.mk.injEq] at H
   obtain ⟨rfl, rfl⟩ := H
   have bh : 0 ≤ (bb : Int) := of_decide_eq_true zx6_1
   have bg : bb < (l0.length : Int) := of_decide_eq_true zx6_1
   obtain ⟨bB, bD, bA⟩ := Kd.at_int HR0.out bb bh bg
   cases bD
   replace bh := eq_true bh
   replace bg := eq_true bg
   have bw : 0 ≤ (bb : Int) := of_decide_eq_true zx6_1
   have br : bb < (l0.length : Int) := of_decide_eq_true zx6_1
   obtain ⟨bG, bN, bI⟩ := Kd.at_int HR0.out bb bw br
   obtain rfl : bB = bG := (by injection bN)
   replace bw := eq_true bw
   replace br := eq_true br
   go_wp2_with (first | (go_at_call 67; (with_reducible refine (slices_isNaN_uint64.calls (rd l0 bb) false _ A13.out).mono ?_); rintro e w' ⟨rfl, ⟨nd, rfl⟩⟩))
   go_ret2
   exact ⟨by first | rfl | (simp; done) | (simp [*]; done), by repeat (first | exact Drawn0.refl _ | apply Drawn0.step)⟩
  subst c14
  have H1 : ((slices_isNaN_uint64.f a1).bind fun bp => (some (bb, bp))) = some (r1, r2) := by rw [if_pos rfl] at H; exact H
  clear H
  have H := H1
  clear H1
  replace H := Option.bind_eq_some_iff.mp H
  obtain ⟨bp, bW, H⟩ := H
  replace H : (some (bb, bp)) = some (r1, r2) := H
  have A15 := Aside0.mk bW
  clear bW
  simp only [Option.some.injEq, Prod.mk.injEq] at H
  obtain ⟨rfl, rfl⟩ := H
  have bh : 0 ≤ (bb : Int) := of_decide_eq_true zx6_1
  have bg : bb < (l0.length : Int) := of_decide_eq_true zx6_1
  obtain ⟨bB, bD, bA⟩ := Kd.at_int HR0.out bb bh bg
  cases bD
  replace bh := eq_true bh
  replace bg := eq_true bg
  have bw : 0 ≤ (bb : Int) := of_decide_eq_true zx6_1
  have br : bb < (l0.length : Int) := of_decide_eq_true zx6_1
  obtain ⟨bG, bN, bI⟩ := Kd.at_int HR0.out bb bw br
  obtain rfl : bB = bG := (by injection bN)
  replace bw := eq_true bw
  replace br := eq_true br
  go_wp2_with (first | (go_at_call 67; (with_reducible refine (slices_isNaN_uint64.calls (rd l0 bb) true _ A13.out).mono ?_); rintro e w' ⟨rfl, ⟨nd, rfl⟩⟩) | (go_at_call 67; (with_reducible refine (slices_isNaN_uint64.calls a1 bp _ A15.out).mono ?_); rintro e w' ⟨rfl, ⟨nd, rfl⟩⟩))
  go_ret2
  exact ⟨by first | rfl | (simp; done) | (simp [*]; done), by repeat (first | exact Drawn0.refl _ | apply Drawn0.step)⟩
/-! ### ledger_Dest_waits: function 36 -/
def ledger_Dest_waits.f (k : Nat) (bn : ByteArray) (bm : Int) (be : Int) (bd : List Int) (bl : Int) (bk : Int) (bj : Int) (a1 : Int) (a2 : Int) : Option (Bool) := if a1 < be then (some false) else (if a1 ≥ a2 then (some false) else ((slices_BinarySearch_uint64_uint64.f k bd a1).bind fun bE => (some (!bE.2))))
theorem ledger_Dest_waits.mono : ∀ a0 a1 a2 a3 a4 a5 a6 a7 a8 k, LeO (ledger_Dest_waits.f k a0 a1 a2 a3 a4 a5 a6 a7 a8) (ledger_Dest_waits.f (k + 1) a0 a1 a2 a3 a4 a5 a6 a7 a8) := by
 intro a0 a1 a2 a3 a4 a5 a6 a7 a8 k
 unfold ledger_Dest_waits.f
 repeat' first
   | (with_reducible exact slices_BinarySearch_uint64_uint64.mono _ _ _)
   | (with_reducible exact LeO.refl _)
   | (with_reducible exact LeO.none _)
   | (with_reducible refine LeO.ite ?_ ?_)
   | (with_reducible refine LeO.bind ?_ (fun _ => ?_))
   | exact slices_BinarySearch_uint64_uint64.mono _ _ _
   | exact LeO.none _
   | refine LeO.ite ?_ ?_
   | refine LeO.bind ?_ (fun _ => ?_)
set_option maxHeartbeats 8000000 in
set_option maxRecDepth 100000 in
theorem ledger_Dest_waits.calls (k : Nat) (bn : ByteArray) (bm : Int) (be : Int) (bo : Option Addr) (bi : Nat) (bd : List Int) (bl : Int) (bk : Int) (bj : Int) (a1 : Int) (a2 : Int) (r : Bool) (w : World) (bK : Kd.C (Kd.int .u64) w bo bd.length bd) (bL : bd.length ≤ bi) (h : ledger_Dest_waits.f k bn bm be bd bl bk bj a1 a2 = some r) :
  Calls Tryd.prog 36 #[.agg #[.string bn, .int .u64 bm, .int .u64 be, .slice bo bd.length bi, .int .u64 bl, .int .u64 bk, .int .u64 bj], .int .u64 a1, .int .u64 a2] w fun e w' => e = .returned (.bool r) ∧ Below w.heap.size w w' := by
 have dN := Tryd.underlying37
 have bU := Aside0.mk bK
 have bV := Aside0.mk bL
 clear bK bL
 have HB := Aside0.mk (Below.refl w.heap.size w)
 have H : (if a1 < be then (some false) else (if a1 ≥ a2 then (some false) else ((slices_BinarySearch_uint64_uint64.f k bd a1).bind fun bE => (some (!bE.2))))) = some r := h
 clear h
 by_cases c4 : a1 < be
 ·rw [if_pos c4] at H
  have dJ : decide (a1 < be) = true := decide_eq_true c4
  clear c4
  obtain rfl := Option.some.inj H
  go_enter Tryd.func36, Tryd.ntmps36
  go_wp2_with (first | ((with_reducible refine gate_dst (N := 3) rfl ?_); refine box_event ?hg (N := 3) ?hd (cs := #[.string bn, .int .u64 bm, .int .u64 be, .slice bo bd.length bi, .int .u64 bl, .int .u64 bk, .int .u64 bj]) (t := 37) ?hr ?_; (case hd => rfl); (case hg => rfl); (case hr => first | (go_simp; done) | (go_simp; rfl)); intro bc hg w5 hbox hb; have ba := Aside0.mk (hbox); have bM := Aside0.mk ((by rw [hg]; exact (below_size zx6_0) : w.heap.size ≤ bc)); have bq := Aside0.mk ((by rw [hg]; exact (below_size zx6_0) : w.heap.size ≤ bc)); replace HB := Aside0.mk (below_step zx6_0 hb); clear hb hbox hg; have dG : w5.cell? ⟨bc, 0, none⟩ = some (.string bn) := (blk_cell ba.out 0).trans rfl; have dF : w5.cell? ⟨bc, 1, none⟩ = some (.int .u64 bm) := (blk_cell ba.out 1).trans rfl; have dE : w5.cell? ⟨bc, 2, none⟩ = some (.int .u64 be) := (blk_cell ba.out 2).trans rfl; have dD : w5.cell? ⟨bc, 3, none⟩ = some (.slice bo bd.length bi) := (blk_cell ba.out 3).trans rfl; have dC : w5.cell? ⟨bc, 4, none⟩ = some (.int .u64 bl) := (blk_cell ba.out 4).trans rfl; have dB : w5.cell? ⟨bc, 5, none⟩ = some (.int .u64 bk) := (blk_cell ba.out 5).trans rfl; have dA : w5.cell? ⟨bc, 6, none⟩ = some (.int .u64 bj) := (blk_cell ba.out 6).trans rfl; have ds := blk_frozen ba.out 0; have dr := blk_frozen ba.out 1; have dq := blk_frozen ba.out 2; have dp := blk_frozen ba.out 3; have dn := blk_frozen ba.out 4; have dm := blk_frozen ba.out 5; have dl := blk_frozen ba.out 6))
  go_ret
  exact ⟨by first | rfl | (simp [errW_none, errW_some] <;> rfl) | (simp [*, errW_none, errW_some] <;> rfl), by repeat (first | (with_reducible first | exact HB.out | apply below_alloc | apply pw_below_drewN | apply below_drew1 | refine below_set ?_ bq.out) | exact HB.out)⟩
 rw [if_neg c4] at H
 have dJ : decide (a1 < be) = false := decide_eq_false c4
 clear c4
 by_cases c7 : a1 ≥ a2
 ·rw [if_pos c7] at H
  have dI : decide (a2 ≤ a1) = true := decide_eq_true c7
  clear c7
  obtain rfl := Option.some.inj H
  go_enter Tryd.func36, Tryd.ntmps36
  go_wp2_with (first | ((with_reducible refine gate_dst (N := 3) rfl ?_); refine box_event ?hg (N := 3) ?hd (cs := #[.string bn, .int .u64 bm, .int .u64 be, .slice bo bd.length bi, .int .u64 bl, .int .u64 bk, .int .u64 bj]) (t := 37) ?hr ?_; (case hd => rfl); (case hg => rfl); (case hr => first | (go_simp; done) | (go_simp; rfl)); intro bc hg w8 hbox hb; have ba := Aside0.mk (hbox); have bM := Aside0.mk ((by rw [hg]; exact (below_size zx6_0) : w.heap.size ≤ bc)); have bq := Aside0.mk ((by rw [hg]; exact (below_size zx6_0) : w.heap.size ≤ bc)); replace HB := Aside0.mk (below_step zx6_0 hb); clear hb hbox hg; have dz : w8.cell? ⟨bc, 0, none⟩ = some (.string bn) := (blk_cell ba.out 0).trans rfl; have dy : w8.cell? ⟨bc, 1, none⟩ = some (.int .u64 bm) := (blk_cell ba.out 1).trans rfl; have dx : w8.cell? ⟨bc, 2, none⟩ = some (.int .u64 be) := (blk_cell ba.out 2).trans rfl; have dw : w8.cell? ⟨bc, 3, none⟩ = some (.slice bo bd.length bi) := (blk_cell ba.out 3).trans rfl; have dv : w8.cell? ⟨bc, 4, none⟩ = some (.int .u64 bl) := (blk_cell ba.out 4).trans rfl; have du : w8.cell? ⟨bc, 5, none⟩ = some (.int .u64 bk) := (blk_cell ba.out 5).trans rfl; have dt : w8.cell? ⟨bc, 6, none⟩ = some (.int .u64 bj) := (blk_cell ba.out 6).trans rfl; have dk := blk_frozen ba.out 0; have dj := blk_frozen ba.out 1; have di := blk_frozen ba.out 2; have dh := blk_frozen ba.out 3; have dg := blk_frozen ba.out 4; have df := blk_frozen ba.out 5; have de := blk_frozen ba.out 6))
  go_ret
  exact ⟨by first | rfl | (simp [errW_none, errW_some] <;> rfl) | (simp [*, errW_none, errW_some] <;> rfl), by repeat (first | (with_reducible first | exact HB.out | apply below_alloc | apply pw_below_drewN | apply below_drew1 | refine below_set ?_ bq.out) | exact HB.out)⟩
 rw [if_neg c7] at H
 have dI : decide (a2 ≤ a1) = false := decide_eq_false c7
 clear c7
 replace H := Option.bind_eq_some_iff.mp H
 obtain ⟨⟨dd, bP⟩, bY, H⟩ := H
 replace H : (some (!bP)) = some r := H
 have A10 := Aside0.mk bY
 clear bY
 obtain rfl := Option.some.inj H
 go_enter Tryd.func36, Tryd.ntmps36
 go_wp2_with (first | ((with_reducible refine gate_dst (N := 3) rfl ?_); refine box_event ?hg (N := 3) ?hd (cs := #[.string bn, .int .u64 bm, .int .u64 be, .slice bo bd.length bi, .int .u64 bl, .int .u64 bk, .int .u64 bj]) (t := 37) ?hr ?_; (case hd => rfl); (case hg => rfl); (case hr => first | (go_simp; done) | (go_simp; rfl)); intro bc hg w11 hbox hb; have ba := Aside0.mk (hbox); have bM := Aside0.mk ((by rw [hg]; exact (below_size zx6_0) : w.heap.size ≤ bc)); have bq := Aside0.mk ((by rw [hg]; exact (below_size zx6_0) : w.heap.size ≤ bc)); replace HB := Aside0.mk (below_step zx6_0 hb); clear hb hbox hg; have dc : w11.cell? ⟨bc, 0, none⟩ = some (.string bn) := (blk_cell ba.out 0).trans rfl; have db : w11.cell? ⟨bc, 1, none⟩ = some (.int .u64 bm) := (blk_cell ba.out 1).trans rfl; have da : w11.cell? ⟨bc, 2, none⟩ = some (.int .u64 be) := (blk_cell ba.out 2).trans rfl; have b9 : w11.cell? ⟨bc, 3, none⟩ = some (.slice bo bd.length bi) := (blk_cell ba.out 3).trans rfl; have b8 : w11.cell? ⟨bc, 4, none⟩ = some (.int .u64 bl) := (blk_cell ba.out 4).trans rfl; have b7 : w11.cell? ⟨bc, 5, none⟩ = some (.int .u64 bk) := (blk_cell ba.out 5).trans rfl; have b6 : w11.cell? ⟨bc, 6, none⟩ = some (.int .u64 bj) := (blk_cell ba.out 6).trans rfl; have b5 := blk_frozen ba.out 0; have b4 := blk_frozen ba.out 1; have b3 := blk_frozen ba.out 2; have b2 := blk_frozen ba.out 3; have b1 := blk_frozen ba.out 4; have b0 := blk_frozen ba.out 5; have bZ := blk_frozen ba.out 6) | ((with_reducible refine gate_callee (f := 51) rfl ?_); refine goesL_ (some 22) rfl rfl Tryd.func51 (by kernel_rfl) rfl #[.slice bo bd.length bi, .int .u64 a1] rfl (by (try simp only [List.map_toArray, List.map_cons, List.map_nil]); first | done | rfl | (simp only [List.length_drop, List.length_take]; rfl)) ?_; (with_reducible refine (slices_BinarySearch_uint64_uint64.calls k _ _ bd a1 dd bP _ ?side1 ?side2 A10.out).mono ?_); (case side1 => repeat (first | exact (Kd.C_below bU.out HB.out) | (with_reducible refine Kd.C_alloc ?_ _) | (with_reducible refine Kd.C_drewN ?_ _) | (with_reducible refine Kd.C_drew ?_))); (case side2 => exact bV.out); rintro e w' ⟨rfl, ⟨nd, rfl⟩⟩; refine ⟨_, rfl, ?_⟩))
 go_ret
 exact ⟨by first | rfl | (simp [errW_none, errW_some] <;> rfl) | (simp [*, errW_none, errW_some] <;> rfl), by repeat (first | (with_reducible first | exact HB.out | apply below_alloc | apply pw_below_drewN | apply below_drew1 | refine below_set ?_ bq.out) | exact HB.out)⟩

end Go.Proofs.YthhmpjapnkilcaaDoor.XLdg
end
section
/- What the functions of the translation answer, each as a plain Lean function, and that the code comes to it; for a law: its row. Conditions: none but those that each theorem names. Written by a program of this session (wip/xp). -/
namespace Go.Proofs.YthhmpjapnkilcaaDoor.XLdg
open Go.RowKit Go.Proofs.YthhmpjapnkilcaaDoorW.PrintWords Go.Proofs.YthhmpjapnkilcaaDoorW.PrintLast Go.Proofs.YthhmpjapnkilcaaDoorW.PrintMore
attribute [local go_sem] max2_int min2_int max_two min_two max_three min_three max_four min_four   -- for this text's walks alone
set_option linter.unusedVariables false
set_option linter.unusedSimpArgs false

/-! ### postroomref10_place: function 46 -/
theorem cx13_bc3 {w : World} {g : Nat} {t : TypeId} {x0 x1 x2 : Value} (h : w.heap[g]? = some (.cells #[x0, x1, x2] t (0, 0))) : w.cell? ⟨g, 0, none⟩ = some x0 ∧ w.cell? ⟨g, 1, none⟩ = some x1 ∧ w.cell? ⟨g, 2, none⟩ = some x2 ∧ w.frozen? ⟨g, 0, none⟩ = false ∧ w.frozen? ⟨g, 1, none⟩ = false ∧ w.frozen? ⟨g, 2, none⟩ = false :=
 ⟨(blk_cell h 0).trans rfl, (blk_cell h 1).trans rfl, (blk_cell h 2).trans rfl, blk_frozen h 0, blk_frozen h 1, blk_frozen h 2⟩
def postroomref10_place.l0 : Nat → ByteArray → Int → Int → Int → List (S84) → Option (Int)
 | 0, _, _, _, _, _ => none
 | k + 1, x1, x5, bq, bp, bi => if x5 < (bi.length : Int) then (if 0 ≤ x5 then (if ((rd_T84 bi x5).f0).toList = x1.toList then (some x5) else (postroomref10_place.l0 k x1 (wrap64 (x5 + 1)) bq bp bi)) else (none)) else (some (-1))
def postroomref10_place.f (k : Nat) (bk : Int) (bj : Int) (ba : List (S84)) (a1 : ByteArray) : Option (Int) := postroomref10_place.l0 k a1 0 bk bj ba
set_option maxHeartbeats 8000000 in
set_option maxRecDepth 100000 in
theorem postroomref10_place.calls (k : Nat) (bk : Int) (bj : Int) (bx : Option Addr) (br : Nat) (ba : List (S84)) (a1 : ByteArray) (r : Int) (w : World) (bz : Kd.C k84 w bx ba.length ba) (bA : ba.length ≤ br) (h : postroomref10_place.f k bk bj ba a1 = some r) :
  Calls Tryd.prog 46 #[.agg #[.int .u64 bk, .int .u64 bj, .slice bx ba.length br], .string a1] w fun e w' => e = .returned (.int .i64 r) ∧ Below w.heap.size w w' := by
 have b5 := Tryd.underlying57
 have bB := Aside0.mk bz
 have b3 := Aside0.mk bA
 clear bz bA
 have HB := Aside0.mk (Below.refl w.heap.size w)
 have H : (postroomref10_place.l0 k a1 0 bk bj ba) = some r := h
 clear h
 have H' := Aside0.mk H
 clear H
 go_enter Tryd.func46, Tryd.ntmps46
 go_wp2_with (first | ((with_reducible refine gate_dst (N := 2) rfl ?_); refine box_event ?hg (N := 2) ?hd (cs := #[.int .u64 bk, .int .u64 bj, .slice bx ba.length br]) (t := 57) ?hr ?_; (case hd => rfl); (case hg => rfl); (case hr => first | (go_simp; done) | (go_simp; rfl)); intro bo hg w3 hbox hb; have bh := Aside0.mk (hbox); have b4 := Aside0.mk ((by rw [hg]; exact (below_size (by repeat (first | (with_reducible first | exact HB.out | apply below_alloc | apply pw_below_drewN | apply below_drew1) | exact HB.out))) : w.heap.size ≤ bo)); have bn := Aside0.mk ((by rw [hg]; exact (below_size (by repeat (first | (with_reducible first | exact HB.out | apply below_alloc | apply pw_below_drewN | apply below_drew1) | exact HB.out))) : w.heap.size ≤ bo)); replace HB := Aside0.mk (below_step (by repeat (first | (with_reducible first | exact HB.out | apply below_alloc | apply pw_below_drewN | apply below_drew1) | exact HB.out)) hb); clear hb hbox hg))
 go_loopg [5] k (fun kq v5 w' => ∃ (bb : Int), v5 = .int .i64 bb ∧ Aside0 (postroomref10_place.l0 kq a1 bb bk bj ba = some r) ∧ Aside0 (kq ≤ k) ∧ Aside0 (w'.heap[bo]? = some (.cells #[.int .u64 bk, .int .u64 bj, (.slice bx ba.length br)] 57 (0, 0))) ∧ Aside0 (Below w.heap.size w w'))
 case atStart => exact ⟨(0), (by first | rfl | (simp; done) | (simp [*]; done)), H', ⟨Nat.le_refl _⟩, ⟨by (with_reducible repeat (first | refine blk_drewN ?_ _ | refine blk_drew ?_ | refine blk_alloc ?_ _)); exact bh.out⟩, ⟨by repeat (first | (with_reducible first | exact HB.out | apply below_alloc | apply pw_below_drewN | apply below_drew1 | refine below_set ?_ bn.out) | exact HB.out)⟩⟩
 case round =>
  clear H'
  (try clear p2)
  obtain ⟨bb, rfl, HA, HK1, bh, HB⟩ := hrel
  cases gk with
  | zero => exact absurd HA.out (by simp [postroomref10_place.l0])
  | succ k1 => ?_
  have H := HA.out
  clear HA
  simp only [postroomref10_place.l0] at H
  by_cases c4 : bb < (ba.length : Int)
  case neg =>
   rw [if_neg c4] at H
   have b2 : decide (bb < (ba.length : Int)) = false := decide_eq_false c4
   clear c4
   obtain rfl := Option.some.inj H
   obtain ⟨bS, bR, bQ, bJ, bI, bH⟩ := cx13_bc3 bh.out
   go_wp2
   go_ret
   exact ⟨by first | rfl | (simp [errW_none, errW_some] <;> rfl) | (simp [*, errW_none, errW_some] <;> rfl), by repeat (first | (with_reducible first | exact HB.out | apply below_alloc | apply pw_below_drewN | apply below_drew1 | refine below_set ?_ bn.out) | exact HB.out)⟩

  rw [if_pos c4] at H
  have b2 : decide (bb < (ba.length : Int)) = true := decide_eq_true c4
  clear c4
  by_cases c5 : 0 ≤ bb
  case neg =>
   rw [if_neg c5] at H
   exact absurd H (by simp)
  rw [if_pos c5] at H
  have b6 : decide (0 ≤ bb) = true := decide_eq_true c5
  clear c5
  by_cases c6 : ((rd_T84 ba bb).f0).toList = a1.toList
  ·rw [if_pos c6] at H
   have b1 : (((rd_T84 ba bb).f0).toList == a1.toList) = true := beq_iff_eq.mpr c6
   have b0 : (((rd_T84 ba bb).f0).toList != a1.toList) = false := bne_eq_false_iff_eq.mpr c6
   clear c6
   obtain rfl := Option.some.inj H
   obtain ⟨bZ, bY, bX, bP, bO, bN⟩ := cx13_bc3 bh.out
   have bm : 0 ≤ (bb : Int) := of_decide_eq_true (by first | (with_reducible assumption) | assumption)
   have bl : bb < (ba.length : Int) := of_decide_eq_true (by first | (with_reducible assumption) | assumption)
   obtain ⟨bG, bE, bD, bC, be, bd, bc, bf, bg⟩ := at_T84 bB.out bb bm bl
   cases bC
   replace be := (HB.out.cell (World.block_lt_of_cell? w _ be)).trans be
   replace bd := (HB.out.cell (World.block_lt_of_cell? w _ bd)).trans bd
   replace bc := (HB.out.cell (World.block_lt_of_cell? w _ bc)).trans bc
   have bu := Aside0.mk bg
   have bw := Aside0.mk bf
   clear bg bf
   replace bm := eq_true bm
   replace bl := eq_true bl
   go_wp2
   go_ret
   exact ⟨by first | rfl | (simp [errW_none, errW_some] <;> rfl) | (simp [*, errW_none, errW_some] <;> rfl), by repeat (first | (with_reducible first | exact HB.out | apply below_alloc | apply pw_below_drewN | apply below_drew1 | refine below_set ?_ bn.out) | exact HB.out)⟩
  rw [if_neg c6] at H
  have b1 : (((rd_T84 ba bb).f0).toList == a1.toList) = false := beq_eq_false_iff_ne.mpr c6
  have b0 : (((rd_T84 ba bb).f0).toList != a1.toList) = true := bne_iff_ne.mpr c6
  have H' := Aside0.mk H
  clear H
  obtain ⟨bW, bV, bU, bM, bL, bK⟩ := cx13_bc3 bh.out
  have bm : 0 ≤ (bb : Int) := of_decide_eq_true (by first | (with_reducible assumption) | assumption)
  have bl : bb < (ba.length : Int) := of_decide_eq_true (by first | (with_reducible assumption) | assumption)
  obtain ⟨bG, bE, bD, bC, be, bd, bc, bf, bg⟩ := at_T84 bB.out bb bm bl
  cases bC
  replace be := (HB.out.cell (World.block_lt_of_cell? w _ be)).trans be
  replace bd := (HB.out.cell (World.block_lt_of_cell? w _ bd)).trans bd
  replace bc := (HB.out.cell (World.block_lt_of_cell? w _ bc)).trans bc
  have bu := Aside0.mk bg
  have bw := Aside0.mk bf
  clear bg bf
  replace bm := eq_true bm
  replace bl := eq_true bl
  go_wp2
  go_roundg k1
  case measure => have := HK1.out; omega
  case rel => exact ⟨(wrap64 (bb + 1)), (by first | rfl | (simp; done) | (simp [*]; done)), H', ⟨by have := HK1.out; omega⟩, ⟨by (with_reducible repeat (first | refine blk_drewN ?_ _ | refine blk_drew ?_ | refine blk_alloc ?_ _)); exact bh.out⟩, ⟨by repeat (first | (with_reducible first | exact HB.out | apply below_alloc | apply pw_below_drewN | apply below_drew1 | refine below_set ?_ bn.out) | exact HB.out)⟩⟩
end Go.Proofs.YthhmpjapnkilcaaDoor.XLdg
end
section
/- What the functions of the translation answer, each as a plain Lean function, and that the code comes to it; for a law: its row. Conditions: none but those that each theorem names. Written by a program of this session (wip/xp). -/
namespace Go.Proofs.YthhmpjapnkilcaaDoor.XLdg
open Go.RowKit Go.Proofs.YthhmpjapnkilcaaDoorW.PrintWords Go.Proofs.YthhmpjapnkilcaaDoorW.PrintLast Go.Proofs.YthhmpjapnkilcaaDoorW.PrintMore
attribute [local go_sem] max2_int min2_int max_two min_two max_three min_three max_four min_four   -- for this text's walks alone
theorem zx14_0 {p : Prop} (h : p := by first | (with_reducible assumption) | assumption) : p := h
set_option linter.unusedVariables false
set_option linter.unusedSimpArgs false

/-! ### postroomref3_Name: function 54 -/
def postroomref3_Name.l0 : Nat → ByteArray → Int → Option (Bool)
 | 0, _, _ => none
 | k + 1, x0, x3 => if x3 < (x0.size : Int) then (if 0 ≤ x3 then (if (bt x0 x3) ≥ 97 then (if (bt x0 x3) ≤ 122 then (postroomref3_Name.l0 k x0 (wrap64 (x3 + 1))) else (if ((bt x0 x3) = 95) then (postroomref3_Name.l0 k x0 (wrap64 (x3 + 1))) else (if x3 = 0 then (some false) else (if (bt x0 x3) < 48 then (some false) else (if (bt x0 x3) > 57 then (some false) else (postroomref3_Name.l0 k x0 (wrap64 (x3 + 1)))))))) else (if ((bt x0 x3) = 95) then (postroomref3_Name.l0 k x0 (wrap64 (x3 + 1))) else (if x3 = 0 then (some false) else (if (bt x0 x3) < 48 then (some false) else (if (bt x0 x3) > 57 then (some false) else (postroomref3_Name.l0 k x0 (wrap64 (x3 + 1)))))))) else (none)) else (if (x0.size : Int) ≥ 1 then (some (decide ((x0.size : Int) ≤ 20))) else (some false))
def postroomref3_Name.f (k : Nat) (a0 : ByteArray) : Option (Bool) := postroomref3_Name.l0 k a0 0
theorem postroomref3_Name.mono_l : ∀ k, (∀ y0 y1, LeO (postroomref3_Name.l0 k y0 y1) (postroomref3_Name.l0 (k + 1) y0 y1))
 | 0 => fun _ _ r h => by simp [postroomref3_Name.l0] at h
 | k + 1 => by
  have ih0 := postroomref3_Name.mono_l k
  ·intro y0 y1
   unfold postroomref3_Name.l0
   repeat' first
   | (with_reducible exact ih0 _ _)
   | (with_reducible exact LeO.refl _)
   | (with_reducible exact LeO.none _)
   | (with_reducible refine LeO.ite ?_ ?_)
   | (with_reducible refine LeO.bind ?_ (fun _ => ?_))
   | exact ih0 _ _
   | exact LeO.none _
   | refine LeO.ite ?_ ?_
   | refine LeO.bind ?_ (fun _ => ?_)
theorem postroomref3_Name.mono : ∀ a0 k, LeO (postroomref3_Name.f k a0) (postroomref3_Name.f (k + 1) a0) := by
 intro a0 k
 have ih0 := postroomref3_Name.mono_l k
 unfold postroomref3_Name.f
 repeat' first
   | (with_reducible exact ih0 _ _)
   | (with_reducible exact LeO.refl _)
   | (with_reducible exact LeO.none _)
   | (with_reducible refine LeO.ite ?_ ?_)
   | (with_reducible refine LeO.bind ?_ (fun _ => ?_))
   | exact ih0 _ _
   | exact LeO.none _
   | refine LeO.ite ?_ ?_
   | refine LeO.bind ?_ (fun _ => ?_)
set_option maxHeartbeats 8000000 in
set_option maxRecDepth 100000 in
theorem postroomref3_Name.calls (k : Nat) (a0 : ByteArray) (r : Bool) (w : World) (h : postroomref3_Name.f k a0 = some r) :
  Calls Tryd.prog 54 #[.string a0] w fun e w' => e = .returned (.bool r) ∧ Drawn0 w w' := by
 have H : (postroomref3_Name.l0 k a0 0) = some r := h
 clear h
 have H' := Aside0.mk H
 clear H
 go_enter Tryd.func54, Tryd.ntmps54
 go_wp2
 go_loopg [3] k (fun kq v3 w' => ∃ (ba : Int), v3 = .int .i64 ba ∧ Aside0 (postroomref3_Name.l0 kq a0 ba = some r) ∧ Aside0 (kq ≤ k) ∧ Drawn0 w w')
 case atStart => exact ⟨(0), (by first | rfl | (simp; done) | (simp [*]; done)), H', ⟨Nat.le_refl _⟩, by repeat (first | exact Drawn0.refl _ | apply Drawn0.step)⟩
 case round =>
  clear H'
  obtain ⟨ba, rfl, HA, HK1, ⟨m1, rfl⟩⟩ := hrel
  cases gk with
  | zero => exact absurd HA.out (by simp [postroomref3_Name.l0])
  | succ k1 => ?_
  have H := HA.out
  clear HA
  simp only [postroomref3_Name.l0] at H
  by_cases c2 : ba < (a0.size : Int)
  case neg =>
   rw [if_neg c2] at H
   have bA : decide (ba < (a0.size : Int)) = false := decide_eq_false c2
   clear c2
   by_cases c22 : (a0.size : Int) ≥ 1
   ·rw [if_pos c22] at H
    have bf : decide (1 ≤ (a0.size : Int)) = true := decide_eq_true c22
    have be : decide (1 ≤ a0.size) = true := decide_eq_true (by omega)
    clear c22
    obtain rfl := Option.some.inj H
    go_wp2
    go_ret
    exact ⟨by first | rfl | (simp; done) | (simp [*]; done), by repeat (first | exact Drawn0.refl _ | apply Drawn0.step)⟩
   rw [if_neg c22] at H
   have bf : decide (1 ≤ (a0.size : Int)) = false := decide_eq_false c22
   have be : decide (1 ≤ a0.size) = false := decide_eq_false (by omega)
   clear c22
   obtain rfl := Option.some.inj H
   go_wp2
   go_ret
   exact ⟨by first | rfl | (simp; done) | (simp [*]; done), by repeat (first | exact Drawn0.refl _ | apply Drawn0.step)⟩

  rw [if_pos c2] at H
  have bA : decide (ba < (a0.size : Int)) = true := decide_eq_true c2
  clear c2
  by_cases c3 : 0 ≤ ba
  case neg =>
   rw [if_neg c3] at H
   exact absurd H (by simp)
  rw [if_pos c3] at H
  have bB : decide (0 ≤ ba) = true := decide_eq_true c3
  clear c3
  by_cases c5 : (bt a0 ba) ≥ 97
  case neg =>
   rw [if_neg c5] at H
   have bz : decide (97 ≤ (bt a0 ba)) = false := decide_eq_false c5
   clear c5
   by_cases c16 : ((bt a0 ba) = 95)
   ·rw [if_pos c16] at H
    have bl : ((bt a0 ba) == 95) = true := beq_iff_eq.mpr c16
    have bk : ((bt a0 ba) != 95) = false := bne_eq_false_iff_eq.mpr c16
    clear c16
    have H' := Aside0.mk H
    clear H
    have p4 : 0 ≤ (ba : Int) := of_decide_eq_true zx14_0
    have q4 : ba < (a0.size : Int) := of_decide_eq_true zx14_0
    have hx4 := bt_at a0 ba
    replace p4 := eq_true p4
    replace q4 := eq_true q4
    have p15 : 0 ≤ (ba : Int) := of_decide_eq_true zx14_0
    have q15 : ba < (a0.size : Int) := of_decide_eq_true zx14_0
    have bb := bt_at a0 ba
    replace p15 := eq_true p15
    replace q15 := eq_true q15
    go_wp2
    go_roundg k1
    case measure => have := HK1.out; omega
    case rel => exact ⟨(wrap64 (ba + 1)), (by first | rfl | (simp; done) | (simp [*]; done)), H', ⟨by have := HK1.out; omega⟩, by repeat (first | exact Drawn0.refl _ | apply Drawn0.step)⟩
   rw [if_neg c16] at H
   have bl : ((bt a0 ba) == 95) = false := beq_eq_false_iff_ne.mpr c16
   have bk : ((bt a0 ba) != 95) = true := bne_iff_ne.mpr c16
   by_cases c17 : ba = 0
   ·rw [if_pos c17] at H
    have bj : (ba == 0) = true := beq_iff_eq.mpr c17
    have bi : (ba != 0) = false := bne_eq_false_iff_eq.mpr c17
    clear c17
    obtain rfl := Option.some.inj H
    have p4 : 0 ≤ (ba : Int) := of_decide_eq_true zx14_0
    have q4 : ba < (a0.size : Int) := of_decide_eq_true zx14_0
    have hx4 := bt_at a0 ba
    replace p4 := eq_true p4
    replace q4 := eq_true q4
    have p15 : 0 ≤ (ba : Int) := of_decide_eq_true zx14_0
    have q15 : ba < (a0.size : Int) := of_decide_eq_true zx14_0
    have bb := bt_at a0 ba
    replace p15 := eq_true p15
    replace q15 := eq_true q15
    go_wp2
    go_ret
    exact ⟨by first | rfl | (simp; done) | (simp [*]; done), by repeat (first | exact Drawn0.refl _ | apply Drawn0.step)⟩
   rw [if_neg c17] at H
   have bj : (ba == 0) = false := beq_eq_false_iff_ne.mpr c17
   have bi : (ba != 0) = true := bne_iff_ne.mpr c17
   by_cases c19 : (bt a0 ba) < 48
   ·rw [if_pos c19] at H
    have bh : decide ((bt a0 ba) < 48) = true := decide_eq_true c19
    clear c19
    obtain rfl := Option.some.inj H
    have p4 : 0 ≤ (ba : Int) := of_decide_eq_true zx14_0
    have q4 : ba < (a0.size : Int) := of_decide_eq_true zx14_0
    have hx4 := bt_at a0 ba
    replace p4 := eq_true p4
    replace q4 := eq_true q4
    have p15 : 0 ≤ (ba : Int) := of_decide_eq_true zx14_0
    have q15 : ba < (a0.size : Int) := of_decide_eq_true zx14_0
    have bb := bt_at a0 ba
    replace p15 := eq_true p15
    replace q15 := eq_true q15
    have p18 : 0 ≤ (ba : Int) := of_decide_eq_true zx14_0
    have q18 : ba < (a0.size : Int) := of_decide_eq_true zx14_0
    have bc := bt_at a0 ba
    replace p18 := eq_true p18
    replace q18 := eq_true q18
    go_wp2
    go_ret
    exact ⟨by first | rfl | (simp; done) | (simp [*]; done), by repeat (first | exact Drawn0.refl _ | apply Drawn0.step)⟩
   rw [if_neg c19] at H
   have bh : decide ((bt a0 ba) < 48) = false := decide_eq_false c19
   clear c19
   by_cases c21 : (bt a0 ba) > 57
   ·rw [if_pos c21] at H
    have bg : decide (57 < (bt a0 ba)) = true := decide_eq_true c21
    clear c21
    obtain rfl := Option.some.inj H
    have p4 : 0 ≤ (ba : Int) := of_decide_eq_true zx14_0
    have q4 : ba < (a0.size : Int) := of_decide_eq_true zx14_0
    have hx4 := bt_at a0 ba
    replace p4 := eq_true p4
    replace q4 := eq_true q4
    have p15 : 0 ≤ (ba : Int) := of_decide_eq_true zx14_0
    have q15 : ba < (a0.size : Int) := of_decide_eq_true zx14_0
    have bb := bt_at a0 ba
    replace p15 := eq_true p15
    replace q15 := eq_true q15
    have p18 : 0 ≤ (ba : Int) := of_decide_eq_true zx14_0
    have q18 : ba < (a0.size : Int) := of_decide_eq_true zx14_0
    have bc := bt_at a0 ba
    replace p18 := eq_true p18
    replace q18 := eq_true q18
    have p20 : 0 ≤ (ba : Int) := of_decide_eq_true zx14_0
    have q20 : ba < (a0.size : Int) := of_decide_eq_true zx14_0
    have bq := bt_at a0 ba
    replace p20 := eq_true p20
    replace q20 := eq_true q20
    go_wp2
    go_ret
    exact ⟨by first | rfl | (simp; done) | (simp [*]; done), by repeat (first | exact Drawn0.refl _ | apply Drawn0.step)⟩
   rw [if_neg c21] at H
   have bg : decide (57 < (bt a0 ba)) = false := decide_eq_false c21
   clear c21
   have H' := Aside0.mk H
   clear H
   have p4 : 0 ≤ (ba : Int) := of_decide_eq_true zx14_0
   have q4 : ba < (a0.size : Int) := of_decide_eq_true zx14_0
   have hx4 := bt_at a0 ba
   replace p4 := eq_true p4
   replace q4 := eq_true q4
   have p15 : 0 ≤ (ba : Int) := of_decide_eq_true zx14_0
   have q15 : ba < (a0.size : Int) := of_decide_eq_true zx14_0
   have bb := bt_at a0 ba
   replace p15 := eq_true p15
   replace q15 := eq_true q15
   have p18 : 0 ≤ (ba : Int) := of_decide_eq_true zx14_0
   have q18 : ba < (a0.size : Int) := of_decide_eq_true zx14_0
   have bc := bt_at a0 ba
   replace p18 := eq_true p18
   replace q18 := eq_true q18
   have p20 : 0 ≤ (ba : Int) := of_decide_eq_true zx14_0
   have q20 : ba < (a0.size : Int) := of_decide_eq_true zx14_0
   have bq := bt_at a0 ba
   replace p20 := eq_true p20
   replace q20 := eq_true q20
   go_wp2
   go_roundg k1
   case measure => have := HK1.out; omega
   case rel => exact ⟨(wrap64 (ba + 1)), (by first | rfl | (simp; done) | (simp [*]; done)), H', ⟨by have := HK1.out; omega⟩, by repeat (first | exact Drawn0.refl _ | apply Drawn0.step)⟩
  rw [if_pos c5] at H
  have bz : decide (97 ≤ (bt a0 ba)) = true := decide_eq_true c5
  clear c5
  by_cases c7 : (bt a0 ba) ≤ 122
  ·rw [if_pos c7] at H
   have bx : decide ((bt a0 ba) ≤ 122) = true := decide_eq_true c7
   clear c7
   have H' := Aside0.mk H
   clear H
   have p4 : 0 ≤ (ba : Int) := of_decide_eq_true zx14_0
   have q4 : ba < (a0.size : Int) := of_decide_eq_true zx14_0
   have hx4 := bt_at a0 ba
   replace p4 := eq_true p4
   replace q4 := eq_true q4
   have p6 : 0 ≤ (ba : Int) := of_decide_eq_true zx14_0
   have q6 : ba < (a0.size : Int) := of_decide_eq_true zx14_0
   have hx6 := bt_at a0 ba
   replace p6 := eq_true p6
   replace q6 := eq_true q6
   go_wp2
   go_roundg k1
   case measure => have := HK1.out; omega
   case rel => exact ⟨(wrap64 (ba + 1)), (by first | rfl | (simp; done) | (simp [*]; done)), H', ⟨by have := HK1.out; omega⟩, by repeat (first | exact Drawn0.refl _ | apply Drawn0.step)⟩
  rw [if_neg c7] at H
  have bx : decide ((bt a0 ba) ≤ 122) = false := decide_eq_false c7
  clear c7
  by_cases c9 : ((bt a0 ba) = 95)
  ·rw [if_pos c9] at H
   have bw : ((bt a0 ba) == 95) = true := beq_iff_eq.mpr c9
   have bu : ((bt a0 ba) != 95) = false := bne_eq_false_iff_eq.mpr c9
   clear c9
   have H' := Aside0.mk H
   clear H
   have p4 : 0 ≤ (ba : Int) := of_decide_eq_true zx14_0
   have q4 : ba < (a0.size : Int) := of_decide_eq_true zx14_0
   have hx4 := bt_at a0 ba
   replace p4 := eq_true p4
   replace q4 := eq_true q4
   have p6 : 0 ≤ (ba : Int) := of_decide_eq_true zx14_0
   have q6 : ba < (a0.size : Int) := of_decide_eq_true zx14_0
   have hx6 := bt_at a0 ba
   replace p6 := eq_true p6
   replace q6 := eq_true q6
   have p8 : 0 ≤ (ba : Int) := of_decide_eq_true zx14_0
   have q8 : ba < (a0.size : Int) := of_decide_eq_true zx14_0
   have hx8 := bt_at a0 ba
   replace p8 := eq_true p8
   replace q8 := eq_true q8
   go_wp2
   go_roundg k1
   case measure => have := HK1.out; omega
   case rel => exact ⟨(wrap64 (ba + 1)), (by first | rfl | (simp; done) | (simp [*]; done)), H', ⟨by have := HK1.out; omega⟩, by repeat (first | exact Drawn0.refl _ | apply Drawn0.step)⟩
  rw [if_neg c9] at H
  have bw : ((bt a0 ba) == 95) = false := beq_eq_false_iff_ne.mpr c9
  have bu : ((bt a0 ba) != 95) = true := bne_iff_ne.mpr c9
  by_cases c10 : ba = 0
  ·rw [if_pos c10] at H
   have bp : (ba == 0) = true := beq_iff_eq.mpr c10
   have bo : (ba != 0) = false := bne_eq_false_iff_eq.mpr c10
   clear c10
   obtain rfl := Option.some.inj H
   have p4 : 0 ≤ (ba : Int) := of_decide_eq_true zx14_0
   have q4 : ba < (a0.size : Int) := of_decide_eq_true zx14_0
   have hx4 := bt_at a0 ba
   replace p4 := eq_true p4
   replace q4 := eq_true q4
   have p6 : 0 ≤ (ba : Int) := of_decide_eq_true zx14_0
   have q6 : ba < (a0.size : Int) := of_decide_eq_true zx14_0
   have hx6 := bt_at a0 ba
   replace p6 := eq_true p6
   replace q6 := eq_true q6
   have p8 : 0 ≤ (ba : Int) := of_decide_eq_true zx14_0
   have q8 : ba < (a0.size : Int) := of_decide_eq_true zx14_0
   have hx8 := bt_at a0 ba
   replace p8 := eq_true p8
   replace q8 := eq_true q8
   go_wp2
   go_ret
   exact ⟨by first | rfl | (simp; done) | (simp [*]; done), by repeat (first | exact Drawn0.refl _ | apply Drawn0.step)⟩
  rw [if_neg c10] at H
  have bp : (ba == 0) = false := beq_eq_false_iff_ne.mpr c10
  have bo : (ba != 0) = true := bne_iff_ne.mpr c10
  by_cases c12 : (bt a0 ba) < 48
  ·rw [if_pos c12] at H
   have bn : decide ((bt a0 ba) < 48) = true := decide_eq_true c12
   clear c12
   obtain rfl := Option.some.inj H
   have p4 : 0 ≤ (ba : Int) := of_decide_eq_true zx14_0
   have q4 : ba < (a0.size : Int) := of_decide_eq_true zx14_0
   have hx4 := bt_at a0 ba
   replace p4 := eq_true p4
   replace q4 := eq_true q4
   have p6 : 0 ≤ (ba : Int) := of_decide_eq_true zx14_0
   have q6 : ba < (a0.size : Int) := of_decide_eq_true zx14_0
   have hx6 := bt_at a0 ba
   replace p6 := eq_true p6
   replace q6 := eq_true q6
   have p8 : 0 ≤ (ba : Int) := of_decide_eq_true zx14_0
   have q8 : ba < (a0.size : Int) := of_decide_eq_true zx14_0
   have hx8 := bt_at a0 ba
   replace p8 := eq_true p8
   replace q8 := eq_true q8
   have p11 : 0 ≤ (ba : Int) := of_decide_eq_true zx14_0
   have q11 : ba < (a0.size : Int) := of_decide_eq_true zx14_0
   have bd := bt_at a0 ba
   replace p11 := eq_true p11
   replace q11 := eq_true q11
   go_wp2
   go_ret
   exact ⟨by first | rfl | (simp; done) | (simp [*]; done), by repeat (first | exact Drawn0.refl _ | apply Drawn0.step)⟩
  rw [if_neg c12] at H
  have bn : decide ((bt a0 ba) < 48) = false := decide_eq_false c12
  clear c12
  by_cases c14 : (bt a0 ba) > 57
  ·rw [if_pos c14] at H
   have bm : decide (57 < (bt a0 ba)) = true := decide_eq_true c14
   clear c14
   obtain rfl := Option.some.inj H
   have p4 : 0 ≤ (ba : Int) := of_decide_eq_true zx14_0
   have q4 : ba < (a0.size : Int) := of_decide_eq_true zx14_0
   have hx4 := bt_at a0 ba
   replace p4 := eq_true p4
   replace q4 := eq_true q4
   have p6 : 0 ≤ (ba : Int) := of_decide_eq_true zx14_0
   have q6 : ba < (a0.size : Int) := of_decide_eq_true zx14_0
   have hx6 := bt_at a0 ba
   replace p6 := eq_true p6
   replace q6 := eq_true q6
   have p8 : 0 ≤ (ba : Int) := of_decide_eq_true zx14_0
   have q8 : ba < (a0.size : Int) := of_decide_eq_true zx14_0
   have hx8 := bt_at a0 ba
   replace p8 := eq_true p8
   replace q8 := eq_true q8
   have p11 : 0 ≤ (ba : Int) := of_decide_eq_true zx14_0
   have q11 : ba < (a0.size : Int) := of_decide_eq_true zx14_0
   have bd := bt_at a0 ba
   replace p11 := eq_true p11
   replace q11 := eq_true q11
   have p13 : 0 ≤ (ba : Int) := of_decide_eq_true zx14_0
   have q13 : ba < (a0.size : Int) := of_decide_eq_true zx14_0
   have br := bt_at a0 ba
   replace p13 := eq_true p13
   replace q13 := eq_true q13
   go_wp2
   go_ret
   exact ⟨by first | rfl | (simp; done) | (simp [*]; done), by repeat (first | exact Drawn0.refl _ | apply Drawn0.step)⟩
  rw [if_neg c14] at H
  have bm : decide (57 < (bt a0 ba)) = false := decide_eq_false c14
  clear c14
  have H' := Aside0.mk H
  clear H
  have p4 : 0 ≤ (ba : Int) := of_decide_eq_true zx14_0
  have q4 : ba < (a0.size : Int) := of_decide_eq_true zx14_0
  have hx4 := bt_at a0 ba
  replace p4 := eq_true p4
  replace q4 := eq_true q4
  have p6 : 0 ≤ (ba : Int) := of_decide_eq_true zx14_0
  have q6 : ba < (a0.size : Int) := of_decide_eq_true zx14_0
  have hx6 := bt_at a0 ba
  replace p6 := eq_true p6
  replace q6 := eq_true q6
  have p8 : 0 ≤ (ba : Int) := of_decide_eq_true zx14_0
  have q8 : ba < (a0.size : Int) := of_decide_eq_true zx14_0
  have hx8 := bt_at a0 ba
  replace p8 := eq_true p8
  replace q8 := eq_true q8
  have p11 : 0 ≤ (ba : Int) := of_decide_eq_true zx14_0
  have q11 : ba < (a0.size : Int) := of_decide_eq_true zx14_0
  have bd := bt_at a0 ba
  replace p11 := eq_true p11
  replace q11 := eq_true q11
  have p13 : 0 ≤ (ba : Int) := of_decide_eq_true zx14_0
  have q13 : ba < (a0.size : Int) := of_decide_eq_true zx14_0
  have br := bt_at a0 ba
  replace p13 := eq_true p13
  replace q13 := eq_true q13
  go_wp2
  go_roundg k1
  case measure => have := HK1.out; omega
  case rel => exact ⟨(wrap64 (ba + 1)), (by first | rfl | (simp; done) | (simp [*]; done)), H', ⟨by have := HK1.out; omega⟩, by repeat (first | exact Drawn0.refl _ | apply Drawn0.step)⟩
end Go.Proofs.YthhmpjapnkilcaaDoor.XLdg
end
section
/- What the functions of the translation answer, each as a plain Lean function, and that the code comes to it; for a law: its row. Conditions: none but those that each theorem names. Written by a program of this session (wip/xp). -/
namespace Go.Proofs.YthhmpjapnkilcaaDoor.XLdg
open Go.RowKit Go.Proofs.YthhmpjapnkilcaaDoorW.PrintWords Go.Proofs.YthhmpjapnkilcaaDoorW.PrintLast Go.Proofs.YthhmpjapnkilcaaDoorW.PrintMore
attribute [local go_sem] max2_int min2_int max_two min_two max_three min_three max_four min_four   -- for this text's walks alone
theorem zx15_0 {p : Prop} (h : p := by (with_reducible repeat (first | refine blk_drewN ?_ _ | refine blk_drew ?_ | refine blk_alloc ?_ _)); exact bb.out) : p := h
theorem zx15_5 {p : Prop} (h : p := by (with_reducible repeat (first | refine blk_drewN ?_ _ | refine blk_drew ?_ | refine blk_alloc ?_ _)); exact bd.out) : p := h
theorem zx15_3 {p : Prop} (h : p := by repeat (first | (with_reducible first | exact HB.out | apply below_alloc | apply pw_below_drewN | apply below_drew1) | exact HB.out)) : p := h
theorem zx15_6 {p : Prop} (h : p := by (try simp only [List.map_toArray, List.map_cons, List.map_nil]); first | done | rfl | (simp only [List.length_drop, List.length_take]; rfl)) : p := h
theorem zx15_2 {p : Prop} (h : p := by repeat (first | (with_reducible first | exact HB.out | apply below_alloc | apply pw_below_drewN | apply below_drew1 | refine below_set ?_ bo.out) | exact HB.out)) : p := h
theorem zx15_1 {p : Prop} (h : p := by repeat (first | (with_reducible first | exact HB.out | apply below_alloc | apply pw_below_drewN | apply below_drew1 | refine below_set ?_ bo.out | refine below_set ?_ bq.out) | exact HB.out)) : p := h
theorem zx15_7 {p : Prop} (h : p := by repeat (first | (with_reducible first | exact HB.out | apply below_alloc | apply pw_below_drewN | apply below_drew1 | refine below_set ?_ bo.out | refine below_set ?_ bq.out | refine below_set ?_ bQ.out) | exact HB.out)) : p := h
theorem zx15_4 {p : Prop} (h : p := by (with_reducible repeat (first | refine blk_drewN ?_ _ | refine blk_drew ?_ | refine blk_alloc ?_ _)); refine blk_put (cs := #[.int .u64 0, .int .u64 0, .slice none 0 0]) ?_ 2 _ rfl; (with_reducible repeat (first | refine blk_drewN ?_ _ | refine blk_drew ?_ | refine blk_alloc ?_ _)); refine blk_put (cs := #[.int .u64 0, .int .u64 0, .slice none 0 0]) ?_ 1 _ rfl; (with_reducible repeat (first | refine blk_drewN ?_ _ | refine blk_drew ?_ | refine blk_alloc ?_ _)); refine blk_put (cs := #[.int .u64 0, .int .u64 0, .slice none 0 0]) ?_ 0 _ rfl; (with_reducible repeat (first | refine blk_drewN ?_ _ | refine blk_drew ?_ | refine blk_alloc ?_ _)); exact bd.out) : p := h
set_option linter.unusedVariables false
set_option linter.unusedSimpArgs false

/-! ### postroomref10_Join: function 40 -/
def postroomref10_Join.f (k : Nat) (bg : Int) (bf : Int) (be : List (S84)) (a1 : ByteArray) : Option (Int × Int × (List (S84)) × Int) := (postroomref3_Name.f k a1).bind fun bE => (if bE = true then ((postroomref10_place.f k bg bf be a1).bind fun bp => (if bp ≥ 0 then (some (0, 0, ([] : List (S84)), 4)) else (if (be.length : Int) ≥ 4 then (some (0, 0, ([] : List (S84)), 6)) else ((postroomref10_copied.f k bg bf be).bind fun bj => (if bj.2.2.length < 2932031007402 then (some (bj.1, bj.2.1, (bj.2.2 ++ [(⟨a1, bf, ([] : List Int)⟩ : S84)]), 0)) else (none)))))) else (some (0, 0, ([] : List (S84)), 3)))
set_option maxHeartbeats 8000000 in
set_option maxRecDepth 100000 in
theorem postroomref10_Join.calls (k : Nat) (bg : Int) (bf : Int) (bi : Option Addr) (bh : Nat) (be : List (S84)) (a1 : ByteArray) (r1 : Int) (r2 : Int) (r3 : List (S84)) (r4 : Int) (w : World) (bN : Kd.C k84 w bi be.length be) (bO : be.length ≤ bh) (h : postroomref10_Join.f k bg bf be a1 = some (r1, r2, r3, r4)) :
  Calls Tryd.prog 40 #[.agg #[.int .u64 bg, .int .u64 bf, .slice bi be.length bh], .string a1] w fun e w' => ∃ v2_ : Value, e = .returned (.tuple #[.agg #[.int .u64 r1, .int .u64 r2, v2_], .int .i64 r4]) ∧ Kd.S k84 84 w' w.heap.size (fun _ => True) v2_ r3 ∧ Below w.heap.size w w' := by
 have gs := Tryd.underlying57
 have gr := Tryd.underlying84
 have bC := Aside0.mk bN
 have bD := Aside0.mk bO
 clear bN bO
 have HB := Aside0.mk (Below.refl w.heap.size w)
 have H : ((postroomref3_Name.f k a1).bind fun bE => (if bE = true then ((postroomref10_place.f k bg bf be a1).bind fun bp => (if bp ≥ 0 then (some (0, 0, ([] : List (S84)), 4)) else (if (be.length : Int) ≥ 4 then (some (0, 0, ([] : List (S84)), 6)) else ((postroomref10_copied.f k bg bf be).bind fun bj => (if bj.2.2.length < 2932031007402 then (some (bj.1, bj.2.1, (bj.2.2 ++ [(⟨a1, bf, ([] : List Int)⟩ : S84)]), 0)) else (none)))))) else (some (0, 0, ([] : List (S84)), 3)))) = some (r1, r2, r3, r4) := h
 clear h
 replace H := Option.bind_eq_some_iff.mp H
 obtain ⟨bE, A30, H⟩ := H
 replace H : (if bE = true then ((postroomref10_place.f k bg bf be a1).bind fun bp => (if bp ≥ 0 then (some (0, 0, ([] : List (S84)), 4)) else (if (be.length : Int) ≥ 4 then (some (0, 0, ([] : List (S84)), 6)) else ((postroomref10_copied.f k bg bf be).bind fun bj => (if bj.2.2.length < 2932031007402 then (some (bj.1, bj.2.1, (bj.2.2 ++ [(⟨a1, bf, ([] : List Int)⟩ : S84)]), 0)) else (none)))))) else (some (0, 0, ([] : List (S84)), 3))) = some (r1, r2, r3, r4) := H
 have A3 := Aside0.mk A30
 clear A30
 by_cases c4 : bE = true
 case neg =>
  replace c4 := Bool.eq_false_iff.mpr c4
  subst c4
  have H1 : (some (0, 0, ([] : List (S84)), 3)) = some (r1, r2, r3, r4) := by rw [if_neg (show ¬ (false = true) by decide)] at H; exact H
  clear H
  have H := H1
  clear H1
  simp only [Option.some.injEq, Prod.mk.injEq] at H
  obtain ⟨rfl, rfl, rfl, rfl⟩ := H
  go_enter Tryd.func40, Tryd.ntmps40
  go_wp2_with (first | ((with_reducible refine gate_dst (N := 2) rfl ?_); refine box_event ?hg (N := 2) ?hd (cs := #[.int .u64 bg, .int .u64 bf, .slice bi be.length bh]) (t := 57) ?hr ?_; (case hd => rfl); (case hg => rfl); (case hr => first | (go_simp; done) | (go_simp; rfl)); intro ba hg w40 hbox hb; have bb := Aside0.mk (hbox); have bJ := Aside0.mk ((by rw [hg]; exact (below_size zx15_3) : w.heap.size ≤ ba)); have bo := Aside0.mk ((by rw [hg]; exact (below_size zx15_3) : w.heap.size ≤ ba)); replace HB := Aside0.mk (below_step zx15_3 hb); clear hb hbox hg) | ((with_reducible refine gate_dst (N := 4) rfl ?_); refine box_event ?hg (N := 4) ?hd (cs := #[.int .u64 0, .int .u64 0, .slice none 0 0]) (t := 57) ?hr ?_; (case hd => rfl); (case hg => rfl); (case hr => first | (go_simp; done) | (go_simp; rfl)); intro bc hg w41 hbox hb; have bd := Aside0.mk (hbox); have bI := Aside0.mk ((by rw [hg]; exact (below_size zx15_2) : w.heap.size ≤ bc)); have bq := Aside0.mk ((by rw [hg]; exact (below_size zx15_2) : w.heap.size ≤ bc)); replace HB := Aside0.mk (below_step zx15_2 hb); have bm := Aside0.mk ((by rw [hg]; exact Nat.ne_of_lt (blk_lt (g := ba) (o := .cells #[.int .u64 bg, .int .u64 bf, .slice bi be.length bh] 57 (0, 0)) zx15_0) : ba ≠ bc)); have bl := Aside0.mk ((by rw [hg]; exact Nat.ne_of_gt (blk_lt (g := ba) (o := .cells #[.int .u64 bg, .int .u64 bf, .slice bi be.length bh] 57 (0, 0)) zx15_0) : bc ≠ ba)); replace bb := Aside0.mk (blk_below (g := ba) (o := .cells #[.int .u64 bg, .int .u64 bf, .slice bi be.length bh] 57 (0, 0)) zx15_0 hb); clear hb hbox hg) | ((with_reducible refine gate_callee (f := 54) rfl ?_); refine goesL_ (some 9) rfl rfl Tryd.func54 (by kernel_rfl) rfl #[.string a1] rfl zx15_6 ?_; (with_reducible refine (postroomref3_Name.calls k a1 false _ A3.out).mono ?_); rintro e w' ⟨rfl, ⟨nd, rfl⟩⟩; refine ⟨_, rfl, ?_⟩; (try (rw [drewN_self w41]; generalize hq_ : World.drewN w41 _ = w41; have n0_ : Aside0 (w41.heap[ba]? = some (.cells #[.int .u64 bg, .int .u64 bf, .slice bi be.length bh] 57 (0, 0))) := ⟨by rw [← hq_]; exact zx15_0⟩; have n1_ : Aside0 (w41.heap[bc]? = some (.cells #[.int .u64 0, .int .u64 0, .slice none 0 0] 57 (0, 0))) := ⟨by rw [← hq_]; exact zx15_5⟩; have n2_ : Aside0 (Below w.heap.size w w41) := ⟨by rw [← hq_]; exact zx15_1⟩; clear bb bd HB hq_; have bb := n0_; have bd := n1_; have HB := n2_; clear n0_ n1_ n2_)); have gj := bl.out; have ge := bm.out; have dC : w41.cell? ⟨bc, 0, none⟩ = some (.int .u64 0) := (blk_cell bd.out 0).trans rfl; have dB : w41.cell? ⟨bc, 1, none⟩ = some (.int .u64 0) := (blk_cell bd.out 1).trans rfl; have dA : w41.cell? ⟨bc, 2, none⟩ = some (.slice none 0 0) := (blk_cell bd.out 2).trans rfl; have b1 := blk_frozen bd.out 0; have b0 := blk_frozen bd.out 1; have bZ := blk_frozen bd.out 2))
  refine bodyPost_ret (results_ct rfl _ _ bc 57 #[.int .u64 0, .int .u64 0, .slice none 0 0] (0, 0) _ rfl zx15_4 Tryd.underlying57 rfl (by kernel_rfl)) rfl ?_
  exact ⟨_, by first | rfl | (simp [errW_none, errW_some] <;> rfl) | (simp [*, errW_none, errW_some] <;> rfl), by first | exact Kd.S_nil _ _ _ _ _ | exact Kd.N_nil _ _ _ _ _ | exact Kd.V_nil _ _ _ _ _ | exact Kd.Q_nil _ _ _ _ _ | exact Kd.R_nil _ _ _ _ _, by repeat (first | (with_reducible first | exact HB.out | apply below_alloc | apply pw_below_drewN | apply below_drew1 | refine below_set ?_ bo.out | refine below_set ?_ bq.out) | exact HB.out)⟩

 subst c4
 have H1 : ((postroomref10_place.f k bg bf be a1).bind fun bp => (if bp ≥ 0 then (some (0, 0, ([] : List (S84)), 4)) else (if (be.length : Int) ≥ 4 then (some (0, 0, ([] : List (S84)), 6)) else ((postroomref10_copied.f k bg bf be).bind fun bj => (if bj.2.2.length < 2932031007402 then (some (bj.1, bj.2.1, (bj.2.2 ++ [(⟨a1, bf, ([] : List Int)⟩ : S84)]), 0)) else (none)))))) = some (r1, r2, r3, r4) := by rw [if_pos rfl] at H; exact H
 clear H
 have H := H1
 clear H1
 replace H := Option.bind_eq_some_iff.mp H
 obtain ⟨bp, A50, H⟩ := H
 replace H : (if bp ≥ 0 then (some (0, 0, ([] : List (S84)), 4)) else (if (be.length : Int) ≥ 4 then (some (0, 0, ([] : List (S84)), 6)) else ((postroomref10_copied.f k bg bf be).bind fun bj => (if bj.2.2.length < 2932031007402 then (some (bj.1, bj.2.1, (bj.2.2 ++ [(⟨a1, bf, ([] : List Int)⟩ : S84)]), 0)) else (none))))) = some (r1, r2, r3, r4) := H
 have A5 := Aside0.mk A50
 clear A50
 by_cases c6 : bp ≥ 0
 ·rw [if_pos c6] at H
  have gc : decide (0 ≤ bp) = true := decide_eq_true c6
  clear c6
  simp only [Option.some.injEq, Prod.mk.injEq] at H
  obtain ⟨rfl, rfl, rfl, rfl⟩ := H
  go_enter Tryd.func40, Tryd.ntmps40
  go_wp2_with (first | ((with_reducible refine gate_dst (N := 2) rfl ?_); refine box_event ?hg (N := 2) ?hd (cs := #[.int .u64 bg, .int .u64 bf, .slice bi be.length bh]) (t := 57) ?hr ?_; (case hd => rfl); (case hg => rfl); (case hr => first | (go_simp; done) | (go_simp; rfl)); intro ba hg w7 hbox hb; have bb := Aside0.mk (hbox); have bJ := Aside0.mk ((by rw [hg]; exact (below_size zx15_3) : w.heap.size ≤ ba)); have bo := Aside0.mk ((by rw [hg]; exact (below_size zx15_3) : w.heap.size ≤ ba)); replace HB := Aside0.mk (below_step zx15_3 hb); clear hb hbox hg) | ((with_reducible refine gate_dst (N := 4) rfl ?_); refine box_event ?hg (N := 4) ?hd (cs := #[.int .u64 0, .int .u64 0, .slice none 0 0]) (t := 57) ?hr ?_; (case hd => rfl); (case hg => rfl); (case hr => first | (go_simp; done) | (go_simp; rfl)); intro bc hg w8 hbox hb; have bd := Aside0.mk (hbox); have bI := Aside0.mk ((by rw [hg]; exact (below_size zx15_2) : w.heap.size ≤ bc)); have bq := Aside0.mk ((by rw [hg]; exact (below_size zx15_2) : w.heap.size ≤ bc)); replace HB := Aside0.mk (below_step zx15_2 hb); have bm := Aside0.mk ((by rw [hg]; exact Nat.ne_of_lt (blk_lt (g := ba) (o := .cells #[.int .u64 bg, .int .u64 bf, .slice bi be.length bh] 57 (0, 0)) zx15_0) : ba ≠ bc)); have bl := Aside0.mk ((by rw [hg]; exact Nat.ne_of_gt (blk_lt (g := ba) (o := .cells #[.int .u64 bg, .int .u64 bf, .slice bi be.length bh] 57 (0, 0)) zx15_0) : bc ≠ ba)); replace bb := Aside0.mk (blk_below (g := ba) (o := .cells #[.int .u64 bg, .int .u64 bf, .slice bi be.length bh] 57 (0, 0)) zx15_0 hb); clear hb hbox hg) | ((with_reducible refine gate_callee (f := 54) rfl ?_); refine goesL_ (some 9) rfl rfl Tryd.func54 (by kernel_rfl) rfl #[.string a1] rfl zx15_6 ?_; (with_reducible refine (postroomref3_Name.calls k a1 true _ A3.out).mono ?_); rintro e w' ⟨rfl, ⟨nd, rfl⟩⟩; refine ⟨_, rfl, ?_⟩; (try (rw [drewN_self w8]; generalize hq_ : World.drewN w8 _ = w8; have n0_ : Aside0 (w8.heap[ba]? = some (.cells #[.int .u64 bg, .int .u64 bf, .slice bi be.length bh] 57 (0, 0))) := ⟨by rw [← hq_]; exact zx15_0⟩; have n1_ : Aside0 (w8.heap[bc]? = some (.cells #[.int .u64 0, .int .u64 0, .slice none 0 0] 57 (0, 0))) := ⟨by rw [← hq_]; exact zx15_5⟩; have n2_ : Aside0 (Below w.heap.size w w8) := ⟨by rw [← hq_]; exact zx15_1⟩; clear bb bd HB hq_; have bb := n0_; have bd := n1_; have HB := n2_; clear n0_ n1_ n2_)); have gu := bm.out; have gt := bl.out; have d9 : w8.cell? ⟨ba, 0, none⟩ = some (.int .u64 bg) := (blk_cell bb.out 0).trans rfl; have d8 : w8.cell? ⟨ba, 1, none⟩ = some (.int .u64 bf) := (blk_cell bb.out 1).trans rfl; have d7 : w8.cell? ⟨ba, 2, none⟩ = some (.slice bi be.length bh) := (blk_cell bb.out 2).trans rfl; have dz := blk_frozen bb.out 0; have dy := blk_frozen bb.out 1; have dx := blk_frozen bb.out 2) | ((with_reducible refine gate_callee (f := 46) rfl ?_); refine goesL_ (some 15) rfl rfl Tryd.func46 (by kernel_rfl) rfl #[.agg #[.int .u64 bg, .int .u64 bf, .slice bi be.length bh], .string a1] rfl zx15_6 ?_; (with_reducible refine (postroomref10_place.calls k bg bf _ _ be a1 bp _ ?side1 ?side2 A5.out).mono ?_); (case side1 => repeat (first | exact (Kd.C_below bC.out HB.out) | (with_reducible refine Kd.C_alloc ?_ _) | (with_reducible refine Kd.C_drewN ?_ _) | (with_reducible refine Kd.C_drew ?_))); (case side2 => exact bD.out); rintro e w11 ⟨rfl, hb⟩; refine ⟨_, rfl, ?_⟩; replace bb := Aside0.mk (blk_below (g := ba) (o := .cells #[.int .u64 bg, .int .u64 bf, .slice bi be.length bh] 57 (0, 0)) zx15_0 hb); replace bd := Aside0.mk (blk_below (g := bc) (o := .cells #[.int .u64 0, .int .u64 0, .slice none 0 0] 57 (0, 0)) zx15_5 hb); replace HB := Aside0.mk (below_step zx15_1 hb); (try clear hb); (try clear hb2); (try clear hk); (try clear hi); have d6 : w11.cell? ⟨bc, 0, none⟩ = some (.int .u64 0) := (blk_cell bd.out 0).trans rfl; have d5 : w11.cell? ⟨bc, 1, none⟩ = some (.int .u64 0) := (blk_cell bd.out 1).trans rfl; have d4 : w11.cell? ⟨bc, 2, none⟩ = some (.slice none 0 0) := (blk_cell bd.out 2).trans rfl; have dw := blk_frozen bd.out 0; have dv := blk_frozen bd.out 1; have du := blk_frozen bd.out 2))
  refine bodyPost_ret (results_ct rfl _ _ bc 57 #[.int .u64 0, .int .u64 0, .slice none 0 0] (0, 0) _ rfl zx15_4 Tryd.underlying57 rfl (by kernel_rfl)) rfl ?_
  exact ⟨_, by first | rfl | (simp [errW_none, errW_some] <;> rfl) | (simp [*, errW_none, errW_some] <;> rfl), by first | exact Kd.S_nil _ _ _ _ _ | exact Kd.N_nil _ _ _ _ _ | exact Kd.V_nil _ _ _ _ _ | exact Kd.Q_nil _ _ _ _ _ | exact Kd.R_nil _ _ _ _ _, by repeat (first | (with_reducible first | exact HB.out | apply below_alloc | apply pw_below_drewN | apply below_drew1 | refine below_set ?_ bo.out | refine below_set ?_ bq.out) | exact HB.out)⟩
 rw [if_neg c6] at H
 have gc : decide (0 ≤ bp) = false := decide_eq_false c6
 clear c6
 by_cases c13 : (be.length : Int) ≥ 4
 ·rw [if_pos c13] at H
  have bV : decide (4 ≤ (be.length : Int)) = true := decide_eq_true c13
  have bU : decide (4 ≤ be.length) = true := decide_eq_true (by omega)
  clear c13
  simp only [Option.some.injEq, Prod.mk.injEq] at H
  obtain ⟨rfl, rfl, rfl, rfl⟩ := H
  go_enter Tryd.func40, Tryd.ntmps40
  go_wp2_with (first | ((with_reducible refine gate_dst (N := 2) rfl ?_); refine box_event ?hg (N := 2) ?hd (cs := #[.int .u64 bg, .int .u64 bf, .slice bi be.length bh]) (t := 57) ?hr ?_; (case hd => rfl); (case hg => rfl); (case hr => first | (go_simp; done) | (go_simp; rfl)); intro ba hg w14 hbox hb; have bb := Aside0.mk (hbox); have bJ := Aside0.mk ((by rw [hg]; exact (below_size zx15_3) : w.heap.size ≤ ba)); have bo := Aside0.mk ((by rw [hg]; exact (below_size zx15_3) : w.heap.size ≤ ba)); replace HB := Aside0.mk (below_step zx15_3 hb); clear hb hbox hg) | ((with_reducible refine gate_dst (N := 4) rfl ?_); refine box_event ?hg (N := 4) ?hd (cs := #[.int .u64 0, .int .u64 0, .slice none 0 0]) (t := 57) ?hr ?_; (case hd => rfl); (case hg => rfl); (case hr => first | (go_simp; done) | (go_simp; rfl)); intro bc hg w15 hbox hb; have bd := Aside0.mk (hbox); have bI := Aside0.mk ((by rw [hg]; exact (below_size zx15_2) : w.heap.size ≤ bc)); have bq := Aside0.mk ((by rw [hg]; exact (below_size zx15_2) : w.heap.size ≤ bc)); replace HB := Aside0.mk (below_step zx15_2 hb); have bm := Aside0.mk ((by rw [hg]; exact Nat.ne_of_lt (blk_lt (g := ba) (o := .cells #[.int .u64 bg, .int .u64 bf, .slice bi be.length bh] 57 (0, 0)) zx15_0) : ba ≠ bc)); have bl := Aside0.mk ((by rw [hg]; exact Nat.ne_of_gt (blk_lt (g := ba) (o := .cells #[.int .u64 bg, .int .u64 bf, .slice bi be.length bh] 57 (0, 0)) zx15_0) : bc ≠ ba)); replace bb := Aside0.mk (blk_below (g := ba) (o := .cells #[.int .u64 bg, .int .u64 bf, .slice bi be.length bh] 57 (0, 0)) zx15_0 hb); clear hb hbox hg) | ((with_reducible refine gate_callee (f := 54) rfl ?_); refine goesL_ (some 9) rfl rfl Tryd.func54 (by kernel_rfl) rfl #[.string a1] rfl zx15_6 ?_; (with_reducible refine (postroomref3_Name.calls k a1 true _ A3.out).mono ?_); rintro e w' ⟨rfl, ⟨nd, rfl⟩⟩; refine ⟨_, rfl, ?_⟩; (try (rw [drewN_self w15]; generalize hq_ : World.drewN w15 _ = w15; have n0_ : Aside0 (w15.heap[ba]? = some (.cells #[.int .u64 bg, .int .u64 bf, .slice bi be.length bh] 57 (0, 0))) := ⟨by rw [← hq_]; exact zx15_0⟩; have n1_ : Aside0 (w15.heap[bc]? = some (.cells #[.int .u64 0, .int .u64 0, .slice none 0 0] 57 (0, 0))) := ⟨by rw [← hq_]; exact zx15_5⟩; have n2_ : Aside0 (Below w.heap.size w w15) := ⟨by rw [← hq_]; exact zx15_1⟩; clear bb bd HB hq_; have bb := n0_; have bd := n1_; have HB := n2_; clear n0_ n1_ n2_)); have gn := bm.out; have gi := bl.out; have d3 : w15.cell? ⟨ba, 0, none⟩ = some (.int .u64 bg) := (blk_cell bb.out 0).trans rfl; have d2 : w15.cell? ⟨ba, 1, none⟩ = some (.int .u64 bf) := (blk_cell bb.out 1).trans rfl; have d1 : w15.cell? ⟨ba, 2, none⟩ = some (.slice bi be.length bh) := (blk_cell bb.out 2).trans rfl; have dt := blk_frozen bb.out 0; have ds := blk_frozen bb.out 1; have dr := blk_frozen bb.out 2) | ((with_reducible refine gate_callee (f := 46) rfl ?_); refine goesL_ (some 15) rfl rfl Tryd.func46 (by kernel_rfl) rfl #[.agg #[.int .u64 bg, .int .u64 bf, .slice bi be.length bh], .string a1] rfl zx15_6 ?_; (with_reducible refine (postroomref10_place.calls k bg bf _ _ be a1 bp _ ?side1 ?side2 A5.out).mono ?_); (case side1 => repeat (first | exact (Kd.C_below bC.out HB.out) | (with_reducible refine Kd.C_alloc ?_ _) | (with_reducible refine Kd.C_drewN ?_ _) | (with_reducible refine Kd.C_drew ?_))); (case side2 => exact bD.out); rintro e w18 ⟨rfl, hb⟩; refine ⟨_, rfl, ?_⟩; replace bb := Aside0.mk (blk_below (g := ba) (o := .cells #[.int .u64 bg, .int .u64 bf, .slice bi be.length bh] 57 (0, 0)) zx15_0 hb); replace bd := Aside0.mk (blk_below (g := bc) (o := .cells #[.int .u64 0, .int .u64 0, .slice none 0 0] 57 (0, 0)) zx15_5 hb); replace HB := Aside0.mk (below_step zx15_1 hb); (try clear hb); (try clear hb2); (try clear hk); (try clear hi); have d0 : w18.cell? ⟨ba, 0, none⟩ = some (.int .u64 bg) := (blk_cell bb.out 0).trans rfl; have dZ : w18.cell? ⟨ba, 1, none⟩ = some (.int .u64 bf) := (blk_cell bb.out 1).trans rfl; have dY : w18.cell? ⟨ba, 2, none⟩ = some (.slice bi be.length bh) := (blk_cell bb.out 2).trans rfl; have dq := blk_frozen bb.out 0; have dp := blk_frozen bb.out 1; have dn := blk_frozen bb.out 2; have dX : w18.cell? ⟨bc, 0, none⟩ = some (.int .u64 0) := (blk_cell bd.out 0).trans rfl; have dW : w18.cell? ⟨bc, 1, none⟩ = some (.int .u64 0) := (blk_cell bd.out 1).trans rfl; have dV : w18.cell? ⟨bc, 2, none⟩ = some (.slice none 0 0) := (blk_cell bd.out 2).trans rfl; have dm := blk_frozen bd.out 0; have dl := blk_frozen bd.out 1; have dk := blk_frozen bd.out 2))
  refine bodyPost_ret (results_ct rfl _ _ bc 57 #[.int .u64 0, .int .u64 0, .slice none 0 0] (0, 0) _ rfl zx15_4 Tryd.underlying57 rfl (by kernel_rfl)) rfl ?_
  exact ⟨_, by first | rfl | (simp [errW_none, errW_some] <;> rfl) | (simp [*, errW_none, errW_some] <;> rfl), by first | exact Kd.S_nil _ _ _ _ _ | exact Kd.N_nil _ _ _ _ _ | exact Kd.V_nil _ _ _ _ _ | exact Kd.Q_nil _ _ _ _ _ | exact Kd.R_nil _ _ _ _ _, by repeat (first | (with_reducible first | exact HB.out | apply below_alloc | apply pw_below_drewN | apply below_drew1 | refine below_set ?_ bo.out | refine below_set ?_ bq.out) | exact HB.out)⟩
 rw [if_neg c13] at H
 have bV : decide (4 ≤ (be.length : Int)) = false := decide_eq_false c13
 have bU : decide (4 ≤ be.length) = false := decide_eq_false (by omega)
 clear c13
 replace H := Option.bind_eq_some_iff.mp H
 obtain ⟨⟨bw, bz, bx⟩, bY, H⟩ := H
 replace H : (if bx.length < 2932031007402 then (some (bw, bz, (bx ++ [(⟨a1, bf, ([] : List Int)⟩ : S84)]), 0)) else (none)) = some (r1, r2, r3, r4) := H
 have A21 := Aside0.mk bY
 clear bY
 by_cases c22 : bx.length < 2932031007402
 case neg =>
  rw [if_neg c22] at H
  exact absurd H (by simp)
 rw [if_pos c22] at H
 have bX := Aside0.mk c22
 clear c22
 obtain ⟨bK, bB⟩ : ∃ y_ : List (S84), y_ = (bx ++ [(⟨a1, bf, ([] : List Int)⟩ : S84)]) := ⟨_, rfl⟩
 replace H : (some (bw, bz, bK, 0)) = some (r1, r2, r3, r4) := by first | (rw [bB]; with_reducible exact H) | (have H2_ := (Option.bind_some _ _).symm.trans H; rw [bB]; with_reducible exact H2_) | (have H2_ := (Option.bind_some _ _).symm.trans H; with_reducible exact H2_) | with_reducible exact H | (rw [bB]; exact H) | exact H
 have bW := Aside0.mk bB
 clear bB
 simp only [Option.some.injEq, Prod.mk.injEq] at H
 obtain ⟨rfl, rfl, rfl, rfl⟩ := H
 go_enter Tryd.func40, Tryd.ntmps40
 go_wp2_with (first | ((with_reducible refine gate_dst (N := 2) rfl ?_); refine box_event ?hg (N := 2) ?hd (cs := #[.int .u64 bg, .int .u64 bf, .slice bi be.length bh]) (t := 57) ?hr ?_; (case hd => rfl); (case hg => rfl); (case hr => first | (go_simp; done) | (go_simp; rfl)); intro ba hg w23 hbox hb; have bb := Aside0.mk (hbox); have bJ := Aside0.mk ((by rw [hg]; exact (below_size zx15_3) : w.heap.size ≤ ba)); have bo := Aside0.mk ((by rw [hg]; exact (below_size zx15_3) : w.heap.size ≤ ba)); replace HB := Aside0.mk (below_step zx15_3 hb); clear hb hbox hg) | ((with_reducible refine gate_dst (N := 4) rfl ?_); refine box_event ?hg (N := 4) ?hd (cs := #[.int .u64 0, .int .u64 0, .slice none 0 0]) (t := 57) ?hr ?_; (case hd => rfl); (case hg => rfl); (case hr => first | (go_simp; done) | (go_simp; rfl)); intro bc hg w24 hbox hb; have bd := Aside0.mk (hbox); have bI := Aside0.mk ((by rw [hg]; exact (below_size zx15_2) : w.heap.size ≤ bc)); have bq := Aside0.mk ((by rw [hg]; exact (below_size zx15_2) : w.heap.size ≤ bc)); replace HB := Aside0.mk (below_step zx15_2 hb); have bm := Aside0.mk ((by rw [hg]; exact Nat.ne_of_lt (blk_lt (g := ba) (o := .cells #[.int .u64 bg, .int .u64 bf, .slice bi be.length bh] 57 (0, 0)) zx15_0) : ba ≠ bc)); have bl := Aside0.mk ((by rw [hg]; exact Nat.ne_of_gt (blk_lt (g := ba) (o := .cells #[.int .u64 bg, .int .u64 bf, .slice bi be.length bh] 57 (0, 0)) zx15_0) : bc ≠ ba)); replace bb := Aside0.mk (blk_below (g := ba) (o := .cells #[.int .u64 bg, .int .u64 bf, .slice bi be.length bh] 57 (0, 0)) zx15_0 hb); clear hb hbox hg) | ((with_reducible refine gate_callee (f := 54) rfl ?_); refine goesL_ (some 9) rfl rfl Tryd.func54 (by kernel_rfl) rfl #[.string a1] rfl zx15_6 ?_; (with_reducible refine (postroomref3_Name.calls k a1 true _ A3.out).mono ?_); rintro e w' ⟨rfl, ⟨nd, rfl⟩⟩; refine ⟨_, rfl, ?_⟩; (try (rw [drewN_self w24]; generalize hq_ : World.drewN w24 _ = w24; have n0_ : Aside0 (w24.heap[ba]? = some (.cells #[.int .u64 bg, .int .u64 bf, .slice bi be.length bh] 57 (0, 0))) := ⟨by rw [← hq_]; exact zx15_0⟩; have n1_ : Aside0 (w24.heap[bc]? = some (.cells #[.int .u64 0, .int .u64 0, .slice none 0 0] 57 (0, 0))) := ⟨by rw [← hq_]; exact zx15_5⟩; have n2_ : Aside0 (Below w.heap.size w w24) := ⟨by rw [← hq_]; exact zx15_1⟩; clear bb bd HB hq_; have bb := n0_; have bd := n1_; have HB := n2_; clear n0_ n1_ n2_)); have gm := bm.out; have gh := bl.out; have dU : w24.cell? ⟨ba, 0, none⟩ = some (.int .u64 bg) := (blk_cell bb.out 0).trans rfl; have dT : w24.cell? ⟨ba, 1, none⟩ = some (.int .u64 bf) := (blk_cell bb.out 1).trans rfl; have dS : w24.cell? ⟨ba, 2, none⟩ = some (.slice bi be.length bh) := (blk_cell bb.out 2).trans rfl; have dj := blk_frozen bb.out 0; have di := blk_frozen bb.out 1; have dh := blk_frozen bb.out 2) | ((with_reducible refine gate_callee (f := 46) rfl ?_); refine goesL_ (some 15) rfl rfl Tryd.func46 (by kernel_rfl) rfl #[.agg #[.int .u64 bg, .int .u64 bf, .slice bi be.length bh], .string a1] rfl zx15_6 ?_; (with_reducible refine (postroomref10_place.calls k bg bf _ _ be a1 bp _ ?side1 ?side2 A5.out).mono ?_); (case side1 => repeat (first | exact (Kd.C_below bC.out HB.out) | (with_reducible refine Kd.C_alloc ?_ _) | (with_reducible refine Kd.C_drewN ?_ _) | (with_reducible refine Kd.C_drew ?_))); (case side2 => exact bD.out); rintro e w27 ⟨rfl, hb⟩; refine ⟨_, rfl, ?_⟩; replace bb := Aside0.mk (blk_below (g := ba) (o := .cells #[.int .u64 bg, .int .u64 bf, .slice bi be.length bh] 57 (0, 0)) zx15_0 hb); replace bd := Aside0.mk (blk_below (g := bc) (o := .cells #[.int .u64 0, .int .u64 0, .slice none 0 0] 57 (0, 0)) zx15_5 hb); replace HB := Aside0.mk (below_step zx15_1 hb); (try clear hb); (try clear hb2); (try clear hk); (try clear hi); have dR : w27.cell? ⟨ba, 0, none⟩ = some (.int .u64 bg) := (blk_cell bb.out 0).trans rfl; have dQ : w27.cell? ⟨ba, 1, none⟩ = some (.int .u64 bf) := (blk_cell bb.out 1).trans rfl; have dP : w27.cell? ⟨ba, 2, none⟩ = some (.slice bi be.length bh) := (blk_cell bb.out 2).trans rfl; have dg := blk_frozen bb.out 0; have df := blk_frozen bb.out 1; have de := blk_frozen bb.out 2) | ((with_reducible refine gate_callee (f := 53) rfl ?_); refine goesL_ (some 24) rfl rfl Tryd.func53 (by kernel_rfl) rfl #[.agg #[.int .u64 bg, .int .u64 bf, .slice bi be.length bh]] rfl zx15_6 ?_; (with_reducible refine (postroomref10_copied.calls k bg bf _ _ be bw bz bx _ ?side1 ?side2 A21.out).mono ?_); (case side1 => repeat (first | exact (Kd.C_below bC.out HB.out) | (with_reducible refine Kd.C_alloc ?_ _) | (with_reducible refine Kd.C_drewN ?_ _) | (with_reducible refine Kd.C_drew ?_))); (case side2 => exact bD.out); rintro e w29 ⟨gq, rfl, ho0, hb⟩; refine ⟨_, rfl, ?_⟩; have bu := Aside0.mk (Kd.S_lower ho0 (below_size zx15_1)); replace bb := Aside0.mk (blk_below (g := ba) (o := .cells #[.int .u64 bg, .int .u64 bf, .slice bi be.length bh] 57 (0, 0)) zx15_0 hb); replace bd := Aside0.mk (blk_below (g := bc) (o := .cells #[.int .u64 0, .int .u64 0, .slice none 0 0] 57 (0, 0)) zx15_5 hb); replace HB := Aside0.mk (below_step zx15_1 hb); (try clear hb); (try clear hb2); (try clear hk); (try clear hi); (try clear ho0)) | ((with_reducible refine gate_dst (N := 7) rfl ?_); refine box_event ?hg (N := 7) ?hd (cs := #[.int .u64 0, .int .u64 0, .slice none 0 0]) (t := 57) ?hr ?_; (case hd => rfl); (case hg => rfl); (case hr => first | (go_simp; done) | (go_simp; rfl)); intro bn hg w30 hbox hb; replace bu := Aside0.mk (Kd.S_below (by (with_reducible repeat (first | apply Kd.S_alloc | apply Kd.S_drewN | apply Kd.S_drew)); exact bu.out) hb); have bk := Aside0.mk (hbox); have go := Aside0.mk ((by rw [hg]; exact (below_size zx15_1) : w.heap.size ≤ bn)); have bQ := Aside0.mk ((by rw [hg]; exact (below_size zx15_1) : w.heap.size ≤ bn)); replace HB := Aside0.mk (below_step zx15_1 hb); have bA := Aside0.mk ((by rw [hg]; exact Nat.ne_of_lt (blk_lt (g := ba) (o := .cells #[.int .u64 bg, .int .u64 bf, .slice bi be.length bh] 57 (0, 0)) zx15_0) : ba ≠ bn)); have bH := Aside0.mk ((by rw [hg]; exact Nat.ne_of_gt (blk_lt (g := ba) (o := .cells #[.int .u64 bg, .int .u64 bf, .slice bi be.length bh] 57 (0, 0)) zx15_0) : bn ≠ ba)); replace bb := Aside0.mk (blk_below (g := ba) (o := .cells #[.int .u64 bg, .int .u64 bf, .slice bi be.length bh] 57 (0, 0)) zx15_0 hb); have br := Aside0.mk ((by rw [hg]; exact Nat.ne_of_lt (blk_lt (g := bc) (o := .cells #[.int .u64 0, .int .u64 0, .slice none 0 0] 57 (0, 0)) zx15_5) : bc ≠ bn)); have bG := Aside0.mk ((by rw [hg]; exact Nat.ne_of_gt (blk_lt (g := bc) (o := .cells #[.int .u64 0, .int .u64 0, .slice none 0 0] 57 (0, 0)) zx15_5) : bn ≠ bc)); replace bd := Aside0.mk (blk_below (g := bc) (o := .cells #[.int .u64 0, .int .u64 0, .slice none 0 0] 57 (0, 0)) zx15_5 hb); clear hb hbox hg; have gl := bH.out; have gg := bA.out; have gk := bG.out; have gf := br.out; have dO : w30.cell? ⟨bn, 0, none⟩ = some (.int .u64 0) := (blk_cell bk.out 0).trans rfl; have dN : w30.cell? ⟨bn, 1, none⟩ = some (.int .u64 0) := (blk_cell bk.out 1).trans rfl; have dM : w30.cell? ⟨bn, 2, none⟩ = some (.slice none 0 0) := (blk_cell bk.out 2).trans rfl; have dd := blk_frozen bk.out 0; have dc := blk_frozen bk.out 1; have db := blk_frozen bk.out 2; obtain ⟨bM, bL, gb⟩ := Kd.S_slice bu.out; subst gb; have dL : w30.cell? ⟨ba, 0, none⟩ = some (.int .u64 bg) := (blk_cell bb.out 0).trans rfl; have dK : w30.cell? ⟨ba, 1, none⟩ = some (.int .u64 bf) := (blk_cell bb.out 1).trans rfl; have dJ : w30.cell? ⟨ba, 2, none⟩ = some (.slice bi be.length bh) := (blk_cell bb.out 2).trans rfl; have da := blk_frozen bb.out 0; have b9 := blk_frozen bb.out 1; have b8 := blk_frozen bb.out 2) | ((with_reducible refine gate_builtin (b := .append) (xs := #[.tmp 26, .tmp 31]) rfl ?_); at_builtin; refine Kd.S_append k84 (w0 := w) w.heap.size rfl (.tmp 26) (.tmp 31) 55 84 (.agg #[(.string ⟨#[]⟩), (.int .u64 0), (.slice none 0 0)]) 48 rfl Tryd.underlying55 info84 rfl (by decide) (by omega) (.slice bM bx.length bL) bx (⟨a1, bf, ([] : List Int)⟩ : S84) [.string a1, .int .u64 bf, .slice none 0 0] (fun _ => True) (fun _ => False) rfl (by first | (go_simp; done) | (go_simp; rfl)) ?aP (fun k_ hk_ => hk_.elim) ?aF ?aO ?aB ?aS ?aL ?_; (case aP => exact k84_mkM _ _ _ (⟨a1, bf, ([] : List Int)⟩ : S84) (Kd.R_nil _ _ _ _ _)); (case aB => exact zx15_7); (case aF => exact (fun _ _ => trivial)); (case aO => exact (by (with_reducible repeat (first | apply Kd.S_alloc | apply Kd.S_drewN | apply Kd.S_drew)); exact Kd.S_mono (Kd.S_far (p := ⟨bn, 2, none⟩) (Kd.S_far (p := ⟨bn, 1, none⟩) (Kd.S_far (p := ⟨bn, 0, none⟩) (Kd.S_types bu.out bk.out (by decide)) (fun _ hk => hk.2) (.int .u64 bw)) (fun _ hk => hk.2) (.int .u64 bz)) (fun _ hk => hk.2) (.slice bM bx.length bL)) (fun k_ hk => ⟨trivial, fun e_ => e_⟩))); (case aS => exact (below_size zx15_7)); (case aL => have := bX.out; omega); intro gp w36 ho hb hg hat; rw [← bW.out] at ho; have n0_ := Aside0.mk (blk_grown (g := ba) (o := .cells #[.int .u64 bg, .int .u64 bf, .slice bi be.length bh] 57 (0, 0)) (by (iterate 3 ((with_reducible repeat (first | refine blk_drewN ?_ _ | refine blk_drew ?_ | refine blk_alloc ?_ _)); refine blk_far ?_ bA.out _)); (with_reducible repeat (first | refine blk_drewN ?_ _ | refine blk_drew ?_ | refine blk_alloc ?_ _)); exact bb.out) hg (Kd.S_ne bu.out bb.out (by decide))); have n1_ := Aside0.mk (blk_grown (g := bc) (o := .cells #[.int .u64 0, .int .u64 0, .slice none 0 0] 57 (0, 0)) (by (iterate 3 ((with_reducible repeat (first | refine blk_drewN ?_ _ | refine blk_drew ?_ | refine blk_alloc ?_ _)); refine blk_far ?_ br.out _)); (with_reducible repeat (first | refine blk_drewN ?_ _ | refine blk_drew ?_ | refine blk_alloc ?_ _)); exact bd.out) hg (Kd.S_ne bu.out bd.out (by decide))); have n2_ := Aside0.mk (blk_grown (g := bn) (o := .cells #[.int .u64 bw, .int .u64 bz, .slice bM bx.length bL] 57 (0, 0)) (by (with_reducible repeat (first | refine blk_drewN ?_ _ | refine blk_drew ?_ | refine blk_alloc ?_ _)); refine blk_put (cs := #[.int .u64 bw, .int .u64 bz, .slice none 0 0]) ?_ 2 _ rfl; (with_reducible repeat (first | refine blk_drewN ?_ _ | refine blk_drew ?_ | refine blk_alloc ?_ _)); refine blk_put (cs := #[.int .u64 bw, .int .u64 0, .slice none 0 0]) ?_ 1 _ rfl; (with_reducible repeat (first | refine blk_drewN ?_ _ | refine blk_drew ?_ | refine blk_alloc ?_ _)); refine blk_put (cs := #[.int .u64 0, .int .u64 0, .slice none 0 0]) ?_ 0 _ rfl; (with_reducible repeat (first | refine blk_drewN ?_ _ | refine blk_drew ?_ | refine blk_alloc ?_ _)); exact bk.out) hg (Kd.S_ne bu.out bk.out (by decide))); have n3_ := Aside0.mk (hb); have n4_ := Aside0.mk (ho); clear bb; clear bd; clear bk; clear HB; (try clear bu); have bb := n0_; have bd := n1_; have bk := n2_; have HB := n3_; have bP := n4_; clear n0_ n1_ n2_ n3_ n4_; clear ho hb hg hat; obtain ⟨bS, bR, ga⟩ := Kd.S_slice bP.out; subst ga; have dI : w36.cell? ⟨bn, 0, none⟩ = some (.int .u64 bw) := (blk_cell bk.out 0).trans rfl; have dH : w36.cell? ⟨bn, 1, none⟩ = some (.int .u64 bz) := (blk_cell bk.out 1).trans rfl; have dG : w36.cell? ⟨bn, 2, none⟩ = some (.slice bM bx.length bL) := (blk_cell bk.out 2).trans rfl; have b7 := blk_frozen bk.out 0; have b6 := blk_frozen bk.out 1; have b5 := blk_frozen bk.out 2; have dF : w36.cell? ⟨bc, 0, none⟩ = some (.int .u64 0) := (blk_cell bd.out 0).trans rfl; have dE : w36.cell? ⟨bc, 1, none⟩ = some (.int .u64 0) := (blk_cell bd.out 1).trans rfl; have dD : w36.cell? ⟨bc, 2, none⟩ = some (.slice none 0 0) := (blk_cell bd.out 2).trans rfl; have b4 := blk_frozen bd.out 0; have b3 := blk_frozen bd.out 1; have b2 := blk_frozen bd.out 2))
 refine bodyPost_ret (results_ct rfl _ _ bc 57 #[.int .u64 bw, .int .u64 bz, .slice bS bK.length bR] (0, 0) _ rfl (by (with_reducible repeat (first | refine blk_drewN ?_ _ | refine blk_drew ?_ | refine blk_alloc ?_ _)); refine blk_put (cs := #[.int .u64 bw, .int .u64 bz, .slice none 0 0]) ?_ 2 _ rfl; (with_reducible repeat (first | refine blk_drewN ?_ _ | refine blk_drew ?_ | refine blk_alloc ?_ _)); refine blk_put (cs := #[.int .u64 bw, .int .u64 0, .slice none 0 0]) ?_ 1 _ rfl; (with_reducible repeat (first | refine blk_drewN ?_ _ | refine blk_drew ?_ | refine blk_alloc ?_ _)); refine blk_put (cs := #[.int .u64 0, .int .u64 0, .slice none 0 0]) ?_ 0 _ rfl; (with_reducible repeat (first | refine blk_drewN ?_ _ | refine blk_drew ?_ | refine blk_alloc ?_ _)); refine blk_far ?_ br.out _; (with_reducible repeat (first | refine blk_drewN ?_ _ | refine blk_drew ?_ | refine blk_alloc ?_ _)); exact bd.out) Tryd.underlying57 rfl (by kernel_rfl)) rfl ?_
 exact ⟨_, by first | rfl | (simp [errW_none, errW_some] <;> rfl) | (simp [*, errW_none, errW_some] <;> rfl), by (with_reducible repeat (first | apply Kd.S_alloc | apply Kd.S_drewN | apply Kd.S_drew)); exact Kd.S_mono (Kd.S_far (p := ⟨bc, 2, none⟩) (Kd.S_far (p := ⟨bc, 1, none⟩) (Kd.S_far (p := ⟨bc, 0, none⟩) (Kd.S_far (p := ⟨bn, 2, none⟩) (Kd.S_types (Kd.S_types bP.out bk.out (by decide)) bd.out (by decide)) (fun _ hk => hk.1.2) (.slice bS bK.length bR)) (fun _ hk => hk.2) (.int .u64 bw)) (fun _ hk => hk.2) (.int .u64 bz)) (fun _ hk => hk.2) (.slice bS bK.length bR)) (fun _ hk => trivial), by repeat (first | (with_reducible first | exact HB.out | apply below_alloc | apply pw_below_drewN | apply below_drew1 | refine below_set ?_ bo.out | refine below_set ?_ bq.out | refine below_set ?_ bQ.out) | exact HB.out)⟩
end Go.Proofs.YthhmpjapnkilcaaDoor.XLdg
end
