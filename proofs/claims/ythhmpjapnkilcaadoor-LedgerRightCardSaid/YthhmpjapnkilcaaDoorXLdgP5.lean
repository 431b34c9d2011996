/- Texts of this seat, in one. Conditions: those that each theorem names. -/
import Derived.Test.YthhmpjapnkilcaaDoorXLdgP1
import Derived.Test.YthhmpjapnkilcaaDoorXLdgP2
import Derived.Test.YthhmpjapnkilcaaDoorGMono
import Derived.Test.YthhmpjapnkilcaaDoorGLabelName
section
/- What the functions of the translation answer, each as a plain Lean function, and that the code comes to it; for a law: its row. Conditions: none but those that each theorem names. Written by a program of this session (wip/xp). -/
namespace Go.Proofs.YthhmpjapnkilcaaDoor.XLdg
open Go.RowKit Go.Proofs.YthhmpjapnkilcaaDoorW.PrintWords Go.Proofs.YthhmpjapnkilcaaDoorW.PrintLast Go.Proofs.YthhmpjapnkilcaaDoorW.PrintMore
attribute [local go_sem] max2_int min2_int max_two min_two max_three min_three max_four min_four   -- for this text's walks alone
theorem cx7_bc3 {w : World} {g : Nat} {t : TypeId} {x0 x1 x2 : Value} (h : w.heap[g]? = some (.cells #[x0, x1, x2] t (0, 0))) : w.cell? ⟨g, 0, none⟩ = some x0 ∧ w.cell? ⟨g, 1, none⟩ = some x1 ∧ w.cell? ⟨g, 2, none⟩ = some x2 ∧ w.frozen? ⟨g, 0, none⟩ = false ∧ w.frozen? ⟨g, 1, none⟩ = false ∧ w.frozen? ⟨g, 2, none⟩ = false :=
 ⟨(blk_cell h 0).trans rfl, (blk_cell h 1).trans rfl, (blk_cell h 2).trans rfl, blk_frozen h 0, blk_frozen h 1, blk_frozen h 2⟩
theorem cx7_bc7 {w : World} {g : Nat} {t : TypeId} {x0 x1 x2 x3 x4 x5 x6 : Value} (h : w.heap[g]? = some (.cells #[x0, x1, x2, x3, x4, x5, x6] t (0, 0))) : w.cell? ⟨g, 0, none⟩ = some x0 ∧ w.cell? ⟨g, 1, none⟩ = some x1 ∧ w.cell? ⟨g, 2, none⟩ = some x2 ∧ w.cell? ⟨g, 3, none⟩ = some x3 ∧ w.cell? ⟨g, 4, none⟩ = some x4 ∧ w.cell? ⟨g, 5, none⟩ = some x5 ∧ w.cell? ⟨g, 6, none⟩ = some x6 ∧ w.frozen? ⟨g, 0, none⟩ = false ∧ w.frozen? ⟨g, 1, none⟩ = false ∧ w.frozen? ⟨g, 2, none⟩ = false ∧ w.frozen? ⟨g, 3, none⟩ = false ∧ w.frozen? ⟨g, 4, none⟩ = false ∧ w.frozen? ⟨g, 5, none⟩ = false ∧ w.frozen? ⟨g, 6, none⟩ = false :=
 ⟨(blk_cell h 0).trans rfl, (blk_cell h 1).trans rfl, (blk_cell h 2).trans rfl, (blk_cell h 3).trans rfl, (blk_cell h 4).trans rfl, (blk_cell h 5).trans rfl, (blk_cell h 6).trans rfl, blk_frozen h 0, blk_frozen h 1, blk_frozen h 2, blk_frozen h 3, blk_frozen h 4, blk_frozen h 5, blk_frozen h 6⟩
theorem zx7_6 {p : Prop} (h : p := by (with_reducible repeat (first | apply Kd.R_alloc | apply Kd.R_drewN | apply Kd.R_drew)); exact ba.out) : p := h
theorem zx7_0 {p : Prop} (h : p := by (with_reducible repeat (first | refine blk_drewN ?_ _ | refine blk_drew ?_ | refine blk_alloc ?_ _)); exact bd.out) : p := h
theorem zx7_5 {p : Prop} (h : p := by (with_reducible repeat (first | refine blk_drewN ?_ _ | refine blk_drew ?_ | refine blk_alloc ?_ _)); exact bb.out) : p := h
theorem zx7_4 {p : Prop} (h : p := by repeat (first | (with_reducible first | exact HB.out | apply below_alloc | apply pw_below_drewN | apply below_drew1) | exact HB.out)) : p := h
theorem zx7_3 {p : Prop} (h : p := by (try simp only [List.map_toArray, List.map_cons, List.map_nil]); first | done | rfl | (simp only [List.length_drop, List.length_take]; rfl)) : p := h
theorem zx7_1 {p : Prop} (h : p := by repeat (first | (with_reducible first | exact HB.out | apply below_alloc | apply pw_below_drewN | apply below_drew1 | refine below_set ?_ bO.out) | exact HB.out)) : p := h
theorem zx7_2 {p : Prop} (h : p := by repeat (first | (with_reducible first | exact HB.out | apply below_alloc | apply pw_below_drewN | apply below_drew1 | refine below_set ?_ bO.out | refine below_set ?_ bR.out) | exact HB.out)) : p := h
set_option linter.unusedVariables false
set_option linter.unusedSimpArgs false

/-! ### ledger_Pending: function 18 -/
mutual
def ledger_Pending.l0 : Nat → Bool → List Int → Int → Int → Int → List (S37) → ByteArray → Int → Int → List Int → Int → Int → Int → Option (List Int)
 | 0, _, _, _, _, _, _, _, _, _, _, _, _, _ => none
 | k + 1, x6, x7, x8, bK, bw, bJ, bE, bD, bC, bB, bA, bz, bx => if x6 = true then (ledger_Pending.j1 k x6 x7 x8 (decide (x8 < bw)) bK bw bJ bE bD bC bB bA bz bx) else (ledger_Pending.j1 k x6 x7 x8 false bK bw bJ bE bD bC bB bA bz bx)
def ledger_Pending.j1 : Nat → Bool → List Int → Int → Bool → Int → Int → List (S37) → ByteArray → Int → Int → List Int → Int → Int → Int → Option (List Int)
 | 0, _, _, _, _, _, _, _, _, _, _, _, _, _, _ => none
 | k + 1, x6, x7, x8, x23, bK, bw, bJ, bE, bD, bC, bB, bA, bz, bx => if x23 = true then ((ledger_Dest_waits.f k bE bD bC bB bA bz bx x8 bw).bind fun bW => (if bW = true then (if x7.length < 17592186044416 then (ledger_Pending.l0 k x6 (x7 ++ [x8]) (IntKind.u64.wrap (x8 + 1)) bK bw bJ bE bD bC bB bA bz bx) else (none)) else (ledger_Pending.l0 k x6 x7 (IntKind.u64.wrap (x8 + 1)) bK bw bJ bE bD bC bB bA bz bx))) else (some x7)
end
def ledger_Pending.f (k : Nat) (bh : Int) (bc : Int) (be : List (S37)) (a1 : ByteArray) : Option (List Int) := (ledger_Find.f bh bc be a1).bind fun bl => (ledger_Pending.l0 k bl.2.2.2.2.2.2.2 ([] : List Int) bl.2.2.1 bh bc be bl.1 bl.2.1 bl.2.2.1 bl.2.2.2.1 bl.2.2.2.2.1 bl.2.2.2.2.2.1 bl.2.2.2.2.2.2.1)
theorem ledger_Pending.mono_l : ∀ k, (∀ y0 y1 y2 y3 y4 y5 y6 y7 y8 y9 y10 y11 y12, LeO (ledger_Pending.l0 k y0 y1 y2 y3 y4 y5 y6 y7 y8 y9 y10 y11 y12) (ledger_Pending.l0 (k + 1) y0 y1 y2 y3 y4 y5 y6 y7 y8 y9 y10 y11 y12)) ∧ (∀ y0 y1 y2 y3 y4 y5 y6 y7 y8 y9 y10 y11 y12 y13, LeO (ledger_Pending.j1 k y0 y1 y2 y3 y4 y5 y6 y7 y8 y9 y10 y11 y12 y13) (ledger_Pending.j1 (k + 1) y0 y1 y2 y3 y4 y5 y6 y7 y8 y9 y10 y11 y12 y13))
 | 0 => ⟨fun _ _ _ _ _ _ _ _ _ _ _ _ _ r h => by simp [ledger_Pending.l0] at h, fun _ _ _ _ _ _ _ _ _ _ _ _ _ _ r h => by simp [ledger_Pending.j1] at h⟩
 | k + 1 => by
  obtain ⟨ih0, ih1⟩ := ledger_Pending.mono_l k
  refine ⟨?_, ?_⟩
  ·intro y0 y1 y2 y3 y4 y5 y6 y7 y8 y9 y10 y11 y12
   unfold ledger_Pending.l0
   repeat' first
   | (with_reducible exact ih0 _ _ _ _ _ _ _ _ _ _ _ _ _)
   | (with_reducible exact ih1 _ _ _ _ _ _ _ _ _ _ _ _ _ _)
   | (with_reducible exact ledger_Dest_waits.mono _ _ _ _ _ _ _ _ _ _)
   | (with_reducible exact LeO.refl _)
   | (with_reducible exact LeO.none _)
   | (with_reducible refine LeO.ite ?_ ?_)
   | (with_reducible refine LeO.bind ?_ (fun _ => ?_))
   | exact ih0 _ _ _ _ _ _ _ _ _ _ _ _ _
   | exact ih1 _ _ _ _ _ _ _ _ _ _ _ _ _ _
   | exact ledger_Dest_waits.mono _ _ _ _ _ _ _ _ _ _
   | exact LeO.none _
   | refine LeO.ite ?_ ?_
   | refine LeO.bind ?_ (fun _ => ?_)
  intro y0 y1 y2 y3 y4 y5 y6 y7 y8 y9 y10 y11 y12 y13
  unfold ledger_Pending.j1
  repeat' first
  | (with_reducible exact ih0 _ _ _ _ _ _ _ _ _ _ _ _ _)
  | (with_reducible exact ih1 _ _ _ _ _ _ _ _ _ _ _ _ _ _)
  | (with_reducible exact ledger_Dest_waits.mono _ _ _ _ _ _ _ _ _ _)
  | (with_reducible exact LeO.refl _)
  | (with_reducible exact LeO.none _)
  | (with_reducible refine LeO.ite ?_ ?_)
  | (with_reducible refine LeO.bind ?_ (fun _ => ?_))
  | exact ih0 _ _ _ _ _ _ _ _ _ _ _ _ _
  | exact ih1 _ _ _ _ _ _ _ _ _ _ _ _ _ _
  | exact ledger_Dest_waits.mono _ _ _ _ _ _ _ _ _ _
  | exact LeO.none _
  | refine LeO.ite ?_ ?_
  | refine LeO.bind ?_ (fun _ => ?_)
theorem ledger_Pending.mono : ∀ a0 a1 a2 a3 k, LeO (ledger_Pending.f k a0 a1 a2 a3) (ledger_Pending.f (k + 1) a0 a1 a2 a3) := by
 intro a0 a1 a2 a3 k
 obtain ⟨ih0, ih1⟩ := ledger_Pending.mono_l k
 unfold ledger_Pending.f
 repeat' first
   | (with_reducible exact ih0 _ _ _ _ _ _ _ _ _ _ _ _ _)
   | (with_reducible exact ih1 _ _ _ _ _ _ _ _ _ _ _ _ _ _)
   | (with_reducible exact ledger_Dest_waits.mono _ _ _ _ _ _ _ _ _ _)
   | (with_reducible exact LeO.refl _)
   | (with_reducible exact LeO.none _)
   | (with_reducible refine LeO.ite ?_ ?_)
   | (with_reducible refine LeO.bind ?_ (fun _ => ?_))
   | exact ih0 _ _ _ _ _ _ _ _ _ _ _ _ _
   | exact ih1 _ _ _ _ _ _ _ _ _ _ _ _ _ _
   | exact ledger_Dest_waits.mono _ _ _ _ _ _ _ _ _ _
   | exact LeO.none _
   | refine LeO.ite ?_ ?_
   | refine LeO.bind ?_ (fun _ => ?_)
set_option maxHeartbeats 8000000 in
set_option maxRecDepth 100000 in
theorem ledger_Pending.calls (k : Nat) (bh : Int) (bc : Int) (bM : Option Addr) (bL : Nat) (be : List (S37)) (a1 : ByteArray) (r : List Int) (w : World) (dp : Kd.C k37 w bM be.length be) (dq : be.length ≤ bL) (h : ledger_Pending.f k bh bc be a1 = some r) :
  Calls Tryd.prog 18 #[.agg #[.int .u64 bh, .int .u64 bc, .slice bM be.length bL], .string a1] w fun e w' => ∃ v0_ : Value, e = .returned (v0_) ∧ Kd.R (Kd.int .u64) 24 w' w.heap.size (fun _ => True) v0_ r ∧ Below w.heap.size w w' := by
 have gr := Tryd.underlying27
 have gq := Tryd.underlying37
 have dv := Aside0.mk dp
 have dx := Aside0.mk dq
 clear dp dq
 have HB := Aside0.mk (Below.refl w.heap.size w)
 have H : ((ledger_Find.f bh bc be a1).bind fun bl => (ledger_Pending.l0 k bl.2.2.2.2.2.2.2 ([] : List Int) bl.2.2.1 bh bc be bl.1 bl.2.1 bl.2.2.1 bl.2.2.2.1 bl.2.2.2.2.1 bl.2.2.2.2.2.1 bl.2.2.2.2.2.2.1)) = some r := h
 clear h
 replace H := Option.bind_eq_some_iff.mp H
 obtain ⟨⟨bj, bk, bi, bg, bn, bo, bq, bP⟩, A30, H⟩ := H
 replace H : (ledger_Pending.l0 k bP ([] : List Int) bi bh bc be bj bk bi bg bn bo bq) = some r := H
 have A3 := Aside0.mk A30
 clear A30
 have H' := Aside0.mk H
 clear H
 go_enter Tryd.func18, Tryd.ntmps18
 go_wp2_with (first | ((with_reducible refine gate_dst (N := 2) rfl ?_); refine box_event ?hg (N := 2) ?hd (cs := #[.int .u64 bh, .int .u64 bc, .slice bM be.length bL]) (t := 27) ?hr ?_; (case hd => rfl); (case hg => rfl); (case hr => first | (go_simp; done) | (go_simp; rfl)); intro bp hg w4 hbox hb; have bd := Aside0.mk (hbox); have gn := Aside0.mk ((by rw [hg]; exact (below_size zx7_4) : w.heap.size ≤ bp)); have bO := Aside0.mk ((by rw [hg]; exact (below_size zx7_4) : w.heap.size ≤ bp)); replace HB := Aside0.mk (below_step zx7_4 hb); clear hb hbox hg; have dg : w4.cell? ⟨bp, 0, none⟩ = some (.int .u64 bh) := (blk_cell bd.out 0).trans rfl; have df : w4.cell? ⟨bp, 1, none⟩ = some (.int .u64 bc) := (blk_cell bd.out 1).trans rfl; have de : w4.cell? ⟨bp, 2, none⟩ = some (.slice bM be.length bL) := (blk_cell bd.out 2).trans rfl; have b6 := blk_frozen bd.out 0; have b5 := blk_frozen bd.out 1; have b4 := blk_frozen bd.out 2) | ((with_reducible refine gate_callee (f := 17) rfl ?_); refine goesL_ (some 12) rfl rfl Tryd.func17 (by kernel_rfl) rfl #[.agg #[.int .u64 bh, .int .u64 bc, .slice bM be.length bL], .string a1] rfl zx7_3 ?_; (with_reducible refine (ledger_Find.calls bh bc _ _ be a1 bj bk bi bg bn bo bq bP _ ?side1 ?side2 A3.out).mono ?_); (case side1 => repeat (first | exact (Kd.C_below dv.out HB.out) | (with_reducible refine Kd.C_alloc ?_ _) | (with_reducible refine Kd.C_drewN ?_ _) | (with_reducible refine Kd.C_drew ?_))); (case side2 => exact dx.out); rintro e w6 ⟨gp, rfl, ho0, hb⟩; refine ⟨_, rfl, ?_⟩; have bV := Aside0.mk (Kd.R_lower ho0 (below_size zx7_1)); replace bd := Aside0.mk (blk_below (g := bp) (o := .cells #[.int .u64 bh, .int .u64 bc, .slice bM be.length bL] 27 (0, 0)) zx7_0 hb); replace HB := Aside0.mk (below_step zx7_1 hb); (try clear hb); (try clear hb2); (try clear hk); (try clear hi); (try clear ho0)) | ((with_reducible refine gate_dst (N := 5) rfl ?_); refine box_event ?hg (N := 5) ?hd (cs := #[.string (⟨#[]⟩ : ByteArray), .int .u64 0, .int .u64 0, .slice none 0 0, .int .u64 0, .int .u64 0, .int .u64 0]) (t := 37) ?hr ?_; (case hd => rfl); (case hg => rfl); (case hr => first | (go_simp; done) | (go_simp; rfl)); intro bf hg w7 hbox hb; replace bV := Aside0.mk (Kd.R_below (by (with_reducible repeat (first | apply Kd.R_alloc | apply Kd.R_drewN | apply Kd.R_drew)); exact bV.out) hb); have bb := Aside0.mk (hbox); have gm := Aside0.mk ((by rw [hg]; exact (below_size zx7_1) : w.heap.size ≤ bf)); have bR := Aside0.mk ((by rw [hg]; exact (below_size zx7_1) : w.heap.size ≤ bf)); replace HB := Aside0.mk (below_step zx7_1 hb); have bu := Aside0.mk ((by rw [hg]; exact Nat.ne_of_lt (blk_lt (g := bp) (o := .cells #[.int .u64 bh, .int .u64 bc, .slice bM be.length bL] 27 (0, 0)) zx7_0) : bp ≠ bf)); have bG := Aside0.mk ((by rw [hg]; exact Nat.ne_of_gt (blk_lt (g := bp) (o := .cells #[.int .u64 bh, .int .u64 bc, .slice bM be.length bL] 27 (0, 0)) zx7_0) : bf ≠ bp)); replace bd := Aside0.mk (blk_below (g := bp) (o := .cells #[.int .u64 bh, .int .u64 bc, .slice bM be.length bL] 27 (0, 0)) zx7_0 hb); clear hb hbox hg; have gt := bG.out; have gs := bu.out; have dd : w7.cell? ⟨bf, 0, none⟩ = some (.string (⟨#[]⟩ : ByteArray)) := (blk_cell bb.out 0).trans rfl; have dc : w7.cell? ⟨bf, 1, none⟩ = some (.int .u64 0) := (blk_cell bb.out 1).trans rfl; have db : w7.cell? ⟨bf, 2, none⟩ = some (.int .u64 0) := (blk_cell bb.out 2).trans rfl; have da : w7.cell? ⟨bf, 3, none⟩ = some (.slice none 0 0) := (blk_cell bb.out 3).trans rfl; have b9 : w7.cell? ⟨bf, 4, none⟩ = some (.int .u64 0) := (blk_cell bb.out 4).trans rfl; have b8 : w7.cell? ⟨bf, 5, none⟩ = some (.int .u64 0) := (blk_cell bb.out 5).trans rfl; have b7 : w7.cell? ⟨bf, 6, none⟩ = some (.int .u64 0) := (blk_cell bb.out 6).trans rfl; have b3 := blk_frozen bb.out 0; have b2 := blk_frozen bb.out 1; have b1 := blk_frozen bb.out 2; have b0 := blk_frozen bb.out 3; have bZ := blk_frozen bb.out 4; have bY := blk_frozen bb.out 5; have bX := blk_frozen bb.out 6; obtain ⟨bI, bH, ge⟩ := Kd.R_slice bV.out; subst ge))
 go_loopg [7, 8] k (fun kq v7 v8 w' => ∃ (br : List Int) (bm : Int), v8 = .int .u64 bm ∧ Aside0 (ledger_Pending.l0 kq bP br bm bh bc be bj bk bi bg bn bo bq = some r) ∧ Aside0 (kq ≤ k) ∧ Aside0 (Kd.R (Kd.int .u64) 24 w' w.heap.size (fun k_ => some k_ ≠ ((.slice bI bg.length bH) : Value).ownBlock) v7 br) ∧ Aside0 (Kd.R (Kd.int .u64) 24 w' w.heap.size (fun k_ => some k_ ≠ (v7 : Value).ownBlock) (.slice bI bg.length bH) bg) ∧ Aside0 (w'.heap[bp]? = some (.cells #[.int .u64 bh, .int .u64 bc, (.slice bM be.length bL)] 27 (0, 0))) ∧ Aside0 (w'.heap[bf]? = some (.cells #[.string bj, .int .u64 bk, .int .u64 bi, (.slice bI bg.length bH), .int .u64 bn, .int .u64 bo, .int .u64 bq] 37 (0, 0))) ∧ Aside0 (Below w.heap.size w w'))
 case atStart => exact ⟨(([] : List Int)), (bi), (by first | rfl | (simp; done) | (simp [*]; done)), H', ⟨Nat.le_refl _⟩, ⟨by first | exact Kd.R_nil _ _ _ _ _ | exact Kd.N_nil _ _ _ _ _ | exact Kd.V_nil _ _ _ _ _ | exact Kd.Q_nil _ _ _ _ _ | exact Kd.S_nil _ _ _ _ _⟩, ⟨by (with_reducible repeat (first | apply Kd.R_alloc | apply Kd.R_drewN | apply Kd.R_drew)); exact Kd.R_mono (Kd.R_far (p := ⟨bf, 6, none⟩) (Kd.R_far (p := ⟨bf, 5, none⟩) (Kd.R_far (p := ⟨bf, 4, none⟩) (Kd.R_far (p := ⟨bf, 3, none⟩) (Kd.R_far (p := ⟨bf, 2, none⟩) (Kd.R_far (p := ⟨bf, 1, none⟩) (Kd.R_far (p := ⟨bf, 0, none⟩) (Kd.R_types bV.out bb.out (by decide)) (fun _ hk => hk.2) (.string bj)) (fun _ hk => hk.2) (.int .u64 bk)) (fun _ hk => hk.2) (.int .u64 bi)) (fun _ hk => hk.2) (.slice bI bg.length bH)) (fun _ hk => hk.2) (.int .u64 bn)) (fun _ hk => hk.2) (.int .u64 bo)) (fun _ hk => hk.2) (.int .u64 bq)) (fun _ hk => (by simp [Value.ownBlock]))⟩, ⟨by (iterate 7 ((with_reducible repeat (first | refine blk_drewN ?_ _ | refine blk_drew ?_ | refine blk_alloc ?_ _)); refine blk_far ?_ bu.out _)); (with_reducible repeat (first | refine blk_drewN ?_ _ | refine blk_drew ?_ | refine blk_alloc ?_ _)); exact bd.out⟩, ⟨by (with_reducible repeat (first | refine blk_drewN ?_ _ | refine blk_drew ?_ | refine blk_alloc ?_ _)); refine blk_put (cs := #[.string bj, .int .u64 bk, .int .u64 bi, .slice bI bg.length bH, .int .u64 bn, .int .u64 bo, .int .u64 0]) ?_ 6 _ rfl; (with_reducible repeat (first | refine blk_drewN ?_ _ | refine blk_drew ?_ | refine blk_alloc ?_ _)); refine blk_put (cs := #[.string bj, .int .u64 bk, .int .u64 bi, .slice bI bg.length bH, .int .u64 bn, .int .u64 0, .int .u64 0]) ?_ 5 _ rfl; (with_reducible repeat (first | refine blk_drewN ?_ _ | refine blk_drew ?_ | refine blk_alloc ?_ _)); refine blk_put (cs := #[.string bj, .int .u64 bk, .int .u64 bi, .slice bI bg.length bH, .int .u64 0, .int .u64 0, .int .u64 0]) ?_ 4 _ rfl; (with_reducible repeat (first | refine blk_drewN ?_ _ | refine blk_drew ?_ | refine blk_alloc ?_ _)); refine blk_put (cs := #[.string bj, .int .u64 bk, .int .u64 bi, .slice none 0 0, .int .u64 0, .int .u64 0, .int .u64 0]) ?_ 3 _ rfl; (with_reducible repeat (first | refine blk_drewN ?_ _ | refine blk_drew ?_ | refine blk_alloc ?_ _)); refine blk_put (cs := #[.string bj, .int .u64 bk, .int .u64 0, .slice none 0 0, .int .u64 0, .int .u64 0, .int .u64 0]) ?_ 2 _ rfl; (with_reducible repeat (first | refine blk_drewN ?_ _ | refine blk_drew ?_ | refine blk_alloc ?_ _)); refine blk_put (cs := #[.string bj, .int .u64 0, .int .u64 0, .slice none 0 0, .int .u64 0, .int .u64 0, .int .u64 0]) ?_ 1 _ rfl; (with_reducible repeat (first | refine blk_drewN ?_ _ | refine blk_drew ?_ | refine blk_alloc ?_ _)); refine blk_put (cs := #[.string (⟨#[]⟩ : ByteArray), .int .u64 0, .int .u64 0, .slice none 0 0, .int .u64 0, .int .u64 0, .int .u64 0]) ?_ 0 _ rfl; (with_reducible repeat (first | refine blk_drewN ?_ _ | refine blk_drew ?_ | refine blk_alloc ?_ _)); exact bb.out⟩, ⟨by repeat (first | (with_reducible first | exact HB.out | apply below_alloc | apply pw_below_drewN | apply below_drew1 | refine below_set ?_ bO.out | refine below_set ?_ bR.out) | exact HB.out)⟩⟩
 case round =>
  clear H'
  (try clear c1); (try clear p2); (try clear c8); (try clear dg); (try clear df); (try clear de); (try clear dd); (try clear dc); (try clear db); (try clear da); (try clear b9); (try clear b8); (try clear b7); (try clear b6); (try clear b5); (try clear b4); (try clear b3); (try clear b2); (try clear b1); (try clear b0); (try clear bZ); (try clear bY); (try clear bX)
  obtain ⟨br, bm, rfl, HA, HK1, bN, ba, bd, bb, HB⟩ := hrel
  cases gk with
  | zero => exact absurd HA.out (by simp [ledger_Pending.l0])
  | succ k1 => ?_
  have H := HA.out
  clear HA
  simp only [ledger_Pending.l0] at H
  have dr := Aside0.mk H
  clear H
  go_upto_region 4 with (fail)
  go_cut [23] (fun v23 wc => ∃ (kq : Nat) (bS : Bool), v23 = .bool bS ∧ Aside0 (ledger_Pending.j1 kq bP br bm bS bh bc be bj bk bi bg bn bo bq = some r) ∧ Aside0 (kq ≤ k1) ∧ Aside0 (Kd.R (Kd.int .u64) 24 wc w.heap.size (fun k_ => some k_ ≠ ((.slice bI bg.length bH) : Value).ownBlock) u7 br) ∧ Aside0 (Kd.R (Kd.int .u64) 24 wc w.heap.size (fun k_ => some k_ ≠ (u7 : Value).ownBlock) (.slice bI bg.length bH) bg) ∧ Aside0 (wc.heap[bp]? = some (.cells #[.int .u64 bh, .int .u64 bc, (.slice bM be.length bL)] 27 (0, 0))) ∧ Aside0 (wc.heap[bf]? = some (.cells #[.string bj, .int .u64 bk, .int .u64 bi, (.slice bI bg.length bH), .int .u64 bn, .int .u64 bo, .int .u64 bq] 37 (0, 0))) ∧ Aside0 (Below w.heap.size w wc))
  case first =>
   have H := dr.out
   clear dr
   by_cases c12 : bP = true
   case neg =>
    replace c12 := Bool.eq_false_iff.mpr c12
    subst c12
    have H1 : (ledger_Pending.j1 k1 false br bm false bh bc be bj bk bi bg bn bo bq) = some r := by rw [if_neg (show ¬ (false = true) by decide)] at H; exact H
    clear H
    have H := H1
    clear H1
    have H' := Aside0.mk H
    clear H
    go_wp2
    go_meet
    case rel => exact ⟨_, (false), (by first | rfl | (simp; done) | (simp [*]; done)), H', ⟨by have := HK1.out; first | omega | exact Nat.le_refl _⟩, ⟨by (with_reducible repeat (first | apply Kd.R_alloc | apply Kd.R_drewN | apply Kd.R_drew)); exact bN.out⟩, ⟨by (with_reducible repeat (first | apply Kd.R_alloc | apply Kd.R_drewN | apply Kd.R_drew)); exact ba.out⟩, ⟨by (with_reducible repeat (first | refine blk_drewN ?_ _ | refine blk_drew ?_ | refine blk_alloc ?_ _)); exact bd.out⟩, ⟨by (with_reducible repeat (first | refine blk_drewN ?_ _ | refine blk_drew ?_ | refine blk_alloc ?_ _)); exact bb.out⟩, ⟨by repeat (first | (with_reducible first | exact HB.out | apply below_alloc | apply pw_below_drewN | apply below_drew1 | refine below_set ?_ bO.out | refine below_set ?_ bR.out) | exact HB.out)⟩⟩
   subst c12
   have H1 : (ledger_Pending.j1 k1 true br bm (decide (bm < bc)) bh bc be bj bk bi bg bn bo bq) = some r := by rw [if_pos rfl] at H; exact H
   clear H
   have H := H1
   clear H1
   have H' := Aside0.mk H
   clear H
   have gl := bu.out
   have gh := bG.out
   obtain ⟨dm, dl, dk, dj, di, dh⟩ := cx7_bc3 bd.out
   go_wp2
   go_meet
   case rel => exact ⟨_, (decide (bm < bc)), (by first | rfl | (simp; done) | (simp [*]; done)), H', ⟨by have := HK1.out; first | omega | exact Nat.le_refl _⟩, ⟨by (with_reducible repeat (first | apply Kd.R_alloc | apply Kd.R_drewN | apply Kd.R_drew)); exact bN.out⟩, ⟨by (with_reducible repeat (first | apply Kd.R_alloc | apply Kd.R_drewN | apply Kd.R_drew)); exact ba.out⟩, ⟨by (with_reducible repeat (first | refine blk_drewN ?_ _ | refine blk_drew ?_ | refine blk_alloc ?_ _)); exact bd.out⟩, ⟨by (with_reducible repeat (first | refine blk_drewN ?_ _ | refine blk_drew ?_ | refine blk_alloc ?_ _)); exact bb.out⟩, ⟨by repeat (first | (with_reducible first | exact HB.out | apply below_alloc | apply pw_below_drewN | apply below_drew1 | refine below_set ?_ bO.out | refine below_set ?_ bR.out) | exact HB.out)⟩⟩
  case rest =>
   clear dr
   (try clear c1); (try clear p2); (try clear c8); (try clear c12); (try clear c13); (try clear dm); (try clear dl); (try clear dk); (try clear dg); (try clear df); (try clear de); (try clear dd); (try clear dc); (try clear db); (try clear da); (try clear b9); (try clear b8); (try clear b7); (try clear dj); (try clear di); (try clear dh); (try clear b6); (try clear b5); (try clear b4); (try clear b3); (try clear b2); (try clear b1); (try clear b0); (try clear bZ); (try clear bY); (try clear bX); (try clear p2)
   obtain ⟨kq, bS, rfl, HA, dn, bN, ba, bd, bb, HB⟩ := hcut
   cases kq with
   | zero => exact absurd HA.out (by simp [ledger_Pending.j1])
   | succ bQ => ?_
   have H := HA.out
   clear HA
   simp only [ledger_Pending.j1] at H
   by_cases c15 : bS = true
   case neg =>
    replace c15 := Bool.eq_false_iff.mpr c15
    subst c15
    have H1 : (some br) = some r := by rw [if_neg (show ¬ (false = true) by decide)] at H; exact H
    clear H
    have H := H1
    clear H1
    obtain rfl := Option.some.inj H
    go_wp2
    go_ret
    exact ⟨_, by first | rfl | (simp [errW_none, errW_some] <;> rfl) | (simp [*, errW_none, errW_some] <;> rfl), by (with_reducible repeat (first | apply Kd.R_alloc | apply Kd.R_drewN | apply Kd.R_drew)); exact Kd.R_mono bN.out (fun _ hk => trivial), by repeat (first | (with_reducible first | exact HB.out | apply below_alloc | apply pw_below_drewN | apply below_drew1 | refine below_set ?_ bO.out | refine below_set ?_ bR.out) | exact HB.out)⟩

   subst c15
   have H1 : ((ledger_Dest_waits.f bQ bj bk bi bg bn bo bq bm bc).bind fun bW => (if bW = true then (if br.length < 17592186044416 then (ledger_Pending.l0 bQ bP (br ++ [bm]) (IntKind.u64.wrap (bm + 1)) bh bc be bj bk bi bg bn bo bq) else (none)) else (ledger_Pending.l0 bQ bP br (IntKind.u64.wrap (bm + 1)) bh bc be bj bk bi bg bn bo bq))) = some r := by rw [if_pos rfl] at H; exact H
   clear H
   have H := H1
   clear H1
   replace H := Option.bind_eq_some_iff.mp H
   obtain ⟨bW, dy, H⟩ := H
   replace H : (if bW = true then (if br.length < 17592186044416 then (ledger_Pending.l0 bQ bP (br ++ [bm]) (IntKind.u64.wrap (bm + 1)) bh bc be bj bk bi bg bn bo bq) else (none)) else (ledger_Pending.l0 bQ bP br (IntKind.u64.wrap (bm + 1)) bh bc be bj bk bi bg bn bo bq)) = some r := H
   have A16 := Aside0.mk dy
   clear dy
   by_cases c17 : bW = true
   case neg =>
    replace c17 := Bool.eq_false_iff.mpr c17
    subst c17
    have H1 : (ledger_Pending.l0 bQ bP br (IntKind.u64.wrap (bm + 1)) bh bc be bj bk bi bg bn bo bq) = some r := by rw [if_neg (show ¬ (false = true) by decide)] at H; exact H
    clear H
    have H := H1
    clear H1
    have H' := Aside0.mk H
    clear H
    have gi := bG.out
    have gf := bu.out
    obtain ⟨d2, d1, d0, dZ, dY, dX, dW, dI, dH, dG, dF, dE, dD, dC⟩ := cx7_bc7 bb.out
    obtain ⟨dV, dU, dT, dB, dA, dz⟩ := cx7_bc3 bd.out
    go_wp2_with (first | ((with_reducible refine gate_callee (f := 36) rfl ?_); refine goesL_ (some 30) rfl rfl Tryd.func36 (by kernel_rfl) rfl #[.agg #[.string bj, .int .u64 bk, .int .u64 bi, .slice bI bg.length bH, .int .u64 bn, .int .u64 bo, .int .u64 bq], .int .u64 bm, .int .u64 bc] rfl zx7_3 ?_; (with_reducible refine (ledger_Dest_waits.calls bQ bj bk bi _ _ bg bn bo bq bm bc false _ ?side1 ?side2 A16.out).mono ?_); (case side1 => repeat (first | exact (Kd.R_reads' ba.out).2.2 | (with_reducible refine Kd.C_alloc ?_ _) | (with_reducible refine Kd.C_drewN ?_ _) | (with_reducible refine Kd.C_drew ?_))); (case side2 => exact (Kd.R_reads' ba.out).2.1); rintro e w27 ⟨rfl, hb⟩; refine ⟨_, rfl, ?_⟩; replace bN := Aside0.mk (Kd.R_below (by (with_reducible repeat (first | apply Kd.R_alloc | apply Kd.R_drewN | apply Kd.R_drew)); exact bN.out) hb); replace ba := Aside0.mk (Kd.R_below zx7_6 hb); replace bd := Aside0.mk (blk_below (g := bp) (o := .cells #[.int .u64 bh, .int .u64 bc, .slice bM be.length bL] 27 (0, 0)) zx7_0 hb); replace bb := Aside0.mk (blk_below (g := bf) (o := .cells #[.string bj, .int .u64 bk, .int .u64 bi, .slice bI bg.length bH, .int .u64 bn, .int .u64 bo, .int .u64 bq] 37 (0, 0)) zx7_5 hb); replace HB := Aside0.mk (below_step zx7_2 hb); (try clear hb); (try clear hb2); (try clear hk); (try clear hi)))
    go_roundg bQ
    case measure => have := HK1.out; have := dn.out; omega
    case rel => exact ⟨(br), (IntKind.u64.wrap (bm + 1)), (by first | rfl | (simp; done) | (simp [*]; done)), H', ⟨by have := HK1.out; have := dn.out; omega⟩, ⟨by (with_reducible repeat (first | apply Kd.R_alloc | apply Kd.R_drewN | apply Kd.R_drew)); exact bN.out⟩, ⟨by (with_reducible repeat (first | apply Kd.R_alloc | apply Kd.R_drewN | apply Kd.R_drew)); exact ba.out⟩, ⟨by (with_reducible repeat (first | refine blk_drewN ?_ _ | refine blk_drew ?_ | refine blk_alloc ?_ _)); exact bd.out⟩, ⟨by (with_reducible repeat (first | refine blk_drewN ?_ _ | refine blk_drew ?_ | refine blk_alloc ?_ _)); exact bb.out⟩, ⟨by repeat (first | (with_reducible first | exact HB.out | apply below_alloc | apply pw_below_drewN | apply below_drew1 | refine below_set ?_ bO.out | refine below_set ?_ bR.out) | exact HB.out)⟩⟩
   subst c17
   have H1 : (if br.length < 17592186044416 then (ledger_Pending.l0 bQ bP (br ++ [bm]) (IntKind.u64.wrap (bm + 1)) bh bc be bj bk bi bg bn bo bq) else (none)) = some r := by rw [if_pos rfl] at H; exact H
   clear H
   have H := H1
   clear H1
   by_cases c18 : br.length < 17592186044416
   case neg =>
    rw [if_neg c18] at H
    exact absurd H (by simp)
   rw [if_pos c18] at H
   have du := Aside0.mk c18
   clear c18
   obtain ⟨ds, bU⟩ : ∃ y_ : List Int, y_ = (br ++ [bm]) := ⟨_, rfl⟩
   replace H : (ledger_Pending.l0 bQ bP ds (IntKind.u64.wrap (bm + 1)) bh bc be bj bk bi bg bn bo bq) = some r := by first | (rw [bU]; with_reducible exact H) | (have H2_ := (Option.bind_some _ _).symm.trans H; rw [bU]; with_reducible exact H2_) | (have H2_ := (Option.bind_some _ _).symm.trans H; with_reducible exact H2_) | with_reducible exact H | (rw [bU]; exact H) | exact H
   have dt := Aside0.mk bU
   clear bU
   have H' := Aside0.mk H
   clear H
   have gj := bG.out
   have gg := bu.out
   obtain ⟨gc, gb, ga, d9, d8, d7, d6, dS, dR, dQ, dP, dO, dN, dM⟩ := cx7_bc7 bb.out
   obtain ⟨d5, d4, d3, dL, dK, dJ⟩ := cx7_bc3 bd.out
   go_wp2_with (first | ((with_reducible refine gate_callee (f := 36) rfl ?_); refine goesL_ (some 30) rfl rfl Tryd.func36 (by kernel_rfl) rfl #[.agg #[.string bj, .int .u64 bk, .int .u64 bi, .slice bI bg.length bH, .int .u64 bn, .int .u64 bo, .int .u64 bq], .int .u64 bm, .int .u64 bc] rfl zx7_3 ?_; (with_reducible refine (ledger_Dest_waits.calls bQ bj bk bi _ _ bg bn bo bq bm bc true _ ?side1 ?side2 A16.out).mono ?_); (case side1 => repeat (first | exact (Kd.R_reads' ba.out).2.2 | (with_reducible refine Kd.C_alloc ?_ _) | (with_reducible refine Kd.C_drewN ?_ _) | (with_reducible refine Kd.C_drew ?_))); (case side2 => exact (Kd.R_reads' ba.out).2.1); rintro e w22 ⟨rfl, hb⟩; refine ⟨_, rfl, ?_⟩; replace bN := Aside0.mk (Kd.R_below (by (with_reducible repeat (first | apply Kd.R_alloc | apply Kd.R_drewN | apply Kd.R_drew)); exact bN.out) hb); replace ba := Aside0.mk (Kd.R_below zx7_6 hb); replace bd := Aside0.mk (blk_below (g := bp) (o := .cells #[.int .u64 bh, .int .u64 bc, .slice bM be.length bL] 27 (0, 0)) zx7_0 hb); replace bb := Aside0.mk (blk_below (g := bf) (o := .cells #[.string bj, .int .u64 bk, .int .u64 bi, .slice bI bg.length bH, .int .u64 bn, .int .u64 bo, .int .u64 bq] 37 (0, 0)) zx7_5 hb); replace HB := Aside0.mk (below_step zx7_2 hb); (try clear hb); (try clear hb2); (try clear hk); (try clear hi)) | ((with_reducible refine gate_builtin (b := .append) (xs := #[.tmp 31, .tmp 33]) rfl ?_); at_builtin; refine Kd.R_append (Kd.int .u64) (w0 := w) w.heap.size rfl (.tmp 31) (.tmp 33) 35 24 (.int .u64 0) 8 rfl Tryd.underlying35 info24 rfl (by decide) (by omega) u7 br bm [.int .u64 bm] (fun k_ => some k_ ≠ (.slice bI bg.length bH : Value).ownBlock) (fun _ => False) rfl rfl ?aP (fun _ hk => hk.elim) ?aF ?aO ?aB ?aS ?aL ?_; (case aP => exact rfl); (case aB => exact zx7_2); (case aF => exact (fun k_ hk => Kd.fresh' (Kd.R_lt zx7_6) k_ hk)); (case aO => exact (by (with_reducible repeat (first | apply Kd.R_alloc | apply Kd.R_drewN | apply Kd.R_drew)); exact bN.out)); (case aS => exact (below_size zx7_2)); (case aL => have := du.out; omega); intro go w23 ho hb hg hat; rw [← dt.out] at ho; have n0_ := Aside0.mk (Kd.R_after (ok := (fun _ => True)) (by (with_reducible repeat (first | apply Kd.R_alloc | apply Kd.R_drewN | apply Kd.R_drew)); exact Kd.R_mono ba.out (fun _ hk => ⟨trivial, hk⟩)) hg hat); have n1_ := Aside0.mk (blk_grown (g := bp) (o := .cells #[.int .u64 bh, .int .u64 bc, .slice bM be.length bL] 27 (0, 0)) zx7_0 hg (Kd.R_ne bN.out bd.out (by decide))); have n2_ := Aside0.mk (blk_grown (g := bf) (o := .cells #[.string bj, .int .u64 bk, .int .u64 bi, .slice bI bg.length bH, .int .u64 bn, .int .u64 bo, .int .u64 bq] 37 (0, 0)) zx7_5 hg (Kd.R_ne bN.out bb.out (by decide))); have n3_ := Aside0.mk (hb); have n4_ := Aside0.mk (ho); clear ba; clear bd; clear bb; clear HB; clear bN; have ba := n0_; have bd := n1_; have bb := n2_; have HB := n3_; have dw := n4_; clear n0_ n1_ n2_ n3_ n4_; clear ho hb hg hat))
   go_roundg bQ
   case measure => have := HK1.out; have := dn.out; omega
   case rel => exact ⟨(ds), (IntKind.u64.wrap (bm + 1)), (by first | rfl | (simp; done) | (simp [*]; done)), H', ⟨by have := HK1.out; have := dn.out; omega⟩, ⟨by (with_reducible repeat (first | apply Kd.R_alloc | apply Kd.R_drewN | apply Kd.R_drew)); exact dw.out⟩, ⟨by (with_reducible repeat (first | apply Kd.R_alloc | apply Kd.R_drewN | apply Kd.R_drew)); exact Kd.R_mono ba.out (fun _ hk => hk.2)⟩, ⟨by (with_reducible repeat (first | refine blk_drewN ?_ _ | refine blk_drew ?_ | refine blk_alloc ?_ _)); exact bd.out⟩, ⟨by (with_reducible repeat (first | refine blk_drewN ?_ _ | refine blk_drew ?_ | refine blk_alloc ?_ _)); exact bb.out⟩, ⟨by repeat (first | (with_reducible first | exact HB.out | apply below_alloc | apply pw_below_drewN | apply below_drew1 | refine below_set ?_ bO.out | refine below_set ?_ bR.out) | exact HB.out)⟩⟩
end Go.Proofs.YthhmpjapnkilcaaDoor.XLdg
end
section
/- What the functions of the translation answer, each as a plain Lean function, and that the code comes to it; for a law: its row. Conditions: none but those that each theorem names. Written by a program of this session (wip/xp). -/
namespace Go.Proofs.YthhmpjapnkilcaaDoor.XLdg
open Go.RowKit Go.Proofs.YthhmpjapnkilcaaDoorW.PrintWords Go.Proofs.YthhmpjapnkilcaaDoorW.PrintLast Go.Proofs.YthhmpjapnkilcaaDoorW.PrintMore
attribute [local go_sem] max2_int min2_int max_two min_two max_three min_three max_four min_four   -- for this text's walks alone
theorem cx23_bc3 {w : World} {g : Nat} {t : TypeId} {x0 x1 x2 : Value} (h : w.heap[g]? = some (.cells #[x0, x1, x2] t (0, 0))) : w.cell? ⟨g, 0, none⟩ = some x0 ∧ w.cell? ⟨g, 1, none⟩ = some x1 ∧ w.cell? ⟨g, 2, none⟩ = some x2 ∧ w.frozen? ⟨g, 0, none⟩ = false ∧ w.frozen? ⟨g, 1, none⟩ = false ∧ w.frozen? ⟨g, 2, none⟩ = false :=
 ⟨(blk_cell h 0).trans rfl, (blk_cell h 1).trans rfl, (blk_cell h 2).trans rfl, blk_frozen h 0, blk_frozen h 1, blk_frozen h 2⟩
theorem zx23_0 {p : Prop} (h : p := by (with_reducible repeat (first | refine blk_drewN ?_ _ | refine blk_drew ?_ | refine blk_alloc ?_ _)); exact bu.out) : p := h
theorem zx23_4 {p : Prop} (h : p := by (with_reducible repeat (first | refine blk_drewN ?_ _ | refine blk_drew ?_ | refine blk_alloc ?_ _)); exact bf.out) : p := h
theorem zx23_7 {p : Prop} (h : p := by (with_reducible repeat (first | refine blk_drewN ?_ _ | refine blk_drew ?_ | refine blk_alloc ?_ _)); exact bh.out) : p := h
theorem zx23_6 {p : Prop} (h : p := by repeat (first | (with_reducible first | exact HB.out | apply below_alloc | apply pw_below_drewN | apply below_drew1) | exact HB.out)) : p := h
theorem zx23_5 {p : Prop} (h : p := by (try simp only [List.map_toArray, List.map_cons, List.map_nil]); first | done | rfl | (simp only [List.length_drop, List.length_take]; rfl)) : p := h
theorem zx23_3 {p : Prop} (h : p := by repeat (first | (with_reducible first | exact HB.out | apply below_alloc | apply pw_below_drewN | apply below_drew1 | refine below_set ?_ bQ.out) | exact HB.out)) : p := h
theorem zx23_1 {p : Prop} (h : p := by repeat (first | (with_reducible first | exact HB.out | apply below_alloc | apply pw_below_drewN | apply below_drew1 | refine below_set ?_ bQ.out | refine below_set ?_ bY.out) | exact HB.out)) : p := h
theorem zx23_2 {p : Prop} (h : p := by repeat (first | (with_reducible first | exact HB.out | apply below_alloc | apply pw_below_drewN | apply below_drew1 | refine below_set ?_ bQ.out | refine below_set ?_ bY.out | refine below_set ?_ b6.out) | exact HB.out)) : p := h
set_option linter.unusedVariables false
set_option linter.unusedSimpArgs false

/-! ### postroomlaw10_run: function 11 -/
def postroomlaw10_run.l0 : Nat → List (S43) → Int → Int → Int → List (S37) → Int → Int → List (S84) → Option (Int × Int × (List (S37)))
 | 0, _, _, _, _, _, _, _, _ => none
 | k + 1, x0, x5, b4, b3, b2, df, de, dd => if x5 < (x0.length : Int) then (if 0 ≤ x5 then ((postroomlaw10_does.f k b4 b3 b2 df de dd ((rd_T43 x0 x5).f0) ((rd_T43 x0 x5).f1) ((rd_T43 x0 x5).f2) ((rd_T43 x0 x5).f3)).bind fun bP => (postroomlaw10_run.l0 k x0 (wrap64 (x5 + 1)) bP.1 bP.2.1 bP.2.2.1 bP.2.2.2.1 bP.2.2.2.2.1 bP.2.2.2.2.2.1)) else (none)) else (some (b4, b3, b2))
def postroomlaw10_run.f (k : Nat) (l0 : List (S43)) : Option (Int × Int × (List (S37))) := (ledger_New.f).bind fun bL => ((postroomref10_New.f).bind fun bz => (postroomlaw10_run.l0 k l0 0 bL.1 bL.2.1 bL.2.2 bz.1 bz.2.1 bz.2.2))
def postroomlaw10_run.T6 : Bool × List (List Nat × List Nat) := (true, [([], []), ([], []), ([], []), ([], []), ([2, 3], [2, 3]), ([4], [4]), ([0, 1, 5], [0, 1, 5]), ([6], [6]), ([7], [7]), ([7], [7]), ([7], [7]), ([8, 6, 0, 1, 2, 3, 4, 5, 6, 7, 8], [8]), ([9, 11, 0, 1, 2, 3, 4, 5, 6, 7, 8, 9, 11], [9])])
def postroomlaw10_run.B6 : List Nat := [0, 0, 0, 0, 12, 28, 63, 127, 255, 255, 255, 511, 3071]
theorem postroomlaw10_run.tab6 : rtab .any (opsOf Tryd.f11 6) = postroomlaw10_run.T6 := by kernel_rfl
theorem postroomlaw10_run.bits6 : waitsOk postroomlaw10_run.T6.2 postroomlaw10_run.B6 = true := by kernel_rfl
set_option maxHeartbeats 8000000 in
set_option maxRecDepth 100000 in
theorem postroomlaw10_run.calls (k : Nat) (A0 : Option Addr) (c0 : Nat) (l0 : List (S43)) (r1 : Int) (r2 : Int) (r3 : List (S37)) (w : World) (hr0 : Kd.C k43 w A0 l0.length l0) (hc0 : l0.length ≤ c0) (h : postroomlaw10_run.f k l0 = some (r1, r2, r3)) :
  Calls Tryd.prog 11 #[.slice A0 l0.length c0] w fun e w' => ∃ v2_ : Value, e = .returned (.agg #[.int .u64 r1, .int .u64 r2, v2_]) ∧ Kd.V k37 37 w' w.heap.size (fun k_ => (w.heap.size ≤ k_)) v2_ r3 ∧ Below w.heap.size w w' := by
 have gS := Tryd.underlying27
 have gQ := Tryd.underlying57
 have gR := Tryd.underlying43
 have HR0 := Aside0.mk hr0
 have HC0 := Aside0.mk hc0
 clear hr0 hc0
 have HB := Aside0.mk (Below.refl w.heap.size w)
 have H : ((ledger_New.f).bind fun bL => ((postroomref10_New.f).bind fun bz => (postroomlaw10_run.l0 k l0 0 bL.1 bL.2.1 bL.2.2 bz.1 bz.2.1 bz.2.2))) = some (r1, r2, r3) := h
 clear h
 replace H := Option.bind_eq_some_iff.mp H
 obtain ⟨⟨bK, bO, bN⟩, A20, H⟩ := H
 replace H : ((postroomref10_New.f).bind fun bz => (postroomlaw10_run.l0 k l0 0 bK bO bN bz.1 bz.2.1 bz.2.2)) = some (r1, r2, r3) := H
 have A2 := Aside0.mk A20
 clear A20
 replace H := Option.bind_eq_some_iff.mp H
 obtain ⟨⟨b1, dc, db⟩, A30, H⟩ := H
 replace H : (postroomlaw10_run.l0 k l0 0 bK bO bN b1 dc db) = some (r1, r2, r3) := H
 have A3 := Aside0.mk A30
 clear A30
 have H' := Aside0.mk H
 clear H
 go_enter Tryd.func11, Tryd.ntmps11
 go_wp2_with (first | ((with_reducible refine gate_dst (N := 2) rfl ?_); refine box_event ?hg (N := 2) ?hd (cs := #[.int .u64 0, .int .u64 0, .slice none 0 0]) (t := 27) ?hr ?_; (case hd => rfl); (case hg => rfl); (case hr => first | (go_simp; done) | (go_simp; rfl)); intro bj hg w4 hbox hb; have bu := Aside0.mk (hbox); have gL := Aside0.mk ((by rw [hg]; exact (below_size zx23_6) : w.heap.size ≤ bj)); have bQ := Aside0.mk ((by rw [hg]; exact (below_size zx23_6) : w.heap.size ≤ bj)); replace HB := Aside0.mk (below_step zx23_6 hb); clear hb hbox hg) | ((with_reducible refine gate_callee (f := 25) rfl ?_); refine goesL_ (some 6) rfl rfl Tryd.func25 (by kernel_rfl) rfl #[] rfl zx23_5 ?_; (with_reducible refine (ledger_New.calls  bK bO bN _ A2.out).mono ?_); rintro e w5 ⟨gP, rfl, ho0, hb⟩; refine ⟨_, rfl, ?_⟩; have bE := Aside0.mk (Kd.S_lower (Kd.S_newM (M := fun k_ => (w.heap.size ≤ k_)) ho0 (below_size zx23_3) (fun k_ h_ => h_)) (below_size zx23_3)); replace bu := Aside0.mk (blk_below (g := bj) (o := .cells #[.int .u64 0, .int .u64 0, .slice none 0 0] 27 (0, 0)) zx23_0 hb); replace HB := Aside0.mk (below_step zx23_3 hb); (try clear hb); (try clear hb2); (try clear hk); (try clear hi); (try clear ho0)) | ((with_reducible refine gate_dst (N := 3) rfl ?_); refine box_event ?hg (N := 3) ?hd (cs := #[.int .u64 0, .int .u64 0, .slice none 0 0]) (t := 27) ?hr ?_; (case hd => rfl); (case hg => rfl); (case hr => first | (go_simp; done) | (go_simp; rfl)); intro ba hg w6 hbox hb; replace bE := Aside0.mk (Kd.S_below (by (with_reducible repeat (first | apply Kd.S_alloc | apply Kd.S_drewN | apply Kd.S_drew)); exact bE.out) hb); have bf := Aside0.mk (hbox); have gK := Aside0.mk ((by rw [hg]; exact (below_size zx23_3) : w.heap.size ≤ ba)); have bY := Aside0.mk ((by rw [hg]; exact (below_size zx23_3) : w.heap.size ≤ ba)); replace HB := Aside0.mk (below_step zx23_3 hb); have bq := Aside0.mk ((by rw [hg]; exact Nat.ne_of_lt (blk_lt (g := bj) (o := .cells #[.int .u64 0, .int .u64 0, .slice none 0 0] 27 (0, 0)) zx23_0) : bj ≠ ba)); have bx := Aside0.mk ((by rw [hg]; exact Nat.ne_of_gt (blk_lt (g := bj) (o := .cells #[.int .u64 0, .int .u64 0, .slice none 0 0] 27 (0, 0)) zx23_0) : ba ≠ bj)); replace bu := Aside0.mk (blk_below (g := bj) (o := .cells #[.int .u64 0, .int .u64 0, .slice none 0 0] 27 (0, 0)) zx23_0 hb); clear hb hbox hg; have ha := bx.out; have gZ := bq.out; have dx : w6.cell? ⟨ba, 0, none⟩ = some (.int .u64 0) := (blk_cell bf.out 0).trans rfl; have dw : w6.cell? ⟨ba, 1, none⟩ = some (.int .u64 0) := (blk_cell bf.out 1).trans rfl; have dv : w6.cell? ⟨ba, 2, none⟩ = some (.slice none 0 0) := (blk_cell bf.out 2).trans rfl; have du := blk_frozen bf.out 0; have dt := blk_frozen bf.out 1; have dr := blk_frozen bf.out 2; obtain ⟨Ao9, co9, eo9⟩ := Kd.S_slice bE.out; subst eo9) | ((with_reducible refine gate_callee (f := 26) rfl ?_); refine goesL_ (some 7) rfl rfl Tryd.func26 (by kernel_rfl) rfl #[] rfl zx23_5 ?_; (with_reducible refine (postroomref10_New.calls  b1 dc db _ A3.out).mono ?_); rintro e w10 ⟨gO, rfl, ho0, hb⟩; refine ⟨_, rfl, ?_⟩; replace bE := Aside0.mk (Kd.S_below (by (with_reducible repeat (first | apply Kd.S_alloc | apply Kd.S_drewN | apply Kd.S_drew)); exact (Kd.S_mono (Kd.S_far (p := ⟨ba, 2, none⟩) (Kd.S_far (p := ⟨ba, 1, none⟩) (Kd.S_far (p := ⟨ba, 0, none⟩) (Kd.S_types bE.out bf.out (by decide)) (fun _ hk => hk.2) (.int .u64 bK)) (fun _ hk => hk.2) (.int .u64 bO)) (fun _ hk => hk.2) (.slice Ao9 bN.length co9)) (fun _ h_ => h_.1))) hb); have b5 := Aside0.mk (Kd.S_lower (Kd.S_newM (M := fun k_ => (w.heap.size ≤ k_)) ho0 (below_size zx23_1) (fun k_ h_ => h_)) (below_size zx23_1)); replace bu := Aside0.mk (blk_below (g := bj) (o := .cells #[.int .u64 0, .int .u64 0, .slice none 0 0] 27 (0, 0)) (by (iterate 3 ((with_reducible repeat (first | refine blk_drewN ?_ _ | refine blk_drew ?_ | refine blk_alloc ?_ _)); refine blk_far ?_ bq.out _)); (with_reducible repeat (first | refine blk_drewN ?_ _ | refine blk_drew ?_ | refine blk_alloc ?_ _)); exact bu.out) hb); replace bf := Aside0.mk (blk_below (g := ba) (o := .cells #[.int .u64 bK, .int .u64 bO, .slice Ao9 bN.length co9] 27 (0, 0)) (by (with_reducible repeat (first | refine blk_drewN ?_ _ | refine blk_drew ?_ | refine blk_alloc ?_ _)); refine blk_put (cs := #[.int .u64 bK, .int .u64 bO, .slice none 0 0]) ?_ 2 _ rfl; (with_reducible repeat (first | refine blk_drewN ?_ _ | refine blk_drew ?_ | refine blk_alloc ?_ _)); refine blk_put (cs := #[.int .u64 bK, .int .u64 0, .slice none 0 0]) ?_ 1 _ rfl; (with_reducible repeat (first | refine blk_drewN ?_ _ | refine blk_drew ?_ | refine blk_alloc ?_ _)); refine blk_put (cs := #[.int .u64 0, .int .u64 0, .slice none 0 0]) ?_ 0 _ rfl; (with_reducible repeat (first | refine blk_drewN ?_ _ | refine blk_drew ?_ | refine blk_alloc ?_ _)); exact bf.out) hb); replace HB := Aside0.mk (below_step zx23_1 hb); (try clear hb); (try clear hb2); (try clear hk); (try clear hi); (try clear ho0)) | ((with_reducible refine gate_dst (N := 4) rfl ?_); refine box_event ?hg (N := 4) ?hd (cs := #[.int .u64 0, .int .u64 0, .slice none 0 0]) (t := 57) ?hr ?_; (case hd => rfl); (case hg => rfl); (case hr => first | (go_simp; done) | (go_simp; rfl)); intro bb hg w11 hbox hb; replace bE := Aside0.mk (Kd.S_below (by (with_reducible repeat (first | apply Kd.S_alloc | apply Kd.S_drewN | apply Kd.S_drew)); exact bE.out) hb); replace b5 := Aside0.mk (Kd.S_below (by (with_reducible repeat (first | apply Kd.S_alloc | apply Kd.S_drewN | apply Kd.S_drew)); exact b5.out) hb); have bh := Aside0.mk (hbox); have gJ := Aside0.mk ((by rw [hg]; exact (below_size zx23_1) : w.heap.size ≤ bb)); have b6 := Aside0.mk ((by rw [hg]; exact (below_size zx23_1) : w.heap.size ≤ bb)); replace HB := Aside0.mk (below_step zx23_1 hb); have bp := Aside0.mk ((by rw [hg]; exact Nat.ne_of_lt (blk_lt (g := bj) (o := .cells #[.int .u64 0, .int .u64 0, .slice none 0 0] 27 (0, 0)) zx23_0) : bj ≠ bb)); have bw := Aside0.mk ((by rw [hg]; exact Nat.ne_of_gt (blk_lt (g := bj) (o := .cells #[.int .u64 0, .int .u64 0, .slice none 0 0] 27 (0, 0)) zx23_0) : bb ≠ bj)); replace bu := Aside0.mk (blk_below (g := bj) (o := .cells #[.int .u64 0, .int .u64 0, .slice none 0 0] 27 (0, 0)) zx23_0 hb); have bl := Aside0.mk ((by rw [hg]; exact Nat.ne_of_lt (blk_lt (g := ba) (o := .cells #[.int .u64 bK, .int .u64 bO, .slice Ao9 bN.length co9] 27 (0, 0)) zx23_4) : ba ≠ bb)); have bm := Aside0.mk ((by rw [hg]; exact Nat.ne_of_gt (blk_lt (g := ba) (o := .cells #[.int .u64 bK, .int .u64 bO, .slice Ao9 bN.length co9] 27 (0, 0)) zx23_4) : bb ≠ ba)); replace bf := Aside0.mk (blk_below (g := ba) (o := .cells #[.int .u64 bK, .int .u64 bO, .slice Ao9 bN.length co9] 27 (0, 0)) zx23_4 hb); clear hb hbox hg; have gB := bw.out; have gw := bp.out; have gA := bm.out; have gv := bl.out; have dl : w11.cell? ⟨bb, 0, none⟩ = some (.int .u64 0) := (blk_cell bh.out 0).trans rfl; have dk : w11.cell? ⟨bb, 1, none⟩ = some (.int .u64 0) := (blk_cell bh.out 1).trans rfl; have dj : w11.cell? ⟨bb, 2, none⟩ = some (.slice none 0 0) := (blk_cell bh.out 2).trans rfl; have di := blk_frozen bh.out 0; have dh := blk_frozen bh.out 1; have dg := blk_frozen bh.out 2; obtain ⟨dD, dA, gq⟩ := Kd.S_slice b5.out; subst gq))
 go_loopg [5] k (fun kq v5 w' => ∃ (bo : Int) (be : Int) (bd : Int) (bc : List (S37)) (bk : Int) (bi : Int) (bg : List (S84)) (bS : Value) (bR : Value), v5 = .int .i64 bo ∧ Aside0 (postroomlaw10_run.l0 kq l0 bo be bd bc bk bi bg = some (r1, r2, r3)) ∧ Aside0 (kq ≤ k) ∧ Aside0 (Kd.V k37 37 w' w.heap.size (fun k_ => (w.heap.size ≤ k_) ∧ k_ ≠ bj ∧ k_ ≠ ba ∧ k_ ≠ bb) bS bc) ∧ Aside0 (Kd.V k84 84 w' w.heap.size (fun k_ => (w.heap.size ≤ k_) ∧ k_ ≠ bj ∧ k_ ≠ ba ∧ k_ ≠ bb) bR bg) ∧ Aside0 (w'.heap[bj]? = some (.cells #[.int .u64 0, .int .u64 0, (.slice none 0 0)] 27 (0, 0))) ∧ Aside0 (w'.heap[ba]? = some (.cells #[.int .u64 be, .int .u64 bd, bS] 27 (0, 0))) ∧ Aside0 (w'.heap[bb]? = some (.cells #[.int .u64 bk, .int .u64 bi, bR] 57 (0, 0))) ∧ Aside0 (Below w.heap.size w w'))
 case atStart => exact ⟨(0), (bK), (bO), (bN), (b1), (dc), (db), (.slice Ao9 bN.length co9), (.slice dD db.length dA), (by first | rfl | (simp; done) | (simp [*]; done)), H', ⟨Nat.le_refl _⟩, ⟨Kd.S_V (by (with_reducible repeat (first | apply Kd.S_alloc | apply Kd.S_drewN | apply Kd.S_drew)); exact Kd.S_mono (Kd.S_far (p := ⟨bb, 2, none⟩) (Kd.S_far (p := ⟨bb, 1, none⟩) (Kd.S_far (p := ⟨bb, 0, none⟩) (Kd.S_types (Kd.S_types (Kd.S_types (Kd.S_types bE.out bu.out (by decide)) bf.out (by decide)) bh.out (by decide)) bh.out (by decide)) (fun _ hk => hk.2) (.int .u64 b1)) (fun _ hk => hk.2) (.int .u64 dc)) (fun _ hk => hk.2) (.slice dD db.length dA)) (fun _ hk => ⟨hk.1.1.1.1.1, ⟨hk.1.1.1.2, ⟨hk.1.1.2, hk.1.2⟩⟩⟩))⟩, ⟨Kd.S_V (by (with_reducible repeat (first | apply Kd.S_alloc | apply Kd.S_drewN | apply Kd.S_drew)); exact Kd.S_mono (Kd.S_far (p := ⟨bb, 2, none⟩) (Kd.S_far (p := ⟨bb, 1, none⟩) (Kd.S_far (p := ⟨bb, 0, none⟩) (Kd.S_types (Kd.S_types (Kd.S_types (Kd.S_types b5.out bu.out (by decide)) bf.out (by decide)) bh.out (by decide)) bh.out (by decide)) (fun _ hk => hk.2) (.int .u64 b1)) (fun _ hk => hk.2) (.int .u64 dc)) (fun _ hk => hk.2) (.slice dD db.length dA)) (fun _ hk => ⟨hk.1.1.1.1.1, ⟨hk.1.1.1.2, ⟨hk.1.1.2, hk.1.2⟩⟩⟩))⟩, ⟨by (iterate 3 ((with_reducible repeat (first | refine blk_drewN ?_ _ | refine blk_drew ?_ | refine blk_alloc ?_ _)); refine blk_far ?_ bp.out _)); (with_reducible repeat (first | refine blk_drewN ?_ _ | refine blk_drew ?_ | refine blk_alloc ?_ _)); exact bu.out⟩, ⟨by (iterate 3 ((with_reducible repeat (first | refine blk_drewN ?_ _ | refine blk_drew ?_ | refine blk_alloc ?_ _)); refine blk_far ?_ bl.out _)); (with_reducible repeat (first | refine blk_drewN ?_ _ | refine blk_drew ?_ | refine blk_alloc ?_ _)); exact bf.out⟩, ⟨by (with_reducible repeat (first | refine blk_drewN ?_ _ | refine blk_drew ?_ | refine blk_alloc ?_ _)); refine blk_put (cs := #[.int .u64 b1, .int .u64 dc, .slice none 0 0]) ?_ 2 _ rfl; (with_reducible repeat (first | refine blk_drewN ?_ _ | refine blk_drew ?_ | refine blk_alloc ?_ _)); refine blk_put (cs := #[.int .u64 b1, .int .u64 0, .slice none 0 0]) ?_ 1 _ rfl; (with_reducible repeat (first | refine blk_drewN ?_ _ | refine blk_drew ?_ | refine blk_alloc ?_ _)); refine blk_put (cs := #[.int .u64 0, .int .u64 0, .slice none 0 0]) ?_ 0 _ rfl; (with_reducible repeat (first | refine blk_drewN ?_ _ | refine blk_drew ?_ | refine blk_alloc ?_ _)); exact bh.out⟩, ⟨by repeat (first | (with_reducible first | exact HB.out | apply below_alloc | apply pw_below_drewN | apply below_drew1 | refine below_set ?_ bQ.out | refine below_set ?_ bY.out | refine below_set ?_ b6.out) | exact HB.out)⟩⟩
 case round =>
  clear H'
  (try clear c1); (try clear c2); (try clear p2); (try clear c7); (try clear c11); (try clear c12); (try clear c13); (try clear dl); (try clear dk); (try clear dj); (try clear dx); (try clear dw); (try clear dv); (try clear di); (try clear dh); (try clear dg); (try clear du); (try clear dt); (try clear dr)
  obtain ⟨bo, be, bd, bc, bk, bi, bg, bS, bR, rfl, HA, HK1, bn, br, bu, bf, bh, HB⟩ := hrel
  cases gk with
  | zero => exact absurd HA.out (by simp [postroomlaw10_run.l0])
  | succ k1 => ?_
  have H := HA.out
  clear HA
  simp only [postroomlaw10_run.l0] at H
  by_cases c16 : bo < (l0.length : Int)
  case neg =>
   rw [if_neg c16] at H
   have dJ : decide (bo < (l0.length : Int)) = false := decide_eq_false c16
   clear c16
   simp only [Option.some.injEq, Prod.mk.injEq] at H
   obtain ⟨rfl, rfl, rfl⟩ := H
   have gz := bx.out
   have gu := bq.out
   have gy := bl.out
   have gt := bm.out
   obtain ⟨gn, gm, gl, gg, gf, ge⟩ := cx23_bc3 bf.out
   have gx := bp.out
   have gs := bw.out
   obtain ⟨gj, gi, gh, gc, gb, ga⟩ := cx23_bc3 bu.out
   obtain ⟨dK, dI, gp⟩ := Kd.V_slice bn.out
   subst gp
   go_wp2
   refine bodyPost_ret (results_cell_row rfl _ _ bj 27 #[.int .u64 be, .int .u64 bd, .slice dK bc.length dI] (0, 0) _ rfl (by (with_reducible repeat (first | refine blk_drewN ?_ _ | refine blk_drew ?_ | refine blk_alloc ?_ _)); refine blk_put (cs := #[.int .u64 be, .int .u64 bd, .slice none 0 0]) ?_ 2 _ rfl; (with_reducible repeat (first | refine blk_drewN ?_ _ | refine blk_drew ?_ | refine blk_alloc ?_ _)); refine blk_put (cs := #[.int .u64 be, .int .u64 0, .slice none 0 0]) ?_ 1 _ rfl; (with_reducible repeat (first | refine blk_drewN ?_ _ | refine blk_drew ?_ | refine blk_alloc ?_ _)); refine blk_put (cs := #[.int .u64 0, .int .u64 0, .slice none 0 0]) ?_ 0 _ rfl; (with_reducible repeat (first | refine blk_drewN ?_ _ | refine blk_drew ?_ | refine blk_alloc ?_ _)); exact bu.out) Tryd.underlying27 rfl (by kernel_rfl)) rfl ?_
   exact ⟨_, by first | rfl | (simp [errW_none, errW_some] <;> rfl) | (simp [*, errW_none, errW_some] <;> rfl), by (with_reducible repeat (first | apply Kd.V_alloc | apply Kd.V_drewN | apply Kd.V_drew)); exact Kd.V_mono (Kd.V_far (p := ⟨bj, 2, none⟩) (Kd.V_far (p := ⟨bj, 1, none⟩) (Kd.V_far (p := ⟨bj, 0, none⟩) (Kd.V_mono bn.out (fun k_ hk => (⟨hk, hk.2.1⟩ : _ ∧ k_ ≠ bj))) (fun _ hk => hk.2) (.int .u64 be)) (fun _ hk => hk.2) (.int .u64 bd)) (fun _ hk => hk.2) (.slice dK bc.length dI)) (fun _ hk => hk.1.1), by repeat (first | (with_reducible first | exact HB.out | apply below_alloc | apply pw_below_drewN | apply below_drew1 | refine below_set ?_ bQ.out | refine below_set ?_ bY.out | refine below_set ?_ b6.out) | exact HB.out)⟩

  rw [if_pos c16] at H
  have dJ : decide (bo < (l0.length : Int)) = true := decide_eq_true c16
  clear c16
  by_cases c17 : 0 ≤ bo
  case neg =>
   rw [if_neg c17] at H
   exact absurd H (by simp)
  rw [if_pos c17] at H
  have gI : decide (0 ≤ bo) = true := decide_eq_true c17
  clear c17
  replace H := Option.bind_eq_some_iff.mp H
  obtain ⟨⟨b0, da, b9, bZ, b8, b7, go⟩, dL, H⟩ := H
  replace H : (postroomlaw10_run.l0 k1 l0 (wrap64 (bo + 1)) b0 da b9 bZ b8 b7) = some (r1, r2, r3) := H
  have A18 := Aside0.mk dL
  clear dL
  have H' := Aside0.mk H
  clear H
  try go_wp2
  replace bn := Aside0.mk (Kd.V_drew bn.out)
  replace br := Aside0.mk (Kd.V_drew br.out)
  replace bu := Aside0.mk (blk_drew bu.out)
  replace bf := Aside0.mk (blk_drew bf.out)
  replace bh := Aside0.mk (blk_drew bh.out)
  replace HB := Aside0.mk (below_drew1 HB.out)
  have dq : 0 ≤ (bo : Int) := of_decide_eq_true (by first | (with_reducible assumption) | assumption)
  have dp : bo < (l0.length : Int) := of_decide_eq_true (by first | (with_reducible assumption) | assumption)
  obtain ⟨bM, gr, bD, bC, bB, bA⟩ := at_T43 HR0.out bo dq dp
  have bG := bA
  have bH := bB
  have bI := bC
  have bJ := bD
  cases gr
  replace bD := (HB.out.cell (World.block_lt_of_cell? w _ bD)).trans bD
  replace bC := (HB.out.cell (World.block_lt_of_cell? w _ bC)).trans bC
  replace bB := (HB.out.cell (World.block_lt_of_cell? w _ bB)).trans bB
  replace bA := (HB.out.cell (World.block_lt_of_cell? w _ bA)).trans bA
  replace dq := eq_true dq
  replace dp := eq_true dp
  obtain ⟨bX, bV, dH⟩ := Kd.V_slice bn.out
  (first | subst dH | (injection dH with f1_ f2_ f3_; have f4_ := f1_.symm; have f5_ := f3_.symm; clear f1_ f2_ f3_; subst f4_; subst f5_))
  obtain ⟨bW, bU, dG⟩ := Kd.V_slice br.out
  (first | subst dG | (injection dG with f1_ f2_ f3_; have f4_ := f1_.symm; have f5_ := f3_.symm; clear f1_ f2_ f3_; subst f4_; subst f5_))
  refine start_ (n := 13) (S := fun w' => w'.cell? ⟨ba, 0, none⟩ = some (.int .u64 be) ∧ w'.cell? ⟨ba, 1, none⟩ = some (.int .u64 bd) ∧ w'.cell? ⟨ba, 2, none⟩ = some (.slice bX bc.length bV) ∧ w'.cell? ⟨bb, 0, none⟩ = some (.int .u64 bk) ∧ w'.cell? ⟨bb, 1, none⟩ = some (.int .u64 bi) ∧ w'.cell? ⟨bb, 2, none⟩ = some (.slice bW bg.length bU) ∧ w'.cell? (bM.add ((bo).toNat * 4)) = some (.int .i64 ((rd_T43 l0 bo).f0)) ∧ w'.cell? ⟨(bM.add ((bo).toNat * 4)).block, (bM.add ((bo).toNat * 4)).off + 1, none⟩ = some (.int .i64 ((rd_T43 l0 bo).f1)) ∧ w'.cell? ⟨(bM.add ((bo).toNat * 4)).block, (bM.add ((bo).toNat * 4)).off + 2, none⟩ = some (.int .i64 ((rd_T43 l0 bo).f2)) ∧ w'.cell? ⟨(bM.add ((bo).toNat * 4)).block, (bM.add ((bo).toNat * 4)).off + 3, none⟩ = some (.int .i64 ((rd_T43 l0 bo).f3))) (ds := [11, 12]) #[Ff,Ff,Ff,Ff,Ff,Ff,Ff,Ff,Ff,Ff,Ff,Ff,Ff] (by kernel_rfl) rfl rfl ⟨(blk_cell bf.out 0).trans rfl, (blk_cell bf.out 1).trans rfl, (blk_cell bf.out 2).trans rfl, (blk_cell bh.out 0).trans rfl, (blk_cell bh.out 1).trans rfl, (blk_cell bh.out 2).trans rfl, ((HB.out.cell (World.block_lt_of_cell? w _ bJ)).trans bJ), ((HB.out.cell (World.block_lt_of_cell? w _ bI)).trans bI), ((HB.out.cell (World.block_lt_of_cell? w _ bH)).trans bH), ((HB.out.cell (World.block_lt_of_cell? w _ bG)).trans bG)⟩ (fun hHeld => ?_); refine with_tabW postroomlaw10_run.tab6 postroomlaw10_run.bits6 (fun HT_ HW_ => ?_)
  generalize wr.drew = w19 at bn br bu bf bh HB bD bC bB bA hHeld ⊢
  refine pp_ 2 (some 17) HT_.out ?_
  refine pp_ 3 (some 18) HT_.out ?_
  refine pp_ 4 (some 19) HT_.out ?_
  refine take_ (i := 0) (N := some 15) (v := ?_) (a' := ?_) #[Tt,Ff,Tt,Tt,Tt,Ff,Ff,Ff,Ff,Ff,Ff,Ff,Ff] rfl rfl (take_ofW HT_.out HW_.out (by kernel_rfl)) (fun _ _ _ h => h) (Or.inl ⟨by rfl, ?_⟩) hHeld ?_ ?_
  rotate_left
  ·rintro w' ⟨s0, s1, s2, s3, s4, s5, s6, s7, s8, s9⟩
   go_simp
   with_reducible rfl
  rotate_left
  ·simp only [Act.put, List.setIfInBounds_toArray, List.set_cons_zero, List.set_cons_succ, i64_w, i32_w]
   rfl
  refine take_ (i := 1) (N := some 16) (v := ?_) (a' := ?_) #[Tt,Tt,Tt,Tt,Tt,Ff,Ff,Ff,Ff,Ff,Ff,Ff,Ff] rfl rfl (take_ofW HT_.out HW_.out (by kernel_rfl)) (fun _ _ _ h => h) (Or.inl ⟨by rfl, ?_⟩) hHeld ?_ ?_
  rotate_left
  ·rintro w' ⟨s0, s1, s2, s3, s4, s5, s6, s7, s8, s9⟩
   go_simp
   with_reducible rfl
  rotate_left
  ·simp only [Act.put, List.setIfInBounds_toArray, List.set_cons_zero, List.set_cons_succ, i64_w, i32_w]
   rfl
  refine take_ (i := 5) (N := some 20) (v := ?_) (a' := ?_) #[Tt,Tt,Tt,Tt,Tt,Tt,Ff,Ff,Ff,Ff,Ff,Ff,Ff] rfl rfl (take_ofW HT_.out HW_.out (by kernel_rfl)) (fun _ _ _ h => h) (Or.inl ⟨by rfl, ?_⟩) hHeld ?_ ?_
  rotate_left
  ·rintro w' ⟨s0, s1, s2, s3, s4, s5, s6, s7, s8, s9⟩
   go_simp
   with_reducible rfl
  rotate_left
  ·simp only [Act.put, List.setIfInBounds_toArray, List.set_cons_zero, List.set_cons_succ, i64_w, i32_w]
   rfl
  refine one_ (i := 6) (N := some 21) #[Tt,Tt,Tt,Tt,Tt,Tt,Tt,Ff,Ff,Ff,Ff,Ff,Ff] rfl rfl (one_of HT_.out (by kernel_rfl)) (by decide) (fun K hK => ?_)
  refine goes_ Tryd.func27 (by kernel_rfl) rfl #[.agg #[.int .u64 be, .int .u64 bd, .slice bX bc.length bV], .agg #[.int .u64 bk, .int .u64 bi, .slice bW bg.length bU], .agg #[.int .i64 ((rd_T43 l0 bo).f0), .int .i64 ((rd_T43 l0 bo).f1), .int .i64 ((rd_T43 l0 bo).f2), .int .i64 ((rd_T43 l0 bo).f3)]] (by rfl) rfl rfl zx23_5 ?_
  with_reducible refine (postroomlaw10_does.calls k1 be bd (fun k_ => ((w.heap.size ≤ k_) ∧ (k_ ≠ bj ∧ (k_ ≠ ba ∧ k_ ≠ bb)))) _ _ bc bk bi (fun k_ => ((w.heap.size ≤ k_) ∧ (k_ ≠ bj ∧ (k_ ≠ ba ∧ k_ ≠ bb)))) _ _ bg ((rd_T43 l0 bo).f0) ((rd_T43 l0 bo).f1) ((rd_T43 l0 bo).f2) ((rd_T43 l0 bo).f3) b0 da b9 bZ b8 b7 go _ ?side1 ?side2 A18.out).mono ?_
  (case side1 => exact bn.out)
  (case side2 => exact br.out)
  rintro e w22 ⟨gN, gM, rfl, ho0, ho1, hb⟩
  refine ⟨_, rfl, ?_⟩
  replace bn := Aside0.mk (Kd.V_below (by (with_reducible repeat (first | apply Kd.V_alloc | apply Kd.V_drewN | apply Kd.V_drew)); exact bn.out) hb)
  replace br := Aside0.mk (Kd.V_below (by (with_reducible repeat (first | apply Kd.V_alloc | apply Kd.V_drewN | apply Kd.V_drew)); exact br.out) hb)
  have dn := Aside0.mk (Kd.V_lower (Kd.V_mono (ok' := fun k_ => (w.heap.size ≤ k_) ∧ k_ ≠ bj ∧ k_ ≠ ba ∧ k_ ≠ bb) ho0 (fun k_ hk_ => ⟨Or.elim hk_ (fun hs_ => Or.elim hs_ (fun hs_ => hs_.1) (fun hs_ => hs_.1)) (fun hn_ => (Nat.le_trans (below_size zx23_2) hn_)), Or.elim hk_ (fun hs_ => Or.elim hs_ (fun hs_ => hs_.2.1) (fun hs_ => hs_.2.1)) (fun hn_ => (Kd.freshB (g := bj) (o := .cells #[.int .u64 0, .int .u64 0, .slice none 0 0] 27 (0, 0)) zx23_0 k_ hn_)), Or.elim hk_ (fun hs_ => Or.elim hs_ (fun hs_ => hs_.2.2.1) (fun hs_ => hs_.2.2.1)) (fun hn_ => (Kd.freshB (g := ba) (o := .cells #[.int .u64 be, .int .u64 bd, .slice bX bc.length bV] 27 (0, 0)) zx23_4 k_ hn_)), Or.elim hk_ (fun hs_ => Or.elim hs_ (fun hs_ => hs_.2.2.2) (fun hs_ => hs_.2.2.2)) (fun hn_ => (Kd.freshB (g := bb) (o := .cells #[.int .u64 bk, .int .u64 bi, .slice bW bg.length bU] 57 (0, 0)) zx23_7 k_ hn_))⟩)) (below_size zx23_2))
  have dm := Aside0.mk (Kd.V_lower (Kd.V_mono (ok' := fun k_ => (w.heap.size ≤ k_) ∧ k_ ≠ bj ∧ k_ ≠ ba ∧ k_ ≠ bb) ho1 (fun k_ hk_ => ⟨Or.elim hk_ (fun hs_ => Or.elim hs_ (fun hs_ => hs_.1) (fun hs_ => hs_.1)) (fun hn_ => (Nat.le_trans (below_size zx23_2) hn_)), Or.elim hk_ (fun hs_ => Or.elim hs_ (fun hs_ => hs_.2.1) (fun hs_ => hs_.2.1)) (fun hn_ => (Kd.freshB (g := bj) (o := .cells #[.int .u64 0, .int .u64 0, .slice none 0 0] 27 (0, 0)) zx23_0 k_ hn_)), Or.elim hk_ (fun hs_ => Or.elim hs_ (fun hs_ => hs_.2.2.1) (fun hs_ => hs_.2.2.1)) (fun hn_ => (Kd.freshB (g := ba) (o := .cells #[.int .u64 be, .int .u64 bd, .slice bX bc.length bV] 27 (0, 0)) zx23_4 k_ hn_)), Or.elim hk_ (fun hs_ => Or.elim hs_ (fun hs_ => hs_.2.2.2) (fun hs_ => hs_.2.2.2)) (fun hn_ => (Kd.freshB (g := bb) (o := .cells #[.int .u64 bk, .int .u64 bi, .slice bW bg.length bU] 57 (0, 0)) zx23_7 k_ hn_))⟩)) (below_size zx23_2))
  replace bu := Aside0.mk (blk_below (g := bj) (o := .cells #[.int .u64 0, .int .u64 0, .slice none 0 0] 27 (0, 0)) zx23_0 hb)
  replace bf := Aside0.mk (blk_below (g := ba) (o := .cells #[.int .u64 be, .int .u64 bd, .slice bX bc.length bV] 27 (0, 0)) zx23_4 hb)
  replace bh := Aside0.mk (blk_below (g := bb) (o := .cells #[.int .u64 bk, .int .u64 bi, .slice bW bg.length bU] 57 (0, 0)) zx23_7 hb)
  replace HB := Aside0.mk (below_step zx23_2 hb)
  (try clear hb)
  (try clear hb2)
  (try clear hk)
  (try clear hi)
  (try clear ho0)
  (try clear ho1)
  obtain ⟨dC, dz, dF⟩ := Kd.V_slice dn.out
  (first | subst dF | (injection dF with f1_ f2_ f3_; have f4_ := f1_.symm; have f5_ := f3_.symm; clear f1_ f2_ f3_; subst f4_; subst f5_))
  obtain ⟨dB, dy, dE⟩ := Kd.V_slice dm.out
  (first | subst dE | (injection dE with f1_ f2_ f3_; have f4_ := f1_.symm; have f5_ := f3_.symm; clear f1_ f2_ f3_; subst f4_; subst f5_))
  refine hK.out _ _ ⟨(blk_cell bf.out 0).trans rfl, (blk_cell bf.out 1).trans rfl, (blk_cell bf.out 2).trans rfl, (blk_cell bh.out 0).trans rfl, (blk_cell bh.out 1).trans rfl, (blk_cell bh.out 2).trans rfl, ((HB.out.cell (World.block_lt_of_cell? w _ bJ)).trans bJ), ((HB.out.cell (World.block_lt_of_cell? w _ bI)).trans bI), ((HB.out.cell (World.block_lt_of_cell? w _ bH)).trans bH), ((HB.out.cell (World.block_lt_of_cell? w _ bG)).trans bG)⟩ (fun hHeld => ?_)
  clear hK K
  refine na_ 21 ?_
  refine pp_ 7 (some 14) HT_.out ?_
  refine pp_ 8 (some 22) HT_.out ?_
  refine pp_ 9 (some 23) HT_.out ?_
  refine pp_ 10 (some 24) HT_.out ?_
  refine last_ (i := 11) (N := none) #[Tt,Tt,Tt,Tt,Tt,Tt,Tt,Tt,Tt,Tt,Tt,Tt,Ff] rfl rfl (one_of HT_.out (by kernel_rfl)) (by decide) (fun K hK => ?_)
  have gY : w22.cell? ⟨ba, 0, none⟩ = some (.int .u64 be) := (blk_cell bf.out 0).trans rfl
  have gH := blk_frozen bf.out 0
  have dX := bq.out
  have dW := bm.out
  have d9 := bx.out
  have d8 := bl.out
  have gX : w22.cell? ⟨ba, 1, none⟩ = some (.int .u64 bd) := (blk_cell bf.out 1).trans rfl
  have gG := blk_frozen bf.out 1
  have dV := bq.out
  have dU := bm.out
  have d7 := bx.out
  have d6 := bl.out
  have gW : w22.cell? ⟨ba, 2, none⟩ = some (.slice bX bc.length bV) := (blk_cell bf.out 2).trans rfl
  have gF := blk_frozen bf.out 2
  have dT := bq.out
  have dS := bm.out
  have d5 := bx.out
  have d4 := bl.out
  refine skip_ (w1 := ?_) (by rfl) rfl ?_ ?_
  rotate_left
  ·go_simp
   rfl
  refine hK.out _ _ ?_
  clear hK K
  refine last_ (i := 12) (N := none) #[Tt,Tt,Tt,Tt,Tt,Tt,Tt,Tt,Tt,Tt,Tt,Tt,Tt] rfl rfl (one_of HT_.out (by kernel_rfl)) (by decide) (fun K hK => ?_)
  have gV : w22.cell? ⟨bb, 0, none⟩ = some (.int .u64 bk) := (blk_cell bh.out 0).trans rfl
  have gE := blk_frozen bh.out 0
  have dR := bp.out
  have dQ := bl.out
  have d3 := bw.out
  have d2 := bm.out
  have gU : w22.cell? ⟨bb, 1, none⟩ = some (.int .u64 bi) := (blk_cell bh.out 1).trans rfl
  have gD := blk_frozen bh.out 1
  have dP := bp.out
  have dO := bl.out
  have d1 := bw.out
  have d0 := bm.out
  have gT : w22.cell? ⟨bb, 2, none⟩ = some (.slice bW bg.length bU) := (blk_cell bh.out 2).trans rfl
  have gC := blk_frozen bh.out 2
  have dN := bp.out
  have dM := bl.out
  have dZ := bw.out
  have dY := bm.out
  refine skip_ (w1 := ?_) (by rfl) rfl ?_ ?_
  rotate_left
  ·go_simp
   rfl
  refine hK.out _ _ ?_
  clear hK K
  refine done_ (done_of HT_.out (by kernel_rfl)) ?_
  try go_wp2
  go_roundg k1
  case measure => have := HK1.out; omega
  case rel => exact ⟨(wrap64 (bo + 1)), (b0), (da), (b9), (bZ), (b8), (b7), (.slice dC b9.length dz), (.slice dB b7.length dy), (by first | rfl | (simp; done) | (simp [*]; done)), H', ⟨by have := HK1.out; omega⟩, ⟨by (with_reducible repeat (first | apply Kd.V_alloc | apply Kd.V_drewN | apply Kd.V_drew)); exact Kd.V_mono (Kd.V_far (p := ⟨bb, 2, none⟩) (Kd.V_far (p := ⟨bb, 1, none⟩) (Kd.V_far (p := ⟨bb, 0, none⟩) (Kd.V_far (p := ⟨ba, 2, none⟩) (Kd.V_far (p := ⟨ba, 1, none⟩) (Kd.V_far (p := ⟨ba, 0, none⟩) (Kd.V_mono (Kd.V_mono dn.out (fun k_ hk => (⟨hk, hk.2.2.1⟩ : _ ∧ k_ ≠ ba))) (fun k_ hk => (⟨hk, hk.1.2.2.2⟩ : _ ∧ k_ ≠ bb))) (fun _ hk => hk.1.2) (.int .u64 b0)) (fun _ hk => hk.1.2) (.int .u64 da)) (fun _ hk => hk.1.2) (.slice dC b9.length dz)) (fun _ hk => hk.2) (.int .u64 bZ)) (fun _ hk => hk.2) (.int .u64 b8)) (fun _ hk => hk.2) (.slice dB b7.length dy)) (fun _ hk => ⟨hk.1.1.1, ⟨hk.1.1.2.1, ⟨hk.1.1.2.2.1, hk.1.1.2.2.2⟩⟩⟩)⟩, ⟨by (with_reducible repeat (first | apply Kd.V_alloc | apply Kd.V_drewN | apply Kd.V_drew)); exact Kd.V_mono (Kd.V_far (p := ⟨bb, 2, none⟩) (Kd.V_far (p := ⟨bb, 1, none⟩) (Kd.V_far (p := ⟨bb, 0, none⟩) (Kd.V_far (p := ⟨ba, 2, none⟩) (Kd.V_far (p := ⟨ba, 1, none⟩) (Kd.V_far (p := ⟨ba, 0, none⟩) (Kd.V_mono (Kd.V_mono dm.out (fun k_ hk => (⟨hk, hk.2.2.1⟩ : _ ∧ k_ ≠ ba))) (fun k_ hk => (⟨hk, hk.1.2.2.2⟩ : _ ∧ k_ ≠ bb))) (fun _ hk => hk.1.2) (.int .u64 b0)) (fun _ hk => hk.1.2) (.int .u64 da)) (fun _ hk => hk.1.2) (.slice dC b9.length dz)) (fun _ hk => hk.2) (.int .u64 bZ)) (fun _ hk => hk.2) (.int .u64 b8)) (fun _ hk => hk.2) (.slice dB b7.length dy)) (fun _ hk => ⟨hk.1.1.1, ⟨hk.1.1.2.1, ⟨hk.1.1.2.2.1, hk.1.1.2.2.2⟩⟩⟩)⟩, ⟨by (iterate 3 ((with_reducible repeat (first | refine blk_drewN ?_ _ | refine blk_drew ?_ | refine blk_alloc ?_ _)); refine blk_far ?_ bp.out _)); (iterate 3 ((with_reducible repeat (first | refine blk_drewN ?_ _ | refine blk_drew ?_ | refine blk_alloc ?_ _)); refine blk_far ?_ bq.out _)); (with_reducible repeat (first | refine blk_drewN ?_ _ | refine blk_drew ?_ | refine blk_alloc ?_ _)); exact bu.out⟩, ⟨by (iterate 3 ((with_reducible repeat (first | refine blk_drewN ?_ _ | refine blk_drew ?_ | refine blk_alloc ?_ _)); refine blk_far ?_ bl.out _)); (with_reducible repeat (first | refine blk_drewN ?_ _ | refine blk_drew ?_ | refine blk_alloc ?_ _)); refine blk_put (cs := #[.int .u64 b0, .int .u64 da, .slice bX bc.length bV]) ?_ 2 _ rfl; (with_reducible repeat (first | refine blk_drewN ?_ _ | refine blk_drew ?_ | refine blk_alloc ?_ _)); refine blk_put (cs := #[.int .u64 b0, .int .u64 bd, .slice bX bc.length bV]) ?_ 1 _ rfl; (with_reducible repeat (first | refine blk_drewN ?_ _ | refine blk_drew ?_ | refine blk_alloc ?_ _)); refine blk_put (cs := #[.int .u64 be, .int .u64 bd, .slice bX bc.length bV]) ?_ 0 _ rfl; (with_reducible repeat (first | refine blk_drewN ?_ _ | refine blk_drew ?_ | refine blk_alloc ?_ _)); exact bf.out⟩, ⟨by (with_reducible repeat (first | refine blk_drewN ?_ _ | refine blk_drew ?_ | refine blk_alloc ?_ _)); refine blk_put (cs := #[.int .u64 bZ, .int .u64 b8, .slice bW bg.length bU]) ?_ 2 _ rfl; (with_reducible repeat (first | refine blk_drewN ?_ _ | refine blk_drew ?_ | refine blk_alloc ?_ _)); refine blk_put (cs := #[.int .u64 bZ, .int .u64 bi, .slice bW bg.length bU]) ?_ 1 _ rfl; (with_reducible repeat (first | refine blk_drewN ?_ _ | refine blk_drew ?_ | refine blk_alloc ?_ _)); refine blk_put (cs := #[.int .u64 bk, .int .u64 bi, .slice bW bg.length bU]) ?_ 0 _ rfl; (iterate 3 ((with_reducible repeat (first | refine blk_drewN ?_ _ | refine blk_drew ?_ | refine blk_alloc ?_ _)); refine blk_far ?_ bm.out _)); (with_reducible repeat (first | refine blk_drewN ?_ _ | refine blk_drew ?_ | refine blk_alloc ?_ _)); exact bh.out⟩, ⟨by repeat (first | (with_reducible first | exact HB.out | apply below_alloc | apply pw_below_drewN | apply below_drew1 | refine below_set ?_ bQ.out | refine below_set ?_ bY.out | refine below_set ?_ b6.out) | exact HB.out)⟩⟩
end Go.Proofs.YthhmpjapnkilcaaDoor.XLdg
end
section
/- What the functions of the translation answer, each as a plain Lean function, and that the code comes to it; for a law: its row. Conditions: none but those that each theorem names. Written by a program of this session (wip/xp). -/
namespace Go.Proofs.YthhmpjapnkilcaaDoor.XLdg
open Go.RowKit Go.Proofs.YthhmpjapnkilcaaDoorW.PrintWords Go.Proofs.YthhmpjapnkilcaaDoorW.PrintLast Go.Proofs.YthhmpjapnkilcaaDoorW.PrintMore
attribute [local go_sem] max2_int min2_int max_two min_two max_three min_three max_four min_four   -- for this text's walks alone
theorem cx31_bc3 {w : World} {g : Nat} {t : TypeId} {x0 x1 x2 : Value} (h : w.heap[g]? = some (.cells #[x0, x1, x2] t (0, 0))) : w.cell? ⟨g, 0, none⟩ = some x0 ∧ w.cell? ⟨g, 1, none⟩ = some x1 ∧ w.cell? ⟨g, 2, none⟩ = some x2 ∧ w.frozen? ⟨g, 0, none⟩ = false ∧ w.frozen? ⟨g, 1, none⟩ = false ∧ w.frozen? ⟨g, 2, none⟩ = false :=
 ⟨(blk_cell h 0).trans rfl, (blk_cell h 1).trans rfl, (blk_cell h 2).trans rfl, blk_frozen h 0, blk_frozen h 1, blk_frozen h 2⟩
theorem cx31_bc7 {w : World} {g : Nat} {t : TypeId} {x0 x1 x2 x3 x4 x5 x6 : Value} (h : w.heap[g]? = some (.cells #[x0, x1, x2, x3, x4, x5, x6] t (0, 0))) : w.cell? ⟨g, 0, none⟩ = some x0 ∧ w.cell? ⟨g, 1, none⟩ = some x1 ∧ w.cell? ⟨g, 2, none⟩ = some x2 ∧ w.cell? ⟨g, 3, none⟩ = some x3 ∧ w.cell? ⟨g, 4, none⟩ = some x4 ∧ w.cell? ⟨g, 5, none⟩ = some x5 ∧ w.cell? ⟨g, 6, none⟩ = some x6 ∧ w.frozen? ⟨g, 0, none⟩ = false ∧ w.frozen? ⟨g, 1, none⟩ = false ∧ w.frozen? ⟨g, 2, none⟩ = false ∧ w.frozen? ⟨g, 3, none⟩ = false ∧ w.frozen? ⟨g, 4, none⟩ = false ∧ w.frozen? ⟨g, 5, none⟩ = false ∧ w.frozen? ⟨g, 6, none⟩ = false :=
 ⟨(blk_cell h 0).trans rfl, (blk_cell h 1).trans rfl, (blk_cell h 2).trans rfl, (blk_cell h 3).trans rfl, (blk_cell h 4).trans rfl, (blk_cell h 5).trans rfl, (blk_cell h 6).trans rfl, blk_frozen h 0, blk_frozen h 1, blk_frozen h 2, blk_frozen h 3, blk_frozen h 4, blk_frozen h 5, blk_frozen h 6⟩
theorem zx31_5 {p : Prop} (h : p := by first | rfl | (simp; done) | (simp [*]; done)) : p := h
theorem zx31_7 {p : Prop} (h : p := by first | (with_reducible assumption) | assumption) : p := h
theorem zx31_0 {p : Prop} (h : p := by (with_reducible repeat (first | refine blk_drewN ?_ _ | refine blk_drew ?_ | refine blk_alloc ?_ _)); exact ba.out) : p := h
theorem zx31_3 {p : Prop} (h : p := by (with_reducible repeat (first | refine blk_drewN ?_ _ | refine blk_drew ?_ | refine blk_alloc ?_ _)); exact bk.out) : p := h
theorem zx31_6 {p : Prop} (h : p := by repeat (first | (with_reducible first | exact HB.out | apply below_alloc | apply pw_below_drewN | apply below_drew1) | exact HB.out)) : p := h
theorem zx31_2 {p : Prop} (h : p := by (try simp only [List.map_toArray, List.map_cons, List.map_nil]); first | done | rfl | (simp only [List.length_drop, List.length_take]; rfl)) : p := h
theorem zx31_4 {p : Prop} (h : p := by repeat (first | (with_reducible first | exact HB.out | apply below_alloc | apply pw_below_drewN | apply below_drew1 | refine below_set ?_ bw.out) | exact HB.out)) : p := h
theorem zx31_1 {p : Prop} (h : p := by repeat (first | (with_reducible first | exact HB.out | apply below_alloc | apply pw_below_drewN | apply below_drew1 | refine below_set ?_ bw.out | refine below_set ?_ bz.out) | exact HB.out)) : p := h
set_option linter.unusedVariables false
set_option linter.unusedSimpArgs false

/-! ### ledger_Dest_right: function 38 -/
mutual
def ledger_Dest_right.j0 : Nat → Bool → ByteArray → Int → Int → List Int → Int → Int → Int → Int → Int → List (S37) → Option (Bool)
 | 0, _, _, _, _, _, _, _, _, _, _, _ => none
 | k + 1, x32, bO, bA, bu, br, bH, bG, bE, bI, bD, bN => if x32 = true then (some false) else (ledger_Dest_right.l0 k bu br (br.length : Int) 0 bO bA bu br bH bG bE bI bD bN)
def ledger_Dest_right.l0 : Nat → Int → List Int → Int → Int → ByteArray → Int → Int → List Int → Int → Int → Int → Int → Int → List (S37) → Option (Bool)
 | 0, _, _, _, _, _, _, _, _, _, _, _, _, _, _ => none
 | k + 1, x5, x36, x37, x38, bO, bA, bu, br, bH, bG, bE, bI, bD, bN => if x38 < x37 then (if 0 ≤ x38 then (if x38 < (x36.length : Int) then (if (rd x36 x38) ≤ x5 then (some false) else (if (rd x36 x38) ≥ bD then (some false) else (ledger_Dest_right.l0 k (rd x36 x38) x36 x37 (wrap64 (x38 + 1)) bO bA bu br bH bG bE bI bD bN))) else (none)) else (none)) else (if (IntKind.u64.wrap ((IntKind.u64.wrap (bD - bA)) - (IntKind.u64.wrap ((IntKind.u64.wrap (bu - bA)) + (IntKind.u64.wrap ((br.length : Int))))))) = 0 then (some ((IntKind.u64.wrap ((IntKind.u64.wrap (bH + bG)) + bE)) == (IntKind.u64.wrap ((IntKind.u64.wrap (bu - bA)) + (IntKind.u64.wrap ((br.length : Int))))))) else (if bu ≥ bI then (some ((IntKind.u64.wrap ((IntKind.u64.wrap (bH + bG)) + bE)) == (IntKind.u64.wrap ((IntKind.u64.wrap (bu - bA)) + (IntKind.u64.wrap ((br.length : Int))))))) else (some false)))
end
def ledger_Dest_right.f (k : Nat) (bf : ByteArray) (bc : Int) (bd : Int) (bb : List Int) (bn : Int) (bm : Int) (bl : Int) (bp : Int) (bg : Int) (bo : List (S37)) : Option (Bool) := (label_Name.f bf).bind fun gC => (if gC = true then (if bc < 1 then (ledger_Dest_right.j0 k true bf bc bd bb bn bm bl bp bg bo) else (if bd < bc then (ledger_Dest_right.j0 k true bf bc bd bb bn bm bl bp bg bo) else (ledger_Dest_right.j0 k (decide (bg < bd)) bf bc bd bb bn bm bl bp bg bo))) else (ledger_Dest_right.j0 k true bf bc bd bb bn bm bl bp bg bo))
set_option maxHeartbeats 8000000 in
set_option maxRecDepth 100000 in
theorem ledger_Dest_right.calls (k : Nat) (bf : ByteArray) (bc : Int) (bd : Int) (bC : Option Addr) (bB : Nat) (bb : List Int) (bn : Int) (bm : Int) (bl : Int) (bp : Int) (bg : Int) (bM : Option Addr) (bL : Nat) (bo : List (S37)) (r : Bool) (w : World) (gV : Kd.C (Kd.int .u64) w bC bb.length bb) (gX : bb.length ≤ bB) (gU : Kd.C k37 w bM bo.length bo) (gW : bo.length ≤ bL) (h : ledger_Dest_right.f k bf bc bd bb bn bm bl bp bg bo = some r) :
  Calls Tryd.prog 38 #[.agg #[.string bf, .int .u64 bc, .int .u64 bd, .slice bC bb.length bB, .int .u64 bn, .int .u64 bm, .int .u64 bl], .agg #[.int .u64 bp, .int .u64 bg, .slice bM bo.length bL]] w fun e w' => e = .returned (.bool r) ∧ Below w.heap.size w w' := by
 have j6 := Tryd.underlying37
 have j7 := Tryd.underlying27
 have gF := Aside0.mk gV
 have j3 := Aside0.mk gX
 clear gV gX
 have jZ := Aside0.mk gU
 have j2 := Aside0.mk gW
 clear gU gW
 have HB := Aside0.mk (Below.refl w.heap.size w)
 have H : ((label_Name.f bf).bind fun gC => (if gC = true then (if bc < 1 then (ledger_Dest_right.j0 k true bf bc bd bb bn bm bl bp bg bo) else (if bd < bc then (ledger_Dest_right.j0 k true bf bc bd bb bn bm bl bp bg bo) else (ledger_Dest_right.j0 k (decide (bg < bd)) bf bc bd bb bn bm bl bp bg bo))) else (ledger_Dest_right.j0 k true bf bc bd bb bn bm bl bp bg bo))) = some r := h
 clear h
 have HC3 := Aside0.mk H
 clear H
 go_enter Tryd.func38, Tryd.ntmps38
 go_upto_region 1 with (first | ((with_reducible refine gate_dst (N := 2) rfl ?_); refine box_event ?hg (N := 2) ?hd (cs := #[.string bf, .int .u64 bc, .int .u64 bd, .slice bC bb.length bB, .int .u64 bn, .int .u64 bm, .int .u64 bl]) (t := 37) ?hr ?_; (case hd => rfl); (case hg => rfl); (case hr => first | (go_simp; done) | (go_simp; rfl)); intro be hg w4 hbox hb; have ba := Aside0.mk (hbox); have j5 := Aside0.mk ((by rw [hg]; exact (below_size zx31_6) : w.heap.size ≤ be)); have bw := Aside0.mk ((by rw [hg]; exact (below_size zx31_6) : w.heap.size ≤ be)); replace HB := Aside0.mk (below_step zx31_6 hb); clear hb hbox hg) | ((with_reducible refine gate_dst (N := 3) rfl ?_); refine box_event ?hg (N := 3) ?hd (cs := #[.int .u64 bp, .int .u64 bg, .slice bM bo.length bL]) (t := 27) ?hr ?_; (case hd => rfl); (case hg => rfl); (case hr => first | (go_simp; done) | (go_simp; rfl)); intro bx hg w5 hbox hb; have bk := Aside0.mk (hbox); have j4 := Aside0.mk ((by rw [hg]; exact (below_size zx31_4) : w.heap.size ≤ bx)); have bz := Aside0.mk ((by rw [hg]; exact (below_size zx31_4) : w.heap.size ≤ bx)); replace HB := Aside0.mk (below_step zx31_4 hb); have bj := Aside0.mk ((by rw [hg]; exact Nat.ne_of_lt (blk_lt (g := be) (o := .cells #[.string bf, .int .u64 bc, .int .u64 bd, .slice bC bb.length bB, .int .u64 bn, .int .u64 bm, .int .u64 bl] 37 (0, 0)) zx31_0) : be ≠ bx)); have bi := Aside0.mk ((by rw [hg]; exact Nat.ne_of_gt (blk_lt (g := be) (o := .cells #[.string bf, .int .u64 bc, .int .u64 bd, .slice bC bb.length bB, .int .u64 bn, .int .u64 bm, .int .u64 bl] 37 (0, 0)) zx31_0) : bx ≠ be)); replace ba := Aside0.mk (blk_below (g := be) (o := .cells #[.string bf, .int .u64 bc, .int .u64 bd, .slice bC bb.length bB, .int .u64 bn, .int .u64 bm, .int .u64 bl] 37 (0, 0)) zx31_0 hb); clear hb hbox hg))
 (try simp only [Act.put, List.setIfInBounds_toArray, List.set_cons_zero, List.set_cons_succ])
 go_cut [32] (fun v32 wc => ∃ (kq : Nat) (bQ : Bool), v32 = .bool bQ ∧ Aside0 (ledger_Dest_right.j0 kq bQ bf bc bd bb bn bm bl bp bg bo = some r) ∧ Aside0 (kq ≤ k) ∧ Aside0 (wc.heap[be]? = some (.cells #[.string bf, .int .u64 bc, .int .u64 bd, (.slice bC bb.length bB), .int .u64 bn, .int .u64 bm, .int .u64 bl] 37 (0, 0))) ∧ Aside0 (wc.heap[bx]? = some (.cells #[.int .u64 bp, .int .u64 bg, (.slice bM bo.length bL)] 27 (0, 0))) ∧ Aside0 (Below w.heap.size w wc))
 case first =>
  have H := HC3.out
  clear HC3
  replace H := Option.bind_eq_some_iff.mp H
  obtain ⟨gC, A60, H⟩ := H
  replace H : (if gC = true then (if bc < 1 then (ledger_Dest_right.j0 k true bf bc bd bb bn bm bl bp bg bo) else (if bd < bc then (ledger_Dest_right.j0 k true bf bc bd bb bn bm bl bp bg bo) else (ledger_Dest_right.j0 k (decide (bg < bd)) bf bc bd bb bn bm bl bp bg bo))) else (ledger_Dest_right.j0 k true bf bc bd bb bn bm bl bp bg bo)) = some r := H
  have A6 := Aside0.mk A60
  clear A60
  by_cases c7 : gC = true
  case neg =>
   replace c7 := Bool.eq_false_iff.mpr c7
   subst c7
   have H1 : (ledger_Dest_right.j0 k true bf bc bd bb bn bm bl bp bg bo) = some r := by rw [if_neg (show ¬ (false = true) by decide)] at H; exact H
   clear H
   have H := H1
   clear H1
   have H' := Aside0.mk H
   clear H
   have jU := bj.out
   have jL := bi.out
   obtain ⟨dP, dO, dN, dM, dL, dK, dJ, bY, bX, bW, bV, bU, bS, bR⟩ := cx31_bc7 ba.out
   go_wp2_with (first | ((with_reducible refine gate_callee (f := 34) rfl ?_); refine goesL_ (some 12) rfl rfl Tryd.func34 (by kernel_rfl) rfl #[.string bf] rfl zx31_2 ?_; (with_reducible refine (label_Name.calls bf false _ A6.out).mono ?_); rintro e w25 ⟨rfl, hb⟩; refine ⟨_, rfl, ?_⟩; replace ba := Aside0.mk (blk_below (g := be) (o := .cells #[.string bf, .int .u64 bc, .int .u64 bd, .slice bC bb.length bB, .int .u64 bn, .int .u64 bm, .int .u64 bl] 37 (0, 0)) zx31_0 hb); replace bk := Aside0.mk (blk_below (g := bx) (o := .cells #[.int .u64 bp, .int .u64 bg, .slice bM bo.length bL] 27 (0, 0)) zx31_3 hb); replace HB := Aside0.mk (below_step zx31_1 hb); (try clear hb); (try clear hb2); (try clear hk); (try clear hi)))
   go_meet
   case rel => exact ⟨_, (true), zx31_5, H', ⟨by first | omega | exact Nat.le_refl _⟩, ⟨by (with_reducible repeat (first | refine blk_drewN ?_ _ | refine blk_drew ?_ | refine blk_alloc ?_ _)); exact ba.out⟩, ⟨by (with_reducible repeat (first | refine blk_drewN ?_ _ | refine blk_drew ?_ | refine blk_alloc ?_ _)); exact bk.out⟩, ⟨by repeat (first | (with_reducible first | exact HB.out | apply below_alloc | apply pw_below_drewN | apply below_drew1 | refine below_set ?_ bw.out | refine below_set ?_ bz.out) | exact HB.out)⟩⟩
  subst c7
  have H1 : (if bc < 1 then (ledger_Dest_right.j0 k true bf bc bd bb bn bm bl bp bg bo) else (if bd < bc then (ledger_Dest_right.j0 k true bf bc bd bb bn bm bl bp bg bo) else (ledger_Dest_right.j0 k (decide (bg < bd)) bf bc bd bb bn bm bl bp bg bo))) = some r := by rw [if_pos rfl] at H; exact H
  clear H
  have H := H1
  clear H1
  by_cases c8 : bc < 1
  ·rw [if_pos c8] at H
   have bP : decide (bc < 1) = true := decide_eq_true c8
   clear c8
   (first | rw [bP] | (simp only [i64_w, i32_w]; rw [bP]) | skip)
   have H' := Aside0.mk H
   clear H
   have j9 := bj.out
   have j8 := bi.out
   obtain ⟨gA, gz, gy, gx, gw, gv, gu, dI, dH, dG, dF, dE, dD, dC⟩ := cx31_bc7 ba.out
   go_wp2_with (first | ((with_reducible refine gate_callee (f := 34) rfl ?_); refine goesL_ (some 12) rfl rfl Tryd.func34 (by kernel_rfl) rfl #[.string bf] rfl zx31_2 ?_; (with_reducible refine (label_Name.calls bf true _ A6.out).mono ?_); rintro e w11 ⟨rfl, hb⟩; refine ⟨_, rfl, ?_⟩; replace ba := Aside0.mk (blk_below (g := be) (o := .cells #[.string bf, .int .u64 bc, .int .u64 bd, .slice bC bb.length bB, .int .u64 bn, .int .u64 bm, .int .u64 bl] 37 (0, 0)) zx31_0 hb); replace bk := Aside0.mk (blk_below (g := bx) (o := .cells #[.int .u64 bp, .int .u64 bg, .slice bM bo.length bL] 27 (0, 0)) zx31_3 hb); replace HB := Aside0.mk (below_step zx31_1 hb); (try clear hb); (try clear hb2); (try clear hk); (try clear hi); have gt : w11.cell? ⟨be, 0, none⟩ = some (.string bf) := (blk_cell ba.out 0).trans rfl; have gs : w11.cell? ⟨be, 1, none⟩ = some (.int .u64 bc) := (blk_cell ba.out 1).trans rfl; have gr : w11.cell? ⟨be, 2, none⟩ = some (.int .u64 bd) := (blk_cell ba.out 2).trans rfl; have gq : w11.cell? ⟨be, 3, none⟩ = some (.slice bC bb.length bB) := (blk_cell ba.out 3).trans rfl; have gp : w11.cell? ⟨be, 4, none⟩ = some (.int .u64 bn) := (blk_cell ba.out 4).trans rfl; have go : w11.cell? ⟨be, 5, none⟩ = some (.int .u64 bm) := (blk_cell ba.out 5).trans rfl; have gn : w11.cell? ⟨be, 6, none⟩ = some (.int .u64 bl) := (blk_cell ba.out 6).trans rfl; have dB := blk_frozen ba.out 0; have dA := blk_frozen ba.out 1; have dz := blk_frozen ba.out 2; have dy := blk_frozen ba.out 3; have dx := blk_frozen ba.out 4; have dw := blk_frozen ba.out 5; have dv := blk_frozen ba.out 6))
   go_meet
   case rel => exact ⟨_, (true), zx31_5, H', ⟨by first | omega | exact Nat.le_refl _⟩, ⟨by (with_reducible repeat (first | refine blk_drewN ?_ _ | refine blk_drew ?_ | refine blk_alloc ?_ _)); exact ba.out⟩, ⟨by (with_reducible repeat (first | refine blk_drewN ?_ _ | refine blk_drew ?_ | refine blk_alloc ?_ _)); exact bk.out⟩, ⟨by repeat (first | (with_reducible first | exact HB.out | apply below_alloc | apply pw_below_drewN | apply below_drew1 | refine below_set ?_ bw.out | refine below_set ?_ bz.out) | exact HB.out)⟩⟩
  rw [if_neg c8] at H
  have bP : decide (bc < 1) = false := decide_eq_false c8
  clear c8
  (first | rw [bP] | (simp only [i64_w, i32_w]; rw [bP]) | skip)
  by_cases c13 : bd < bc
  ·rw [if_pos c13] at H
   have gE : decide (bd < bc) = true := decide_eq_true c13
   clear c13
   have H' := Aside0.mk H
   clear H
   have jW := bj.out
   have jN := bi.out
   obtain ⟨gm, gl, gj, gi, gh, gg, gf, du, dt, ds, dr, dq, dp, dn⟩ := cx31_bc7 ba.out
   go_wp2_with (first | ((with_reducible refine gate_callee (f := 34) rfl ?_); refine goesL_ (some 12) rfl rfl Tryd.func34 (by kernel_rfl) rfl #[.string bf] rfl zx31_2 ?_; (with_reducible refine (label_Name.calls bf true _ A6.out).mono ?_); rintro e w16 ⟨rfl, hb⟩; refine ⟨_, rfl, ?_⟩; replace ba := Aside0.mk (blk_below (g := be) (o := .cells #[.string bf, .int .u64 bc, .int .u64 bd, .slice bC bb.length bB, .int .u64 bn, .int .u64 bm, .int .u64 bl] 37 (0, 0)) zx31_0 hb); replace bk := Aside0.mk (blk_below (g := bx) (o := .cells #[.int .u64 bp, .int .u64 bg, .slice bM bo.length bL] 27 (0, 0)) zx31_3 hb); replace HB := Aside0.mk (below_step zx31_1 hb); (try clear hb); (try clear hb2); (try clear hk); (try clear hi); have ge : w16.cell? ⟨be, 0, none⟩ = some (.string bf) := (blk_cell ba.out 0).trans rfl; have gc : w16.cell? ⟨be, 1, none⟩ = some (.int .u64 bc) := (blk_cell ba.out 1).trans rfl; have gb : w16.cell? ⟨be, 2, none⟩ = some (.int .u64 bd) := (blk_cell ba.out 2).trans rfl; have ga : w16.cell? ⟨be, 3, none⟩ = some (.slice bC bb.length bB) := (blk_cell ba.out 3).trans rfl; have d9 : w16.cell? ⟨be, 4, none⟩ = some (.int .u64 bn) := (blk_cell ba.out 4).trans rfl; have d8 : w16.cell? ⟨be, 5, none⟩ = some (.int .u64 bm) := (blk_cell ba.out 5).trans rfl; have d7 : w16.cell? ⟨be, 6, none⟩ = some (.int .u64 bl) := (blk_cell ba.out 6).trans rfl; have dm := blk_frozen ba.out 0; have dl := blk_frozen ba.out 1; have dk := blk_frozen ba.out 2; have dj := blk_frozen ba.out 3; have di := blk_frozen ba.out 4; have dh := blk_frozen ba.out 5; have dg := blk_frozen ba.out 6))
   go_meet
   case rel => exact ⟨_, (true), zx31_5, H', ⟨by first | omega | exact Nat.le_refl _⟩, ⟨by (with_reducible repeat (first | refine blk_drewN ?_ _ | refine blk_drew ?_ | refine blk_alloc ?_ _)); exact ba.out⟩, ⟨by (with_reducible repeat (first | refine blk_drewN ?_ _ | refine blk_drew ?_ | refine blk_alloc ?_ _)); exact bk.out⟩, ⟨by repeat (first | (with_reducible first | exact HB.out | apply below_alloc | apply pw_below_drewN | apply below_drew1 | refine below_set ?_ bw.out | refine below_set ?_ bz.out) | exact HB.out)⟩⟩
  rw [if_neg c13] at H
  have gE : decide (bd < bc) = false := decide_eq_false c13
  clear c13
  have H' := Aside0.mk H
  clear H
  have jV := bj.out
  have jM := bi.out
  obtain ⟨d6, d5, d4, d3, d2, d1, d0, df, de, dd, dc, db, da, b9⟩ := cx31_bc7 ba.out
  go_wp2_with (first | ((with_reducible refine gate_callee (f := 34) rfl ?_); refine goesL_ (some 12) rfl rfl Tryd.func34 (by kernel_rfl) rfl #[.string bf] rfl zx31_2 ?_; (with_reducible refine (label_Name.calls bf true _ A6.out).mono ?_); rintro e w20 ⟨rfl, hb⟩; refine ⟨_, rfl, ?_⟩; replace ba := Aside0.mk (blk_below (g := be) (o := .cells #[.string bf, .int .u64 bc, .int .u64 bd, .slice bC bb.length bB, .int .u64 bn, .int .u64 bm, .int .u64 bl] 37 (0, 0)) zx31_0 hb); replace bk := Aside0.mk (blk_below (g := bx) (o := .cells #[.int .u64 bp, .int .u64 bg, .slice bM bo.length bL] 27 (0, 0)) zx31_3 hb); replace HB := Aside0.mk (below_step zx31_1 hb); (try clear hb); (try clear hb2); (try clear hk); (try clear hi); have dZ : w20.cell? ⟨be, 0, none⟩ = some (.string bf) := (blk_cell ba.out 0).trans rfl; have dY : w20.cell? ⟨be, 1, none⟩ = some (.int .u64 bc) := (blk_cell ba.out 1).trans rfl; have dX : w20.cell? ⟨be, 2, none⟩ = some (.int .u64 bd) := (blk_cell ba.out 2).trans rfl; have dW : w20.cell? ⟨be, 3, none⟩ = some (.slice bC bb.length bB) := (blk_cell ba.out 3).trans rfl; have dV : w20.cell? ⟨be, 4, none⟩ = some (.int .u64 bn) := (blk_cell ba.out 4).trans rfl; have dU : w20.cell? ⟨be, 5, none⟩ = some (.int .u64 bm) := (blk_cell ba.out 5).trans rfl; have dT : w20.cell? ⟨be, 6, none⟩ = some (.int .u64 bl) := (blk_cell ba.out 6).trans rfl; have b8 := blk_frozen ba.out 0; have b7 := blk_frozen ba.out 1; have b6 := blk_frozen ba.out 2; have b5 := blk_frozen ba.out 3; have b4 := blk_frozen ba.out 4; have b3 := blk_frozen ba.out 5; have b2 := blk_frozen ba.out 6; have dS : w20.cell? ⟨bx, 0, none⟩ = some (.int .u64 bp) := (blk_cell bk.out 0).trans rfl; have dR : w20.cell? ⟨bx, 1, none⟩ = some (.int .u64 bg) := (blk_cell bk.out 1).trans rfl; have dQ : w20.cell? ⟨bx, 2, none⟩ = some (.slice bM bo.length bL) := (blk_cell bk.out 2).trans rfl; have b1 := blk_frozen bk.out 0; have b0 := blk_frozen bk.out 1; have bZ := blk_frozen bk.out 2))
  go_meet
  case rel => exact ⟨_, (decide (bg < bd)), zx31_5, H', ⟨by first | omega | exact Nat.le_refl _⟩, ⟨by (with_reducible repeat (first | refine blk_drewN ?_ _ | refine blk_drew ?_ | refine blk_alloc ?_ _)); exact ba.out⟩, ⟨by (with_reducible repeat (first | refine blk_drewN ?_ _ | refine blk_drew ?_ | refine blk_alloc ?_ _)); exact bk.out⟩, ⟨by repeat (first | (with_reducible first | exact HB.out | apply below_alloc | apply pw_below_drewN | apply below_drew1 | refine below_set ?_ bw.out | refine below_set ?_ bz.out) | exact HB.out)⟩⟩
 case rest =>
  clear HC3
  (try clear c1); (try clear c2); (try clear p2); (try clear c3); (try clear c7); (try clear c8); (try clear bP); (try clear c9); (try clear c13); (try clear gE); (try clear c14); (try clear c18); (try clear c23); (try clear gA); (try clear gz); (try clear gy); (try clear gx); (try clear gw); (try clear gv); (try clear gu); (try clear gt); (try clear gs); (try clear gr); (try clear gq); (try clear gp); (try clear go); (try clear gn); (try clear gm); (try clear gl); (try clear gj); (try clear gi); (try clear gh); (try clear gg); (try clear gf); (try clear ge); (try clear gc); (try clear gb); (try clear ga); (try clear d9); (try clear d8); (try clear d7); (try clear d6); (try clear d5); (try clear d4); (try clear d3); (try clear d2); (try clear d1); (try clear d0); (try clear dZ); (try clear dY); (try clear dX); (try clear dW); (try clear dV); (try clear dU); (try clear dT); (try clear dS); (try clear dR); (try clear dQ); (try clear dP); (try clear dO); (try clear dN); (try clear dM); (try clear dL); (try clear dK); (try clear dJ); (try clear dI); (try clear dH); (try clear dG); (try clear dF); (try clear dE); (try clear dD); (try clear dC); (try clear dB); (try clear dA); (try clear dz); (try clear dy); (try clear dx); (try clear dw); (try clear dv); (try clear du); (try clear dt); (try clear ds); (try clear dr); (try clear dq); (try clear dp); (try clear dn); (try clear dm); (try clear dl); (try clear dk); (try clear dj); (try clear di); (try clear dh); (try clear dg); (try clear df); (try clear de); (try clear dd); (try clear dc); (try clear db); (try clear da); (try clear b9); (try clear b8); (try clear b7); (try clear b6); (try clear b5); (try clear b4); (try clear b3); (try clear b2); (try clear b1); (try clear b0); (try clear bZ); (try clear bY); (try clear bX); (try clear bW); (try clear bV); (try clear bU); (try clear bS); (try clear bR)
  obtain ⟨kq, bQ, rfl, HA, HJ2, ba, bk, HB⟩ := hcut
  cases kq with
  | zero => exact absurd HA.out (by simp [ledger_Dest_right.j0])
  | succ kj2 => ?_
  have H := HA.out
  clear HA
  simp only [ledger_Dest_right.j0] at H
  by_cases c26 : bQ = true
  ·subst c26
   have H1 : (some false) = some r := by rw [if_pos rfl] at H; exact H
   clear H
   have H := H1
   clear H1
   obtain rfl := Option.some.inj H
   go_wp2
   go_ret
   exact ⟨by first | rfl | (simp [errW_none, errW_some] <;> rfl) | (simp [*, errW_none, errW_some] <;> rfl), by repeat (first | (with_reducible first | exact HB.out | apply below_alloc | apply pw_below_drewN | apply below_drew1 | refine below_set ?_ bw.out | refine below_set ?_ bz.out) | exact HB.out)⟩
  replace c26 := Bool.eq_false_iff.mpr c26
  subst c26
  have H1 : (ledger_Dest_right.l0 kj2 bd bb (bb.length : Int) 0 bf bc bd bb bn bm bl bp bg bo) = some r := by rw [if_neg (show ¬ (false = true) by decide)] at H; exact H
  clear H
  have H := H1
  clear H1
  have H' := Aside0.mk H
  clear H
  have jT := bj.out
  have jK := bi.out
  obtain ⟨gT, gS, gR, gQ, gP, gO, gN, gM, gL, gK, gJ, gI, gH, gG⟩ := cx31_bc7 ba.out
  go_wp2
  go_loopg [5, 38] kj2 (fun kq v5 v38 w' => ∃ (gB : Int) (bh : Int), v5 = .int .u64 gB ∧ v38 = .int .i64 bh ∧ Aside0 (ledger_Dest_right.l0 kq gB bb (bb.length : Int) bh bf bc bd bb bn bm bl bp bg bo = some r) ∧ Aside0 (kq ≤ kj2) ∧ Aside0 (w'.heap[be]? = some (.cells #[.string bf, .int .u64 bc, .int .u64 bd, (.slice bC bb.length bB), .int .u64 bn, .int .u64 bm, .int .u64 bl] 37 (0, 0))) ∧ Aside0 (w'.heap[bx]? = some (.cells #[.int .u64 bp, .int .u64 bg, (.slice bM bo.length bL)] 27 (0, 0))) ∧ Aside0 (Below w.heap.size w w'))
  case atStart => exact ⟨(bd), (0), zx31_5, zx31_5, H', ⟨Nat.le_refl _⟩, ⟨by (with_reducible repeat (first | refine blk_drewN ?_ _ | refine blk_drew ?_ | refine blk_alloc ?_ _)); exact ba.out⟩, ⟨by (with_reducible repeat (first | refine blk_drewN ?_ _ | refine blk_drew ?_ | refine blk_alloc ?_ _)); exact bk.out⟩, ⟨by repeat (first | (with_reducible first | exact HB.out | apply below_alloc | apply pw_below_drewN | apply below_drew1 | refine below_set ?_ bw.out | refine below_set ?_ bz.out) | exact HB.out)⟩⟩
  case round =>
   clear H'
   (try clear c1); (try clear c2); (try clear p2); (try clear c3); (try clear c7); (try clear c8); (try clear bP); (try clear c9); (try clear c13); (try clear gE); (try clear c14); (try clear c18); (try clear c23); (try clear c26); (try clear c27); (try clear gA); (try clear gz); (try clear gy); (try clear gx); (try clear gw); (try clear gv); (try clear gu); (try clear gt); (try clear gs); (try clear gr); (try clear gq); (try clear gp); (try clear go); (try clear gn); (try clear gm); (try clear gl); (try clear gj); (try clear gi); (try clear gh); (try clear gg); (try clear gf); (try clear ge); (try clear gc); (try clear gb); (try clear ga); (try clear d9); (try clear d8); (try clear d7); (try clear d6); (try clear d5); (try clear d4); (try clear d3); (try clear d2); (try clear d1); (try clear d0); (try clear dZ); (try clear dY); (try clear dX); (try clear dW); (try clear dV); (try clear dU); (try clear dT); (try clear dS); (try clear dR); (try clear dQ); (try clear dP); (try clear dO); (try clear dN); (try clear dM); (try clear dL); (try clear dK); (try clear dJ); (try clear gT); (try clear gS); (try clear gR); (try clear gQ); (try clear gP); (try clear gO); (try clear gN); (try clear dI); (try clear dH); (try clear dG); (try clear dF); (try clear dE); (try clear dD); (try clear dC); (try clear dB); (try clear dA); (try clear dz); (try clear dy); (try clear dx); (try clear dw); (try clear dv); (try clear du); (try clear dt); (try clear ds); (try clear dr); (try clear dq); (try clear dp); (try clear dn); (try clear dm); (try clear dl); (try clear dk); (try clear dj); (try clear di); (try clear dh); (try clear dg); (try clear df); (try clear de); (try clear dd); (try clear dc); (try clear db); (try clear da); (try clear b9); (try clear b8); (try clear b7); (try clear b6); (try clear b5); (try clear b4); (try clear b3); (try clear b2); (try clear b1); (try clear b0); (try clear bZ); (try clear bY); (try clear bX); (try clear bW); (try clear bV); (try clear bU); (try clear bS); (try clear bR); (try clear gM); (try clear gL); (try clear gK); (try clear gJ); (try clear gI); (try clear gH); (try clear gG); (try clear p2)
   obtain ⟨gB, bh, rfl, rfl, HA, HK2, ba, bk, HB⟩ := hrel
   cases gk with
   | zero => exact absurd HA.out (by simp [ledger_Dest_right.l0])
   | succ k2 => ?_
   have H := HA.out
   clear HA
   simp only [ledger_Dest_right.l0] at H
   by_cases c29 : bh < (bb.length : Int)
   case neg =>
    rw [if_neg c29] at H
    have hh : decide (bh < (bb.length : Int)) = false := decide_eq_false c29
    clear c29
    by_cases c38 : (IntKind.u64.wrap ((IntKind.u64.wrap (bg - bc)) - (IntKind.u64.wrap ((IntKind.u64.wrap (bd - bc)) + (IntKind.u64.wrap ((bb.length : Int))))))) = 0
    ·rw [if_pos c38] at H
     have hc : ((IntKind.u64.wrap ((IntKind.u64.wrap (bg - bc)) - (IntKind.u64.wrap ((IntKind.u64.wrap (bd - bc)) + (IntKind.u64.wrap ((bb.length : Int))))))) == 0) = true := beq_iff_eq.mpr c38
     have ha : ((IntKind.u64.wrap ((IntKind.u64.wrap (bg - bc)) - (IntKind.u64.wrap ((IntKind.u64.wrap (bd - bc)) + (IntKind.u64.wrap ((bb.length : Int))))))) != 0) = false := bne_eq_false_iff_eq.mpr c38
     clear c38
     obtain rfl := Option.some.inj H
     have jQ := bj.out
     have jH := bi.out
     obtain ⟨jy, jx, jw, jv, ju, jt, js, hO, hN, hM, hL, hK, hJ, hI⟩ := cx31_bc7 ba.out
     obtain ⟨jr, jq, jp, hH, hG, hF⟩ := cx31_bc3 bk.out
     go_wp2
     go_ret
     exact ⟨by first | rfl | (simp [errW_none, errW_some] <;> rfl) | (simp [*, errW_none, errW_some] <;> rfl), by repeat (first | (with_reducible first | exact HB.out | apply below_alloc | apply pw_below_drewN | apply below_drew1 | refine below_set ?_ bw.out | refine below_set ?_ bz.out) | exact HB.out)⟩
    rw [if_neg c38] at H
    have hc : ((IntKind.u64.wrap ((IntKind.u64.wrap (bg - bc)) - (IntKind.u64.wrap ((IntKind.u64.wrap (bd - bc)) + (IntKind.u64.wrap ((bb.length : Int))))))) == 0) = false := beq_eq_false_iff_ne.mpr c38
    have ha : ((IntKind.u64.wrap ((IntKind.u64.wrap (bg - bc)) - (IntKind.u64.wrap ((IntKind.u64.wrap (bd - bc)) + (IntKind.u64.wrap ((bb.length : Int))))))) != 0) = true := bne_iff_ne.mpr c38
    by_cases c42 : bd ≥ bp
    ·rw [if_pos c42] at H
     have gZ : decide (bp ≤ bd) = true := decide_eq_true c42
     clear c42
     obtain rfl := Option.some.inj H
     have jP := bj.out
     have jG := bi.out
     obtain ⟨jo, jn, jm, jl, jk, jj, ji, hE, hD, hC, hB, hA, hz, hy⟩ := cx31_bc7 ba.out
     obtain ⟨jh, jg, jf, hx, hw, hv⟩ := cx31_bc3 bk.out
     go_wp2
     go_ret
     exact ⟨by first | rfl | (simp [errW_none, errW_some] <;> rfl) | (simp [*, errW_none, errW_some] <;> rfl), by repeat (first | (with_reducible first | exact HB.out | apply below_alloc | apply pw_below_drewN | apply below_drew1 | refine below_set ?_ bw.out | refine below_set ?_ bz.out) | exact HB.out)⟩
    rw [if_neg c42] at H
    have gZ : decide (bp ≤ bd) = false := decide_eq_false c42
    clear c42
    obtain rfl := Option.some.inj H
    have jO := bj.out
    have jF := bi.out
    obtain ⟨je, jd, jc, jb, ja, hZ, hY, hu, ht, hs, hq, hp, ho, hn⟩ := cx31_bc7 ba.out
    obtain ⟨hX, hW, hV, hm, hl, hj⟩ := cx31_bc3 bk.out
    go_wp2
    go_ret
    exact ⟨by first | rfl | (simp [errW_none, errW_some] <;> rfl) | (simp [*, errW_none, errW_some] <;> rfl), by repeat (first | (with_reducible first | exact HB.out | apply below_alloc | apply pw_below_drewN | apply below_drew1 | refine below_set ?_ bw.out | refine below_set ?_ bz.out) | exact HB.out)⟩

   rw [if_pos c29] at H
   have hh : decide (bh < (bb.length : Int)) = true := decide_eq_true c29
   clear c29
   by_cases c30 : 0 ≤ bh
   case neg =>
    rw [if_neg c30] at H
    exact absurd H (by simp)
   rw [if_pos c30] at H
   have jY : decide (0 ≤ bh) = true := decide_eq_true c30
   clear c30
   by_cases c31 : bh < (bb.length : Int)
   case neg =>
    rw [if_neg c31] at H
    exact absurd H (by simp)
   rw [if_pos c31] at H
   have jX : decide (bh < (bb.length : Int)) = true := decide_eq_true c31
   clear c31
   by_cases c32 : (rd bb bh) ≤ gB
   ·rw [if_pos c32] at H
    have hf : decide ((rd bb bh) ≤ gB) = true := decide_eq_true c32
    clear c32
    obtain rfl := Option.some.inj H
    have bK : 0 ≤ (bh : Int) := of_decide_eq_true zx31_7
    have bJ : bh < (bb.length : Int) := of_decide_eq_true zx31_7
    obtain ⟨gY, gD, bq⟩ := Kd.at_int gF.out bh bK bJ
    cases gD
    replace bq := (HB.out.cell (World.block_lt_of_cell? w _ bq)).trans bq
    replace bK := eq_true bK
    replace bJ := eq_true bJ
    go_wp2
    go_ret
    exact ⟨by first | rfl | (simp [errW_none, errW_some] <;> rfl) | (simp [*, errW_none, errW_some] <;> rfl), by repeat (first | (with_reducible first | exact HB.out | apply below_alloc | apply pw_below_drewN | apply below_drew1 | refine below_set ?_ bw.out | refine below_set ?_ bz.out) | exact HB.out)⟩
   rw [if_neg c32] at H
   have hf : decide ((rd bb bh) ≤ gB) = false := decide_eq_false c32
   clear c32
   by_cases c33 : (rd bb bh) ≥ bg
   ·rw [if_pos c33] at H
    have he : decide (bg ≤ (rd bb bh)) = true := decide_eq_true c33
    clear c33
    obtain rfl := Option.some.inj H
    have bK : 0 ≤ (bh : Int) := of_decide_eq_true zx31_7
    have bJ : bh < (bb.length : Int) := of_decide_eq_true zx31_7
    obtain ⟨gY, gD, bq⟩ := Kd.at_int gF.out bh bK bJ
    cases gD
    replace bq := (HB.out.cell (World.block_lt_of_cell? w _ bq)).trans bq
    replace bK := eq_true bK
    replace bJ := eq_true bJ
    have jS := bi.out
    have jJ := bj.out
    obtain ⟨jE, jD, jC, hU, hT, hS⟩ := cx31_bc3 bk.out
    go_wp2
    go_ret
    exact ⟨by first | rfl | (simp [errW_none, errW_some] <;> rfl) | (simp [*, errW_none, errW_some] <;> rfl), by repeat (first | (with_reducible first | exact HB.out | apply below_alloc | apply pw_below_drewN | apply below_drew1 | refine below_set ?_ bw.out | refine below_set ?_ bz.out) | exact HB.out)⟩
   rw [if_neg c33] at H
   have he : decide (bg ≤ (rd bb bh)) = false := decide_eq_false c33
   clear c33
   have H' := Aside0.mk H
   clear H
   have bK : 0 ≤ (bh : Int) := of_decide_eq_true zx31_7
   have bJ : bh < (bb.length : Int) := of_decide_eq_true zx31_7
   obtain ⟨gY, gD, bq⟩ := Kd.at_int gF.out bh bK bJ
   cases gD
   replace bq := (HB.out.cell (World.block_lt_of_cell? w _ bq)).trans bq
   replace bK := eq_true bK
   replace bJ := eq_true bJ
   have jR := bi.out
   have jI := bj.out
   obtain ⟨jB, jA, jz, hR, hQ, hP⟩ := cx31_bc3 bk.out
   go_wp2
   go_roundg k2
   case measure => have := HJ2.out; have := HK2.out; omega
   case rel => exact ⟨(rd bb bh), (wrap64 (bh + 1)), zx31_5, zx31_5, H', ⟨by have := HJ2.out; have := HK2.out; omega⟩, ⟨by (with_reducible repeat (first | refine blk_drewN ?_ _ | refine blk_drew ?_ | refine blk_alloc ?_ _)); exact ba.out⟩, ⟨by (with_reducible repeat (first | refine blk_drewN ?_ _ | refine blk_drew ?_ | refine blk_alloc ?_ _)); exact bk.out⟩, ⟨by repeat (first | (with_reducible first | exact HB.out | apply below_alloc | apply pw_below_drewN | apply below_drew1 | refine below_set ?_ bw.out | refine below_set ?_ bz.out) | exact HB.out)⟩⟩
end Go.Proofs.YthhmpjapnkilcaaDoor.XLdg
end
