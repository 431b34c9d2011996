/- Texts of this seat, in one. Conditions: those that each theorem names. -/
import Derived.Test.YthhmpjapnkilcaaDoorXLdgP1
import Derived.Test.YthhmpjapnkilcaaDoorXLdgP2
import Derived.Test.YthhmpjapnkilcaaDoorGMono
import Derived.Test.YthhmpjapnkilcaaDoorXLdgP3
import Derived.Test.YthhmpjapnkilcaaDoorGLabelName
section
/- What the functions of the translation answer, each as a plain Lean function, and that the code comes to it; for a law: its row. Conditions: none but those that each theorem names. Written by a program of this session (wip/xp). -/
namespace Go.Proofs.YthhmpjapnkilcaaDoor.XLdg
open Go.RowKit Go.Proofs.YthhmpjapnkilcaaDoorW.PrintWords Go.Proofs.YthhmpjapnkilcaaDoorW.PrintLast Go.Proofs.YthhmpjapnkilcaaDoorW.PrintMore
attribute [local go_sem] max2_int min2_int max_two min_two max_three min_three max_four min_four   -- for this text's walks alone
theorem cx7_bc3 {w : World} {g : Nat} {t : TypeId} {x0 x1 x2 : Value} (h : w.heap[g]? = some (.cells #[x0, x1, x2] t (0, 0))) : w.cell? ⟨g, 0, none⟩ = some x0 ∧ w.cell? ⟨g, 1, none⟩ = some x1 ∧ w.cell? ⟨g, 2, none⟩ = some x2 ∧ w.frozen? ⟨g, 0, none⟩ = false ∧ w.frozen? ⟨g, 1, none⟩ = false ∧ w.frozen? ⟨g, 2, none⟩ = false :=
 ⟨(blk_cell h 0).trans rfl, (blk_cell h 1).trans rfl, (blk_cell h 2).trans rfl, blk_frozen h 0, blk_frozen h 1, blk_frozen h 2⟩
theorem cx7_bc7 {w : World} {g : Nat} {t : TypeId} {x0 x1 x2 x3 x4 x5 x6 : Value} (h : w.heap[g]? = some (.cells #[x0, x1, x2, x3, x4, x5, x6] t (0, 0))) : w.cell? ⟨g, 0, none⟩ = some x0 ∧ w.cell? ⟨g, 1, none⟩ = some x1 ∧ w.cell? ⟨g, 2, none⟩ = some x2 ∧ w.cell? ⟨g, 3, none⟩ = some x3 ∧ w.cell? ⟨g, 4, none⟩ = some x4 ∧ w.cell? ⟨g, 5, none⟩ = some x5 ∧ w.cell? ⟨g, 6, none⟩ = some x6 ∧ w.frozen? ⟨g, 0, none⟩ = false ∧ w.frozen? ⟨g, 1, none⟩ = false ∧ w.frozen? ⟨g, 2, none⟩ = false ∧ w.frozen? ⟨g, 3, none⟩ = false ∧ w.frozen? ⟨g, 4, none⟩ = false ∧ w.frozen? ⟨g, 5, none⟩ = false ∧ w.frozen? ⟨g, 6, none⟩ = false :=
 ⟨(blk_cell h 0).trans rfl, (blk_cell h 1).trans rfl, (blk_cell h 2).trans rfl, (blk_cell h 3).trans rfl, (blk_cell h 4).trans rfl, (blk_cell h 5).trans rfl, (blk_cell h 6).trans rfl, blk_frozen h 0, blk_frozen h 1, blk_frozen h 2, blk_frozen h 3, blk_frozen h 4, blk_frozen h 5, blk_frozen h 6⟩
theorem zx7_6 {p : Prop} (h : p := by (with_reducible repeat (first | apply Kd.R_alloc | apply Kd.R_drewN | apply Kd.R_drew)); exact ba.out) : p := h
theorem zx7_0 {p : Prop} (h : p := by (with_reducible repeat (first | refine blk_drewN ?_ _ | refine blk_drew ?_ | refine blk_alloc ?_ _)); exact bd.out) : p := h
theorem zx7_5 {p : Prop} (h : p := by (with_reducible repeat (first | refine blk_drewN ?_ _ | refine blk_drew ?_ | refine blk_alloc ?_ _)); exact bb.out) : p := h
theorem zx7_4 {p : Prop} (h : p := by repeat (first | (with_reducible first | exact HB.out | apply below_alloc | apply pw_below_drewN | apply below_drew1) | exact HB.out)) : p := h
theorem zx7_3 {p : Prop} (h : p := by (try simp only [List.map_toArray, List.map_cons, List.map_nil]); first | done | rfl | (simp only [List.length_drop, List.length_take]; rfl)) : p := h
theorem zx7_1 {p : Prop} (h : p := by repeat (first | (with_reducible first | exact HB.out | apply below_alloc | apply pw_below_drewN | apply below_drew1 | refine below_set ?_ bO.out) | exact HB.out)) : p := h
theorem zx7_2 {p : Prop} (h : p := by repeat (first | (with_reducible first | exact HB.out | apply below_alloc | apply pw_below_drewN | apply below_drew1 | refine below_set ?_ bO.out | refine below_set ?_ bR.out) | exact HB.out)) : p := h
set_option linter.unusedVariables false
set_option linter.unusedSimpArgs false

/-! ### ledger_Pending: function 18 -/
mutual
def ledger_Pending.l0 : Nat → Bool → List Int → Int → Int → Int → List (S37) → ByteArray → Int → Int → List Int → Int → Int → Int → Option (List Int)
 | 0, _, _, _, _, _, _, _, _, _, _, _, _, _ => none
 | k + 1, x6, x7, x8, bK, bw, bJ, bE, bD, bC, bB, bA, bz, bx => if x6 = true then (ledger_Pending.j1 k x6 x7 x8 (decide (x8 < bw)) bK bw bJ bE bD bC bB bA bz bx) else (ledger_Pending.j1 k x6 x7 x8 false bK bw bJ bE bD bC bB bA bz bx)
def ledger_Pending.j1 : Nat → Bool → List Int → Int → Bool → Int → Int → List (S37) → ByteArray → Int → Int → List Int → Int → Int → Int → Option (List Int)
 | 0, _, _, _, _, _, _, _, _, _, _, _, _, _, _ => none
 | k + 1, x6, x7, x8, x23, bK, bw, bJ, bE, bD, bC, bB, bA, bz, bx => if x23 = true then ((ledger_Dest_waits.f k bE bD bC bB bA bz bx x8 bw).bind fun bW => (if bW = true then (if x7.length < 17592186044416 then (ledger_Pending.l0 k x6 (x7 ++ [x8]) (IntKind.u64.wrap (x8 + 1)) bK bw bJ bE bD bC bB bA bz bx) else (none)) else (ledger_Pending.l0 k x6 x7 (IntKind.u64.wrap (x8 + 1)) bK bw bJ bE bD bC bB bA bz bx))) else (some x7)
end
def ledger_Pending.f (k : Nat) (bh : Int) (bc : Int) (be : List (S37)) (a1 : ByteArray) : Option (List Int) := (ledger_Find.f bh bc be a1).bind fun bl => (ledger_Pending.l0 k bl.2.2.2.2.2.2.2 ([] : List Int) bl.2.2.1 bh bc be bl.1 bl.2.1 bl.2.2.1 bl.2.2.2.1 bl.2.2.2.2.1 bl.2.2.2.2.2.1 bl.2.2.2.2.2.2.1)
theorem ledger_Pending.mono_l : ∀ k, (∀ y0 y1 y2 y3 y4 y5 y6 y7 y8 y9 y10 y11 y12, LeO (ledger_Pending.l0 k y0 y1 y2 y3 y4 y5 y6 y7 y8 y9 y10 y11 y12) (ledger_Pending.l0 (k + 1) y0 y1 y2 y3 y4 y5 y6 y7 y8 y9 y10 y11 y12)) ∧ (∀ y0 y1 y2 y3 y4 y5 y6 y7 y8 y9 y10 y11 y12 y13, LeO (ledger_Pending.j1 k y0 y1 y2 y3 y4 y5 y6 y7 y8 y9 y10 y11 y12 y13) (ledger_Pending.j1 (k + 1) y0 y1 y2 y3 y4 y5 y6 y7 y8 y9 y10 y11 y12 y13))
 | 0 => ⟨fun _ _ _ _ _ _ _ _ _ _ _ _ _ r h => by simp [ledger_Pending.l0] at h, fun _ _ _ _ _ _ _ _ _ _ _ _ _ _ r h => by simp [ledger_Pending.j1] at h⟩
 | k + 1 => by
  obtain ⟨ih0, ih1⟩ := ledger_Pending.mono_l k
  refine ⟨?_, ?_⟩
  ·intro y0 y1 y2 y3 y4 y5 y6 y7 y8 y9 y10 y11 y12
   unfold ledger_Pending.l0
   repeat' first
   | (with_reducible exact ih0 _ _ _ _ _ _ _ _ _ _ _ _ _)
   | (with_reducible exact ih1 _ _ _ _ _ _ _ _ _ _ _ _ _ _)
   | (with_reducible exact ledger_Dest_waits.mono _ _ _ _ _ _ _ _ _ _)
   | (with_reducible exact LeO.refl _)
   | (with_reducible exact LeO.none _)
   | (with_reducible refine LeO.ite ?_ ?_)
   | (with_reducible refine LeO.bind ?_ (fun _ => ?_))
   | exact ih0 _ _ _ _ _ _ _ _ _ _ _ _ _
   | exact ih1 _ _ _ _ _ _ _ _ _ _ _ _ _ _
   | exact ledger_Dest_waits.mono _ _ _ _ _ _ _ _ _ _
   | exact LeO.none _
   | refine LeO.ite ?_ ?_
   | refine LeO.bind ?_ (fun _ => ?_)
  intro y0 y1 y2 y3 y4 y5 y6 y7 y8 y9 y10 y11 y12 y13
  unfold ledger_Pending.j1
  repeat' first
  | (with_reducible exact ih0 _ _ _ _ _ _ _ _ _ _ _ _ _)
  | (with_reducible exact ih1 _ _ _ _ _ _ _ _ _ _ _ _ _ _)
  | (with_reducible exact ledger_Dest_waits.mono _ _ _ _ _ _ _ _ _ _)
  | (with_reducible exact LeO.refl _)
  | (with_reducible exact LeO.none _)
  | (with_reducible refine LeO.ite ?_ ?_)
  | (with_reducible refine LeO.bind ?_ (fun _ => ?_))
  | exact ih0 _ _ _ _ _ _ _ _ _ _ _ _ _
  | exact ih1 _ _ _ _ _ _ _ _ _ _ _ _ _ _
  | exact ledger_Dest_waits.mono _ _ _ _ _ _ _ _ _ _
  | exact LeO.none _
  | refine LeO.ite ?_ ?_
  | refine LeO.bind ?_ (fun _ => ?_)
theorem ledger_Pending.mono : ∀ a0 a1 a2 a3 k, LeO (ledger_Pending.f k a0 a1 a2 a3) (ledger_Pending.f (k + 1) a0 a1 a2 a3) := by
 intro a0 a1 a2 a3 k
 obtain ⟨ih0, ih1⟩ := ledger_Pending.mono_l k
 unfold ledger_Pending.f
 repeat' first
   | (with_reducible exact ih0 _ _ _ _ _ _ _ _ _ _ _ _ _)
   | (with_reducible exact ih1 _ _ _ _ _ _ _ _ _ _ _ _ _ _)
   | (with_reducible exact ledger_Dest_waits.mono _ _ _ _ _ _ _ _ _ _)
   | (with_reducible exact LeO.refl _)
   | (with_reducible exact LeO.none _)
   | (with_reducible refine LeO.ite ?_ ?_)
   | (with_reducible refine LeO.bind ?_ (fun _ => ?_))
   | exact ih0 _ _ _ _ _ _ _ _ _ _ _ _ _
   | exact ih1 _ _ _ _ _ _ _ _ _ _ _ _ _ _
   | exact ledger_Dest_waits.mono _ _ _ _ _ _ _ _ _ _
   | exact LeO.none _
   | refine LeO.ite ?_ ?_
   | refine LeO.bind ?_ (fun _ => ?_)
set_option maxHeartbeats 8000000 in
set_option maxRecDepth 100000 in
theorem ledger_Pending.calls (k : Nat) (bh : Int) (bc : Int) (bM : Option Addr) (bL : Nat) (be : List (S37)) (a1 : ByteArray) (r : List Int) (w : World) (dp : Kd.C k37 w bM be.length be) (dq : be.length ≤ bL) (h : ledger_Pending.f k bh bc be a1 = some r) :
  Calls Tryd.prog 18 #[.agg #[.int .u64 bh, .int .u64 bc, .slice bM be.length bL], .string a1] w fun e w' => ∃ v0_ : Value, e = .returned (v0_) ∧ Kd.R (Kd.int .u64) 24 w' w.heap.size (fun _ => True) v0_ r ∧ Below w.heap.size w w' := by
 have gr := Tryd.underlying27
 have gq := Tryd.underlying37
 have dv := Aside0.mk dp
 have dx := Aside0.mk dq
 clear dp dq
 have HB := Aside0.mk (Below.refl w.heap.size w)
 have H : ((ledger_Find.f bh bc be a1).bind fun bl => (ledger_Pending.l0 k bl.2.2.2.2.2.2.2 ([] : List Int) bl.2.2.1 bh bc be bl.1 bl.2.1 bl.2.2.1 bl.2.2.2.1 bl.2.2.2.2.1 bl.2.2.2.2.2.1 bl.2.2.2.2.2.2.1)) = some r := h
 clear h
 replace H := Option.bind_eq_some_iff.mp H
 obtain ⟨⟨bj, bk, bi, bg, bn, bo, bq, bP⟩, A30, H⟩ := H
 replace H : (ledger_Pending.l0 k bP ([] : List Int) bi bh bc be bj bk bi bg bn bo bq) = some r := H
 have A3 := Aside0.mk A30
 clear A30
 have H' := Aside0.mk H
 clear H
 go_enter Tryd.func18, Tryd.ntmps18
 go_wp2_with (first | ((with_reducible refine gate_dst (N := 2) rfl ?_); refine box_event ?hg (N := 2) ?hd (cs := #[.int .u64 bh, .int .u64 bc, .slice bM be.length bL]) (t := 27) ?hr ?_; (case hd => rfl); (case hg => rfl); (case hr => first | (go_simp; done) | (go_simp; rfl)); intro bp hg w4 hbox hb; have bd := Aside0.mk (hbox); have gn := Aside0.mk ((by rw [hg]; exact (below_size zx7_4) : w.heap.size ≤ bp)); have bO := Aside0.mk ((by rw [hg]; exact (below_size zx7_4) : w.heap.size ≤ bp)); replace HB := Aside0.mk (below_step zx7_4 hb); clear hb hbox hg; have dg : w4.cell? ⟨bp, 0, none⟩ = some (.int .u64 bh) := (blk_cell bd.out 0).trans rfl; have df : w4.cell? ⟨bp, 1, none⟩ = some (.int .u64 bc) := (blk_cell bd.out 1).trans rfl; have de : w4.cell? ⟨bp, 2, none⟩ = some (.slice bM be.length bL) := (blk_cell bd.out 2).trans rfl; have b6 := blk_frozen bd.out 0; have b5 := blk_frozen bd.out 1; have b4 := blk_frozen bd.out 2) | ((with_reducible refine gate_callee (f := 17) rfl ?_); refine goesL_ (some 12) rfl rfl Tryd.func17 (by kernel_rfl) rfl #[.agg #[.int .u64 bh, .int .u64 bc, .slice bM be.length bL], .string a1] rfl zx7_3 ?_; (with_reducible refine (ledger_Find.calls bh bc _ _ be a1 bj bk bi bg bn bo bq bP _ ?side1 ?side2 A3.out).mono ?_); (case side1 => repeat (first | exact (Kd.C_below dv.out HB.out) | (with_reducible refine Kd.C_alloc ?_ _) | (with_reducible refine Kd.C_drewN ?_ _) | (with_reducible refine Kd.C_drew ?_))); (case side2 => exact dx.out); rintro e w6 ⟨gp, rfl, ho0, hb⟩; refine ⟨_, rfl, ?_⟩; have bV := Aside0.mk (Kd.R_lower ho0 (below_size zx7_1)); replace bd := Aside0.mk (blk_below (g := bp) (o := .cells #[.int .u64 bh, .int .u64 bc, .slice bM be.length bL] 27 (0, 0)) zx7_0 hb); replace HB := Aside0.mk (below_step zx7_1 hb); (try clear hb); (try clear hb2); (try clear hk); (try clear hi); (try clear ho0)) | ((with_reducible refine gate_dst (N := 5) rfl ?_); refine box_event ?hg (N := 5) ?hd (cs := #[.string (⟨#[]⟩ : ByteArray), .int .u64 0, .int .u64 0, .slice none 0 0, .int .u64 0, .int .u64 0, .int .u64 0]) (t := 37) ?hr ?_; (case hd => rfl); (case hg => rfl); (case hr => first | (go_simp; done) | (go_simp; rfl)); intro bf hg w7 hbox hb; replace bV := Aside0.mk (Kd.R_below (by (with_reducible repeat (first | apply Kd.R_alloc | apply Kd.R_drewN | apply Kd.R_drew)); exact bV.out) hb); have bb := Aside0.mk (hbox); have gm := Aside0.mk ((by rw [hg]; exact (below_size zx7_1) : w.heap.size ≤ bf)); have bR := Aside0.mk ((by rw [hg]; exact (below_size zx7_1) : w.heap.size ≤ bf)); replace HB := Aside0.mk (below_step zx7_1 hb); have bu := Aside0.mk ((by rw [hg]; exact Nat.ne_of_lt (blk_lt (g := bp) (o := .cells #[.int .u64 bh, .int .u64 bc, .slice bM be.length bL] 27 (0, 0)) zx7_0) : bp ≠ bf)); have bG := Aside0.mk ((by rw [hg]; exact Nat.ne_of_gt (blk_lt (g := bp) (o := .cells #[.int .u64 bh, .int .u64 bc, .slice bM be.length bL] 27 (0, 0)) zx7_0) : bf ≠ bp)); replace bd := Aside0.mk (blk_below (g := bp) (o := .cells #[.int .u64 bh, .int .u64 bc, .slice bM be.length bL] 27 (0, 0)) zx7_0 hb); clear hb hbox hg; have gt := bG.out; have gs := bu.out; have dd : w7.cell? ⟨bf, 0, none⟩ = some (.string (⟨#[]⟩ : ByteArray)) := (blk_cell bb.out 0).trans rfl; have dc : w7.cell? ⟨bf, 1, none⟩ = some (.int .u64 0) := (blk_cell bb.out 1).trans rfl; have db : w7.cell? ⟨bf, 2, none⟩ = some (.int .u64 0) := (blk_cell bb.out 2).trans rfl; have da : w7.cell? ⟨bf, 3, none⟩ = some (.slice none 0 0) := (blk_cell bb.out 3).trans rfl; have b9 : w7.cell? ⟨bf, 4, none⟩ = some (.int .u64 0) := (blk_cell bb.out 4).trans rfl; have b8 : w7.cell? ⟨bf, 5, none⟩ = some (.int .u64 0) := (blk_cell bb.out 5).trans rfl; have b7 : w7.cell? ⟨bf, 6, none⟩ = some (.int .u64 0) := (blk_cell bb.out 6).trans rfl; have b3 := blk_frozen bb.out 0; have b2 := blk_frozen bb.out 1; have b1 := blk_frozen bb.out 2; have b0 := blk_frozen bb.out 3; have bZ := blk_frozen bb.out 4; have bY := blk_frozen bb.out 5; have bX := blk_frozen bb.out 6; obtain ⟨bI, bH, ge⟩ := Kd.R_slice bV.out; subst ge))
 go_loopg [7, 8] k (fun kq v7 v8 w' => ∃ (br : List Int) (bm : Int), v8 = .int .u64 bm ∧ Aside0 (ledger_Pending.l0 kq bP br bm bh bc be bj bk bi bg bn bo bq = some r) ∧ Aside0 (kq ≤ k) ∧ Aside0 (Kd.R (Kd.int .u64) 24 w' w.heap.size (fun k_ => some k_ ≠ ((.slice bI bg.length bH) : Value).ownBlock) v7 br) ∧ Aside0 (Kd.R (Kd.int .u64) 24 w' w.heap.size (fun k_ => some k_ ≠ (v7 : Value).ownBlock) (.slice bI bg.length bH) bg) ∧ Aside0 (w'.heap[bp]? = some (.cells #[.int .u64 bh, .int .u64 bc, (.slice bM be.length bL)] 27 (0, 0))) ∧ Aside0 (w'.heap[bf]? = some (.cells #[.string bj, .int .u64 bk, .int .u64 bi, (.slice bI bg.length bH), .int .u64 bn, .int .u64 bo, .int .u64 bq] 37 (0, 0))) ∧ Aside0 (Below w.heap.size w w'))
 case atStart => exact ⟨(([] : List Int)), (bi), (by first | rfl | (simp; done) | (simp [*]; done)), H', ⟨Nat.le_refl _⟩, ⟨by first | exact Kd.R_nil _ _ _ _ _ | exact Kd.N_nil _ _ _ _ _ | exact Kd.V_nil _ _ _ _ _ | exact Kd.Q_nil _ _ _ _ _ | exact Kd.S_nil _ _ _ _ _⟩, ⟨by (with_reducible repeat (first | apply Kd.R_alloc | apply Kd.R_drewN | apply Kd.R_drew)); exact Kd.R_mono (Kd.R_far (p := ⟨bf, 6, none⟩) (Kd.R_far (p := ⟨bf, 5, none⟩) (Kd.R_far (p := ⟨bf, 4, none⟩) (Kd.R_far (p := ⟨bf, 3, none⟩) (Kd.R_far (p := ⟨bf, 2, none⟩) (Kd.R_far (p := ⟨bf, 1, none⟩) (Kd.R_far (p := ⟨bf, 0, none⟩) (Kd.R_types bV.out bb.out (by decide)) (fun _ hk => hk.2) (.string bj)) (fun _ hk => hk.2) (.int .u64 bk)) (fun _ hk => hk.2) (.int .u64 bi)) (fun _ hk => hk.2) (.slice bI bg.length bH)) (fun _ hk => hk.2) (.int .u64 bn)) (fun _ hk => hk.2) (.int .u64 bo)) (fun _ hk => hk.2) (.int .u64 bq)) (fun _ hk => (by simp [Value.ownBlock]))⟩, ⟨by (iterate 7 ((with_reducible repeat (first | refine blk_drewN ?_ _ | refine blk_drew ?_ | refine blk_alloc ?_ _)); refine blk_far ?_ bu.out _)); (with_reducible repeat (first | refine blk_drewN ?_ _ | refine blk_drew ?_ | refine blk_alloc ?_ _)); exact bd.out⟩, ⟨by (with_reducible repeat (first | refine blk_drewN ?_ _ | refine blk_drew ?_ | refine blk_alloc ?_ _)); refine blk_put (cs := #[.string bj, .int .u64 bk, .int .u64 bi, .slice bI bg.length bH, .int .u64 bn, .int .u64 bo, .int .u64 0]) ?_ 6 _ rfl; (with_reducible repeat (first | refine blk_drewN ?_ _ | refine blk_drew ?_ | refine blk_alloc ?_ _)); refine blk_put (cs := #[.string bj, .int .u64 bk, .int .u64 bi, .slice bI bg.length bH, .int .u64 bn, .int .u64 0, .int .u64 0]) ?_ 5 _ rfl; (with_reducible repeat (first | refine blk_drewN ?_ _ | refine blk_drew ?_ | refine blk_alloc ?_ _)); refine blk_put (cs := #[.string bj, .int .u64 bk, .int .u64 bi, .slice bI bg.length bH, .int .u64 0, .int .u64 0, .int .u64 0]) ?_ 4 _ rfl; (with_reducible repeat (first | refine blk_drewN ?_ _ | refine blk_drew ?_ | refine blk_alloc ?_ _)); refine blk_put (cs := #[.string bj, .int .u64 bk, .int .u64 bi, .slice none 0 0, .int .u64 0, .int .u64 0, .int .u64 0]) ?_ 3 _ rfl; (with_reducible repeat (first | refine blk_drewN ?_ _ | refine blk_drew ?_ | refine blk_alloc ?_ _)); refine blk_put (cs := #[.string bj, .int .u64 bk, .int .u64 0, .slice none 0 0, .int .u64 0, .int .u64 0, .int .u64 0]) ?_ 2 _ rfl; (with_reducible repeat (first | refine blk_drewN ?_ _ | refine blk_drew ?_ | refine blk_alloc ?_ _)); refine blk_put (cs := #[.string bj, .int .u64 0, .int .u64 0, .slice none 0 0, .int .u64 0, .int .u64 0, .int .u64 0]) ?_ 1 _ rfl; (with_reducible repeat (first | refine blk_drewN ?_ _ | refine blk_drew ?_ | refine blk_alloc ?_ _)); refine blk_put (cs := #[.string (⟨#[]⟩ : ByteArray), .int .u64 0, .int .u64 0, .slice none 0 0, .int .u64 0, .int .u64 0, .int .u64 0]) ?_ 0 _ rfl; (with_reducible repeat (first | refine blk_drewN ?_ _ | refine blk_drew ?_ | refine blk_alloc ?_ _)); exact bb.out⟩, ⟨by repeat (first | (with_reducible first | exact HB.out | apply below_alloc | apply pw_below_drewN | apply below_drew1 | refine below_set ?_ bO.out | refine below_set ?_ bR.out) | exact HB.out)⟩⟩
 case round =>
  clear H'
  (try clear c1); (try clear p2); (try clear c8); (try clear dg); (try clear df); (try clear de); (try clear dd); (try clear dc); (try clear db); (try clear da); (try clear b9); (try clear b8); (try clear b7); (try clear b6); (try clear b5); (try clear b4); (try clear b3); (try clear b2); (try clear b1); (try clear b0); (try clear bZ); (try clear bY); (try clear bX)
  obtain ⟨br, bm, rfl, HA, HK1, bN, ba, bd, bb, HB⟩ := hrel
  cases gk with
  | zero => exact absurd HA.out (by simp [ledger_Pending.l0])
  | succ k1 => ?_
  have H := HA.out
  clear HA
  simp only [ledger_Pending.l0] at H
  have dr := Aside0.mk H
  clear H
  go_upto_region 4 with (fail)
  go_cut [23] (fun v23 wc => ∃ (kq : Nat) (bS : Bool), v23 = .bool bS ∧ Aside0 (ledger_Pending.j1 kq bP br bm bS bh bc be bj bk bi bg bn bo bq = some r) ∧ Aside0 (kq ≤ k1) ∧ Aside0 (Kd.R (Kd.int .u64) 24 wc w.heap.size (fun k_ => some k_ ≠ ((.slice bI bg.length bH) : Value).ownBlock) u7 br) ∧ Aside0 (Kd.R (Kd.int .u64) 24 wc w.heap.size (fun k_ => some k_ ≠ (u7 : Value).ownBlock) (.slice bI bg.length bH) bg) ∧ Aside0 (wc.heap[bp]? = some (.cells #[.int .u64 bh, .int .u64 bc, (.slice bM be.length bL)] 27 (0, 0))) ∧ Aside0 (wc.heap[bf]? = some (.cells #[.string bj, .int .u64 bk, .int .u64 bi, (.slice bI bg.length bH), .int .u64 bn, .int .u64 bo, .int .u64 bq] 37 (0, 0))) ∧ Aside0 (Below w.heap.size w wc))
  case first =>
   have H := dr.out
   clear dr
   by_cases c12 : bP = true
   case neg =>
    replace c12 := Bool.eq_false_iff.mpr c12
    subst c12
    have H1 : (ledger_Pending.j1 k1 false br bm false bh bc be bj bk bi bg bn bo bq) = some r := by rw [if_neg (show ¬ (false = true) by decide)] at H; exact H
    clear H
    have H := H1
    clear H1
    have H' := Aside0.mk H
    clear H
    go_wp2
    go_meet
    case rel => exact ⟨_, (false), (by first | rfl | (simp; done) | (simp [*]; done)), H', ⟨by have := HK1.out; first | omega | exact Nat.le_refl _⟩, ⟨by (with_reducible repeat (first | apply Kd.R_alloc | apply Kd.R_drewN | apply Kd.R_drew)); exact bN.out⟩, ⟨by (with_reducible repeat (first | apply Kd.R_alloc | apply Kd.R_drewN | apply Kd.R_drew)); exact ba.out⟩, ⟨by (with_reducible repeat (first | refine blk_drewN ?_ _ | refine blk_drew ?_ | refine blk_alloc ?_ _)); exact bd.out⟩, ⟨by (with_reducible repeat (first | refine blk_drewN ?_ _ | refine blk_drew ?_ | refine blk_alloc ?_ _)); exact bb.out⟩, ⟨by repeat (first | (with_reducible first | exact HB.out | apply below_alloc | apply pw_below_drewN | apply below_drew1 | refine below_set ?_ bO.out | refine below_set ?_ bR.out) | exact HB.out)⟩⟩
   subst c12
   have H1 : (ledger_Pending.j1 k1 true br bm (decide (bm < bc)) bh bc be bj bk bi bg bn bo bq) = some r := by rw [if_pos rfl] at H; exact H
   clear H
   have H := H1
   clear H1
   have H' := Aside0.mk H
   clear H
   have gl := bu.out
   have gh := bG.out
   obtain ⟨dm, dl, dk, dj, di, dh⟩ := cx7_bc3 bd.out
   go_wp2
   go_meet
   case rel => exact ⟨_, (decide (bm < bc)), (by first | rfl | (simp; done) | (simp [*]; done)), H', ⟨by have := HK1.out; first | omega | exact Nat.le_refl _⟩, ⟨by (with_reducible repeat (first | apply Kd.R_alloc | apply Kd.R_drewN | apply Kd.R_drew)); exact bN.out⟩, ⟨by (with_reducible repeat (first | apply Kd.R_alloc | apply Kd.R_drewN | apply Kd.R_drew)); exact ba.out⟩, ⟨by (with_reducible repeat (first | refine blk_drewN ?_ _ | refine blk_drew ?_ | refine blk_alloc ?_ _)); exact bd.out⟩, ⟨by (with_reducible repeat (first | refine blk_drewN ?_ _ | refine blk_drew ?_ | refine blk_alloc ?_ _)); exact bb.out⟩, ⟨by repeat (first | (with_reducible first | exact HB.out | apply below_alloc | apply pw_below_drewN | apply below_drew1 | refine below_set ?_ bO.out | refine below_set ?_ bR.out) | exact HB.out)⟩⟩
  case rest =>
   clear dr
   (try clear c1); (try clear p2); (try clear c8); (try clear c12); (try clear c13); (try clear dm); (try clear dl); (try clear dk); (try clear dg); (try clear df); (try clear de); (try clear dd); (try clear dc); (try clear db); (try clear da); (try clear b9); (try clear b8); (try clear b7); (try clear dj); (try clear di); (try clear dh); (try clear b6); (try clear b5); (try clear b4); (try clear b3); (try clear b2); (try clear b1); (try clear b0); (try clear bZ); (try clear bY); (try clear bX); (try clear p2)
   obtain ⟨kq, bS, rfl, HA, dn, bN, ba, bd, bb, HB⟩ := hcut
   cases kq with
   | zero => exact absurd HA.out (by simp [ledger_Pending.j1])
   | succ bQ => ?_
   have H := HA.out
   clear HA
   simp only [ledger_Pending.j1] at H
   by_cases c15 : bS = true
   case neg =>
    replace c15 := Bool.eq_false_iff.mpr c15
    subst c15
    have H1 : (some br) = some r := by rw [if_neg (show ¬ (false = true) by decide)] at H; exact H
    clear H
    have H := H1
    clear H1
    obtain rfl := Option.some.inj H
    go_wp2
    go_ret
    exact ⟨_, by first | rfl | (simp [errW_none, errW_some] <;> rfl) | (simp [*, errW_none, errW_some] <;> rfl), by (with_reducible repeat (first | apply Kd.R_alloc | apply Kd.R_drewN | apply Kd.R_drew)); exact Kd.R_mono bN.out (fun _ hk => trivial), by repeat (first | (with_reducible first | exact HB.out | apply below_alloc | apply pw_below_drewN | apply below_drew1 | refine below_set ?_ bO.out | refine below_set ?_ bR.out) | exact HB.out)⟩

   subst c15
   have H1 : ((ledger_Dest_waits.f bQ bj bk bi bg bn bo bq bm bc).bind fun bW => (if bW = true then (if br.length < 17592186044416 then (ledger_Pending.l0 bQ bP (br ++ [bm]) (IntKind.u64.wrap (bm + 1)) bh bc be bj bk bi bg bn bo bq) else (none)) else (ledger_Pending.l0 bQ bP br (IntKind.u64.wrap (bm + 1)) bh bc be bj bk bi bg bn bo bq))) = some r := by rw [if_pos rfl] at H; exact H
   clear H
   have H := H1
   clear H1
   replace H := Option.bind_eq_some_iff.mp H
   obtain ⟨bW, dy, H⟩ := H
   replace H : (if bW = true then (if br.length < 17592186044416 then (ledger_Pending.l0 bQ bP (br ++ [bm]) (IntKind.u64.wrap (bm + 1)) bh bc be bj bk bi bg bn bo bq) else (none)) else (ledger_Pending.l0 bQ bP br (IntKind.u64.wrap (bm + 1)) bh bc be bj bk bi bg bn bo bq)) = some r := H
   have A16 := Aside0.mk dy
   clear dy
   by_cases c17 : bW = true
   case neg =>
    replace c17 := Bool.eq_false_iff.mpr c17
    subst c17
    have H1 : (ledger_Pending.l0 bQ bP br (IntKind.u64.wrap (bm + 1)) bh bc be bj bk bi bg bn bo bq) = some r := by rw [if_neg (show ¬ (false = true) by decide)] at H; exact H
    clear H
    have H := H1
    clear H1
    have H' := Aside0.mk H
    clear H
    have gi := bG.out
    have gf := bu.out
    obtain ⟨d2, d1, d0, dZ, dY, dX, dW, dI, dH, dG, dF, dE, dD, dC⟩ := cx7_bc7 bb.out
    obtain ⟨dV, dU, dT, dB, dA, dz⟩ := cx7_bc3 bd.out
    go_wp2_with (first | ((with_reducible refine gate_callee (f := 36) rfl ?_); refine goesL_ (some 30) rfl rfl Tryd.func36 (by kernel_rfl) rfl #[.agg #[.string bj, .int .u64 bk, .int .u64 bi, .slice bI bg.length bH, .int .u64 bn, .int .u64 bo, .int .u64 bq], .int .u64 bm, .int .u64 bc] rfl zx7_3 ?_; (with_reducible refine (ledger_Dest_waits.calls bQ bj bk bi _ _ bg bn bo bq bm bc false _ ?side1 ?side2 A16.out).mono ?_); (case side1 => repeat (first | exact (Kd.R_reads' ba.out).2.2 | (with_reducible refine Kd.C_alloc ?_ _) | (with_reducible refine Kd.C_drewN ?_ _) | (with_reducible refine Kd.C_drew ?_))); (case side2 => exact (Kd.R_reads' ba.out).2.1); rintro e w27 ⟨rfl, hb⟩; refine ⟨_, rfl, ?_⟩; replace bN := Aside0.mk (Kd.R_below (by (with_reducible repeat (first | apply Kd.R_alloc | apply Kd.R_drewN | apply Kd.R_drew)); exact bN.out) hb); replace ba := Aside0.mk (Kd.R_below zx7_6 hb); replace bd := Aside0.mk (blk_below (g := bp) (o := .cells #[.int .u64 bh, .int .u64 bc, .slice bM be.length bL] 27 (0, 0)) zx7_0 hb); replace bb := Aside0.mk (blk_below (g := bf) (o := .cells #[.string bj, .int .u64 bk, .int .u64 bi, .slice bI bg.length bH, .int .u64 bn, .int .u64 bo, .int .u64 bq] 37 (0, 0)) zx7_5 hb); replace HB := Aside0.mk (below_step zx7_2 hb); (try clear hb); (try clear hb2); (try clear hk); (try clear hi)))
    go_roundg bQ
    case measure => have := HK1.out; have := dn.out; omega
    case rel => exact ⟨(br), (IntKind.u64.wrap (bm + 1)), (by first | rfl | (simp; done) | (simp [*]; done)), H', ⟨by have := HK1.out; have := dn.out; omega⟩, ⟨by (with_reducible repeat (first | apply Kd.R_alloc | apply Kd.R_drewN | apply Kd.R_drew)); exact bN.out⟩, ⟨by (with_reducible repeat (first | apply Kd.R_alloc | apply Kd.R_drewN | apply Kd.R_drew)); exact ba.out⟩, ⟨by (with_reducible repeat (first | refine blk_drewN ?_ _ | refine blk_drew ?_ | refine blk_alloc ?_ _)); exact bd.out⟩, ⟨by (with_reducible repeat (first | refine blk_drewN ?_ _ | refine blk_drew ?_ | refine blk_alloc ?_ _)); exact bb.out⟩, ⟨by repeat (first | (with_reducible first | exact HB.out | apply below_alloc | apply pw_below_drewN | apply below_drew1 | refine below_set ?_ bO.out | refine below_set ?_ bR.out) | exact HB.out)⟩⟩
   subst c17
   have H1 : (if br.length < 17592186044416 then (ledger_Pending.l0 bQ bP (br ++ [bm]) (IntKind.u64.wrap (bm + 1)) bh bc be bj bk bi bg bn bo bq) else (none)) = some r := by rw [if_pos rfl] at H; exact H
   clear H
   have H := H1
   clear H1
   by_cases c18 : br.length < 17592186044416
   case neg =>
    rw [if_neg c18] at H
    exact absurd H (by simp)
   rw [if_pos c18] at H
   have du := Aside0.mk c18
   clear c18
   obtain ⟨ds, bU⟩ : ∃ y_ : List Int, y_ = (br ++ [bm]) := ⟨_, rfl⟩
   replace H : (ledger_Pending.l0 bQ bP ds (IntKind.u64.wrap (bm + 1)) bh bc be bj bk bi bg bn bo bq) = some r := by first | (rw [bU]; with_reducible exact H) | (have H2_ := (Option.bind_some _ _).symm.trans H; rw [bU]; with_reducible exact H2_) | (have H2_ := (Option.bind_some _ _).symm.trans H; with_reducible exact H2_) | with_reducible exact H | (rw [bU]; exact H) | exact H
   have dt := Aside0.mk bU
   clear bU
   have H' := Aside0.mk H
   clear H
   have gj := bG.out
   have gg := bu.out
   obtain ⟨gc, gb, ga, d9, d8, d7, d6, dS, dR, dQ, dP, dO, dN, dM⟩ := cx7_bc7 bb.out
   obtain ⟨d5, d4, d3, dL, dK, dJ⟩ := cx7_bc3 bd.out
   go_wp2_with (first | ((with_reducible refine gate_callee (f := 36) rfl ?_); refine goesL_ (some 30) rfl rfl Tryd.func36 (by kernel_rfl) rfl #[.agg #[.string bj, .int .u64 bk, .int .u64 bi, .slice bI bg.length bH, .int .u64 bn, .int .u64 bo, .int .u64 bq], .int .u64 bm, .int .u64 bc] rfl zx7_3 ?_; (with_reducible refine (ledger_Dest_waits.calls bQ bj bk bi _ _ bg bn bo bq bm bc true _ ?side1 ?side2 A16.out).mono ?_); (case side1 => repeat (first | exact (Kd.R_reads' ba.out).2.2 | (with_reducible refine Kd.C_alloc ?_ _) | (with_reducible refine Kd.C_drewN ?_ _) | (with_reducible refine Kd.C_drew ?_))); (case side2 => exact (Kd.R_reads' ba.out).2.1); rintro e w22 ⟨rfl, hb⟩; refine ⟨_, rfl, ?_⟩; replace bN := Aside0.mk (Kd.R_below (by (with_reducible repeat (first | apply Kd.R_alloc | apply Kd.R_drewN | apply Kd.R_drew)); exact bN.out) hb); replace ba := Aside0.mk (Kd.R_below zx7_6 hb); replace bd := Aside0.mk (blk_below (g := bp) (o := .cells #[.int .u64 bh, .int .u64 bc, .slice bM be.length bL] 27 (0, 0)) zx7_0 hb); replace bb := Aside0.mk (blk_below (g := bf) (o := .cells #[.string bj, .int .u64 bk, .int .u64 bi, .slice bI bg.length bH, .int .u64 bn, .int .u64 bo, .int .u64 bq] 37 (0, 0)) zx7_5 hb); replace HB := Aside0.mk (below_step zx7_2 hb); (try clear hb); (try clear hb2); (try clear hk); (try clear hi)) | ((with_reducible refine gate_builtin (b := .append) (xs := #[.tmp 31, .tmp 33]) rfl ?_); at_builtin; refine Kd.R_append (Kd.int .u64) (w0 := w) w.heap.size rfl (.tmp 31) (.tmp 33) 35 24 (.int .u64 0) 8 rfl Tryd.underlying35 info24 rfl (by decide) (by omega) u7 br bm [.int .u64 bm] (fun k_ => some k_ ≠ (.slice bI bg.length bH : Value).ownBlock) (fun _ => False) rfl rfl ?aP (fun _ hk => hk.elim) ?aF ?aO ?aB ?aS ?aL ?_; (case aP => exact rfl); (case aB => exact zx7_2); (case aF => exact (fun k_ hk => Kd.fresh' (Kd.R_lt zx7_6) k_ hk)); (case aO => exact (by (with_reducible repeat (first | apply Kd.R_alloc | apply Kd.R_drewN | apply Kd.R_drew)); exact bN.out)); (case aS => exact (below_size zx7_2)); (case aL => have := du.out; omega); intro go w23 ho hb hg hat; rw [← dt.out] at ho; have n0_ := Aside0.mk (Kd.R_after (ok := (fun _ => True)) (by (with_reducible repeat (first | apply Kd.R_alloc | apply Kd.R_drewN | apply Kd.R_drew)); exact Kd.R_mono ba.out (fun _ hk => ⟨trivial, hk⟩)) hg hat); have n1_ := Aside0.mk (blk_grown (g := bp) (o := .cells #[.int .u64 bh, .int .u64 bc, .slice bM be.length bL] 27 (0, 0)) zx7_0 hg (Kd.R_ne bN.out bd.out (by decide))); have n2_ := Aside0.mk (blk_grown (g := bf) (o := .cells #[.string bj, .int .u64 bk, .int .u64 bi, .slice bI bg.length bH, .int .u64 bn, .int .u64 bo, .int .u64 bq] 37 (0, 0)) zx7_5 hg (Kd.R_ne bN.out bb.out (by decide))); have n3_ := Aside0.mk (hb); have n4_ := Aside0.mk (ho); clear ba; clear bd; clear bb; clear HB; clear bN; have ba := n0_; have bd := n1_; have bb := n2_; have HB := n3_; have dw := n4_; clear n0_ n1_ n2_ n3_ n4_; clear ho hb hg hat))
   go_roundg bQ
   case measure => have := HK1.out; have := dn.out; omega
   case rel => exact ⟨(ds), (IntKind.u64.wrap (bm + 1)), (by first | rfl | (simp; done) | (simp [*]; done)), H', ⟨by have := HK1.out; have := dn.out; omega⟩, ⟨by (with_reducible repeat (first | apply Kd.R_alloc | apply Kd.R_drewN | apply Kd.R_drew)); exact dw.out⟩, ⟨by (with_reducible repeat (first | apply Kd.R_alloc | apply Kd.R_drewN | apply Kd.R_drew)); exact Kd.R_mono ba.out (fun _ hk => hk.2)⟩, ⟨by (with_reducible repeat (first | refine blk_drewN ?_ _ | refine blk_drew ?_ | refine blk_alloc ?_ _)); exact bd.out⟩, ⟨by (with_reducible repeat (first | refine blk_drewN ?_ _ | refine blk_drew ?_ | refine blk_alloc ?_ _)); exact bb.out⟩, ⟨by repeat (first | (with_reducible first | exact HB.out | apply below_alloc | apply pw_below_drewN | apply below_drew1 | refine below_set ?_ bO.out | refine below_set ?_ bR.out) | exact HB.out)⟩⟩
end Go.Proofs.YthhmpjapnkilcaaDoor.XLdg
end
section
/- What the functions of the translation answer, each as a plain Lean function, and that the code comes to it; for a law: its row. Conditions: none but those that each theorem names. Written by a program of this session (wip/xp). -/
namespace Go.Proofs.YthhmpjapnkilcaaDoor.XLdg
open Go.RowKit Go.Proofs.YthhmpjapnkilcaaDoorW.PrintWords Go.Proofs.YthhmpjapnkilcaaDoorW.PrintLast Go.Proofs.YthhmpjapnkilcaaDoorW.PrintMore
attribute [local go_sem] max2_int min2_int max_two min_two max_three min_three max_four min_four   -- for this text's walks alone
set_option linter.unusedVariables false
set_option linter.unusedSimpArgs false

/-! ### postroomlaw10_run: function 11 -/
def postroomlaw10_run.l0 : Nat → List (S43) → Int → Int → Int → List (S37) → Int → Int → List (S84) → Option (Int × Int × (List (S37)))
 | 0, _, _, _, _, _, _, _, _ => none
 | k + 1, x0, x5, b4, b3, b2, df, de, dd => if x5 < (x0.length : Int) then (if 0 ≤ x5 then ((postroomlaw10_does.f k b4 b3 b2 df de dd ((rd_T43 x0 x5).f0) ((rd_T43 x0 x5).f1) ((rd_T43 x0 x5).f2) ((rd_T43 x0 x5).f3)).bind fun bP => (postroomlaw10_run.l0 k x0 (wrap64 (x5 + 1)) bP.1 bP.2.1 bP.2.2.1 bP.2.2.2.1 bP.2.2.2.2.1 bP.2.2.2.2.2.1)) else (none)) else (some (b4, b3, b2))
def postroomlaw10_run.f (k : Nat) (l0 : List (S43)) : Option (Int × Int × (List (S37))) := (ledger_New.f).bind fun bL => ((postroomref10_New.f).bind fun bz => (postroomlaw10_run.l0 k l0 0 bL.1 bL.2.1 bL.2.2 bz.1 bz.2.1 bz.2.2))
def postroomlaw10_run.T6 : Bool × List (List Nat × List Nat) := (true, [([], []), ([], []), ([], []), ([], []), ([2, 3], [2, 3]), ([4], [4]), ([0, 1, 5], [0, 1, 5]), ([6], [6]), ([7], [7]), ([7], [7]), ([7], [7]), ([8, 6, 0, 1, 2, 3, 4, 5, 6, 7, 8], [8]), ([9, 11, 0, 1, 2, 3, 4, 5, 6, 7, 8, 9, 11], [9])])
def postroomlaw10_run.B6 : List Nat := [0, 0, 0, 0, 12, 28, 63, 127, 255, 255, 255, 511, 3071]
end Go.Proofs.YthhmpjapnkilcaaDoor.XLdg
end
section
/- What the functions of the translation answer, each as a plain Lean function, and that the code comes to it; for a law: its row. Conditions: none but those that each theorem names. Written by a program of this session (wip/xp). -/
namespace Go.Proofs.YthhmpjapnkilcaaDoor.XLdg
open Go.RowKit Go.Proofs.YthhmpjapnkilcaaDoorW.PrintWords Go.Proofs.YthhmpjapnkilcaaDoorW.PrintLast Go.Proofs.YthhmpjapnkilcaaDoorW.PrintMore
attribute [local go_sem] max2_int min2_int max_two min_two max_three min_three max_four min_four   -- for this text's walks alone
theorem zx25_1 {p : Prop} (h : p := by (with_reducible repeat (first | refine blk_drewN ?_ _ | refine blk_drew ?_ | refine blk_alloc ?_ _)); exact bd.out) : p := h
theorem zx25_3 {p : Prop} (h : p := by repeat (first | (with_reducible first | exact HB.out | apply below_alloc | apply pw_below_drewN | apply below_drew1) | exact HB.out)) : p := h
theorem zx25_0 {p : Prop} (h : p := by repeat (first | (with_reducible first | exact HB.out | apply below_alloc | apply pw_below_drewN | apply below_drew1 | refine below_set ?_ bx.out) | exact HB.out)) : p := h
theorem zx25_2 {p : Prop} (h : p := by (with_reducible repeat (first | apply Kd.R_alloc | apply Kd.R_drewN | apply Kd.R_drew)); exact (Kd.R_mono (Kd.R_far (p := ⟨bb, 6, none⟩) (Kd.R_far (p := ⟨bb, 5, none⟩) (Kd.R_far (p := ⟨bb, 4, none⟩) (Kd.R_far (p := ⟨bb, 3, none⟩) (Kd.R_far (p := ⟨bb, 2, none⟩) (Kd.R_far (p := ⟨bb, 1, none⟩) (Kd.R_far (p := ⟨bb, 0, none⟩) (Kd.R_types bl.out ba.out (by decide)) (fun _ hk => hk.2) (.string bm)) (fun _ hk => hk.2) (.int .u64 bo)) (fun _ hk => hk.2) (.int .u64 bq)) (fun _ hk => hk.2) (.slice bC bp.length bB)) (fun _ hk => hk.2) (.int .u64 bu)) (fun _ hk => hk.2) (.int .u64 bw)) (fun _ hk => hk.2) (.int .u64 bz)) (fun _ h_ => h_.1))) : p := h
set_option linter.unusedVariables false
set_option linter.unusedSimpArgs false

/-! ### ledger_Waits: function 19 -/
def ledger_Waits.f (k : Nat) (bh : Int) (be : Int) (bf : List (S37)) (a1 : ByteArray) (a2 : Int) : Option (Bool) := (ledger_Find.f bh be bf a1).bind fun bg => (if bg.2.2.2.2.2.2.2 = true then ((ledger_Dest_waits.f k bg.1 bg.2.1 bg.2.2.1 bg.2.2.2.1 bg.2.2.2.2.1 bg.2.2.2.2.2.1 bg.2.2.2.2.2.2.1 a2 be).bind fun br => (some br)) else (some false))
set_option maxHeartbeats 8000000 in
set_option maxRecDepth 100000 in
theorem ledger_Waits.calls (k : Nat) (bh : Int) (be : Int) (bj : Option Addr) (bi : Nat) (bf : List (S37)) (a1 : ByteArray) (a2 : Int) (r : Bool) (w : World) (bD : Kd.C k37 w bj bf.length bf) (bE : bf.length ≤ bi) (h : ledger_Waits.f k bh be bf a1 a2 = some r) :
  Calls Tryd.prog 19 #[.agg #[.int .u64 bh, .int .u64 be, .slice bj bf.length bi], .string a1, .int .u64 a2] w fun e w' => e = .returned (.bool r) ∧ Below w.heap.size w w' := by
 have dF := Tryd.underlying27
 have dE := Tryd.underlying37
 have bG := Aside0.mk bD
 have bH := Aside0.mk bE
 clear bD bE
 have HB := Aside0.mk (Below.refl w.heap.size w)
 have H : ((ledger_Find.f bh be bf a1).bind fun bg => (if bg.2.2.2.2.2.2.2 = true then ((ledger_Dest_waits.f k bg.1 bg.2.1 bg.2.2.1 bg.2.2.2.1 bg.2.2.2.2.1 bg.2.2.2.2.2.1 bg.2.2.2.2.2.2.1 a2 be).bind fun br => (some br)) else (some false))) = some r := h
 clear h
 replace H := Option.bind_eq_some_iff.mp H
 obtain ⟨⟨bm, bo, bq, bp, bu, bw, bz, bI⟩, A40, H⟩ := H
 replace H : (if bI = true then ((ledger_Dest_waits.f k bm bo bq bp bu bw bz a2 be).bind fun br => (some br)) else (some false)) = some r := H
 have A4 := Aside0.mk A40
 clear A40
 by_cases c5 : bI = true
 case neg =>
  replace c5 := Bool.eq_false_iff.mpr c5
  subst c5
  have H1 : (some false) = some r := by rw [if_neg (show ¬ (false = true) by decide)] at H; exact H
  clear H
  have H := H1
  clear H1
  obtain rfl := Option.some.inj H
  go_enter Tryd.func19, Tryd.ntmps19
  go_wp2_with (first | ((with_reducible refine gate_dst (N := 3) rfl ?_); refine box_event ?hg (N := 3) ?hd (cs := #[.int .u64 bh, .int .u64 be, .slice bj bf.length bi]) (t := 27) ?hr ?_; (case hd => rfl); (case hg => rfl); (case hr => first | (go_simp; done) | (go_simp; rfl)); intro bc hg w16 hbox hb; have bd := Aside0.mk (hbox); have bK := Aside0.mk ((by rw [hg]; exact (below_size zx25_3) : w.heap.size ≤ bc)); have bx := Aside0.mk ((by rw [hg]; exact (below_size zx25_3) : w.heap.size ≤ bc)); replace HB := Aside0.mk (below_step zx25_3 hb); clear hb hbox hg; have df : w16.cell? ⟨bc, 0, none⟩ = some (.int .u64 bh) := (blk_cell bd.out 0).trans rfl; have de : w16.cell? ⟨bc, 1, none⟩ = some (.int .u64 be) := (blk_cell bd.out 1).trans rfl; have dd : w16.cell? ⟨bc, 2, none⟩ = some (.slice bj bf.length bi) := (blk_cell bd.out 2).trans rfl; have bV := blk_frozen bd.out 0; have bU := blk_frozen bd.out 1; have bS := blk_frozen bd.out 2) | ((with_reducible refine gate_callee (f := 17) rfl ?_); refine goesL_ (some 12) rfl rfl Tryd.func17 (by kernel_rfl) rfl #[.agg #[.int .u64 bh, .int .u64 be, .slice bj bf.length bi], .string a1] rfl (by (try simp only [List.map_toArray, List.map_cons, List.map_nil]); first | done | rfl | (simp only [List.length_drop, List.length_take]; rfl)) ?_; (with_reducible refine (ledger_Find.calls bh be _ _ bf a1 bm bo bq bp bu bw bz false _ ?side1 ?side2 A4.out).mono ?_); (case side1 => repeat (first | exact (Kd.C_below bG.out HB.out) | (with_reducible refine Kd.C_alloc ?_ _) | (with_reducible refine Kd.C_drewN ?_ _) | (with_reducible refine Kd.C_drew ?_))); (case side2 => exact bH.out); rintro e w18 ⟨dr, rfl, ho0, hb⟩; refine ⟨_, rfl, ?_⟩; have bl := Aside0.mk (Kd.R_lower ho0 (below_size zx25_0)); replace bd := Aside0.mk (blk_below (g := bc) (o := .cells #[.int .u64 bh, .int .u64 be, .slice bj bf.length bi] 27 (0, 0)) zx25_1 hb); replace HB := Aside0.mk (below_step zx25_0 hb); (try clear hb); (try clear hb2); (try clear hk); (try clear hi); (try clear ho0)) | ((with_reducible refine gate_dst (N := 7) rfl ?_); refine box_event ?hg (N := 7) ?hd (cs := #[.string (⟨#[]⟩ : ByteArray), .int .u64 0, .int .u64 0, .slice none 0 0, .int .u64 0, .int .u64 0, .int .u64 0]) (t := 37) ?hr ?_; (case hd => rfl); (case hg => rfl); (case hr => first | (go_simp; done) | (go_simp; rfl)); intro bb hg w19 hbox hb; replace bl := Aside0.mk (Kd.R_below (by (with_reducible repeat (first | apply Kd.R_alloc | apply Kd.R_drewN | apply Kd.R_drew)); exact bl.out) hb); have ba := Aside0.mk (hbox); have bJ := Aside0.mk ((by rw [hg]; exact (below_size zx25_0) : w.heap.size ≤ bb)); have bA := Aside0.mk ((by rw [hg]; exact (below_size zx25_0) : w.heap.size ≤ bb)); replace HB := Aside0.mk (below_step zx25_0 hb); have bk := Aside0.mk ((by rw [hg]; exact Nat.ne_of_lt (blk_lt (g := bc) (o := .cells #[.int .u64 bh, .int .u64 be, .slice bj bf.length bi] 27 (0, 0)) zx25_1) : bc ≠ bb)); have bn := Aside0.mk ((by rw [hg]; exact Nat.ne_of_gt (blk_lt (g := bc) (o := .cells #[.int .u64 bh, .int .u64 be, .slice bj bf.length bi] 27 (0, 0)) zx25_1) : bb ≠ bc)); replace bd := Aside0.mk (blk_below (g := bc) (o := .cells #[.int .u64 bh, .int .u64 be, .slice bj bf.length bi] 27 (0, 0)) zx25_1 hb); clear hb hbox hg; have dC := bn.out; have dA := bk.out; have dc : w19.cell? ⟨bb, 0, none⟩ = some (.string (⟨#[]⟩ : ByteArray)) := (blk_cell ba.out 0).trans rfl; have db : w19.cell? ⟨bb, 1, none⟩ = some (.int .u64 0) := (blk_cell ba.out 1).trans rfl; have da : w19.cell? ⟨bb, 2, none⟩ = some (.int .u64 0) := (blk_cell ba.out 2).trans rfl; have b9 : w19.cell? ⟨bb, 3, none⟩ = some (.slice none 0 0) := (blk_cell ba.out 3).trans rfl; have b8 : w19.cell? ⟨bb, 4, none⟩ = some (.int .u64 0) := (blk_cell ba.out 4).trans rfl; have b7 : w19.cell? ⟨bb, 5, none⟩ = some (.int .u64 0) := (blk_cell ba.out 5).trans rfl; have b6 : w19.cell? ⟨bb, 6, none⟩ = some (.int .u64 0) := (blk_cell ba.out 6).trans rfl; have bR := blk_frozen ba.out 0; have bQ := blk_frozen ba.out 1; have bP := blk_frozen ba.out 2; have bO := blk_frozen ba.out 3; have bN := blk_frozen ba.out 4; have bM := blk_frozen ba.out 5; have bL := blk_frozen ba.out 6; obtain ⟨dH, dG, dy⟩ := Kd.R_slice bl.out; subst dy))
  go_ret
  exact ⟨by first | rfl | (simp [errW_none, errW_some] <;> rfl) | (simp [*, errW_none, errW_some] <;> rfl), by repeat (first | (with_reducible first | exact HB.out | apply below_alloc | apply pw_below_drewN | apply below_drew1 | refine below_set ?_ bx.out | refine below_set ?_ bA.out) | exact HB.out)⟩

 subst c5
 have H1 : ((ledger_Dest_waits.f k bm bo bq bp bu bw bz a2 be).bind fun br => (some br)) = some r := by rw [if_pos rfl] at H; exact H
 clear H
 have H := H1
 clear H1
 replace H := Option.bind_eq_some_iff.mp H
 obtain ⟨br, A60, H⟩ := H
 replace H : (some br) = some r := H
 have A6 := Aside0.mk A60
 clear A60
 obtain rfl := Option.some.inj H
 go_enter Tryd.func19, Tryd.ntmps19
 go_wp2_with (first | ((with_reducible refine gate_dst (N := 3) rfl ?_); refine box_event ?hg (N := 3) ?hd (cs := #[.int .u64 bh, .int .u64 be, .slice bj bf.length bi]) (t := 27) ?hr ?_; (case hd => rfl); (case hg => rfl); (case hr => first | (go_simp; done) | (go_simp; rfl)); intro bc hg w7 hbox hb; have bd := Aside0.mk (hbox); have bK := Aside0.mk ((by rw [hg]; exact (below_size zx25_3) : w.heap.size ≤ bc)); have bx := Aside0.mk ((by rw [hg]; exact (below_size zx25_3) : w.heap.size ≤ bc)); replace HB := Aside0.mk (below_step zx25_3 hb); clear hb hbox hg; have dx : w7.cell? ⟨bc, 0, none⟩ = some (.int .u64 bh) := (blk_cell bd.out 0).trans rfl; have dw : w7.cell? ⟨bc, 1, none⟩ = some (.int .u64 be) := (blk_cell bd.out 1).trans rfl; have dv : w7.cell? ⟨bc, 2, none⟩ = some (.slice bj bf.length bi) := (blk_cell bd.out 2).trans rfl; have du := blk_frozen bd.out 0; have dt := blk_frozen bd.out 1; have ds := blk_frozen bd.out 2) | ((with_reducible refine gate_callee (f := 17) rfl ?_); refine goesL_ (some 12) rfl rfl Tryd.func17 (by kernel_rfl) rfl #[.agg #[.int .u64 bh, .int .u64 be, .slice bj bf.length bi], .string a1] rfl (by (try simp only [List.map_toArray, List.map_cons, List.map_nil]); first | done | rfl | (simp only [List.length_drop, List.length_take]; rfl)) ?_; (with_reducible refine (ledger_Find.calls bh be _ _ bf a1 bm bo bq bp bu bw bz true _ ?side1 ?side2 A4.out).mono ?_); (case side1 => repeat (first | exact (Kd.C_below bG.out HB.out) | (with_reducible refine Kd.C_alloc ?_ _) | (with_reducible refine Kd.C_drewN ?_ _) | (with_reducible refine Kd.C_drew ?_))); (case side2 => exact bH.out); rintro e w9 ⟨dr, rfl, ho0, hb⟩; refine ⟨_, rfl, ?_⟩; have bl := Aside0.mk (Kd.R_lower ho0 (below_size zx25_0)); replace bd := Aside0.mk (blk_below (g := bc) (o := .cells #[.int .u64 bh, .int .u64 be, .slice bj bf.length bi] 27 (0, 0)) zx25_1 hb); replace HB := Aside0.mk (below_step zx25_0 hb); (try clear hb); (try clear hb2); (try clear hk); (try clear hi); (try clear ho0)) | ((with_reducible refine gate_dst (N := 7) rfl ?_); refine box_event ?hg (N := 7) ?hd (cs := #[.string (⟨#[]⟩ : ByteArray), .int .u64 0, .int .u64 0, .slice none 0 0, .int .u64 0, .int .u64 0, .int .u64 0]) (t := 37) ?hr ?_; (case hd => rfl); (case hg => rfl); (case hr => first | (go_simp; done) | (go_simp; rfl)); intro bb hg w10 hbox hb; replace bl := Aside0.mk (Kd.R_below (by (with_reducible repeat (first | apply Kd.R_alloc | apply Kd.R_drewN | apply Kd.R_drew)); exact bl.out) hb); have ba := Aside0.mk (hbox); have bJ := Aside0.mk ((by rw [hg]; exact (below_size zx25_0) : w.heap.size ≤ bb)); have bA := Aside0.mk ((by rw [hg]; exact (below_size zx25_0) : w.heap.size ≤ bb)); replace HB := Aside0.mk (below_step zx25_0 hb); have bk := Aside0.mk ((by rw [hg]; exact Nat.ne_of_lt (blk_lt (g := bc) (o := .cells #[.int .u64 bh, .int .u64 be, .slice bj bf.length bi] 27 (0, 0)) zx25_1) : bc ≠ bb)); have bn := Aside0.mk ((by rw [hg]; exact Nat.ne_of_gt (blk_lt (g := bc) (o := .cells #[.int .u64 bh, .int .u64 be, .slice bj bf.length bi] 27 (0, 0)) zx25_1) : bb ≠ bc)); replace bd := Aside0.mk (blk_below (g := bc) (o := .cells #[.int .u64 bh, .int .u64 be, .slice bj bf.length bi] 27 (0, 0)) zx25_1 hb); clear hb hbox hg; have dD := bn.out; have dB := bk.out; have dq : w10.cell? ⟨bb, 0, none⟩ = some (.string (⟨#[]⟩ : ByteArray)) := (blk_cell ba.out 0).trans rfl; have dp : w10.cell? ⟨bb, 1, none⟩ = some (.int .u64 0) := (blk_cell ba.out 1).trans rfl; have dn : w10.cell? ⟨bb, 2, none⟩ = some (.int .u64 0) := (blk_cell ba.out 2).trans rfl; have dm : w10.cell? ⟨bb, 3, none⟩ = some (.slice none 0 0) := (blk_cell ba.out 3).trans rfl; have dl : w10.cell? ⟨bb, 4, none⟩ = some (.int .u64 0) := (blk_cell ba.out 4).trans rfl; have dk : w10.cell? ⟨bb, 5, none⟩ = some (.int .u64 0) := (blk_cell ba.out 5).trans rfl; have dj : w10.cell? ⟨bb, 6, none⟩ = some (.int .u64 0) := (blk_cell ba.out 6).trans rfl; have b5 := blk_frozen ba.out 0; have b4 := blk_frozen ba.out 1; have b3 := blk_frozen ba.out 2; have b2 := blk_frozen ba.out 3; have b1 := blk_frozen ba.out 4; have b0 := blk_frozen ba.out 5; have bZ := blk_frozen ba.out 6; obtain ⟨bC, bB, dz⟩ := Kd.R_slice bl.out; subst dz; have di : w10.cell? ⟨bc, 0, none⟩ = some (.int .u64 bh) := (blk_cell bd.out 0).trans rfl; have dh : w10.cell? ⟨bc, 1, none⟩ = some (.int .u64 be) := (blk_cell bd.out 1).trans rfl; have dg : w10.cell? ⟨bc, 2, none⟩ = some (.slice bj bf.length bi) := (blk_cell bd.out 2).trans rfl; have bY := blk_frozen bd.out 0; have bX := blk_frozen bd.out 1; have bW := blk_frozen bd.out 2) | (go_at_call 36; (with_reducible refine (ledger_Dest_waits.calls k bm bo bq _ _ bp bu bw bz a2 be br _ ?side1 ?side2 A6.out).mono ?_); (case side1 => refine (Kd.R_reads' (e := 24) (base := w.heap.size) (ok := fun k_ => True) (n := bp.length) (c := bB) ?_).2.2; exact zx25_2); (case side2 => exact (Kd.R_reads' bl.out).2.1); rintro e w15 ⟨rfl, hb⟩; replace bl := Aside0.mk (Kd.R_below zx25_2 hb); replace bd := Aside0.mk (blk_below (g := bc) (o := .cells #[.int .u64 bh, .int .u64 be, .slice bj bf.length bi] 27 (0, 0)) (by (iterate 7 ((with_reducible repeat (first | refine blk_drewN ?_ _ | refine blk_drew ?_ | refine blk_alloc ?_ _)); refine blk_far ?_ bk.out _)); (with_reducible repeat (first | refine blk_drewN ?_ _ | refine blk_drew ?_ | refine blk_alloc ?_ _)); exact bd.out) hb); replace ba := Aside0.mk (blk_below (g := bb) (o := .cells #[.string bm, .int .u64 bo, .int .u64 bq, .slice bC bp.length bB, .int .u64 bu, .int .u64 bw, .int .u64 bz] 37 (0, 0)) (by (with_reducible repeat (first | refine blk_drewN ?_ _ | refine blk_drew ?_ | refine blk_alloc ?_ _)); refine blk_put (cs := #[.string bm, .int .u64 bo, .int .u64 bq, .slice bC bp.length bB, .int .u64 bu, .int .u64 bw, .int .u64 0]) ?_ 6 _ rfl; (with_reducible repeat (first | refine blk_drewN ?_ _ | refine blk_drew ?_ | refine blk_alloc ?_ _)); refine blk_put (cs := #[.string bm, .int .u64 bo, .int .u64 bq, .slice bC bp.length bB, .int .u64 bu, .int .u64 0, .int .u64 0]) ?_ 5 _ rfl; (with_reducible repeat (first | refine blk_drewN ?_ _ | refine blk_drew ?_ | refine blk_alloc ?_ _)); refine blk_put (cs := #[.string bm, .int .u64 bo, .int .u64 bq, .slice bC bp.length bB, .int .u64 0, .int .u64 0, .int .u64 0]) ?_ 4 _ rfl; (with_reducible repeat (first | refine blk_drewN ?_ _ | refine blk_drew ?_ | refine blk_alloc ?_ _)); refine blk_put (cs := #[.string bm, .int .u64 bo, .int .u64 bq, .slice none 0 0, .int .u64 0, .int .u64 0, .int .u64 0]) ?_ 3 _ rfl; (with_reducible repeat (first | refine blk_drewN ?_ _ | refine blk_drew ?_ | refine blk_alloc ?_ _)); refine blk_put (cs := #[.string bm, .int .u64 bo, .int .u64 0, .slice none 0 0, .int .u64 0, .int .u64 0, .int .u64 0]) ?_ 2 _ rfl; (with_reducible repeat (first | refine blk_drewN ?_ _ | refine blk_drew ?_ | refine blk_alloc ?_ _)); refine blk_put (cs := #[.string bm, .int .u64 0, .int .u64 0, .slice none 0 0, .int .u64 0, .int .u64 0, .int .u64 0]) ?_ 1 _ rfl; (with_reducible repeat (first | refine blk_drewN ?_ _ | refine blk_drew ?_ | refine blk_alloc ?_ _)); refine blk_put (cs := #[.string (⟨#[]⟩ : ByteArray), .int .u64 0, .int .u64 0, .slice none 0 0, .int .u64 0, .int .u64 0, .int .u64 0]) ?_ 0 _ rfl; (with_reducible repeat (first | refine blk_drewN ?_ _ | refine blk_drew ?_ | refine blk_alloc ?_ _)); exact ba.out) hb); replace HB := Aside0.mk (below_step (by repeat (first | (with_reducible first | exact HB.out | apply below_alloc | apply pw_below_drewN | apply below_drew1 | refine below_set ?_ bx.out | refine below_set ?_ bA.out) | exact HB.out)) hb); (try clear hb); (try clear hb2); (try clear hk); (try clear hi)))
 go_ret
 exact ⟨by first | rfl | (simp [errW_none, errW_some] <;> rfl) | (simp [*, errW_none, errW_some] <;> rfl), by repeat (first | (with_reducible first | exact HB.out | apply below_alloc | apply pw_below_drewN | apply below_drew1 | refine below_set ?_ bx.out | refine below_set ?_ bA.out) | exact HB.out)⟩
-- NOT PRINTED: function 4 (postroomlaw10_LedgerCounts)

end Go.Proofs.YthhmpjapnkilcaaDoor.XLdg
end
section
/- What the functions of the translation answer, each as a plain Lean function, and that the code comes to it; for a law: its row. Conditions: none but those that each theorem names. Written by a program of this session (wip/xp). -/
namespace Go.Proofs.YthhmpjapnkilcaaDoor.XLdg
open Go.RowKit Go.Proofs.YthhmpjapnkilcaaDoorW.PrintWords Go.Proofs.YthhmpjapnkilcaaDoorW.PrintLast Go.Proofs.YthhmpjapnkilcaaDoorW.PrintMore
attribute [local go_sem] max2_int min2_int max_two min_two max_three min_three max_four min_four   -- for this text's walks alone
theorem cx33_bc3 {w : World} {g : Nat} {t : TypeId} {x0 x1 x2 : Value} (h : w.heap[g]? = some (.cells #[x0, x1, x2] t (0, 0))) : w.cell? ⟨g, 0, none⟩ = some x0 ∧ w.cell? ⟨g, 1, none⟩ = some x1 ∧ w.cell? ⟨g, 2, none⟩ = some x2 ∧ w.frozen? ⟨g, 0, none⟩ = false ∧ w.frozen? ⟨g, 1, none⟩ = false ∧ w.frozen? ⟨g, 2, none⟩ = false :=
 ⟨(blk_cell h 0).trans rfl, (blk_cell h 1).trans rfl, (blk_cell h 2).trans rfl, blk_frozen h 0, blk_frozen h 1, blk_frozen h 2⟩
theorem zx33_1 {p : Prop} (h : p := by (with_reducible repeat (first | refine blk_drewN ?_ _ | refine blk_drew ?_ | refine blk_alloc ?_ _)); exact bb.out) : p := h
theorem zx33_3 {p : Prop} (h : p := by repeat (first | (with_reducible first | exact HB.out | apply below_alloc | apply pw_below_drewN | apply below_drew1) | exact HB.out)) : p := h
theorem zx33_2 {p : Prop} (h : p := by (try simp only [List.map_toArray, List.map_cons, List.map_nil]); first | done | rfl | (simp only [List.length_drop, List.length_take]; rfl)) : p := h
theorem zx33_0 {p : Prop} (h : p := by repeat (first | (with_reducible first | exact HB.out | apply below_alloc | apply pw_below_drewN | apply below_drew1 | refine below_set ?_ bo.out) | exact HB.out)) : p := h
set_option linter.unusedVariables false
set_option linter.unusedSimpArgs false

/-! ### postroomref10_Pending: function 28 -/
mutual
def postroomref10_Pending.l0 : Nat → ByteArray → List Int → Int → Int → Int → Int → List (S84) → Option (List Int)
 | 0, _, _, _, _, _, _, _ => none
 | k + 1, x1, x5, x6, x7, bk, bf, bj => if x6 ≥ 0 then (postroomref10_Pending.j1 k x1 x5 x6 x7 (decide (x7 < bf)) bk bf bj) else (postroomref10_Pending.j1 k x1 x5 x6 x7 false bk bf bj)
def postroomref10_Pending.j1 : Nat → ByteArray → List Int → Int → Int → Bool → Int → Int → List (S84) → Option (List Int)
 | 0, _, _, _, _, _, _, _, _ => none
 | k + 1, x1, x5, x6, x7, x18, bk, bf, bj => if x18 = true then ((postroomref10_Waits.f k bk bf bj x1 x7).bind fun br => (if br = true then (if x5.length < 17592186044416 then (postroomref10_Pending.l0 k x1 (x5 ++ [x7]) x6 (IntKind.u64.wrap (x7 + 1)) bk bf bj) else (none)) else (postroomref10_Pending.l0 k x1 x5 x6 (IntKind.u64.wrap (x7 + 1)) bk bf bj))) else (some x5)
end
def postroomref10_Pending.f (k : Nat) (bd : Int) (bc : Int) (ba : List (S84)) (a1 : ByteArray) : Option (List Int) := (postroomref10_place.f k bd bc ba a1).bind fun bh => (postroomref10_Pending.l0 k a1 ([] : List Int) bh 1 bd bc ba)
set_option maxHeartbeats 8000000 in
set_option maxRecDepth 100000 in
theorem postroomref10_Pending.calls (k : Nat) (bd : Int) (bc : Int) (bm : Option Addr) (bl : Nat) (ba : List (S84)) (a1 : ByteArray) (r : List Int) (w : World) (bG : Kd.C k84 w bm ba.length ba) (bH : ba.length ≤ bl) (h : postroomref10_Pending.f k bd bc ba a1 = some r) :
  Calls Tryd.prog 28 #[.agg #[.int .u64 bd, .int .u64 bc, .slice bm ba.length bl], .string a1] w fun e w' => ∃ v0_ : Value, e = .returned (v0_) ∧ Kd.R (Kd.int .u64) 24 w' w.heap.size (fun _ => True) v0_ r ∧ Below w.heap.size w w' := by
 have b8 := Tryd.underlying57
 have bD := Aside0.mk bG
 have bE := Aside0.mk bH
 clear bG bH
 have HB := Aside0.mk (Below.refl w.heap.size w)
 have H : ((postroomref10_place.f k bd bc ba a1).bind fun bh => (postroomref10_Pending.l0 k a1 ([] : List Int) bh 1 bd bc ba)) = some r := h
 clear h
 replace H := Option.bind_eq_some_iff.mp H
 obtain ⟨bh, A30, H⟩ := H
 replace H : (postroomref10_Pending.l0 k a1 ([] : List Int) bh 1 bd bc ba) = some r := H
 have A3 := Aside0.mk A30
 clear A30
 have H' := Aside0.mk H
 clear H
 go_enter Tryd.func28, Tryd.ntmps28
 go_wp2_with (first | ((with_reducible refine gate_dst (N := 2) rfl ?_); refine box_event ?hg (N := 2) ?hd (cs := #[.int .u64 bd, .int .u64 bc, .slice bm ba.length bl]) (t := 57) ?hr ?_; (case hd => rfl); (case hg => rfl); (case hr => first | (go_simp; done) | (go_simp; rfl)); intro bi hg w4 hbox hb; have bb := Aside0.mk (hbox); have b6 := Aside0.mk ((by rw [hg]; exact (below_size zx33_3) : w.heap.size ≤ bi)); have bo := Aside0.mk ((by rw [hg]; exact (below_size zx33_3) : w.heap.size ≤ bi)); replace HB := Aside0.mk (below_step zx33_3 hb); clear hb hbox hg; have bC : w4.cell? ⟨bi, 0, none⟩ = some (.int .u64 bd) := (blk_cell bb.out 0).trans rfl; have bB : w4.cell? ⟨bi, 1, none⟩ = some (.int .u64 bc) := (blk_cell bb.out 1).trans rfl; have bA : w4.cell? ⟨bi, 2, none⟩ = some (.slice bm ba.length bl) := (blk_cell bb.out 2).trans rfl; have bz := blk_frozen bb.out 0; have bx := blk_frozen bb.out 1; have bw := blk_frozen bb.out 2) | ((with_reducible refine gate_callee (f := 46) rfl ?_); refine goesL_ (some 10) rfl rfl Tryd.func46 (by kernel_rfl) rfl #[.agg #[.int .u64 bd, .int .u64 bc, .slice bm ba.length bl], .string a1] rfl zx33_2 ?_; (with_reducible refine (postroomref10_place.calls k bd bc _ _ ba a1 bh _ ?side1 ?side2 A3.out).mono ?_); (case side1 => repeat (first | exact (Kd.C_below bD.out HB.out) | (with_reducible refine Kd.C_alloc ?_ _) | (with_reducible refine Kd.C_drewN ?_ _) | (with_reducible refine Kd.C_drew ?_))); (case side2 => exact bE.out); rintro e w6 ⟨rfl, hb⟩; refine ⟨_, rfl, ?_⟩; replace bb := Aside0.mk (blk_below (g := bi) (o := .cells #[.int .u64 bd, .int .u64 bc, .slice bm ba.length bl] 57 (0, 0)) zx33_1 hb); replace HB := Aside0.mk (below_step zx33_0 hb); (try clear hb); (try clear hb2); (try clear hk); (try clear hi)))
 go_loopg [5, 7] k (fun kq v5 v7 w' => ∃ (bg : List Int) (be : Int), v7 = .int .u64 be ∧ Aside0 (postroomref10_Pending.l0 kq a1 bg bh be bd bc ba = some r) ∧ Aside0 (kq ≤ k) ∧ Aside0 (Kd.R (Kd.int .u64) 24 w' w.heap.size (fun _ => True) v5 bg) ∧ Aside0 (w'.heap[bi]? = some (.cells #[.int .u64 bd, .int .u64 bc, (.slice bm ba.length bl)] 57 (0, 0))) ∧ Aside0 (Below w.heap.size w w'))
 case atStart => exact ⟨(([] : List Int)), (1), (by first | rfl | (simp; done) | (simp [*]; done)), H', ⟨Nat.le_refl _⟩, ⟨by first | exact Kd.R_nil _ _ _ _ _ | exact Kd.N_nil _ _ _ _ _ | exact Kd.V_nil _ _ _ _ _ | exact Kd.Q_nil _ _ _ _ _ | exact Kd.S_nil _ _ _ _ _⟩, ⟨by (with_reducible repeat (first | refine blk_drewN ?_ _ | refine blk_drew ?_ | refine blk_alloc ?_ _)); exact bb.out⟩, ⟨by repeat (first | (with_reducible first | exact HB.out | apply below_alloc | apply pw_below_drewN | apply below_drew1 | refine below_set ?_ bo.out) | exact HB.out)⟩⟩
 case round =>
  clear H'
  (try clear c2); (try clear p2); (try clear c4); (try clear bC); (try clear bB); (try clear bA); (try clear bz); (try clear bx); (try clear bw)
  obtain ⟨bg, be, rfl, HA, HK1, bn, bb, HB⟩ := hrel
  cases gk with
  | zero => exact absurd HA.out (by simp [postroomref10_Pending.l0])
  | succ k1 => ?_
  have H := HA.out
  clear HA
  simp only [postroomref10_Pending.l0] at H
  have HC7 := Aside0.mk H
  clear H
  go_upto_region 4 with (fail)
  go_cut [18] (fun v18 wc => ∃ (kq : Nat) (bq : Bool), v18 = .bool bq ∧ Aside0 (postroomref10_Pending.j1 kq a1 bg bh be bq bd bc ba = some r) ∧ Aside0 (kq ≤ k1) ∧ Aside0 (Kd.R (Kd.int .u64) 24 wc w.heap.size (fun _ => True) u5 bg) ∧ Aside0 (wc.heap[bi]? = some (.cells #[.int .u64 bd, .int .u64 bc, (.slice bm ba.length bl)] 57 (0, 0))) ∧ Aside0 (Below w.heap.size w wc))
  case first =>
   have H := HC7.out
   clear HC7
   by_cases c8 : bh ≥ 0
   case neg =>
    rw [if_neg c8] at H
    have bu : decide (0 ≤ bh) = false := decide_eq_false c8
    clear c8
    (first | rw [bu] | (simp only [i64_w, i32_w]; rw [bu]) | skip)
    have H' := Aside0.mk H
    clear H
    go_wp2
    go_meet
    case rel => exact ⟨_, (false), (by first | rfl | (simp; done) | (simp [*]; done)), H', ⟨by have := HK1.out; first | omega | exact Nat.le_refl _⟩, ⟨by (with_reducible repeat (first | apply Kd.R_alloc | apply Kd.R_drewN | apply Kd.R_drew)); exact bn.out⟩, ⟨by (with_reducible repeat (first | refine blk_drewN ?_ _ | refine blk_drew ?_ | refine blk_alloc ?_ _)); exact bb.out⟩, ⟨by repeat (first | (with_reducible first | exact HB.out | apply below_alloc | apply pw_below_drewN | apply below_drew1 | refine below_set ?_ bo.out) | exact HB.out)⟩⟩
   rw [if_pos c8] at H
   have bu : decide (0 ≤ bh) = true := decide_eq_true c8
   clear c8
   (first | rw [bu] | (simp only [i64_w, i32_w]; rw [bu]) | skip)
   have H' := Aside0.mk H
   clear H
   obtain ⟨bN, bM, bL, bK, bJ, bI⟩ := cx33_bc3 bb.out
   go_wp2
   go_meet
   case rel => exact ⟨_, (decide (be < bc)), (by first | rfl | (simp; done) | (simp [*]; done)), H', ⟨by have := HK1.out; first | omega | exact Nat.le_refl _⟩, ⟨by (with_reducible repeat (first | apply Kd.R_alloc | apply Kd.R_drewN | apply Kd.R_drew)); exact bn.out⟩, ⟨by (with_reducible repeat (first | refine blk_drewN ?_ _ | refine blk_drew ?_ | refine blk_alloc ?_ _)); exact bb.out⟩, ⟨by repeat (first | (with_reducible first | exact HB.out | apply below_alloc | apply pw_below_drewN | apply below_drew1 | refine below_set ?_ bo.out) | exact HB.out)⟩⟩
  case rest =>
   clear HC7
   (try clear c2); (try clear p2); (try clear c4); (try clear c8); (try clear bu); (try clear bC); (try clear bB); (try clear bA); (try clear bN); (try clear bM); (try clear bL); (try clear bz); (try clear bx); (try clear bw); (try clear bK); (try clear bJ); (try clear bI); (try clear p2)
   obtain ⟨kq, bq, rfl, HA, HJ6, bn, bb, HB⟩ := hcut
   cases kq with
   | zero => exact absurd HA.out (by simp [postroomref10_Pending.j1])
   | succ kj6 => ?_
   have H := HA.out
   clear HA
   simp only [postroomref10_Pending.j1] at H
   by_cases c10 : bq = true
   case neg =>
    replace c10 := Bool.eq_false_iff.mpr c10
    subst c10
    have H1 : (some bg) = some r := by rw [if_neg (show ¬ (false = true) by decide)] at H; exact H
    clear H
    have H := H1
    clear H1
    obtain rfl := Option.some.inj H
    go_wp2
    go_ret
    exact ⟨_, by first | rfl | (simp [errW_none, errW_some] <;> rfl) | (simp [*, errW_none, errW_some] <;> rfl), by (with_reducible repeat (first | apply Kd.R_alloc | apply Kd.R_drewN | apply Kd.R_drew)); exact bn.out, by repeat (first | (with_reducible first | exact HB.out | apply below_alloc | apply pw_below_drewN | apply below_drew1 | refine below_set ?_ bo.out) | exact HB.out)⟩

   subst c10
   have H1 : ((postroomref10_Waits.f kj6 bd bc ba a1 be).bind fun br => (if br = true then (if bg.length < 17592186044416 then (postroomref10_Pending.l0 kj6 a1 (bg ++ [be]) bh (IntKind.u64.wrap (be + 1)) bd bc ba) else (none)) else (postroomref10_Pending.l0 kj6 a1 bg bh (IntKind.u64.wrap (be + 1)) bd bc ba))) = some r := by rw [if_pos rfl] at H; exact H
   clear H
   have H := H1
   clear H1
   replace H := Option.bind_eq_some_iff.mp H
   obtain ⟨br, bS, H⟩ := H
   replace H : (if br = true then (if bg.length < 17592186044416 then (postroomref10_Pending.l0 kj6 a1 (bg ++ [be]) bh (IntKind.u64.wrap (be + 1)) bd bc ba) else (none)) else (postroomref10_Pending.l0 kj6 a1 bg bh (IntKind.u64.wrap (be + 1)) bd bc ba)) = some r := H
   have A11 := Aside0.mk bS
   clear bS
   by_cases c12 : br = true
   case neg =>
    replace c12 := Bool.eq_false_iff.mpr c12
    subst c12
    have H1 : (postroomref10_Pending.l0 kj6 a1 bg bh (IntKind.u64.wrap (be + 1)) bd bc ba) = some r := by rw [if_neg (show ¬ (false = true) by decide)] at H; exact H
    clear H
    have H := H1
    clear H1
    have H' := Aside0.mk H
    clear H
    obtain ⟨b2, b1, b0, bW, bV, bU⟩ := cx33_bc3 bb.out
    go_wp2_with (first | ((with_reducible refine gate_callee (f := 29) rfl ?_); refine goesL_ (some 24) rfl rfl Tryd.func29 (by kernel_rfl) rfl #[.agg #[.int .u64 bd, .int .u64 bc, .slice bm ba.length bl], .string a1, .int .u64 be] rfl zx33_2 ?_; (with_reducible refine (postroomref10_Waits.calls kj6 bd bc _ _ ba a1 be false _ ?side1 ?side2 A11.out).mono ?_); (case side1 => repeat (first | exact (Kd.C_below bD.out HB.out) | (with_reducible refine Kd.C_alloc ?_ _) | (with_reducible refine Kd.C_drewN ?_ _) | (with_reducible refine Kd.C_drew ?_))); (case side2 => exact bE.out); rintro e w18 ⟨rfl, hb⟩; refine ⟨_, rfl, ?_⟩; replace bn := Aside0.mk (Kd.R_below (by (with_reducible repeat (first | apply Kd.R_alloc | apply Kd.R_drewN | apply Kd.R_drew)); exact bn.out) hb); replace bb := Aside0.mk (blk_below (g := bi) (o := .cells #[.int .u64 bd, .int .u64 bc, .slice bm ba.length bl] 57 (0, 0)) zx33_1 hb); replace HB := Aside0.mk (below_step zx33_0 hb); (try clear hb); (try clear hb2); (try clear hk); (try clear hi)))
    go_roundg kj6
    case measure => have := HK1.out; have := HJ6.out; omega
    case rel => exact ⟨(bg), (IntKind.u64.wrap (be + 1)), (by first | rfl | (simp; done) | (simp [*]; done)), H', ⟨by have := HK1.out; have := HJ6.out; omega⟩, ⟨by (with_reducible repeat (first | apply Kd.R_alloc | apply Kd.R_drewN | apply Kd.R_drew)); exact bn.out⟩, ⟨by (with_reducible repeat (first | refine blk_drewN ?_ _ | refine blk_drew ?_ | refine blk_alloc ?_ _)); exact bb.out⟩, ⟨by repeat (first | (with_reducible first | exact HB.out | apply below_alloc | apply pw_below_drewN | apply below_drew1 | refine below_set ?_ bo.out) | exact HB.out)⟩⟩
   subst c12
   have H1 : (if bg.length < 17592186044416 then (postroomref10_Pending.l0 kj6 a1 (bg ++ [be]) bh (IntKind.u64.wrap (be + 1)) bd bc ba) else (none)) = some r := by rw [if_pos rfl] at H; exact H
   clear H
   have H := H1
   clear H1
   by_cases c13 : bg.length < 17592186044416
   case neg =>
    rw [if_neg c13] at H
    exact absurd H (by simp)
   rw [if_pos c13] at H
   have bQ := Aside0.mk c13
   clear c13
   obtain ⟨bO, bp⟩ : ∃ y_ : List Int, y_ = (bg ++ [be]) := ⟨_, rfl⟩
   replace H : (postroomref10_Pending.l0 kj6 a1 bO bh (IntKind.u64.wrap (be + 1)) bd bc ba) = some r := by first | (rw [bp]; with_reducible exact H) | (have H2_ := (Option.bind_some _ _).symm.trans H; rw [bp]; with_reducible exact H2_) | (have H2_ := (Option.bind_some _ _).symm.trans H; with_reducible exact H2_) | with_reducible exact H | (rw [bp]; exact H) | exact H
   have bP := Aside0.mk bp
   clear bp
   have H' := Aside0.mk H
   clear H
   obtain ⟨b5, b4, b3, bZ, bY, bX⟩ := cx33_bc3 bb.out
   go_wp2_with (first | ((with_reducible refine gate_callee (f := 29) rfl ?_); refine goesL_ (some 24) rfl rfl Tryd.func29 (by kernel_rfl) rfl #[.agg #[.int .u64 bd, .int .u64 bc, .slice bm ba.length bl], .string a1, .int .u64 be] rfl zx33_2 ?_; (with_reducible refine (postroomref10_Waits.calls kj6 bd bc _ _ ba a1 be true _ ?side1 ?side2 A11.out).mono ?_); (case side1 => repeat (first | exact (Kd.C_below bD.out HB.out) | (with_reducible refine Kd.C_alloc ?_ _) | (with_reducible refine Kd.C_drewN ?_ _) | (with_reducible refine Kd.C_drew ?_))); (case side2 => exact bE.out); rintro e w15 ⟨rfl, hb⟩; refine ⟨_, rfl, ?_⟩; replace bn := Aside0.mk (Kd.R_below (by (with_reducible repeat (first | apply Kd.R_alloc | apply Kd.R_drewN | apply Kd.R_drew)); exact bn.out) hb); replace bb := Aside0.mk (blk_below (g := bi) (o := .cells #[.int .u64 bd, .int .u64 bc, .slice bm ba.length bl] 57 (0, 0)) zx33_1 hb); replace HB := Aside0.mk (below_step zx33_0 hb); (try clear hb); (try clear hb2); (try clear hk); (try clear hi)) | ((with_reducible refine gate_builtin (b := .append) (xs := #[.tmp 25, .tmp 27]) rfl ?_); at_builtin; refine Kd.R_append (Kd.int .u64) (w0 := w) w.heap.size rfl (.tmp 25) (.tmp 27) 35 24 (.int .u64 0) 8 rfl Tryd.underlying35 info24 rfl (by decide) (by omega) u5 bg be [.int .u64 be] (fun _ => True) (fun _ => False) rfl rfl ?aP (fun _ hk => hk.elim) ?aF ?aO ?aB ?aS ?aL ?_; (case aP => exact rfl); (case aB => exact zx33_0); (case aF => exact (fun _ _ => trivial)); (case aO => exact (by (with_reducible repeat (first | apply Kd.R_alloc | apply Kd.R_drewN | apply Kd.R_drew)); exact bn.out)); (case aS => exact (below_size zx33_0)); (case aL => have := bQ.out; omega); intro b7 w16 ho hb hg hat; rw [← bP.out] at ho; have n0_ := Aside0.mk (blk_grown (g := bi) (o := .cells #[.int .u64 bd, .int .u64 bc, .slice bm ba.length bl] 57 (0, 0)) zx33_1 hg (Kd.R_ne bn.out bb.out (by decide))); have n1_ := Aside0.mk (hb); have n2_ := Aside0.mk (ho); clear bb; clear HB; clear bn; have bb := n0_; have HB := n1_; have bR := n2_; clear n0_ n1_ n2_; clear ho hb hg hat))
   go_roundg kj6
   case measure => have := HK1.out; have := HJ6.out; omega
   case rel => exact ⟨(bO), (IntKind.u64.wrap (be + 1)), (by first | rfl | (simp; done) | (simp [*]; done)), H', ⟨by have := HK1.out; have := HJ6.out; omega⟩, ⟨by (with_reducible repeat (first | apply Kd.R_alloc | apply Kd.R_drewN | apply Kd.R_drew)); exact bR.out⟩, ⟨by (with_reducible repeat (first | refine blk_drewN ?_ _ | refine blk_drew ?_ | refine blk_alloc ?_ _)); exact bb.out⟩, ⟨by repeat (first | (with_reducible first | exact HB.out | apply below_alloc | apply pw_below_drewN | apply below_drew1 | refine below_set ?_ bo.out) | exact HB.out)⟩⟩
end Go.Proofs.YthhmpjapnkilcaaDoor.XLdg
end
section
/- What the functions of the translation answer, each as a plain Lean function, and that the code comes to it; for a law: its row. Conditions: none but those that each theorem names. Written by a program of this session (wip/xp). -/
namespace Go.Proofs.YthhmpjapnkilcaaDoor.XLdg
open Go.RowKit Go.Proofs.YthhmpjapnkilcaaDoorW.PrintWords Go.Proofs.YthhmpjapnkilcaaDoorW.PrintLast Go.Proofs.YthhmpjapnkilcaaDoorW.PrintMore
attribute [local go_sem] max2_int min2_int max_two min_two max_three min_three max_four min_four   -- for this text's walks alone
theorem cx34_bc3 {w : World} {g : Nat} {t : TypeId} {x0 x1 x2 : Value} (h : w.heap[g]? = some (.cells #[x0, x1, x2] t (0, 0))) : w.cell? ⟨g, 0, none⟩ = some x0 ∧ w.cell? ⟨g, 1, none⟩ = some x1 ∧ w.cell? ⟨g, 2, none⟩ = some x2 ∧ w.frozen? ⟨g, 0, none⟩ = false ∧ w.frozen? ⟨g, 1, none⟩ = false ∧ w.frozen? ⟨g, 2, none⟩ = false :=
 ⟨(blk_cell h 0).trans rfl, (blk_cell h 1).trans rfl, (blk_cell h 2).trans rfl, blk_frozen h 0, blk_frozen h 1, blk_frozen h 2⟩
theorem zx34_0 {p : Prop} (h : p := by repeat (first | (with_reducible first | exact HB.out | apply below_alloc | apply pw_below_drewN | apply below_drew1) | exact HB.out)) : p := h
set_option linter.unusedVariables false
set_option linter.unusedSimpArgs false

/-! ### postroomref10_Free: function 30 -/
mutual
def postroomref10_Free.l0 : Nat → Int → Int → Int → List (S84) → Option (Int)
 | 0, _, _, _, _ => none
 | k + 1, x3, bq, bn, bm => if x3 < bn then (postroomref10_Free.l1 k x3 0 bq bn bm) else (some bn)
def postroomref10_Free.l1 : Nat → Int → Int → Int → Int → List (S84) → Option (Int)
 | 0, _, _, _, _, _ => none
 | k + 1, x3, x4, bq, bn, bm => if x4 < (bm.length : Int) then (if 0 ≤ x4 then ((postroomref10_Waits.f k bq bn bm ((rd_T84 bm x4).f0) x3).bind fun bH => (if bH = true then (some x3) else (postroomref10_Free.l1 k x3 (wrap64 (x4 + 1)) bq bn bm))) else (none)) else (postroomref10_Free.l0 k (IntKind.u64.wrap (x3 + 1)) bq bn bm)
end
def postroomref10_Free.f (k : Nat) (bl : Int) (bk : Int) (bb : List (S84)) : Option (Int) := postroomref10_Free.l0 k 1 bl bk bb
def postroomref10_Free.T7 : Bool × List (List Nat × List Nat) := (true, [([], []), ([], []), ([1], [1]), ([], []), ([2, 3], [2, 3]), ([4], [4]), ([5], [5]), ([], []), ([0, 6, 7], [0, 6, 7])])
def postroomref10_Free.B7 : List Nat := [0, 0, 2, 0, 14, 30, 62, 0, 255]
theorem postroomref10_Free.tab7 : rtab .any (opsOf Tryd.f30 7) = postroomref10_Free.T7 := by kernel_rfl
theorem postroomref10_Free.bits7 : waitsOk postroomref10_Free.T7.2 postroomref10_Free.B7 = true := by kernel_rfl
set_option maxHeartbeats 8000000 in
set_option maxRecDepth 100000 in
theorem postroomref10_Free.calls (k : Nat) (bl : Int) (bk : Int) (bG : Option Addr) (bx : Nat) (bb : List (S84)) (r : Int) (w : World) (bJ : Kd.C k84 w bG bb.length bb) (bK : bb.length ≤ bx) (h : postroomref10_Free.f k bl bk bb = some r) :
  Calls Tryd.prog 30 #[.agg #[.int .u64 bl, .int .u64 bk, .slice bG bb.length bx]] w fun e w' => e = .returned (.int .u64 r) ∧ Below w.heap.size w w' := by
 have dl := Tryd.underlying57
 have bE := Aside0.mk bJ
 have bL := Aside0.mk bK
 clear bJ bK
 have HB := Aside0.mk (Below.refl w.heap.size w)
 have H : (postroomref10_Free.l0 k 1 bl bk bb) = some r := h
 clear h
 have H' := Aside0.mk H
 clear H
 go_enter Tryd.func30, Tryd.ntmps30
 go_wp2_with (first | ((with_reducible refine gate_dst (N := 1) rfl ?_); refine box_event ?hg (N := 1) ?hd (cs := #[.int .u64 bl, .int .u64 bk, .slice bG bb.length bx]) (t := 57) ?hr ?_; (case hd => rfl); (case hg => rfl); (case hr => first | (go_simp; done) | (go_simp; rfl)); intro bo hg w2 hbox hb; have ba := Aside0.mk (hbox); have dk := Aside0.mk ((by rw [hg]; exact (below_size zx34_0) : w.heap.size ≤ bo)); have bw := Aside0.mk ((by rw [hg]; exact (below_size zx34_0) : w.heap.size ≤ bo)); replace HB := Aside0.mk (below_step zx34_0 hb); clear hb hbox hg))
 go_loopg [3] k (fun kq v3 w' => ∃ (bp : Int), v3 = .int .u64 bp ∧ Aside0 (postroomref10_Free.l0 kq bp bl bk bb = some r) ∧ Aside0 (kq ≤ k) ∧ Aside0 (w'.heap[bo]? = some (.cells #[.int .u64 bl, .int .u64 bk, (.slice bG bb.length bx)] 57 (0, 0))) ∧ Aside0 (Below w.heap.size w w'))
 case atStart => exact ⟨(1), (by first | rfl | (simp; done) | (simp [*]; done)), H', ⟨Nat.le_refl _⟩, ⟨by (with_reducible repeat (first | refine blk_drewN ?_ _ | refine blk_drew ?_ | refine blk_alloc ?_ _)); exact ba.out⟩, ⟨by repeat (first | (with_reducible first | exact HB.out | apply below_alloc | apply pw_below_drewN | apply below_drew1 | refine below_set ?_ bw.out) | exact HB.out)⟩⟩
 case round =>
  clear H'
  (try clear p2)
  obtain ⟨bp, rfl, HA, HK1, ba, HB⟩ := hrel
  cases gk with
  | zero => exact absurd HA.out (by simp [postroomref10_Free.l0])
  | succ k1 => ?_
  have H := HA.out
  clear HA
  simp only [postroomref10_Free.l0] at H
  by_cases c3 : bp < bk
  case neg =>
   rw [if_neg c3] at H
   have bU : decide (bp < bk) = false := decide_eq_false c3
   clear c3
   obtain rfl := Option.some.inj H
   obtain ⟨b6, b5, b4, bX, bW, bV⟩ := cx34_bc3 ba.out
   go_wp2
   go_ret
   exact ⟨by first | rfl | (simp [errW_none, errW_some] <;> rfl) | (simp [*, errW_none, errW_some] <;> rfl), by repeat (first | (with_reducible first | exact HB.out | apply below_alloc | apply pw_below_drewN | apply below_drew1 | refine below_set ?_ bw.out) | exact HB.out)⟩

  rw [if_pos c3] at H
  have bU : decide (bp < bk) = true := decide_eq_true c3
  clear c3
  have H' := Aside0.mk H
  clear H
  obtain ⟨bR, bQ, bP, bO, bN, bM⟩ := cx34_bc3 ba.out
  go_wp2
  go_loopg [4] k1 (fun kq v4 w' => ∃ (bc : Int), v4 = .int .i64 bc ∧ Aside0 (postroomref10_Free.l1 kq bp bc bl bk bb = some r) ∧ Aside0 (kq ≤ k1) ∧ Aside0 (w'.heap[bo]? = some (.cells #[.int .u64 bl, .int .u64 bk, (.slice bG bb.length bx)] 57 (0, 0))) ∧ Aside0 (Below w.heap.size w w'))
  case atStart => exact ⟨(0), (by first | rfl | (simp; done) | (simp [*]; done)), H', ⟨Nat.le_refl _⟩, ⟨by (with_reducible repeat (first | refine blk_drewN ?_ _ | refine blk_drew ?_ | refine blk_alloc ?_ _)); exact ba.out⟩, ⟨by repeat (first | (with_reducible first | exact HB.out | apply below_alloc | apply pw_below_drewN | apply below_drew1 | refine below_set ?_ bw.out) | exact HB.out)⟩⟩
  case round =>
   clear H'
   (try clear p2); (try clear c3); (try clear bU); (try clear bR); (try clear bQ); (try clear bP); (try clear bO); (try clear bN); (try clear bM); (try clear p2)
   obtain ⟨bc, rfl, HA, HK2, ba, HB⟩ := hrel
   cases gk with
   | zero => exact absurd HA.out (by simp [postroomref10_Free.l1])
   | succ k2 => ?_
   have H := HA.out
   clear HA
   simp only [postroomref10_Free.l1] at H
   by_cases c5 : bc < (bb.length : Int)
   case neg =>
    rw [if_neg c5] at H
    have dj : decide (bc < (bb.length : Int)) = false := decide_eq_false c5
    clear c5
    have H' := Aside0.mk H
    clear H
    obtain ⟨b9, b8, b7, b0, bZ, bY⟩ := cx34_bc3 ba.out
    go_wp2
    go_roundg k2
    case measure => have := HK1.out; have := HK2.out; omega
    case rel => exact ⟨(IntKind.u64.wrap (bp + 1)), (by first | rfl | (simp; done) | (simp [*]; done)), H', ⟨by have := HK1.out; have := HK2.out; omega⟩, ⟨by (with_reducible repeat (first | refine blk_drewN ?_ _ | refine blk_drew ?_ | refine blk_alloc ?_ _)); exact ba.out⟩, ⟨by repeat (first | (with_reducible first | exact HB.out | apply below_alloc | apply pw_below_drewN | apply below_drew1 | refine below_set ?_ bw.out) | exact HB.out)⟩⟩
   rw [if_pos c5] at H
   have dj : decide (bc < (bb.length : Int)) = true := decide_eq_true c5
   clear c5
   by_cases c6 : 0 ≤ bc
   case neg =>
    rw [if_neg c6] at H
    exact absurd H (by simp)
   rw [if_pos c6] at H
   have dm : decide (0 ≤ bc) = true := decide_eq_true c6
   clear c6
   replace H := Option.bind_eq_some_iff.mp H
   obtain ⟨bH, A70, H⟩ := H
   replace H : (if bH = true then (some bp) else (postroomref10_Free.l1 k2 bp (wrap64 (bc + 1)) bl bk bb)) = some r := H
   have A7 := Aside0.mk A70
   clear A70
   by_cases c8 : bH = true
   ·subst c8
    have H1 : (some bp) = some r := by rw [if_pos rfl] at H; exact H
    clear H
    have H := H1
    clear H1
    obtain rfl := Option.some.inj H
    obtain ⟨di, dh, dg, df, de, dd⟩ := cx34_bc3 ba.out
    try go_wp2
    replace ba := Aside0.mk (blk_drew ba.out)
    replace HB := Aside0.mk (below_drew1 HB.out)
    have bB : 0 ≤ (bc : Int) := of_decide_eq_true (by first | (with_reducible assumption) | assumption)
    have bA : bc < (bb.length : Int) := of_decide_eq_true (by first | (with_reducible assumption) | assumption)
    obtain ⟨bg, bD, bC, bS, bf, be, bd, br, bu⟩ := at_T84 bE.out bc bB bA
    have bh := bd
    have bi := be
    have bj := bf
    cases bS
    replace bf := (HB.out.cell (World.block_lt_of_cell? w _ bf)).trans bf
    replace be := (HB.out.cell (World.block_lt_of_cell? w _ be)).trans be
    replace bd := (HB.out.cell (World.block_lt_of_cell? w _ bd)).trans bd
    have bz := Aside0.mk bu
    have bI := Aside0.mk br
    clear bu br
    replace bB := eq_true bB
    replace bA := eq_true bA
    refine start_ (n := 9) (S := fun w' => w'.cell? ⟨bo, 0, none⟩ = some (.int .u64 bl) ∧ w'.cell? ⟨bo, 1, none⟩ = some (.int .u64 bk) ∧ w'.cell? ⟨bo, 2, none⟩ = some (.slice (some bg) bb.length bx) ∧ w'.cell? (bg.add ((bc).toNat * 3)) = some (.string ((rd_T84 bb bc).f0)) ∧ w'.cell? ⟨(bg.add ((bc).toNat * 3)).block, (bg.add ((bc).toNat * 3)).off + 1, none⟩ = some (.int .u64 ((rd_T84 bb bc).f1)) ∧ w'.cell? ⟨(bg.add ((bc).toNat * 3)).block, (bg.add ((bc).toNat * 3)).off + 2, none⟩ = some (.slice bD ((rd_T84 bb bc).f2).length bC)) (ds := []) #[Ff,Ff,Ff,Ff,Ff,Ff,Ff,Ff,Ff] (by kernel_rfl) rfl rfl ⟨(blk_cell ba.out 0).trans rfl, (blk_cell ba.out 1).trans rfl, (blk_cell ba.out 2).trans rfl, ((HB.out.cell (World.block_lt_of_cell? w _ bj)).trans bj), ((HB.out.cell (World.block_lt_of_cell? w _ bi)).trans bi), ((HB.out.cell (World.block_lt_of_cell? w _ bh)).trans bh)⟩ (fun hHeld => ?_); refine with_tabW postroomref10_Free.tab7 postroomref10_Free.bits7 (fun HT_ HW_ => ?_)
    generalize wr.drew = w10 at ba HB bz bf be bd hHeld ⊢
    refine pp_ 1 (some 19) HT_.out ?_
    refine pp_ 3 (some 21) HT_.out ?_
    refine pp_ 7 (some 25) HT_.out ?_
    refine take_ (i := 0) (N := some 18) (v := ?_) (a' := ?_) #[Tt,Tt,Ff,Tt,Ff,Ff,Ff,Tt,Ff] rfl rfl (take_ofW HT_.out HW_.out (by kernel_rfl)) (fun _ _ _ h => h) (Or.inl ⟨by rfl, ?_⟩) hHeld ?_ ?_
    rotate_left
    ·rintro w' ⟨s0, s1, s2, s3, s4, s5⟩
     go_simp
     with_reducible rfl
    rotate_left
    ·simp only [Act.put, List.setIfInBounds_toArray, List.set_cons_zero, List.set_cons_succ, i64_w, i32_w]
     rfl
    refine take_ (i := 2) (N := some 20) (v := ?_) (a' := ?_) #[Tt,Tt,Tt,Tt,Ff,Ff,Ff,Tt,Ff] rfl rfl (take_ofW HT_.out HW_.out (by kernel_rfl)) (fun _ _ _ h => h) (Or.inl ⟨by rfl, ?_⟩) hHeld ?_ ?_
    rotate_left
    ·rintro w' ⟨s0, s1, s2, s3, s4, s5⟩
     go_simp
     with_reducible rfl
    rotate_left
    ·simp only [Act.put, List.setIfInBounds_toArray, List.set_cons_zero, List.set_cons_succ, i64_w, i32_w]
     rfl
    refine pp_ 4 (some 22) HT_.out ?_
    refine pp_ 5 (some 23) HT_.out ?_
    refine take_ (i := 6) (N := some 24) (v := ?_) (a' := ?_) #[Tt,Tt,Tt,Tt,Tt,Tt,Tt,Tt,Ff] rfl rfl (take_ofW HT_.out HW_.out (by kernel_rfl)) (fun _ _ _ h => h) (Or.inl ⟨by rfl, ?_⟩) hHeld ?_ ?_
    rotate_left
    ·rintro w' ⟨s0, s1, s2, s3, s4, s5⟩
     go_simp
     with_reducible rfl
    rotate_left
    ·simp only [Act.put, List.setIfInBounds_toArray, List.set_cons_zero, List.set_cons_succ, i64_w, i32_w]
     rfl
    refine one_ (i := 8) (N := some 26) #[Tt,Tt,Tt,Tt,Tt,Tt,Tt,Tt,Tt] rfl rfl (one_of HT_.out (by kernel_rfl)) (by decide) (fun K hK => ?_)
    refine goes_ Tryd.func29 (by kernel_rfl) rfl #[.agg #[.int .u64 bl, .int .u64 bk, .slice (some bg) bb.length bx], .string ((rd_T84 bb bc).f0), .int .u64 bp] (by rfl) rfl rfl (by (try simp only [List.map_toArray, List.map_cons, List.map_nil]); first | done | rfl | (simp only [List.length_drop, List.length_take]; rfl)) ?_
    with_reducible refine (postroomref10_Waits.calls k2 bl bk _ _ bb ((rd_T84 bb bc).f0) bp true _ ?side1 ?side2 A7.out).mono ?_
    (case side1 => repeat (first | exact (Kd.C_below bE.out HB.out) | (with_reducible refine Kd.C_alloc ?_ _) | (with_reducible refine Kd.C_drewN ?_ _) | (with_reducible refine Kd.C_drew ?_)))
    (case side2 => exact bL.out)
    rintro e w11 ⟨rfl, hb⟩
    refine ⟨_, rfl, ?_⟩
    replace ba := Aside0.mk (blk_below (g := bo) (o := .cells #[.int .u64 bl, .int .u64 bk, .slice (some bg) bb.length bx] 57 (0, 0)) (by (with_reducible repeat (first | refine blk_drewN ?_ _ | refine blk_drew ?_ | refine blk_alloc ?_ _)); exact ba.out) hb)
    replace HB := Aside0.mk (below_step (by repeat (first | (with_reducible first | exact HB.out | apply below_alloc | apply pw_below_drewN | apply below_drew1 | refine below_set ?_ bw.out) | exact HB.out)) hb)
    (try clear hb)
    (try clear hb2)
    (try clear hk)
    (try clear hi)
    refine hK.out _ _ ⟨(blk_cell ba.out 0).trans rfl, (blk_cell ba.out 1).trans rfl, (blk_cell ba.out 2).trans rfl, ((HB.out.cell (World.block_lt_of_cell? w _ bj)).trans bj), ((HB.out.cell (World.block_lt_of_cell? w _ bi)).trans bi), ((HB.out.cell (World.block_lt_of_cell? w _ bh)).trans bh)⟩ (fun hHeld => ?_)
    clear hK K
    refine norm_ (a' := ?_) ?_ ?_
    rotate_left
    ·show Act.put _ (some 26) _ = _
     simp only [Act.put, List.setIfInBounds_toArray, List.set_cons_zero, List.set_cons_succ, i64_w, i32_w]
     rfl
    refine done_ (done_of HT_.out (by kernel_rfl)) ?_
    try go_wp2
    go_ret
    exact ⟨by first | rfl | (simp [errW_none, errW_some] <;> rfl) | (simp [*, errW_none, errW_some] <;> rfl), by repeat (first | (with_reducible first | exact HB.out | apply below_alloc | apply pw_below_drewN | apply below_drew1 | refine below_set ?_ bw.out) | exact HB.out)⟩
   replace c8 := Bool.eq_false_iff.mpr c8
   subst c8
   have H1 : (postroomref10_Free.l1 k2 bp (wrap64 (bc + 1)) bl bk bb) = some r := by rw [if_neg (show ¬ (false = true) by decide)] at H; exact H
   clear H
   have H := H1
   clear H1
   have H' := Aside0.mk H
   clear H
   obtain ⟨dc, db, da, b3, b2, b1⟩ := cx34_bc3 ba.out
   try go_wp2
   replace ba := Aside0.mk (blk_drew ba.out)
   replace HB := Aside0.mk (below_drew1 HB.out)
   have bB : 0 ≤ (bc : Int) := of_decide_eq_true (by first | (with_reducible assumption) | assumption)
   have bA : bc < (bb.length : Int) := of_decide_eq_true (by first | (with_reducible assumption) | assumption)
   obtain ⟨bg, bD, bC, bS, bf, be, bd, br, bu⟩ := at_T84 bE.out bc bB bA
   have bh := bd
   have bi := be
   have bj := bf
   cases bS
   replace bf := (HB.out.cell (World.block_lt_of_cell? w _ bf)).trans bf
   replace be := (HB.out.cell (World.block_lt_of_cell? w _ be)).trans be
   replace bd := (HB.out.cell (World.block_lt_of_cell? w _ bd)).trans bd
   have bz := Aside0.mk bu
   have bI := Aside0.mk br
   clear bu br
   replace bB := eq_true bB
   replace bA := eq_true bA
   refine start_ (n := 9) (S := fun w' => w'.cell? ⟨bo, 0, none⟩ = some (.int .u64 bl) ∧ w'.cell? ⟨bo, 1, none⟩ = some (.int .u64 bk) ∧ w'.cell? ⟨bo, 2, none⟩ = some (.slice (some bg) bb.length bx) ∧ w'.cell? (bg.add ((bc).toNat * 3)) = some (.string ((rd_T84 bb bc).f0)) ∧ w'.cell? ⟨(bg.add ((bc).toNat * 3)).block, (bg.add ((bc).toNat * 3)).off + 1, none⟩ = some (.int .u64 ((rd_T84 bb bc).f1)) ∧ w'.cell? ⟨(bg.add ((bc).toNat * 3)).block, (bg.add ((bc).toNat * 3)).off + 2, none⟩ = some (.slice bD ((rd_T84 bb bc).f2).length bC)) (ds := []) #[Ff,Ff,Ff,Ff,Ff,Ff,Ff,Ff,Ff] (by kernel_rfl) rfl rfl ⟨(blk_cell ba.out 0).trans rfl, (blk_cell ba.out 1).trans rfl, (blk_cell ba.out 2).trans rfl, ((HB.out.cell (World.block_lt_of_cell? w _ bj)).trans bj), ((HB.out.cell (World.block_lt_of_cell? w _ bi)).trans bi), ((HB.out.cell (World.block_lt_of_cell? w _ bh)).trans bh)⟩ (fun hHeld => ?_); refine with_tabW postroomref10_Free.tab7 postroomref10_Free.bits7 (fun HT_ HW_ => ?_)
   generalize wr.drew = w13 at ba HB bz bf be bd hHeld ⊢
   refine pp_ 1 (some 19) HT_.out ?_
   refine pp_ 3 (some 21) HT_.out ?_
   refine pp_ 7 (some 25) HT_.out ?_
   refine take_ (i := 0) (N := some 18) (v := ?_) (a' := ?_) #[Tt,Tt,Ff,Tt,Ff,Ff,Ff,Tt,Ff] rfl rfl (take_ofW HT_.out HW_.out (by kernel_rfl)) (fun _ _ _ h => h) (Or.inl ⟨by rfl, ?_⟩) hHeld ?_ ?_
   rotate_left
   ·rintro w' ⟨s0, s1, s2, s3, s4, s5⟩
    go_simp
    with_reducible rfl
   rotate_left
   ·simp only [Act.put, List.setIfInBounds_toArray, List.set_cons_zero, List.set_cons_succ, i64_w, i32_w]
    rfl
   refine take_ (i := 2) (N := some 20) (v := ?_) (a' := ?_) #[Tt,Tt,Tt,Tt,Ff,Ff,Ff,Tt,Ff] rfl rfl (take_ofW HT_.out HW_.out (by kernel_rfl)) (fun _ _ _ h => h) (Or.inl ⟨by rfl, ?_⟩) hHeld ?_ ?_
   rotate_left
   ·rintro w' ⟨s0, s1, s2, s3, s4, s5⟩
    go_simp
    with_reducible rfl
   rotate_left
   ·simp only [Act.put, List.setIfInBounds_toArray, List.set_cons_zero, List.set_cons_succ, i64_w, i32_w]
    rfl
   refine pp_ 4 (some 22) HT_.out ?_
   refine pp_ 5 (some 23) HT_.out ?_
   refine take_ (i := 6) (N := some 24) (v := ?_) (a' := ?_) #[Tt,Tt,Tt,Tt,Tt,Tt,Tt,Tt,Ff] rfl rfl (take_ofW HT_.out HW_.out (by kernel_rfl)) (fun _ _ _ h => h) (Or.inl ⟨by rfl, ?_⟩) hHeld ?_ ?_
   rotate_left
   ·rintro w' ⟨s0, s1, s2, s3, s4, s5⟩
    go_simp
    with_reducible rfl
   rotate_left
   ·simp only [Act.put, List.setIfInBounds_toArray, List.set_cons_zero, List.set_cons_succ, i64_w, i32_w]
    rfl
   refine one_ (i := 8) (N := some 26) #[Tt,Tt,Tt,Tt,Tt,Tt,Tt,Tt,Tt] rfl rfl (one_of HT_.out (by kernel_rfl)) (by decide) (fun K hK => ?_)
   refine goes_ Tryd.func29 (by kernel_rfl) rfl #[.agg #[.int .u64 bl, .int .u64 bk, .slice (some bg) bb.length bx], .string ((rd_T84 bb bc).f0), .int .u64 bp] (by rfl) rfl rfl (by (try simp only [List.map_toArray, List.map_cons, List.map_nil]); first | done | rfl | (simp only [List.length_drop, List.length_take]; rfl)) ?_
   with_reducible refine (postroomref10_Waits.calls k2 bl bk _ _ bb ((rd_T84 bb bc).f0) bp false _ ?side1 ?side2 A7.out).mono ?_
   (case side1 => repeat (first | exact (Kd.C_below bE.out HB.out) | (with_reducible refine Kd.C_alloc ?_ _) | (with_reducible refine Kd.C_drewN ?_ _) | (with_reducible refine Kd.C_drew ?_)))
   (case side2 => exact bL.out)
   rintro e w14 ⟨rfl, hb⟩
   refine ⟨_, rfl, ?_⟩
   replace ba := Aside0.mk (blk_below (g := bo) (o := .cells #[.int .u64 bl, .int .u64 bk, .slice (some bg) bb.length bx] 57 (0, 0)) (by (with_reducible repeat (first | refine blk_drewN ?_ _ | refine blk_drew ?_ | refine blk_alloc ?_ _)); exact ba.out) hb)
   replace HB := Aside0.mk (below_step (by repeat (first | (with_reducible first | exact HB.out | apply below_alloc | apply pw_below_drewN | apply below_drew1 | refine below_set ?_ bw.out) | exact HB.out)) hb)
   (try clear hb)
   (try clear hb2)
   (try clear hk)
   (try clear hi)
   refine hK.out _ _ ⟨(blk_cell ba.out 0).trans rfl, (blk_cell ba.out 1).trans rfl, (blk_cell ba.out 2).trans rfl, ((HB.out.cell (World.block_lt_of_cell? w _ bj)).trans bj), ((HB.out.cell (World.block_lt_of_cell? w _ bi)).trans bi), ((HB.out.cell (World.block_lt_of_cell? w _ bh)).trans bh)⟩ (fun hHeld => ?_)
   clear hK K
   refine norm_ (a' := ?_) ?_ ?_
   rotate_left
   ·show Act.put _ (some 26) _ = _
    simp only [Act.put, List.setIfInBounds_toArray, List.set_cons_zero, List.set_cons_succ, i64_w, i32_w]
    rfl
   refine done_ (done_of HT_.out (by kernel_rfl)) ?_
   try go_wp2
   go_roundg k2
   case measure => have := HK1.out; have := HK2.out; omega
   case rel => exact ⟨(wrap64 (bc + 1)), (by first | rfl | (simp; done) | (simp [*]; done)), H', ⟨by have := HK1.out; have := HK2.out; omega⟩, ⟨by (with_reducible repeat (first | refine blk_drewN ?_ _ | refine blk_drew ?_ | refine blk_alloc ?_ _)); exact ba.out⟩, ⟨by repeat (first | (with_reducible first | exact HB.out | apply below_alloc | apply pw_below_drewN | apply below_drew1 | refine below_set ?_ bw.out) | exact HB.out)⟩⟩
end Go.Proofs.YthhmpjapnkilcaaDoor.XLdg
end
section
/- What the functions of the translation answer, each as a plain Lean function, and that the code comes to it; for a law: its row. Conditions: none but those that each theorem names. Written by a program of this session (wip/xp). -/
namespace Go.Proofs.YthhmpjapnkilcaaDoor.XLdg
open Go.RowKit Go.Proofs.YthhmpjapnkilcaaDoorW.PrintWords Go.Proofs.YthhmpjapnkilcaaDoorW.PrintLast Go.Proofs.YthhmpjapnkilcaaDoorW.PrintMore
attribute [local go_sem] max2_int min2_int max_two min_two max_three min_three max_four min_four   -- for this text's walks alone
theorem cx41_bc3 {w : World} {g : Nat} {t : TypeId} {x0 x1 x2 : Value} (h : w.heap[g]? = some (.cells #[x0, x1, x2] t (0, 0))) : w.cell? ⟨g, 0, none⟩ = some x0 ∧ w.cell? ⟨g, 1, none⟩ = some x1 ∧ w.cell? ⟨g, 2, none⟩ = some x2 ∧ w.frozen? ⟨g, 0, none⟩ = false ∧ w.frozen? ⟨g, 1, none⟩ = false ∧ w.frozen? ⟨g, 2, none⟩ = false :=
 ⟨(blk_cell h 0).trans rfl, (blk_cell h 1).trans rfl, (blk_cell h 2).trans rfl, blk_frozen h 0, blk_frozen h 1, blk_frozen h 2⟩
theorem cx41_bc7 {w : World} {g : Nat} {t : TypeId} {x0 x1 x2 x3 x4 x5 x6 : Value} (h : w.heap[g]? = some (.cells #[x0, x1, x2, x3, x4, x5, x6] t (0, 0))) : w.cell? ⟨g, 0, none⟩ = some x0 ∧ w.cell? ⟨g, 1, none⟩ = some x1 ∧ w.cell? ⟨g, 2, none⟩ = some x2 ∧ w.cell? ⟨g, 3, none⟩ = some x3 ∧ w.cell? ⟨g, 4, none⟩ = some x4 ∧ w.cell? ⟨g, 5, none⟩ = some x5 ∧ w.cell? ⟨g, 6, none⟩ = some x6 ∧ w.frozen? ⟨g, 0, none⟩ = false ∧ w.frozen? ⟨g, 1, none⟩ = false ∧ w.frozen? ⟨g, 2, none⟩ = false ∧ w.frozen? ⟨g, 3, none⟩ = false ∧ w.frozen? ⟨g, 4, none⟩ = false ∧ w.frozen? ⟨g, 5, none⟩ = false ∧ w.frozen? ⟨g, 6, none⟩ = false :=
 ⟨(blk_cell h 0).trans rfl, (blk_cell h 1).trans rfl, (blk_cell h 2).trans rfl, (blk_cell h 3).trans rfl, (blk_cell h 4).trans rfl, (blk_cell h 5).trans rfl, (blk_cell h 6).trans rfl, blk_frozen h 0, blk_frozen h 1, blk_frozen h 2, blk_frozen h 3, blk_frozen h 4, blk_frozen h 5, blk_frozen h 6⟩
theorem zx41_0 {p : Prop} (h : p := by (with_reducible repeat (first | refine blk_drewN ?_ _ | refine blk_drew ?_ | refine blk_alloc ?_ _)); exact ba.out) : p := h
theorem zx41_2 {p : Prop} (h : p := by repeat (first | (with_reducible first | exact HB.out | apply below_alloc | apply pw_below_drewN | apply below_drew1) | exact HB.out)) : p := h
theorem zx41_1 {p : Prop} (h : p := by repeat (first | (with_reducible first | exact HB.out | apply below_alloc | apply pw_below_drewN | apply below_drew1 | refine below_set ?_ bA.out) | exact HB.out)) : p := h
set_option linter.unusedVariables false
set_option linter.unusedSimpArgs false

/-! ### ledger_Dest_right: function 38 -/
def ledger_Dest_right.l0 : Nat → Int → List Int → Int → Int → ByteArray → Int → Int → List Int → Int → Int → Int → Int → Int → List (S37) → Option (Bool)
 | 0, _, _, _, _, _, _, _, _, _, _, _, _, _, _ => none
 | k + 1, x5, x36, x37, x38, bO, bq, bp, bw, bE, bD, bC, bI, bB, bN => if x38 < x37 then (if 0 ≤ x38 then (if x38 < (x36.length : Int) then (if (rd x36 x38) ≤ x5 then (none) else (if (rd x36 x38) ≥ bB then (none) else (ledger_Dest_right.l0 k (rd x36 x38) x36 x37 (wrap64 (x38 + 1)) bO bq bp bw bE bD bC bI bB bN))) else (none)) else (none)) else (if (IntKind.u64.wrap ((IntKind.u64.wrap (bB - bq)) - (IntKind.u64.wrap ((IntKind.u64.wrap (bp - bq)) + (IntKind.u64.wrap ((bw.length : Int))))))) = 0 then (some ((IntKind.u64.wrap ((IntKind.u64.wrap (bE + bD)) + bC)) == (IntKind.u64.wrap ((IntKind.u64.wrap (bp - bq)) + (IntKind.u64.wrap ((bw.length : Int))))))) else (if bp ≥ bI then (some ((IntKind.u64.wrap ((IntKind.u64.wrap (bE + bD)) + bC)) == (IntKind.u64.wrap ((IntKind.u64.wrap (bp - bq)) + (IntKind.u64.wrap ((bw.length : Int))))))) else (none)))
def ledger_Dest_right.f (k : Nat) (bi : ByteArray) (bd : Int) (bc : Int) (bb : List Int) (bn : Int) (bm : Int) (bl : Int) (bu : Int) (bg : Int) (bo : List (S37)) : Option (Bool) := (label_Name.f bi).bind fun bJ => (if bJ = true then (if bd < 1 then (none) else (if bc < bd then (none) else (if bg < bc then (none) else (ledger_Dest_right.l0 k bc bb (bb.length : Int) 0 bi bd bc bb bn bm bl bu bg bo)))) else (none))
set_option maxHeartbeats 8000000 in
set_option maxRecDepth 100000 in
theorem ledger_Dest_right.calls (k : Nat) (bi : ByteArray) (bd : Int) (bc : Int) (bz : Option Addr) (bx : Nat) (bb : List Int) (bn : Int) (bm : Int) (bl : Int) (bu : Int) (bg : Int) (bL : Option Addr) (bK : Nat) (bo : List (S37)) (r : Bool) (w : World) (dq : Kd.C (Kd.int .u64) w bz bb.length bb) (ds : bb.length ≤ bx) (dp : Kd.C k37 w bL bo.length bo) (dr : bo.length ≤ bK) (h : ledger_Dest_right.f k bi bd bc bb bn bm bl bu bg bo = some r) :
  Calls Tryd.prog 38 #[.agg #[.string bi, .int .u64 bd, .int .u64 bc, .slice bz bb.length bx, .int .u64 bn, .int .u64 bm, .int .u64 bl], .agg #[.int .u64 bu, .int .u64 bg, .slice bL bo.length bK]] w fun e w' => e = .returned (.bool r) ∧ Below w.heap.size w w' := by
 have gI := Tryd.underlying37
 have gJ := Tryd.underlying27
 have dy := Aside0.mk dq
 have gF := Aside0.mk ds
 clear dq ds
 have gD := Aside0.mk dp
 have gE := Aside0.mk dr
 clear dp dr
 have HB := Aside0.mk (Below.refl w.heap.size w)
 have H : ((label_Name.f bi).bind fun bJ => (if bJ = true then (if bd < 1 then (none) else (if bc < bd then (none) else (if bg < bc then (none) else (ledger_Dest_right.l0 k bc bb (bb.length : Int) 0 bi bd bc bb bn bm bl bu bg bo)))) else (none))) = some r := h
 clear h
 replace H := Option.bind_eq_some_iff.mp H
 obtain ⟨bJ, A30, H⟩ := H
 replace H : (if bJ = true then (if bd < 1 then (none) else (if bc < bd then (none) else (if bg < bc then (none) else (ledger_Dest_right.l0 k bc bb (bb.length : Int) 0 bi bd bc bb bn bm bl bu bg bo)))) else (none)) = some r := H
 have A3 := Aside0.mk A30
 clear A30
 by_cases c4 : bJ = true
 case neg =>
  replace c4 := Bool.eq_false_iff.mpr c4
  subst c4
  have H1 : (none) = some r := by rw [if_neg (show ¬ (false = true) by decide)] at H; exact H
  clear H
  have H := H1
  clear H1
  exact absurd H (by simp)

 subst c4
 have H1 : (if bd < 1 then (none) else (if bc < bd then (none) else (if bg < bc then (none) else (ledger_Dest_right.l0 k bc bb (bb.length : Int) 0 bi bd bc bb bn bm bl bu bg bo)))) = some r := by rw [if_pos rfl] at H; exact H
 clear H
 have H := H1
 clear H1
 by_cases c5 : bd < 1
 ·rw [if_pos c5] at H
  exact absurd H (by simp)
 rw [if_neg c5] at H
 have go : decide (bd < 1) = false := decide_eq_false c5
 clear c5
 by_cases c6 : bc < bd
 ·rw [if_pos c6] at H
  exact absurd H (by simp)
 rw [if_neg c6] at H
 have gn : decide (bc < bd) = false := decide_eq_false c6
 clear c6
 by_cases c7 : bg < bc
 ·rw [if_pos c7] at H
  exact absurd H (by simp)
 rw [if_neg c7] at H
 have gm : decide (bg < bc) = false := decide_eq_false c7
 clear c7
 have H' := Aside0.mk H
 clear H
 go_enter Tryd.func38, Tryd.ntmps38
 go_wp2_with (first | ((with_reducible refine gate_dst (N := 2) rfl ?_); refine box_event ?hg (N := 2) ?hd (cs := #[.string bi, .int .u64 bd, .int .u64 bc, .slice bz bb.length bx, .int .u64 bn, .int .u64 bm, .int .u64 bl]) (t := 37) ?hr ?_; (case hd => rfl); (case hg => rfl); (case hr => first | (go_simp; done) | (go_simp; rfl)); intro be hg w8 hbox hb; have ba := Aside0.mk (hbox); have gH := Aside0.mk ((by rw [hg]; exact (below_size zx41_2) : w.heap.size ≤ be)); have bA := Aside0.mk ((by rw [hg]; exact (below_size zx41_2) : w.heap.size ≤ be)); replace HB := Aside0.mk (below_step zx41_2 hb); clear hb hbox hg) | ((with_reducible refine gate_dst (N := 3) rfl ?_); refine box_event ?hg (N := 3) ?hd (cs := #[.int .u64 bu, .int .u64 bg, .slice bL bo.length bK]) (t := 27) ?hr ?_; (case hd => rfl); (case hg => rfl); (case hr => first | (go_simp; done) | (go_simp; rfl)); intro br hg w9 hbox hb; have bh := Aside0.mk (hbox); have gG := Aside0.mk ((by rw [hg]; exact (below_size zx41_1) : w.heap.size ≤ br)); have bH := Aside0.mk ((by rw [hg]; exact (below_size zx41_1) : w.heap.size ≤ br)); replace HB := Aside0.mk (below_step zx41_1 hb); have bk := Aside0.mk ((by rw [hg]; exact Nat.ne_of_lt (blk_lt (g := be) (o := .cells #[.string bi, .int .u64 bd, .int .u64 bc, .slice bz bb.length bx, .int .u64 bn, .int .u64 bm, .int .u64 bl] 37 (0, 0)) zx41_0) : be ≠ br)); have bj := Aside0.mk ((by rw [hg]; exact Nat.ne_of_gt (blk_lt (g := be) (o := .cells #[.string bi, .int .u64 bd, .int .u64 bc, .slice bz bb.length bx, .int .u64 bn, .int .u64 bm, .int .u64 bl] 37 (0, 0)) zx41_0) : br ≠ be)); replace ba := Aside0.mk (blk_below (g := be) (o := .cells #[.string bi, .int .u64 bd, .int .u64 bc, .slice bz bb.length bx, .int .u64 bn, .int .u64 bm, .int .u64 bl] 37 (0, 0)) zx41_0 hb); clear hb hbox hg; have gw := bk.out; have gs := bj.out; have dn : w9.cell? ⟨be, 0, none⟩ = some (.string bi) := (blk_cell ba.out 0).trans rfl; have dm : w9.cell? ⟨be, 1, none⟩ = some (.int .u64 bd) := (blk_cell ba.out 1).trans rfl; have dl : w9.cell? ⟨be, 2, none⟩ = some (.int .u64 bc) := (blk_cell ba.out 2).trans rfl; have dk : w9.cell? ⟨be, 3, none⟩ = some (.slice bz bb.length bx) := (blk_cell ba.out 3).trans rfl; have dj : w9.cell? ⟨be, 4, none⟩ = some (.int .u64 bn) := (blk_cell ba.out 4).trans rfl; have di : w9.cell? ⟨be, 5, none⟩ = some (.int .u64 bm) := (blk_cell ba.out 5).trans rfl; have dh : w9.cell? ⟨be, 6, none⟩ = some (.int .u64 bl) := (blk_cell ba.out 6).trans rfl; have b6 := blk_frozen ba.out 0; have b5 := blk_frozen ba.out 1; have b4 := blk_frozen ba.out 2; have b3 := blk_frozen ba.out 3; have b2 := blk_frozen ba.out 4; have b1 := blk_frozen ba.out 5; have b0 := blk_frozen ba.out 6) | ((with_reducible refine gate_callee (f := 34) rfl ?_); refine goesL_ (some 12) rfl rfl Tryd.func34 (by kernel_rfl) rfl #[.string bi] rfl (by (try simp only [List.map_toArray, List.map_cons, List.map_nil]); first | done | rfl | (simp only [List.length_drop, List.length_take]; rfl)) ?_; (with_reducible refine (label_Name.calls bi true _ A3.out).mono ?_); rintro e w12 ⟨rfl, hb⟩; refine ⟨_, rfl, ?_⟩; replace ba := Aside0.mk (blk_below (g := be) (o := .cells #[.string bi, .int .u64 bd, .int .u64 bc, .slice bz bb.length bx, .int .u64 bn, .int .u64 bm, .int .u64 bl] 37 (0, 0)) zx41_0 hb); replace bh := Aside0.mk (blk_below (g := br) (o := .cells #[.int .u64 bu, .int .u64 bg, .slice bL bo.length bK] 27 (0, 0)) (by (with_reducible repeat (first | refine blk_drewN ?_ _ | refine blk_drew ?_ | refine blk_alloc ?_ _)); exact bh.out) hb); replace HB := Aside0.mk (below_step (by repeat (first | (with_reducible first | exact HB.out | apply below_alloc | apply pw_below_drewN | apply below_drew1 | refine below_set ?_ bA.out | refine below_set ?_ bH.out) | exact HB.out)) hb); (try clear hb); (try clear hb2); (try clear hk); (try clear hi); have dg : w12.cell? ⟨be, 0, none⟩ = some (.string bi) := (blk_cell ba.out 0).trans rfl; have df : w12.cell? ⟨be, 1, none⟩ = some (.int .u64 bd) := (blk_cell ba.out 1).trans rfl; have de : w12.cell? ⟨be, 2, none⟩ = some (.int .u64 bc) := (blk_cell ba.out 2).trans rfl; have dd : w12.cell? ⟨be, 3, none⟩ = some (.slice bz bb.length bx) := (blk_cell ba.out 3).trans rfl; have dc : w12.cell? ⟨be, 4, none⟩ = some (.int .u64 bn) := (blk_cell ba.out 4).trans rfl; have db : w12.cell? ⟨be, 5, none⟩ = some (.int .u64 bm) := (blk_cell ba.out 5).trans rfl; have da : w12.cell? ⟨be, 6, none⟩ = some (.int .u64 bl) := (blk_cell ba.out 6).trans rfl; have bZ := blk_frozen ba.out 0; have bY := blk_frozen ba.out 1; have bX := blk_frozen ba.out 2; have bW := blk_frozen ba.out 3; have bV := blk_frozen ba.out 4; have bU := blk_frozen ba.out 5; have bS := blk_frozen ba.out 6; have b9 : w12.cell? ⟨br, 0, none⟩ = some (.int .u64 bu) := (blk_cell bh.out 0).trans rfl; have b8 : w12.cell? ⟨br, 1, none⟩ = some (.int .u64 bg) := (blk_cell bh.out 1).trans rfl; have b7 : w12.cell? ⟨br, 2, none⟩ = some (.slice bL bo.length bK) := (blk_cell bh.out 2).trans rfl; have bR := blk_frozen bh.out 0; have bQ := blk_frozen bh.out 1; have bP := blk_frozen bh.out 2))
 go_loopg [5, 38] k (fun kq v5 v38 w' => ∃ (bM : Int) (bf : Int), v5 = .int .u64 bM ∧ v38 = .int .i64 bf ∧ Aside0 (ledger_Dest_right.l0 kq bM bb (bb.length : Int) bf bi bd bc bb bn bm bl bu bg bo = some r) ∧ Aside0 (kq ≤ k) ∧ Aside0 (w'.heap[be]? = some (.cells #[.string bi, .int .u64 bd, .int .u64 bc, (.slice bz bb.length bx), .int .u64 bn, .int .u64 bm, .int .u64 bl] 37 (0, 0))) ∧ Aside0 (w'.heap[br]? = some (.cells #[.int .u64 bu, .int .u64 bg, (.slice bL bo.length bK)] 27 (0, 0))) ∧ Aside0 (Below w.heap.size w w'))
 case atStart => exact ⟨(bc), (0), (by first | rfl | (simp; done) | (simp [*]; done)), (by first | rfl | (simp; done) | (simp [*]; done)), H', ⟨Nat.le_refl _⟩, ⟨by (with_reducible repeat (first | refine blk_drewN ?_ _ | refine blk_drew ?_ | refine blk_alloc ?_ _)); exact ba.out⟩, ⟨by (with_reducible repeat (first | refine blk_drewN ?_ _ | refine blk_drew ?_ | refine blk_alloc ?_ _)); exact bh.out⟩, ⟨by repeat (first | (with_reducible first | exact HB.out | apply below_alloc | apply pw_below_drewN | apply below_drew1 | refine below_set ?_ bA.out | refine below_set ?_ bH.out) | exact HB.out)⟩⟩
 case round =>
  clear H'
  (try clear c1); (try clear p2); (try clear c3); (try clear c4); (try clear c5); (try clear go); (try clear c6); (try clear gn); (try clear c7); (try clear gm); (try clear c10); (try clear dn); (try clear dm); (try clear dl); (try clear dk); (try clear dj); (try clear di); (try clear dh); (try clear dg); (try clear df); (try clear de); (try clear dd); (try clear dc); (try clear db); (try clear da); (try clear b9); (try clear b8); (try clear b7); (try clear b6); (try clear b5); (try clear b4); (try clear b3); (try clear b2); (try clear b1); (try clear b0); (try clear bZ); (try clear bY); (try clear bX); (try clear bW); (try clear bV); (try clear bU); (try clear bS); (try clear bR); (try clear bQ); (try clear bP)
  obtain ⟨bM, bf, rfl, rfl, HA, HK1, ba, bh, HB⟩ := hrel
  cases gk with
  | zero => exact absurd HA.out (by simp [ledger_Dest_right.l0])
  | succ k1 => ?_
  have H := HA.out
  clear HA
  simp only [ledger_Dest_right.l0] at H
  by_cases c15 : bf < (bb.length : Int)
  ·rw [if_pos c15] at H
   have dx : decide (bf < (bb.length : Int)) = true := decide_eq_true c15
   clear c15
   by_cases c16 : 0 ≤ bf
   case neg =>
    rw [if_neg c16] at H
    exact absurd H (by simp)
   rw [if_pos c16] at H
   have gB : decide (0 ≤ bf) = true := decide_eq_true c16
   clear c16
   by_cases c17 : bf < (bb.length : Int)
   case neg =>
    rw [if_neg c17] at H
    exact absurd H (by simp)
   rw [if_pos c17] at H
   have gA : decide (bf < (bb.length : Int)) = true := decide_eq_true c17
   clear c17
   by_cases c18 : (rd bb bf) ≤ bM
   ·rw [if_pos c18] at H
    exact absurd H (by simp)
   rw [if_neg c18] at H
   have gz : decide ((rd bb bf) ≤ bM) = false := decide_eq_false c18
   clear c18
   by_cases c19 : (rd bb bf) ≥ bg
   ·rw [if_pos c19] at H
    exact absurd H (by simp)
   rw [if_neg c19] at H
   have gy : decide (bg ≤ (rd bb bf)) = false := decide_eq_false c19
   clear c19
   have H' := Aside0.mk H
   clear H
   have du : 0 ≤ (bf : Int) := of_decide_eq_true (by first | (with_reducible assumption) | assumption)
   have dt : bf < (bb.length : Int) := of_decide_eq_true (by first | (with_reducible assumption) | assumption)
   obtain ⟨gC, gl, bG⟩ := Kd.at_int dy.out bf du dt
   cases gl
   replace bG := (HB.out.cell (World.block_lt_of_cell? w _ bG)).trans bG
   replace du := eq_true du
   replace dt := eq_true dt
   have gv := bj.out
   have gr := bk.out
   obtain ⟨gj, gi, gh, dV, dU, dT⟩ := cx41_bc3 bh.out
   go_wp2
   go_roundg k1
   case measure => have := HK1.out; omega
   case rel => exact ⟨(rd bb bf), (wrap64 (bf + 1)), (by first | rfl | (simp; done) | (simp [*]; done)), (by first | rfl | (simp; done) | (simp [*]; done)), H', ⟨by have := HK1.out; omega⟩, ⟨by (with_reducible repeat (first | refine blk_drewN ?_ _ | refine blk_drew ?_ | refine blk_alloc ?_ _)); exact ba.out⟩, ⟨by (with_reducible repeat (first | refine blk_drewN ?_ _ | refine blk_drew ?_ | refine blk_alloc ?_ _)); exact bh.out⟩, ⟨by repeat (first | (with_reducible first | exact HB.out | apply below_alloc | apply pw_below_drewN | apply below_drew1 | refine below_set ?_ bA.out | refine below_set ?_ bH.out) | exact HB.out)⟩⟩
  rw [if_neg c15] at H
  have dx : decide (bf < (bb.length : Int)) = false := decide_eq_false c15
  clear c15
  by_cases c22 : (IntKind.u64.wrap ((IntKind.u64.wrap (bg - bd)) - (IntKind.u64.wrap ((IntKind.u64.wrap (bc - bd)) + (IntKind.u64.wrap ((bb.length : Int))))))) = 0
  ·rw [if_pos c22] at H
   have dw : ((IntKind.u64.wrap ((IntKind.u64.wrap (bg - bd)) - (IntKind.u64.wrap ((IntKind.u64.wrap (bc - bd)) + (IntKind.u64.wrap ((bb.length : Int))))))) == 0) = true := beq_iff_eq.mpr c22
   have dv : ((IntKind.u64.wrap ((IntKind.u64.wrap (bg - bd)) - (IntKind.u64.wrap ((IntKind.u64.wrap (bc - bd)) + (IntKind.u64.wrap ((bb.length : Int))))))) != 0) = false := bne_eq_false_iff_eq.mpr c22
   clear c22
   obtain rfl := Option.some.inj H
   have gu := bk.out
   have gq := bj.out
   obtain ⟨gg, gf, ge, gc, gb, ga, d9, dS, dR, dQ, dP, dO, dN, dM⟩ := cx41_bc7 ba.out
   obtain ⟨d8, d7, d6, dL, dK, dJ⟩ := cx41_bc3 bh.out
   go_wp2
   go_ret
   exact ⟨by first | rfl | (simp [errW_none, errW_some] <;> rfl) | (simp [*, errW_none, errW_some] <;> rfl), by repeat (first | (with_reducible first | exact HB.out | apply below_alloc | apply pw_below_drewN | apply below_drew1 | refine below_set ?_ bA.out | refine below_set ?_ bH.out) | exact HB.out)⟩
  rw [if_neg c22] at H
  have dw : ((IntKind.u64.wrap ((IntKind.u64.wrap (bg - bd)) - (IntKind.u64.wrap ((IntKind.u64.wrap (bc - bd)) + (IntKind.u64.wrap ((bb.length : Int))))))) == 0) = false := beq_eq_false_iff_ne.mpr c22
  have dv : ((IntKind.u64.wrap ((IntKind.u64.wrap (bg - bd)) - (IntKind.u64.wrap ((IntKind.u64.wrap (bc - bd)) + (IntKind.u64.wrap ((bb.length : Int))))))) != 0) = true := bne_iff_ne.mpr c22
  by_cases c26 : bc ≥ bu
  case neg =>
   rw [if_neg c26] at H
   exact absurd H (by simp)
  rw [if_pos c26] at H
  have gx : decide (bu ≤ bc) = true := decide_eq_true c26
  clear c26
  obtain rfl := Option.some.inj H
  have gt := bk.out
  have gp := bj.out
  obtain ⟨d5, d4, d3, d2, d1, d0, dZ, dI, dH, dG, dF, dE, dD, dC⟩ := cx41_bc7 ba.out
  obtain ⟨dY, dX, dW, dB, dA, dz⟩ := cx41_bc3 bh.out
  go_wp2
  go_ret
  exact ⟨by first | rfl | (simp [errW_none, errW_some] <;> rfl) | (simp [*, errW_none, errW_some] <;> rfl), by repeat (first | (with_reducible first | exact HB.out | apply below_alloc | apply pw_below_drewN | apply below_drew1 | refine below_set ?_ bA.out | refine below_set ?_ bH.out) | exact HB.out)⟩
end Go.Proofs.YthhmpjapnkilcaaDoor.XLdg
end
