/- Texts of this seat, in one. Conditions: those that each theorem names. -/
import Derived.Test.YtmbigoeldobaiaaDoorXMrkP1
import Derived.Test.YtmbigoeldobaiaaDoorGLabelName
import Derived.Test.YtmbigoeldobaiaaDoorGPlace
import Derived.Test.YtmbigoeldobaiaaDoorGNumbers
section
/- What the functions of the translation answer, each as a plain Lean function, and that the code comes to it; for a law: its row. Conditions: none but those that each theorem names. Written by a program of this session (wip/xp). -/
namespace Go.Proofs.YtmbigoeldobaiaaDoor.XMrk
open Go.RowKit Go.Proofs.YtmbigoeldobaiaaDoorW.PrintWords Go.Proofs.YtmbigoeldobaiaaDoorW.PrintLast Go.Proofs.YtmbigoeldobaiaaDoorW.PrintMore
attribute [local go_sem] max2_int min2_int max_two min_two max_three min_three max_four min_four   -- for this text's walks alone
theorem cx2_bc3 {w : World} {g : Nat} {t : TypeId} {x0 x1 x2 : Value} (h : w.heap[g]? = some (.cells #[x0, x1, x2] t (0, 0))) : w.cell? ⟨g, 0, none⟩ = some x0 ∧ w.cell? ⟨g, 1, none⟩ = some x1 ∧ w.cell? ⟨g, 2, none⟩ = some x2 ∧ w.frozen? ⟨g, 0, none⟩ = false ∧ w.frozen? ⟨g, 1, none⟩ = false ∧ w.frozen? ⟨g, 2, none⟩ = false :=
 ⟨(blk_cell h 0).trans rfl, (blk_cell h 1).trans rfl, (blk_cell h 2).trans rfl, blk_frozen h 0, blk_frozen h 1, blk_frozen h 2⟩
theorem cx2_bc7 {w : World} {g : Nat} {t : TypeId} {x0 x1 x2 x3 x4 x5 x6 : Value} (h : w.heap[g]? = some (.cells #[x0, x1, x2, x3, x4, x5, x6] t (0, 0))) : w.cell? ⟨g, 0, none⟩ = some x0 ∧ w.cell? ⟨g, 1, none⟩ = some x1 ∧ w.cell? ⟨g, 2, none⟩ = some x2 ∧ w.cell? ⟨g, 3, none⟩ = some x3 ∧ w.cell? ⟨g, 4, none⟩ = some x4 ∧ w.cell? ⟨g, 5, none⟩ = some x5 ∧ w.cell? ⟨g, 6, none⟩ = some x6 ∧ w.frozen? ⟨g, 0, none⟩ = false ∧ w.frozen? ⟨g, 1, none⟩ = false ∧ w.frozen? ⟨g, 2, none⟩ = false ∧ w.frozen? ⟨g, 3, none⟩ = false ∧ w.frozen? ⟨g, 4, none⟩ = false ∧ w.frozen? ⟨g, 5, none⟩ = false ∧ w.frozen? ⟨g, 6, none⟩ = false :=
 ⟨(blk_cell h 0).trans rfl, (blk_cell h 1).trans rfl, (blk_cell h 2).trans rfl, (blk_cell h 3).trans rfl, (blk_cell h 4).trans rfl, (blk_cell h 5).trans rfl, (blk_cell h 6).trans rfl, blk_frozen h 0, blk_frozen h 1, blk_frozen h 2, blk_frozen h 3, blk_frozen h 4, blk_frozen h 5, blk_frozen h 6⟩
theorem zx2_5 {p : Prop} (h : p := by first | rfl | (simp; done) | (simp [*]; done)) : p := h
theorem zx2_7 {p : Prop} (h : p := by first | (with_reducible assumption) | assumption) : p := h
theorem zx2_0 {p : Prop} (h : p := by (with_reducible repeat (first | refine blk_drewN ?_ _ | refine blk_drew ?_ | refine blk_alloc ?_ _)); exact BK102.out) : p := h
theorem zx2_3 {p : Prop} (h : p := by (with_reducible repeat (first | refine blk_drewN ?_ _ | refine blk_drew ?_ | refine blk_alloc ?_ _)); exact BK103.out) : p := h
theorem zx2_6 {p : Prop} (h : p := by repeat (first | (with_reducible first | exact HB.out | apply below_alloc | apply pw_below_drewN | apply below_drew1) | exact HB.out)) : p := h
theorem zx2_2 {p : Prop} (h : p := by (try simp only [List.map_toArray, List.map_cons, List.map_nil]); first | done | rfl | (simp only [List.length_drop, List.length_take]; rfl)) : p := h
theorem zx2_4 {p : Prop} (h : p := by repeat (first | (with_reducible first | exact HB.out | apply below_alloc | apply pw_below_drewN | apply below_drew1 | refine below_set ?_ GE102.out) | exact HB.out)) : p := h
theorem zx2_1 {p : Prop} (h : p := by repeat (first | (with_reducible first | exact HB.out | apply below_alloc | apply pw_below_drewN | apply below_drew1 | refine below_set ?_ GE102.out | refine below_set ?_ GE103.out) | exact HB.out)) : p := h
set_option linter.unusedVariables false
set_option linter.unusedSimpArgs false

/-! ### ledger_Dest_right: function 31 -/
mutual
def ledger_Dest_right.j0 : Nat → Bool → ByteArray → Int → Int → List Int → Int → Int → Int → Int → Int → List (S55) → Option (Bool)
 | 0, _, _, _, _, _, _, _, _, _, _, _ => none
 | k + 1, x32, x103000, x103001, x103002, x103003, x103004, x103005, x103006, x104000, x104001, x104002 => if x32 = true then (some false) else (ledger_Dest_right.l0 k x103002 x103003 (x103003.length : Int) 0 x103000 x103001 x103002 x103003 x103004 x103005 x103006 x104000 x104001 x104002)
def ledger_Dest_right.l0 : Nat → Int → List Int → Int → Int → ByteArray → Int → Int → List Int → Int → Int → Int → Int → Int → List (S55) → Option (Bool)
 | 0, _, _, _, _, _, _, _, _, _, _, _, _, _, _ => none
 | k + 1, x5, x36, x37, x38, x103000, x103001, x103002, x103003, x103004, x103005, x103006, x104000, x104001, x104002 => if x38 < x37 then (if 0 ≤ x38 then (if x38 < (x36.length : Int) then (if (rd x36 x38) ≤ x5 then (some false) else (if (rd x36 x38) ≥ x104001 then (some false) else (ledger_Dest_right.l0 k (rd x36 x38) x36 x37 (wrap64 (x38 + 1)) x103000 x103001 x103002 x103003 x103004 x103005 x103006 x104000 x104001 x104002))) else (none)) else (none)) else (if (IntKind.u64.wrap ((IntKind.u64.wrap (x104001 - x103001)) - (IntKind.u64.wrap ((IntKind.u64.wrap (x103002 - x103001)) + (IntKind.u64.wrap ((x103003.length : Int))))))) = 0 then (some ((IntKind.u64.wrap ((IntKind.u64.wrap (x103004 + x103005)) + x103006)) == (IntKind.u64.wrap ((IntKind.u64.wrap (x103002 - x103001)) + (IntKind.u64.wrap ((x103003.length : Int))))))) else (if x103002 ≥ x104000 then (some ((IntKind.u64.wrap ((IntKind.u64.wrap (x103004 + x103005)) + x103006)) == (IntKind.u64.wrap ((IntKind.u64.wrap (x103002 - x103001)) + (IntKind.u64.wrap ((x103003.length : Int))))))) else (some false)))
end
def ledger_Dest_right.f (k : Nat) (a0_0 : ByteArray) (a0_1 : Int) (a0_2 : Int) (l0_3 : List Int) (a0_4 : Int) (a0_5 : Int) (a0_6 : Int) (a1_0 : Int) (a1_1 : Int) (l1_2 : List (S55)) : Option (Bool) := (label_Name.f a0_0).bind fun t104 => (if t104 = true then (if a0_1 < 1 then (ledger_Dest_right.j0 k true a0_0 a0_1 a0_2 l0_3 a0_4 a0_5 a0_6 a1_0 a1_1 l1_2) else (if a0_2 < a0_1 then (ledger_Dest_right.j0 k true a0_0 a0_1 a0_2 l0_3 a0_4 a0_5 a0_6 a1_0 a1_1 l1_2) else (ledger_Dest_right.j0 k (decide (a1_1 < a0_2)) a0_0 a0_1 a0_2 l0_3 a0_4 a0_5 a0_6 a1_0 a1_1 l1_2))) else (ledger_Dest_right.j0 k true a0_0 a0_1 a0_2 l0_3 a0_4 a0_5 a0_6 a1_0 a1_1 l1_2))
theorem ledger_Dest_right.mono_l : ∀ k, (∀ y0 y1 y2 y3 y4 y5 y6 y7 y8 y9 y10, LeO (ledger_Dest_right.j0 k y0 y1 y2 y3 y4 y5 y6 y7 y8 y9 y10) (ledger_Dest_right.j0 (k + 1) y0 y1 y2 y3 y4 y5 y6 y7 y8 y9 y10)) ∧ (∀ y0 y1 y2 y3 y4 y5 y6 y7 y8 y9 y10 y11 y12 y13, LeO (ledger_Dest_right.l0 k y0 y1 y2 y3 y4 y5 y6 y7 y8 y9 y10 y11 y12 y13) (ledger_Dest_right.l0 (k + 1) y0 y1 y2 y3 y4 y5 y6 y7 y8 y9 y10 y11 y12 y13))
 | 0 => ⟨fun _ _ _ _ _ _ _ _ _ _ _ r h => by simp [ledger_Dest_right.j0] at h, fun _ _ _ _ _ _ _ _ _ _ _ _ _ _ r h => by simp [ledger_Dest_right.l0] at h⟩
 | k + 1 => by
  obtain ⟨ih0, ih1⟩ := ledger_Dest_right.mono_l k
  refine ⟨?_, ?_⟩
  ·intro y0 y1 y2 y3 y4 y5 y6 y7 y8 y9 y10
   unfold ledger_Dest_right.j0
   repeat' first
   | (with_reducible exact ih0 _ _ _ _ _ _ _ _ _ _ _)
   | (with_reducible exact ih1 _ _ _ _ _ _ _ _ _ _ _ _ _ _)
   | (with_reducible exact LeO.refl _)
   | (with_reducible exact LeO.none _)
   | (with_reducible refine LeO.ite ?_ ?_)
   | (with_reducible refine LeO.bind ?_ (fun _ => ?_))
   | exact ih0 _ _ _ _ _ _ _ _ _ _ _
   | exact ih1 _ _ _ _ _ _ _ _ _ _ _ _ _ _
   | exact LeO.none _
   | refine LeO.ite ?_ ?_
   | refine LeO.bind ?_ (fun _ => ?_)
  ·intro y0 y1 y2 y3 y4 y5 y6 y7 y8 y9 y10 y11 y12 y13
   unfold ledger_Dest_right.l0
   repeat' first
   | (with_reducible exact ih0 _ _ _ _ _ _ _ _ _ _ _)
   | (with_reducible exact ih1 _ _ _ _ _ _ _ _ _ _ _ _ _ _)
   | (with_reducible exact LeO.refl _)
   | (with_reducible exact LeO.none _)
   | (with_reducible refine LeO.ite ?_ ?_)
   | (with_reducible refine LeO.bind ?_ (fun _ => ?_))
   | exact ih0 _ _ _ _ _ _ _ _ _ _ _
   | exact ih1 _ _ _ _ _ _ _ _ _ _ _ _ _ _
   | exact LeO.none _
   | refine LeO.ite ?_ ?_
   | refine LeO.bind ?_ (fun _ => ?_)
theorem ledger_Dest_right.mono : ∀ a0 a1 a2 a3 a4 a5 a6 a7 a8 a9 k, LeO (ledger_Dest_right.f k a0 a1 a2 a3 a4 a5 a6 a7 a8 a9) (ledger_Dest_right.f (k + 1) a0 a1 a2 a3 a4 a5 a6 a7 a8 a9) := by
 intro a0 a1 a2 a3 a4 a5 a6 a7 a8 a9 k
 obtain ⟨ih0, ih1⟩ := ledger_Dest_right.mono_l k
 unfold ledger_Dest_right.f
 repeat' first
   | (with_reducible exact ih0 _ _ _ _ _ _ _ _ _ _ _)
   | (with_reducible exact ih1 _ _ _ _ _ _ _ _ _ _ _ _ _ _)
   | (with_reducible exact LeO.refl _)
   | (with_reducible exact LeO.none _)
   | (with_reducible refine LeO.ite ?_ ?_)
   | (with_reducible refine LeO.bind ?_ (fun _ => ?_))
   | exact ih0 _ _ _ _ _ _ _ _ _ _ _
   | exact ih1 _ _ _ _ _ _ _ _ _ _ _ _ _ _
   | exact LeO.none _
   | refine LeO.ite ?_ ?_
   | refine LeO.bind ?_ (fun _ => ?_)
set_option maxHeartbeats 8000000 in
set_option maxRecDepth 100000 in
theorem ledger_Dest_right.calls (k : Nat) (a0_0 : ByteArray) (a0_1 : Int) (a0_2 : Int) (A0_3 : Option Addr) (c0_3 : Nat) (l0_3 : List Int) (a0_4 : Int) (a0_5 : Int) (a0_6 : Int) (a1_0 : Int) (a1_1 : Int) (A1_2 : Option Addr) (c1_2 : Nat) (l1_2 : List (S55)) (r : Bool) (w : World) (hr0_3 : Kd.C (Kd.int .u64) w A0_3 l0_3.length l0_3) (hc0_3 : l0_3.length ≤ c0_3) (hr1_2 : Kd.C k55 w A1_2 l1_2.length l1_2) (hc1_2 : l1_2.length ≤ c1_2) (h : ledger_Dest_right.f k a0_0 a0_1 a0_2 l0_3 a0_4 a0_5 a0_6 a1_0 a1_1 l1_2 = some r) :
  Calls Tryd.prog 31 #[.agg #[.string a0_0, .int .u64 a0_1, .int .u64 a0_2, .slice A0_3 l0_3.length c0_3, .int .u64 a0_4, .int .u64 a0_5, .int .u64 a0_6], .agg #[.int .u64 a1_0, .int .u64 a1_1, .slice A1_2 l1_2.length c1_2]] w fun e w' => e = .returned (.bool r) ∧ Below w.heap.size w w' := by
 have hu55 := Tryd.underlying55
 have hu25 := Tryd.underlying25
 have HR0_3 := Aside0.mk hr0_3
 have HC0_3 := Aside0.mk hc0_3
 clear hr0_3 hc0_3
 have HR1_2 := Aside0.mk hr1_2
 have HC1_2 := Aside0.mk hc1_2
 clear hr1_2 hc1_2
 have HB := Aside0.mk (Below.refl w.heap.size w)
 have H : ((label_Name.f a0_0).bind fun t104 => (if t104 = true then (if a0_1 < 1 then (ledger_Dest_right.j0 k true a0_0 a0_1 a0_2 l0_3 a0_4 a0_5 a0_6 a1_0 a1_1 l1_2) else (if a0_2 < a0_1 then (ledger_Dest_right.j0 k true a0_0 a0_1 a0_2 l0_3 a0_4 a0_5 a0_6 a1_0 a1_1 l1_2) else (ledger_Dest_right.j0 k (decide (a1_1 < a0_2)) a0_0 a0_1 a0_2 l0_3 a0_4 a0_5 a0_6 a1_0 a1_1 l1_2))) else (ledger_Dest_right.j0 k true a0_0 a0_1 a0_2 l0_3 a0_4 a0_5 a0_6 a1_0 a1_1 l1_2))) = some r := h
 clear h
 have HC3 := Aside0.mk H
 clear H
 go_enter Tryd.func31, Tryd.ntmps31
 go_upto_region 1 with (first | ((with_reducible refine gate_dst (N := 2) rfl ?_); refine box_event ?hg (N := 2) ?hd (cs := #[.string a0_0, .int .u64 a0_1, .int .u64 a0_2, .slice A0_3 l0_3.length c0_3, .int .u64 a0_4, .int .u64 a0_5, .int .u64 a0_6]) (t := 55) ?hr ?_; (case hd => rfl); (case hg => rfl); (case hr => first | (go_simp; done) | (go_simp; rfl)); intro gb102 hg w4 hbox hb; have n0_ := Aside0.mk (below_step zx2_6 hb); have n1_ := Aside0.mk (hbox); have n2_ := Aside0.mk ((by rw [hg]; exact (below_size zx2_6) : w.heap.size ≤ gb102)); have n3_ := Aside0.mk ((by rw [hg]; exact (below_size zx2_6) : w.heap.size ≤ gb102)); clear HB; have HB := n0_; have BK102 := n1_; have GW102 := n2_; have GE102 := n3_; clear n0_ n1_ n2_ n3_; clear hb hbox hg) | ((with_reducible refine gate_dst (N := 3) rfl ?_); refine box_event ?hg (N := 3) ?hd (cs := #[.int .u64 a1_0, .int .u64 a1_1, .slice A1_2 l1_2.length c1_2]) (t := 25) ?hr ?_; (case hd => rfl); (case hg => rfl); (case hr => first | (go_simp; done) | (go_simp; rfl)); intro gb103 hg w5 hbox hb; have n0_ := Aside0.mk (blk_below (g := gb102) (o := .cells #[.string a0_0, .int .u64 a0_1, .int .u64 a0_2, .slice A0_3 l0_3.length c0_3, .int .u64 a0_4, .int .u64 a0_5, .int .u64 a0_6] 55 (0, 0)) zx2_0 hb); have n1_ := Aside0.mk (below_step zx2_4 hb); have n2_ := Aside0.mk (hbox); have n3_ := Aside0.mk ((by rw [hg]; exact (below_size zx2_4) : w.heap.size ≤ gb103)); have n4_ := Aside0.mk ((by rw [hg]; exact (below_size zx2_4) : w.heap.size ≤ gb103)); have n5_ := Aside0.mk ((by rw [hg]; exact Nat.ne_of_lt (blk_lt (g := gb102) (o := .cells #[.string a0_0, .int .u64 a0_1, .int .u64 a0_2, .slice A0_3 l0_3.length c0_3, .int .u64 a0_4, .int .u64 a0_5, .int .u64 a0_6] 55 (0, 0)) zx2_0) : gb102 ≠ gb103)); have n6_ := Aside0.mk ((by rw [hg]; exact Nat.ne_of_gt (blk_lt (g := gb102) (o := .cells #[.string a0_0, .int .u64 a0_1, .int .u64 a0_2, .slice A0_3 l0_3.length c0_3, .int .u64 a0_4, .int .u64 a0_5, .int .u64 a0_6] 55 (0, 0)) zx2_0) : gb103 ≠ gb102)); clear BK102; clear HB; have BK102 := n0_; have HB := n1_; have BK103 := n2_; have GW103 := n3_; have GE103 := n4_; have NB102_103 := n5_; have NB103_102 := n6_; clear n0_ n1_ n2_ n3_ n4_ n5_ n6_; clear hb hbox hg))
 (try simp only [Act.put, List.setIfInBounds_toArray, List.set_cons_zero, List.set_cons_succ])
 go_cut [32] (fun v32 wc => ∃ (kq : Nat) (x32_2 : Bool), v32 = .bool x32_2 ∧ Aside0 (ledger_Dest_right.j0 kq x32_2 a0_0 a0_1 a0_2 l0_3 a0_4 a0_5 a0_6 a1_0 a1_1 l1_2 = some r) ∧ Aside0 (kq ≤ k) ∧ Aside0 (wc.heap[gb102]? = some (.cells #[.string a0_0, .int .u64 a0_1, .int .u64 a0_2, (.slice A0_3 l0_3.length c0_3), .int .u64 a0_4, .int .u64 a0_5, .int .u64 a0_6] 55 (0, 0))) ∧ Aside0 (wc.heap[gb103]? = some (.cells #[.int .u64 a1_0, .int .u64 a1_1, (.slice A1_2 l1_2.length c1_2)] 25 (0, 0))) ∧ Aside0 (Below w.heap.size w wc))
 case first =>
  have H := HC3.out
  clear HC3
  replace H := Option.bind_eq_some_iff.mp H
  obtain ⟨t104, A60, H⟩ := H
  replace H : (if t104 = true then (if a0_1 < 1 then (ledger_Dest_right.j0 k true a0_0 a0_1 a0_2 l0_3 a0_4 a0_5 a0_6 a1_0 a1_1 l1_2) else (if a0_2 < a0_1 then (ledger_Dest_right.j0 k true a0_0 a0_1 a0_2 l0_3 a0_4 a0_5 a0_6 a1_0 a1_1 l1_2) else (ledger_Dest_right.j0 k (decide (a1_1 < a0_2)) a0_0 a0_1 a0_2 l0_3 a0_4 a0_5 a0_6 a1_0 a1_1 l1_2))) else (ledger_Dest_right.j0 k true a0_0 a0_1 a0_2 l0_3 a0_4 a0_5 a0_6 a1_0 a1_1 l1_2)) = some r := H
  have A6 := Aside0.mk A60
  clear A60
  by_cases c7 : t104 = true
  ·subst c7
   have H1 : (if a0_1 < 1 then (ledger_Dest_right.j0 k true a0_0 a0_1 a0_2 l0_3 a0_4 a0_5 a0_6 a1_0 a1_1 l1_2) else (if a0_2 < a0_1 then (ledger_Dest_right.j0 k true a0_0 a0_1 a0_2 l0_3 a0_4 a0_5 a0_6 a1_0 a1_1 l1_2) else (ledger_Dest_right.j0 k (decide (a1_1 < a0_2)) a0_0 a0_1 a0_2 l0_3 a0_4 a0_5 a0_6 a1_0 a1_1 l1_2))) = some r := by rw [if_pos rfl] at H; exact H
   clear H
   have H := H1
   clear H1
   by_cases c8 : a0_1 < 1
   ·rw [if_pos c8] at H
    have c8b0 : decide (a0_1 < 1) = true := decide_eq_true c8
    clear c8
    (first | rw [c8b0] | (simp only [i64_w, i32_w]; rw [c8b0]) | skip)
    have H' := Aside0.mk H
    clear H
    have hnb9 := NB102_103.out
    have hnc9 := NB103_102.out
    obtain ⟨hcz10_0, hcz10_1, hcz10_2, hcz10_3, hcz10_4, hcz10_5, hcz10_6, hfz10_0, hfz10_1, hfz10_2, hfz10_3, hfz10_4, hfz10_5, hfz10_6⟩ := cx2_bc7 BK102.out
    go_wp2_with (first | ((with_reducible refine gate_callee (f := 48) rfl ?_); refine goesL_ (some 12) rfl rfl Tryd.func48 (by kernel_rfl) rfl #[.string a0_0] rfl zx2_2 ?_; (with_reducible refine (label_Name.calls a0_0 true _ A6.out).mono ?_); rintro e w11 ⟨rfl, hb⟩; refine ⟨_, rfl, ?_⟩; have n0_ := Aside0.mk (blk_below (g := gb102) (o := .cells #[.string a0_0, .int .u64 a0_1, .int .u64 a0_2, .slice A0_3 l0_3.length c0_3, .int .u64 a0_4, .int .u64 a0_5, .int .u64 a0_6] 55 (0, 0)) zx2_0 hb); have n1_ := Aside0.mk (blk_below (g := gb103) (o := .cells #[.int .u64 a1_0, .int .u64 a1_1, .slice A1_2 l1_2.length c1_2] 25 (0, 0)) zx2_3 hb); have n2_ := Aside0.mk (below_step zx2_1 hb); clear BK102; clear BK103; clear HB; have BK102 := n0_; have BK103 := n1_; have HB := n2_; clear n0_ n1_ n2_; (try clear hb); (try clear hb2); (try clear hk); (try clear hi); have hcz12_0 : w11.cell? ⟨gb102, 0, none⟩ = some (.string a0_0) := (blk_cell BK102.out 0).trans rfl; have hcz12_1 : w11.cell? ⟨gb102, 1, none⟩ = some (.int .u64 a0_1) := (blk_cell BK102.out 1).trans rfl; have hcz12_2 : w11.cell? ⟨gb102, 2, none⟩ = some (.int .u64 a0_2) := (blk_cell BK102.out 2).trans rfl; have hcz12_3 : w11.cell? ⟨gb102, 3, none⟩ = some (.slice A0_3 l0_3.length c0_3) := (blk_cell BK102.out 3).trans rfl; have hcz12_4 : w11.cell? ⟨gb102, 4, none⟩ = some (.int .u64 a0_4) := (blk_cell BK102.out 4).trans rfl; have hcz12_5 : w11.cell? ⟨gb102, 5, none⟩ = some (.int .u64 a0_5) := (blk_cell BK102.out 5).trans rfl; have hcz12_6 : w11.cell? ⟨gb102, 6, none⟩ = some (.int .u64 a0_6) := (blk_cell BK102.out 6).trans rfl; have hfz12_0 := blk_frozen BK102.out 0; have hfz12_1 := blk_frozen BK102.out 1; have hfz12_2 := blk_frozen BK102.out 2; have hfz12_3 := blk_frozen BK102.out 3; have hfz12_4 := blk_frozen BK102.out 4; have hfz12_5 := blk_frozen BK102.out 5; have hfz12_6 := blk_frozen BK102.out 6))
    go_meet
    case rel => exact ⟨_, (true), zx2_5, H', ⟨by first | omega | exact Nat.le_refl _⟩, ⟨by (with_reducible repeat (first | refine blk_drewN ?_ _ | refine blk_drew ?_ | refine blk_alloc ?_ _)); exact BK102.out⟩, ⟨by (with_reducible repeat (first | refine blk_drewN ?_ _ | refine blk_drew ?_ | refine blk_alloc ?_ _)); exact BK103.out⟩, ⟨by repeat (first | (with_reducible first | exact HB.out | apply below_alloc | apply pw_below_drewN | apply below_drew1 | refine below_set ?_ GE102.out | refine below_set ?_ GE103.out) | exact HB.out)⟩⟩
   ·rw [if_neg c8] at H
    have c8b0 : decide (a0_1 < 1) = false := decide_eq_false c8
    clear c8
    (first | rw [c8b0] | (simp only [i64_w, i32_w]; rw [c8b0]) | skip)
    by_cases c13 : a0_2 < a0_1
    ·rw [if_pos c13] at H
     have c13b0 : decide (a0_2 < a0_1) = true := decide_eq_true c13
     clear c13
     have H' := Aside0.mk H
     clear H
     have hnb14 := NB102_103.out
     have hnc14 := NB103_102.out
     obtain ⟨hcz15_0, hcz15_1, hcz15_2, hcz15_3, hcz15_4, hcz15_5, hcz15_6, hfz15_0, hfz15_1, hfz15_2, hfz15_3, hfz15_4, hfz15_5, hfz15_6⟩ := cx2_bc7 BK102.out
     go_wp2_with (first | ((with_reducible refine gate_callee (f := 48) rfl ?_); refine goesL_ (some 12) rfl rfl Tryd.func48 (by kernel_rfl) rfl #[.string a0_0] rfl zx2_2 ?_; (with_reducible refine (label_Name.calls a0_0 true _ A6.out).mono ?_); rintro e w16 ⟨rfl, hb⟩; refine ⟨_, rfl, ?_⟩; have n0_ := Aside0.mk (blk_below (g := gb102) (o := .cells #[.string a0_0, .int .u64 a0_1, .int .u64 a0_2, .slice A0_3 l0_3.length c0_3, .int .u64 a0_4, .int .u64 a0_5, .int .u64 a0_6] 55 (0, 0)) zx2_0 hb); have n1_ := Aside0.mk (blk_below (g := gb103) (o := .cells #[.int .u64 a1_0, .int .u64 a1_1, .slice A1_2 l1_2.length c1_2] 25 (0, 0)) zx2_3 hb); have n2_ := Aside0.mk (below_step zx2_1 hb); clear BK102; clear BK103; clear HB; have BK102 := n0_; have BK103 := n1_; have HB := n2_; clear n0_ n1_ n2_; (try clear hb); (try clear hb2); (try clear hk); (try clear hi); have hcz17_0 : w16.cell? ⟨gb102, 0, none⟩ = some (.string a0_0) := (blk_cell BK102.out 0).trans rfl; have hcz17_1 : w16.cell? ⟨gb102, 1, none⟩ = some (.int .u64 a0_1) := (blk_cell BK102.out 1).trans rfl; have hcz17_2 : w16.cell? ⟨gb102, 2, none⟩ = some (.int .u64 a0_2) := (blk_cell BK102.out 2).trans rfl; have hcz17_3 : w16.cell? ⟨gb102, 3, none⟩ = some (.slice A0_3 l0_3.length c0_3) := (blk_cell BK102.out 3).trans rfl; have hcz17_4 : w16.cell? ⟨gb102, 4, none⟩ = some (.int .u64 a0_4) := (blk_cell BK102.out 4).trans rfl; have hcz17_5 : w16.cell? ⟨gb102, 5, none⟩ = some (.int .u64 a0_5) := (blk_cell BK102.out 5).trans rfl; have hcz17_6 : w16.cell? ⟨gb102, 6, none⟩ = some (.int .u64 a0_6) := (blk_cell BK102.out 6).trans rfl; have hfz17_0 := blk_frozen BK102.out 0; have hfz17_1 := blk_frozen BK102.out 1; have hfz17_2 := blk_frozen BK102.out 2; have hfz17_3 := blk_frozen BK102.out 3; have hfz17_4 := blk_frozen BK102.out 4; have hfz17_5 := blk_frozen BK102.out 5; have hfz17_6 := blk_frozen BK102.out 6))
     go_meet
     case rel => exact ⟨_, (true), zx2_5, H', ⟨by first | omega | exact Nat.le_refl _⟩, ⟨by (with_reducible repeat (first | refine blk_drewN ?_ _ | refine blk_drew ?_ | refine blk_alloc ?_ _)); exact BK102.out⟩, ⟨by (with_reducible repeat (first | refine blk_drewN ?_ _ | refine blk_drew ?_ | refine blk_alloc ?_ _)); exact BK103.out⟩, ⟨by repeat (first | (with_reducible first | exact HB.out | apply below_alloc | apply pw_below_drewN | apply below_drew1 | refine below_set ?_ GE102.out | refine below_set ?_ GE103.out) | exact HB.out)⟩⟩
    ·rw [if_neg c13] at H
     have c13b0 : decide (a0_2 < a0_1) = false := decide_eq_false c13
     clear c13
     have H' := Aside0.mk H
     clear H
     have hnb18 := NB102_103.out
     have hnc18 := NB103_102.out
     obtain ⟨hcz19_0, hcz19_1, hcz19_2, hcz19_3, hcz19_4, hcz19_5, hcz19_6, hfz19_0, hfz19_1, hfz19_2, hfz19_3, hfz19_4, hfz19_5, hfz19_6⟩ := cx2_bc7 BK102.out
     go_wp2_with (first | ((with_reducible refine gate_callee (f := 48) rfl ?_); refine goesL_ (some 12) rfl rfl Tryd.func48 (by kernel_rfl) rfl #[.string a0_0] rfl zx2_2 ?_; (with_reducible refine (label_Name.calls a0_0 true _ A6.out).mono ?_); rintro e w20 ⟨rfl, hb⟩; refine ⟨_, rfl, ?_⟩; have n0_ := Aside0.mk (blk_below (g := gb102) (o := .cells #[.string a0_0, .int .u64 a0_1, .int .u64 a0_2, .slice A0_3 l0_3.length c0_3, .int .u64 a0_4, .int .u64 a0_5, .int .u64 a0_6] 55 (0, 0)) zx2_0 hb); have n1_ := Aside0.mk (blk_below (g := gb103) (o := .cells #[.int .u64 a1_0, .int .u64 a1_1, .slice A1_2 l1_2.length c1_2] 25 (0, 0)) zx2_3 hb); have n2_ := Aside0.mk (below_step zx2_1 hb); clear BK102; clear BK103; clear HB; have BK102 := n0_; have BK103 := n1_; have HB := n2_; clear n0_ n1_ n2_; (try clear hb); (try clear hb2); (try clear hk); (try clear hi); have hcz21_0 : w20.cell? ⟨gb102, 0, none⟩ = some (.string a0_0) := (blk_cell BK102.out 0).trans rfl; have hcz21_1 : w20.cell? ⟨gb102, 1, none⟩ = some (.int .u64 a0_1) := (blk_cell BK102.out 1).trans rfl; have hcz21_2 : w20.cell? ⟨gb102, 2, none⟩ = some (.int .u64 a0_2) := (blk_cell BK102.out 2).trans rfl; have hcz21_3 : w20.cell? ⟨gb102, 3, none⟩ = some (.slice A0_3 l0_3.length c0_3) := (blk_cell BK102.out 3).trans rfl; have hcz21_4 : w20.cell? ⟨gb102, 4, none⟩ = some (.int .u64 a0_4) := (blk_cell BK102.out 4).trans rfl; have hcz21_5 : w20.cell? ⟨gb102, 5, none⟩ = some (.int .u64 a0_5) := (blk_cell BK102.out 5).trans rfl; have hcz21_6 : w20.cell? ⟨gb102, 6, none⟩ = some (.int .u64 a0_6) := (blk_cell BK102.out 6).trans rfl; have hfz21_0 := blk_frozen BK102.out 0; have hfz21_1 := blk_frozen BK102.out 1; have hfz21_2 := blk_frozen BK102.out 2; have hfz21_3 := blk_frozen BK102.out 3; have hfz21_4 := blk_frozen BK102.out 4; have hfz21_5 := blk_frozen BK102.out 5; have hfz21_6 := blk_frozen BK102.out 6; have hcz22_0 : w20.cell? ⟨gb103, 0, none⟩ = some (.int .u64 a1_0) := (blk_cell BK103.out 0).trans rfl; have hcz22_1 : w20.cell? ⟨gb103, 1, none⟩ = some (.int .u64 a1_1) := (blk_cell BK103.out 1).trans rfl; have hcz22_2 : w20.cell? ⟨gb103, 2, none⟩ = some (.slice A1_2 l1_2.length c1_2) := (blk_cell BK103.out 2).trans rfl; have hfz22_0 := blk_frozen BK103.out 0; have hfz22_1 := blk_frozen BK103.out 1; have hfz22_2 := blk_frozen BK103.out 2))
     go_meet
     case rel => exact ⟨_, (decide (a1_1 < a0_2)), zx2_5, H', ⟨by first | omega | exact Nat.le_refl _⟩, ⟨by (with_reducible repeat (first | refine blk_drewN ?_ _ | refine blk_drew ?_ | refine blk_alloc ?_ _)); exact BK102.out⟩, ⟨by (with_reducible repeat (first | refine blk_drewN ?_ _ | refine blk_drew ?_ | refine blk_alloc ?_ _)); exact BK103.out⟩, ⟨by repeat (first | (with_reducible first | exact HB.out | apply below_alloc | apply pw_below_drewN | apply below_drew1 | refine below_set ?_ GE102.out | refine below_set ?_ GE103.out) | exact HB.out)⟩⟩
  ·replace c7 := Bool.eq_false_iff.mpr c7
   subst c7
   have H1 : (ledger_Dest_right.j0 k true a0_0 a0_1 a0_2 l0_3 a0_4 a0_5 a0_6 a1_0 a1_1 l1_2) = some r := by rw [if_neg (show ¬ (false = true) by decide)] at H; exact H
   clear H
   have H := H1
   clear H1
   have H' := Aside0.mk H
   clear H
   have hnb23 := NB102_103.out
   have hnc23 := NB103_102.out
   obtain ⟨hcz24_0, hcz24_1, hcz24_2, hcz24_3, hcz24_4, hcz24_5, hcz24_6, hfz24_0, hfz24_1, hfz24_2, hfz24_3, hfz24_4, hfz24_5, hfz24_6⟩ := cx2_bc7 BK102.out
   go_wp2_with (first | ((with_reducible refine gate_callee (f := 48) rfl ?_); refine goesL_ (some 12) rfl rfl Tryd.func48 (by kernel_rfl) rfl #[.string a0_0] rfl zx2_2 ?_; (with_reducible refine (label_Name.calls a0_0 false _ A6.out).mono ?_); rintro e w25 ⟨rfl, hb⟩; refine ⟨_, rfl, ?_⟩; have n0_ := Aside0.mk (blk_below (g := gb102) (o := .cells #[.string a0_0, .int .u64 a0_1, .int .u64 a0_2, .slice A0_3 l0_3.length c0_3, .int .u64 a0_4, .int .u64 a0_5, .int .u64 a0_6] 55 (0, 0)) zx2_0 hb); have n1_ := Aside0.mk (blk_below (g := gb103) (o := .cells #[.int .u64 a1_0, .int .u64 a1_1, .slice A1_2 l1_2.length c1_2] 25 (0, 0)) zx2_3 hb); have n2_ := Aside0.mk (below_step zx2_1 hb); clear BK102; clear BK103; clear HB; have BK102 := n0_; have BK103 := n1_; have HB := n2_; clear n0_ n1_ n2_; (try clear hb); (try clear hb2); (try clear hk); (try clear hi)))
   go_meet
   case rel => exact ⟨_, (true), zx2_5, H', ⟨by first | omega | exact Nat.le_refl _⟩, ⟨by (with_reducible repeat (first | refine blk_drewN ?_ _ | refine blk_drew ?_ | refine blk_alloc ?_ _)); exact BK102.out⟩, ⟨by (with_reducible repeat (first | refine blk_drewN ?_ _ | refine blk_drew ?_ | refine blk_alloc ?_ _)); exact BK103.out⟩, ⟨by repeat (first | (with_reducible first | exact HB.out | apply below_alloc | apply pw_below_drewN | apply below_drew1 | refine below_set ?_ GE102.out | refine below_set ?_ GE103.out) | exact HB.out)⟩⟩
 case rest =>
  clear HC3
  (try clear c1); (try clear c2); (try clear p2); (try clear c3); (try clear c4); (try clear c7); (try clear c8); (try clear c8b0); (try clear c9); (try clear c13); (try clear c13b0); (try clear c14); (try clear c18); (try clear c23); (try clear hcz10_0); (try clear hcz10_1); (try clear hcz10_2); (try clear hcz10_3); (try clear hcz10_4); (try clear hcz10_5); (try clear hcz10_6); (try clear hcz12_0); (try clear hcz12_1); (try clear hcz12_2); (try clear hcz12_3); (try clear hcz12_4); (try clear hcz12_5); (try clear hcz12_6); (try clear hcz15_0); (try clear hcz15_1); (try clear hcz15_2); (try clear hcz15_3); (try clear hcz15_4); (try clear hcz15_5); (try clear hcz15_6); (try clear hcz17_0); (try clear hcz17_1); (try clear hcz17_2); (try clear hcz17_3); (try clear hcz17_4); (try clear hcz17_5); (try clear hcz17_6); (try clear hcz19_0); (try clear hcz19_1); (try clear hcz19_2); (try clear hcz19_3); (try clear hcz19_4); (try clear hcz19_5); (try clear hcz19_6); (try clear hcz21_0); (try clear hcz21_1); (try clear hcz21_2); (try clear hcz21_3); (try clear hcz21_4); (try clear hcz21_5); (try clear hcz21_6); (try clear hcz22_0); (try clear hcz22_1); (try clear hcz22_2); (try clear hcz24_0); (try clear hcz24_1); (try clear hcz24_2); (try clear hcz24_3); (try clear hcz24_4); (try clear hcz24_5); (try clear hcz24_6); (try clear hfz10_0); (try clear hfz10_1); (try clear hfz10_2); (try clear hfz10_3); (try clear hfz10_4); (try clear hfz10_5); (try clear hfz10_6); (try clear hfz12_0); (try clear hfz12_1); (try clear hfz12_2); (try clear hfz12_3); (try clear hfz12_4); (try clear hfz12_5); (try clear hfz12_6); (try clear hfz15_0); (try clear hfz15_1); (try clear hfz15_2); (try clear hfz15_3); (try clear hfz15_4); (try clear hfz15_5); (try clear hfz15_6); (try clear hfz17_0); (try clear hfz17_1); (try clear hfz17_2); (try clear hfz17_3); (try clear hfz17_4); (try clear hfz17_5); (try clear hfz17_6); (try clear hfz19_0); (try clear hfz19_1); (try clear hfz19_2); (try clear hfz19_3); (try clear hfz19_4); (try clear hfz19_5); (try clear hfz19_6); (try clear hfz21_0); (try clear hfz21_1); (try clear hfz21_2); (try clear hfz21_3); (try clear hfz21_4); (try clear hfz21_5); (try clear hfz21_6); (try clear hfz22_0); (try clear hfz22_1); (try clear hfz22_2); (try clear hfz24_0); (try clear hfz24_1); (try clear hfz24_2); (try clear hfz24_3); (try clear hfz24_4); (try clear hfz24_5); (try clear hfz24_6)
  obtain ⟨kq, x32_2, rfl, HA, HJ2, BK102, BK103, HB⟩ := hcut
  cases kq with
  | zero => exact absurd HA.out (by simp [ledger_Dest_right.j0])
  | succ kj2 =>
   have H := HA.out
   clear HA
   simp only [ledger_Dest_right.j0] at H
   by_cases c26 : x32_2 = true
   ·subst c26
    have H1 : (some false) = some r := by rw [if_pos rfl] at H; exact H
    clear H
    have H := H1
    clear H1
    obtain rfl := Option.some.inj H
    go_wp2
    go_ret
    exact ⟨by first | rfl | (simp [errW_none, errW_some] <;> rfl) | (simp [*, errW_none, errW_some] <;> rfl), by repeat (first | (with_reducible first | exact HB.out | apply below_alloc | apply pw_below_drewN | apply below_drew1 | refine below_set ?_ GE102.out | refine below_set ?_ GE103.out) | exact HB.out)⟩
   ·replace c26 := Bool.eq_false_iff.mpr c26
    subst c26
    have H1 : (ledger_Dest_right.l0 kj2 a0_2 l0_3 (l0_3.length : Int) 0 a0_0 a0_1 a0_2 l0_3 a0_4 a0_5 a0_6 a1_0 a1_1 l1_2) = some r := by rw [if_neg (show ¬ (false = true) by decide)] at H; exact H
    clear H
    have H := H1
    clear H1
    have H' := Aside0.mk H
    clear H
    have hnb27 := NB102_103.out
    have hnc27 := NB103_102.out
    obtain ⟨hcz28_0, hcz28_1, hcz28_2, hcz28_3, hcz28_4, hcz28_5, hcz28_6, hfz28_0, hfz28_1, hfz28_2, hfz28_3, hfz28_4, hfz28_5, hfz28_6⟩ := cx2_bc7 BK102.out
    go_wp2
    go_loopg [5, 38] kj2 (fun kq v5 v38 w' => ∃ (x5_2 : Int) (x38_2 : Int), v5 = .int .u64 x5_2 ∧ v38 = .int .i64 x38_2 ∧ Aside0 (ledger_Dest_right.l0 kq x5_2 l0_3 (l0_3.length : Int) x38_2 a0_0 a0_1 a0_2 l0_3 a0_4 a0_5 a0_6 a1_0 a1_1 l1_2 = some r) ∧ Aside0 (kq ≤ kj2) ∧ Aside0 (w'.heap[gb102]? = some (.cells #[.string a0_0, .int .u64 a0_1, .int .u64 a0_2, (.slice A0_3 l0_3.length c0_3), .int .u64 a0_4, .int .u64 a0_5, .int .u64 a0_6] 55 (0, 0))) ∧ Aside0 (w'.heap[gb103]? = some (.cells #[.int .u64 a1_0, .int .u64 a1_1, (.slice A1_2 l1_2.length c1_2)] 25 (0, 0))) ∧ Aside0 (Below w.heap.size w w'))
    case atStart => exact ⟨(a0_2), (0), zx2_5, zx2_5, H', ⟨Nat.le_refl _⟩, ⟨by (with_reducible repeat (first | refine blk_drewN ?_ _ | refine blk_drew ?_ | refine blk_alloc ?_ _)); exact BK102.out⟩, ⟨by (with_reducible repeat (first | refine blk_drewN ?_ _ | refine blk_drew ?_ | refine blk_alloc ?_ _)); exact BK103.out⟩, ⟨by repeat (first | (with_reducible first | exact HB.out | apply below_alloc | apply pw_below_drewN | apply below_drew1 | refine below_set ?_ GE102.out | refine below_set ?_ GE103.out) | exact HB.out)⟩⟩
    case round =>
     clear H'
     (try clear c1); (try clear c2); (try clear p2); (try clear c3); (try clear c4); (try clear c7); (try clear c8); (try clear c8b0); (try clear c9); (try clear c13); (try clear c13b0); (try clear c14); (try clear c18); (try clear c23); (try clear c26); (try clear c27); (try clear hcz10_0); (try clear hcz10_1); (try clear hcz10_2); (try clear hcz10_3); (try clear hcz10_4); (try clear hcz10_5); (try clear hcz10_6); (try clear hcz12_0); (try clear hcz12_1); (try clear hcz12_2); (try clear hcz12_3); (try clear hcz12_4); (try clear hcz12_5); (try clear hcz12_6); (try clear hcz15_0); (try clear hcz15_1); (try clear hcz15_2); (try clear hcz15_3); (try clear hcz15_4); (try clear hcz15_5); (try clear hcz15_6); (try clear hcz17_0); (try clear hcz17_1); (try clear hcz17_2); (try clear hcz17_3); (try clear hcz17_4); (try clear hcz17_5); (try clear hcz17_6); (try clear hcz19_0); (try clear hcz19_1); (try clear hcz19_2); (try clear hcz19_3); (try clear hcz19_4); (try clear hcz19_5); (try clear hcz19_6); (try clear hcz21_0); (try clear hcz21_1); (try clear hcz21_2); (try clear hcz21_3); (try clear hcz21_4); (try clear hcz21_5); (try clear hcz21_6); (try clear hcz22_0); (try clear hcz22_1); (try clear hcz22_2); (try clear hcz24_0); (try clear hcz24_1); (try clear hcz24_2); (try clear hcz24_3); (try clear hcz24_4); (try clear hcz24_5); (try clear hcz24_6); (try clear hcz28_0); (try clear hcz28_1); (try clear hcz28_2); (try clear hcz28_3); (try clear hcz28_4); (try clear hcz28_5); (try clear hcz28_6); (try clear hfz10_0); (try clear hfz10_1); (try clear hfz10_2); (try clear hfz10_3); (try clear hfz10_4); (try clear hfz10_5); (try clear hfz10_6); (try clear hfz12_0); (try clear hfz12_1); (try clear hfz12_2); (try clear hfz12_3); (try clear hfz12_4); (try clear hfz12_5); (try clear hfz12_6); (try clear hfz15_0); (try clear hfz15_1); (try clear hfz15_2); (try clear hfz15_3); (try clear hfz15_4); (try clear hfz15_5); (try clear hfz15_6); (try clear hfz17_0); (try clear hfz17_1); (try clear hfz17_2); (try clear hfz17_3); (try clear hfz17_4); (try clear hfz17_5); (try clear hfz17_6); (try clear hfz19_0); (try clear hfz19_1); (try clear hfz19_2); (try clear hfz19_3); (try clear hfz19_4); (try clear hfz19_5); (try clear hfz19_6); (try clear hfz21_0); (try clear hfz21_1); (try clear hfz21_2); (try clear hfz21_3); (try clear hfz21_4); (try clear hfz21_5); (try clear hfz21_6); (try clear hfz22_0); (try clear hfz22_1); (try clear hfz22_2); (try clear hfz24_0); (try clear hfz24_1); (try clear hfz24_2); (try clear hfz24_3); (try clear hfz24_4); (try clear hfz24_5); (try clear hfz24_6); (try clear hfz28_0); (try clear hfz28_1); (try clear hfz28_2); (try clear hfz28_3); (try clear hfz28_4); (try clear hfz28_5); (try clear hfz28_6); (try clear p2)
     obtain ⟨x5_2, x38_2, rfl, rfl, HA, HK2, BK102, BK103, HB⟩ := hrel
     cases gk with
     | zero => exact absurd HA.out (by simp [ledger_Dest_right.l0])
     | succ k2 =>
      have H := HA.out
      clear HA
      simp only [ledger_Dest_right.l0] at H
      by_cases c29 : x38_2 < (l0_3.length : Int)
      ·rw [if_pos c29] at H
       have c29b0 : decide (x38_2 < (l0_3.length : Int)) = true := decide_eq_true c29
       clear c29
       by_cases c30 : 0 ≤ x38_2
       ·rw [if_pos c30] at H
        have c30b0 : decide (0 ≤ x38_2) = true := decide_eq_true c30
        clear c30
        by_cases c31 : x38_2 < (l0_3.length : Int)
        ·rw [if_pos c31] at H
         have c31b0 : decide (x38_2 < (l0_3.length : Int)) = true := decide_eq_true c31
         clear c31
         by_cases c32 : (rd l0_3 x38_2) ≤ x5_2
         ·rw [if_pos c32] at H
          have c32b0 : decide ((rd l0_3 x38_2) ≤ x5_2) = true := decide_eq_true c32
          clear c32
          obtain rfl := Option.some.inj H
          have p105 : 0 ≤ (x38_2 : Int) := of_decide_eq_true zx2_7
          have q105 : x38_2 < (l0_3.length : Int) := of_decide_eq_true zx2_7
          obtain ⟨ad105, e105, hx105_0⟩ := Kd.at_int HR0_3.out x38_2 p105 q105
          cases e105
          replace hx105_0 := (HB.out.cell (World.block_lt_of_cell? w _ hx105_0)).trans hx105_0
          replace p105 := eq_true p105
          replace q105 := eq_true q105
          go_wp2
          go_ret
          exact ⟨by first | rfl | (simp [errW_none, errW_some] <;> rfl) | (simp [*, errW_none, errW_some] <;> rfl), by repeat (first | (with_reducible first | exact HB.out | apply below_alloc | apply pw_below_drewN | apply below_drew1 | refine below_set ?_ GE102.out | refine below_set ?_ GE103.out) | exact HB.out)⟩
         ·rw [if_neg c32] at H
          have c32b0 : decide ((rd l0_3 x38_2) ≤ x5_2) = false := decide_eq_false c32
          clear c32
          by_cases c33 : (rd l0_3 x38_2) ≥ a1_1
          ·rw [if_pos c33] at H
           have c33b0 : decide (a1_1 ≤ (rd l0_3 x38_2)) = true := decide_eq_true c33
           clear c33
           obtain rfl := Option.some.inj H
           have p105 : 0 ≤ (x38_2 : Int) := of_decide_eq_true zx2_7
           have q105 : x38_2 < (l0_3.length : Int) := of_decide_eq_true zx2_7
           obtain ⟨ad105, e105, hx105_0⟩ := Kd.at_int HR0_3.out x38_2 p105 q105
           cases e105
           replace hx105_0 := (HB.out.cell (World.block_lt_of_cell? w _ hx105_0)).trans hx105_0
           replace p105 := eq_true p105
           replace q105 := eq_true q105
           have hnb34 := NB103_102.out
           have hnc34 := NB102_103.out
           obtain ⟨hcz35_0, hcz35_1, hcz35_2, hfz35_0, hfz35_1, hfz35_2⟩ := cx2_bc3 BK103.out
           go_wp2
           go_ret
           exact ⟨by first | rfl | (simp [errW_none, errW_some] <;> rfl) | (simp [*, errW_none, errW_some] <;> rfl), by repeat (first | (with_reducible first | exact HB.out | apply below_alloc | apply pw_below_drewN | apply below_drew1 | refine below_set ?_ GE102.out | refine below_set ?_ GE103.out) | exact HB.out)⟩
          ·rw [if_neg c33] at H
           have c33b0 : decide (a1_1 ≤ (rd l0_3 x38_2)) = false := decide_eq_false c33
           clear c33
           have H' := Aside0.mk H
           clear H
           have p105 : 0 ≤ (x38_2 : Int) := of_decide_eq_true zx2_7
           have q105 : x38_2 < (l0_3.length : Int) := of_decide_eq_true zx2_7
           obtain ⟨ad105, e105, hx105_0⟩ := Kd.at_int HR0_3.out x38_2 p105 q105
           cases e105
           replace hx105_0 := (HB.out.cell (World.block_lt_of_cell? w _ hx105_0)).trans hx105_0
           replace p105 := eq_true p105
           replace q105 := eq_true q105
           have hnb36 := NB103_102.out
           have hnc36 := NB102_103.out
           obtain ⟨hcz37_0, hcz37_1, hcz37_2, hfz37_0, hfz37_1, hfz37_2⟩ := cx2_bc3 BK103.out
           go_wp2
           go_roundg k2
           case measure => have := HJ2.out; have := HK2.out; omega
           case rel => exact ⟨(rd l0_3 x38_2), (wrap64 (x38_2 + 1)), zx2_5, zx2_5, H', ⟨by have := HJ2.out; have := HK2.out; omega⟩, ⟨by (with_reducible repeat (first | refine blk_drewN ?_ _ | refine blk_drew ?_ | refine blk_alloc ?_ _)); exact BK102.out⟩, ⟨by (with_reducible repeat (first | refine blk_drewN ?_ _ | refine blk_drew ?_ | refine blk_alloc ?_ _)); exact BK103.out⟩, ⟨by repeat (first | (with_reducible first | exact HB.out | apply below_alloc | apply pw_below_drewN | apply below_drew1 | refine below_set ?_ GE102.out | refine below_set ?_ GE103.out) | exact HB.out)⟩⟩
        ·rw [if_neg c31] at H
         exact absurd H (by simp)
       ·rw [if_neg c30] at H
        exact absurd H (by simp)
      ·rw [if_neg c29] at H
       have c29b0 : decide (x38_2 < (l0_3.length : Int)) = false := decide_eq_false c29
       clear c29
       by_cases c38 : (IntKind.u64.wrap ((IntKind.u64.wrap (a1_1 - a0_1)) - (IntKind.u64.wrap ((IntKind.u64.wrap (a0_2 - a0_1)) + (IntKind.u64.wrap ((l0_3.length : Int))))))) = 0
       ·rw [if_pos c38] at H
        have c38b0 : ((IntKind.u64.wrap ((IntKind.u64.wrap (a1_1 - a0_1)) - (IntKind.u64.wrap ((IntKind.u64.wrap (a0_2 - a0_1)) + (IntKind.u64.wrap ((l0_3.length : Int))))))) == 0) = true := beq_iff_eq.mpr c38
        have c38b1 : ((IntKind.u64.wrap ((IntKind.u64.wrap (a1_1 - a0_1)) - (IntKind.u64.wrap ((IntKind.u64.wrap (a0_2 - a0_1)) + (IntKind.u64.wrap ((l0_3.length : Int))))))) != 0) = false := bne_eq_false_iff_eq.mpr c38
        clear c38
        obtain rfl := Option.some.inj H
        have hnb39 := NB102_103.out
        have hnc39 := NB103_102.out
        obtain ⟨hcz40_0, hcz40_1, hcz40_2, hcz40_3, hcz40_4, hcz40_5, hcz40_6, hfz40_0, hfz40_1, hfz40_2, hfz40_3, hfz40_4, hfz40_5, hfz40_6⟩ := cx2_bc7 BK102.out
        obtain ⟨hcz41_0, hcz41_1, hcz41_2, hfz41_0, hfz41_1, hfz41_2⟩ := cx2_bc3 BK103.out
        go_wp2
        go_ret
        exact ⟨by first | rfl | (simp [errW_none, errW_some] <;> rfl) | (simp [*, errW_none, errW_some] <;> rfl), by repeat (first | (with_reducible first | exact HB.out | apply below_alloc | apply pw_below_drewN | apply below_drew1 | refine below_set ?_ GE102.out | refine below_set ?_ GE103.out) | exact HB.out)⟩
       ·rw [if_neg c38] at H
        have c38b0 : ((IntKind.u64.wrap ((IntKind.u64.wrap (a1_1 - a0_1)) - (IntKind.u64.wrap ((IntKind.u64.wrap (a0_2 - a0_1)) + (IntKind.u64.wrap ((l0_3.length : Int))))))) == 0) = false := beq_eq_false_iff_ne.mpr c38
        have c38b1 : ((IntKind.u64.wrap ((IntKind.u64.wrap (a1_1 - a0_1)) - (IntKind.u64.wrap ((IntKind.u64.wrap (a0_2 - a0_1)) + (IntKind.u64.wrap ((l0_3.length : Int))))))) != 0) = true := bne_iff_ne.mpr c38
        by_cases c42 : a0_2 ≥ a1_0
        ·rw [if_pos c42] at H
         have c42b0 : decide (a1_0 ≤ a0_2) = true := decide_eq_true c42
         clear c42
         obtain rfl := Option.some.inj H
         have hnb43 := NB102_103.out
         have hnc43 := NB103_102.out
         obtain ⟨hcz44_0, hcz44_1, hcz44_2, hcz44_3, hcz44_4, hcz44_5, hcz44_6, hfz44_0, hfz44_1, hfz44_2, hfz44_3, hfz44_4, hfz44_5, hfz44_6⟩ := cx2_bc7 BK102.out
         obtain ⟨hcz45_0, hcz45_1, hcz45_2, hfz45_0, hfz45_1, hfz45_2⟩ := cx2_bc3 BK103.out
         go_wp2
         go_ret
         exact ⟨by first | rfl | (simp [errW_none, errW_some] <;> rfl) | (simp [*, errW_none, errW_some] <;> rfl), by repeat (first | (with_reducible first | exact HB.out | apply below_alloc | apply pw_below_drewN | apply below_drew1 | refine below_set ?_ GE102.out | refine below_set ?_ GE103.out) | exact HB.out)⟩
        ·rw [if_neg c42] at H
         have c42b0 : decide (a1_0 ≤ a0_2) = false := decide_eq_false c42
         clear c42
         obtain rfl := Option.some.inj H
         have hnb46 := NB102_103.out
         have hnc46 := NB103_102.out
         obtain ⟨hcz47_0, hcz47_1, hcz47_2, hcz47_3, hcz47_4, hcz47_5, hcz47_6, hfz47_0, hfz47_1, hfz47_2, hfz47_3, hfz47_4, hfz47_5, hfz47_6⟩ := cx2_bc7 BK102.out
         obtain ⟨hcz48_0, hcz48_1, hcz48_2, hfz48_0, hfz48_1, hfz48_2⟩ := cx2_bc3 BK103.out
         go_wp2
         go_ret
         exact ⟨by first | rfl | (simp [errW_none, errW_some] <;> rfl) | (simp [*, errW_none, errW_some] <;> rfl), by repeat (first | (with_reducible first | exact HB.out | apply below_alloc | apply pw_below_drewN | apply below_drew1 | refine below_set ?_ GE102.out | refine below_set ?_ GE103.out) | exact HB.out)⟩

end Go.Proofs.YtmbigoeldobaiaaDoor.XMrk
end
section
/- What the functions of the translation answer, each as a plain Lean function, and that the code comes to it; for a law: its row. Conditions: none but those that each theorem names. Written by a program of this session (wip/xp). -/
namespace Go.Proofs.YtmbigoeldobaiaaDoor.XMrk
open Go.RowKit Go.Proofs.YtmbigoeldobaiaaDoorW.PrintWords Go.Proofs.YtmbigoeldobaiaaDoorW.PrintLast Go.Proofs.YtmbigoeldobaiaaDoorW.PrintMore
attribute [local go_sem] max2_int min2_int max_two min_two max_three min_three max_four min_four   -- for this text's walks alone
theorem cx4_bc3 {w : World} {g : Nat} {t : TypeId} {x0 x1 x2 : Value} (h : w.heap[g]? = some (.cells #[x0, x1, x2] t (0, 0))) : w.cell? ⟨g, 0, none⟩ = some x0 ∧ w.cell? ⟨g, 1, none⟩ = some x1 ∧ w.cell? ⟨g, 2, none⟩ = some x2 ∧ w.frozen? ⟨g, 0, none⟩ = false ∧ w.frozen? ⟨g, 1, none⟩ = false ∧ w.frozen? ⟨g, 2, none⟩ = false :=
 ⟨(blk_cell h 0).trans rfl, (blk_cell h 1).trans rfl, (blk_cell h 2).trans rfl, blk_frozen h 0, blk_frozen h 1, blk_frozen h 2⟩
theorem zx4_4 {p : Prop} (h : p := by first | (with_reducible assumption) | assumption) : p := h
theorem zx4_0 {p : Prop} (h : p := by (with_reducible repeat (first | refine blk_drewN ?_ _ | refine blk_drew ?_ | refine blk_alloc ?_ _)); exact BK106.out) : p := h
theorem zx4_5 {p : Prop} (h : p := by (with_reducible repeat (first | refine blk_drewN ?_ _ | refine blk_drew ?_ | refine blk_alloc ?_ _)); exact BK108.out) : p := h
theorem zx4_6 {p : Prop} (h : p := by repeat (first | (with_reducible first | exact HB.out | apply below_alloc | apply pw_below_drewN | apply below_drew1) | exact HB.out)) : p := h
theorem zx4_3 {p : Prop} (h : p := by (try simp only [List.map_toArray, List.map_cons, List.map_nil]); first | done | rfl | (simp only [List.length_drop, List.length_take]; rfl)) : p := h
theorem zx4_1 {p : Prop} (h : p := by repeat (first | (with_reducible first | exact HB.out | apply below_alloc | apply pw_below_drewN | apply below_drew1 | refine below_set ?_ GE106.out) | exact HB.out)) : p := h
theorem zx4_2 {p : Prop} (h : p := by repeat (first | (with_reducible first | exact HB.out | apply below_alloc | apply pw_below_drewN | apply below_drew1 | refine below_set ?_ GE106.out | refine below_set ?_ GE108.out) | exact HB.out)) : p := h
set_option linter.unusedVariables false
set_option linter.unusedSimpArgs false

/-! ### ledger_Right: function 15 -/
mutual
def ledger_Right.j0 : Nat → Bool → Int → Int → List (S55) → Option (Bool)
 | 0, _, _, _, _ => none
 | k + 1, x20, x107000, x107001, x107002 => if x20 = true then (some false) else (ledger_Right.l0 k x107002 (x107002.length : Int) 0 x107000 x107001 x107002)
def ledger_Right.l0 : Nat → List (S55) → Int → Int → Int → Int → List (S55) → Option (Bool)
 | 0, _, _, _, _, _, _ => none
 | k + 1, x22, x23, x24, x107000, x107001, x107002 => if x24 < x23 then (if 0 ≤ x24 then (if x24 < (x22.length : Int) then ((ledger_Dest_right.f k ((rd_T55 x22 x24).f0) ((rd_T55 x22 x24).f1) ((rd_T55 x22 x24).f2) ((rd_T55 x22 x24).f3) ((rd_T55 x22 x24).f4) ((rd_T55 x22 x24).f5) ((rd_T55 x22 x24).f6) x107000 x107001 x107002).bind fun t109 => (if t109 = true then (if x24 ≤ (x107002.length : Int) then ((ledger_place.f (x107002.take (x24 : Int).toNat) ((rd_T55 x22 x24).f0)).bind fun t114 => (if t114 ≥ 0 then (some false) else (ledger_Right.l0 k x22 x23 (wrap64 (x24 + 1)) x107000 x107001 x107002))) else (none)) else (some false))) else (none)) else (none)) else (some true)
end
def ledger_Right.f (k : Nat) (a0_0 : Int) (a0_1 : Int) (l0_2 : List (S55)) : Option (Bool) := if a0_0 < 1 then (ledger_Right.j0 k true a0_0 a0_1 l0_2) else (if a0_0 > a0_1 then (ledger_Right.j0 k true a0_0 a0_1 l0_2) else (ledger_Right.j0 k (decide ((l0_2.length : Int) > 4)) a0_0 a0_1 l0_2))
theorem ledger_Right.mono_l : ∀ k, (∀ y0 y1 y2 y3, LeO (ledger_Right.j0 k y0 y1 y2 y3) (ledger_Right.j0 (k + 1) y0 y1 y2 y3)) ∧ (∀ y0 y1 y2 y3 y4 y5, LeO (ledger_Right.l0 k y0 y1 y2 y3 y4 y5) (ledger_Right.l0 (k + 1) y0 y1 y2 y3 y4 y5))
 | 0 => ⟨fun _ _ _ _ r h => by simp [ledger_Right.j0] at h, fun _ _ _ _ _ _ r h => by simp [ledger_Right.l0] at h⟩
 | k + 1 => by
  obtain ⟨ih0, ih1⟩ := ledger_Right.mono_l k
  refine ⟨?_, ?_⟩
  ·intro y0 y1 y2 y3
   unfold ledger_Right.j0
   repeat' first
   | (with_reducible exact ih0 _ _ _ _)
   | (with_reducible exact ih1 _ _ _ _ _ _)
   | (with_reducible exact ledger_Dest_right.mono _ _ _ _ _ _ _ _ _ _ _)
   | (with_reducible exact LeO.refl _)
   | (with_reducible exact LeO.none _)
   | (with_reducible refine LeO.ite ?_ ?_)
   | (with_reducible refine LeO.bind ?_ (fun _ => ?_))
   | exact ih0 _ _ _ _
   | exact ih1 _ _ _ _ _ _
   | exact ledger_Dest_right.mono _ _ _ _ _ _ _ _ _ _ _
   | exact LeO.none _
   | refine LeO.ite ?_ ?_
   | refine LeO.bind ?_ (fun _ => ?_)
  ·intro y0 y1 y2 y3 y4 y5
   unfold ledger_Right.l0
   repeat' first
   | (with_reducible exact ih0 _ _ _ _)
   | (with_reducible exact ih1 _ _ _ _ _ _)
   | (with_reducible exact ledger_Dest_right.mono _ _ _ _ _ _ _ _ _ _ _)
   | (with_reducible exact LeO.refl _)
   | (with_reducible exact LeO.none _)
   | (with_reducible refine LeO.ite ?_ ?_)
   | (with_reducible refine LeO.bind ?_ (fun _ => ?_))
   | exact ih0 _ _ _ _
   | exact ih1 _ _ _ _ _ _
   | exact ledger_Dest_right.mono _ _ _ _ _ _ _ _ _ _ _
   | exact LeO.none _
   | refine LeO.ite ?_ ?_
   | refine LeO.bind ?_ (fun _ => ?_)
theorem ledger_Right.mono : ∀ a0 a1 a2 k, LeO (ledger_Right.f k a0 a1 a2) (ledger_Right.f (k + 1) a0 a1 a2) := by
 intro a0 a1 a2 k
 obtain ⟨ih0, ih1⟩ := ledger_Right.mono_l k
 unfold ledger_Right.f
 repeat' first
   | (with_reducible exact ih0 _ _ _ _)
   | (with_reducible exact ih1 _ _ _ _ _ _)
   | (with_reducible exact ledger_Dest_right.mono _ _ _ _ _ _ _ _ _ _ _)
   | (with_reducible exact LeO.refl _)
   | (with_reducible exact LeO.none _)
   | (with_reducible refine LeO.ite ?_ ?_)
   | (with_reducible refine LeO.bind ?_ (fun _ => ?_))
   | exact ih0 _ _ _ _
   | exact ih1 _ _ _ _ _ _
   | exact ledger_Dest_right.mono _ _ _ _ _ _ _ _ _ _ _
   | exact LeO.none _
   | refine LeO.ite ?_ ?_
   | refine LeO.bind ?_ (fun _ => ?_)
def ledger_Right.T6 : Bool × List (List Nat × List Nat) := (true, [([], []), ([], []), ([0, 1], [0, 1]), ([2], [2]), ([3, 2], [3]), ([4], [4]), ([5, 4], [4, 5]), ([4], [4]), ([6, 7, 4], [4, 6, 7]), ([4], [4]), ([9, 4], [4, 9]), ([8, 10, 4, 4], [4, 8, 10]), ([11, 4], [4, 11]), ([4, 12], [4, 12])])
def ledger_Right.B6 : List Nat := [0, 0, 3, 7, 15, 31, 63, 31, 255, 31, 543, 2047, 4095, 8191]
theorem ledger_Right.tab6 : rtab .any (opsOf Tryd.f15 6) = ledger_Right.T6 := by kernel_rfl
theorem ledger_Right.bits6 : waitsOk ledger_Right.T6.2 ledger_Right.B6 = true := by kernel_rfl
set_option maxHeartbeats 8000000 in
set_option maxRecDepth 100000 in
theorem ledger_Right.calls (k : Nat) (a0_0 : Int) (a0_1 : Int) (A0_2 : Option Addr) (c0_2 : Nat) (l0_2 : List (S55)) (r : Bool) (w : World) (hr0_2 : Kd.C k55 w A0_2 l0_2.length l0_2) (hc0_2 : l0_2.length ≤ c0_2) (h : ledger_Right.f k a0_0 a0_1 l0_2 = some r) :
  Calls Tryd.prog 15 #[.agg #[.int .u64 a0_0, .int .u64 a0_1, .slice A0_2 l0_2.length c0_2]] w fun e w' => e = .returned (.bool r) ∧ Below w.heap.size w w' := by
 have hu25 := Tryd.underlying25
 have hu55 := Tryd.underlying55
 have HR0_2 := Aside0.mk hr0_2
 have HC0_2 := Aside0.mk hc0_2
 clear hr0_2 hc0_2
 have HB := Aside0.mk (Below.refl w.heap.size w)
 have H : (if a0_0 < 1 then (ledger_Right.j0 k true a0_0 a0_1 l0_2) else (if a0_0 > a0_1 then (ledger_Right.j0 k true a0_0 a0_1 l0_2) else (ledger_Right.j0 k (decide ((l0_2.length : Int) > 4)) a0_0 a0_1 l0_2))) = some r := h
 clear h
 have HC2 := Aside0.mk H
 clear H
 go_enter Tryd.func15, Tryd.ntmps15
 go_upto_region 1 with (first | ((with_reducible refine gate_dst (N := 1) rfl ?_); (try (refine gate_guard (by rfl) ?_; dsimp only)); refine box_event ?hg (N := 1) ?hd (cs := #[.int .u64 a0_0, .int .u64 a0_1, .slice A0_2 l0_2.length c0_2]) (t := 25) ?hr ?_; (case hd => rfl); (case hg => rfl); (case hr => first | (go_simp; done) | (go_simp; rfl)); intro gb106 hg w3 hbox hb; have n0_ := Aside0.mk (below_step zx4_6 hb); have n1_ := Aside0.mk (hbox); have n2_ := Aside0.mk ((by rw [hg]; exact (below_size zx4_6) : w.heap.size ≤ gb106)); have n3_ := Aside0.mk ((by rw [hg]; exact (below_size zx4_6) : w.heap.size ≤ gb106)); clear HB; have HB := n0_; have BK106 := n1_; have GW106 := n2_; have GE106 := n3_; clear n0_ n1_ n2_ n3_; clear hb hbox hg))
 (try simp only [Act.put, List.setIfInBounds_toArray, List.set_cons_zero, List.set_cons_succ])
 go_cut [20] (fun v20 wc => ∃ (kq : Nat) (x20_1 : Bool), v20 = .bool x20_1 ∧ Aside0 (ledger_Right.j0 kq x20_1 a0_0 a0_1 l0_2 = some r) ∧ Aside0 (kq ≤ k) ∧ Aside0 (wc.heap[gb106]? = some (.cells #[.int .u64 a0_0, .int .u64 a0_1, (.slice A0_2 l0_2.length c0_2)] 25 (0, 0))) ∧ Aside0 (Below w.heap.size w wc))
 case first =>
  have H := HC2.out
  clear HC2
  by_cases c4 : a0_0 < 1
  ·rw [if_pos c4] at H
   have c4b0 : decide (a0_0 < 1) = true := decide_eq_true c4
   clear c4
   (first | rw [c4b0] | (simp only [i64_w, i32_w]; rw [c4b0]) | skip)
   have H' := Aside0.mk H
   clear H
   obtain ⟨hcz5_0, hcz5_1, hcz5_2, hfz5_0, hfz5_1, hfz5_2⟩ := cx4_bc3 BK106.out
   go_wp2
   go_meet
   case rel => exact ⟨_, (true), (by first | rfl | (simp; done) | (simp [*]; done)), H', ⟨by first | omega | exact Nat.le_refl _⟩, ⟨by (with_reducible repeat (first | refine blk_drewN ?_ _ | refine blk_drew ?_ | refine blk_alloc ?_ _)); exact BK106.out⟩, ⟨by repeat (first | (with_reducible first | exact HB.out | apply below_alloc | apply pw_below_drewN | apply below_drew1 | refine below_set ?_ GE106.out) | exact HB.out)⟩⟩
  ·rw [if_neg c4] at H
   have c4b0 : decide (a0_0 < 1) = false := decide_eq_false c4
   clear c4
   (first | rw [c4b0] | (simp only [i64_w, i32_w]; rw [c4b0]) | skip)
   by_cases c6 : a0_0 > a0_1
   ·rw [if_pos c6] at H
    have c6b0 : decide (a0_1 < a0_0) = true := decide_eq_true c6
    clear c6
    have H' := Aside0.mk H
    clear H
    obtain ⟨hcz7_0, hcz7_1, hcz7_2, hfz7_0, hfz7_1, hfz7_2⟩ := cx4_bc3 BK106.out
    go_wp2
    go_meet
    case rel => exact ⟨_, (true), (by first | rfl | (simp; done) | (simp [*]; done)), H', ⟨by first | omega | exact Nat.le_refl _⟩, ⟨by (with_reducible repeat (first | refine blk_drewN ?_ _ | refine blk_drew ?_ | refine blk_alloc ?_ _)); exact BK106.out⟩, ⟨by repeat (first | (with_reducible first | exact HB.out | apply below_alloc | apply pw_below_drewN | apply below_drew1 | refine below_set ?_ GE106.out) | exact HB.out)⟩⟩
   ·rw [if_neg c6] at H
    have c6b0 : decide (a0_1 < a0_0) = false := decide_eq_false c6
    clear c6
    have H' := Aside0.mk H
    clear H
    obtain ⟨hcz8_0, hcz8_1, hcz8_2, hfz8_0, hfz8_1, hfz8_2⟩ := cx4_bc3 BK106.out
    go_wp2
    go_meet
    case rel => exact ⟨_, (decide ((l0_2.length : Int) > 4)), (by first | rfl | (simp; done) | (simp [*]; done)), H', ⟨by first | omega | exact Nat.le_refl _⟩, ⟨by (with_reducible repeat (first | refine blk_drewN ?_ _ | refine blk_drew ?_ | refine blk_alloc ?_ _)); exact BK106.out⟩, ⟨by repeat (first | (with_reducible first | exact HB.out | apply below_alloc | apply pw_below_drewN | apply below_drew1 | refine below_set ?_ GE106.out) | exact HB.out)⟩⟩
 case rest =>
  clear HC2
  (try clear c1); (try clear p2); (try clear c4); (try clear c4b0); (try clear c6); (try clear c6b0); (try clear hcz5_0); (try clear hcz5_1); (try clear hcz5_2); (try clear hcz7_0); (try clear hcz7_1); (try clear hcz7_2); (try clear hcz8_0); (try clear hcz8_1); (try clear hcz8_2); (try clear hfz5_0); (try clear hfz5_1); (try clear hfz5_2); (try clear hfz7_0); (try clear hfz7_1); (try clear hfz7_2); (try clear hfz8_0); (try clear hfz8_1); (try clear hfz8_2)
  obtain ⟨kq, x20_1, rfl, HA, HJ1, BK106, HB⟩ := hcut
  cases kq with
  | zero => exact absurd HA.out (by simp [ledger_Right.j0])
  | succ kj1 =>
   have H := HA.out
   clear HA
   simp only [ledger_Right.j0] at H
   by_cases c9 : x20_1 = true
   ·subst c9
    have H1 : (some false) = some r := by rw [if_pos rfl] at H; exact H
    clear H
    have H := H1
    clear H1
    obtain rfl := Option.some.inj H
    go_wp2
    go_ret
    exact ⟨by first | rfl | (simp [errW_none, errW_some] <;> rfl) | (simp [*, errW_none, errW_some] <;> rfl), by repeat (first | (with_reducible first | exact HB.out | apply below_alloc | apply pw_below_drewN | apply below_drew1 | refine below_set ?_ GE106.out) | exact HB.out)⟩
   ·replace c9 := Bool.eq_false_iff.mpr c9
    subst c9
    have H1 : (ledger_Right.l0 kj1 l0_2 (l0_2.length : Int) 0 a0_0 a0_1 l0_2) = some r := by rw [if_neg (show ¬ (false = true) by decide)] at H; exact H
    clear H
    have H := H1
    clear H1
    have H' := Aside0.mk H
    clear H
    obtain ⟨hcz10_0, hcz10_1, hcz10_2, hfz10_0, hfz10_1, hfz10_2⟩ := cx4_bc3 BK106.out
    go_wp2
    go_loopg [24] kj1 (fun kq v24 w' => ∃ (x24_2 : Int), v24 = .int .i64 x24_2 ∧ Aside0 (ledger_Right.l0 kq l0_2 (l0_2.length : Int) x24_2 a0_0 a0_1 l0_2 = some r) ∧ Aside0 (kq ≤ kj1) ∧ Aside0 (w'.heap[gb106]? = some (.cells #[.int .u64 a0_0, .int .u64 a0_1, (.slice A0_2 l0_2.length c0_2)] 25 (0, 0))) ∧ Aside0 (Below w.heap.size w w'))
    case atStart => exact ⟨(0), (by first | rfl | (simp; done) | (simp [*]; done)), H', ⟨Nat.le_refl _⟩, ⟨by (with_reducible repeat (first | refine blk_drewN ?_ _ | refine blk_drew ?_ | refine blk_alloc ?_ _)); exact BK106.out⟩, ⟨by repeat (first | (with_reducible first | exact HB.out | apply below_alloc | apply pw_below_drewN | apply below_drew1 | refine below_set ?_ GE106.out) | exact HB.out)⟩⟩
    case round =>
     clear H'
     (try clear c1); (try clear p2); (try clear c4); (try clear c4b0); (try clear c6); (try clear c6b0); (try clear c9); (try clear hcz10_0); (try clear hcz10_1); (try clear hcz10_2); (try clear hcz5_0); (try clear hcz5_1); (try clear hcz5_2); (try clear hcz7_0); (try clear hcz7_1); (try clear hcz7_2); (try clear hcz8_0); (try clear hcz8_1); (try clear hcz8_2); (try clear hfz10_0); (try clear hfz10_1); (try clear hfz10_2); (try clear hfz5_0); (try clear hfz5_1); (try clear hfz5_2); (try clear hfz7_0); (try clear hfz7_1); (try clear hfz7_2); (try clear hfz8_0); (try clear hfz8_1); (try clear hfz8_2); (try clear p2)
     obtain ⟨x24_2, rfl, HA, HK2, BK106, HB⟩ := hrel
     cases gk with
     | zero => exact absurd HA.out (by simp [ledger_Right.l0])
     | succ k2 =>
      have H := HA.out
      clear HA
      simp only [ledger_Right.l0] at H
      by_cases c11 : x24_2 < (l0_2.length : Int)
      ·rw [if_pos c11] at H
       have c11b0 : decide (x24_2 < (l0_2.length : Int)) = true := decide_eq_true c11
       clear c11
       by_cases c12 : 0 ≤ x24_2
       ·rw [if_pos c12] at H
        have c12b0 : decide (0 ≤ x24_2) = true := decide_eq_true c12
        clear c12
        by_cases c13 : x24_2 < (l0_2.length : Int)
        ·rw [if_pos c13] at H
         have c13b0 : decide (x24_2 < (l0_2.length : Int)) = true := decide_eq_true c13
         clear c13
         replace H := Option.bind_eq_some_iff.mp H
         obtain ⟨t109, A140, H⟩ := H
         replace H : (if t109 = true then (if x24_2 ≤ (l0_2.length : Int) then ((ledger_place.f (l0_2.take (x24_2 : Int).toNat) ((rd_T55 l0_2 x24_2).f0)).bind fun t114 => (if t114 ≥ 0 then (some false) else (ledger_Right.l0 k2 l0_2 (l0_2.length : Int) (wrap64 (x24_2 + 1)) a0_0 a0_1 l0_2))) else (none)) else (some false)) = some r := H
         have A14 := Aside0.mk A140
         clear A140
         by_cases c15 : t109 = true
         ·subst c15
          have H1 : (if x24_2 ≤ (l0_2.length : Int) then ((ledger_place.f (l0_2.take (x24_2 : Int).toNat) ((rd_T55 l0_2 x24_2).f0)).bind fun t114 => (if t114 ≥ 0 then (some false) else (ledger_Right.l0 k2 l0_2 (l0_2.length : Int) (wrap64 (x24_2 + 1)) a0_0 a0_1 l0_2))) else (none)) = some r := by rw [if_pos rfl] at H; exact H
          clear H
          have H := H1
          clear H1
          have c16b0 := eq_true (of_decide_eq_true zx4_4 : 0 ≤ x24_2)
          by_cases c17 : x24_2 ≤ (l0_2.length : Int)
          ·rw [if_pos c17] at H
           have c17b0 := eq_true c17
           have c17b1 : decide (x24_2 ≤ (l0_2.length : Int)) = true := decide_eq_true c17
           clear c17
           obtain ⟨y110, hy110⟩ : ∃ y_ : List (S55), y_ = (l0_2.take (x24_2 : Int).toNat) := ⟨_, rfl⟩
           replace H : ((ledger_place.f y110 ((rd_T55 l0_2 x24_2).f0)).bind fun t114 => (if t114 ≥ 0 then (some false) else (ledger_Right.l0 k2 l0_2 (l0_2.length : Int) (wrap64 (x24_2 + 1)) a0_0 a0_1 l0_2))) = some r := by first | (rw [hy110]; with_reducible exact H) | (have H2_ := (Option.bind_some _ _).symm.trans H; rw [hy110]; with_reducible exact H2_) | (have H2_ := (Option.bind_some _ _).symm.trans H; with_reducible exact H2_) | with_reducible exact H | (rw [hy110]; exact H) | exact H
           have Ny110 := Aside0.mk hy110
           clear hy110
           replace H := Option.bind_eq_some_iff.mp H
           obtain ⟨t114, A180, H⟩ := H
           replace H : (if t114 ≥ 0 then (some false) else (ledger_Right.l0 k2 l0_2 (l0_2.length : Int) (wrap64 (x24_2 + 1)) a0_0 a0_1 l0_2)) = some r := H
           have A18 := Aside0.mk A180
           clear A180
           by_cases c19 : t114 ≥ 0
           ·rw [if_pos c19] at H
            have c19b0 : decide (0 ≤ t114) = true := decide_eq_true c19
            clear c19
            obtain rfl := Option.some.inj H
            have p107 : 0 ≤ (x24_2 : Int) := of_decide_eq_true zx4_4
            have q107 : x24_2 < (l0_2.length : Int) := of_decide_eq_true zx4_4
            obtain ⟨ad107, A107_3, c107_3, e107, hx107_0, hx107_1, hx107_2, hx107_3, hx107_4, hx107_5, hx107_6, hl107_3, hi107_3⟩ := at_T55 HR0_2.out x24_2 p107 q107
            cases e107
            replace hx107_0 := (HB.out.cell (World.block_lt_of_cell? w _ hx107_0)).trans hx107_0
            replace hx107_1 := (HB.out.cell (World.block_lt_of_cell? w _ hx107_1)).trans hx107_1
            replace hx107_2 := (HB.out.cell (World.block_lt_of_cell? w _ hx107_2)).trans hx107_2
            replace hx107_3 := (HB.out.cell (World.block_lt_of_cell? w _ hx107_3)).trans hx107_3
            replace hx107_4 := (HB.out.cell (World.block_lt_of_cell? w _ hx107_4)).trans hx107_4
            replace hx107_5 := (HB.out.cell (World.block_lt_of_cell? w _ hx107_5)).trans hx107_5
            replace hx107_6 := (HB.out.cell (World.block_lt_of_cell? w _ hx107_6)).trans hx107_6
            have HR107_3 := Aside0.mk hi107_3
            have HC107_3 := Aside0.mk hl107_3
            clear hi107_3 hl107_3
            replace p107 := eq_true p107
            replace q107 := eq_true q107
            try go_wp2_with (first | ((with_reducible refine gate_dst (N := 4) rfl ?_); (try (refine gate_guard (by rfl) ?_; dsimp only)); refine box_event ?hg (N := 4) ?hd (cs := #[.string (⟨#[]⟩ : ByteArray), .int .u64 0, .int .u64 0, .slice none 0 0, .int .u64 0, .int .u64 0, .int .u64 0]) (t := 55) ?hr ?_; (case hd => rfl); (case hg => rfl); (case hr => first | (go_simp; done) | (go_simp; rfl)); intro gb108 hg w20 hbox hb; have n0_ := Aside0.mk (blk_below (g := gb106) (o := .cells #[.int .u64 a0_0, .int .u64 a0_1, .slice (some ad107) l0_2.length c0_2] 25 (0, 0)) zx4_0 hb); have n1_ := Aside0.mk (below_step zx4_1 hb); have n2_ := Aside0.mk (hbox); have n3_ := Aside0.mk ((by rw [hg]; exact (below_size zx4_1) : w.heap.size ≤ gb108)); have n4_ := Aside0.mk ((by rw [hg]; exact (below_size zx4_1) : w.heap.size ≤ gb108)); have n5_ := Aside0.mk ((by rw [hg]; exact Nat.ne_of_lt (blk_lt (g := gb106) (o := .cells #[.int .u64 a0_0, .int .u64 a0_1, .slice (some ad107) l0_2.length c0_2] 25 (0, 0)) zx4_0) : gb106 ≠ gb108)); have n6_ := Aside0.mk ((by rw [hg]; exact Nat.ne_of_gt (blk_lt (g := gb106) (o := .cells #[.int .u64 a0_0, .int .u64 a0_1, .slice (some ad107) l0_2.length c0_2] 25 (0, 0)) zx4_0) : gb108 ≠ gb106)); clear BK106; clear HB; have BK106 := n0_; have HB := n1_; have BK108 := n2_; have GW108 := n3_; have GE108 := n4_; have NB106_108 := n5_; have NB108_106 := n6_; clear n0_ n1_ n2_ n3_ n4_ n5_ n6_; clear hb hbox hg; have hnb21 := NB108_106.out; have hnc21 := NB106_108.out; have hcz22_0 : w20.cell? ⟨gb108, 0, none⟩ = some (.string (⟨#[]⟩ : ByteArray)) := (blk_cell BK108.out 0).trans rfl; have hcz22_1 : w20.cell? ⟨gb108, 1, none⟩ = some (.int .u64 0) := (blk_cell BK108.out 1).trans rfl; have hcz22_2 : w20.cell? ⟨gb108, 2, none⟩ = some (.int .u64 0) := (blk_cell BK108.out 2).trans rfl; have hcz22_3 : w20.cell? ⟨gb108, 3, none⟩ = some (.slice none 0 0) := (blk_cell BK108.out 3).trans rfl; have hcz22_4 : w20.cell? ⟨gb108, 4, none⟩ = some (.int .u64 0) := (blk_cell BK108.out 4).trans rfl; have hcz22_5 : w20.cell? ⟨gb108, 5, none⟩ = some (.int .u64 0) := (blk_cell BK108.out 5).trans rfl; have hcz22_6 : w20.cell? ⟨gb108, 6, none⟩ = some (.int .u64 0) := (blk_cell BK108.out 6).trans rfl; have hfz22_0 := blk_frozen BK108.out 0; have hfz22_1 := blk_frozen BK108.out 1; have hfz22_2 := blk_frozen BK108.out 2; have hfz22_3 := blk_frozen BK108.out 3; have hfz22_4 := blk_frozen BK108.out 4; have hfz22_5 := blk_frozen BK108.out 5; have hfz22_6 := blk_frozen BK108.out 6))
            have n0_ : Aside0 ((((((((w20.setCell ⟨gb108, 0, none⟩ (.string ((rd_T55 l0_2 x24_2).f0))).setCell ⟨gb108, 1, none⟩ (.int .u64 ((rd_T55 l0_2 x24_2).f1))).setCell ⟨gb108, 2, none⟩ (.int .u64 ((rd_T55 l0_2 x24_2).f2))).setCell ⟨gb108, 3, none⟩ (.slice A107_3 ((rd_T55 l0_2 x24_2).f3).length c107_3)).setCell ⟨gb108, 4, none⟩ (.int .u64 ((rd_T55 l0_2 x24_2).f4))).setCell ⟨gb108, 5, none⟩ (.int .u64 ((rd_T55 l0_2 x24_2).f5))).setCell ⟨gb108, 6, none⟩ (.int .u64 ((rd_T55 l0_2 x24_2).f6))).heap[gb106]? = some (.cells #[.int .u64 a0_0, .int .u64 a0_1, .slice (some ad107) l0_2.length c0_2] 25 (0, 0))) := ⟨by (with_reducible repeat (first | refine blk_drewN ?_ _ | refine blk_drew ?_ | refine blk_alloc ?_ _)); refine blk_far ?_ NB106_108.out _; (with_reducible repeat (first | refine blk_drewN ?_ _ | refine blk_drew ?_ | refine blk_alloc ?_ _)); refine blk_far ?_ NB106_108.out _; (with_reducible repeat (first | refine blk_drewN ?_ _ | refine blk_drew ?_ | refine blk_alloc ?_ _)); refine blk_far ?_ NB106_108.out _; (with_reducible repeat (first | refine blk_drewN ?_ _ | refine blk_drew ?_ | refine blk_alloc ?_ _)); refine blk_far ?_ NB106_108.out _; (with_reducible repeat (first | refine blk_drewN ?_ _ | refine blk_drew ?_ | refine blk_alloc ?_ _)); refine blk_far ?_ NB106_108.out _; (with_reducible repeat (first | refine blk_drewN ?_ _ | refine blk_drew ?_ | refine blk_alloc ?_ _)); refine blk_far ?_ NB106_108.out _; (with_reducible repeat (first | refine blk_drewN ?_ _ | refine blk_drew ?_ | refine blk_alloc ?_ _)); refine blk_far ?_ NB106_108.out _; (with_reducible repeat (first | refine blk_drewN ?_ _ | refine blk_drew ?_ | refine blk_alloc ?_ _)); exact BK106.out⟩
            have n1_ : Aside0 ((((((((w20.setCell ⟨gb108, 0, none⟩ (.string ((rd_T55 l0_2 x24_2).f0))).setCell ⟨gb108, 1, none⟩ (.int .u64 ((rd_T55 l0_2 x24_2).f1))).setCell ⟨gb108, 2, none⟩ (.int .u64 ((rd_T55 l0_2 x24_2).f2))).setCell ⟨gb108, 3, none⟩ (.slice A107_3 ((rd_T55 l0_2 x24_2).f3).length c107_3)).setCell ⟨gb108, 4, none⟩ (.int .u64 ((rd_T55 l0_2 x24_2).f4))).setCell ⟨gb108, 5, none⟩ (.int .u64 ((rd_T55 l0_2 x24_2).f5))).setCell ⟨gb108, 6, none⟩ (.int .u64 ((rd_T55 l0_2 x24_2).f6))).heap[gb108]? = some (.cells #[.string ((rd_T55 l0_2 x24_2).f0), .int .u64 ((rd_T55 l0_2 x24_2).f1), .int .u64 ((rd_T55 l0_2 x24_2).f2), .slice A107_3 ((rd_T55 l0_2 x24_2).f3).length c107_3, .int .u64 ((rd_T55 l0_2 x24_2).f4), .int .u64 ((rd_T55 l0_2 x24_2).f5), .int .u64 ((rd_T55 l0_2 x24_2).f6)] 55 (0, 0))) := ⟨by (with_reducible repeat (first | refine blk_drewN ?_ _ | refine blk_drew ?_ | refine blk_alloc ?_ _)); refine blk_put (cs := #[.string ((rd_T55 l0_2 x24_2).f0), .int .u64 ((rd_T55 l0_2 x24_2).f1), .int .u64 ((rd_T55 l0_2 x24_2).f2), .slice A107_3 ((rd_T55 l0_2 x24_2).f3).length c107_3, .int .u64 ((rd_T55 l0_2 x24_2).f4), .int .u64 ((rd_T55 l0_2 x24_2).f5), .int .u64 0]) ?_ 6 _ rfl; (with_reducible repeat (first | refine blk_drewN ?_ _ | refine blk_drew ?_ | refine blk_alloc ?_ _)); refine blk_put (cs := #[.string ((rd_T55 l0_2 x24_2).f0), .int .u64 ((rd_T55 l0_2 x24_2).f1), .int .u64 ((rd_T55 l0_2 x24_2).f2), .slice A107_3 ((rd_T55 l0_2 x24_2).f3).length c107_3, .int .u64 ((rd_T55 l0_2 x24_2).f4), .int .u64 0, .int .u64 0]) ?_ 5 _ rfl; (with_reducible repeat (first | refine blk_drewN ?_ _ | refine blk_drew ?_ | refine blk_alloc ?_ _)); refine blk_put (cs := #[.string ((rd_T55 l0_2 x24_2).f0), .int .u64 ((rd_T55 l0_2 x24_2).f1), .int .u64 ((rd_T55 l0_2 x24_2).f2), .slice A107_3 ((rd_T55 l0_2 x24_2).f3).length c107_3, .int .u64 0, .int .u64 0, .int .u64 0]) ?_ 4 _ rfl; (with_reducible repeat (first | refine blk_drewN ?_ _ | refine blk_drew ?_ | refine blk_alloc ?_ _)); refine blk_put (cs := #[.string ((rd_T55 l0_2 x24_2).f0), .int .u64 ((rd_T55 l0_2 x24_2).f1), .int .u64 ((rd_T55 l0_2 x24_2).f2), .slice none 0 0, .int .u64 0, .int .u64 0, .int .u64 0]) ?_ 3 _ rfl; (with_reducible repeat (first | refine blk_drewN ?_ _ | refine blk_drew ?_ | refine blk_alloc ?_ _)); refine blk_put (cs := #[.string ((rd_T55 l0_2 x24_2).f0), .int .u64 ((rd_T55 l0_2 x24_2).f1), .int .u64 0, .slice none 0 0, .int .u64 0, .int .u64 0, .int .u64 0]) ?_ 2 _ rfl; (with_reducible repeat (first | refine blk_drewN ?_ _ | refine blk_drew ?_ | refine blk_alloc ?_ _)); refine blk_put (cs := #[.string ((rd_T55 l0_2 x24_2).f0), .int .u64 0, .int .u64 0, .slice none 0 0, .int .u64 0, .int .u64 0, .int .u64 0]) ?_ 1 _ rfl; (with_reducible repeat (first | refine blk_drewN ?_ _ | refine blk_drew ?_ | refine blk_alloc ?_ _)); refine blk_put (cs := #[.string (⟨#[]⟩ : ByteArray), .int .u64 0, .int .u64 0, .slice none 0 0, .int .u64 0, .int .u64 0, .int .u64 0]) ?_ 0 _ rfl; (with_reducible repeat (first | refine blk_drewN ?_ _ | refine blk_drew ?_ | refine blk_alloc ?_ _)); exact BK108.out⟩
            have n2_ : Aside0 (Below w.heap.size w (((((((w20.setCell ⟨gb108, 0, none⟩ (.string ((rd_T55 l0_2 x24_2).f0))).setCell ⟨gb108, 1, none⟩ (.int .u64 ((rd_T55 l0_2 x24_2).f1))).setCell ⟨gb108, 2, none⟩ (.int .u64 ((rd_T55 l0_2 x24_2).f2))).setCell ⟨gb108, 3, none⟩ (.slice A107_3 ((rd_T55 l0_2 x24_2).f3).length c107_3)).setCell ⟨gb108, 4, none⟩ (.int .u64 ((rd_T55 l0_2 x24_2).f4))).setCell ⟨gb108, 5, none⟩ (.int .u64 ((rd_T55 l0_2 x24_2).f5))).setCell ⟨gb108, 6, none⟩ (.int .u64 ((rd_T55 l0_2 x24_2).f6)))) := ⟨by repeat (first | (with_reducible first | exact HB.out | apply below_alloc | apply pw_below_drewN | apply below_drew1 | refine below_set ?_ GE106.out | refine below_set ?_ GE108.out) | exact HB.out)⟩
            (try clear BK106)
            (try clear BK108)
            (try clear HB)
            generalize (((((((w20.setCell ⟨gb108, 0, none⟩ (.string ((rd_T55 l0_2 x24_2).f0))).setCell ⟨gb108, 1, none⟩ (.int .u64 ((rd_T55 l0_2 x24_2).f1))).setCell ⟨gb108, 2, none⟩ (.int .u64 ((rd_T55 l0_2 x24_2).f2))).setCell ⟨gb108, 3, none⟩ (.slice A107_3 ((rd_T55 l0_2 x24_2).f3).length c107_3)).setCell ⟨gb108, 4, none⟩ (.int .u64 ((rd_T55 l0_2 x24_2).f4))).setCell ⟨gb108, 5, none⟩ (.int .u64 ((rd_T55 l0_2 x24_2).f5))).setCell ⟨gb108, 6, none⟩ (.int .u64 ((rd_T55 l0_2 x24_2).f6))) = w23 at n0_ n1_ n2_ ⊢
            have BK106 := n0_
            have BK108 := n1_
            have HB := n2_
            clear n0_ n1_ n2_
            have n0_ := Aside0.mk (blk_drew BK106.out)
            have n1_ := Aside0.mk (blk_drew BK108.out)
            have n2_ := Aside0.mk (below_drew1 HB.out)
            clear BK106
            clear BK108
            clear HB
            have BK106 := n0_
            have BK108 := n1_
            have HB := n2_
            clear n0_ n1_ n2_
            refine start_ (n := 14) (S := fun w' => w'.cell? ⟨gb108, 0, none⟩ = some (.string ((rd_T55 l0_2 x24_2).f0)) ∧ w'.cell? ⟨gb108, 1, none⟩ = some (.int .u64 ((rd_T55 l0_2 x24_2).f1)) ∧ w'.cell? ⟨gb108, 2, none⟩ = some (.int .u64 ((rd_T55 l0_2 x24_2).f2)) ∧ w'.cell? ⟨gb108, 3, none⟩ = some (.slice A107_3 ((rd_T55 l0_2 x24_2).f3).length c107_3) ∧ w'.cell? ⟨gb108, 4, none⟩ = some (.int .u64 ((rd_T55 l0_2 x24_2).f4)) ∧ w'.cell? ⟨gb108, 5, none⟩ = some (.int .u64 ((rd_T55 l0_2 x24_2).f5)) ∧ w'.cell? ⟨gb108, 6, none⟩ = some (.int .u64 ((rd_T55 l0_2 x24_2).f6)) ∧ w'.cell? ⟨gb106, 0, none⟩ = some (.int .u64 a0_0) ∧ w'.cell? ⟨gb106, 1, none⟩ = some (.int .u64 a0_1) ∧ w'.cell? ⟨gb106, 2, none⟩ = some (.slice (some ad107) l0_2.length c0_2)) (ds := []) #[false, false, false, false, false, false, false, false, false, false, false, false, false, false] (by kernel_rfl) rfl rfl ⟨(blk_cell BK108.out 0).trans rfl, (blk_cell BK108.out 1).trans rfl, (blk_cell BK108.out 2).trans rfl, (blk_cell BK108.out 3).trans rfl, (blk_cell BK108.out 4).trans rfl, (blk_cell BK108.out 5).trans rfl, (blk_cell BK108.out 6).trans rfl, (blk_cell BK106.out 0).trans rfl, (blk_cell BK106.out 1).trans rfl, (blk_cell BK106.out 2).trans rfl⟩ (fun hHeld => ?_); refine with_tabW ledger_Right.tab6 ledger_Right.bits6 (fun HT_ HW_ => ?_)
            generalize w23.drew = w24 at BK106 BK108 HB hHeld ⊢
            refine take_ (i := 0) (N := some 29) (v := ?_) (a' := ?_) #[true, false, false, false, false, false, false, false, false, false, false, false, false, false] rfl rfl (take_ofW HT_.out HW_.out (by kernel_rfl)) (fun _ _ _ h => h) (Or.inl ⟨by rfl, ?_⟩) hHeld ?_ ?_
            rotate_left
            ·rintro w' ⟨s0, s1, s2, s3, s4, s5, s6, s7, s8, s9⟩
             go_simp
             with_reducible rfl
            rotate_left
            ·simp only [Act.put, List.setIfInBounds_toArray, List.set_cons_zero, List.set_cons_succ, i64_w, i32_w]
             rfl
            refine take_ (i := 1) (N := some 30) (v := ?_) (a' := ?_) #[true, true, false, false, false, false, false, false, false, false, false, false, false, false] rfl rfl (take_ofW HT_.out HW_.out (by kernel_rfl)) (fun _ _ _ h => h) (Or.inl ⟨by rfl, ?_⟩) hHeld ?_ ?_
            rotate_left
            ·rintro w' ⟨s0, s1, s2, s3, s4, s5, s6, s7, s8, s9⟩
             go_simp
             with_reducible rfl
            rotate_left
            ·simp only [Act.put, List.setIfInBounds_toArray, List.set_cons_zero, List.set_cons_succ, i64_w, i32_w]
             rfl
            refine one_ (i := 2) (N := some 31) #[true, true, true, false, false, false, false, false, false, false, false, false, false, false] rfl rfl (one_of HT_.out (by kernel_rfl)) (by decide) (fun K hK => ?_)
            refine goes_ Tryd.func31 (by kernel_rfl) rfl #[.agg #[.string ((rd_T55 l0_2 x24_2).f0), .int .u64 ((rd_T55 l0_2 x24_2).f1), .int .u64 ((rd_T55 l0_2 x24_2).f2), .slice A107_3 ((rd_T55 l0_2 x24_2).f3).length c107_3, .int .u64 ((rd_T55 l0_2 x24_2).f4), .int .u64 ((rd_T55 l0_2 x24_2).f5), .int .u64 ((rd_T55 l0_2 x24_2).f6)], .agg #[.int .u64 a0_0, .int .u64 a0_1, .slice (some ad107) l0_2.length c0_2]] (by rfl) rfl rfl zx4_3 ?_
            with_reducible refine (ledger_Dest_right.calls k2 ((rd_T55 l0_2 x24_2).f0) ((rd_T55 l0_2 x24_2).f1) ((rd_T55 l0_2 x24_2).f2) _ _ ((rd_T55 l0_2 x24_2).f3) ((rd_T55 l0_2 x24_2).f4) ((rd_T55 l0_2 x24_2).f5) ((rd_T55 l0_2 x24_2).f6) a0_0 a0_1 _ _ l0_2 true _ ?side1 ?side2 ?side3 ?side4 A14.out).mono ?_
            (case side1 => repeat (first | exact (Kd.C_below HR107_3.out HB.out) | (with_reducible refine Kd.C_alloc ?_ _) | (with_reducible refine Kd.C_drewN ?_ _) | (with_reducible refine Kd.C_drew ?_)))
            (case side2 => exact HC107_3.out)
            (case side3 => repeat (first | exact (Kd.C_below HR0_2.out HB.out) | (with_reducible refine Kd.C_alloc ?_ _) | (with_reducible refine Kd.C_drewN ?_ _) | (with_reducible refine Kd.C_drew ?_)))
            (case side4 => exact HC0_2.out)
            rintro e w25 ⟨rfl, hb⟩
            refine ⟨_, rfl, ?_⟩
            have n0_ := Aside0.mk (blk_below (g := gb106) (o := .cells #[.int .u64 a0_0, .int .u64 a0_1, .slice (some ad107) l0_2.length c0_2] 25 (0, 0)) zx4_0 hb)
            have n1_ := Aside0.mk (blk_below (g := gb108) (o := .cells #[.string ((rd_T55 l0_2 x24_2).f0), .int .u64 ((rd_T55 l0_2 x24_2).f1), .int .u64 ((rd_T55 l0_2 x24_2).f2), .slice A107_3 ((rd_T55 l0_2 x24_2).f3).length c107_3, .int .u64 ((rd_T55 l0_2 x24_2).f4), .int .u64 ((rd_T55 l0_2 x24_2).f5), .int .u64 ((rd_T55 l0_2 x24_2).f6)] 55 (0, 0)) zx4_5 hb)
            have n2_ := Aside0.mk (below_step zx4_2 hb)
            clear BK106
            clear BK108
            clear HB
            have BK106 := n0_
            have BK108 := n1_
            have HB := n2_
            clear n0_ n1_ n2_
            (try clear hb)
            (try clear hb2)
            (try clear hk)
            (try clear hi)
            have q26 : (x24_2 : Int) ≤ ((l0_2.length : Int) : Int) := of_decide_eq_true zx4_4
            obtain ⟨i026, hi026, _, hsz26, _⟩ := info_parts info55
            have hroom26 : l0_2.length ≤ c0_2 := HC0_2.out
            have hC26 : Kd.C k55 _ (some ad107) l0_2.length l0_2 := HR0_2.out
            have hcut26 := cut_to (P := Tryd.prog) 23 55 .i64 Tryd.underlying23 hi026 (some ad107) l0_2.length c0_2 x24_2 (of_decide_eq_true zx4_4) q26 hroom26
            have hr26 := Kd.C_take (m := (x24_2 : Int).toNat) hC26 (by omega)
            have hy26 : y110.length = (x24_2 : Int).toNat := (by rw [Ny110.out, List.length_take]; omega)
            rw [← Ny110.out] at hr26
            rw [← hy26] at hcut26
            have HR113 := Aside0.mk hr26
            have HC113 := Aside0.mk (show y110.length ≤ c0_2 from by omega)
            clear hr26 hC26 hroom26 hi026 hsz26
            have KY26 := Aside0.mk hy26
            clear hy26
            replace q26 := eq_true q26
            refine hK.out _ _ ⟨(blk_cell BK108.out 0).trans rfl, (blk_cell BK108.out 1).trans rfl, (blk_cell BK108.out 2).trans rfl, (blk_cell BK108.out 3).trans rfl, (blk_cell BK108.out 4).trans rfl, (blk_cell BK108.out 5).trans rfl, (blk_cell BK108.out 6).trans rfl, (blk_cell BK106.out 0).trans rfl, (blk_cell BK106.out 1).trans rfl, (blk_cell BK106.out 2).trans rfl⟩ (fun hHeld => ?_)
            clear hK K
            refine norm_ (a' := ?_) ?_ ?_
            rotate_left
            ·show Act.put _ (some 31) _ = _
             simp only [Act.put, List.setIfInBounds_toArray, List.set_cons_zero, List.set_cons_succ, i64_w, i32_w]
             rfl
            refine pure_ (i := 3) (N := some 32) (v := ?_) (a' := ?_) #[true, true, true, true, false, false, false, false, false, false, false, false, false, false] rfl rfl (any_of HT_.out (by kernel_rfl)) (fun _ _ _ h => h) (Or.inl ⟨by rfl, ?_⟩) ?_ ?_
            rotate_left
            ·intro w'
             go_simp
             with_reducible rfl
            rotate_left
            ·simp only [Act.put, List.setIfInBounds_toArray, List.set_cons_zero, List.set_cons_succ, i64_w, i32_w]
             rfl
            refine pure_ (i := 4) (N := some 33) (v := ?_) (a' := ?_) #[true, true, true, true, true, false, false, false, false, false, false, false, false, false] rfl rfl (any_of HT_.out (by kernel_rfl)) (fun _ _ _ h => h) (Or.inl ⟨by rfl, ?_⟩) ?_ ?_
            rotate_left
            ·intro w'
             go_simp
             with_reducible rfl
            rotate_left
            ·simp only [Act.put, List.setIfInBounds_toArray, List.set_cons_zero, List.set_cons_succ, i64_w, i32_w]
             rfl
            refine pure_ (i := 5) (N := some 34) (v := ?_) (a' := ?_) #[true, true, true, true, true, true, false, false, false, false, false, false, false, false] rfl rfl (any_of HT_.out (by kernel_rfl)) (fun _ _ _ h => h) (Or.inl ⟨by rfl, ?_⟩) ?_ ?_
            rotate_left
            ·intro w'
             go_simp
             with_reducible rfl
            rotate_left
            ·simp only [Act.put, List.setIfInBounds_toArray, List.set_cons_zero, List.set_cons_succ, i64_w, i32_w]
             rfl
            refine pure_ (i := 7) (N := some 36) (v := ?_) (a' := ?_) #[true, true, true, true, true, true, false, true, false, false, false, false, false, false] rfl rfl (any_of HT_.out (by kernel_rfl)) (fun _ _ _ h => h) (Or.inl ⟨by rfl, ?_⟩) ?_ ?_
            rotate_left
            ·intro w'
             go_simp
             with_reducible rfl
            rotate_left
            ·simp only [Act.put, List.setIfInBounds_toArray, List.set_cons_zero, List.set_cons_succ, i64_w, i32_w]
             rfl
            refine pure_ (i := 9) (N := some 38) (v := ?_) (a' := ?_) #[true, true, true, true, true, true, false, true, false, true, false, false, false, false] rfl rfl (any_of HT_.out (by kernel_rfl)) (fun _ _ _ h => h) (Or.inl ⟨by rfl, ?_⟩) ?_ ?_
            rotate_left
            ·intro w'
             go_simp
             with_reducible rfl
            rotate_left
            ·simp only [Act.put, List.setIfInBounds_toArray, List.set_cons_zero, List.set_cons_succ, i64_w, i32_w]
             rfl
            refine take_ (i := 6) (N := some 35) (v := ?_) (a' := ?_) #[true, true, true, true, true, true, true, true, false, true, false, false, false, false] rfl rfl (take_ofW HT_.out HW_.out (by kernel_rfl)) (fun _ _ _ h => h) (Or.inl ⟨by rfl, ?_⟩) hHeld ?_ ?_
            rotate_left
            ·rintro w' ⟨s0, s1, s2, s3, s4, s5, s6, s7, s8, s9⟩
             go_simp
             with_reducible rfl
            rotate_left
            ·simp only [Act.put, List.setIfInBounds_toArray, List.set_cons_zero, List.set_cons_succ, i64_w, i32_w]
             rfl
            refine pure_ (i := 8) (N := some 37) (v := ?_) (a' := ?_) #[true, true, true, true, true, true, true, true, true, true, false, false, false, false] rfl rfl (any_of HT_.out (by kernel_rfl)) (fun _ _ _ h => h) (Or.inl ⟨by rfl, ?_⟩) ?_ ?_
            rotate_left
            ·intro w'
             go_simp
             with_reducible rfl
            rotate_left
            ·simp only [Act.put, List.setIfInBounds_toArray, List.set_cons_zero, List.set_cons_succ, i64_w, i32_w]
             rfl
            refine take_ (i := 10) (N := some 39) (v := ?_) (a' := ?_) #[true, true, true, true, true, true, true, true, true, true, true, false, false, false] rfl rfl (take_ofW HT_.out HW_.out (by kernel_rfl)) (fun _ _ _ h => h) (Or.inl ⟨by rfl, ?_⟩) hHeld ?_ ?_
            rotate_left
            ·rintro w' ⟨s0, s1, s2, s3, s4, s5, s6, s7, s8, s9⟩
             go_simp
             with_reducible rfl
            rotate_left
            ·simp only [Act.put, List.setIfInBounds_toArray, List.set_cons_zero, List.set_cons_succ, i64_w, i32_w]
             rfl
            refine one_ (i := 11) (N := some 40) #[true, true, true, true, true, true, true, true, true, true, true, true, false, false] rfl rfl (one_of HT_.out (by kernel_rfl)) (by decide) (fun K hK => ?_)
            refine goes_ Tryd.func32 (by kernel_rfl) rfl #[.slice (some ad107) y110.length c0_2, .string ((rd_T55 l0_2 x24_2).f0)] (by rfl) rfl rfl zx4_3 ?_
            with_reducible refine (ledger_place.calls _ _ y110 ((rd_T55 l0_2 x24_2).f0) t114 _ ?side1 ?side2 A18.out).mono ?_
            (case side1 => repeat (first | exact (Kd.C_below HR113.out HB.out) | (with_reducible refine Kd.C_alloc ?_ _) | (with_reducible refine Kd.C_drewN ?_ _) | (with_reducible refine Kd.C_drew ?_)))
            (case side2 => exact HC113.out)
            rintro e w27 ⟨rfl, hb⟩
            refine ⟨_, rfl, ?_⟩
            have n0_ := Aside0.mk (blk_below (g := gb106) (o := .cells #[.int .u64 a0_0, .int .u64 a0_1, .slice (some ad107) l0_2.length c0_2] 25 (0, 0)) zx4_0 hb)
            have n1_ := Aside0.mk (blk_below (g := gb108) (o := .cells #[.string ((rd_T55 l0_2 x24_2).f0), .int .u64 ((rd_T55 l0_2 x24_2).f1), .int .u64 ((rd_T55 l0_2 x24_2).f2), .slice A107_3 ((rd_T55 l0_2 x24_2).f3).length c107_3, .int .u64 ((rd_T55 l0_2 x24_2).f4), .int .u64 ((rd_T55 l0_2 x24_2).f5), .int .u64 ((rd_T55 l0_2 x24_2).f6)] 55 (0, 0)) zx4_5 hb)
            have n2_ := Aside0.mk (below_step zx4_2 hb)
            clear BK106
            clear BK108
            clear HB
            have BK106 := n0_
            have BK108 := n1_
            have HB := n2_
            clear n0_ n1_ n2_
            (try clear hb)
            (try clear hb2)
            (try clear hk)
            (try clear hi)
            refine hK.out _ _ ⟨(blk_cell BK108.out 0).trans rfl, (blk_cell BK108.out 1).trans rfl, (blk_cell BK108.out 2).trans rfl, (blk_cell BK108.out 3).trans rfl, (blk_cell BK108.out 4).trans rfl, (blk_cell BK108.out 5).trans rfl, (blk_cell BK108.out 6).trans rfl, (blk_cell BK106.out 0).trans rfl, (blk_cell BK106.out 1).trans rfl, (blk_cell BK106.out 2).trans rfl⟩ (fun hHeld => ?_)
            clear hK K
            refine norm_ (a' := ?_) ?_ ?_
            rotate_left
            ·show Act.put _ (some 40) _ = _
             simp only [Act.put, List.setIfInBounds_toArray, List.set_cons_zero, List.set_cons_succ, i64_w, i32_w]
             rfl
            refine pure_ (i := 12) (N := some 41) (v := ?_) (a' := ?_) #[true, true, true, true, true, true, true, true, true, true, true, true, true, false] rfl rfl (any_of HT_.out (by kernel_rfl)) (fun _ _ _ h => h) (Or.inl ⟨by rfl, ?_⟩) ?_ ?_
            rotate_left
            ·intro w'
             go_simp
             with_reducible rfl
            rotate_left
            ·simp only [Act.put, List.setIfInBounds_toArray, List.set_cons_zero, List.set_cons_succ, i64_w, i32_w]
             rfl
            refine pure_ (i := 13) (N := some 42) (v := ?_) (a' := ?_) #[true, true, true, true, true, true, true, true, true, true, true, true, true, true] rfl rfl (any_of HT_.out (by kernel_rfl)) (fun _ _ _ h => h) (Or.inl ⟨by rfl, ?_⟩) ?_ ?_
            rotate_left
            ·intro w'
             go_simp
             with_reducible rfl
            rotate_left
            ·simp only [Act.put, List.setIfInBounds_toArray, List.set_cons_zero, List.set_cons_succ, i64_w, i32_w]
             rfl
            refine done_ (done_of HT_.out (by kernel_rfl)) ?_
            try go_wp2
            go_ret
            exact ⟨by first | rfl | (simp [errW_none, errW_some] <;> rfl) | (simp [*, errW_none, errW_some] <;> rfl), by repeat (first | (with_reducible first | exact HB.out | apply below_alloc | apply pw_below_drewN | apply below_drew1 | refine below_set ?_ GE106.out | refine below_set ?_ GE108.out) | exact HB.out)⟩
           ·rw [if_neg c19] at H
            have c19b0 : decide (0 ≤ t114) = false := decide_eq_false c19
            clear c19
            have H' := Aside0.mk H
            clear H
            have p107 : 0 ≤ (x24_2 : Int) := of_decide_eq_true zx4_4
            have q107 : x24_2 < (l0_2.length : Int) := of_decide_eq_true zx4_4
            obtain ⟨ad107, A107_3, c107_3, e107, hx107_0, hx107_1, hx107_2, hx107_3, hx107_4, hx107_5, hx107_6, hl107_3, hi107_3⟩ := at_T55 HR0_2.out x24_2 p107 q107
            cases e107
            replace hx107_0 := (HB.out.cell (World.block_lt_of_cell? w _ hx107_0)).trans hx107_0
            replace hx107_1 := (HB.out.cell (World.block_lt_of_cell? w _ hx107_1)).trans hx107_1
            replace hx107_2 := (HB.out.cell (World.block_lt_of_cell? w _ hx107_2)).trans hx107_2
            replace hx107_3 := (HB.out.cell (World.block_lt_of_cell? w _ hx107_3)).trans hx107_3
            replace hx107_4 := (HB.out.cell (World.block_lt_of_cell? w _ hx107_4)).trans hx107_4
            replace hx107_5 := (HB.out.cell (World.block_lt_of_cell? w _ hx107_5)).trans hx107_5
            replace hx107_6 := (HB.out.cell (World.block_lt_of_cell? w _ hx107_6)).trans hx107_6
            have HR107_3 := Aside0.mk hi107_3
            have HC107_3 := Aside0.mk hl107_3
            clear hi107_3 hl107_3
            replace p107 := eq_true p107
            replace q107 := eq_true q107
            try go_wp2_with (first | ((with_reducible refine gate_dst (N := 4) rfl ?_); (try (refine gate_guard (by rfl) ?_; dsimp only)); refine box_event ?hg (N := 4) ?hd (cs := #[.string (⟨#[]⟩ : ByteArray), .int .u64 0, .int .u64 0, .slice none 0 0, .int .u64 0, .int .u64 0, .int .u64 0]) (t := 55) ?hr ?_; (case hd => rfl); (case hg => rfl); (case hr => first | (go_simp; done) | (go_simp; rfl)); intro gb108 hg w28 hbox hb; have n0_ := Aside0.mk (blk_below (g := gb106) (o := .cells #[.int .u64 a0_0, .int .u64 a0_1, .slice (some ad107) l0_2.length c0_2] 25 (0, 0)) zx4_0 hb); have n1_ := Aside0.mk (below_step zx4_1 hb); have n2_ := Aside0.mk (hbox); have n3_ := Aside0.mk ((by rw [hg]; exact (below_size zx4_1) : w.heap.size ≤ gb108)); have n4_ := Aside0.mk ((by rw [hg]; exact (below_size zx4_1) : w.heap.size ≤ gb108)); have n5_ := Aside0.mk ((by rw [hg]; exact Nat.ne_of_lt (blk_lt (g := gb106) (o := .cells #[.int .u64 a0_0, .int .u64 a0_1, .slice (some ad107) l0_2.length c0_2] 25 (0, 0)) zx4_0) : gb106 ≠ gb108)); have n6_ := Aside0.mk ((by rw [hg]; exact Nat.ne_of_gt (blk_lt (g := gb106) (o := .cells #[.int .u64 a0_0, .int .u64 a0_1, .slice (some ad107) l0_2.length c0_2] 25 (0, 0)) zx4_0) : gb108 ≠ gb106)); clear BK106; clear HB; have BK106 := n0_; have HB := n1_; have BK108 := n2_; have GW108 := n3_; have GE108 := n4_; have NB106_108 := n5_; have NB108_106 := n6_; clear n0_ n1_ n2_ n3_ n4_ n5_ n6_; clear hb hbox hg; have hnb29 := NB108_106.out; have hnc29 := NB106_108.out; have hcz30_0 : w28.cell? ⟨gb108, 0, none⟩ = some (.string (⟨#[]⟩ : ByteArray)) := (blk_cell BK108.out 0).trans rfl; have hcz30_1 : w28.cell? ⟨gb108, 1, none⟩ = some (.int .u64 0) := (blk_cell BK108.out 1).trans rfl; have hcz30_2 : w28.cell? ⟨gb108, 2, none⟩ = some (.int .u64 0) := (blk_cell BK108.out 2).trans rfl; have hcz30_3 : w28.cell? ⟨gb108, 3, none⟩ = some (.slice none 0 0) := (blk_cell BK108.out 3).trans rfl; have hcz30_4 : w28.cell? ⟨gb108, 4, none⟩ = some (.int .u64 0) := (blk_cell BK108.out 4).trans rfl; have hcz30_5 : w28.cell? ⟨gb108, 5, none⟩ = some (.int .u64 0) := (blk_cell BK108.out 5).trans rfl; have hcz30_6 : w28.cell? ⟨gb108, 6, none⟩ = some (.int .u64 0) := (blk_cell BK108.out 6).trans rfl; have hfz30_0 := blk_frozen BK108.out 0; have hfz30_1 := blk_frozen BK108.out 1; have hfz30_2 := blk_frozen BK108.out 2; have hfz30_3 := blk_frozen BK108.out 3; have hfz30_4 := blk_frozen BK108.out 4; have hfz30_5 := blk_frozen BK108.out 5; have hfz30_6 := blk_frozen BK108.out 6))
            have n0_ : Aside0 ((((((((w28.setCell ⟨gb108, 0, none⟩ (.string ((rd_T55 l0_2 x24_2).f0))).setCell ⟨gb108, 1, none⟩ (.int .u64 ((rd_T55 l0_2 x24_2).f1))).setCell ⟨gb108, 2, none⟩ (.int .u64 ((rd_T55 l0_2 x24_2).f2))).setCell ⟨gb108, 3, none⟩ (.slice A107_3 ((rd_T55 l0_2 x24_2).f3).length c107_3)).setCell ⟨gb108, 4, none⟩ (.int .u64 ((rd_T55 l0_2 x24_2).f4))).setCell ⟨gb108, 5, none⟩ (.int .u64 ((rd_T55 l0_2 x24_2).f5))).setCell ⟨gb108, 6, none⟩ (.int .u64 ((rd_T55 l0_2 x24_2).f6))).heap[gb106]? = some (.cells #[.int .u64 a0_0, .int .u64 a0_1, .slice (some ad107) l0_2.length c0_2] 25 (0, 0))) := ⟨by (with_reducible repeat (first | refine blk_drewN ?_ _ | refine blk_drew ?_ | refine blk_alloc ?_ _)); refine blk_far ?_ NB106_108.out _; (with_reducible repeat (first | refine blk_drewN ?_ _ | refine blk_drew ?_ | refine blk_alloc ?_ _)); refine blk_far ?_ NB106_108.out _; (with_reducible repeat (first | refine blk_drewN ?_ _ | refine blk_drew ?_ | refine blk_alloc ?_ _)); refine blk_far ?_ NB106_108.out _; (with_reducible repeat (first | refine blk_drewN ?_ _ | refine blk_drew ?_ | refine blk_alloc ?_ _)); refine blk_far ?_ NB106_108.out _; (with_reducible repeat (first | refine blk_drewN ?_ _ | refine blk_drew ?_ | refine blk_alloc ?_ _)); refine blk_far ?_ NB106_108.out _; (with_reducible repeat (first | refine blk_drewN ?_ _ | refine blk_drew ?_ | refine blk_alloc ?_ _)); refine blk_far ?_ NB106_108.out _; (with_reducible repeat (first | refine blk_drewN ?_ _ | refine blk_drew ?_ | refine blk_alloc ?_ _)); refine blk_far ?_ NB106_108.out _; (with_reducible repeat (first | refine blk_drewN ?_ _ | refine blk_drew ?_ | refine blk_alloc ?_ _)); exact BK106.out⟩
            have n1_ : Aside0 ((((((((w28.setCell ⟨gb108, 0, none⟩ (.string ((rd_T55 l0_2 x24_2).f0))).setCell ⟨gb108, 1, none⟩ (.int .u64 ((rd_T55 l0_2 x24_2).f1))).setCell ⟨gb108, 2, none⟩ (.int .u64 ((rd_T55 l0_2 x24_2).f2))).setCell ⟨gb108, 3, none⟩ (.slice A107_3 ((rd_T55 l0_2 x24_2).f3).length c107_3)).setCell ⟨gb108, 4, none⟩ (.int .u64 ((rd_T55 l0_2 x24_2).f4))).setCell ⟨gb108, 5, none⟩ (.int .u64 ((rd_T55 l0_2 x24_2).f5))).setCell ⟨gb108, 6, none⟩ (.int .u64 ((rd_T55 l0_2 x24_2).f6))).heap[gb108]? = some (.cells #[.string ((rd_T55 l0_2 x24_2).f0), .int .u64 ((rd_T55 l0_2 x24_2).f1), .int .u64 ((rd_T55 l0_2 x24_2).f2), .slice A107_3 ((rd_T55 l0_2 x24_2).f3).length c107_3, .int .u64 ((rd_T55 l0_2 x24_2).f4), .int .u64 ((rd_T55 l0_2 x24_2).f5), .int .u64 ((rd_T55 l0_2 x24_2).f6)] 55 (0, 0))) := ⟨by (with_reducible repeat (first | refine blk_drewN ?_ _ | refine blk_drew ?_ | refine blk_alloc ?_ _)); refine blk_put (cs := #[.string ((rd_T55 l0_2 x24_2).f0), .int .u64 ((rd_T55 l0_2 x24_2).f1), .int .u64 ((rd_T55 l0_2 x24_2).f2), .slice A107_3 ((rd_T55 l0_2 x24_2).f3).length c107_3, .int .u64 ((rd_T55 l0_2 x24_2).f4), .int .u64 ((rd_T55 l0_2 x24_2).f5), .int .u64 0]) ?_ 6 _ rfl; (with_reducible repeat (first | refine blk_drewN ?_ _ | refine blk_drew ?_ | refine blk_alloc ?_ _)); refine blk_put (cs := #[.string ((rd_T55 l0_2 x24_2).f0), .int .u64 ((rd_T55 l0_2 x24_2).f1), .int .u64 ((rd_T55 l0_2 x24_2).f2), .slice A107_3 ((rd_T55 l0_2 x24_2).f3).length c107_3, .int .u64 ((rd_T55 l0_2 x24_2).f4), .int .u64 0, .int .u64 0]) ?_ 5 _ rfl; (with_reducible repeat (first | refine blk_drewN ?_ _ | refine blk_drew ?_ | refine blk_alloc ?_ _)); refine blk_put (cs := #[.string ((rd_T55 l0_2 x24_2).f0), .int .u64 ((rd_T55 l0_2 x24_2).f1), .int .u64 ((rd_T55 l0_2 x24_2).f2), .slice A107_3 ((rd_T55 l0_2 x24_2).f3).length c107_3, .int .u64 0, .int .u64 0, .int .u64 0]) ?_ 4 _ rfl; (with_reducible repeat (first | refine blk_drewN ?_ _ | refine blk_drew ?_ | refine blk_alloc ?_ _)); refine blk_put (cs := #[.string ((rd_T55 l0_2 x24_2).f0), .int .u64 ((rd_T55 l0_2 x24_2).f1), .int .u64 ((rd_T55 l0_2 x24_2).f2), .slice none 0 0, .int .u64 0, .int .u64 0, .int .u64 0]) ?_ 3 _ rfl; (with_reducible repeat (first | refine blk_drewN ?_ _ | refine blk_drew ?_ | refine blk_alloc ?_ _)); refine blk_put (cs := #[.string ((rd_T55 l0_2 x24_2).f0), .int .u64 ((rd_T55 l0_2 x24_2).f1), .int .u64 0, .slice none 0 0, .int .u64 0, .int .u64 0, .int .u64 0]) ?_ 2 _ rfl; (with_reducible repeat (first | refine blk_drewN ?_ _ | refine blk_drew ?_ | refine blk_alloc ?_ _)); refine blk_put (cs := #[.string ((rd_T55 l0_2 x24_2).f0), .int .u64 0, .int .u64 0, .slice none 0 0, .int .u64 0, .int .u64 0, .int .u64 0]) ?_ 1 _ rfl; (with_reducible repeat (first | refine blk_drewN ?_ _ | refine blk_drew ?_ | refine blk_alloc ?_ _)); refine blk_put (cs := #[.string (⟨#[]⟩ : ByteArray), .int .u64 0, .int .u64 0, .slice none 0 0, .int .u64 0, .int .u64 0, .int .u64 0]) ?_ 0 _ rfl; (with_reducible repeat (first | refine blk_drewN ?_ _ | refine blk_drew ?_ | refine blk_alloc ?_ _)); exact BK108.out⟩
            have n2_ : Aside0 (Below w.heap.size w (((((((w28.setCell ⟨gb108, 0, none⟩ (.string ((rd_T55 l0_2 x24_2).f0))).setCell ⟨gb108, 1, none⟩ (.int .u64 ((rd_T55 l0_2 x24_2).f1))).setCell ⟨gb108, 2, none⟩ (.int .u64 ((rd_T55 l0_2 x24_2).f2))).setCell ⟨gb108, 3, none⟩ (.slice A107_3 ((rd_T55 l0_2 x24_2).f3).length c107_3)).setCell ⟨gb108, 4, none⟩ (.int .u64 ((rd_T55 l0_2 x24_2).f4))).setCell ⟨gb108, 5, none⟩ (.int .u64 ((rd_T55 l0_2 x24_2).f5))).setCell ⟨gb108, 6, none⟩ (.int .u64 ((rd_T55 l0_2 x24_2).f6)))) := ⟨by repeat (first | (with_reducible first | exact HB.out | apply below_alloc | apply pw_below_drewN | apply below_drew1 | refine below_set ?_ GE106.out | refine below_set ?_ GE108.out) | exact HB.out)⟩
            (try clear BK106)
            (try clear BK108)
            (try clear HB)
            generalize (((((((w28.setCell ⟨gb108, 0, none⟩ (.string ((rd_T55 l0_2 x24_2).f0))).setCell ⟨gb108, 1, none⟩ (.int .u64 ((rd_T55 l0_2 x24_2).f1))).setCell ⟨gb108, 2, none⟩ (.int .u64 ((rd_T55 l0_2 x24_2).f2))).setCell ⟨gb108, 3, none⟩ (.slice A107_3 ((rd_T55 l0_2 x24_2).f3).length c107_3)).setCell ⟨gb108, 4, none⟩ (.int .u64 ((rd_T55 l0_2 x24_2).f4))).setCell ⟨gb108, 5, none⟩ (.int .u64 ((rd_T55 l0_2 x24_2).f5))).setCell ⟨gb108, 6, none⟩ (.int .u64 ((rd_T55 l0_2 x24_2).f6))) = w31 at n0_ n1_ n2_ ⊢
            have BK106 := n0_
            have BK108 := n1_
            have HB := n2_
            clear n0_ n1_ n2_
            have n0_ := Aside0.mk (blk_drew BK106.out)
            have n1_ := Aside0.mk (blk_drew BK108.out)
            have n2_ := Aside0.mk (below_drew1 HB.out)
            clear BK106
            clear BK108
            clear HB
            have BK106 := n0_
            have BK108 := n1_
            have HB := n2_
            clear n0_ n1_ n2_
            refine start_ (n := 14) (S := fun w' => w'.cell? ⟨gb108, 0, none⟩ = some (.string ((rd_T55 l0_2 x24_2).f0)) ∧ w'.cell? ⟨gb108, 1, none⟩ = some (.int .u64 ((rd_T55 l0_2 x24_2).f1)) ∧ w'.cell? ⟨gb108, 2, none⟩ = some (.int .u64 ((rd_T55 l0_2 x24_2).f2)) ∧ w'.cell? ⟨gb108, 3, none⟩ = some (.slice A107_3 ((rd_T55 l0_2 x24_2).f3).length c107_3) ∧ w'.cell? ⟨gb108, 4, none⟩ = some (.int .u64 ((rd_T55 l0_2 x24_2).f4)) ∧ w'.cell? ⟨gb108, 5, none⟩ = some (.int .u64 ((rd_T55 l0_2 x24_2).f5)) ∧ w'.cell? ⟨gb108, 6, none⟩ = some (.int .u64 ((rd_T55 l0_2 x24_2).f6)) ∧ w'.cell? ⟨gb106, 0, none⟩ = some (.int .u64 a0_0) ∧ w'.cell? ⟨gb106, 1, none⟩ = some (.int .u64 a0_1) ∧ w'.cell? ⟨gb106, 2, none⟩ = some (.slice (some ad107) l0_2.length c0_2)) (ds := []) #[false, false, false, false, false, false, false, false, false, false, false, false, false, false] (by kernel_rfl) rfl rfl ⟨(blk_cell BK108.out 0).trans rfl, (blk_cell BK108.out 1).trans rfl, (blk_cell BK108.out 2).trans rfl, (blk_cell BK108.out 3).trans rfl, (blk_cell BK108.out 4).trans rfl, (blk_cell BK108.out 5).trans rfl, (blk_cell BK108.out 6).trans rfl, (blk_cell BK106.out 0).trans rfl, (blk_cell BK106.out 1).trans rfl, (blk_cell BK106.out 2).trans rfl⟩ (fun hHeld => ?_); refine with_tabW ledger_Right.tab6 ledger_Right.bits6 (fun HT_ HW_ => ?_)
            generalize w31.drew = w32 at BK106 BK108 HB hHeld ⊢
            refine take_ (i := 0) (N := some 29) (v := ?_) (a' := ?_) #[true, false, false, false, false, false, false, false, false, false, false, false, false, false] rfl rfl (take_ofW HT_.out HW_.out (by kernel_rfl)) (fun _ _ _ h => h) (Or.inl ⟨by rfl, ?_⟩) hHeld ?_ ?_
            rotate_left
            ·rintro w' ⟨s0, s1, s2, s3, s4, s5, s6, s7, s8, s9⟩
             go_simp
             with_reducible rfl
            rotate_left
            ·simp only [Act.put, List.setIfInBounds_toArray, List.set_cons_zero, List.set_cons_succ, i64_w, i32_w]
             rfl
            refine take_ (i := 1) (N := some 30) (v := ?_) (a' := ?_) #[true, true, false, false, false, false, false, false, false, false, false, false, false, false] rfl rfl (take_ofW HT_.out HW_.out (by kernel_rfl)) (fun _ _ _ h => h) (Or.inl ⟨by rfl, ?_⟩) hHeld ?_ ?_
            rotate_left
            ·rintro w' ⟨s0, s1, s2, s3, s4, s5, s6, s7, s8, s9⟩
             go_simp
             with_reducible rfl
            rotate_left
            ·simp only [Act.put, List.setIfInBounds_toArray, List.set_cons_zero, List.set_cons_succ, i64_w, i32_w]
             rfl
            refine one_ (i := 2) (N := some 31) #[true, true, true, false, false, false, false, false, false, false, false, false, false, false] rfl rfl (one_of HT_.out (by kernel_rfl)) (by decide) (fun K hK => ?_)
            refine goes_ Tryd.func31 (by kernel_rfl) rfl #[.agg #[.string ((rd_T55 l0_2 x24_2).f0), .int .u64 ((rd_T55 l0_2 x24_2).f1), .int .u64 ((rd_T55 l0_2 x24_2).f2), .slice A107_3 ((rd_T55 l0_2 x24_2).f3).length c107_3, .int .u64 ((rd_T55 l0_2 x24_2).f4), .int .u64 ((rd_T55 l0_2 x24_2).f5), .int .u64 ((rd_T55 l0_2 x24_2).f6)], .agg #[.int .u64 a0_0, .int .u64 a0_1, .slice (some ad107) l0_2.length c0_2]] (by rfl) rfl rfl zx4_3 ?_
            with_reducible refine (ledger_Dest_right.calls k2 ((rd_T55 l0_2 x24_2).f0) ((rd_T55 l0_2 x24_2).f1) ((rd_T55 l0_2 x24_2).f2) _ _ ((rd_T55 l0_2 x24_2).f3) ((rd_T55 l0_2 x24_2).f4) ((rd_T55 l0_2 x24_2).f5) ((rd_T55 l0_2 x24_2).f6) a0_0 a0_1 _ _ l0_2 true _ ?side1 ?side2 ?side3 ?side4 A14.out).mono ?_
            (case side1 => repeat (first | exact (Kd.C_below HR107_3.out HB.out) | (with_reducible refine Kd.C_alloc ?_ _) | (with_reducible refine Kd.C_drewN ?_ _) | (with_reducible refine Kd.C_drew ?_)))
            (case side2 => exact HC107_3.out)
            (case side3 => repeat (first | exact (Kd.C_below HR0_2.out HB.out) | (with_reducible refine Kd.C_alloc ?_ _) | (with_reducible refine Kd.C_drewN ?_ _) | (with_reducible refine Kd.C_drew ?_)))
            (case side4 => exact HC0_2.out)
            rintro e w33 ⟨rfl, hb⟩
            refine ⟨_, rfl, ?_⟩
            have n0_ := Aside0.mk (blk_below (g := gb106) (o := .cells #[.int .u64 a0_0, .int .u64 a0_1, .slice (some ad107) l0_2.length c0_2] 25 (0, 0)) zx4_0 hb)
            have n1_ := Aside0.mk (blk_below (g := gb108) (o := .cells #[.string ((rd_T55 l0_2 x24_2).f0), .int .u64 ((rd_T55 l0_2 x24_2).f1), .int .u64 ((rd_T55 l0_2 x24_2).f2), .slice A107_3 ((rd_T55 l0_2 x24_2).f3).length c107_3, .int .u64 ((rd_T55 l0_2 x24_2).f4), .int .u64 ((rd_T55 l0_2 x24_2).f5), .int .u64 ((rd_T55 l0_2 x24_2).f6)] 55 (0, 0)) zx4_5 hb)
            have n2_ := Aside0.mk (below_step zx4_2 hb)
            clear BK106
            clear BK108
            clear HB
            have BK106 := n0_
            have BK108 := n1_
            have HB := n2_
            clear n0_ n1_ n2_
            (try clear hb)
            (try clear hb2)
            (try clear hk)
            (try clear hi)
            have q34 : (x24_2 : Int) ≤ ((l0_2.length : Int) : Int) := of_decide_eq_true zx4_4
            obtain ⟨i034, hi034, _, hsz34, _⟩ := info_parts info55
            have hroom34 : l0_2.length ≤ c0_2 := HC0_2.out
            have hC34 : Kd.C k55 _ (some ad107) l0_2.length l0_2 := HR0_2.out
            have hcut34 := cut_to (P := Tryd.prog) 23 55 .i64 Tryd.underlying23 hi034 (some ad107) l0_2.length c0_2 x24_2 (of_decide_eq_true zx4_4) q34 hroom34
            have hr34 := Kd.C_take (m := (x24_2 : Int).toNat) hC34 (by omega)
            have hy34 : y110.length = (x24_2 : Int).toNat := (by rw [Ny110.out, List.length_take]; omega)
            rw [← Ny110.out] at hr34
            rw [← hy34] at hcut34
            have HR113 := Aside0.mk hr34
            have HC113 := Aside0.mk (show y110.length ≤ c0_2 from by omega)
            clear hr34 hC34 hroom34 hi034 hsz34
            have KY34 := Aside0.mk hy34
            clear hy34
            replace q34 := eq_true q34
            refine hK.out _ _ ⟨(blk_cell BK108.out 0).trans rfl, (blk_cell BK108.out 1).trans rfl, (blk_cell BK108.out 2).trans rfl, (blk_cell BK108.out 3).trans rfl, (blk_cell BK108.out 4).trans rfl, (blk_cell BK108.out 5).trans rfl, (blk_cell BK108.out 6).trans rfl, (blk_cell BK106.out 0).trans rfl, (blk_cell BK106.out 1).trans rfl, (blk_cell BK106.out 2).trans rfl⟩ (fun hHeld => ?_)
            clear hK K
            refine norm_ (a' := ?_) ?_ ?_
            rotate_left
            ·show Act.put _ (some 31) _ = _
             simp only [Act.put, List.setIfInBounds_toArray, List.set_cons_zero, List.set_cons_succ, i64_w, i32_w]
             rfl
            refine pure_ (i := 3) (N := some 32) (v := ?_) (a' := ?_) #[true, true, true, true, false, false, false, false, false, false, false, false, false, false] rfl rfl (any_of HT_.out (by kernel_rfl)) (fun _ _ _ h => h) (Or.inl ⟨by rfl, ?_⟩) ?_ ?_
            rotate_left
            ·intro w'
             go_simp
             with_reducible rfl
            rotate_left
            ·simp only [Act.put, List.setIfInBounds_toArray, List.set_cons_zero, List.set_cons_succ, i64_w, i32_w]
             rfl
            refine pure_ (i := 4) (N := some 33) (v := ?_) (a' := ?_) #[true, true, true, true, true, false, false, false, false, false, false, false, false, false] rfl rfl (any_of HT_.out (by kernel_rfl)) (fun _ _ _ h => h) (Or.inl ⟨by rfl, ?_⟩) ?_ ?_
            rotate_left
            ·intro w'
             go_simp
             with_reducible rfl
            rotate_left
            ·simp only [Act.put, List.setIfInBounds_toArray, List.set_cons_zero, List.set_cons_succ, i64_w, i32_w]
             rfl
            refine pure_ (i := 5) (N := some 34) (v := ?_) (a' := ?_) #[true, true, true, true, true, true, false, false, false, false, false, false, false, false] rfl rfl (any_of HT_.out (by kernel_rfl)) (fun _ _ _ h => h) (Or.inl ⟨by rfl, ?_⟩) ?_ ?_
            rotate_left
            ·intro w'
             go_simp
             with_reducible rfl
            rotate_left
            ·simp only [Act.put, List.setIfInBounds_toArray, List.set_cons_zero, List.set_cons_succ, i64_w, i32_w]
             rfl
            refine pure_ (i := 7) (N := some 36) (v := ?_) (a' := ?_) #[true, true, true, true, true, true, false, true, false, false, false, false, false, false] rfl rfl (any_of HT_.out (by kernel_rfl)) (fun _ _ _ h => h) (Or.inl ⟨by rfl, ?_⟩) ?_ ?_
            rotate_left
            ·intro w'
             go_simp
             with_reducible rfl
            rotate_left
            ·simp only [Act.put, List.setIfInBounds_toArray, List.set_cons_zero, List.set_cons_succ, i64_w, i32_w]
             rfl
            refine pure_ (i := 9) (N := some 38) (v := ?_) (a' := ?_) #[true, true, true, true, true, true, false, true, false, true, false, false, false, false] rfl rfl (any_of HT_.out (by kernel_rfl)) (fun _ _ _ h => h) (Or.inl ⟨by rfl, ?_⟩) ?_ ?_
            rotate_left
            ·intro w'
             go_simp
             with_reducible rfl
            rotate_left
            ·simp only [Act.put, List.setIfInBounds_toArray, List.set_cons_zero, List.set_cons_succ, i64_w, i32_w]
             rfl
            refine take_ (i := 6) (N := some 35) (v := ?_) (a' := ?_) #[true, true, true, true, true, true, true, true, false, true, false, false, false, false] rfl rfl (take_ofW HT_.out HW_.out (by kernel_rfl)) (fun _ _ _ h => h) (Or.inl ⟨by rfl, ?_⟩) hHeld ?_ ?_
            rotate_left
            ·rintro w' ⟨s0, s1, s2, s3, s4, s5, s6, s7, s8, s9⟩
             go_simp
             with_reducible rfl
            rotate_left
            ·simp only [Act.put, List.setIfInBounds_toArray, List.set_cons_zero, List.set_cons_succ, i64_w, i32_w]
             rfl
            refine pure_ (i := 8) (N := some 37) (v := ?_) (a' := ?_) #[true, true, true, true, true, true, true, true, true, true, false, false, false, false] rfl rfl (any_of HT_.out (by kernel_rfl)) (fun _ _ _ h => h) (Or.inl ⟨by rfl, ?_⟩) ?_ ?_
            rotate_left
            ·intro w'
             go_simp
             with_reducible rfl
            rotate_left
            ·simp only [Act.put, List.setIfInBounds_toArray, List.set_cons_zero, List.set_cons_succ, i64_w, i32_w]
             rfl
            refine take_ (i := 10) (N := some 39) (v := ?_) (a' := ?_) #[true, true, true, true, true, true, true, true, true, true, true, false, false, false] rfl rfl (take_ofW HT_.out HW_.out (by kernel_rfl)) (fun _ _ _ h => h) (Or.inl ⟨by rfl, ?_⟩) hHeld ?_ ?_
            rotate_left
            ·rintro w' ⟨s0, s1, s2, s3, s4, s5, s6, s7, s8, s9⟩
             go_simp
             with_reducible rfl
            rotate_left
            ·simp only [Act.put, List.setIfInBounds_toArray, List.set_cons_zero, List.set_cons_succ, i64_w, i32_w]
             rfl
            refine one_ (i := 11) (N := some 40) #[true, true, true, true, true, true, true, true, true, true, true, true, false, false] rfl rfl (one_of HT_.out (by kernel_rfl)) (by decide) (fun K hK => ?_)
            refine goes_ Tryd.func32 (by kernel_rfl) rfl #[.slice (some ad107) y110.length c0_2, .string ((rd_T55 l0_2 x24_2).f0)] (by rfl) rfl rfl zx4_3 ?_
            with_reducible refine (ledger_place.calls _ _ y110 ((rd_T55 l0_2 x24_2).f0) t114 _ ?side1 ?side2 A18.out).mono ?_
            (case side1 => repeat (first | exact (Kd.C_below HR113.out HB.out) | (with_reducible refine Kd.C_alloc ?_ _) | (with_reducible refine Kd.C_drewN ?_ _) | (with_reducible refine Kd.C_drew ?_)))
            (case side2 => exact HC113.out)
            rintro e w35 ⟨rfl, hb⟩
            refine ⟨_, rfl, ?_⟩
            have n0_ := Aside0.mk (blk_below (g := gb106) (o := .cells #[.int .u64 a0_0, .int .u64 a0_1, .slice (some ad107) l0_2.length c0_2] 25 (0, 0)) zx4_0 hb)
            have n1_ := Aside0.mk (blk_below (g := gb108) (o := .cells #[.string ((rd_T55 l0_2 x24_2).f0), .int .u64 ((rd_T55 l0_2 x24_2).f1), .int .u64 ((rd_T55 l0_2 x24_2).f2), .slice A107_3 ((rd_T55 l0_2 x24_2).f3).length c107_3, .int .u64 ((rd_T55 l0_2 x24_2).f4), .int .u64 ((rd_T55 l0_2 x24_2).f5), .int .u64 ((rd_T55 l0_2 x24_2).f6)] 55 (0, 0)) zx4_5 hb)
            have n2_ := Aside0.mk (below_step zx4_2 hb)
            clear BK106
            clear BK108
            clear HB
            have BK106 := n0_
            have BK108 := n1_
            have HB := n2_
            clear n0_ n1_ n2_
            (try clear hb)
            (try clear hb2)
            (try clear hk)
            (try clear hi)
            refine hK.out _ _ ⟨(blk_cell BK108.out 0).trans rfl, (blk_cell BK108.out 1).trans rfl, (blk_cell BK108.out 2).trans rfl, (blk_cell BK108.out 3).trans rfl, (blk_cell BK108.out 4).trans rfl, (blk_cell BK108.out 5).trans rfl, (blk_cell BK108.out 6).trans rfl, (blk_cell BK106.out 0).trans rfl, (blk_cell BK106.out 1).trans rfl, (blk_cell BK106.out 2).trans rfl⟩ (fun hHeld => ?_)
            clear hK K
            refine norm_ (a' := ?_) ?_ ?_
            rotate_left
            ·show Act.put _ (some 40) _ = _
             simp only [Act.put, List.setIfInBounds_toArray, List.set_cons_zero, List.set_cons_succ, i64_w, i32_w]
             rfl
            refine pure_ (i := 12) (N := some 41) (v := ?_) (a' := ?_) #[true, true, true, true, true, true, true, true, true, true, true, true, true, false] rfl rfl (any_of HT_.out (by kernel_rfl)) (fun _ _ _ h => h) (Or.inl ⟨by rfl, ?_⟩) ?_ ?_
            rotate_left
            ·intro w'
             go_simp
             with_reducible rfl
            rotate_left
            ·simp only [Act.put, List.setIfInBounds_toArray, List.set_cons_zero, List.set_cons_succ, i64_w, i32_w]
             rfl
            refine pure_ (i := 13) (N := some 42) (v := ?_) (a' := ?_) #[true, true, true, true, true, true, true, true, true, true, true, true, true, true] rfl rfl (any_of HT_.out (by kernel_rfl)) (fun _ _ _ h => h) (Or.inl ⟨by rfl, ?_⟩) ?_ ?_
            rotate_left
            ·intro w'
             go_simp
             with_reducible rfl
            rotate_left
            ·simp only [Act.put, List.setIfInBounds_toArray, List.set_cons_zero, List.set_cons_succ, i64_w, i32_w]
             rfl
            refine done_ (done_of HT_.out (by kernel_rfl)) ?_
            try go_wp2
            go_roundg k2
            case measure => have := HJ1.out; have := HK2.out; omega
            case rel => exact ⟨(wrap64 (x24_2 + 1)), (by first | rfl | (simp; done) | (simp [*]; done)), H', ⟨by have := HJ1.out; have := HK2.out; omega⟩, ⟨by (with_reducible repeat (first | refine blk_drewN ?_ _ | refine blk_drew ?_ | refine blk_alloc ?_ _)); exact BK106.out⟩, ⟨by repeat (first | (with_reducible first | exact HB.out | apply below_alloc | apply pw_below_drewN | apply below_drew1 | refine below_set ?_ GE106.out | refine below_set ?_ GE108.out) | exact HB.out)⟩⟩
          ·rw [if_neg c17] at H
           exact absurd H (by simp)
         ·replace c15 := Bool.eq_false_iff.mpr c15
          subst c15
          have H1 : (some false) = some r := by rw [if_neg (show ¬ (false = true) by decide)] at H; exact H
          clear H
          have H := H1
          clear H1
          obtain rfl := Option.some.inj H
          have p107 : 0 ≤ (x24_2 : Int) := of_decide_eq_true zx4_4
          have q107 : x24_2 < (l0_2.length : Int) := of_decide_eq_true zx4_4
          obtain ⟨ad107, A107_3, c107_3, e107, hx107_0, hx107_1, hx107_2, hx107_3, hx107_4, hx107_5, hx107_6, hl107_3, hi107_3⟩ := at_T55 HR0_2.out x24_2 p107 q107
          cases e107
          replace hx107_0 := (HB.out.cell (World.block_lt_of_cell? w _ hx107_0)).trans hx107_0
          replace hx107_1 := (HB.out.cell (World.block_lt_of_cell? w _ hx107_1)).trans hx107_1
          replace hx107_2 := (HB.out.cell (World.block_lt_of_cell? w _ hx107_2)).trans hx107_2
          replace hx107_3 := (HB.out.cell (World.block_lt_of_cell? w _ hx107_3)).trans hx107_3
          replace hx107_4 := (HB.out.cell (World.block_lt_of_cell? w _ hx107_4)).trans hx107_4
          replace hx107_5 := (HB.out.cell (World.block_lt_of_cell? w _ hx107_5)).trans hx107_5
          replace hx107_6 := (HB.out.cell (World.block_lt_of_cell? w _ hx107_6)).trans hx107_6
          have HR107_3 := Aside0.mk hi107_3
          have HC107_3 := Aside0.mk hl107_3
          clear hi107_3 hl107_3
          replace p107 := eq_true p107
          replace q107 := eq_true q107
          try go_wp2_with (first | ((with_reducible refine gate_dst (N := 4) rfl ?_); (try (refine gate_guard (by rfl) ?_; dsimp only)); refine box_event ?hg (N := 4) ?hd (cs := #[.string (⟨#[]⟩ : ByteArray), .int .u64 0, .int .u64 0, .slice none 0 0, .int .u64 0, .int .u64 0, .int .u64 0]) (t := 55) ?hr ?_; (case hd => rfl); (case hg => rfl); (case hr => first | (go_simp; done) | (go_simp; rfl)); intro gb108 hg w36 hbox hb; have n0_ := Aside0.mk (blk_below (g := gb106) (o := .cells #[.int .u64 a0_0, .int .u64 a0_1, .slice (some ad107) l0_2.length c0_2] 25 (0, 0)) zx4_0 hb); have n1_ := Aside0.mk (below_step zx4_1 hb); have n2_ := Aside0.mk (hbox); have n3_ := Aside0.mk ((by rw [hg]; exact (below_size zx4_1) : w.heap.size ≤ gb108)); have n4_ := Aside0.mk ((by rw [hg]; exact (below_size zx4_1) : w.heap.size ≤ gb108)); have n5_ := Aside0.mk ((by rw [hg]; exact Nat.ne_of_lt (blk_lt (g := gb106) (o := .cells #[.int .u64 a0_0, .int .u64 a0_1, .slice (some ad107) l0_2.length c0_2] 25 (0, 0)) zx4_0) : gb106 ≠ gb108)); have n6_ := Aside0.mk ((by rw [hg]; exact Nat.ne_of_gt (blk_lt (g := gb106) (o := .cells #[.int .u64 a0_0, .int .u64 a0_1, .slice (some ad107) l0_2.length c0_2] 25 (0, 0)) zx4_0) : gb108 ≠ gb106)); clear BK106; clear HB; have BK106 := n0_; have HB := n1_; have BK108 := n2_; have GW108 := n3_; have GE108 := n4_; have NB106_108 := n5_; have NB108_106 := n6_; clear n0_ n1_ n2_ n3_ n4_ n5_ n6_; clear hb hbox hg; have hnb37 := NB108_106.out; have hnc37 := NB106_108.out; have hcz38_0 : w36.cell? ⟨gb108, 0, none⟩ = some (.string (⟨#[]⟩ : ByteArray)) := (blk_cell BK108.out 0).trans rfl; have hcz38_1 : w36.cell? ⟨gb108, 1, none⟩ = some (.int .u64 0) := (blk_cell BK108.out 1).trans rfl; have hcz38_2 : w36.cell? ⟨gb108, 2, none⟩ = some (.int .u64 0) := (blk_cell BK108.out 2).trans rfl; have hcz38_3 : w36.cell? ⟨gb108, 3, none⟩ = some (.slice none 0 0) := (blk_cell BK108.out 3).trans rfl; have hcz38_4 : w36.cell? ⟨gb108, 4, none⟩ = some (.int .u64 0) := (blk_cell BK108.out 4).trans rfl; have hcz38_5 : w36.cell? ⟨gb108, 5, none⟩ = some (.int .u64 0) := (blk_cell BK108.out 5).trans rfl; have hcz38_6 : w36.cell? ⟨gb108, 6, none⟩ = some (.int .u64 0) := (blk_cell BK108.out 6).trans rfl; have hfz38_0 := blk_frozen BK108.out 0; have hfz38_1 := blk_frozen BK108.out 1; have hfz38_2 := blk_frozen BK108.out 2; have hfz38_3 := blk_frozen BK108.out 3; have hfz38_4 := blk_frozen BK108.out 4; have hfz38_5 := blk_frozen BK108.out 5; have hfz38_6 := blk_frozen BK108.out 6))
          have n0_ : Aside0 ((((((((w36.setCell ⟨gb108, 0, none⟩ (.string ((rd_T55 l0_2 x24_2).f0))).setCell ⟨gb108, 1, none⟩ (.int .u64 ((rd_T55 l0_2 x24_2).f1))).setCell ⟨gb108, 2, none⟩ (.int .u64 ((rd_T55 l0_2 x24_2).f2))).setCell ⟨gb108, 3, none⟩ (.slice A107_3 ((rd_T55 l0_2 x24_2).f3).length c107_3)).setCell ⟨gb108, 4, none⟩ (.int .u64 ((rd_T55 l0_2 x24_2).f4))).setCell ⟨gb108, 5, none⟩ (.int .u64 ((rd_T55 l0_2 x24_2).f5))).setCell ⟨gb108, 6, none⟩ (.int .u64 ((rd_T55 l0_2 x24_2).f6))).heap[gb106]? = some (.cells #[.int .u64 a0_0, .int .u64 a0_1, .slice (some ad107) l0_2.length c0_2] 25 (0, 0))) := ⟨by (with_reducible repeat (first | refine blk_drewN ?_ _ | refine blk_drew ?_ | refine blk_alloc ?_ _)); refine blk_far ?_ NB106_108.out _; (with_reducible repeat (first | refine blk_drewN ?_ _ | refine blk_drew ?_ | refine blk_alloc ?_ _)); refine blk_far ?_ NB106_108.out _; (with_reducible repeat (first | refine blk_drewN ?_ _ | refine blk_drew ?_ | refine blk_alloc ?_ _)); refine blk_far ?_ NB106_108.out _; (with_reducible repeat (first | refine blk_drewN ?_ _ | refine blk_drew ?_ | refine blk_alloc ?_ _)); refine blk_far ?_ NB106_108.out _; (with_reducible repeat (first | refine blk_drewN ?_ _ | refine blk_drew ?_ | refine blk_alloc ?_ _)); refine blk_far ?_ NB106_108.out _; (with_reducible repeat (first | refine blk_drewN ?_ _ | refine blk_drew ?_ | refine blk_alloc ?_ _)); refine blk_far ?_ NB106_108.out _; (with_reducible repeat (first | refine blk_drewN ?_ _ | refine blk_drew ?_ | refine blk_alloc ?_ _)); refine blk_far ?_ NB106_108.out _; (with_reducible repeat (first | refine blk_drewN ?_ _ | refine blk_drew ?_ | refine blk_alloc ?_ _)); exact BK106.out⟩
          have n1_ : Aside0 ((((((((w36.setCell ⟨gb108, 0, none⟩ (.string ((rd_T55 l0_2 x24_2).f0))).setCell ⟨gb108, 1, none⟩ (.int .u64 ((rd_T55 l0_2 x24_2).f1))).setCell ⟨gb108, 2, none⟩ (.int .u64 ((rd_T55 l0_2 x24_2).f2))).setCell ⟨gb108, 3, none⟩ (.slice A107_3 ((rd_T55 l0_2 x24_2).f3).length c107_3)).setCell ⟨gb108, 4, none⟩ (.int .u64 ((rd_T55 l0_2 x24_2).f4))).setCell ⟨gb108, 5, none⟩ (.int .u64 ((rd_T55 l0_2 x24_2).f5))).setCell ⟨gb108, 6, none⟩ (.int .u64 ((rd_T55 l0_2 x24_2).f6))).heap[gb108]? = some (.cells #[.string ((rd_T55 l0_2 x24_2).f0), .int .u64 ((rd_T55 l0_2 x24_2).f1), .int .u64 ((rd_T55 l0_2 x24_2).f2), .slice A107_3 ((rd_T55 l0_2 x24_2).f3).length c107_3, .int .u64 ((rd_T55 l0_2 x24_2).f4), .int .u64 ((rd_T55 l0_2 x24_2).f5), .int .u64 ((rd_T55 l0_2 x24_2).f6)] 55 (0, 0))) := ⟨by (with_reducible repeat (first | refine blk_drewN ?_ _ | refine blk_drew ?_ | refine blk_alloc ?_ _)); refine blk_put (cs := #[.string ((rd_T55 l0_2 x24_2).f0), .int .u64 ((rd_T55 l0_2 x24_2).f1), .int .u64 ((rd_T55 l0_2 x24_2).f2), .slice A107_3 ((rd_T55 l0_2 x24_2).f3).length c107_3, .int .u64 ((rd_T55 l0_2 x24_2).f4), .int .u64 ((rd_T55 l0_2 x24_2).f5), .int .u64 0]) ?_ 6 _ rfl; (with_reducible repeat (first | refine blk_drewN ?_ _ | refine blk_drew ?_ | refine blk_alloc ?_ _)); refine blk_put (cs := #[.string ((rd_T55 l0_2 x24_2).f0), .int .u64 ((rd_T55 l0_2 x24_2).f1), .int .u64 ((rd_T55 l0_2 x24_2).f2), .slice A107_3 ((rd_T55 l0_2 x24_2).f3).length c107_3, .int .u64 ((rd_T55 l0_2 x24_2).f4), .int .u64 0, .int .u64 0]) ?_ 5 _ rfl; (with_reducible repeat (first | refine blk_drewN ?_ _ | refine blk_drew ?_ | refine blk_alloc ?_ _)); refine blk_put (cs := #[.string ((rd_T55 l0_2 x24_2).f0), .int .u64 ((rd_T55 l0_2 x24_2).f1), .int .u64 ((rd_T55 l0_2 x24_2).f2), .slice A107_3 ((rd_T55 l0_2 x24_2).f3).length c107_3, .int .u64 0, .int .u64 0, .int .u64 0]) ?_ 4 _ rfl; (with_reducible repeat (first | refine blk_drewN ?_ _ | refine blk_drew ?_ | refine blk_alloc ?_ _)); refine blk_put (cs := #[.string ((rd_T55 l0_2 x24_2).f0), .int .u64 ((rd_T55 l0_2 x24_2).f1), .int .u64 ((rd_T55 l0_2 x24_2).f2), .slice none 0 0, .int .u64 0, .int .u64 0, .int .u64 0]) ?_ 3 _ rfl; (with_reducible repeat (first | refine blk_drewN ?_ _ | refine blk_drew ?_ | refine blk_alloc ?_ _)); refine blk_put (cs := #[.string ((rd_T55 l0_2 x24_2).f0), .int .u64 ((rd_T55 l0_2 x24_2).f1), .int .u64 0, .slice none 0 0, .int .u64 0, .int .u64 0, .int .u64 0]) ?_ 2 _ rfl; (with_reducible repeat (first | refine blk_drewN ?_ _ | refine blk_drew ?_ | refine blk_alloc ?_ _)); refine blk_put (cs := #[.string ((rd_T55 l0_2 x24_2).f0), .int .u64 0, .int .u64 0, .slice none 0 0, .int .u64 0, .int .u64 0, .int .u64 0]) ?_ 1 _ rfl; (with_reducible repeat (first | refine blk_drewN ?_ _ | refine blk_drew ?_ | refine blk_alloc ?_ _)); refine blk_put (cs := #[.string (⟨#[]⟩ : ByteArray), .int .u64 0, .int .u64 0, .slice none 0 0, .int .u64 0, .int .u64 0, .int .u64 0]) ?_ 0 _ rfl; (with_reducible repeat (first | refine blk_drewN ?_ _ | refine blk_drew ?_ | refine blk_alloc ?_ _)); exact BK108.out⟩
          have n2_ : Aside0 (Below w.heap.size w (((((((w36.setCell ⟨gb108, 0, none⟩ (.string ((rd_T55 l0_2 x24_2).f0))).setCell ⟨gb108, 1, none⟩ (.int .u64 ((rd_T55 l0_2 x24_2).f1))).setCell ⟨gb108, 2, none⟩ (.int .u64 ((rd_T55 l0_2 x24_2).f2))).setCell ⟨gb108, 3, none⟩ (.slice A107_3 ((rd_T55 l0_2 x24_2).f3).length c107_3)).setCell ⟨gb108, 4, none⟩ (.int .u64 ((rd_T55 l0_2 x24_2).f4))).setCell ⟨gb108, 5, none⟩ (.int .u64 ((rd_T55 l0_2 x24_2).f5))).setCell ⟨gb108, 6, none⟩ (.int .u64 ((rd_T55 l0_2 x24_2).f6)))) := ⟨by repeat (first | (with_reducible first | exact HB.out | apply below_alloc | apply pw_below_drewN | apply below_drew1 | refine below_set ?_ GE106.out | refine below_set ?_ GE108.out) | exact HB.out)⟩
          (try clear BK106)
          (try clear BK108)
          (try clear HB)
          generalize (((((((w36.setCell ⟨gb108, 0, none⟩ (.string ((rd_T55 l0_2 x24_2).f0))).setCell ⟨gb108, 1, none⟩ (.int .u64 ((rd_T55 l0_2 x24_2).f1))).setCell ⟨gb108, 2, none⟩ (.int .u64 ((rd_T55 l0_2 x24_2).f2))).setCell ⟨gb108, 3, none⟩ (.slice A107_3 ((rd_T55 l0_2 x24_2).f3).length c107_3)).setCell ⟨gb108, 4, none⟩ (.int .u64 ((rd_T55 l0_2 x24_2).f4))).setCell ⟨gb108, 5, none⟩ (.int .u64 ((rd_T55 l0_2 x24_2).f5))).setCell ⟨gb108, 6, none⟩ (.int .u64 ((rd_T55 l0_2 x24_2).f6))) = w39 at n0_ n1_ n2_ ⊢
          have BK106 := n0_
          have BK108 := n1_
          have HB := n2_
          clear n0_ n1_ n2_
          have n0_ := Aside0.mk (blk_drew BK106.out)
          have n1_ := Aside0.mk (blk_drew BK108.out)
          have n2_ := Aside0.mk (below_drew1 HB.out)
          clear BK106
          clear BK108
          clear HB
          have BK106 := n0_
          have BK108 := n1_
          have HB := n2_
          clear n0_ n1_ n2_
          refine start_ (n := 14) (S := fun w' => w'.cell? ⟨gb108, 0, none⟩ = some (.string ((rd_T55 l0_2 x24_2).f0)) ∧ w'.cell? ⟨gb108, 1, none⟩ = some (.int .u64 ((rd_T55 l0_2 x24_2).f1)) ∧ w'.cell? ⟨gb108, 2, none⟩ = some (.int .u64 ((rd_T55 l0_2 x24_2).f2)) ∧ w'.cell? ⟨gb108, 3, none⟩ = some (.slice A107_3 ((rd_T55 l0_2 x24_2).f3).length c107_3) ∧ w'.cell? ⟨gb108, 4, none⟩ = some (.int .u64 ((rd_T55 l0_2 x24_2).f4)) ∧ w'.cell? ⟨gb108, 5, none⟩ = some (.int .u64 ((rd_T55 l0_2 x24_2).f5)) ∧ w'.cell? ⟨gb108, 6, none⟩ = some (.int .u64 ((rd_T55 l0_2 x24_2).f6)) ∧ w'.cell? ⟨gb106, 0, none⟩ = some (.int .u64 a0_0) ∧ w'.cell? ⟨gb106, 1, none⟩ = some (.int .u64 a0_1) ∧ w'.cell? ⟨gb106, 2, none⟩ = some (.slice (some ad107) l0_2.length c0_2)) (ds := []) #[false, false, false, false, false, false, false, false, false, false, false, false, false, false] (by kernel_rfl) rfl rfl ⟨(blk_cell BK108.out 0).trans rfl, (blk_cell BK108.out 1).trans rfl, (blk_cell BK108.out 2).trans rfl, (blk_cell BK108.out 3).trans rfl, (blk_cell BK108.out 4).trans rfl, (blk_cell BK108.out 5).trans rfl, (blk_cell BK108.out 6).trans rfl, (blk_cell BK106.out 0).trans rfl, (blk_cell BK106.out 1).trans rfl, (blk_cell BK106.out 2).trans rfl⟩ (fun hHeld => ?_); refine with_tabW ledger_Right.tab6 ledger_Right.bits6 (fun HT_ HW_ => ?_)
          generalize w39.drew = w40 at BK106 BK108 HB hHeld ⊢
          refine take_ (i := 0) (N := some 29) (v := ?_) (a' := ?_) #[true, false, false, false, false, false, false, false, false, false, false, false, false, false] rfl rfl (take_ofW HT_.out HW_.out (by kernel_rfl)) (fun _ _ _ h => h) (Or.inl ⟨by rfl, ?_⟩) hHeld ?_ ?_
          rotate_left
          ·rintro w' ⟨s0, s1, s2, s3, s4, s5, s6, s7, s8, s9⟩
           go_simp
           with_reducible rfl
          rotate_left
          ·simp only [Act.put, List.setIfInBounds_toArray, List.set_cons_zero, List.set_cons_succ, i64_w, i32_w]
           rfl
          refine take_ (i := 1) (N := some 30) (v := ?_) (a' := ?_) #[true, true, false, false, false, false, false, false, false, false, false, false, false, false] rfl rfl (take_ofW HT_.out HW_.out (by kernel_rfl)) (fun _ _ _ h => h) (Or.inl ⟨by rfl, ?_⟩) hHeld ?_ ?_
          rotate_left
          ·rintro w' ⟨s0, s1, s2, s3, s4, s5, s6, s7, s8, s9⟩
           go_simp
           with_reducible rfl
          rotate_left
          ·simp only [Act.put, List.setIfInBounds_toArray, List.set_cons_zero, List.set_cons_succ, i64_w, i32_w]
           rfl
          refine one_ (i := 2) (N := some 31) #[true, true, true, false, false, false, false, false, false, false, false, false, false, false] rfl rfl (one_of HT_.out (by kernel_rfl)) (by decide) (fun K hK => ?_)
          refine goes_ Tryd.func31 (by kernel_rfl) rfl #[.agg #[.string ((rd_T55 l0_2 x24_2).f0), .int .u64 ((rd_T55 l0_2 x24_2).f1), .int .u64 ((rd_T55 l0_2 x24_2).f2), .slice A107_3 ((rd_T55 l0_2 x24_2).f3).length c107_3, .int .u64 ((rd_T55 l0_2 x24_2).f4), .int .u64 ((rd_T55 l0_2 x24_2).f5), .int .u64 ((rd_T55 l0_2 x24_2).f6)], .agg #[.int .u64 a0_0, .int .u64 a0_1, .slice (some ad107) l0_2.length c0_2]] (by rfl) rfl rfl zx4_3 ?_
          with_reducible refine (ledger_Dest_right.calls k2 ((rd_T55 l0_2 x24_2).f0) ((rd_T55 l0_2 x24_2).f1) ((rd_T55 l0_2 x24_2).f2) _ _ ((rd_T55 l0_2 x24_2).f3) ((rd_T55 l0_2 x24_2).f4) ((rd_T55 l0_2 x24_2).f5) ((rd_T55 l0_2 x24_2).f6) a0_0 a0_1 _ _ l0_2 false _ ?side1 ?side2 ?side3 ?side4 A14.out).mono ?_
          (case side1 => repeat (first | exact (Kd.C_below HR107_3.out HB.out) | (with_reducible refine Kd.C_alloc ?_ _) | (with_reducible refine Kd.C_drewN ?_ _) | (with_reducible refine Kd.C_drew ?_)))
          (case side2 => exact HC107_3.out)
          (case side3 => repeat (first | exact (Kd.C_below HR0_2.out HB.out) | (with_reducible refine Kd.C_alloc ?_ _) | (with_reducible refine Kd.C_drewN ?_ _) | (with_reducible refine Kd.C_drew ?_)))
          (case side4 => exact HC0_2.out)
          rintro e w41 ⟨rfl, hb⟩
          refine ⟨_, rfl, ?_⟩
          have n0_ := Aside0.mk (blk_below (g := gb106) (o := .cells #[.int .u64 a0_0, .int .u64 a0_1, .slice (some ad107) l0_2.length c0_2] 25 (0, 0)) zx4_0 hb)
          have n1_ := Aside0.mk (blk_below (g := gb108) (o := .cells #[.string ((rd_T55 l0_2 x24_2).f0), .int .u64 ((rd_T55 l0_2 x24_2).f1), .int .u64 ((rd_T55 l0_2 x24_2).f2), .slice A107_3 ((rd_T55 l0_2 x24_2).f3).length c107_3, .int .u64 ((rd_T55 l0_2 x24_2).f4), .int .u64 ((rd_T55 l0_2 x24_2).f5), .int .u64 ((rd_T55 l0_2 x24_2).f6)] 55 (0, 0)) zx4_5 hb)
          have n2_ := Aside0.mk (below_step zx4_2 hb)
          clear BK106
          clear BK108
          clear HB
          have BK106 := n0_
          have BK108 := n1_
          have HB := n2_
          clear n0_ n1_ n2_
          (try clear hb)
          (try clear hb2)
          (try clear hk)
          (try clear hi)
          refine hK.out _ _ ⟨(blk_cell BK108.out 0).trans rfl, (blk_cell BK108.out 1).trans rfl, (blk_cell BK108.out 2).trans rfl, (blk_cell BK108.out 3).trans rfl, (blk_cell BK108.out 4).trans rfl, (blk_cell BK108.out 5).trans rfl, (blk_cell BK108.out 6).trans rfl, (blk_cell BK106.out 0).trans rfl, (blk_cell BK106.out 1).trans rfl, (blk_cell BK106.out 2).trans rfl⟩ (fun hHeld => ?_)
          clear hK K
          refine norm_ (a' := ?_) ?_ ?_
          rotate_left
          ·show Act.put _ (some 31) _ = _
           simp only [Act.put, List.setIfInBounds_toArray, List.set_cons_zero, List.set_cons_succ, i64_w, i32_w]
           rfl
          refine pure_ (i := 3) (N := some 32) (v := ?_) (a' := ?_) #[true, true, true, true, false, false, false, false, false, false, false, false, false, false] rfl rfl (any_of HT_.out (by kernel_rfl)) (fun _ _ _ h => h) (Or.inl ⟨by rfl, ?_⟩) ?_ ?_
          rotate_left
          ·intro w'
           go_simp
           with_reducible rfl
          rotate_left
          ·simp only [Act.put, List.setIfInBounds_toArray, List.set_cons_zero, List.set_cons_succ, i64_w, i32_w]
           rfl
          refine pure_ (i := 4) (N := some 33) (v := ?_) (a' := ?_) #[true, true, true, true, true, false, false, false, false, false, false, false, false, false] rfl rfl (any_of HT_.out (by kernel_rfl)) (fun _ _ _ h => h) (Or.inl ⟨by rfl, ?_⟩) ?_ ?_
          rotate_left
          ·intro w'
           go_simp
           with_reducible rfl
          rotate_left
          ·simp only [Act.put, List.setIfInBounds_toArray, List.set_cons_zero, List.set_cons_succ, i64_w, i32_w]
           rfl
          refine pure_ (i := 5) (N := some 34) (v := undef) (a' := ?_) #[true, true, true, true, true, true, false, false, false, false, false, false, false, false] rfl rfl (any_of HT_.out (by kernel_rfl)) (fun _ _ _ h => h) (Or.inr ⟨by rfl, rfl⟩) ?_ ?_
          rotate_left
          ·simp only [Act.put, List.setIfInBounds_toArray, List.set_cons_zero, List.set_cons_succ, i64_w, i32_w]
           rfl
          refine pure_ (i := 6) (N := some 35) (v := undef) (a' := ?_) #[true, true, true, true, true, true, true, false, false, false, false, false, false, false] rfl rfl (any_of HT_.out (by kernel_rfl)) (fun _ _ _ h => h) (Or.inr ⟨by rfl, rfl⟩) ?_ ?_
          rotate_left
          ·simp only [Act.put, List.setIfInBounds_toArray, List.set_cons_zero, List.set_cons_succ, i64_w, i32_w]
           rfl
          refine pure_ (i := 7) (N := some 36) (v := undef) (a' := ?_) #[true, true, true, true, true, true, true, true, false, false, false, false, false, false] rfl rfl (any_of HT_.out (by kernel_rfl)) (fun _ _ _ h => h) (Or.inr ⟨by rfl, rfl⟩) ?_ ?_
          rotate_left
          ·simp only [Act.put, List.setIfInBounds_toArray, List.set_cons_zero, List.set_cons_succ, i64_w, i32_w]
           rfl
          refine pure_ (i := 8) (N := some 37) (v := undef) (a' := ?_) #[true, true, true, true, true, true, true, true, true, false, false, false, false, false] rfl rfl (any_of HT_.out (by kernel_rfl)) (fun _ _ _ h => h) (Or.inr ⟨by rfl, rfl⟩) ?_ ?_
          rotate_left
          ·simp only [Act.put, List.setIfInBounds_toArray, List.set_cons_zero, List.set_cons_succ, i64_w, i32_w]
           rfl
          refine pure_ (i := 9) (N := some 38) (v := undef) (a' := ?_) #[true, true, true, true, true, true, true, true, true, true, false, false, false, false] rfl rfl (any_of HT_.out (by kernel_rfl)) (fun _ _ _ h => h) (Or.inr ⟨by rfl, rfl⟩) ?_ ?_
          rotate_left
          ·simp only [Act.put, List.setIfInBounds_toArray, List.set_cons_zero, List.set_cons_succ, i64_w, i32_w]
           rfl
          refine pure_ (i := 10) (N := some 39) (v := undef) (a' := ?_) #[true, true, true, true, true, true, true, true, true, true, true, false, false, false] rfl rfl (any_of HT_.out (by kernel_rfl)) (fun _ _ _ h => h) (Or.inr ⟨by rfl, rfl⟩) ?_ ?_
          rotate_left
          ·simp only [Act.put, List.setIfInBounds_toArray, List.set_cons_zero, List.set_cons_succ, i64_w, i32_w]
           rfl
          refine pure_ (i := 11) (N := some 40) (v := undef) (a' := ?_) #[true, true, true, true, true, true, true, true, true, true, true, true, false, false] rfl rfl (any_of HT_.out (by kernel_rfl)) (fun _ _ _ h => h) (Or.inr ⟨by rfl, rfl⟩) ?_ ?_
          rotate_left
          ·simp only [Act.put, List.setIfInBounds_toArray, List.set_cons_zero, List.set_cons_succ, i64_w, i32_w]
           rfl
          refine pure_ (i := 12) (N := some 41) (v := undef) (a' := ?_) #[true, true, true, true, true, true, true, true, true, true, true, true, true, false] rfl rfl (any_of HT_.out (by kernel_rfl)) (fun _ _ _ h => h) (Or.inr ⟨by rfl, rfl⟩) ?_ ?_
          rotate_left
          ·simp only [Act.put, List.setIfInBounds_toArray, List.set_cons_zero, List.set_cons_succ, i64_w, i32_w]
           rfl
          refine pure_ (i := 13) (N := some 42) (v := ?_) (a' := ?_) #[true, true, true, true, true, true, true, true, true, true, true, true, true, true] rfl rfl (any_of HT_.out (by kernel_rfl)) (fun _ _ _ h => h) (Or.inl ⟨by rfl, ?_⟩) ?_ ?_
          rotate_left
          ·intro w'
           go_simp
           with_reducible rfl
          rotate_left
          ·simp only [Act.put, List.setIfInBounds_toArray, List.set_cons_zero, List.set_cons_succ, i64_w, i32_w]
           rfl
          refine done_ (done_of HT_.out (by kernel_rfl)) ?_
          try go_wp2
          go_ret
          exact ⟨by first | rfl | (simp [errW_none, errW_some] <;> rfl) | (simp [*, errW_none, errW_some] <;> rfl), by repeat (first | (with_reducible first | exact HB.out | apply below_alloc | apply pw_below_drewN | apply below_drew1 | refine below_set ?_ GE106.out | refine below_set ?_ GE108.out) | exact HB.out)⟩
        ·rw [if_neg c13] at H
         exact absurd H (by simp)
       ·rw [if_neg c12] at H
        exact absurd H (by simp)
      ·rw [if_neg c11] at H
       have c11b0 : decide (x24_2 < (l0_2.length : Int)) = false := decide_eq_false c11
       clear c11
       obtain rfl := Option.some.inj H
       go_wp2
       go_ret
       exact ⟨by first | rfl | (simp [errW_none, errW_some] <;> rfl) | (simp [*, errW_none, errW_some] <;> rfl), by repeat (first | (with_reducible first | exact HB.out | apply below_alloc | apply pw_below_drewN | apply below_drew1 | refine below_set ?_ GE106.out) | exact HB.out)⟩

end Go.Proofs.YtmbigoeldobaiaaDoor.XMrk
end
section
/- What the functions of the translation answer, each as a plain Lean function, and that the code comes to it; for a law: its row. Conditions: none but those that each theorem names. Written by a program of this session (wip/xp). -/
namespace Go.Proofs.YtmbigoeldobaiaaDoor.XMrk
open Go.RowKit Go.Proofs.YtmbigoeldobaiaaDoorW.PrintWords Go.Proofs.YtmbigoeldobaiaaDoorW.PrintLast Go.Proofs.YtmbigoeldobaiaaDoorW.PrintMore
attribute [local go_sem] max2_int min2_int max_two min_two max_three min_three max_four min_four   -- for this text's walks alone
theorem cx7_bc7 {w : World} {g : Nat} {t : TypeId} {x0 x1 x2 x3 x4 x5 x6 : Value} (h : w.heap[g]? = some (.cells #[x0, x1, x2, x3, x4, x5, x6] t (0, 0))) : w.cell? ⟨g, 0, none⟩ = some x0 ∧ w.cell? ⟨g, 1, none⟩ = some x1 ∧ w.cell? ⟨g, 2, none⟩ = some x2 ∧ w.cell? ⟨g, 3, none⟩ = some x3 ∧ w.cell? ⟨g, 4, none⟩ = some x4 ∧ w.cell? ⟨g, 5, none⟩ = some x5 ∧ w.cell? ⟨g, 6, none⟩ = some x6 ∧ w.frozen? ⟨g, 0, none⟩ = false ∧ w.frozen? ⟨g, 1, none⟩ = false ∧ w.frozen? ⟨g, 2, none⟩ = false ∧ w.frozen? ⟨g, 3, none⟩ = false ∧ w.frozen? ⟨g, 4, none⟩ = false ∧ w.frozen? ⟨g, 5, none⟩ = false ∧ w.frozen? ⟨g, 6, none⟩ = false :=
 ⟨(blk_cell h 0).trans rfl, (blk_cell h 1).trans rfl, (blk_cell h 2).trans rfl, (blk_cell h 3).trans rfl, (blk_cell h 4).trans rfl, (blk_cell h 5).trans rfl, (blk_cell h 6).trans rfl, blk_frozen h 0, blk_frozen h 1, blk_frozen h 2, blk_frozen h 3, blk_frozen h 4, blk_frozen h 5, blk_frozen h 6⟩
theorem zx7_6 {p : Prop} (h : p := by first | rfl | (simp; done) | (simp [*]; done)) : p := h
theorem zx7_1 {p : Prop} (h : p := by (with_reducible repeat (first | refine blk_drewN ?_ _ | refine blk_drew ?_ | refine blk_alloc ?_ _)); exact BK122.out) : p := h
theorem zx7_3 {p : Prop} (h : p := by (with_reducible repeat (first | refine blk_drewN ?_ _ | refine blk_drew ?_ | refine blk_alloc ?_ _)); exact BK129.out) : p := h
theorem zx7_4 {p : Prop} (h : p := by repeat (first | (with_reducible first | exact HB.out | apply below_alloc | apply pw_below_drewN | apply below_drew1) | exact HB.out)) : p := h
theorem zx7_5 {p : Prop} (h : p := by (try simp only [List.map_toArray, List.map_cons, List.map_nil]); first | done | rfl | (simp only [List.length_drop, List.length_take]; rfl)) : p := h
theorem zx7_2 {p : Prop} (h : p := by repeat (first | (with_reducible first | exact HB.out | apply below_alloc | apply pw_below_drewN | apply below_drew1 | refine below_set ?_ GE122.out) | exact HB.out)) : p := h
theorem zx7_0 {p : Prop} (h : p := by repeat (first | (with_reducible first | exact HB.out | apply below_alloc | apply pw_below_drewN | apply below_drew1 | refine below_set ?_ GE122.out | refine below_set ?_ GE129.out) | exact HB.out)) : p := h
set_option linter.unusedVariables false
set_option linter.unusedSimpArgs false

/-! ### mark_Put: function 11 -/
mutual
def mark_Put.l0 : Nat → ByteArray → List (S55) → Int → Int → Option (ByteArray × Int)
 | 0, _, _, _, _ => none
 | k + 1, x4, x24, x25, x26 => if x26 < x25 then (if 0 ≤ x26 then (if x26 < (x24.length : Int) then ((num_PutText.f k ((rd_T55 x24 x26).f0)).bind fun t130 => ((mark_numbers.f (([(rd_T55 x24 x26).f1, (rd_T55 x24 x26).f2, (rd_T55 x24 x26).f4, (rd_T55 x24 x26).f5, (rd_T55 x24 x26).f6, IntKind.u64.wrap ((((rd_T55 x24 x26).f3).length : Int))] : List Int))).bind fun t134 => (if t130.size + t134.size ≤ 9223372036854775807 then (if x4.size + (t130 ++ t134).size ≤ 9223372036854775807 then (mark_Put.l1 k (x4 ++ (t130 ++ t134)) ((rd_T55 x24 x26).f2) x24 x25 x26 ((rd_T55 x24 x26).f3) (((rd_T55 x24 x26).f3).length : Int) 0) else (none)) else (none)))) else (none)) else (none)) else (some (x4, 0))
def mark_Put.l1 : Nat → ByteArray → Int → List (S55) → Int → Int → List Int → Int → Int → Option (ByteArray × Int)
 | 0, _, _, _, _, _, _, _, _ => none
 | k + 1, x4, x7, x24, x25, x26, x55, x56, x57 => if x57 < x56 then (if 0 ≤ x57 then (if x57 < (x55.length : Int) then ((mark_numbers.f (([IntKind.u64.wrap ((rd x55 x57) - x7)] : List Int))).bind fun t139 => (if x4.size + t139.size ≤ 9223372036854775807 then (mark_Put.l1 k (x4 ++ t139) (rd x55 x57) x24 x25 x26 x55 x56 (wrap64 (x57 + 1))) else (none))) else (none)) else (none)) else (mark_Put.l0 k x4 x24 x25 (wrap64 (x26 + 1)))
end
def mark_Put.f (k : Nat) (a0_0 : Int) (a0_1 : Int) (l0_2 : List (S55)) : Option (ByteArray × Int) := (ledger_Right.f k a0_0 a0_1 l0_2).bind fun t123 => (if t123 = true then ((mark_numbers.f (([a0_0, a0_1, IntKind.u64.wrap ((l0_2.length : Int))] : List Int))).bind fun t127 => (mark_Put.l0 k t127 l0_2 (l0_2.length : Int) 0)) else (some ((⟨#[]⟩ : ByteArray), 1)))
theorem mark_Put.mono_l : ∀ k, (∀ y0 y1 y2 y3, LeO (mark_Put.l0 k y0 y1 y2 y3) (mark_Put.l0 (k + 1) y0 y1 y2 y3)) ∧ (∀ y0 y1 y2 y3 y4 y5 y6 y7, LeO (mark_Put.l1 k y0 y1 y2 y3 y4 y5 y6 y7) (mark_Put.l1 (k + 1) y0 y1 y2 y3 y4 y5 y6 y7))
 | 0 => ⟨fun _ _ _ _ r h => by simp [mark_Put.l0] at h, fun _ _ _ _ _ _ _ _ r h => by simp [mark_Put.l1] at h⟩
 | k + 1 => by
  obtain ⟨ih0, ih1⟩ := mark_Put.mono_l k
  refine ⟨?_, ?_⟩
  ·intro y0 y1 y2 y3
   unfold mark_Put.l0
   repeat' first
   | (with_reducible exact ih0 _ _ _ _)
   | (with_reducible exact ih1 _ _ _ _ _ _ _ _)
   | (with_reducible exact ledger_Right.mono _ _ _ _)
   | (with_reducible exact num_PutText.mono _ _)
   | (with_reducible exact LeO.refl _)
   | (with_reducible exact LeO.none _)
   | (with_reducible refine LeO.ite ?_ ?_)
   | (with_reducible refine LeO.bind ?_ (fun _ => ?_))
   | exact ih0 _ _ _ _
   | exact ih1 _ _ _ _ _ _ _ _
   | exact ledger_Right.mono _ _ _ _
   | exact num_PutText.mono _ _
   | exact LeO.none _
   | refine LeO.ite ?_ ?_
   | refine LeO.bind ?_ (fun _ => ?_)
  ·intro y0 y1 y2 y3 y4 y5 y6 y7
   unfold mark_Put.l1
   repeat' first
   | (with_reducible exact ih0 _ _ _ _)
   | (with_reducible exact ih1 _ _ _ _ _ _ _ _)
   | (with_reducible exact ledger_Right.mono _ _ _ _)
   | (with_reducible exact num_PutText.mono _ _)
   | (with_reducible exact LeO.refl _)
   | (with_reducible exact LeO.none _)
   | (with_reducible refine LeO.ite ?_ ?_)
   | (with_reducible refine LeO.bind ?_ (fun _ => ?_))
   | exact ih0 _ _ _ _
   | exact ih1 _ _ _ _ _ _ _ _
   | exact ledger_Right.mono _ _ _ _
   | exact num_PutText.mono _ _
   | exact LeO.none _
   | refine LeO.ite ?_ ?_
   | refine LeO.bind ?_ (fun _ => ?_)
theorem mark_Put.mono : ∀ a0 a1 a2 k, LeO (mark_Put.f k a0 a1 a2) (mark_Put.f (k + 1) a0 a1 a2) := by
 intro a0 a1 a2 k
 obtain ⟨ih0, ih1⟩ := mark_Put.mono_l k
 unfold mark_Put.f
 repeat' first
   | (with_reducible exact ih0 _ _ _ _)
   | (with_reducible exact ih1 _ _ _ _ _ _ _ _)
   | (with_reducible exact ledger_Right.mono _ _ _ _)
   | (with_reducible exact num_PutText.mono _ _)
   | (with_reducible exact LeO.refl _)
   | (with_reducible exact LeO.none _)
   | (with_reducible refine LeO.ite ?_ ?_)
   | (with_reducible refine LeO.bind ?_ (fun _ => ?_))
   | exact ih0 _ _ _ _
   | exact ih1 _ _ _ _ _ _ _ _
   | exact ledger_Right.mono _ _ _ _
   | exact num_PutText.mono _ _
   | exact LeO.none _
   | refine LeO.ite ?_ ?_
   | refine LeO.bind ?_ (fun _ => ?_)
def mark_Put.T7 : Bool × List (List Nat × List Nat) := (true, [([], []), ([], []), ([1], [1]), ([2], [2]), ([], []), ([4], [4]), ([], []), ([6], [6]), ([], []), ([8], [8]), ([], []), ([10], [10]), ([], []), ([12], [12]), ([], []), ([14], [14]), ([15], [15]), ([16], [16]), ([5, 7, 9, 11, 13, 17], [5, 7, 9, 11, 13, 17]), ([18, 3], [18]), ([3, 19], [3, 19]), ([0, 20], [0, 20]), ([21, 19, 0, 1, 2, 3, 4, 5, 6, 7, 8, 9, 10, 11, 12, 13, 14, 15, 16, 17, 18, 19, 20, 21], [0, 21])])
def mark_Put.B7 : List Nat := [0, 0, 2, 6, 0, 16, 0, 64, 0, 256, 0, 1024, 0, 4096, 0, 16384, 49152, 114688, 262128, 524286, 1048574, 2097151, 4194303]
theorem mark_Put.tab7 : rtab .any (opsOf Tryd.f11 7) = mark_Put.T7 := by kernel_rfl
theorem mark_Put.bits7 : waitsOk mark_Put.T7.2 mark_Put.B7 = true := by kernel_rfl
set_option maxHeartbeats 8000000 in
set_option maxRecDepth 100000 in
theorem mark_Put.calls (k : Nat) (a0_0 : Int) (a0_1 : Int) (A0_2 : Option Addr) (c0_2 : Nat) (l0_2 : List (S55)) (r1 : ByteArray) (r2 : Int) (w : World) (hr0_2 : Kd.C k55 w A0_2 l0_2.length l0_2) (hc0_2 : l0_2.length ≤ c0_2) (h : mark_Put.f k a0_0 a0_1 l0_2 = some (r1, r2)) :
  Calls Tryd.prog 11 #[.agg #[.int .u64 a0_0, .int .u64 a0_1, .slice A0_2 l0_2.length c0_2]] w fun e w' => e = .returned (.tuple #[.string r1, .int .i64 r2]) ∧ Below w.heap.size w w' := by
 have hu25 := Tryd.underlying25
 have hu55 := Tryd.underlying55
 have HR0_2 := Aside0.mk hr0_2
 have HC0_2 := Aside0.mk hc0_2
 clear hr0_2 hc0_2
 have HB := Aside0.mk (Below.refl w.heap.size w)
 have H : ((ledger_Right.f k a0_0 a0_1 l0_2).bind fun t123 => (if t123 = true then ((mark_numbers.f (([a0_0, a0_1, IntKind.u64.wrap ((l0_2.length : Int))] : List Int))).bind fun t127 => (mark_Put.l0 k t127 l0_2 (l0_2.length : Int) 0)) else (some ((⟨#[]⟩ : ByteArray), 1)))) = some (r1, r2) := h
 clear h
 replace H := Option.bind_eq_some_iff.mp H
 obtain ⟨t123, A20, H⟩ := H
 replace H : (if t123 = true then ((mark_numbers.f (([a0_0, a0_1, IntKind.u64.wrap ((l0_2.length : Int))] : List Int))).bind fun t127 => (mark_Put.l0 k t127 l0_2 (l0_2.length : Int) 0)) else (some ((⟨#[]⟩ : ByteArray), 1))) = some (r1, r2) := H
 have A2 := Aside0.mk A20
 clear A20
 by_cases c3 : t123 = true
 ·subst c3
  have H1 : ((mark_numbers.f (([a0_0, a0_1, IntKind.u64.wrap ((l0_2.length : Int))] : List Int))).bind fun t127 => (mark_Put.l0 k t127 l0_2 (l0_2.length : Int) 0)) = some (r1, r2) := by rw [if_pos rfl] at H; exact H
  clear H
  have H := H1
  clear H1
  obtain ⟨y124, hy124⟩ : ∃ y_ : List Int, y_ = (([a0_0, a0_1, IntKind.u64.wrap ((l0_2.length : Int))] : List Int)) := ⟨_, rfl⟩
  replace H : ((mark_numbers.f y124).bind fun t127 => (mark_Put.l0 k t127 l0_2 (l0_2.length : Int) 0)) = some (r1, r2) := by first | (rw [hy124]; with_reducible exact H) | (have H2_ := (Option.bind_some _ _).symm.trans H; rw [hy124]; with_reducible exact H2_) | (have H2_ := (Option.bind_some _ _).symm.trans H; with_reducible exact H2_) | with_reducible exact H | (rw [hy124]; exact H) | exact H
  have Ny124 := Aside0.mk hy124
  clear hy124
  replace H := Option.bind_eq_some_iff.mp H
  obtain ⟨t127, A40, H⟩ := H
  replace H : (mark_Put.l0 k t127 l0_2 (l0_2.length : Int) 0) = some (r1, r2) := H
  have A4 := Aside0.mk A40
  clear A40
  have H' := Aside0.mk H
  clear H
  go_enter Tryd.func11, Tryd.ntmps11
  go_wp2_with (first | ((with_reducible refine gate_dst (N := 1) rfl ?_); refine box_event ?hg (N := 1) ?hd (cs := #[.int .u64 a0_0, .int .u64 a0_1, .slice A0_2 l0_2.length c0_2]) (t := 25) ?hr ?_; (case hd => rfl); (case hg => rfl); (case hr => first | (go_simp; done) | (go_simp; rfl)); intro gb122 hg w5 hbox hb; have n0_ := Aside0.mk (below_step zx7_4 hb); have n1_ := Aside0.mk (hbox); have n2_ := Aside0.mk ((by rw [hg]; exact (below_size zx7_4) : w.heap.size ≤ gb122)); have n3_ := Aside0.mk ((by rw [hg]; exact (below_size zx7_4) : w.heap.size ≤ gb122)); clear HB; have HB := n0_; have BK122 := n1_; have GW122 := n2_; have GE122 := n3_; clear n0_ n1_ n2_ n3_; clear hb hbox hg; have hcz6_0 : w5.cell? ⟨gb122, 0, none⟩ = some (.int .u64 a0_0) := (blk_cell BK122.out 0).trans rfl; have hcz6_1 : w5.cell? ⟨gb122, 1, none⟩ = some (.int .u64 a0_1) := (blk_cell BK122.out 1).trans rfl; have hcz6_2 : w5.cell? ⟨gb122, 2, none⟩ = some (.slice A0_2 l0_2.length c0_2) := (blk_cell BK122.out 2).trans rfl; have hfz6_0 := blk_frozen BK122.out 0; have hfz6_1 := blk_frozen BK122.out 1; have hfz6_2 := blk_frozen BK122.out 2) | ((with_reducible refine gate_callee (f := 15) rfl ?_); refine goesL_ (some 11) rfl rfl Tryd.func15 (by kernel_rfl) rfl #[.agg #[.int .u64 a0_0, .int .u64 a0_1, .slice A0_2 l0_2.length c0_2]] rfl zx7_5 ?_; (with_reducible refine (ledger_Right.calls k a0_0 a0_1 _ _ l0_2 true _ ?side1 ?side2 A2.out).mono ?_); (case side1 => repeat (first | exact (Kd.C_below HR0_2.out HB.out) | (with_reducible refine Kd.C_alloc ?_ _) | (with_reducible refine Kd.C_drewN ?_ _) | (with_reducible refine Kd.C_drew ?_))); (case side2 => exact HC0_2.out); rintro e w7 ⟨rfl, hb⟩; refine ⟨_, rfl, ?_⟩; have n0_ := Aside0.mk (blk_below (g := gb122) (o := .cells #[.int .u64 a0_0, .int .u64 a0_1, .slice A0_2 l0_2.length c0_2] 25 (0, 0)) zx7_1 hb); have n1_ := Aside0.mk (below_step zx7_2 hb); clear BK122; clear HB; have BK122 := n0_; have HB := n1_; clear n0_ n1_; (try clear hb); (try clear hb2); (try clear hk); (try clear hi); have hcz8_0 : w7.cell? ⟨gb122, 0, none⟩ = some (.int .u64 a0_0) := (blk_cell BK122.out 0).trans rfl; have hcz8_1 : w7.cell? ⟨gb122, 1, none⟩ = some (.int .u64 a0_1) := (blk_cell BK122.out 1).trans rfl; have hcz8_2 : w7.cell? ⟨gb122, 2, none⟩ = some (.slice A0_2 l0_2.length c0_2) := (blk_cell BK122.out 2).trans rfl; have hfz8_0 := blk_frozen BK122.out 0; have hfz8_1 := blk_frozen BK122.out 1; have hfz8_2 := blk_frozen BK122.out 2) | ((with_reducible refine gate_dst (N := 21) rfl ?_); refine Kd.R_lit (Kd.int .u64) _ 22 ?hg (N := 21) ?hd (xs := ([a0_0, a0_1, IntKind.u64.wrap ((l0_2.length : Int))] : List Int)) (inner := [.int .u64 a0_0, .int .u64 a0_1, .int .u64 (IntKind.u64.wrap ((l0_2.length : Int)))]) (ok := fun _ => True) (okp := fun _ => True) ?hr ?hp (fun _ hk => hk) trivial (Below.refl _ _) (Nat.le_refl _) (by simp) ?_; (case hd => rfl); (case hg => rfl); (case hr => first | (go_simp; done) | (go_simp; rfl)); (case hp => exact (Reps.one (show Kd.M (Kd.int .u64) _ _ _ a0_0 [.int .u64 a0_0] from rfl) (Reps.one (show Kd.M (Kd.int .u64) _ _ _ a0_1 [.int .u64 a0_1] from rfl) (Reps.one (show Kd.M (Kd.int .u64) _ _ _ (IntKind.u64.wrap ((l0_2.length : Int))) [.int .u64 (IntKind.u64.wrap ((l0_2.length : Int)))] from rfl) (Reps.none _ _))))); intro v125 w9 ho10 hb hg_ hnew_; clear hg_ hnew_; (first | rw [← Ny124.out] at ho10 | (simp only [Int.reduceToNat] at ho10; rw [← Ny124.out] at ho10)); have n0_ := Aside0.mk (Kd.R_lower ho10 (below_size zx7_2)); have n1_ := Aside0.mk (blk_below (g := gb122) (o := .cells #[.int .u64 a0_0, .int .u64 a0_1, .slice A0_2 l0_2.length c0_2] 25 (0, 0)) zx7_1 hb); have n2_ := Aside0.mk (below_step zx7_2 hb); clear BK122; clear HB; have HO126 := n0_; have BK122 := n1_; have HB := n2_; clear n0_ n1_ n2_; clear hb ho10; obtain ⟨Ao11, co11, eo11⟩ := Kd.R_slice HO126.out; subst eo11) | ((with_reducible refine gate_callee (f := 23) rfl ?_); refine goesL_ (some 22) rfl rfl Tryd.func23 (by kernel_rfl) rfl #[.slice Ao11 y124.length co11] rfl zx7_5 ?_; (with_reducible refine (mark_numbers.calls _ _ y124 t127 _ ?side1 ?side2 A4.out).mono ?_); (case side1 => repeat (first | exact (Kd.R_reads' HO126.out).2.2 | (with_reducible refine Kd.C_alloc ?_ _) | (with_reducible refine Kd.C_drewN ?_ _) | (with_reducible refine Kd.C_drew ?_))); (case side2 => exact (Kd.R_reads' HO126.out).2.1); rintro e w12 ⟨rfl, hb⟩; refine ⟨_, rfl, ?_⟩;  have n1_ := Aside0.mk (blk_below (g := gb122) (o := .cells #[.int .u64 a0_0, .int .u64 a0_1, .slice A0_2 l0_2.length c0_2] 25 (0, 0)) zx7_1 hb); have n2_ := Aside0.mk (below_step zx7_2 hb); (try clear HO126); clear BK122; clear HB; have BK122 := n1_; have HB := n2_; clear n1_ n2_; (try clear hb); (try clear hb2); (try clear hk); (try clear hi); have hcz13_0 : w12.cell? ⟨gb122, 0, none⟩ = some (.int .u64 a0_0) := (blk_cell BK122.out 0).trans rfl; have hcz13_1 : w12.cell? ⟨gb122, 1, none⟩ = some (.int .u64 a0_1) := (blk_cell BK122.out 1).trans rfl; have hcz13_2 : w12.cell? ⟨gb122, 2, none⟩ = some (.slice A0_2 l0_2.length c0_2) := (blk_cell BK122.out 2).trans rfl; have hfz13_0 := blk_frozen BK122.out 0; have hfz13_1 := blk_frozen BK122.out 1; have hfz13_2 := blk_frozen BK122.out 2))
  go_loopg [4, 26] k (fun kq v4 v26 w' => ∃ (x4_1 : ByteArray) (x26_1 : Int), v4 = .string x4_1 ∧ v26 = .int .i64 x26_1 ∧ Aside0 (mark_Put.l0 kq x4_1 l0_2 (l0_2.length : Int) x26_1 = some (r1, r2)) ∧ Aside0 (kq ≤ k) ∧ Aside0 (w'.heap[gb122]? = some (.cells #[.int .u64 a0_0, .int .u64 a0_1, (.slice A0_2 l0_2.length c0_2)] 25 (0, 0))) ∧ Aside0 (Below w.heap.size w w'))
  case atStart => exact ⟨(t127), (0), zx7_6, zx7_6, H', ⟨Nat.le_refl _⟩, ⟨by (with_reducible repeat (first | refine blk_drewN ?_ _ | refine blk_drew ?_ | refine blk_alloc ?_ _)); exact BK122.out⟩, ⟨by repeat (first | (with_reducible first | exact HB.out | apply below_alloc | apply pw_below_drewN | apply below_drew1 | refine below_set ?_ GE122.out) | exact HB.out)⟩⟩
  case round =>
   clear H'
   (try clear c1); (try clear c2); (try clear p2); (try clear c3); (try clear c11); (try clear hcz13_0); (try clear hcz13_1); (try clear hcz13_2); (try clear hcz6_0); (try clear hcz6_1); (try clear hcz6_2); (try clear hcz8_0); (try clear hcz8_1); (try clear hcz8_2); (try clear hfz13_0); (try clear hfz13_1); (try clear hfz13_2); (try clear hfz6_0); (try clear hfz6_1); (try clear hfz6_2); (try clear hfz8_0); (try clear hfz8_1); (try clear hfz8_2)
   obtain ⟨x4_1, x26_1, rfl, rfl, HA, HK1, BK122, HB⟩ := hrel
   cases gk with
   | zero => exact absurd HA.out (by simp [mark_Put.l0])
   | succ k1 =>
    have H := HA.out
    clear HA
    simp only [mark_Put.l0] at H
    by_cases c14 : x26_1 < (l0_2.length : Int)
    ·rw [if_pos c14] at H
     have c14b0 : decide (x26_1 < (l0_2.length : Int)) = true := decide_eq_true c14
     clear c14
     by_cases c15 : 0 ≤ x26_1
     ·rw [if_pos c15] at H
      have c15b0 : decide (0 ≤ x26_1) = true := decide_eq_true c15
      clear c15
      by_cases c16 : x26_1 < (l0_2.length : Int)
      ·rw [if_pos c16] at H
       have c16b0 : decide (x26_1 < (l0_2.length : Int)) = true := decide_eq_true c16
       clear c16
       replace H := Option.bind_eq_some_iff.mp H
       obtain ⟨t130, A170, H⟩ := H
       replace H : ((mark_numbers.f (([(rd_T55 l0_2 x26_1).f1, (rd_T55 l0_2 x26_1).f2, (rd_T55 l0_2 x26_1).f4, (rd_T55 l0_2 x26_1).f5, (rd_T55 l0_2 x26_1).f6, IntKind.u64.wrap ((((rd_T55 l0_2 x26_1).f3).length : Int))] : List Int))).bind fun t134 => (if t130.size + t134.size ≤ 9223372036854775807 then (if x4_1.size + (t130 ++ t134).size ≤ 9223372036854775807 then (mark_Put.l1 k1 (x4_1 ++ (t130 ++ t134)) ((rd_T55 l0_2 x26_1).f2) l0_2 (l0_2.length : Int) x26_1 ((rd_T55 l0_2 x26_1).f3) (((rd_T55 l0_2 x26_1).f3).length : Int) 0) else (none)) else (none))) = some (r1, r2) := H
       have A17 := Aside0.mk A170
       clear A170
       obtain ⟨y131, hy131⟩ : ∃ y_ : List Int, y_ = (([(rd_T55 l0_2 x26_1).f1, (rd_T55 l0_2 x26_1).f2, (rd_T55 l0_2 x26_1).f4, (rd_T55 l0_2 x26_1).f5, (rd_T55 l0_2 x26_1).f6, IntKind.u64.wrap ((((rd_T55 l0_2 x26_1).f3).length : Int))] : List Int)) := ⟨_, rfl⟩
       replace H : ((mark_numbers.f y131).bind fun t134 => (if t130.size + t134.size ≤ 9223372036854775807 then (if x4_1.size + (t130 ++ t134).size ≤ 9223372036854775807 then (mark_Put.l1 k1 (x4_1 ++ (t130 ++ t134)) ((rd_T55 l0_2 x26_1).f2) l0_2 (l0_2.length : Int) x26_1 ((rd_T55 l0_2 x26_1).f3) (((rd_T55 l0_2 x26_1).f3).length : Int) 0) else (none)) else (none))) = some (r1, r2) := by first | (rw [hy131]; with_reducible exact H) | (have H2_ := (Option.bind_some _ _).symm.trans H; rw [hy131]; with_reducible exact H2_) | (have H2_ := (Option.bind_some _ _).symm.trans H; with_reducible exact H2_) | with_reducible exact H | (rw [hy131]; exact H) | exact H
       have Ny131 := Aside0.mk hy131
       clear hy131
       replace H := Option.bind_eq_some_iff.mp H
       obtain ⟨t134, A180, H⟩ := H
       replace H : (if t130.size + t134.size ≤ 9223372036854775807 then (if x4_1.size + (t130 ++ t134).size ≤ 9223372036854775807 then (mark_Put.l1 k1 (x4_1 ++ (t130 ++ t134)) ((rd_T55 l0_2 x26_1).f2) l0_2 (l0_2.length : Int) x26_1 ((rd_T55 l0_2 x26_1).f3) (((rd_T55 l0_2 x26_1).f3).length : Int) 0) else (none)) else (none)) = some (r1, r2) := H
       have A18 := Aside0.mk A180
       clear A180
       by_cases c19 : t130.size + t134.size ≤ 9223372036854775807
       ·rw [if_pos c19] at H
        have c19b0 := eq_true c19
        have c19b1 : decide (t130.size + t134.size ≤ 9223372036854775807) = true := decide_eq_true c19
        try have c19b2 : (9223372036854775807 < t130.size + t134.size) = False := eq_false (Nat.not_lt.2 c19)
        clear c19
        by_cases c20 : x4_1.size + (t130 ++ t134).size ≤ 9223372036854775807
        ·rw [if_pos c20] at H
         have c20b0 := eq_true c20
         have c20b1 : decide (x4_1.size + (t130 ++ t134).size ≤ 9223372036854775807) = true := decide_eq_true c20
         try have c20b2 : (9223372036854775807 < x4_1.size + (t130 ++ t134).size) = False := eq_false (Nat.not_lt.2 c20)
         try (have c20b4 := c20b2; simp only [ByteArray.size_append] at c20b4)
         clear c20
         have H' := Aside0.mk H
         clear H
         have p128 : 0 ≤ (x26_1 : Int) := of_decide_eq_true (by first | (with_reducible assumption) | assumption)
         have q128 : x26_1 < (l0_2.length : Int) := of_decide_eq_true (by first | (with_reducible assumption) | assumption)
         obtain ⟨ad128, A128_3, c128_3, e128, hx128_0, hx128_1, hx128_2, hx128_3, hx128_4, hx128_5, hx128_6, hl128_3, hi128_3⟩ := at_T55 HR0_2.out x26_1 p128 q128
         cases e128
         replace hx128_0 := (HB.out.cell (World.block_lt_of_cell? w _ hx128_0)).trans hx128_0
         replace hx128_1 := (HB.out.cell (World.block_lt_of_cell? w _ hx128_1)).trans hx128_1
         replace hx128_2 := (HB.out.cell (World.block_lt_of_cell? w _ hx128_2)).trans hx128_2
         replace hx128_3 := (HB.out.cell (World.block_lt_of_cell? w _ hx128_3)).trans hx128_3
         replace hx128_4 := (HB.out.cell (World.block_lt_of_cell? w _ hx128_4)).trans hx128_4
         replace hx128_5 := (HB.out.cell (World.block_lt_of_cell? w _ hx128_5)).trans hx128_5
         replace hx128_6 := (HB.out.cell (World.block_lt_of_cell? w _ hx128_6)).trans hx128_6
         have HR128_3 := Aside0.mk hi128_3
         have HC128_3 := Aside0.mk hl128_3
         clear hi128_3 hl128_3
         replace p128 := eq_true p128
         replace q128 := eq_true q128
         try go_wp2_with (first | ((with_reducible refine gate_dst (N := 6) rfl ?_); refine box_event ?hg (N := 6) ?hd (cs := #[.string (⟨#[]⟩ : ByteArray), .int .u64 0, .int .u64 0, .slice none 0 0, .int .u64 0, .int .u64 0, .int .u64 0]) (t := 55) ?hr ?_; (case hd => rfl); (case hg => rfl); (case hr => first | (go_simp; done) | (go_simp; rfl)); intro gb129 hg w21 hbox hb; have n0_ := Aside0.mk (blk_below (g := gb122) (o := .cells #[.int .u64 a0_0, .int .u64 a0_1, .slice (some ad128) l0_2.length c0_2] 25 (0, 0)) zx7_1 hb); have n1_ := Aside0.mk (below_step zx7_2 hb); have n2_ := Aside0.mk (hbox); have n3_ := Aside0.mk ((by rw [hg]; exact (below_size zx7_2) : w.heap.size ≤ gb129)); have n4_ := Aside0.mk ((by rw [hg]; exact (below_size zx7_2) : w.heap.size ≤ gb129)); have n5_ := Aside0.mk ((by rw [hg]; exact Nat.ne_of_lt (blk_lt (g := gb122) (o := .cells #[.int .u64 a0_0, .int .u64 a0_1, .slice (some ad128) l0_2.length c0_2] 25 (0, 0)) zx7_1) : gb122 ≠ gb129)); have n6_ := Aside0.mk ((by rw [hg]; exact Nat.ne_of_gt (blk_lt (g := gb122) (o := .cells #[.int .u64 a0_0, .int .u64 a0_1, .slice (some ad128) l0_2.length c0_2] 25 (0, 0)) zx7_1) : gb129 ≠ gb122)); clear BK122; clear HB; have BK122 := n0_; have HB := n1_; have BK129 := n2_; have GW129 := n3_; have GE129 := n4_; have NB122_129 := n5_; have NB129_122 := n6_; clear n0_ n1_ n2_ n3_ n4_ n5_ n6_; clear hb hbox hg; have hnb22 := NB129_122.out; have hnc22 := NB122_129.out; have hcz23_0 : w21.cell? ⟨gb129, 0, none⟩ = some (.string (⟨#[]⟩ : ByteArray)) := (blk_cell BK129.out 0).trans rfl; have hcz23_1 : w21.cell? ⟨gb129, 1, none⟩ = some (.int .u64 0) := (blk_cell BK129.out 1).trans rfl; have hcz23_2 : w21.cell? ⟨gb129, 2, none⟩ = some (.int .u64 0) := (blk_cell BK129.out 2).trans rfl; have hcz23_3 : w21.cell? ⟨gb129, 3, none⟩ = some (.slice none 0 0) := (blk_cell BK129.out 3).trans rfl; have hcz23_4 : w21.cell? ⟨gb129, 4, none⟩ = some (.int .u64 0) := (blk_cell BK129.out 4).trans rfl; have hcz23_5 : w21.cell? ⟨gb129, 5, none⟩ = some (.int .u64 0) := (blk_cell BK129.out 5).trans rfl; have hcz23_6 : w21.cell? ⟨gb129, 6, none⟩ = some (.int .u64 0) := (blk_cell BK129.out 6).trans rfl; have hfz23_0 := blk_frozen BK129.out 0; have hfz23_1 := blk_frozen BK129.out 1; have hfz23_2 := blk_frozen BK129.out 2; have hfz23_3 := blk_frozen BK129.out 3; have hfz23_4 := blk_frozen BK129.out 4; have hfz23_5 := blk_frozen BK129.out 5; have hfz23_6 := blk_frozen BK129.out 6))
         have n0_ : Aside0 ((((((((w21.setCell ⟨gb129, 0, none⟩ (.string ((rd_T55 l0_2 x26_1).f0))).setCell ⟨gb129, 1, none⟩ (.int .u64 ((rd_T55 l0_2 x26_1).f1))).setCell ⟨gb129, 2, none⟩ (.int .u64 ((rd_T55 l0_2 x26_1).f2))).setCell ⟨gb129, 3, none⟩ (.slice A128_3 ((rd_T55 l0_2 x26_1).f3).length c128_3)).setCell ⟨gb129, 4, none⟩ (.int .u64 ((rd_T55 l0_2 x26_1).f4))).setCell ⟨gb129, 5, none⟩ (.int .u64 ((rd_T55 l0_2 x26_1).f5))).setCell ⟨gb129, 6, none⟩ (.int .u64 ((rd_T55 l0_2 x26_1).f6))).heap[gb122]? = some (.cells #[.int .u64 a0_0, .int .u64 a0_1, .slice (some ad128) l0_2.length c0_2] 25 (0, 0))) := ⟨by (with_reducible repeat (first | refine blk_drewN ?_ _ | refine blk_drew ?_ | refine blk_alloc ?_ _)); refine blk_far ?_ NB122_129.out _; (with_reducible repeat (first | refine blk_drewN ?_ _ | refine blk_drew ?_ | refine blk_alloc ?_ _)); refine blk_far ?_ NB122_129.out _; (with_reducible repeat (first | refine blk_drewN ?_ _ | refine blk_drew ?_ | refine blk_alloc ?_ _)); refine blk_far ?_ NB122_129.out _; (with_reducible repeat (first | refine blk_drewN ?_ _ | refine blk_drew ?_ | refine blk_alloc ?_ _)); refine blk_far ?_ NB122_129.out _; (with_reducible repeat (first | refine blk_drewN ?_ _ | refine blk_drew ?_ | refine blk_alloc ?_ _)); refine blk_far ?_ NB122_129.out _; (with_reducible repeat (first | refine blk_drewN ?_ _ | refine blk_drew ?_ | refine blk_alloc ?_ _)); refine blk_far ?_ NB122_129.out _; (with_reducible repeat (first | refine blk_drewN ?_ _ | refine blk_drew ?_ | refine blk_alloc ?_ _)); refine blk_far ?_ NB122_129.out _; (with_reducible repeat (first | refine blk_drewN ?_ _ | refine blk_drew ?_ | refine blk_alloc ?_ _)); exact BK122.out⟩
         have n1_ : Aside0 ((((((((w21.setCell ⟨gb129, 0, none⟩ (.string ((rd_T55 l0_2 x26_1).f0))).setCell ⟨gb129, 1, none⟩ (.int .u64 ((rd_T55 l0_2 x26_1).f1))).setCell ⟨gb129, 2, none⟩ (.int .u64 ((rd_T55 l0_2 x26_1).f2))).setCell ⟨gb129, 3, none⟩ (.slice A128_3 ((rd_T55 l0_2 x26_1).f3).length c128_3)).setCell ⟨gb129, 4, none⟩ (.int .u64 ((rd_T55 l0_2 x26_1).f4))).setCell ⟨gb129, 5, none⟩ (.int .u64 ((rd_T55 l0_2 x26_1).f5))).setCell ⟨gb129, 6, none⟩ (.int .u64 ((rd_T55 l0_2 x26_1).f6))).heap[gb129]? = some (.cells #[.string ((rd_T55 l0_2 x26_1).f0), .int .u64 ((rd_T55 l0_2 x26_1).f1), .int .u64 ((rd_T55 l0_2 x26_1).f2), .slice A128_3 ((rd_T55 l0_2 x26_1).f3).length c128_3, .int .u64 ((rd_T55 l0_2 x26_1).f4), .int .u64 ((rd_T55 l0_2 x26_1).f5), .int .u64 ((rd_T55 l0_2 x26_1).f6)] 55 (0, 0))) := ⟨by (with_reducible repeat (first | refine blk_drewN ?_ _ | refine blk_drew ?_ | refine blk_alloc ?_ _)); refine blk_put (cs := #[.string ((rd_T55 l0_2 x26_1).f0), .int .u64 ((rd_T55 l0_2 x26_1).f1), .int .u64 ((rd_T55 l0_2 x26_1).f2), .slice A128_3 ((rd_T55 l0_2 x26_1).f3).length c128_3, .int .u64 ((rd_T55 l0_2 x26_1).f4), .int .u64 ((rd_T55 l0_2 x26_1).f5), .int .u64 0]) ?_ 6 _ rfl; (with_reducible repeat (first | refine blk_drewN ?_ _ | refine blk_drew ?_ | refine blk_alloc ?_ _)); refine blk_put (cs := #[.string ((rd_T55 l0_2 x26_1).f0), .int .u64 ((rd_T55 l0_2 x26_1).f1), .int .u64 ((rd_T55 l0_2 x26_1).f2), .slice A128_3 ((rd_T55 l0_2 x26_1).f3).length c128_3, .int .u64 ((rd_T55 l0_2 x26_1).f4), .int .u64 0, .int .u64 0]) ?_ 5 _ rfl; (with_reducible repeat (first | refine blk_drewN ?_ _ | refine blk_drew ?_ | refine blk_alloc ?_ _)); refine blk_put (cs := #[.string ((rd_T55 l0_2 x26_1).f0), .int .u64 ((rd_T55 l0_2 x26_1).f1), .int .u64 ((rd_T55 l0_2 x26_1).f2), .slice A128_3 ((rd_T55 l0_2 x26_1).f3).length c128_3, .int .u64 0, .int .u64 0, .int .u64 0]) ?_ 4 _ rfl; (with_reducible repeat (first | refine blk_drewN ?_ _ | refine blk_drew ?_ | refine blk_alloc ?_ _)); refine blk_put (cs := #[.string ((rd_T55 l0_2 x26_1).f0), .int .u64 ((rd_T55 l0_2 x26_1).f1), .int .u64 ((rd_T55 l0_2 x26_1).f2), .slice none 0 0, .int .u64 0, .int .u64 0, .int .u64 0]) ?_ 3 _ rfl; (with_reducible repeat (first | refine blk_drewN ?_ _ | refine blk_drew ?_ | refine blk_alloc ?_ _)); refine blk_put (cs := #[.string ((rd_T55 l0_2 x26_1).f0), .int .u64 ((rd_T55 l0_2 x26_1).f1), .int .u64 0, .slice none 0 0, .int .u64 0, .int .u64 0, .int .u64 0]) ?_ 2 _ rfl; (with_reducible repeat (first | refine blk_drewN ?_ _ | refine blk_drew ?_ | refine blk_alloc ?_ _)); refine blk_put (cs := #[.string ((rd_T55 l0_2 x26_1).f0), .int .u64 0, .int .u64 0, .slice none 0 0, .int .u64 0, .int .u64 0, .int .u64 0]) ?_ 1 _ rfl; (with_reducible repeat (first | refine blk_drewN ?_ _ | refine blk_drew ?_ | refine blk_alloc ?_ _)); refine blk_put (cs := #[.string (⟨#[]⟩ : ByteArray), .int .u64 0, .int .u64 0, .slice none 0 0, .int .u64 0, .int .u64 0, .int .u64 0]) ?_ 0 _ rfl; (with_reducible repeat (first | refine blk_drewN ?_ _ | refine blk_drew ?_ | refine blk_alloc ?_ _)); exact BK129.out⟩
         have n2_ : Aside0 (Below w.heap.size w (((((((w21.setCell ⟨gb129, 0, none⟩ (.string ((rd_T55 l0_2 x26_1).f0))).setCell ⟨gb129, 1, none⟩ (.int .u64 ((rd_T55 l0_2 x26_1).f1))).setCell ⟨gb129, 2, none⟩ (.int .u64 ((rd_T55 l0_2 x26_1).f2))).setCell ⟨gb129, 3, none⟩ (.slice A128_3 ((rd_T55 l0_2 x26_1).f3).length c128_3)).setCell ⟨gb129, 4, none⟩ (.int .u64 ((rd_T55 l0_2 x26_1).f4))).setCell ⟨gb129, 5, none⟩ (.int .u64 ((rd_T55 l0_2 x26_1).f5))).setCell ⟨gb129, 6, none⟩ (.int .u64 ((rd_T55 l0_2 x26_1).f6)))) := ⟨by repeat (first | (with_reducible first | exact HB.out | apply below_alloc | apply pw_below_drewN | apply below_drew1 | refine below_set ?_ GE122.out | refine below_set ?_ GE129.out) | exact HB.out)⟩
         (try clear BK122)
         (try clear BK129)
         (try clear HB)
         generalize (((((((w21.setCell ⟨gb129, 0, none⟩ (.string ((rd_T55 l0_2 x26_1).f0))).setCell ⟨gb129, 1, none⟩ (.int .u64 ((rd_T55 l0_2 x26_1).f1))).setCell ⟨gb129, 2, none⟩ (.int .u64 ((rd_T55 l0_2 x26_1).f2))).setCell ⟨gb129, 3, none⟩ (.slice A128_3 ((rd_T55 l0_2 x26_1).f3).length c128_3)).setCell ⟨gb129, 4, none⟩ (.int .u64 ((rd_T55 l0_2 x26_1).f4))).setCell ⟨gb129, 5, none⟩ (.int .u64 ((rd_T55 l0_2 x26_1).f5))).setCell ⟨gb129, 6, none⟩ (.int .u64 ((rd_T55 l0_2 x26_1).f6))) = w24 at n0_ n1_ n2_ ⊢
         have BK122 := n0_
         have BK129 := n1_
         have HB := n2_
         clear n0_ n1_ n2_
         have n0_ := Aside0.mk (blk_drew BK122.out)
         have n1_ := Aside0.mk (blk_drew BK129.out)
         have n2_ := Aside0.mk (below_drew1 HB.out)
         clear BK122
         clear BK129
         clear HB
         have BK122 := n0_
         have BK129 := n1_
         have HB := n2_
         clear n0_ n1_ n2_
         refine start_ (n := 23) (S := fun w' => True) (ds := []) #[false, false, false, false, false, false, false, false, false, false, false, false, false, false, false, false, false, false, false, false, false, false, false] (by kernel_rfl) rfl rfl trivial (fun hHeld => ?_); refine with_tabW mark_Put.tab7 mark_Put.bits7 (fun HT_ HW_ => ?_)
         generalize w24.drew = w25 at BK122 BK129 HB hHeld ⊢
         refine pure_ (i := 0) (N := some 30) (v := ?_) (a' := ?_) #[true, false, false, false, false, false, false, false, false, false, false, false, false, false, false, false, false, false, false, false, false, false, false] rfl rfl (any_of HT_.out (by kernel_rfl)) (fun _ _ _ h => h) (Or.inl ⟨by rfl, ?_⟩) ?_ ?_
         rotate_left
         ·intro w'
          go_simp
          with_reducible rfl
         rotate_left
         ·simp only [Act.put, List.setIfInBounds_toArray, List.set_cons_zero, List.set_cons_succ, i64_w, i32_w]
          rfl
         refine pure_ (i := 1) (N := some 31) (v := ?_) (a' := ?_) #[true, true, false, false, false, false, false, false, false, false, false, false, false, false, false, false, false, false, false, false, false, false, false] rfl rfl (any_of HT_.out (by kernel_rfl)) (fun _ _ _ h => h) (Or.inl ⟨by rfl, ?_⟩) ?_ ?_
         rotate_left
         ·intro w'
          go_simp
          with_reducible rfl
         rotate_left
         ·simp only [Act.put, List.setIfInBounds_toArray, List.set_cons_zero, List.set_cons_succ, i64_w, i32_w]
          rfl
         refine pure_ (i := 4) (N := some 34) (v := ?_) (a' := ?_) #[true, true, false, false, true, false, false, false, false, false, false, false, false, false, false, false, false, false, false, false, false, false, false] rfl rfl (any_of HT_.out (by kernel_rfl)) (fun _ _ _ h => h) (Or.inl ⟨by rfl, ?_⟩) ?_ ?_
         rotate_left
         ·intro w'
          go_simp
          with_reducible rfl
         rotate_left
         ·simp only [Act.put, List.setIfInBounds_toArray, List.set_cons_zero, List.set_cons_succ, i64_w, i32_w]
          rfl
         refine pure_ (i := 6) (N := some 36) (v := ?_) (a' := ?_) #[true, true, false, false, true, false, true, false, false, false, false, false, false, false, false, false, false, false, false, false, false, false, false] rfl rfl (any_of HT_.out (by kernel_rfl)) (fun _ _ _ h => h) (Or.inl ⟨by rfl, ?_⟩) ?_ ?_
         rotate_left
         ·intro w'
          go_simp
          with_reducible rfl
         rotate_left
         ·simp only [Act.put, List.setIfInBounds_toArray, List.set_cons_zero, List.set_cons_succ, i64_w, i32_w]
          rfl
         refine pure_ (i := 8) (N := some 38) (v := ?_) (a' := ?_) #[true, true, false, false, true, false, true, false, true, false, false, false, false, false, false, false, false, false, false, false, false, false, false] rfl rfl (any_of HT_.out (by kernel_rfl)) (fun _ _ _ h => h) (Or.inl ⟨by rfl, ?_⟩) ?_ ?_
         rotate_left
         ·intro w'
          go_simp
          with_reducible rfl
         rotate_left
         ·simp only [Act.put, List.setIfInBounds_toArray, List.set_cons_zero, List.set_cons_succ, i64_w, i32_w]
          rfl
         refine pure_ (i := 10) (N := some 40) (v := ?_) (a' := ?_) #[true, true, false, false, true, false, true, false, true, false, true, false, false, false, false, false, false, false, false, false, false, false, false] rfl rfl (any_of HT_.out (by kernel_rfl)) (fun _ _ _ h => h) (Or.inl ⟨by rfl, ?_⟩) ?_ ?_
         rotate_left
         ·intro w'
          go_simp
          with_reducible rfl
         rotate_left
         ·simp only [Act.put, List.setIfInBounds_toArray, List.set_cons_zero, List.set_cons_succ, i64_w, i32_w]
          rfl
         refine pure_ (i := 12) (N := some 42) (v := ?_) (a' := ?_) #[true, true, false, false, true, false, true, false, true, false, true, false, true, false, false, false, false, false, false, false, false, false, false] rfl rfl (any_of HT_.out (by kernel_rfl)) (fun _ _ _ h => h) (Or.inl ⟨by rfl, ?_⟩) ?_ ?_
         rotate_left
         ·intro w'
          go_simp
          with_reducible rfl
         rotate_left
         ·simp only [Act.put, List.setIfInBounds_toArray, List.set_cons_zero, List.set_cons_succ, i64_w, i32_w]
          rfl
         refine pure_ (i := 14) (N := some 44) (v := ?_) (a' := ?_) #[true, true, false, false, true, false, true, false, true, false, true, false, true, false, true, false, false, false, false, false, false, false, false] rfl rfl (any_of HT_.out (by kernel_rfl)) (fun _ _ _ h => h) (Or.inl ⟨by rfl, ?_⟩) ?_ ?_
         rotate_left
         ·intro w'
          go_simp
          with_reducible rfl
         rotate_left
         ·simp only [Act.put, List.setIfInBounds_toArray, List.set_cons_zero, List.set_cons_succ, i64_w, i32_w]
          rfl
         refine inv_at [2, 3, 5, 7, 9, 11, 13, 15, 16, 17, 18, 19, 20, 21, 22] (fun a0_ b a w' => ∃ (v132 : Value), a = putSel a0_ b [(2, 32, .string ((rd_T55 l0_2 x26_1).f0)), (3, 33, .string t130), (5, 35, .int .u64 ((rd_T55 l0_2 x26_1).f1)), (7, 37, .int .u64 ((rd_T55 l0_2 x26_1).f2)), (9, 39, .int .u64 ((rd_T55 l0_2 x26_1).f4)), (11, 41, .int .u64 ((rd_T55 l0_2 x26_1).f5)), (13, 43, .int .u64 ((rd_T55 l0_2 x26_1).f6)), (15, 45, .slice A128_3 ((rd_T55 l0_2 x26_1).f3).length c128_3), (16, 46, .int .i64 (((rd_T55 l0_2 x26_1).f3).length : Int)), (17, 47, .int .u64 (IntKind.u64.wrap ((((rd_T55 l0_2 x26_1).f3).length : Int)))), (18, 48, v132), (19, 49, .string t134), (20, 50, .string (t130 ++ t134)), (21, 51, .string (x4_1 ++ (t130 ++ t134))), (22, 4, .string (x4_1 ++ (t130 ++ t134)))] ∧ (w'.heap[gb122]? = some (.cells #[.int .u64 a0_0, .int .u64 a0_1, .slice (some ad128) l0_2.length c0_2] 25 (0, 0))) ∧ (w'.heap[gb129]? = some (.cells #[.string ((rd_T55 l0_2 x26_1).f0), .int .u64 ((rd_T55 l0_2 x26_1).f1), .int .u64 ((rd_T55 l0_2 x26_1).f2), .slice A128_3 ((rd_T55 l0_2 x26_1).f3).length c128_3, .int .u64 ((rd_T55 l0_2 x26_1).f4), .int .u64 ((rd_T55 l0_2 x26_1).f5), .int .u64 ((rd_T55 l0_2 x26_1).f6)] 55 (0, 0))) ∧ (Below w.heap.size w w') ∧ (b 18 = true → Kd.R (Kd.int .u64) 22 w' w.heap.size (fun _ => True) v132 y131)) HT_.out HW_.out (by kernel_rfl) (by kernel_rfl) ?_ ?_ ?_
         ·exact ⟨.bool false, by simp only [putSel, Bool.false_eq_true, if_false], BK122.out, BK129.out, HB.out, fun h_ => absurd h_ (by decide)⟩
         ·skip
          clear BK122 BK129 HB
          refine steps_cons ?_ ?_
          ·rintro b a w' ⟨v132, ha, Q_BK122, Q_BK129, Q_HB, Q_HO133⟩ hb_ hon hoff
           refine ⟨_, rfl, fun K hK => ?_⟩
           have e31 : a.tmps[31]? = some (.pointer (some ⟨gb129, 0, none⟩)) := by rw [ha]; exact (putSel_off rfl).trans rfl
           replace ha := Aside0.mk ha
           have BK122 := Aside0.mk Q_BK122
           have BK129 := Aside0.mk Q_BK129
           have HB := Aside0.mk Q_HB
           have hc0_ : w'.cell? ⟨gb129, 0, none⟩ = some (.string ((rd_T55 l0_2 x26_1).f0)) := (blk_cell BK129.out 0).trans rfl
           have hc1_ : w'.cell? ⟨gb129, 1, none⟩ = some (.int .u64 ((rd_T55 l0_2 x26_1).f1)) := (blk_cell BK129.out 1).trans rfl
           have hc2_ : w'.cell? ⟨gb129, 2, none⟩ = some (.int .u64 ((rd_T55 l0_2 x26_1).f2)) := (blk_cell BK129.out 2).trans rfl
           have hc3_ : w'.cell? ⟨gb129, 3, none⟩ = some (.slice A128_3 ((rd_T55 l0_2 x26_1).f3).length c128_3) := (blk_cell BK129.out 3).trans rfl
           have hc4_ : w'.cell? ⟨gb129, 4, none⟩ = some (.int .u64 ((rd_T55 l0_2 x26_1).f4)) := (blk_cell BK129.out 4).trans rfl
           have hc5_ : w'.cell? ⟨gb129, 5, none⟩ = some (.int .u64 ((rd_T55 l0_2 x26_1).f5)) := (blk_cell BK129.out 5).trans rfl
           have hc6_ : w'.cell? ⟨gb129, 6, none⟩ = some (.int .u64 ((rd_T55 l0_2 x26_1).f6)) := (blk_cell BK129.out 6).trans rfl
           refine value_ (w1 := w') (v := .string ((rd_T55 l0_2 x26_1).f0)) (by rfl) rfl ?_ ?_
           ·go_simp
            (try simp only [i64_w])
            try rfl
           refine hK.out _ _ ⟨v132, (by rw [ha.out]; exact putSel_upk 0 hb_ rfl rfl rfl), Q_BK122, Q_BK129, Q_HB, Q_HO133⟩
          refine steps_cons ?_ ?_
          ·rintro b a w' ⟨v132, ha, Q_BK122, Q_BK129, Q_HB, Q_HO133⟩ hb_ hon hoff
           refine ⟨_, rfl, fun K hK => ?_⟩
           have e32 : a.tmps[32]? = some (.string ((rd_T55 l0_2 x26_1).f0)) := by rw [ha]; exact putSel_on (e := (2, 32, .string ((rd_T55 l0_2 x26_1).f0))) 0 rfl rfl (hon 2 (by kernel_rfl)) rfl
           replace ha := Aside0.mk ha
           have BK122 := Aside0.mk Q_BK122
           have BK129 := Aside0.mk Q_BK129
           have HB := Aside0.mk Q_HB
           refine goes_ Tryd.func24 (by kernel_rfl) rfl #[.string ((rd_T55 l0_2 x26_1).f0)] (by rfl) rfl rfl (by first | (simp only [List.map_toArray, List.map_cons, List.map_nil, Act.eval, Array.getD_eq_getD_getElem?, Option.getD_some, e32]; done) | (simp only [List.map_toArray, List.map_cons, List.map_nil, Act.eval, Array.getD_eq_getD_getElem?, Option.getD_some, e32]; rfl)) ?_
           with_reducible refine (num_PutText.calls k1 ((rd_T55 l0_2 x26_1).f0) t130 _ A17.out).mono ?_
           rintro e w26 ⟨rfl, hb⟩
           refine ⟨_, rfl, ?_⟩
           have n0_ := Aside0.mk (blk_below (g := gb122) (o := .cells #[.int .u64 a0_0, .int .u64 a0_1, .slice (some ad128) l0_2.length c0_2] 25 (0, 0)) zx7_1 hb)
           have n1_ := Aside0.mk (blk_below (g := gb129) (o := .cells #[.string ((rd_T55 l0_2 x26_1).f0), .int .u64 ((rd_T55 l0_2 x26_1).f1), .int .u64 ((rd_T55 l0_2 x26_1).f2), .slice A128_3 ((rd_T55 l0_2 x26_1).f3).length c128_3, .int .u64 ((rd_T55 l0_2 x26_1).f4), .int .u64 ((rd_T55 l0_2 x26_1).f5), .int .u64 ((rd_T55 l0_2 x26_1).f6)] 55 (0, 0)) zx7_3 hb)
           have n2_ := Aside0.mk (below_step zx7_0 hb)
           have z_HO133 := fun (h0_ : b 18 = true) => (show Kd.R (Kd.int .u64) 22 w26 w.heap.size (fun _ => True) v132 y131 from by first | exact (Kd.R_below (by (with_reducible repeat (first | apply Kd.R_alloc | apply Kd.R_drewN | apply Kd.R_drew)); exact (Q_HO133 h0_)) hb) | exact Kd.R_mono (Kd.R_below (by (with_reducible repeat (first | apply Kd.R_alloc | apply Kd.R_drewN | apply Kd.R_drew)); exact (Q_HO133 h0_)) hb) (fun _ h_ => by first | trivial | exact h_ | exact h_.1))
           clear BK122
           clear BK129
           clear HB
           have BK122 := n0_
           have BK129 := n1_
           have HB := n2_
           clear n0_ n1_ n2_
           (try clear hb)
           (try clear hb2)
           (try clear hk)
           (try clear hi)
           refine hK.out _ _ ⟨v132, (by rw [ha.out]; exact putSel_upk 1 hb_ rfl rfl rfl), zx7_1, zx7_3, zx7_0, z_HO133⟩
          refine steps_cons ?_ ?_
          ·rintro b a w' ⟨v132, ha, Q_BK122, Q_BK129, Q_HB, Q_HO133⟩ hb_ hon hoff
           refine ⟨_, rfl, fun K hK => ?_⟩
           have e34 : a.tmps[34]? = some (.pointer (some ⟨gb129, 1, none⟩)) := by rw [ha]; exact (putSel_off rfl).trans rfl
           replace ha := Aside0.mk ha
           have BK122 := Aside0.mk Q_BK122
           have BK129 := Aside0.mk Q_BK129
           have HB := Aside0.mk Q_HB
           have hc0_ : w'.cell? ⟨gb129, 0, none⟩ = some (.string ((rd_T55 l0_2 x26_1).f0)) := (blk_cell BK129.out 0).trans rfl
           have hc1_ : w'.cell? ⟨gb129, 1, none⟩ = some (.int .u64 ((rd_T55 l0_2 x26_1).f1)) := (blk_cell BK129.out 1).trans rfl
           have hc2_ : w'.cell? ⟨gb129, 2, none⟩ = some (.int .u64 ((rd_T55 l0_2 x26_1).f2)) := (blk_cell BK129.out 2).trans rfl
           have hc3_ : w'.cell? ⟨gb129, 3, none⟩ = some (.slice A128_3 ((rd_T55 l0_2 x26_1).f3).length c128_3) := (blk_cell BK129.out 3).trans rfl
           have hc4_ : w'.cell? ⟨gb129, 4, none⟩ = some (.int .u64 ((rd_T55 l0_2 x26_1).f4)) := (blk_cell BK129.out 4).trans rfl
           have hc5_ : w'.cell? ⟨gb129, 5, none⟩ = some (.int .u64 ((rd_T55 l0_2 x26_1).f5)) := (blk_cell BK129.out 5).trans rfl
           have hc6_ : w'.cell? ⟨gb129, 6, none⟩ = some (.int .u64 ((rd_T55 l0_2 x26_1).f6)) := (blk_cell BK129.out 6).trans rfl
           refine value_ (w1 := w') (v := .int .u64 ((rd_T55 l0_2 x26_1).f1)) (by rfl) rfl ?_ ?_
           ·go_simp
            (try simp only [i64_w])
            try rfl
           refine hK.out _ _ ⟨v132, (by rw [ha.out]; exact putSel_upk 2 hb_ rfl rfl rfl), Q_BK122, Q_BK129, Q_HB, fun h0_ => absurd ((hoff 18 (by kernel_rfl)).symm.trans h0_) (by decide)⟩
          refine steps_cons ?_ ?_
          ·rintro b a w' ⟨v132, ha, Q_BK122, Q_BK129, Q_HB, Q_HO133⟩ hb_ hon hoff
           refine ⟨_, rfl, fun K hK => ?_⟩
           have e36 : a.tmps[36]? = some (.pointer (some ⟨gb129, 2, none⟩)) := by rw [ha]; exact (putSel_off rfl).trans rfl
           replace ha := Aside0.mk ha
           have BK122 := Aside0.mk Q_BK122
           have BK129 := Aside0.mk Q_BK129
           have HB := Aside0.mk Q_HB
           have hc0_ : w'.cell? ⟨gb129, 0, none⟩ = some (.string ((rd_T55 l0_2 x26_1).f0)) := (blk_cell BK129.out 0).trans rfl
           have hc1_ : w'.cell? ⟨gb129, 1, none⟩ = some (.int .u64 ((rd_T55 l0_2 x26_1).f1)) := (blk_cell BK129.out 1).trans rfl
           have hc2_ : w'.cell? ⟨gb129, 2, none⟩ = some (.int .u64 ((rd_T55 l0_2 x26_1).f2)) := (blk_cell BK129.out 2).trans rfl
           have hc3_ : w'.cell? ⟨gb129, 3, none⟩ = some (.slice A128_3 ((rd_T55 l0_2 x26_1).f3).length c128_3) := (blk_cell BK129.out 3).trans rfl
           have hc4_ : w'.cell? ⟨gb129, 4, none⟩ = some (.int .u64 ((rd_T55 l0_2 x26_1).f4)) := (blk_cell BK129.out 4).trans rfl
           have hc5_ : w'.cell? ⟨gb129, 5, none⟩ = some (.int .u64 ((rd_T55 l0_2 x26_1).f5)) := (blk_cell BK129.out 5).trans rfl
           have hc6_ : w'.cell? ⟨gb129, 6, none⟩ = some (.int .u64 ((rd_T55 l0_2 x26_1).f6)) := (blk_cell BK129.out 6).trans rfl
           refine value_ (w1 := w') (v := .int .u64 ((rd_T55 l0_2 x26_1).f2)) (by rfl) rfl ?_ ?_
           ·go_simp
            (try simp only [i64_w])
            try rfl
           refine hK.out _ _ ⟨v132, (by rw [ha.out]; exact putSel_upk 3 hb_ rfl rfl rfl), Q_BK122, Q_BK129, Q_HB, fun h0_ => absurd ((hoff 18 (by kernel_rfl)).symm.trans h0_) (by decide)⟩
          refine steps_cons ?_ ?_
          ·rintro b a w' ⟨v132, ha, Q_BK122, Q_BK129, Q_HB, Q_HO133⟩ hb_ hon hoff
           refine ⟨_, rfl, fun K hK => ?_⟩
           have e38 : a.tmps[38]? = some (.pointer (some ⟨gb129, 4, none⟩)) := by rw [ha]; exact (putSel_off rfl).trans rfl
           replace ha := Aside0.mk ha
           have BK122 := Aside0.mk Q_BK122
           have BK129 := Aside0.mk Q_BK129
           have HB := Aside0.mk Q_HB
           have hc0_ : w'.cell? ⟨gb129, 0, none⟩ = some (.string ((rd_T55 l0_2 x26_1).f0)) := (blk_cell BK129.out 0).trans rfl
           have hc1_ : w'.cell? ⟨gb129, 1, none⟩ = some (.int .u64 ((rd_T55 l0_2 x26_1).f1)) := (blk_cell BK129.out 1).trans rfl
           have hc2_ : w'.cell? ⟨gb129, 2, none⟩ = some (.int .u64 ((rd_T55 l0_2 x26_1).f2)) := (blk_cell BK129.out 2).trans rfl
           have hc3_ : w'.cell? ⟨gb129, 3, none⟩ = some (.slice A128_3 ((rd_T55 l0_2 x26_1).f3).length c128_3) := (blk_cell BK129.out 3).trans rfl
           have hc4_ : w'.cell? ⟨gb129, 4, none⟩ = some (.int .u64 ((rd_T55 l0_2 x26_1).f4)) := (blk_cell BK129.out 4).trans rfl
           have hc5_ : w'.cell? ⟨gb129, 5, none⟩ = some (.int .u64 ((rd_T55 l0_2 x26_1).f5)) := (blk_cell BK129.out 5).trans rfl
           have hc6_ : w'.cell? ⟨gb129, 6, none⟩ = some (.int .u64 ((rd_T55 l0_2 x26_1).f6)) := (blk_cell BK129.out 6).trans rfl
           refine value_ (w1 := w') (v := .int .u64 ((rd_T55 l0_2 x26_1).f4)) (by rfl) rfl ?_ ?_
           ·go_simp
            (try simp only [i64_w])
            try rfl
           refine hK.out _ _ ⟨v132, (by rw [ha.out]; exact putSel_upk 4 hb_ rfl rfl rfl), Q_BK122, Q_BK129, Q_HB, fun h0_ => absurd ((hoff 18 (by kernel_rfl)).symm.trans h0_) (by decide)⟩
          refine steps_cons ?_ ?_
          ·rintro b a w' ⟨v132, ha, Q_BK122, Q_BK129, Q_HB, Q_HO133⟩ hb_ hon hoff
           refine ⟨_, rfl, fun K hK => ?_⟩
           have e40 : a.tmps[40]? = some (.pointer (some ⟨gb129, 5, none⟩)) := by rw [ha]; exact (putSel_off rfl).trans rfl
           replace ha := Aside0.mk ha
           have BK122 := Aside0.mk Q_BK122
           have BK129 := Aside0.mk Q_BK129
           have HB := Aside0.mk Q_HB
           have hc0_ : w'.cell? ⟨gb129, 0, none⟩ = some (.string ((rd_T55 l0_2 x26_1).f0)) := (blk_cell BK129.out 0).trans rfl
           have hc1_ : w'.cell? ⟨gb129, 1, none⟩ = some (.int .u64 ((rd_T55 l0_2 x26_1).f1)) := (blk_cell BK129.out 1).trans rfl
           have hc2_ : w'.cell? ⟨gb129, 2, none⟩ = some (.int .u64 ((rd_T55 l0_2 x26_1).f2)) := (blk_cell BK129.out 2).trans rfl
           have hc3_ : w'.cell? ⟨gb129, 3, none⟩ = some (.slice A128_3 ((rd_T55 l0_2 x26_1).f3).length c128_3) := (blk_cell BK129.out 3).trans rfl
           have hc4_ : w'.cell? ⟨gb129, 4, none⟩ = some (.int .u64 ((rd_T55 l0_2 x26_1).f4)) := (blk_cell BK129.out 4).trans rfl
           have hc5_ : w'.cell? ⟨gb129, 5, none⟩ = some (.int .u64 ((rd_T55 l0_2 x26_1).f5)) := (blk_cell BK129.out 5).trans rfl
           have hc6_ : w'.cell? ⟨gb129, 6, none⟩ = some (.int .u64 ((rd_T55 l0_2 x26_1).f6)) := (blk_cell BK129.out 6).trans rfl
           refine value_ (w1 := w') (v := .int .u64 ((rd_T55 l0_2 x26_1).f5)) (by rfl) rfl ?_ ?_
           ·go_simp
            (try simp only [i64_w])
            try rfl
           refine hK.out _ _ ⟨v132, (by rw [ha.out]; exact putSel_upk 5 hb_ rfl rfl rfl), Q_BK122, Q_BK129, Q_HB, fun h0_ => absurd ((hoff 18 (by kernel_rfl)).symm.trans h0_) (by decide)⟩
          refine steps_cons ?_ ?_
          ·rintro b a w' ⟨v132, ha, Q_BK122, Q_BK129, Q_HB, Q_HO133⟩ hb_ hon hoff
           refine ⟨_, rfl, fun K hK => ?_⟩
           have e42 : a.tmps[42]? = some (.pointer (some ⟨gb129, 6, none⟩)) := by rw [ha]; exact (putSel_off rfl).trans rfl
           replace ha := Aside0.mk ha
           have BK122 := Aside0.mk Q_BK122
           have BK129 := Aside0.mk Q_BK129
           have HB := Aside0.mk Q_HB
           have hc0_ : w'.cell? ⟨gb129, 0, none⟩ = some (.string ((rd_T55 l0_2 x26_1).f0)) := (blk_cell BK129.out 0).trans rfl
           have hc1_ : w'.cell? ⟨gb129, 1, none⟩ = some (.int .u64 ((rd_T55 l0_2 x26_1).f1)) := (blk_cell BK129.out 1).trans rfl
           have hc2_ : w'.cell? ⟨gb129, 2, none⟩ = some (.int .u64 ((rd_T55 l0_2 x26_1).f2)) := (blk_cell BK129.out 2).trans rfl
           have hc3_ : w'.cell? ⟨gb129, 3, none⟩ = some (.slice A128_3 ((rd_T55 l0_2 x26_1).f3).length c128_3) := (blk_cell BK129.out 3).trans rfl
           have hc4_ : w'.cell? ⟨gb129, 4, none⟩ = some (.int .u64 ((rd_T55 l0_2 x26_1).f4)) := (blk_cell BK129.out 4).trans rfl
           have hc5_ : w'.cell? ⟨gb129, 5, none⟩ = some (.int .u64 ((rd_T55 l0_2 x26_1).f5)) := (blk_cell BK129.out 5).trans rfl
           have hc6_ : w'.cell? ⟨gb129, 6, none⟩ = some (.int .u64 ((rd_T55 l0_2 x26_1).f6)) := (blk_cell BK129.out 6).trans rfl
           refine value_ (w1 := w') (v := .int .u64 ((rd_T55 l0_2 x26_1).f6)) (by rfl) rfl ?_ ?_
           ·go_simp
            (try simp only [i64_w])
            try rfl
           refine hK.out _ _ ⟨v132, (by rw [ha.out]; exact putSel_upk 6 hb_ rfl rfl rfl), Q_BK122, Q_BK129, Q_HB, fun h0_ => absurd ((hoff 18 (by kernel_rfl)).symm.trans h0_) (by decide)⟩
          refine steps_cons ?_ ?_
          ·rintro b a w' ⟨v132, ha, Q_BK122, Q_BK129, Q_HB, Q_HO133⟩ hb_ hon hoff
           refine ⟨_, rfl, fun K hK => ?_⟩
           have e44 : a.tmps[44]? = some (.pointer (some ⟨gb129, 3, none⟩)) := by rw [ha]; exact (putSel_off rfl).trans rfl
           replace ha := Aside0.mk ha
           have BK122 := Aside0.mk Q_BK122
           have BK129 := Aside0.mk Q_BK129
           have HB := Aside0.mk Q_HB
           have hc0_ : w'.cell? ⟨gb129, 0, none⟩ = some (.string ((rd_T55 l0_2 x26_1).f0)) := (blk_cell BK129.out 0).trans rfl
           have hc1_ : w'.cell? ⟨gb129, 1, none⟩ = some (.int .u64 ((rd_T55 l0_2 x26_1).f1)) := (blk_cell BK129.out 1).trans rfl
           have hc2_ : w'.cell? ⟨gb129, 2, none⟩ = some (.int .u64 ((rd_T55 l0_2 x26_1).f2)) := (blk_cell BK129.out 2).trans rfl
           have hc3_ : w'.cell? ⟨gb129, 3, none⟩ = some (.slice A128_3 ((rd_T55 l0_2 x26_1).f3).length c128_3) := (blk_cell BK129.out 3).trans rfl
           have hc4_ : w'.cell? ⟨gb129, 4, none⟩ = some (.int .u64 ((rd_T55 l0_2 x26_1).f4)) := (blk_cell BK129.out 4).trans rfl
           have hc5_ : w'.cell? ⟨gb129, 5, none⟩ = some (.int .u64 ((rd_T55 l0_2 x26_1).f5)) := (blk_cell BK129.out 5).trans rfl
           have hc6_ : w'.cell? ⟨gb129, 6, none⟩ = some (.int .u64 ((rd_T55 l0_2 x26_1).f6)) := (blk_cell BK129.out 6).trans rfl
           refine value_ (w1 := w') (v := .slice A128_3 ((rd_T55 l0_2 x26_1).f3).length c128_3) (by rfl) rfl ?_ ?_
           ·go_simp
            (try simp only [i64_w])
            try rfl
           refine hK.out _ _ ⟨v132, (by rw [ha.out]; exact putSel_upk 7 hb_ rfl rfl rfl), Q_BK122, Q_BK129, Q_HB, fun h0_ => absurd ((hoff 18 (by kernel_rfl)).symm.trans h0_) (by decide)⟩
          refine steps_cons ?_ ?_
          ·rintro b a w' ⟨v132, ha, Q_BK122, Q_BK129, Q_HB, Q_HO133⟩ hb_ hon hoff
           refine ⟨_, rfl, fun K hK => ?_⟩
           have e45 : a.tmps[45]? = some (.slice A128_3 ((rd_T55 l0_2 x26_1).f3).length c128_3) := by rw [ha]; exact putSel_on (e := (15, 45, .slice A128_3 ((rd_T55 l0_2 x26_1).f3).length c128_3)) 7 rfl rfl (hon 15 (by kernel_rfl)) rfl
           replace ha := Aside0.mk ha
           have BK122 := Aside0.mk Q_BK122
           have BK129 := Aside0.mk Q_BK129
           have HB := Aside0.mk Q_HB
           refine value_ (w1 := w') (v := .int .i64 (((rd_T55 l0_2 x26_1).f3).length : Int)) (by rfl) rfl ?_ ?_
           ·go_simp
            (try simp only [i64_w])
            try rfl
           refine hK.out _ _ ⟨v132, (by rw [ha.out]; exact putSel_upk 8 hb_ rfl rfl rfl), Q_BK122, Q_BK129, Q_HB, fun h0_ => absurd ((hoff 18 (by kernel_rfl)).symm.trans h0_) (by decide)⟩
          refine steps_cons ?_ ?_
          ·rintro b a w' ⟨v132, ha, Q_BK122, Q_BK129, Q_HB, Q_HO133⟩ hb_ hon hoff
           refine ⟨_, rfl, fun K hK => ?_⟩
           have e46 : a.tmps[46]? = some (.int .i64 (((rd_T55 l0_2 x26_1).f3).length : Int)) := by rw [ha]; exact putSel_on (e := (16, 46, .int .i64 (((rd_T55 l0_2 x26_1).f3).length : Int))) 8 rfl rfl (hon 16 (by kernel_rfl)) rfl
           replace ha := Aside0.mk ha
           have BK122 := Aside0.mk Q_BK122
           have BK129 := Aside0.mk Q_BK129
           have HB := Aside0.mk Q_HB
           refine value_ (w1 := w') (v := .int .u64 (IntKind.u64.wrap ((((rd_T55 l0_2 x26_1).f3).length : Int)))) (by rfl) rfl ?_ ?_
           ·go_simp
            (try simp only [i64_w])
            try rfl
           refine hK.out _ _ ⟨v132, (by rw [ha.out]; exact putSel_upk 9 hb_ rfl rfl rfl), Q_BK122, Q_BK129, Q_HB, fun h0_ => absurd ((hoff 18 (by kernel_rfl)).symm.trans h0_) (by decide)⟩
          refine steps_cons ?_ ?_
          ·rintro b a w' ⟨v132, ha, Q_BK122, Q_BK129, Q_HB, Q_HO133⟩ hb_ hon hoff
           refine ⟨_, rfl, fun K hK => ?_⟩
           have e35 : a.tmps[35]? = some (.int .u64 ((rd_T55 l0_2 x26_1).f1)) := by rw [ha]; exact putSel_on (e := (5, 35, .int .u64 ((rd_T55 l0_2 x26_1).f1))) 2 rfl rfl (hon 5 (by kernel_rfl)) rfl
           have e37 : a.tmps[37]? = some (.int .u64 ((rd_T55 l0_2 x26_1).f2)) := by rw [ha]; exact putSel_on (e := (7, 37, .int .u64 ((rd_T55 l0_2 x26_1).f2))) 3 rfl rfl (hon 7 (by kernel_rfl)) rfl
           have e39 : a.tmps[39]? = some (.int .u64 ((rd_T55 l0_2 x26_1).f4)) := by rw [ha]; exact putSel_on (e := (9, 39, .int .u64 ((rd_T55 l0_2 x26_1).f4))) 4 rfl rfl (hon 9 (by kernel_rfl)) rfl
           have e41 : a.tmps[41]? = some (.int .u64 ((rd_T55 l0_2 x26_1).f5)) := by rw [ha]; exact putSel_on (e := (11, 41, .int .u64 ((rd_T55 l0_2 x26_1).f5))) 5 rfl rfl (hon 11 (by kernel_rfl)) rfl
           have e43 : a.tmps[43]? = some (.int .u64 ((rd_T55 l0_2 x26_1).f6)) := by rw [ha]; exact putSel_on (e := (13, 43, .int .u64 ((rd_T55 l0_2 x26_1).f6))) 6 rfl rfl (hon 13 (by kernel_rfl)) rfl
           have e47 : a.tmps[47]? = some (.int .u64 (IntKind.u64.wrap ((((rd_T55 l0_2 x26_1).f3).length : Int)))) := by rw [ha]; exact putSel_on (e := (17, 47, .int .u64 (IntKind.u64.wrap ((((rd_T55 l0_2 x26_1).f3).length : Int))))) 9 rfl rfl (hon 17 (by kernel_rfl)) rfl
           replace ha := Aside0.mk ha
           have BK122 := Aside0.mk Q_BK122
           have BK129 := Aside0.mk Q_BK129
           have HB := Aside0.mk Q_HB
           refine Kd.R_lit_step (Kd.int .u64) _ 22 ?hg (N := 48) ?hd (xs := ([(rd_T55 l0_2 x26_1).f1, (rd_T55 l0_2 x26_1).f2, (rd_T55 l0_2 x26_1).f4, (rd_T55 l0_2 x26_1).f5, (rd_T55 l0_2 x26_1).f6, IntKind.u64.wrap ((((rd_T55 l0_2 x26_1).f3).length : Int))] : List Int)) (inner := [.int .u64 ((rd_T55 l0_2 x26_1).f1), .int .u64 ((rd_T55 l0_2 x26_1).f2), .int .u64 ((rd_T55 l0_2 x26_1).f4), .int .u64 ((rd_T55 l0_2 x26_1).f5), .int .u64 ((rd_T55 l0_2 x26_1).f6), .int .u64 (IntKind.u64.wrap ((((rd_T55 l0_2 x26_1).f3).length : Int)))]) (ok := fun _ => True) (okp := fun _ => True) ?hr ?hp (fun _ hk => hk) trivial (Below.refl _ _) (Nat.le_refl _) (by simp) ?_; (case hd => rfl); (case hg => rfl); (case hr => first | (go_simp; done) | (go_simp; rfl)); (case hp => exact (Reps.one (show Kd.M (Kd.int .u64) _ _ _ ((rd_T55 l0_2 x26_1).f1) [.int .u64 ((rd_T55 l0_2 x26_1).f1)] from rfl) (Reps.one (show Kd.M (Kd.int .u64) _ _ _ ((rd_T55 l0_2 x26_1).f2) [.int .u64 ((rd_T55 l0_2 x26_1).f2)] from rfl) (Reps.one (show Kd.M (Kd.int .u64) _ _ _ ((rd_T55 l0_2 x26_1).f4) [.int .u64 ((rd_T55 l0_2 x26_1).f4)] from rfl) (Reps.one (show Kd.M (Kd.int .u64) _ _ _ ((rd_T55 l0_2 x26_1).f5) [.int .u64 ((rd_T55 l0_2 x26_1).f5)] from rfl) (Reps.one (show Kd.M (Kd.int .u64) _ _ _ ((rd_T55 l0_2 x26_1).f6) [.int .u64 ((rd_T55 l0_2 x26_1).f6)] from rfl) (Reps.one (show Kd.M (Kd.int .u64) _ _ _ (IntKind.u64.wrap ((((rd_T55 l0_2 x26_1).f3).length : Int))) [.int .u64 (IntKind.u64.wrap ((((rd_T55 l0_2 x26_1).f3).length : Int)))] from rfl) (Reps.none _ _))))))))
           intro v132 w26 ho27 hb hg_ hnew_
           clear hg_ hnew_
           (first | rw [← Ny131.out] at ho27 | (simp only [Int.reduceToNat] at ho27; rw [← Ny131.out] at ho27))
           have n0_ := Aside0.mk (Kd.R_lower ho27 (below_size zx7_0))
           have n1_ := Aside0.mk (blk_below (g := gb122) (o := .cells #[.int .u64 a0_0, .int .u64 a0_1, .slice (some ad128) l0_2.length c0_2] 25 (0, 0)) zx7_1 hb)
           have n2_ := Aside0.mk (blk_below (g := gb129) (o := .cells #[.string ((rd_T55 l0_2 x26_1).f0), .int .u64 ((rd_T55 l0_2 x26_1).f1), .int .u64 ((rd_T55 l0_2 x26_1).f2), .slice A128_3 ((rd_T55 l0_2 x26_1).f3).length c128_3, .int .u64 ((rd_T55 l0_2 x26_1).f4), .int .u64 ((rd_T55 l0_2 x26_1).f5), .int .u64 ((rd_T55 l0_2 x26_1).f6)] 55 (0, 0)) zx7_3 hb)
           have n3_ := Aside0.mk (below_step zx7_0 hb)
           clear BK122
           clear BK129
           clear HB
           have HO133 := n0_
           have BK122 := n1_
           have BK129 := n2_
           have HB := n3_
           clear n0_ n1_ n2_ n3_
           clear hb ho27
           refine hK.out _ _ ⟨v132, (by rw [ha.out]; exact putSel_upk 10 hb_ rfl rfl rfl), zx7_1, zx7_3, zx7_0, fun _ => (by (with_reducible repeat (first | apply Kd.R_alloc | apply Kd.R_drewN | apply Kd.R_drew)); exact HO133.out)⟩
          refine steps_cons ?_ ?_
          ·rintro b a w' ⟨v132, ha, Q_BK122, Q_BK129, Q_HB, Q_HO133⟩ hb_ hon hoff
           refine ⟨_, rfl, fun K hK => ?_⟩
           have e48 : a.tmps[48]? = some (v132) := by rw [ha]; exact putSel_on (e := (18, 48, v132)) 10 rfl rfl (hon 18 (by kernel_rfl)) rfl
           replace ha := Aside0.mk ha
           have BK122 := Aside0.mk Q_BK122
           have BK129 := Aside0.mk Q_BK129
           have HB := Aside0.mk Q_HB
           have HO133 := Aside0.mk (Q_HO133 (hon 18 (by kernel_rfl)))
           obtain ⟨Ao30, co30, eo30⟩ := Kd.R_slice HO133.out
           (first | subst eo30 | (injection eo30 with f1_ f2_ f3_; have f4_ := f1_.symm; have f5_ := f3_.symm; clear f1_ f2_ f3_; subst f4_; subst f5_))
           refine goes_ Tryd.func23 (by kernel_rfl) rfl #[.slice Ao30 y131.length co30] (by rfl) rfl rfl (by first | (simp only [List.map_toArray, List.map_cons, List.map_nil, Act.eval, Array.getD_eq_getD_getElem?, Option.getD_some, e48]; done) | (simp only [List.map_toArray, List.map_cons, List.map_nil, Act.eval, Array.getD_eq_getD_getElem?, Option.getD_some, e48]; rfl)) ?_
           with_reducible refine (mark_numbers.calls _ _ y131 t134 _ ?side1 ?side2 A18.out).mono ?_
           (case side1 => repeat (first | exact (Kd.R_reads' HO133.out).2.2 | (with_reducible refine Kd.C_alloc ?_ _) | (with_reducible refine Kd.C_drewN ?_ _) | (with_reducible refine Kd.C_drew ?_)))
           (case side2 => exact (Kd.R_reads' HO133.out).2.1)
           rintro e w31 ⟨rfl, hb⟩
           refine ⟨_, rfl, ?_⟩
           have n0_ := Aside0.mk (Kd.R_below (by (with_reducible repeat (first | apply Kd.R_alloc | apply Kd.R_drewN | apply Kd.R_drew)); exact HO133.out) hb)
           have n1_ := Aside0.mk (blk_below (g := gb122) (o := .cells #[.int .u64 a0_0, .int .u64 a0_1, .slice (some ad128) l0_2.length c0_2] 25 (0, 0)) zx7_1 hb)
           have n2_ := Aside0.mk (blk_below (g := gb129) (o := .cells #[.string ((rd_T55 l0_2 x26_1).f0), .int .u64 ((rd_T55 l0_2 x26_1).f1), .int .u64 ((rd_T55 l0_2 x26_1).f2), .slice A128_3 ((rd_T55 l0_2 x26_1).f3).length c128_3, .int .u64 ((rd_T55 l0_2 x26_1).f4), .int .u64 ((rd_T55 l0_2 x26_1).f5), .int .u64 ((rd_T55 l0_2 x26_1).f6)] 55 (0, 0)) zx7_3 hb)
           have n3_ := Aside0.mk (below_step zx7_0 hb)
           (try clear HO133)
           clear BK122
           clear BK129
           clear HB
           have HO133 := n0_
           have BK122 := n1_
           have BK129 := n2_
           have HB := n3_
           clear n0_ n1_ n2_ n3_
           (try clear hb)
           (try clear hb2)
           (try clear hk)
           (try clear hi)
           refine hK.out _ _ ⟨.slice Ao30 y131.length co30, (by rw [ha.out]; exact putSel_upk 11 hb_ rfl rfl rfl), zx7_1, zx7_3, zx7_0, fun _ => (by (with_reducible repeat (first | apply Kd.R_alloc | apply Kd.R_drewN | apply Kd.R_drew)); exact HO133.out)⟩
          refine steps_cons ?_ ?_
          ·rintro b a w' ⟨v132, ha, Q_BK122, Q_BK129, Q_HB, Q_HO133⟩ hb_ hon hoff
           refine ⟨_, rfl, fun K hK => ?_⟩
           have e33 : a.tmps[33]? = some (.string t130) := by rw [ha]; exact putSel_on (e := (3, 33, .string t130)) 1 rfl rfl (hon 3 (by kernel_rfl)) rfl
           have e49 : a.tmps[49]? = some (.string t134) := by rw [ha]; exact putSel_on (e := (19, 49, .string t134)) 11 rfl rfl (hon 19 (by kernel_rfl)) rfl
           replace ha := Aside0.mk ha
           have BK122 := Aside0.mk Q_BK122
           have BK129 := Aside0.mk Q_BK129
           have HB := Aside0.mk Q_HB
           have HO133 := Aside0.mk (Q_HO133 (hon 18 (by kernel_rfl)))
           refine value_ (w1 := w') (v := .string (t130 ++ t134)) (by rfl) rfl ?_ ?_
           ·go_simp
            (try simp only [i64_w])
            try rfl
           refine hK.out _ _ ⟨v132, (by rw [ha.out]; exact putSel_upk 12 hb_ rfl rfl rfl), Q_BK122, Q_BK129, Q_HB, Q_HO133⟩
          refine steps_cons ?_ ?_
          ·rintro b a w' ⟨v132, ha, Q_BK122, Q_BK129, Q_HB, Q_HO133⟩ hb_ hon hoff
           refine ⟨_, rfl, fun K hK => ?_⟩
           have e30 : a.tmps[30]? = some (.string x4_1) := by rw [ha]; exact (putSel_off rfl).trans rfl
           have e50 : a.tmps[50]? = some (.string (t130 ++ t134)) := by rw [ha]; exact putSel_on (e := (20, 50, .string (t130 ++ t134))) 12 rfl rfl (hon 20 (by kernel_rfl)) rfl
           replace ha := Aside0.mk ha
           have BK122 := Aside0.mk Q_BK122
           have BK129 := Aside0.mk Q_BK129
           have HB := Aside0.mk Q_HB
           have HO133 := Aside0.mk (Q_HO133 (hon 18 (by kernel_rfl)))
           refine value_ (w1 := w') (v := .string (x4_1 ++ (t130 ++ t134))) (by rfl) rfl ?_ ?_
           ·go_simp
            (try simp only [i64_w])
            try rfl
           refine hK.out _ _ ⟨v132, (by rw [ha.out]; exact putSel_upk 13 hb_ rfl rfl rfl), Q_BK122, Q_BK129, Q_HB, Q_HO133⟩
          refine steps_cons ?_ ?_
          ·rintro b a w' ⟨v132, ha, Q_BK122, Q_BK129, Q_HB, Q_HO133⟩ hb_ hon hoff
           refine ⟨_, rfl, fun K hK => ?_⟩
           have e51 : a.tmps[51]? = some (.string (x4_1 ++ (t130 ++ t134))) := by rw [ha]; exact putSel_on (e := (21, 51, .string (x4_1 ++ (t130 ++ t134)))) 13 rfl rfl (hon 21 (by kernel_rfl)) rfl
           replace ha := Aside0.mk ha
           have BK122 := Aside0.mk Q_BK122
           have BK129 := Aside0.mk Q_BK129
           have HB := Aside0.mk Q_HB
           have HO133 := Aside0.mk (Q_HO133 (hon 18 (by kernel_rfl)))
           refine value_ (w1 := w') (v := .string (x4_1 ++ (t130 ++ t134))) (by rfl) rfl ?_ ?_
           ·go_simp
            (try simp only [i64_w])
            try rfl
           refine hK.out _ _ ⟨v132, (by rw [ha.out]; exact putSel_upk 14 hb_ rfl rfl rfl), Q_BK122, Q_BK129, Q_HB, Q_HO133⟩
          exact steps_nil
         rintro b a w31 hall ⟨v132, ha, Q_BK122, Q_BK129, Q_HB, Q_HO133⟩
         clear BK122 BK129 HB
         have hb2_ := hall 2 (by kernel_rfl)
         have hb3_ := hall 3 (by kernel_rfl)
         have hb5_ := hall 5 (by kernel_rfl)
         have hb7_ := hall 7 (by kernel_rfl)
         have hb9_ := hall 9 (by kernel_rfl)
         have hb11_ := hall 11 (by kernel_rfl)
         have hb13_ := hall 13 (by kernel_rfl)
         have hb15_ := hall 15 (by kernel_rfl)
         have hb16_ := hall 16 (by kernel_rfl)
         have hb17_ := hall 17 (by kernel_rfl)
         have hb18_ := hall 18 (by kernel_rfl)
         have hb19_ := hall 19 (by kernel_rfl)
         have hb20_ := hall 20 (by kernel_rfl)
         have hb21_ := hall 21 (by kernel_rfl)
         have hb22_ := hall 22 (by kernel_rfl)
         subst ha
         simp only [putSel, hb2_, hb3_, hb5_, hb7_, hb9_, hb11_, hb13_, hb15_, hb16_, hb17_, hb18_, hb19_, hb20_, hb21_, hb22_, if_true, Act.put, List.setIfInBounds_toArray, List.set_cons_zero, List.set_cons_succ]
         have BK122 := Aside0.mk Q_BK122
         clear Q_BK122
         have BK129 := Aside0.mk Q_BK129
         clear Q_BK129
         have HB := Aside0.mk Q_HB
         clear Q_HB
         have HO133 := Aside0.mk (Q_HO133 hb18_)
         clear Q_HO133
         clear hall hb2_ hb3_ hb5_ hb7_ hb9_ hb11_ hb13_ hb15_ hb16_ hb17_ hb18_ hb19_ hb20_ hb21_ hb22_
         obtain ⟨hcz32_0, hcz32_1, hcz32_2, hcz32_3, hcz32_4, hcz32_5, hcz32_6, hfz32_0, hfz32_1, hfz32_2, hfz32_3, hfz32_4, hfz32_5, hfz32_6⟩ := cx7_bc7 BK129.out
         try go_wp2
         go_loopg [4, 7, 57] k1 (fun kq v4 v7 v57 w' => ∃ (x4_2 : ByteArray) (x7_2 : Int) (x57_2 : Int), v4 = .string x4_2 ∧ v7 = .int .u64 x7_2 ∧ v57 = .int .i64 x57_2 ∧ Aside0 (mark_Put.l1 kq x4_2 x7_2 l0_2 (l0_2.length : Int) x26_1 ((rd_T55 l0_2 x26_1).f3) (((rd_T55 l0_2 x26_1).f3).length : Int) x57_2 = some (r1, r2)) ∧ Aside0 (kq ≤ k1) ∧ Aside0 (w'.heap[gb122]? = some (.cells #[.int .u64 a0_0, .int .u64 a0_1, (.slice (some ad128) l0_2.length c0_2)] 25 (0, 0))) ∧ Aside0 (w'.heap[gb129]? = some (.cells #[.string ((rd_T55 l0_2 x26_1).f0), .int .u64 ((rd_T55 l0_2 x26_1).f1), .int .u64 ((rd_T55 l0_2 x26_1).f2), (.slice A128_3 ((rd_T55 l0_2 x26_1).f3).length c128_3), .int .u64 ((rd_T55 l0_2 x26_1).f4), .int .u64 ((rd_T55 l0_2 x26_1).f5), .int .u64 ((rd_T55 l0_2 x26_1).f6)] 55 (0, 0))) ∧ Aside0 (Below w.heap.size w w'))
         case atStart => exact ⟨(x4_1 ++ (t130 ++ t134)), ((rd_T55 l0_2 x26_1).f2), (0), zx7_6, zx7_6, zx7_6, H', ⟨Nat.le_refl _⟩, ⟨by (with_reducible repeat (first | refine blk_drewN ?_ _ | refine blk_drew ?_ | refine blk_alloc ?_ _)); exact BK122.out⟩, ⟨by (with_reducible repeat (first | refine blk_drewN ?_ _ | refine blk_drew ?_ | refine blk_alloc ?_ _)); exact BK129.out⟩, ⟨by repeat (first | (with_reducible first | exact HB.out | apply below_alloc | apply pw_below_drewN | apply below_drew1 | refine below_set ?_ GE122.out | refine below_set ?_ GE129.out) | exact HB.out)⟩⟩
         case round =>
          clear H'
          (try clear c1); (try clear p1); (try clear q1); (try clear hx1); (try clear c2); (try clear p2); (try clear c3); (try clear c4); (try clear c5); (try clear c6); (try clear c11); (try clear c12); (try clear p12); (try clear q12); (try clear hx12); (try clear c14); (try clear c14b0); (try clear c15); (try clear c15b0); (try clear c16); (try clear c16b0); (try clear c19); (try clear c19b0); (try clear c19b1); (try clear c19b2); (try clear c20); (try clear c20b0); (try clear c20b1); (try clear c20b2); (try clear c22); (try clear c23); (try clear c24); (try clear hcz13_0); (try clear hcz13_1); (try clear hcz13_2); (try clear hcz23_0); (try clear hcz23_1); (try clear hcz23_2); (try clear hcz23_3); (try clear hcz23_4); (try clear hcz23_5); (try clear hcz23_6); (try clear hcz32_0); (try clear hcz32_1); (try clear hcz32_2); (try clear hcz32_3); (try clear hcz32_4); (try clear hcz32_5); (try clear hcz32_6); (try clear hcz6_0); (try clear hcz6_1); (try clear hcz6_2); (try clear hcz8_0); (try clear hcz8_1); (try clear hcz8_2); (try clear hfz13_0); (try clear hfz13_1); (try clear hfz13_2); (try clear hfz23_0); (try clear hfz23_1); (try clear hfz23_2); (try clear hfz23_3); (try clear hfz23_4); (try clear hfz23_5); (try clear hfz23_6); (try clear hfz32_0); (try clear hfz32_1); (try clear hfz32_2); (try clear hfz32_3); (try clear hfz32_4); (try clear hfz32_5); (try clear hfz32_6); (try clear hfz6_0); (try clear hfz6_1); (try clear hfz6_2); (try clear hfz8_0); (try clear hfz8_1); (try clear hfz8_2); (try clear hx128_0); (try clear hx128_1); (try clear hx128_2); (try clear hx128_3); (try clear hx128_4); (try clear hx128_5); (try clear hx128_6); (try clear p128); (try clear p2); (try clear q128)
          obtain ⟨x4_2, x7_2, x57_2, rfl, rfl, rfl, HA, HK2, BK122, BK129, HB⟩ := hrel
          cases gk with
          | zero => exact absurd HA.out (by simp [mark_Put.l1])
          | succ k2 =>
           have H := HA.out
           clear HA
           simp only [mark_Put.l1] at H
           by_cases c33 : x57_2 < (((rd_T55 l0_2 x26_1).f3).length : Int)
           ·rw [if_pos c33] at H
            have c33b0 : decide (x57_2 < (((rd_T55 l0_2 x26_1).f3).length : Int)) = true := decide_eq_true c33
            clear c33
            by_cases c34 : 0 ≤ x57_2
            ·rw [if_pos c34] at H
             have c34b0 : decide (0 ≤ x57_2) = true := decide_eq_true c34
             clear c34
             by_cases c35 : x57_2 < (((rd_T55 l0_2 x26_1).f3).length : Int)
             ·rw [if_pos c35] at H
              have c35b0 : decide (x57_2 < (((rd_T55 l0_2 x26_1).f3).length : Int)) = true := decide_eq_true c35
              clear c35
              obtain ⟨y136, hy136⟩ : ∃ y_ : List Int, y_ = (([IntKind.u64.wrap ((rd ((rd_T55 l0_2 x26_1).f3) x57_2) - x7_2)] : List Int)) := ⟨_, rfl⟩
              replace H : ((mark_numbers.f y136).bind fun t139 => (if x4_2.size + t139.size ≤ 9223372036854775807 then (mark_Put.l1 k2 (x4_2 ++ t139) (rd ((rd_T55 l0_2 x26_1).f3) x57_2) l0_2 (l0_2.length : Int) x26_1 ((rd_T55 l0_2 x26_1).f3) (((rd_T55 l0_2 x26_1).f3).length : Int) (wrap64 (x57_2 + 1))) else (none))) = some (r1, r2) := by first | (rw [hy136]; with_reducible exact H) | (have H2_ := (Option.bind_some _ _).symm.trans H; rw [hy136]; with_reducible exact H2_) | (have H2_ := (Option.bind_some _ _).symm.trans H; with_reducible exact H2_) | with_reducible exact H | (rw [hy136]; exact H) | exact H
              have Ny136 := Aside0.mk hy136
              clear hy136
              replace H := Option.bind_eq_some_iff.mp H
              obtain ⟨t139, A360, H⟩ := H
              replace H : (if x4_2.size + t139.size ≤ 9223372036854775807 then (mark_Put.l1 k2 (x4_2 ++ t139) (rd ((rd_T55 l0_2 x26_1).f3) x57_2) l0_2 (l0_2.length : Int) x26_1 ((rd_T55 l0_2 x26_1).f3) (((rd_T55 l0_2 x26_1).f3).length : Int) (wrap64 (x57_2 + 1))) else (none)) = some (r1, r2) := H
              have A36 := Aside0.mk A360
              clear A360
              by_cases c37 : x4_2.size + t139.size ≤ 9223372036854775807
              ·rw [if_pos c37] at H
               have c37b0 := eq_true c37
               have c37b1 : decide (x4_2.size + t139.size ≤ 9223372036854775807) = true := decide_eq_true c37
               try have c37b2 : (9223372036854775807 < x4_2.size + t139.size) = False := eq_false (Nat.not_lt.2 c37)
               clear c37
               have H' := Aside0.mk H
               clear H
               have p135 : 0 ≤ (x57_2 : Int) := of_decide_eq_true (by first | (with_reducible assumption) | assumption)
               have q135 : x57_2 < (((rd_T55 l0_2 x26_1).f3).length : Int) := of_decide_eq_true (by first | (with_reducible assumption) | assumption)
               obtain ⟨ad135, e135, hx135_0⟩ := Kd.at_int HR128_3.out x57_2 p135 q135
               cases e135
               replace hx135_0 := (HB.out.cell (World.block_lt_of_cell? w _ hx135_0)).trans hx135_0
               replace p135 := eq_true p135
               replace q135 := eq_true q135
               go_wp2_with (first | ((with_reducible refine gate_dst (N := 65) rfl ?_); refine Kd.R_lit (Kd.int .u64) _ 22 ?hg (N := 65) ?hd (xs := ([IntKind.u64.wrap ((rd ((rd_T55 l0_2 x26_1).f3) x57_2) - x7_2)] : List Int)) (inner := [.int .u64 (IntKind.u64.wrap ((rd ((rd_T55 l0_2 x26_1).f3) x57_2) - x7_2))]) (ok := fun _ => True) (okp := fun _ => True) ?hr ?hp (fun _ hk => hk) trivial (Below.refl _ _) (Nat.le_refl _) (by simp) ?_; (case hd => rfl); (case hg => rfl); (case hr => first | (go_simp; done) | (go_simp; rfl)); (case hp => exact (Reps.one (show Kd.M (Kd.int .u64) _ _ _ (IntKind.u64.wrap ((rd ((rd_T55 l0_2 x26_1).f3) x57_2) - x7_2)) [.int .u64 (IntKind.u64.wrap ((rd ((rd_T55 l0_2 x26_1).f3) x57_2) - x7_2))] from rfl) (Reps.none _ _))); intro v137 w38 ho39 hb hg_ hnew_; clear hg_ hnew_; (first | rw [← Ny136.out] at ho39 | (simp only [Int.reduceToNat] at ho39; rw [← Ny136.out] at ho39)); have n0_ := Aside0.mk (Kd.R_lower ho39 (below_size zx7_0)); have n1_ := Aside0.mk (blk_below (g := gb122) (o := .cells #[.int .u64 a0_0, .int .u64 a0_1, .slice (some ad128) l0_2.length c0_2] 25 (0, 0)) zx7_1 hb); have n2_ := Aside0.mk (blk_below (g := gb129) (o := .cells #[.string ((rd_T55 l0_2 x26_1).f0), .int .u64 ((rd_T55 l0_2 x26_1).f1), .int .u64 ((rd_T55 l0_2 x26_1).f2), .slice (some ad135) ((rd_T55 l0_2 x26_1).f3).length c128_3, .int .u64 ((rd_T55 l0_2 x26_1).f4), .int .u64 ((rd_T55 l0_2 x26_1).f5), .int .u64 ((rd_T55 l0_2 x26_1).f6)] 55 (0, 0)) zx7_3 hb); have n3_ := Aside0.mk (below_step zx7_0 hb); clear BK122; clear BK129; clear HB; have HO138 := n0_; have BK122 := n1_; have BK129 := n2_; have HB := n3_; clear n0_ n1_ n2_ n3_; clear hb ho39; obtain ⟨Ao40, co40, eo40⟩ := Kd.R_slice HO138.out; subst eo40) | ((with_reducible refine gate_callee (f := 23) rfl ?_); refine goesL_ (some 66) rfl rfl Tryd.func23 (by kernel_rfl) rfl #[.slice Ao40 y136.length co40] rfl zx7_5 ?_; (with_reducible refine (mark_numbers.calls _ _ y136 t139 _ ?side1 ?side2 A36.out).mono ?_); (case side1 => repeat (first | exact (Kd.R_reads' HO138.out).2.2 | (with_reducible refine Kd.C_alloc ?_ _) | (with_reducible refine Kd.C_drewN ?_ _) | (with_reducible refine Kd.C_drew ?_))); (case side2 => exact (Kd.R_reads' HO138.out).2.1); rintro e w41 ⟨rfl, hb⟩; refine ⟨_, rfl, ?_⟩;  have n1_ := Aside0.mk (blk_below (g := gb122) (o := .cells #[.int .u64 a0_0, .int .u64 a0_1, .slice (some ad128) l0_2.length c0_2] 25 (0, 0)) zx7_1 hb); have n2_ := Aside0.mk (blk_below (g := gb129) (o := .cells #[.string ((rd_T55 l0_2 x26_1).f0), .int .u64 ((rd_T55 l0_2 x26_1).f1), .int .u64 ((rd_T55 l0_2 x26_1).f2), .slice (some ad135) ((rd_T55 l0_2 x26_1).f3).length c128_3, .int .u64 ((rd_T55 l0_2 x26_1).f4), .int .u64 ((rd_T55 l0_2 x26_1).f5), .int .u64 ((rd_T55 l0_2 x26_1).f6)] 55 (0, 0)) zx7_3 hb); have n3_ := Aside0.mk (below_step zx7_0 hb); (try clear HO138); clear BK122; clear BK129; clear HB; have BK122 := n1_; have BK129 := n2_; have HB := n3_; clear n1_ n2_ n3_; (try clear hb); (try clear hb2); (try clear hk); (try clear hi)))
               go_roundg k2
               case measure => have := HK1.out; have := HK2.out; omega
               case rel => exact ⟨(x4_2 ++ t139), (rd ((rd_T55 l0_2 x26_1).f3) x57_2), (wrap64 (x57_2 + 1)), zx7_6, zx7_6, zx7_6, H', ⟨by have := HK1.out; have := HK2.out; omega⟩, ⟨by (with_reducible repeat (first | refine blk_drewN ?_ _ | refine blk_drew ?_ | refine blk_alloc ?_ _)); exact BK122.out⟩, ⟨by (with_reducible repeat (first | refine blk_drewN ?_ _ | refine blk_drew ?_ | refine blk_alloc ?_ _)); exact BK129.out⟩, ⟨by repeat (first | (with_reducible first | exact HB.out | apply below_alloc | apply pw_below_drewN | apply below_drew1 | refine below_set ?_ GE122.out | refine below_set ?_ GE129.out) | exact HB.out)⟩⟩
              ·rw [if_neg c37] at H
               exact absurd H (by simp)
             ·rw [if_neg c35] at H
              exact absurd H (by simp)
            ·rw [if_neg c34] at H
             exact absurd H (by simp)
           ·rw [if_neg c33] at H
            have c33b0 : decide (x57_2 < (((rd_T55 l0_2 x26_1).f3).length : Int)) = false := decide_eq_false c33
            clear c33
            have H' := Aside0.mk H
            clear H
            go_wp2
            go_roundg k2
            case measure => have := HK1.out; have := HK2.out; omega
            case rel => exact ⟨(x4_2), (wrap64 (x26_1 + 1)), zx7_6, zx7_6, H', ⟨by have := HK1.out; have := HK2.out; omega⟩, ⟨by (with_reducible repeat (first | refine blk_drewN ?_ _ | refine blk_drew ?_ | refine blk_alloc ?_ _)); exact BK122.out⟩, ⟨by repeat (first | (with_reducible first | exact HB.out | apply below_alloc | apply pw_below_drewN | apply below_drew1 | refine below_set ?_ GE122.out | refine below_set ?_ GE129.out) | exact HB.out)⟩⟩
        ·rw [if_neg c20] at H
         exact absurd H (by simp)
       ·rw [if_neg c19] at H
        exact absurd H (by simp)
      ·rw [if_neg c16] at H
       exact absurd H (by simp)
     ·rw [if_neg c15] at H
      exact absurd H (by simp)
    ·rw [if_neg c14] at H
     have c14b0 : decide (x26_1 < (l0_2.length : Int)) = false := decide_eq_false c14
     clear c14
     simp only [Option.some.injEq, Prod.mk.injEq] at H
     obtain ⟨rfl, rfl⟩ := H
     go_wp2
     go_ret2
     exact ⟨by first | rfl | (simp [errW_none, errW_some] <;> rfl) | (simp [*, errW_none, errW_some] <;> rfl), by repeat (first | (with_reducible first | exact HB.out | apply below_alloc | apply pw_below_drewN | apply below_drew1 | refine below_set ?_ GE122.out) | exact HB.out)⟩
 ·replace c3 := Bool.eq_false_iff.mpr c3
  subst c3
  have H1 : (some ((⟨#[]⟩ : ByteArray), 1)) = some (r1, r2) := by rw [if_neg (show ¬ (false = true) by decide)] at H; exact H
  clear H
  have H := H1
  clear H1
  simp only [Option.some.injEq, Prod.mk.injEq] at H
  obtain ⟨rfl, rfl⟩ := H
  go_enter Tryd.func11, Tryd.ntmps11
  go_wp2_with (first | ((with_reducible refine gate_dst (N := 1) rfl ?_); refine box_event ?hg (N := 1) ?hd (cs := #[.int .u64 a0_0, .int .u64 a0_1, .slice A0_2 l0_2.length c0_2]) (t := 25) ?hr ?_; (case hd => rfl); (case hg => rfl); (case hr => first | (go_simp; done) | (go_simp; rfl)); intro gb122 hg w42 hbox hb; have n0_ := Aside0.mk (below_step zx7_4 hb); have n1_ := Aside0.mk (hbox); have n2_ := Aside0.mk ((by rw [hg]; exact (below_size zx7_4) : w.heap.size ≤ gb122)); have n3_ := Aside0.mk ((by rw [hg]; exact (below_size zx7_4) : w.heap.size ≤ gb122)); clear HB; have HB := n0_; have BK122 := n1_; have GW122 := n2_; have GE122 := n3_; clear n0_ n1_ n2_ n3_; clear hb hbox hg; have hcz43_0 : w42.cell? ⟨gb122, 0, none⟩ = some (.int .u64 a0_0) := (blk_cell BK122.out 0).trans rfl; have hcz43_1 : w42.cell? ⟨gb122, 1, none⟩ = some (.int .u64 a0_1) := (blk_cell BK122.out 1).trans rfl; have hcz43_2 : w42.cell? ⟨gb122, 2, none⟩ = some (.slice A0_2 l0_2.length c0_2) := (blk_cell BK122.out 2).trans rfl; have hfz43_0 := blk_frozen BK122.out 0; have hfz43_1 := blk_frozen BK122.out 1; have hfz43_2 := blk_frozen BK122.out 2) | ((with_reducible refine gate_callee (f := 15) rfl ?_); refine goesL_ (some 11) rfl rfl Tryd.func15 (by kernel_rfl) rfl #[.agg #[.int .u64 a0_0, .int .u64 a0_1, .slice A0_2 l0_2.length c0_2]] rfl zx7_5 ?_; (with_reducible refine (ledger_Right.calls k a0_0 a0_1 _ _ l0_2 false _ ?side1 ?side2 A2.out).mono ?_); (case side1 => repeat (first | exact (Kd.C_below HR0_2.out HB.out) | (with_reducible refine Kd.C_alloc ?_ _) | (with_reducible refine Kd.C_drewN ?_ _) | (with_reducible refine Kd.C_drew ?_))); (case side2 => exact HC0_2.out); rintro e w44 ⟨rfl, hb⟩; refine ⟨_, rfl, ?_⟩; have n0_ := Aside0.mk (blk_below (g := gb122) (o := .cells #[.int .u64 a0_0, .int .u64 a0_1, .slice A0_2 l0_2.length c0_2] 25 (0, 0)) zx7_1 hb); have n1_ := Aside0.mk (below_step zx7_2 hb); clear BK122; clear HB; have BK122 := n0_; have HB := n1_; clear n0_ n1_; (try clear hb); (try clear hb2); (try clear hk); (try clear hi)))
  go_ret2
  exact ⟨by first | rfl | (simp [errW_none, errW_some] <;> rfl) | (simp [*, errW_none, errW_some] <;> rfl), by repeat (first | (with_reducible first | exact HB.out | apply below_alloc | apply pw_below_drewN | apply below_drew1 | refine below_set ?_ GE122.out) | exact HB.out)⟩

end Go.Proofs.YtmbigoeldobaiaaDoor.XMrk
end
