/- Texts of this seat, in one. Conditions: those that each theorem names. -/
import Derived.Test.YtmbigoeldobaiaaDoorXMrkP1
import Derived.Test.YtmbigoeldobaiaaDoorXMrkP3
import Derived.Test.YtmbigoeldobaiaaDoorXMrkP2
section
/- What the functions of the translation answer, each as a plain Lean function, and that the code comes to it; for a law: its row. Conditions: none but those that each theorem names. Written by a program of this session (wip/xp). -/
namespace Go.Proofs.YtmbigoeldobaiaaDoor.XMrk
open Go.RowKit Go.Proofs.YtmbigoeldobaiaaDoorW.PrintWords Go.Proofs.YtmbigoeldobaiaaDoorW.PrintLast Go.Proofs.YtmbigoeldobaiaaDoorW.PrintMore
attribute [local go_sem] max2_int min2_int max_two min_two max_three min_three max_four min_four   -- for this text's walks alone
theorem cx17_bc3 {w : World} {g : Nat} {t : TypeId} {x0 x1 x2 : Value} (h : w.heap[g]? = some (.cells #[x0, x1, x2] t (0, 0))) : w.cell? ⟨g, 0, none⟩ = some x0 ∧ w.cell? ⟨g, 1, none⟩ = some x1 ∧ w.cell? ⟨g, 2, none⟩ = some x2 ∧ w.frozen? ⟨g, 0, none⟩ = false ∧ w.frozen? ⟨g, 1, none⟩ = false ∧ w.frozen? ⟨g, 2, none⟩ = false :=
 ⟨(blk_cell h 0).trans rfl, (blk_cell h 1).trans rfl, (blk_cell h 2).trans rfl, blk_frozen h 0, blk_frozen h 1, blk_frozen h 2⟩
theorem cx17_bc7 {w : World} {g : Nat} {t : TypeId} {x0 x1 x2 x3 x4 x5 x6 : Value} (h : w.heap[g]? = some (.cells #[x0, x1, x2, x3, x4, x5, x6] t (0, 0))) : w.cell? ⟨g, 0, none⟩ = some x0 ∧ w.cell? ⟨g, 1, none⟩ = some x1 ∧ w.cell? ⟨g, 2, none⟩ = some x2 ∧ w.cell? ⟨g, 3, none⟩ = some x3 ∧ w.cell? ⟨g, 4, none⟩ = some x4 ∧ w.cell? ⟨g, 5, none⟩ = some x5 ∧ w.cell? ⟨g, 6, none⟩ = some x6 ∧ w.frozen? ⟨g, 0, none⟩ = false ∧ w.frozen? ⟨g, 1, none⟩ = false ∧ w.frozen? ⟨g, 2, none⟩ = false ∧ w.frozen? ⟨g, 3, none⟩ = false ∧ w.frozen? ⟨g, 4, none⟩ = false ∧ w.frozen? ⟨g, 5, none⟩ = false ∧ w.frozen? ⟨g, 6, none⟩ = false :=
 ⟨(blk_cell h 0).trans rfl, (blk_cell h 1).trans rfl, (blk_cell h 2).trans rfl, (blk_cell h 3).trans rfl, (blk_cell h 4).trans rfl, (blk_cell h 5).trans rfl, (blk_cell h 6).trans rfl, blk_frozen h 0, blk_frozen h 1, blk_frozen h 2, blk_frozen h 3, blk_frozen h 4, blk_frozen h 5, blk_frozen h 6⟩
theorem zx17_6 {p : Prop} (h : p := by first | rfl | (simp; done) | (simp [*]; done)) : p := h
theorem zx17_7 {p : Prop} (h : p := by first | (with_reducible assumption) | assumption) : p := h
theorem zx17_0 {p : Prop} (h : p := by (with_reducible repeat (first | refine blk_drewN ?_ _ | refine blk_drew ?_ | refine blk_alloc ?_ _)); exact BK247.out) : p := h
theorem zx17_4 {p : Prop} (h : p := by (with_reducible repeat (first | refine blk_drewN ?_ _ | refine blk_drew ?_ | refine blk_alloc ?_ _)); exact BK253.out) : p := h
theorem zx17_5 {p : Prop} (h : p := by repeat (first | (with_reducible first | exact HB.out | apply below_alloc | apply pw_below_drewN | apply below_drew1) | exact HB.out)) : p := h
theorem zx17_1 {p : Prop} (h : p := by (try simp only [List.map_toArray, List.map_cons, List.map_nil]); first | done | rfl | (simp only [List.length_drop, List.length_take]; rfl)) : p := h
theorem zx17_3 {p : Prop} (h : p := by repeat (first | (with_reducible first | exact HB.out | apply below_alloc | apply pw_below_drewN | apply below_drew1 | refine below_set ?_ GE247.out) | exact HB.out)) : p := h
theorem zx17_2 {p : Prop} (h : p := by repeat (first | (with_reducible first | exact HB.out | apply below_alloc | apply pw_below_drewN | apply below_drew1 | refine below_set ?_ GE247.out | refine below_set ?_ GE253.out) | exact HB.out)) : p := h
set_option linter.unusedVariables false
set_option linter.unusedSimpArgs false

/-! ### postroomref11_Put: function 12 -/
mutual
def postroomref11_Put.l0 : Nat → ByteArray → Int → Int → Int → List (S57) → Option (ByteArray × Int)
 | 0, _, _, _, _, _ => none
 | k + 1, x5, x6, x248000, x248001, x248002 => if x6 < (x248002.length : Int) then (if 0 ≤ x6 then ((postroomref1_PutText.f k ((rd_T57 x248002 x6).f0)).bind fun t254 => (if x5.size + t254.size ≤ 9223372036854775807 then ((postroomref1_Put.f k ((rd_T57 x248002 x6).f1)).bind fun t255 => (if (x5 ++ t254).size + t255.size ≤ 9223372036854775807 then ((postroomref1_Put.f k ((rd_T57 x248002 x6).f2)).bind fun t256 => (if ((x5 ++ t254) ++ t255).size + t256.size ≤ 9223372036854775807 then ((postroomref1_Put.f k ((rd_T57 x248002 x6).f4)).bind fun t257 => (if (((x5 ++ t254) ++ t255) ++ t256).size + t257.size ≤ 9223372036854775807 then ((postroomref1_Put.f k ((rd_T57 x248002 x6).f5)).bind fun t258 => (if ((((x5 ++ t254) ++ t255) ++ t256) ++ t257).size + t258.size ≤ 9223372036854775807 then ((postroomref1_Put.f k ((rd_T57 x248002 x6).f6)).bind fun t259 => (if (((((x5 ++ t254) ++ t255) ++ t256) ++ t257) ++ t258).size + t259.size ≤ 9223372036854775807 then ((postroomref1_Put.f k (IntKind.u64.wrap ((((rd_T57 x248002 x6).f3).length : Int)))).bind fun t260 => (if ((((((x5 ++ t254) ++ t255) ++ t256) ++ t257) ++ t258) ++ t259).size + t260.size ≤ 9223372036854775807 then (postroomref11_Put.l1 k (((((((x5 ++ t254) ++ t255) ++ t256) ++ t257) ++ t258) ++ t259) ++ t260) x6 ((rd_T57 x248002 x6).f2) 0 x248000 x248001 x248002 ((rd_T57 x248002 x6).f0) ((rd_T57 x248002 x6).f1) ((rd_T57 x248002 x6).f2) ((rd_T57 x248002 x6).f3) ((rd_T57 x248002 x6).f4) ((rd_T57 x248002 x6).f5) ((rd_T57 x248002 x6).f6)) else (none))) else (none))) else (none))) else (none))) else (none))) else (none))) else (none))) else (none)) else (some (x5, 0))
def postroomref11_Put.l1 : Nat → ByteArray → Int → Int → Int → Int → Int → List (S57) → ByteArray → Int → Int → List Int → Int → Int → Int → Option (ByteArray × Int)
 | 0, _, _, _, _, _, _, _, _, _, _, _, _, _, _ => none
 | k + 1, x5, x6, x8, x9, x248000, x248001, x248002, x254000, x254001, x254002, x254003, x254004, x254005, x254006 => if x9 < (x254003.length : Int) then (if 0 ≤ x9 then ((postroomref1_Put.f k (IntKind.u64.wrap ((rd x254003 x9) - x8))).bind fun t262 => (if x5.size + t262.size ≤ 9223372036854775807 then (postroomref11_Put.l1 k (x5 ++ t262) x6 (rd x254003 x9) (wrap64 (x9 + 1)) x248000 x248001 x248002 x254000 x254001 x254002 x254003 x254004 x254005 x254006) else (none))) else (none)) else (postroomref11_Put.l0 k x5 (wrap64 (x6 + 1)) x248000 x248001 x248002)
end
def postroomref11_Put.f (k : Nat) (a0_0 : Int) (a0_1 : Int) (l0_2 : List (S57)) : Option (ByteArray × Int) := (postroomref11_Right.f k a0_0 a0_1 l0_2).bind fun t248 => (if t248 = true then ((postroomref1_Put.f k a0_0).bind fun t249 => ((postroomref1_Put.f k a0_1).bind fun t250 => (if t249.size + t250.size ≤ 9223372036854775807 then ((postroomref1_Put.f k (IntKind.u64.wrap ((l0_2.length : Int)))).bind fun t251 => (if (t249 ++ t250).size + t251.size ≤ 9223372036854775807 then (postroomref11_Put.l0 k ((t249 ++ t250) ++ t251) 0 a0_0 a0_1 l0_2) else (none))) else (none)))) else (some ((⟨#[]⟩ : ByteArray), 1)))
theorem postroomref11_Put.mono_l : ∀ k, (∀ y0 y1 y2 y3 y4, LeO (postroomref11_Put.l0 k y0 y1 y2 y3 y4) (postroomref11_Put.l0 (k + 1) y0 y1 y2 y3 y4)) ∧ (∀ y0 y1 y2 y3 y4 y5 y6 y7 y8 y9 y10 y11 y12 y13, LeO (postroomref11_Put.l1 k y0 y1 y2 y3 y4 y5 y6 y7 y8 y9 y10 y11 y12 y13) (postroomref11_Put.l1 (k + 1) y0 y1 y2 y3 y4 y5 y6 y7 y8 y9 y10 y11 y12 y13))
 | 0 => ⟨fun _ _ _ _ _ r h => by simp [postroomref11_Put.l0] at h, fun _ _ _ _ _ _ _ _ _ _ _ _ _ _ r h => by simp [postroomref11_Put.l1] at h⟩
 | k + 1 => by
  obtain ⟨ih0, ih1⟩ := postroomref11_Put.mono_l k
  refine ⟨?_, ?_⟩
  ·intro y0 y1 y2 y3 y4
   unfold postroomref11_Put.l0
   repeat' first
   | (with_reducible exact ih0 _ _ _ _ _)
   | (with_reducible exact ih1 _ _ _ _ _ _ _ _ _ _ _ _ _ _)
   | (with_reducible exact postroomref11_Right.mono _ _ _ _)
   | (with_reducible exact postroomref1_Put.mono _ _)
   | (with_reducible exact postroomref1_PutText.mono _ _)
   | (with_reducible exact LeO.refl _)
   | (with_reducible exact LeO.none _)
   | (with_reducible refine LeO.ite ?_ ?_)
   | (with_reducible refine LeO.bind ?_ (fun _ => ?_))
   | exact ih0 _ _ _ _ _
   | exact ih1 _ _ _ _ _ _ _ _ _ _ _ _ _ _
   | exact postroomref11_Right.mono _ _ _ _
   | exact postroomref1_Put.mono _ _
   | exact postroomref1_PutText.mono _ _
   | exact LeO.none _
   | refine LeO.ite ?_ ?_
   | refine LeO.bind ?_ (fun _ => ?_)
  ·intro y0 y1 y2 y3 y4 y5 y6 y7 y8 y9 y10 y11 y12 y13
   unfold postroomref11_Put.l1
   repeat' first
   | (with_reducible exact ih0 _ _ _ _ _)
   | (with_reducible exact ih1 _ _ _ _ _ _ _ _ _ _ _ _ _ _)
   | (with_reducible exact postroomref11_Right.mono _ _ _ _)
   | (with_reducible exact postroomref1_Put.mono _ _)
   | (with_reducible exact postroomref1_PutText.mono _ _)
   | (with_reducible exact LeO.refl _)
   | (with_reducible exact LeO.none _)
   | (with_reducible refine LeO.ite ?_ ?_)
   | (with_reducible refine LeO.bind ?_ (fun _ => ?_))
   | exact ih0 _ _ _ _ _
   | exact ih1 _ _ _ _ _ _ _ _ _ _ _ _ _ _
   | exact postroomref11_Right.mono _ _ _ _
   | exact postroomref1_Put.mono _ _
   | exact postroomref1_PutText.mono _ _
   | exact LeO.none _
   | refine LeO.ite ?_ ?_
   | refine LeO.bind ?_ (fun _ => ?_)
theorem postroomref11_Put.mono : ∀ a0 a1 a2 k, LeO (postroomref11_Put.f k a0 a1 a2) (postroomref11_Put.f (k + 1) a0 a1 a2) := by
 intro a0 a1 a2 k
 obtain ⟨ih0, ih1⟩ := postroomref11_Put.mono_l k
 unfold postroomref11_Put.f
 repeat' first
   | (with_reducible exact ih0 _ _ _ _ _)
   | (with_reducible exact ih1 _ _ _ _ _ _ _ _ _ _ _ _ _ _)
   | (with_reducible exact postroomref11_Right.mono _ _ _ _)
   | (with_reducible exact postroomref1_Put.mono _ _)
   | (with_reducible exact postroomref1_PutText.mono _ _)
   | (with_reducible exact LeO.refl _)
   | (with_reducible exact LeO.none _)
   | (with_reducible refine LeO.ite ?_ ?_)
   | (with_reducible refine LeO.bind ?_ (fun _ => ?_))
   | exact ih0 _ _ _ _ _
   | exact ih1 _ _ _ _ _ _ _ _ _ _ _ _ _ _
   | exact postroomref11_Right.mono _ _ _ _
   | exact postroomref1_Put.mono _ _
   | exact postroomref1_PutText.mono _ _
   | exact LeO.none _
   | refine LeO.ite ?_ ?_
   | refine LeO.bind ?_ (fun _ => ?_)
def postroomref11_Put.T4 : Bool × List (List Nat × List Nat) := (true, [([], []), ([0], [0]), ([1], [1]), ([], []), ([3], [3]), ([4, 2], [4]), ([2, 5], [2, 5]), ([], []), ([7], [7]), ([8], [8]), ([9], [9]), ([10, 5], [10]), ([6, 11], [6, 11]), ([12, 11, 0, 1, 2, 3, 4, 5, 6, 7, 8, 9, 10, 11, 12], [12])])
def postroomref11_Put.B4 : List Nat := [0, 1, 3, 0, 8, 31, 63, 0, 128, 384, 896, 1983, 4095, 8191]
theorem postroomref11_Put.tab4 : rtab .any (opsOf Tryd.f12 4) = postroomref11_Put.T4 := by kernel_rfl
theorem postroomref11_Put.bits4 : waitsOk postroomref11_Put.T4.2 postroomref11_Put.B4 = true := by kernel_rfl
def postroomref11_Put.T9 : Bool × List (List Nat × List Nat) := (true, [([], []), ([], []), ([1], [1]), ([2], [2]), ([0, 3], [0, 3]), ([], []), ([5], [5]), ([6, 3], [6]), ([4, 7], [4, 7]), ([], []), ([9], [9]), ([10, 7], [10]), ([8, 11], [8, 11]), ([], []), ([13], [13]), ([14, 11], [14]), ([12, 15], [12, 15]), ([], []), ([17], [17]), ([18, 15], [18]), ([16, 19], [16, 19]), ([], []), ([21], [21]), ([22, 19], [22]), ([20, 23], [20, 23]), ([], []), ([25], [25]), ([26], [26]), ([27], [27]), ([28, 23], [28]), ([24, 29], [24, 29]), ([30, 29, 0, 1, 2, 3, 4, 5, 6, 7, 8, 9, 10, 11, 12, 13, 14, 15, 16, 17, 18, 19, 20, 21, 22, 23, 24, 25, 26, 27, 28, 29, 30], [0, 30])])
def postroomref11_Put.B9 : List Nat := [0, 0, 2, 6, 15, 0, 32, 110, 255, 0, 512, 1774, 4095, 0, 8192, 28398, 65535, 0, 131072, 454382, 1048575, 0, 2097152, 7270126, 16777215, 0, 33554432, 100663296, 234881024, 518975214, 1073741823, 2147483647]
theorem postroomref11_Put.tab9 : rtab .any (opsOf Tryd.f12 9) = postroomref11_Put.T9 := by kernel_rfl
theorem postroomref11_Put.bits9 : waitsOk postroomref11_Put.T9.2 postroomref11_Put.B9 = true := by kernel_rfl
set_option maxHeartbeats 8000000 in
set_option maxRecDepth 100000 in
theorem postroomref11_Put.calls (k : Nat) (a0_0 : Int) (a0_1 : Int) (A0_2 : Option Addr) (c0_2 : Nat) (l0_2 : List (S57)) (r1 : ByteArray) (r2 : Int) (w : World) (hr0_2 : Kd.C k57 w A0_2 l0_2.length l0_2) (hc0_2 : l0_2.length ≤ c0_2) (h : postroomref11_Put.f k a0_0 a0_1 l0_2 = some (r1, r2)) :
  Calls Tryd.prog 12 #[.agg #[.int .u64 a0_0, .int .u64 a0_1, .slice A0_2 l0_2.length c0_2]] w fun e w' => e = .returned (.tuple #[.string r1, .int .i64 r2]) ∧ Below w.heap.size w w' := by
 have hu30 := Tryd.underlying30
 have hu57 := Tryd.underlying57
 have HR0_2 := Aside0.mk hr0_2
 have HC0_2 := Aside0.mk hc0_2
 clear hr0_2 hc0_2
 have HB := Aside0.mk (Below.refl w.heap.size w)
 have H : ((postroomref11_Right.f k a0_0 a0_1 l0_2).bind fun t248 => (if t248 = true then ((postroomref1_Put.f k a0_0).bind fun t249 => ((postroomref1_Put.f k a0_1).bind fun t250 => (if t249.size + t250.size ≤ 9223372036854775807 then ((postroomref1_Put.f k (IntKind.u64.wrap ((l0_2.length : Int)))).bind fun t251 => (if (t249 ++ t250).size + t251.size ≤ 9223372036854775807 then (postroomref11_Put.l0 k ((t249 ++ t250) ++ t251) 0 a0_0 a0_1 l0_2) else (none))) else (none)))) else (some ((⟨#[]⟩ : ByteArray), 1)))) = some (r1, r2) := h
 clear h
 replace H := Option.bind_eq_some_iff.mp H
 obtain ⟨t248, A20, H⟩ := H
 replace H : (if t248 = true then ((postroomref1_Put.f k a0_0).bind fun t249 => ((postroomref1_Put.f k a0_1).bind fun t250 => (if t249.size + t250.size ≤ 9223372036854775807 then ((postroomref1_Put.f k (IntKind.u64.wrap ((l0_2.length : Int)))).bind fun t251 => (if (t249 ++ t250).size + t251.size ≤ 9223372036854775807 then (postroomref11_Put.l0 k ((t249 ++ t250) ++ t251) 0 a0_0 a0_1 l0_2) else (none))) else (none)))) else (some ((⟨#[]⟩ : ByteArray), 1))) = some (r1, r2) := H
 have A2 := Aside0.mk A20
 clear A20
 by_cases c3 : t248 = true
 ·subst c3
  have H1 : ((postroomref1_Put.f k a0_0).bind fun t249 => ((postroomref1_Put.f k a0_1).bind fun t250 => (if t249.size + t250.size ≤ 9223372036854775807 then ((postroomref1_Put.f k (IntKind.u64.wrap ((l0_2.length : Int)))).bind fun t251 => (if (t249 ++ t250).size + t251.size ≤ 9223372036854775807 then (postroomref11_Put.l0 k ((t249 ++ t250) ++ t251) 0 a0_0 a0_1 l0_2) else (none))) else (none)))) = some (r1, r2) := by rw [if_pos rfl] at H; exact H
  clear H
  have H := H1
  clear H1
  replace H := Option.bind_eq_some_iff.mp H
  obtain ⟨t249, A40, H⟩ := H
  replace H : ((postroomref1_Put.f k a0_1).bind fun t250 => (if t249.size + t250.size ≤ 9223372036854775807 then ((postroomref1_Put.f k (IntKind.u64.wrap ((l0_2.length : Int)))).bind fun t251 => (if (t249 ++ t250).size + t251.size ≤ 9223372036854775807 then (postroomref11_Put.l0 k ((t249 ++ t250) ++ t251) 0 a0_0 a0_1 l0_2) else (none))) else (none))) = some (r1, r2) := H
  have A4 := Aside0.mk A40
  clear A40
  replace H := Option.bind_eq_some_iff.mp H
  obtain ⟨t250, A50, H⟩ := H
  replace H : (if t249.size + t250.size ≤ 9223372036854775807 then ((postroomref1_Put.f k (IntKind.u64.wrap ((l0_2.length : Int)))).bind fun t251 => (if (t249 ++ t250).size + t251.size ≤ 9223372036854775807 then (postroomref11_Put.l0 k ((t249 ++ t250) ++ t251) 0 a0_0 a0_1 l0_2) else (none))) else (none)) = some (r1, r2) := H
  have A5 := Aside0.mk A50
  clear A50
  by_cases c6 : t249.size + t250.size ≤ 9223372036854775807
  ·rw [if_pos c6] at H
   have c6b0 := eq_true c6
   have c6b1 : decide (t249.size + t250.size ≤ 9223372036854775807) = true := decide_eq_true c6
   try have c6b2 : (9223372036854775807 < t249.size + t250.size) = False := eq_false (Nat.not_lt.2 c6)
   clear c6
   replace H := Option.bind_eq_some_iff.mp H
   obtain ⟨t251, A70, H⟩ := H
   replace H : (if (t249 ++ t250).size + t251.size ≤ 9223372036854775807 then (postroomref11_Put.l0 k ((t249 ++ t250) ++ t251) 0 a0_0 a0_1 l0_2) else (none)) = some (r1, r2) := H
   have A7 := Aside0.mk A70
   clear A70
   by_cases c8 : (t249 ++ t250).size + t251.size ≤ 9223372036854775807
   ·rw [if_pos c8] at H
    have c8b0 := eq_true c8
    have c8b1 : decide ((t249 ++ t250).size + t251.size ≤ 9223372036854775807) = true := decide_eq_true c8
    try have c8b2 : (9223372036854775807 < (t249 ++ t250).size + t251.size) = False := eq_false (Nat.not_lt.2 c8)
    try (have c8b4 := c8b2; simp only [ByteArray.size_append] at c8b4)
    clear c8
    have H' := Aside0.mk H
    clear H
    go_enter Tryd.func12, Tryd.ntmps12
    try go_wp2_with (first | ((with_reducible refine gate_dst (N := 1) rfl ?_); refine box_event ?hg (N := 1) ?hd (cs := #[.int .u64 a0_0, .int .u64 a0_1, .slice A0_2 l0_2.length c0_2]) (t := 30) ?hr ?_; (case hd => rfl); (case hg => rfl); (case hr => first | (go_simp; done) | (go_simp; rfl)); intro gb247 hg w9 hbox hb; have n0_ := Aside0.mk (below_step zx17_5 hb); have n1_ := Aside0.mk (hbox); have n2_ := Aside0.mk ((by rw [hg]; exact (below_size zx17_5) : w.heap.size ≤ gb247)); have n3_ := Aside0.mk ((by rw [hg]; exact (below_size zx17_5) : w.heap.size ≤ gb247)); clear HB; have HB := n0_; have BK247 := n1_; have GW247 := n2_; have GE247 := n3_; clear n0_ n1_ n2_ n3_; clear hb hbox hg; have hcz10_0 : w9.cell? ⟨gb247, 0, none⟩ = some (.int .u64 a0_0) := (blk_cell BK247.out 0).trans rfl; have hcz10_1 : w9.cell? ⟨gb247, 1, none⟩ = some (.int .u64 a0_1) := (blk_cell BK247.out 1).trans rfl; have hcz10_2 : w9.cell? ⟨gb247, 2, none⟩ = some (.slice A0_2 l0_2.length c0_2) := (blk_cell BK247.out 2).trans rfl; have hfz10_0 := blk_frozen BK247.out 0; have hfz10_1 := blk_frozen BK247.out 1; have hfz10_2 := blk_frozen BK247.out 2) | ((with_reducible refine gate_callee (f := 16) rfl ?_); refine goesL_ (some 11) rfl rfl Tryd.func16 (by kernel_rfl) rfl #[.agg #[.int .u64 a0_0, .int .u64 a0_1, .slice A0_2 l0_2.length c0_2]] rfl zx17_1 ?_; (with_reducible refine (postroomref11_Right.calls k a0_0 a0_1 _ _ l0_2 true _ ?side1 ?side2 A2.out).mono ?_); (case side1 => repeat (first | exact (Kd.C_below HR0_2.out HB.out) | (with_reducible refine Kd.C_alloc ?_ _) | (with_reducible refine Kd.C_drewN ?_ _) | (with_reducible refine Kd.C_drew ?_))); (case side2 => exact HC0_2.out); rintro e w11 ⟨rfl, hb⟩; refine ⟨_, rfl, ?_⟩; have n0_ := Aside0.mk (blk_below (g := gb247) (o := .cells #[.int .u64 a0_0, .int .u64 a0_1, .slice A0_2 l0_2.length c0_2] 30 (0, 0)) zx17_0 hb); have n1_ := Aside0.mk (below_step zx17_3 hb); clear BK247; clear HB; have BK247 := n0_; have HB := n1_; clear n0_ n1_; (try clear hb); (try clear hb2); (try clear hk); (try clear hi)))
    have n0_ := Aside0.mk (blk_drew BK247.out)
    have n1_ := Aside0.mk (below_drew1 HB.out)
    clear BK247
    clear HB
    have BK247 := n0_
    have HB := n1_
    clear n0_ n1_
    refine start_ (n := 14) (S := fun w' => w'.cell? ⟨gb247, 0, none⟩ = some (.int .u64 a0_0) ∧ w'.cell? ⟨gb247, 1, none⟩ = some (.int .u64 a0_1) ∧ w'.cell? ⟨gb247, 2, none⟩ = some (.slice A0_2 l0_2.length c0_2)) (ds := []) #[false, false, false, false, false, false, false, false, false, false, false, false, false, false] (by kernel_rfl) rfl rfl ⟨(blk_cell BK247.out 0).trans rfl, (blk_cell BK247.out 1).trans rfl, (blk_cell BK247.out 2).trans rfl⟩ (fun hHeld => ?_); refine with_tabW postroomref11_Put.tab4 postroomref11_Put.bits4 (fun HT_ HW_ => ?_)
    generalize w11.drew = w12 at BK247 HB hHeld ⊢
    refine pure_ (i := 0) (N := some 14) (v := ?_) (a' := ?_) #[true, false, false, false, false, false, false, false, false, false, false, false, false, false] rfl rfl (any_of HT_.out (by kernel_rfl)) (fun _ _ _ h => h) (Or.inl ⟨by rfl, ?_⟩) ?_ ?_
    rotate_left
    ·intro w'
     go_simp
     with_reducible rfl
    rotate_left
    ·simp only [Act.put, List.setIfInBounds_toArray, List.set_cons_zero, List.set_cons_succ, i64_w, i32_w]
     rfl
    refine pure_ (i := 3) (N := some 17) (v := ?_) (a' := ?_) #[true, false, false, true, false, false, false, false, false, false, false, false, false, false] rfl rfl (any_of HT_.out (by kernel_rfl)) (fun _ _ _ h => h) (Or.inl ⟨by rfl, ?_⟩) ?_ ?_
    rotate_left
    ·intro w'
     go_simp
     with_reducible rfl
    rotate_left
    ·simp only [Act.put, List.setIfInBounds_toArray, List.set_cons_zero, List.set_cons_succ, i64_w, i32_w]
     rfl
    refine pure_ (i := 7) (N := some 21) (v := ?_) (a' := ?_) #[true, false, false, true, false, false, false, true, false, false, false, false, false, false] rfl rfl (any_of HT_.out (by kernel_rfl)) (fun _ _ _ h => h) (Or.inl ⟨by rfl, ?_⟩) ?_ ?_
    rotate_left
    ·intro w'
     go_simp
     with_reducible rfl
    rotate_left
    ·simp only [Act.put, List.setIfInBounds_toArray, List.set_cons_zero, List.set_cons_succ, i64_w, i32_w]
     rfl
    refine take_ (i := 1) (N := some 15) (v := ?_) (a' := ?_) #[true, true, false, true, false, false, false, true, false, false, false, false, false, false] rfl rfl (take_ofW HT_.out HW_.out (by kernel_rfl)) (fun _ _ _ h => h) (Or.inl ⟨by rfl, ?_⟩) hHeld ?_ ?_
    rotate_left
    ·rintro w' ⟨s0, s1, s2⟩
     go_simp
     with_reducible rfl
    rotate_left
    ·simp only [Act.put, List.setIfInBounds_toArray, List.set_cons_zero, List.set_cons_succ, i64_w, i32_w]
     rfl
    refine take_ (i := 4) (N := some 18) (v := ?_) (a' := ?_) #[true, true, false, true, true, false, false, true, false, false, false, false, false, false] rfl rfl (take_ofW HT_.out HW_.out (by kernel_rfl)) (fun _ _ _ h => h) (Or.inl ⟨by rfl, ?_⟩) hHeld ?_ ?_
    rotate_left
    ·rintro w' ⟨s0, s1, s2⟩
     go_simp
     with_reducible rfl
    rotate_left
    ·simp only [Act.put, List.setIfInBounds_toArray, List.set_cons_zero, List.set_cons_succ, i64_w, i32_w]
     rfl
    refine take_ (i := 8) (N := some 22) (v := ?_) (a' := ?_) #[true, true, false, true, true, false, false, true, true, false, false, false, false, false] rfl rfl (take_ofW HT_.out HW_.out (by kernel_rfl)) (fun _ _ _ h => h) (Or.inl ⟨by rfl, ?_⟩) hHeld ?_ ?_
    rotate_left
    ·rintro w' ⟨s0, s1, s2⟩
     go_simp
     with_reducible rfl
    rotate_left
    ·simp only [Act.put, List.setIfInBounds_toArray, List.set_cons_zero, List.set_cons_succ, i64_w, i32_w]
     rfl
    refine pure_ (i := 9) (N := some 23) (v := ?_) (a' := ?_) #[true, true, false, true, true, false, false, true, true, true, false, false, false, false] rfl rfl (any_of HT_.out (by kernel_rfl)) (fun _ _ _ h => h) (Or.inl ⟨by rfl, ?_⟩) ?_ ?_
    rotate_left
    ·intro w'
     go_simp
     with_reducible rfl
    rotate_left
    ·simp only [Act.put, List.setIfInBounds_toArray, List.set_cons_zero, List.set_cons_succ, i64_w, i32_w]
     rfl
    refine pure_ (i := 10) (N := some 24) (v := ?_) (a' := ?_) #[true, true, false, true, true, false, false, true, true, true, true, false, false, false] rfl rfl (any_of HT_.out (by kernel_rfl)) (fun _ _ _ h => h) (Or.inl ⟨by rfl, ?_⟩) ?_ ?_
    rotate_left
    ·intro w'
     go_simp
     with_reducible rfl
    rotate_left
    ·simp only [Act.put, List.setIfInBounds_toArray, List.set_cons_zero, List.set_cons_succ, i64_w, i32_w]
     rfl
    refine one_ (i := 2) (N := some 16) #[true, true, true, true, true, false, false, true, true, true, true, false, false, false] rfl rfl (one_of HT_.out (by kernel_rfl)) (by decide) (fun K hK => ?_)
    refine goes_ Tryd.func25 (by kernel_rfl) rfl #[.int .u64 a0_0] (by rfl) rfl rfl zx17_1 ?_
    with_reducible refine (postroomref1_Put.calls k a0_0 t249 _ A4.out).mono ?_
    rintro e w13 ⟨rfl, hb⟩
    refine ⟨_, rfl, ?_⟩
    have n0_ := Aside0.mk (blk_below (g := gb247) (o := .cells #[.int .u64 a0_0, .int .u64 a0_1, .slice A0_2 l0_2.length c0_2] 30 (0, 0)) zx17_0 hb)
    have n1_ := Aside0.mk (below_step zx17_3 hb)
    clear BK247
    clear HB
    have BK247 := n0_
    have HB := n1_
    clear n0_ n1_
    (try clear hb)
    (try clear hb2)
    (try clear hk)
    (try clear hi)
    refine hK.out _ _ ⟨(blk_cell BK247.out 0).trans rfl, (blk_cell BK247.out 1).trans rfl, (blk_cell BK247.out 2).trans rfl⟩ (fun hHeld => ?_)
    clear hK K
    refine norm_ (a' := ?_) ?_ ?_
    rotate_left
    ·show Act.put _ (some 16) _ = _
     simp only [Act.put, List.setIfInBounds_toArray, List.set_cons_zero, List.set_cons_succ, i64_w, i32_w]
     rfl
    refine one_ (i := 5) (N := some 19) #[true, true, true, true, true, true, false, true, true, true, true, false, false, false] rfl rfl (one_of HT_.out (by kernel_rfl)) (by decide) (fun K hK => ?_)
    refine goes_ Tryd.func25 (by kernel_rfl) rfl #[.int .u64 a0_1] (by rfl) rfl rfl zx17_1 ?_
    with_reducible refine (postroomref1_Put.calls k a0_1 t250 _ A5.out).mono ?_
    rintro e w14 ⟨rfl, hb⟩
    refine ⟨_, rfl, ?_⟩
    have n0_ := Aside0.mk (blk_below (g := gb247) (o := .cells #[.int .u64 a0_0, .int .u64 a0_1, .slice A0_2 l0_2.length c0_2] 30 (0, 0)) zx17_0 hb)
    have n1_ := Aside0.mk (below_step zx17_3 hb)
    clear BK247
    clear HB
    have BK247 := n0_
    have HB := n1_
    clear n0_ n1_
    (try clear hb)
    (try clear hb2)
    (try clear hk)
    (try clear hi)
    refine hK.out _ _ ⟨(blk_cell BK247.out 0).trans rfl, (blk_cell BK247.out 1).trans rfl, (blk_cell BK247.out 2).trans rfl⟩ (fun hHeld => ?_)
    clear hK K
    refine norm_ (a' := ?_) ?_ ?_
    rotate_left
    ·show Act.put _ (some 19) _ = _
     simp only [Act.put, List.setIfInBounds_toArray, List.set_cons_zero, List.set_cons_succ, i64_w, i32_w]
     rfl
    refine pure_ (i := 6) (N := some 20) (v := ?_) (a' := ?_) #[true, true, true, true, true, true, true, true, true, true, true, false, false, false] rfl rfl (any_of HT_.out (by kernel_rfl)) (fun _ _ _ h => h) (Or.inl ⟨by rfl, ?_⟩) ?_ ?_
    rotate_left
    ·intro w'
     go_simp
     with_reducible rfl
    rotate_left
    ·simp only [Act.put, List.setIfInBounds_toArray, List.set_cons_zero, List.set_cons_succ, i64_w, i32_w]
     rfl
    refine one_ (i := 11) (N := some 25) #[true, true, true, true, true, true, true, true, true, true, true, true, false, false] rfl rfl (one_of HT_.out (by kernel_rfl)) (by decide) (fun K hK => ?_)
    refine goes_ Tryd.func25 (by kernel_rfl) rfl #[.int .u64 (IntKind.u64.wrap ((l0_2.length : Int)))] (by rfl) rfl rfl zx17_1 ?_
    with_reducible refine (postroomref1_Put.calls k (IntKind.u64.wrap ((l0_2.length : Int))) t251 _ A7.out).mono ?_
    rintro e w15 ⟨rfl, hb⟩
    refine ⟨_, rfl, ?_⟩
    have n0_ := Aside0.mk (blk_below (g := gb247) (o := .cells #[.int .u64 a0_0, .int .u64 a0_1, .slice A0_2 l0_2.length c0_2] 30 (0, 0)) zx17_0 hb)
    have n1_ := Aside0.mk (below_step zx17_3 hb)
    clear BK247
    clear HB
    have BK247 := n0_
    have HB := n1_
    clear n0_ n1_
    (try clear hb)
    (try clear hb2)
    (try clear hk)
    (try clear hi)
    refine hK.out _ _ ⟨(blk_cell BK247.out 0).trans rfl, (blk_cell BK247.out 1).trans rfl, (blk_cell BK247.out 2).trans rfl⟩ (fun hHeld => ?_)
    clear hK K
    refine norm_ (a' := ?_) ?_ ?_
    rotate_left
    ·show Act.put _ (some 25) _ = _
     simp only [Act.put, List.setIfInBounds_toArray, List.set_cons_zero, List.set_cons_succ, i64_w, i32_w]
     rfl
    refine pure_ (i := 12) (N := some 26) (v := ?_) (a' := ?_) #[true, true, true, true, true, true, true, true, true, true, true, true, true, false] rfl rfl (any_of HT_.out (by kernel_rfl)) (fun _ _ _ h => h) (Or.inl ⟨by rfl, ?_⟩) ?_ ?_
    rotate_left
    ·intro w'
     go_simp
     with_reducible rfl
    rotate_left
    ·simp only [Act.put, List.setIfInBounds_toArray, List.set_cons_zero, List.set_cons_succ, i64_w, i32_w]
     rfl
    refine pure_ (i := 13) (N := some 5) (v := ?_) (a' := ?_) #[true, true, true, true, true, true, true, true, true, true, true, true, true, true] rfl rfl (any_of HT_.out (by kernel_rfl)) (fun _ _ _ h => h) (Or.inl ⟨by rfl, ?_⟩) ?_ ?_
    rotate_left
    ·intro w'
     go_simp
     with_reducible rfl
    rotate_left
    ·simp only [Act.put, List.setIfInBounds_toArray, List.set_cons_zero, List.set_cons_succ, i64_w, i32_w]
     rfl
    refine done_ (done_of HT_.out (by kernel_rfl)) ?_
    try go_wp2
    go_loopg [5, 6] k (fun kq v5 v6 w' => ∃ (x5_1 : ByteArray) (x6_1 : Int), v5 = .string x5_1 ∧ v6 = .int .i64 x6_1 ∧ Aside0 (postroomref11_Put.l0 kq x5_1 x6_1 a0_0 a0_1 l0_2 = some (r1, r2)) ∧ Aside0 (kq ≤ k) ∧ Aside0 (w'.heap[gb247]? = some (.cells #[.int .u64 a0_0, .int .u64 a0_1, (.slice A0_2 l0_2.length c0_2)] 30 (0, 0))) ∧ Aside0 (Below w.heap.size w w'))
    case atStart => exact ⟨((t249 ++ t250) ++ t251), (0), zx17_6, zx17_6, H', ⟨Nat.le_refl _⟩, ⟨by (with_reducible repeat (first | refine blk_drewN ?_ _ | refine blk_drew ?_ | refine blk_alloc ?_ _)); exact BK247.out⟩, ⟨by repeat (first | (with_reducible first | exact HB.out | apply below_alloc | apply pw_below_drewN | apply below_drew1 | refine below_set ?_ GE247.out) | exact HB.out)⟩⟩
    case round =>
     clear H'
     (try clear c1); (try clear c2); (try clear p2); (try clear c3); (try clear c6); (try clear c6b0); (try clear c6b1); (try clear c6b2); (try clear c8); (try clear c8b0); (try clear c8b1); (try clear c8b2); (try clear c12); (try clear hcz10_0); (try clear hcz10_1); (try clear hcz10_2); (try clear hfz10_0); (try clear hfz10_1); (try clear hfz10_2)
     obtain ⟨x5_1, x6_1, rfl, rfl, HA, HK1, BK247, HB⟩ := hrel
     cases gk with
     | zero => exact absurd HA.out (by simp [postroomref11_Put.l0])
     | succ k1 =>
      have H := HA.out
      clear HA
      simp only [postroomref11_Put.l0] at H
      by_cases c16 : x6_1 < (l0_2.length : Int)
      ·rw [if_pos c16] at H
       have c16b0 : decide (x6_1 < (l0_2.length : Int)) = true := decide_eq_true c16
       clear c16
       by_cases c17 : 0 ≤ x6_1
       ·rw [if_pos c17] at H
        have c17b0 : decide (0 ≤ x6_1) = true := decide_eq_true c17
        clear c17
        replace H := Option.bind_eq_some_iff.mp H
        obtain ⟨t254, A180, H⟩ := H
        replace H : (if x5_1.size + t254.size ≤ 9223372036854775807 then ((postroomref1_Put.f k1 ((rd_T57 l0_2 x6_1).f1)).bind fun t255 => (if (x5_1 ++ t254).size + t255.size ≤ 9223372036854775807 then ((postroomref1_Put.f k1 ((rd_T57 l0_2 x6_1).f2)).bind fun t256 => (if ((x5_1 ++ t254) ++ t255).size + t256.size ≤ 9223372036854775807 then ((postroomref1_Put.f k1 ((rd_T57 l0_2 x6_1).f4)).bind fun t257 => (if (((x5_1 ++ t254) ++ t255) ++ t256).size + t257.size ≤ 9223372036854775807 then ((postroomref1_Put.f k1 ((rd_T57 l0_2 x6_1).f5)).bind fun t258 => (if ((((x5_1 ++ t254) ++ t255) ++ t256) ++ t257).size + t258.size ≤ 9223372036854775807 then ((postroomref1_Put.f k1 ((rd_T57 l0_2 x6_1).f6)).bind fun t259 => (if (((((x5_1 ++ t254) ++ t255) ++ t256) ++ t257) ++ t258).size + t259.size ≤ 9223372036854775807 then ((postroomref1_Put.f k1 (IntKind.u64.wrap ((((rd_T57 l0_2 x6_1).f3).length : Int)))).bind fun t260 => (if ((((((x5_1 ++ t254) ++ t255) ++ t256) ++ t257) ++ t258) ++ t259).size + t260.size ≤ 9223372036854775807 then (postroomref11_Put.l1 k1 (((((((x5_1 ++ t254) ++ t255) ++ t256) ++ t257) ++ t258) ++ t259) ++ t260) x6_1 ((rd_T57 l0_2 x6_1).f2) 0 a0_0 a0_1 l0_2 ((rd_T57 l0_2 x6_1).f0) ((rd_T57 l0_2 x6_1).f1) ((rd_T57 l0_2 x6_1).f2) ((rd_T57 l0_2 x6_1).f3) ((rd_T57 l0_2 x6_1).f4) ((rd_T57 l0_2 x6_1).f5) ((rd_T57 l0_2 x6_1).f6)) else (none))) else (none))) else (none))) else (none))) else (none))) else (none))) else (none)) = some (r1, r2) := H
        have A18 := Aside0.mk A180
        clear A180
        by_cases c19 : x5_1.size + t254.size ≤ 9223372036854775807
        ·rw [if_pos c19] at H
         have c19b0 := eq_true c19
         have c19b1 : decide (x5_1.size + t254.size ≤ 9223372036854775807) = true := decide_eq_true c19
         try have c19b2 : (9223372036854775807 < x5_1.size + t254.size) = False := eq_false (Nat.not_lt.2 c19)
         clear c19
         replace H := Option.bind_eq_some_iff.mp H
         obtain ⟨t255, A200, H⟩ := H
         replace H : (if (x5_1 ++ t254).size + t255.size ≤ 9223372036854775807 then ((postroomref1_Put.f k1 ((rd_T57 l0_2 x6_1).f2)).bind fun t256 => (if ((x5_1 ++ t254) ++ t255).size + t256.size ≤ 9223372036854775807 then ((postroomref1_Put.f k1 ((rd_T57 l0_2 x6_1).f4)).bind fun t257 => (if (((x5_1 ++ t254) ++ t255) ++ t256).size + t257.size ≤ 9223372036854775807 then ((postroomref1_Put.f k1 ((rd_T57 l0_2 x6_1).f5)).bind fun t258 => (if ((((x5_1 ++ t254) ++ t255) ++ t256) ++ t257).size + t258.size ≤ 9223372036854775807 then ((postroomref1_Put.f k1 ((rd_T57 l0_2 x6_1).f6)).bind fun t259 => (if (((((x5_1 ++ t254) ++ t255) ++ t256) ++ t257) ++ t258).size + t259.size ≤ 9223372036854775807 then ((postroomref1_Put.f k1 (IntKind.u64.wrap ((((rd_T57 l0_2 x6_1).f3).length : Int)))).bind fun t260 => (if ((((((x5_1 ++ t254) ++ t255) ++ t256) ++ t257) ++ t258) ++ t259).size + t260.size ≤ 9223372036854775807 then (postroomref11_Put.l1 k1 (((((((x5_1 ++ t254) ++ t255) ++ t256) ++ t257) ++ t258) ++ t259) ++ t260) x6_1 ((rd_T57 l0_2 x6_1).f2) 0 a0_0 a0_1 l0_2 ((rd_T57 l0_2 x6_1).f0) ((rd_T57 l0_2 x6_1).f1) ((rd_T57 l0_2 x6_1).f2) ((rd_T57 l0_2 x6_1).f3) ((rd_T57 l0_2 x6_1).f4) ((rd_T57 l0_2 x6_1).f5) ((rd_T57 l0_2 x6_1).f6)) else (none))) else (none))) else (none))) else (none))) else (none))) else (none)) = some (r1, r2) := H
         have A20 := Aside0.mk A200
         clear A200
         by_cases c21 : (x5_1 ++ t254).size + t255.size ≤ 9223372036854775807
         ·rw [if_pos c21] at H
          have c21b0 := eq_true c21
          have c21b1 : decide ((x5_1 ++ t254).size + t255.size ≤ 9223372036854775807) = true := decide_eq_true c21
          try have c21b2 : (9223372036854775807 < (x5_1 ++ t254).size + t255.size) = False := eq_false (Nat.not_lt.2 c21)
          try (have c21b4 := c21b2; simp only [ByteArray.size_append] at c21b4)
          clear c21
          replace H := Option.bind_eq_some_iff.mp H
          obtain ⟨t256, A220, H⟩ := H
          replace H : (if ((x5_1 ++ t254) ++ t255).size + t256.size ≤ 9223372036854775807 then ((postroomref1_Put.f k1 ((rd_T57 l0_2 x6_1).f4)).bind fun t257 => (if (((x5_1 ++ t254) ++ t255) ++ t256).size + t257.size ≤ 9223372036854775807 then ((postroomref1_Put.f k1 ((rd_T57 l0_2 x6_1).f5)).bind fun t258 => (if ((((x5_1 ++ t254) ++ t255) ++ t256) ++ t257).size + t258.size ≤ 9223372036854775807 then ((postroomref1_Put.f k1 ((rd_T57 l0_2 x6_1).f6)).bind fun t259 => (if (((((x5_1 ++ t254) ++ t255) ++ t256) ++ t257) ++ t258).size + t259.size ≤ 9223372036854775807 then ((postroomref1_Put.f k1 (IntKind.u64.wrap ((((rd_T57 l0_2 x6_1).f3).length : Int)))).bind fun t260 => (if ((((((x5_1 ++ t254) ++ t255) ++ t256) ++ t257) ++ t258) ++ t259).size + t260.size ≤ 9223372036854775807 then (postroomref11_Put.l1 k1 (((((((x5_1 ++ t254) ++ t255) ++ t256) ++ t257) ++ t258) ++ t259) ++ t260) x6_1 ((rd_T57 l0_2 x6_1).f2) 0 a0_0 a0_1 l0_2 ((rd_T57 l0_2 x6_1).f0) ((rd_T57 l0_2 x6_1).f1) ((rd_T57 l0_2 x6_1).f2) ((rd_T57 l0_2 x6_1).f3) ((rd_T57 l0_2 x6_1).f4) ((rd_T57 l0_2 x6_1).f5) ((rd_T57 l0_2 x6_1).f6)) else (none))) else (none))) else (none))) else (none))) else (none)) = some (r1, r2) := H
          have A22 := Aside0.mk A220
          clear A220
          by_cases c23 : ((x5_1 ++ t254) ++ t255).size + t256.size ≤ 9223372036854775807
          ·rw [if_pos c23] at H
           have c23b0 := eq_true c23
           have c23b1 : decide (((x5_1 ++ t254) ++ t255).size + t256.size ≤ 9223372036854775807) = true := decide_eq_true c23
           try have c23b2 : (9223372036854775807 < ((x5_1 ++ t254) ++ t255).size + t256.size) = False := eq_false (Nat.not_lt.2 c23)
           try (have c23b4 := c23b2; simp only [ByteArray.size_append] at c23b4)
           clear c23
           replace H := Option.bind_eq_some_iff.mp H
           obtain ⟨t257, A240, H⟩ := H
           replace H : (if (((x5_1 ++ t254) ++ t255) ++ t256).size + t257.size ≤ 9223372036854775807 then ((postroomref1_Put.f k1 ((rd_T57 l0_2 x6_1).f5)).bind fun t258 => (if ((((x5_1 ++ t254) ++ t255) ++ t256) ++ t257).size + t258.size ≤ 9223372036854775807 then ((postroomref1_Put.f k1 ((rd_T57 l0_2 x6_1).f6)).bind fun t259 => (if (((((x5_1 ++ t254) ++ t255) ++ t256) ++ t257) ++ t258).size + t259.size ≤ 9223372036854775807 then ((postroomref1_Put.f k1 (IntKind.u64.wrap ((((rd_T57 l0_2 x6_1).f3).length : Int)))).bind fun t260 => (if ((((((x5_1 ++ t254) ++ t255) ++ t256) ++ t257) ++ t258) ++ t259).size + t260.size ≤ 9223372036854775807 then (postroomref11_Put.l1 k1 (((((((x5_1 ++ t254) ++ t255) ++ t256) ++ t257) ++ t258) ++ t259) ++ t260) x6_1 ((rd_T57 l0_2 x6_1).f2) 0 a0_0 a0_1 l0_2 ((rd_T57 l0_2 x6_1).f0) ((rd_T57 l0_2 x6_1).f1) ((rd_T57 l0_2 x6_1).f2) ((rd_T57 l0_2 x6_1).f3) ((rd_T57 l0_2 x6_1).f4) ((rd_T57 l0_2 x6_1).f5) ((rd_T57 l0_2 x6_1).f6)) else (none))) else (none))) else (none))) else (none)) = some (r1, r2) := H
           have A24 := Aside0.mk A240
           clear A240
           by_cases c25 : (((x5_1 ++ t254) ++ t255) ++ t256).size + t257.size ≤ 9223372036854775807
           ·rw [if_pos c25] at H
            have c25b0 := eq_true c25
            have c25b1 : decide ((((x5_1 ++ t254) ++ t255) ++ t256).size + t257.size ≤ 9223372036854775807) = true := decide_eq_true c25
            try have c25b2 : (9223372036854775807 < (((x5_1 ++ t254) ++ t255) ++ t256).size + t257.size) = False := eq_false (Nat.not_lt.2 c25)
            try (have c25b4 := c25b2; simp only [ByteArray.size_append] at c25b4)
            clear c25
            replace H := Option.bind_eq_some_iff.mp H
            obtain ⟨t258, A260, H⟩ := H
            replace H : (if ((((x5_1 ++ t254) ++ t255) ++ t256) ++ t257).size + t258.size ≤ 9223372036854775807 then ((postroomref1_Put.f k1 ((rd_T57 l0_2 x6_1).f6)).bind fun t259 => (if (((((x5_1 ++ t254) ++ t255) ++ t256) ++ t257) ++ t258).size + t259.size ≤ 9223372036854775807 then ((postroomref1_Put.f k1 (IntKind.u64.wrap ((((rd_T57 l0_2 x6_1).f3).length : Int)))).bind fun t260 => (if ((((((x5_1 ++ t254) ++ t255) ++ t256) ++ t257) ++ t258) ++ t259).size + t260.size ≤ 9223372036854775807 then (postroomref11_Put.l1 k1 (((((((x5_1 ++ t254) ++ t255) ++ t256) ++ t257) ++ t258) ++ t259) ++ t260) x6_1 ((rd_T57 l0_2 x6_1).f2) 0 a0_0 a0_1 l0_2 ((rd_T57 l0_2 x6_1).f0) ((rd_T57 l0_2 x6_1).f1) ((rd_T57 l0_2 x6_1).f2) ((rd_T57 l0_2 x6_1).f3) ((rd_T57 l0_2 x6_1).f4) ((rd_T57 l0_2 x6_1).f5) ((rd_T57 l0_2 x6_1).f6)) else (none))) else (none))) else (none)) = some (r1, r2) := H
            have A26 := Aside0.mk A260
            clear A260
            by_cases c27 : ((((x5_1 ++ t254) ++ t255) ++ t256) ++ t257).size + t258.size ≤ 9223372036854775807
            ·rw [if_pos c27] at H
             have c27b0 := eq_true c27
             have c27b1 : decide (((((x5_1 ++ t254) ++ t255) ++ t256) ++ t257).size + t258.size ≤ 9223372036854775807) = true := decide_eq_true c27
             try have c27b2 : (9223372036854775807 < ((((x5_1 ++ t254) ++ t255) ++ t256) ++ t257).size + t258.size) = False := eq_false (Nat.not_lt.2 c27)
             try (have c27b4 := c27b2; simp only [ByteArray.size_append] at c27b4)
             clear c27
             replace H := Option.bind_eq_some_iff.mp H
             obtain ⟨t259, A280, H⟩ := H
             replace H : (if (((((x5_1 ++ t254) ++ t255) ++ t256) ++ t257) ++ t258).size + t259.size ≤ 9223372036854775807 then ((postroomref1_Put.f k1 (IntKind.u64.wrap ((((rd_T57 l0_2 x6_1).f3).length : Int)))).bind fun t260 => (if ((((((x5_1 ++ t254) ++ t255) ++ t256) ++ t257) ++ t258) ++ t259).size + t260.size ≤ 9223372036854775807 then (postroomref11_Put.l1 k1 (((((((x5_1 ++ t254) ++ t255) ++ t256) ++ t257) ++ t258) ++ t259) ++ t260) x6_1 ((rd_T57 l0_2 x6_1).f2) 0 a0_0 a0_1 l0_2 ((rd_T57 l0_2 x6_1).f0) ((rd_T57 l0_2 x6_1).f1) ((rd_T57 l0_2 x6_1).f2) ((rd_T57 l0_2 x6_1).f3) ((rd_T57 l0_2 x6_1).f4) ((rd_T57 l0_2 x6_1).f5) ((rd_T57 l0_2 x6_1).f6)) else (none))) else (none)) = some (r1, r2) := H
             have A28 := Aside0.mk A280
             clear A280
             by_cases c29 : (((((x5_1 ++ t254) ++ t255) ++ t256) ++ t257) ++ t258).size + t259.size ≤ 9223372036854775807
             ·rw [if_pos c29] at H
              have c29b0 := eq_true c29
              have c29b1 : decide ((((((x5_1 ++ t254) ++ t255) ++ t256) ++ t257) ++ t258).size + t259.size ≤ 9223372036854775807) = true := decide_eq_true c29
              try have c29b2 : (9223372036854775807 < (((((x5_1 ++ t254) ++ t255) ++ t256) ++ t257) ++ t258).size + t259.size) = False := eq_false (Nat.not_lt.2 c29)
              try (have c29b4 := c29b2; simp only [ByteArray.size_append] at c29b4)
              clear c29
              replace H := Option.bind_eq_some_iff.mp H
              obtain ⟨t260, A300, H⟩ := H
              replace H : (if ((((((x5_1 ++ t254) ++ t255) ++ t256) ++ t257) ++ t258) ++ t259).size + t260.size ≤ 9223372036854775807 then (postroomref11_Put.l1 k1 (((((((x5_1 ++ t254) ++ t255) ++ t256) ++ t257) ++ t258) ++ t259) ++ t260) x6_1 ((rd_T57 l0_2 x6_1).f2) 0 a0_0 a0_1 l0_2 ((rd_T57 l0_2 x6_1).f0) ((rd_T57 l0_2 x6_1).f1) ((rd_T57 l0_2 x6_1).f2) ((rd_T57 l0_2 x6_1).f3) ((rd_T57 l0_2 x6_1).f4) ((rd_T57 l0_2 x6_1).f5) ((rd_T57 l0_2 x6_1).f6)) else (none)) = some (r1, r2) := H
              have A30 := Aside0.mk A300
              clear A300
              by_cases c31 : ((((((x5_1 ++ t254) ++ t255) ++ t256) ++ t257) ++ t258) ++ t259).size + t260.size ≤ 9223372036854775807
              ·rw [if_pos c31] at H
               have c31b0 := eq_true c31
               have c31b1 : decide (((((((x5_1 ++ t254) ++ t255) ++ t256) ++ t257) ++ t258) ++ t259).size + t260.size ≤ 9223372036854775807) = true := decide_eq_true c31
               try have c31b2 : (9223372036854775807 < ((((((x5_1 ++ t254) ++ t255) ++ t256) ++ t257) ++ t258) ++ t259).size + t260.size) = False := eq_false (Nat.not_lt.2 c31)
               try (have c31b4 := c31b2; simp only [ByteArray.size_append] at c31b4)
               clear c31
               have H' := Aside0.mk H
               clear H
               obtain ⟨hcz32_0, hcz32_1, hcz32_2, hfz32_0, hfz32_1, hfz32_2⟩ := cx17_bc3 BK247.out
               have p252 : 0 ≤ (x6_1 : Int) := of_decide_eq_true zx17_7
               have q252 : x6_1 < (l0_2.length : Int) := of_decide_eq_true zx17_7
               obtain ⟨ad252, A252_3, c252_3, e252, hx252_0, hx252_1, hx252_2, hx252_3, hx252_4, hx252_5, hx252_6, hl252_3, hi252_3⟩ := at_T57 HR0_2.out x6_1 p252 q252
               cases e252
               replace hx252_0 := (HB.out.cell (World.block_lt_of_cell? w _ hx252_0)).trans hx252_0
               replace hx252_1 := (HB.out.cell (World.block_lt_of_cell? w _ hx252_1)).trans hx252_1
               replace hx252_2 := (HB.out.cell (World.block_lt_of_cell? w _ hx252_2)).trans hx252_2
               replace hx252_3 := (HB.out.cell (World.block_lt_of_cell? w _ hx252_3)).trans hx252_3
               replace hx252_4 := (HB.out.cell (World.block_lt_of_cell? w _ hx252_4)).trans hx252_4
               replace hx252_5 := (HB.out.cell (World.block_lt_of_cell? w _ hx252_5)).trans hx252_5
               replace hx252_6 := (HB.out.cell (World.block_lt_of_cell? w _ hx252_6)).trans hx252_6
               have HR252_3 := Aside0.mk hi252_3
               have HC252_3 := Aside0.mk hl252_3
               clear hi252_3 hl252_3
               replace p252 := eq_true p252
               replace q252 := eq_true q252
               try go_wp2_with (first | ((with_reducible refine gate_dst (N := 7) rfl ?_); refine box_event ?hg (N := 7) ?hd (cs := #[.string (⟨#[]⟩ : ByteArray), .int .u64 0, .int .u64 0, .slice none 0 0, .int .u64 0, .int .u64 0, .int .u64 0]) (t := 57) ?hr ?_; (case hd => rfl); (case hg => rfl); (case hr => first | (go_simp; done) | (go_simp; rfl)); intro gb253 hg w33 hbox hb; have n0_ := Aside0.mk (blk_below (g := gb247) (o := .cells #[.int .u64 a0_0, .int .u64 a0_1, .slice (some ad252) l0_2.length c0_2] 30 (0, 0)) zx17_0 hb); have n1_ := Aside0.mk (below_step zx17_3 hb); have n2_ := Aside0.mk (hbox); have n3_ := Aside0.mk ((by rw [hg]; exact (below_size zx17_3) : w.heap.size ≤ gb253)); have n4_ := Aside0.mk ((by rw [hg]; exact (below_size zx17_3) : w.heap.size ≤ gb253)); have n5_ := Aside0.mk ((by rw [hg]; exact Nat.ne_of_lt (blk_lt (g := gb247) (o := .cells #[.int .u64 a0_0, .int .u64 a0_1, .slice (some ad252) l0_2.length c0_2] 30 (0, 0)) zx17_0) : gb247 ≠ gb253)); have n6_ := Aside0.mk ((by rw [hg]; exact Nat.ne_of_gt (blk_lt (g := gb247) (o := .cells #[.int .u64 a0_0, .int .u64 a0_1, .slice (some ad252) l0_2.length c0_2] 30 (0, 0)) zx17_0) : gb253 ≠ gb247)); clear BK247; clear HB; have BK247 := n0_; have HB := n1_; have BK253 := n2_; have GW253 := n3_; have GE253 := n4_; have NB247_253 := n5_; have NB253_247 := n6_; clear n0_ n1_ n2_ n3_ n4_ n5_ n6_; clear hb hbox hg; have hnb34 := NB253_247.out; have hnc34 := NB247_253.out; have hcz35_0 : w33.cell? ⟨gb253, 0, none⟩ = some (.string (⟨#[]⟩ : ByteArray)) := (blk_cell BK253.out 0).trans rfl; have hcz35_1 : w33.cell? ⟨gb253, 1, none⟩ = some (.int .u64 0) := (blk_cell BK253.out 1).trans rfl; have hcz35_2 : w33.cell? ⟨gb253, 2, none⟩ = some (.int .u64 0) := (blk_cell BK253.out 2).trans rfl; have hcz35_3 : w33.cell? ⟨gb253, 3, none⟩ = some (.slice none 0 0) := (blk_cell BK253.out 3).trans rfl; have hcz35_4 : w33.cell? ⟨gb253, 4, none⟩ = some (.int .u64 0) := (blk_cell BK253.out 4).trans rfl; have hcz35_5 : w33.cell? ⟨gb253, 5, none⟩ = some (.int .u64 0) := (blk_cell BK253.out 5).trans rfl; have hcz35_6 : w33.cell? ⟨gb253, 6, none⟩ = some (.int .u64 0) := (blk_cell BK253.out 6).trans rfl; have hfz35_0 := blk_frozen BK253.out 0; have hfz35_1 := blk_frozen BK253.out 1; have hfz35_2 := blk_frozen BK253.out 2; have hfz35_3 := blk_frozen BK253.out 3; have hfz35_4 := blk_frozen BK253.out 4; have hfz35_5 := blk_frozen BK253.out 5; have hfz35_6 := blk_frozen BK253.out 6))
               have n0_ : Aside0 ((((((((w33.setCell ⟨gb253, 0, none⟩ (.string ((rd_T57 l0_2 x6_1).f0))).setCell ⟨gb253, 1, none⟩ (.int .u64 ((rd_T57 l0_2 x6_1).f1))).setCell ⟨gb253, 2, none⟩ (.int .u64 ((rd_T57 l0_2 x6_1).f2))).setCell ⟨gb253, 3, none⟩ (.slice A252_3 ((rd_T57 l0_2 x6_1).f3).length c252_3)).setCell ⟨gb253, 4, none⟩ (.int .u64 ((rd_T57 l0_2 x6_1).f4))).setCell ⟨gb253, 5, none⟩ (.int .u64 ((rd_T57 l0_2 x6_1).f5))).setCell ⟨gb253, 6, none⟩ (.int .u64 ((rd_T57 l0_2 x6_1).f6))).heap[gb247]? = some (.cells #[.int .u64 a0_0, .int .u64 a0_1, .slice (some ad252) l0_2.length c0_2] 30 (0, 0))) := ⟨by (with_reducible repeat (first | refine blk_drewN ?_ _ | refine blk_drew ?_ | refine blk_alloc ?_ _)); refine blk_far ?_ NB247_253.out _; (with_reducible repeat (first | refine blk_drewN ?_ _ | refine blk_drew ?_ | refine blk_alloc ?_ _)); refine blk_far ?_ NB247_253.out _; (with_reducible repeat (first | refine blk_drewN ?_ _ | refine blk_drew ?_ | refine blk_alloc ?_ _)); refine blk_far ?_ NB247_253.out _; (with_reducible repeat (first | refine blk_drewN ?_ _ | refine blk_drew ?_ | refine blk_alloc ?_ _)); refine blk_far ?_ NB247_253.out _; (with_reducible repeat (first | refine blk_drewN ?_ _ | refine blk_drew ?_ | refine blk_alloc ?_ _)); refine blk_far ?_ NB247_253.out _; (with_reducible repeat (first | refine blk_drewN ?_ _ | refine blk_drew ?_ | refine blk_alloc ?_ _)); refine blk_far ?_ NB247_253.out _; (with_reducible repeat (first | refine blk_drewN ?_ _ | refine blk_drew ?_ | refine blk_alloc ?_ _)); refine blk_far ?_ NB247_253.out _; (with_reducible repeat (first | refine blk_drewN ?_ _ | refine blk_drew ?_ | refine blk_alloc ?_ _)); exact BK247.out⟩
               have n1_ : Aside0 ((((((((w33.setCell ⟨gb253, 0, none⟩ (.string ((rd_T57 l0_2 x6_1).f0))).setCell ⟨gb253, 1, none⟩ (.int .u64 ((rd_T57 l0_2 x6_1).f1))).setCell ⟨gb253, 2, none⟩ (.int .u64 ((rd_T57 l0_2 x6_1).f2))).setCell ⟨gb253, 3, none⟩ (.slice A252_3 ((rd_T57 l0_2 x6_1).f3).length c252_3)).setCell ⟨gb253, 4, none⟩ (.int .u64 ((rd_T57 l0_2 x6_1).f4))).setCell ⟨gb253, 5, none⟩ (.int .u64 ((rd_T57 l0_2 x6_1).f5))).setCell ⟨gb253, 6, none⟩ (.int .u64 ((rd_T57 l0_2 x6_1).f6))).heap[gb253]? = some (.cells #[.string ((rd_T57 l0_2 x6_1).f0), .int .u64 ((rd_T57 l0_2 x6_1).f1), .int .u64 ((rd_T57 l0_2 x6_1).f2), .slice A252_3 ((rd_T57 l0_2 x6_1).f3).length c252_3, .int .u64 ((rd_T57 l0_2 x6_1).f4), .int .u64 ((rd_T57 l0_2 x6_1).f5), .int .u64 ((rd_T57 l0_2 x6_1).f6)] 57 (0, 0))) := ⟨by (with_reducible repeat (first | refine blk_drewN ?_ _ | refine blk_drew ?_ | refine blk_alloc ?_ _)); refine blk_put (cs := #[.string ((rd_T57 l0_2 x6_1).f0), .int .u64 ((rd_T57 l0_2 x6_1).f1), .int .u64 ((rd_T57 l0_2 x6_1).f2), .slice A252_3 ((rd_T57 l0_2 x6_1).f3).length c252_3, .int .u64 ((rd_T57 l0_2 x6_1).f4), .int .u64 ((rd_T57 l0_2 x6_1).f5), .int .u64 0]) ?_ 6 _ rfl; (with_reducible repeat (first | refine blk_drewN ?_ _ | refine blk_drew ?_ | refine blk_alloc ?_ _)); refine blk_put (cs := #[.string ((rd_T57 l0_2 x6_1).f0), .int .u64 ((rd_T57 l0_2 x6_1).f1), .int .u64 ((rd_T57 l0_2 x6_1).f2), .slice A252_3 ((rd_T57 l0_2 x6_1).f3).length c252_3, .int .u64 ((rd_T57 l0_2 x6_1).f4), .int .u64 0, .int .u64 0]) ?_ 5 _ rfl; (with_reducible repeat (first | refine blk_drewN ?_ _ | refine blk_drew ?_ | refine blk_alloc ?_ _)); refine blk_put (cs := #[.string ((rd_T57 l0_2 x6_1).f0), .int .u64 ((rd_T57 l0_2 x6_1).f1), .int .u64 ((rd_T57 l0_2 x6_1).f2), .slice A252_3 ((rd_T57 l0_2 x6_1).f3).length c252_3, .int .u64 0, .int .u64 0, .int .u64 0]) ?_ 4 _ rfl; (with_reducible repeat (first | refine blk_drewN ?_ _ | refine blk_drew ?_ | refine blk_alloc ?_ _)); refine blk_put (cs := #[.string ((rd_T57 l0_2 x6_1).f0), .int .u64 ((rd_T57 l0_2 x6_1).f1), .int .u64 ((rd_T57 l0_2 x6_1).f2), .slice none 0 0, .int .u64 0, .int .u64 0, .int .u64 0]) ?_ 3 _ rfl; (with_reducible repeat (first | refine blk_drewN ?_ _ | refine blk_drew ?_ | refine blk_alloc ?_ _)); refine blk_put (cs := #[.string ((rd_T57 l0_2 x6_1).f0), .int .u64 ((rd_T57 l0_2 x6_1).f1), .int .u64 0, .slice none 0 0, .int .u64 0, .int .u64 0, .int .u64 0]) ?_ 2 _ rfl; (with_reducible repeat (first | refine blk_drewN ?_ _ | refine blk_drew ?_ | refine blk_alloc ?_ _)); refine blk_put (cs := #[.string ((rd_T57 l0_2 x6_1).f0), .int .u64 0, .int .u64 0, .slice none 0 0, .int .u64 0, .int .u64 0, .int .u64 0]) ?_ 1 _ rfl; (with_reducible repeat (first | refine blk_drewN ?_ _ | refine blk_drew ?_ | refine blk_alloc ?_ _)); refine blk_put (cs := #[.string (⟨#[]⟩ : ByteArray), .int .u64 0, .int .u64 0, .slice none 0 0, .int .u64 0, .int .u64 0, .int .u64 0]) ?_ 0 _ rfl; (with_reducible repeat (first | refine blk_drewN ?_ _ | refine blk_drew ?_ | refine blk_alloc ?_ _)); exact BK253.out⟩
               have n2_ : Aside0 (Below w.heap.size w (((((((w33.setCell ⟨gb253, 0, none⟩ (.string ((rd_T57 l0_2 x6_1).f0))).setCell ⟨gb253, 1, none⟩ (.int .u64 ((rd_T57 l0_2 x6_1).f1))).setCell ⟨gb253, 2, none⟩ (.int .u64 ((rd_T57 l0_2 x6_1).f2))).setCell ⟨gb253, 3, none⟩ (.slice A252_3 ((rd_T57 l0_2 x6_1).f3).length c252_3)).setCell ⟨gb253, 4, none⟩ (.int .u64 ((rd_T57 l0_2 x6_1).f4))).setCell ⟨gb253, 5, none⟩ (.int .u64 ((rd_T57 l0_2 x6_1).f5))).setCell ⟨gb253, 6, none⟩ (.int .u64 ((rd_T57 l0_2 x6_1).f6)))) := ⟨by repeat (first | (with_reducible first | exact HB.out | apply below_alloc | apply pw_below_drewN | apply below_drew1 | refine below_set ?_ GE247.out | refine below_set ?_ GE253.out) | exact HB.out)⟩
               (try clear BK247)
               (try clear BK253)
               (try clear HB)
               generalize (((((((w33.setCell ⟨gb253, 0, none⟩ (.string ((rd_T57 l0_2 x6_1).f0))).setCell ⟨gb253, 1, none⟩ (.int .u64 ((rd_T57 l0_2 x6_1).f1))).setCell ⟨gb253, 2, none⟩ (.int .u64 ((rd_T57 l0_2 x6_1).f2))).setCell ⟨gb253, 3, none⟩ (.slice A252_3 ((rd_T57 l0_2 x6_1).f3).length c252_3)).setCell ⟨gb253, 4, none⟩ (.int .u64 ((rd_T57 l0_2 x6_1).f4))).setCell ⟨gb253, 5, none⟩ (.int .u64 ((rd_T57 l0_2 x6_1).f5))).setCell ⟨gb253, 6, none⟩ (.int .u64 ((rd_T57 l0_2 x6_1).f6))) = w36 at n0_ n1_ n2_ ⊢
               have BK247 := n0_
               have BK253 := n1_
               have HB := n2_
               clear n0_ n1_ n2_
               have n0_ := Aside0.mk (blk_drew BK247.out)
               have n1_ := Aside0.mk (blk_drew BK253.out)
               have n2_ := Aside0.mk (below_drew1 HB.out)
               clear BK247
               clear BK253
               clear HB
               have BK247 := n0_
               have BK253 := n1_
               have HB := n2_
               clear n0_ n1_ n2_
               refine start_ (n := 32) (S := fun w' => w'.cell? ⟨gb253, 0, none⟩ = some (.string ((rd_T57 l0_2 x6_1).f0)) ∧ w'.cell? ⟨gb253, 1, none⟩ = some (.int .u64 ((rd_T57 l0_2 x6_1).f1)) ∧ w'.cell? ⟨gb253, 2, none⟩ = some (.int .u64 ((rd_T57 l0_2 x6_1).f2)) ∧ w'.cell? ⟨gb253, 3, none⟩ = some (.slice A252_3 ((rd_T57 l0_2 x6_1).f3).length c252_3) ∧ w'.cell? ⟨gb253, 4, none⟩ = some (.int .u64 ((rd_T57 l0_2 x6_1).f4)) ∧ w'.cell? ⟨gb253, 5, none⟩ = some (.int .u64 ((rd_T57 l0_2 x6_1).f5)) ∧ w'.cell? ⟨gb253, 6, none⟩ = some (.int .u64 ((rd_T57 l0_2 x6_1).f6))) (ds := []) #[false, false, false, false, false, false, false, false, false, false, false, false, false, false, false, false, false, false, false, false, false, false, false, false, false, false, false, false, false, false, false, false] (by kernel_rfl) rfl rfl ⟨(blk_cell BK253.out 0).trans rfl, (blk_cell BK253.out 1).trans rfl, (blk_cell BK253.out 2).trans rfl, (blk_cell BK253.out 3).trans rfl, (blk_cell BK253.out 4).trans rfl, (blk_cell BK253.out 5).trans rfl, (blk_cell BK253.out 6).trans rfl⟩ (fun hHeld => ?_); refine with_tabW postroomref11_Put.tab9 postroomref11_Put.bits9 (fun HT_ HW_ => ?_)
               generalize w36.drew = w37 at BK247 BK253 HB hHeld ⊢
               refine pure_ (i := 0) (N := some 39) (v := ?_) (a' := ?_) #[true, false, false, false, false, false, false, false, false, false, false, false, false, false, false, false, false, false, false, false, false, false, false, false, false, false, false, false, false, false, false, false] rfl rfl (any_of HT_.out (by kernel_rfl)) (fun _ _ _ h => h) (Or.inl ⟨by rfl, ?_⟩) ?_ ?_
               rotate_left
               ·intro w'
                go_simp
                with_reducible rfl
               rotate_left
               ·simp only [Act.put, List.setIfInBounds_toArray, List.set_cons_zero, List.set_cons_succ, i64_w, i32_w]
                rfl
               refine pure_ (i := 1) (N := some 40) (v := ?_) (a' := ?_) #[true, true, false, false, false, false, false, false, false, false, false, false, false, false, false, false, false, false, false, false, false, false, false, false, false, false, false, false, false, false, false, false] rfl rfl (any_of HT_.out (by kernel_rfl)) (fun _ _ _ h => h) (Or.inl ⟨by rfl, ?_⟩) ?_ ?_
               rotate_left
               ·intro w'
                go_simp
                with_reducible rfl
               rotate_left
               ·simp only [Act.put, List.setIfInBounds_toArray, List.set_cons_zero, List.set_cons_succ, i64_w, i32_w]
                rfl
               refine pure_ (i := 5) (N := some 44) (v := ?_) (a' := ?_) #[true, true, false, false, false, true, false, false, false, false, false, false, false, false, false, false, false, false, false, false, false, false, false, false, false, false, false, false, false, false, false, false] rfl rfl (any_of HT_.out (by kernel_rfl)) (fun _ _ _ h => h) (Or.inl ⟨by rfl, ?_⟩) ?_ ?_
               rotate_left
               ·intro w'
                go_simp
                with_reducible rfl
               rotate_left
               ·simp only [Act.put, List.setIfInBounds_toArray, List.set_cons_zero, List.set_cons_succ, i64_w, i32_w]
                rfl
               refine pure_ (i := 9) (N := some 48) (v := ?_) (a' := ?_) #[true, true, false, false, false, true, false, false, false, true, false, false, false, false, false, false, false, false, false, false, false, false, false, false, false, false, false, false, false, false, false, false] rfl rfl (any_of HT_.out (by kernel_rfl)) (fun _ _ _ h => h) (Or.inl ⟨by rfl, ?_⟩) ?_ ?_
               rotate_left
               ·intro w'
                go_simp
                with_reducible rfl
               rotate_left
               ·simp only [Act.put, List.setIfInBounds_toArray, List.set_cons_zero, List.set_cons_succ, i64_w, i32_w]
                rfl
               refine pure_ (i := 13) (N := some 52) (v := ?_) (a' := ?_) #[true, true, false, false, false, true, false, false, false, true, false, false, false, true, false, false, false, false, false, false, false, false, false, false, false, false, false, false, false, false, false, false] rfl rfl (any_of HT_.out (by kernel_rfl)) (fun _ _ _ h => h) (Or.inl ⟨by rfl, ?_⟩) ?_ ?_
               rotate_left
               ·intro w'
                go_simp
                with_reducible rfl
               rotate_left
               ·simp only [Act.put, List.setIfInBounds_toArray, List.set_cons_zero, List.set_cons_succ, i64_w, i32_w]
                rfl
               refine pure_ (i := 17) (N := some 56) (v := ?_) (a' := ?_) #[true, true, false, false, false, true, false, false, false, true, false, false, false, true, false, false, false, true, false, false, false, false, false, false, false, false, false, false, false, false, false, false] rfl rfl (any_of HT_.out (by kernel_rfl)) (fun _ _ _ h => h) (Or.inl ⟨by rfl, ?_⟩) ?_ ?_
               rotate_left
               ·intro w'
                go_simp
                with_reducible rfl
               rotate_left
               ·simp only [Act.put, List.setIfInBounds_toArray, List.set_cons_zero, List.set_cons_succ, i64_w, i32_w]
                rfl
               refine pure_ (i := 21) (N := some 60) (v := ?_) (a' := ?_) #[true, true, false, false, false, true, false, false, false, true, false, false, false, true, false, false, false, true, false, false, false, true, false, false, false, false, false, false, false, false, false, false] rfl rfl (any_of HT_.out (by kernel_rfl)) (fun _ _ _ h => h) (Or.inl ⟨by rfl, ?_⟩) ?_ ?_
               rotate_left
               ·intro w'
                go_simp
                with_reducible rfl
               rotate_left
               ·simp only [Act.put, List.setIfInBounds_toArray, List.set_cons_zero, List.set_cons_succ, i64_w, i32_w]
                rfl
               refine pure_ (i := 25) (N := some 64) (v := ?_) (a' := ?_) #[true, true, false, false, false, true, false, false, false, true, false, false, false, true, false, false, false, true, false, false, false, true, false, false, false, true, false, false, false, false, false, false] rfl rfl (any_of HT_.out (by kernel_rfl)) (fun _ _ _ h => h) (Or.inl ⟨by rfl, ?_⟩) ?_ ?_
               rotate_left
               ·intro w'
                go_simp
                with_reducible rfl
               rotate_left
               ·simp only [Act.put, List.setIfInBounds_toArray, List.set_cons_zero, List.set_cons_succ, i64_w, i32_w]
                rfl
               refine take_ (i := 2) (N := some 41) (v := ?_) (a' := ?_) #[true, true, true, false, false, true, false, false, false, true, false, false, false, true, false, false, false, true, false, false, false, true, false, false, false, true, false, false, false, false, false, false] rfl rfl (take_ofW HT_.out HW_.out (by kernel_rfl)) (fun _ _ _ h => h) (Or.inl ⟨by rfl, ?_⟩) hHeld ?_ ?_
               rotate_left
               ·rintro w' ⟨s0, s1, s2, s3, s4, s5, s6⟩
                go_simp
                with_reducible rfl
               rotate_left
               ·simp only [Act.put, List.setIfInBounds_toArray, List.set_cons_zero, List.set_cons_succ, i64_w, i32_w]
                rfl
               refine take_ (i := 6) (N := some 45) (v := ?_) (a' := ?_) #[true, true, true, false, false, true, true, false, false, true, false, false, false, true, false, false, false, true, false, false, false, true, false, false, false, true, false, false, false, false, false, false] rfl rfl (take_ofW HT_.out HW_.out (by kernel_rfl)) (fun _ _ _ h => h) (Or.inl ⟨by rfl, ?_⟩) hHeld ?_ ?_
               rotate_left
               ·rintro w' ⟨s0, s1, s2, s3, s4, s5, s6⟩
                go_simp
                with_reducible rfl
               rotate_left
               ·simp only [Act.put, List.setIfInBounds_toArray, List.set_cons_zero, List.set_cons_succ, i64_w, i32_w]
                rfl
               refine take_ (i := 10) (N := some 49) (v := ?_) (a' := ?_) #[true, true, true, false, false, true, true, false, false, true, true, false, false, true, false, false, false, true, false, false, false, true, false, false, false, true, false, false, false, false, false, false] rfl rfl (take_ofW HT_.out HW_.out (by kernel_rfl)) (fun _ _ _ h => h) (Or.inl ⟨by rfl, ?_⟩) hHeld ?_ ?_
               rotate_left
               ·rintro w' ⟨s0, s1, s2, s3, s4, s5, s6⟩
                go_simp
                with_reducible rfl
               rotate_left
               ·simp only [Act.put, List.setIfInBounds_toArray, List.set_cons_zero, List.set_cons_succ, i64_w, i32_w]
                rfl
               refine take_ (i := 14) (N := some 53) (v := ?_) (a' := ?_) #[true, true, true, false, false, true, true, false, false, true, true, false, false, true, true, false, false, true, false, false, false, true, false, false, false, true, false, false, false, false, false, false] rfl rfl (take_ofW HT_.out HW_.out (by kernel_rfl)) (fun _ _ _ h => h) (Or.inl ⟨by rfl, ?_⟩) hHeld ?_ ?_
               rotate_left
               ·rintro w' ⟨s0, s1, s2, s3, s4, s5, s6⟩
                go_simp
                with_reducible rfl
               rotate_left
               ·simp only [Act.put, List.setIfInBounds_toArray, List.set_cons_zero, List.set_cons_succ, i64_w, i32_w]
                rfl
               refine take_ (i := 18) (N := some 57) (v := ?_) (a' := ?_) #[true, true, true, false, false, true, true, false, false, true, true, false, false, true, true, false, false, true, true, false, false, true, false, false, false, true, false, false, false, false, false, false] rfl rfl (take_ofW HT_.out HW_.out (by kernel_rfl)) (fun _ _ _ h => h) (Or.inl ⟨by rfl, ?_⟩) hHeld ?_ ?_
               rotate_left
               ·rintro w' ⟨s0, s1, s2, s3, s4, s5, s6⟩
                go_simp
                with_reducible rfl
               rotate_left
               ·simp only [Act.put, List.setIfInBounds_toArray, List.set_cons_zero, List.set_cons_succ, i64_w, i32_w]
                rfl
               refine take_ (i := 22) (N := some 61) (v := ?_) (a' := ?_) #[true, true, true, false, false, true, true, false, false, true, true, false, false, true, true, false, false, true, true, false, false, true, true, false, false, true, false, false, false, false, false, false] rfl rfl (take_ofW HT_.out HW_.out (by kernel_rfl)) (fun _ _ _ h => h) (Or.inl ⟨by rfl, ?_⟩) hHeld ?_ ?_
               rotate_left
               ·rintro w' ⟨s0, s1, s2, s3, s4, s5, s6⟩
                go_simp
                with_reducible rfl
               rotate_left
               ·simp only [Act.put, List.setIfInBounds_toArray, List.set_cons_zero, List.set_cons_succ, i64_w, i32_w]
                rfl
               refine take_ (i := 26) (N := some 65) (v := ?_) (a' := ?_) #[true, true, true, false, false, true, true, false, false, true, true, false, false, true, true, false, false, true, true, false, false, true, true, false, false, true, true, false, false, false, false, false] rfl rfl (take_ofW HT_.out HW_.out (by kernel_rfl)) (fun _ _ _ h => h) (Or.inl ⟨by rfl, ?_⟩) hHeld ?_ ?_
               rotate_left
               ·rintro w' ⟨s0, s1, s2, s3, s4, s5, s6⟩
                go_simp
                with_reducible rfl
               rotate_left
               ·simp only [Act.put, List.setIfInBounds_toArray, List.set_cons_zero, List.set_cons_succ, i64_w, i32_w]
                rfl
               refine pure_ (i := 27) (N := some 66) (v := ?_) (a' := ?_) #[true, true, true, false, false, true, true, false, false, true, true, false, false, true, true, false, false, true, true, false, false, true, true, false, false, true, true, true, false, false, false, false] rfl rfl (any_of HT_.out (by kernel_rfl)) (fun _ _ _ h => h) (Or.inl ⟨by rfl, ?_⟩) ?_ ?_
               rotate_left
               ·intro w'
                go_simp
                with_reducible rfl
               rotate_left
               ·simp only [Act.put, List.setIfInBounds_toArray, List.set_cons_zero, List.set_cons_succ, i64_w, i32_w]
                rfl
               refine pure_ (i := 28) (N := some 67) (v := ?_) (a' := ?_) #[true, true, true, false, false, true, true, false, false, true, true, false, false, true, true, false, false, true, true, false, false, true, true, false, false, true, true, true, true, false, false, false] rfl rfl (any_of HT_.out (by kernel_rfl)) (fun _ _ _ h => h) (Or.inl ⟨by rfl, ?_⟩) ?_ ?_
               rotate_left
               ·intro w'
                go_simp
                with_reducible rfl
               rotate_left
               ·simp only [Act.put, List.setIfInBounds_toArray, List.set_cons_zero, List.set_cons_succ, i64_w, i32_w]
                rfl
               refine one_ (i := 3) (N := some 42) #[true, true, true, true, false, true, true, false, false, true, true, false, false, true, true, false, false, true, true, false, false, true, true, false, false, true, true, true, true, false, false, false] rfl rfl (one_of HT_.out (by kernel_rfl)) (by decide) (fun K hK => ?_)
               refine goes_ Tryd.func26 (by kernel_rfl) rfl #[.string ((rd_T57 l0_2 x6_1).f0)] (by rfl) rfl rfl zx17_1 ?_
               with_reducible refine (postroomref1_PutText.calls k1 ((rd_T57 l0_2 x6_1).f0) t254 _ A18.out).mono ?_
               rintro e w38 ⟨rfl, hb⟩
               refine ⟨_, rfl, ?_⟩
               have n0_ := Aside0.mk (blk_below (g := gb247) (o := .cells #[.int .u64 a0_0, .int .u64 a0_1, .slice (some ad252) l0_2.length c0_2] 30 (0, 0)) zx17_0 hb)
               have n1_ := Aside0.mk (blk_below (g := gb253) (o := .cells #[.string ((rd_T57 l0_2 x6_1).f0), .int .u64 ((rd_T57 l0_2 x6_1).f1), .int .u64 ((rd_T57 l0_2 x6_1).f2), .slice A252_3 ((rd_T57 l0_2 x6_1).f3).length c252_3, .int .u64 ((rd_T57 l0_2 x6_1).f4), .int .u64 ((rd_T57 l0_2 x6_1).f5), .int .u64 ((rd_T57 l0_2 x6_1).f6)] 57 (0, 0)) zx17_4 hb)
               have n2_ := Aside0.mk (below_step zx17_2 hb)
               clear BK247
               clear BK253
               clear HB
               have BK247 := n0_
               have BK253 := n1_
               have HB := n2_
               clear n0_ n1_ n2_
               (try clear hb)
               (try clear hb2)
               (try clear hk)
               (try clear hi)
               refine hK.out _ _ ⟨(blk_cell BK253.out 0).trans rfl, (blk_cell BK253.out 1).trans rfl, (blk_cell BK253.out 2).trans rfl, (blk_cell BK253.out 3).trans rfl, (blk_cell BK253.out 4).trans rfl, (blk_cell BK253.out 5).trans rfl, (blk_cell BK253.out 6).trans rfl⟩ (fun hHeld => ?_)
               clear hK K
               refine norm_ (a' := ?_) ?_ ?_
               rotate_left
               ·show Act.put _ (some 42) _ = _
                simp only [Act.put, List.setIfInBounds_toArray, List.set_cons_zero, List.set_cons_succ, i64_w, i32_w]
                rfl
               refine pure_ (i := 4) (N := some 43) (v := ?_) (a' := ?_) #[true, true, true, true, true, true, true, false, false, true, true, false, false, true, true, false, false, true, true, false, false, true, true, false, false, true, true, true, true, false, false, false] rfl rfl (any_of HT_.out (by kernel_rfl)) (fun _ _ _ h => h) (Or.inl ⟨by rfl, ?_⟩) ?_ ?_
               rotate_left
               ·intro w'
                go_simp
                with_reducible rfl
               rotate_left
               ·simp only [Act.put, List.setIfInBounds_toArray, List.set_cons_zero, List.set_cons_succ, i64_w, i32_w]
                rfl
               refine one_ (i := 7) (N := some 46) #[true, true, true, true, true, true, true, true, false, true, true, false, false, true, true, false, false, true, true, false, false, true, true, false, false, true, true, true, true, false, false, false] rfl rfl (one_of HT_.out (by kernel_rfl)) (by decide) (fun K hK => ?_)
               refine goes_ Tryd.func25 (by kernel_rfl) rfl #[.int .u64 ((rd_T57 l0_2 x6_1).f1)] (by rfl) rfl rfl zx17_1 ?_
               with_reducible refine (postroomref1_Put.calls k1 ((rd_T57 l0_2 x6_1).f1) t255 _ A20.out).mono ?_
               rintro e w39 ⟨rfl, hb⟩
               refine ⟨_, rfl, ?_⟩
               have n0_ := Aside0.mk (blk_below (g := gb247) (o := .cells #[.int .u64 a0_0, .int .u64 a0_1, .slice (some ad252) l0_2.length c0_2] 30 (0, 0)) zx17_0 hb)
               have n1_ := Aside0.mk (blk_below (g := gb253) (o := .cells #[.string ((rd_T57 l0_2 x6_1).f0), .int .u64 ((rd_T57 l0_2 x6_1).f1), .int .u64 ((rd_T57 l0_2 x6_1).f2), .slice A252_3 ((rd_T57 l0_2 x6_1).f3).length c252_3, .int .u64 ((rd_T57 l0_2 x6_1).f4), .int .u64 ((rd_T57 l0_2 x6_1).f5), .int .u64 ((rd_T57 l0_2 x6_1).f6)] 57 (0, 0)) zx17_4 hb)
               have n2_ := Aside0.mk (below_step zx17_2 hb)
               clear BK247
               clear BK253
               clear HB
               have BK247 := n0_
               have BK253 := n1_
               have HB := n2_
               clear n0_ n1_ n2_
               (try clear hb)
               (try clear hb2)
               (try clear hk)
               (try clear hi)
               refine hK.out _ _ ⟨(blk_cell BK253.out 0).trans rfl, (blk_cell BK253.out 1).trans rfl, (blk_cell BK253.out 2).trans rfl, (blk_cell BK253.out 3).trans rfl, (blk_cell BK253.out 4).trans rfl, (blk_cell BK253.out 5).trans rfl, (blk_cell BK253.out 6).trans rfl⟩ (fun hHeld => ?_)
               clear hK K
               refine norm_ (a' := ?_) ?_ ?_
               rotate_left
               ·show Act.put _ (some 46) _ = _
                simp only [Act.put, List.setIfInBounds_toArray, List.set_cons_zero, List.set_cons_succ, i64_w, i32_w]
                rfl
               refine pure_ (i := 8) (N := some 47) (v := ?_) (a' := ?_) #[true, true, true, true, true, true, true, true, true, true, true, false, false, true, true, false, false, true, true, false, false, true, true, false, false, true, true, true, true, false, false, false] rfl rfl (any_of HT_.out (by kernel_rfl)) (fun _ _ _ h => h) (Or.inl ⟨by rfl, ?_⟩) ?_ ?_
               rotate_left
               ·intro w'
                go_simp
                with_reducible rfl
               rotate_left
               ·simp only [Act.put, List.setIfInBounds_toArray, List.set_cons_zero, List.set_cons_succ, i64_w, i32_w]
                rfl
               refine one_ (i := 11) (N := some 50) #[true, true, true, true, true, true, true, true, true, true, true, true, false, true, true, false, false, true, true, false, false, true, true, false, false, true, true, true, true, false, false, false] rfl rfl (one_of HT_.out (by kernel_rfl)) (by decide) (fun K hK => ?_)
               refine goes_ Tryd.func25 (by kernel_rfl) rfl #[.int .u64 ((rd_T57 l0_2 x6_1).f2)] (by rfl) rfl rfl zx17_1 ?_
               with_reducible refine (postroomref1_Put.calls k1 ((rd_T57 l0_2 x6_1).f2) t256 _ A22.out).mono ?_
               rintro e w40 ⟨rfl, hb⟩
               refine ⟨_, rfl, ?_⟩
               have n0_ := Aside0.mk (blk_below (g := gb247) (o := .cells #[.int .u64 a0_0, .int .u64 a0_1, .slice (some ad252) l0_2.length c0_2] 30 (0, 0)) zx17_0 hb)
               have n1_ := Aside0.mk (blk_below (g := gb253) (o := .cells #[.string ((rd_T57 l0_2 x6_1).f0), .int .u64 ((rd_T57 l0_2 x6_1).f1), .int .u64 ((rd_T57 l0_2 x6_1).f2), .slice A252_3 ((rd_T57 l0_2 x6_1).f3).length c252_3, .int .u64 ((rd_T57 l0_2 x6_1).f4), .int .u64 ((rd_T57 l0_2 x6_1).f5), .int .u64 ((rd_T57 l0_2 x6_1).f6)] 57 (0, 0)) zx17_4 hb)
               have n2_ := Aside0.mk (below_step zx17_2 hb)
               clear BK247
               clear BK253
               clear HB
               have BK247 := n0_
               have BK253 := n1_
               have HB := n2_
               clear n0_ n1_ n2_
               (try clear hb)
               (try clear hb2)
               (try clear hk)
               (try clear hi)
               refine hK.out _ _ ⟨(blk_cell BK253.out 0).trans rfl, (blk_cell BK253.out 1).trans rfl, (blk_cell BK253.out 2).trans rfl, (blk_cell BK253.out 3).trans rfl, (blk_cell BK253.out 4).trans rfl, (blk_cell BK253.out 5).trans rfl, (blk_cell BK253.out 6).trans rfl⟩ (fun hHeld => ?_)
               clear hK K
               refine norm_ (a' := ?_) ?_ ?_
               rotate_left
               ·show Act.put _ (some 50) _ = _
                simp only [Act.put, List.setIfInBounds_toArray, List.set_cons_zero, List.set_cons_succ, i64_w, i32_w]
                rfl
               refine pure_ (i := 12) (N := some 51) (v := ?_) (a' := ?_) #[true, true, true, true, true, true, true, true, true, true, true, true, true, true, true, false, false, true, true, false, false, true, true, false, false, true, true, true, true, false, false, false] rfl rfl (any_of HT_.out (by kernel_rfl)) (fun _ _ _ h => h) (Or.inl ⟨by rfl, ?_⟩) ?_ ?_
               rotate_left
               ·intro w'
                go_simp
                with_reducible rfl
               rotate_left
               ·simp only [Act.put, List.setIfInBounds_toArray, List.set_cons_zero, List.set_cons_succ, i64_w, i32_w]
                rfl
               refine one_ (i := 15) (N := some 54) #[true, true, true, true, true, true, true, true, true, true, true, true, true, true, true, true, false, true, true, false, false, true, true, false, false, true, true, true, true, false, false, false] rfl rfl (one_of HT_.out (by kernel_rfl)) (by decide) (fun K hK => ?_)
               refine goes_ Tryd.func25 (by kernel_rfl) rfl #[.int .u64 ((rd_T57 l0_2 x6_1).f4)] (by rfl) rfl rfl zx17_1 ?_
               with_reducible refine (postroomref1_Put.calls k1 ((rd_T57 l0_2 x6_1).f4) t257 _ A24.out).mono ?_
               rintro e w41 ⟨rfl, hb⟩
               refine ⟨_, rfl, ?_⟩
               have n0_ := Aside0.mk (blk_below (g := gb247) (o := .cells #[.int .u64 a0_0, .int .u64 a0_1, .slice (some ad252) l0_2.length c0_2] 30 (0, 0)) zx17_0 hb)
               have n1_ := Aside0.mk (blk_below (g := gb253) (o := .cells #[.string ((rd_T57 l0_2 x6_1).f0), .int .u64 ((rd_T57 l0_2 x6_1).f1), .int .u64 ((rd_T57 l0_2 x6_1).f2), .slice A252_3 ((rd_T57 l0_2 x6_1).f3).length c252_3, .int .u64 ((rd_T57 l0_2 x6_1).f4), .int .u64 ((rd_T57 l0_2 x6_1).f5), .int .u64 ((rd_T57 l0_2 x6_1).f6)] 57 (0, 0)) zx17_4 hb)
               have n2_ := Aside0.mk (below_step zx17_2 hb)
               clear BK247
               clear BK253
               clear HB
               have BK247 := n0_
               have BK253 := n1_
               have HB := n2_
               clear n0_ n1_ n2_
               (try clear hb)
               (try clear hb2)
               (try clear hk)
               (try clear hi)
               refine hK.out _ _ ⟨(blk_cell BK253.out 0).trans rfl, (blk_cell BK253.out 1).trans rfl, (blk_cell BK253.out 2).trans rfl, (blk_cell BK253.out 3).trans rfl, (blk_cell BK253.out 4).trans rfl, (blk_cell BK253.out 5).trans rfl, (blk_cell BK253.out 6).trans rfl⟩ (fun hHeld => ?_)
               clear hK K
               refine norm_ (a' := ?_) ?_ ?_
               rotate_left
               ·show Act.put _ (some 54) _ = _
                simp only [Act.put, List.setIfInBounds_toArray, List.set_cons_zero, List.set_cons_succ, i64_w, i32_w]
                rfl
               refine pure_ (i := 16) (N := some 55) (v := ?_) (a' := ?_) #[true, true, true, true, true, true, true, true, true, true, true, true, true, true, true, true, true, true, true, false, false, true, true, false, false, true, true, true, true, false, false, false] rfl rfl (any_of HT_.out (by kernel_rfl)) (fun _ _ _ h => h) (Or.inl ⟨by rfl, ?_⟩) ?_ ?_
               rotate_left
               ·intro w'
                go_simp
                with_reducible rfl
               rotate_left
               ·simp only [Act.put, List.setIfInBounds_toArray, List.set_cons_zero, List.set_cons_succ, i64_w, i32_w]
                rfl
               refine one_ (i := 19) (N := some 58) #[true, true, true, true, true, true, true, true, true, true, true, true, true, true, true, true, true, true, true, true, false, true, true, false, false, true, true, true, true, false, false, false] rfl rfl (one_of HT_.out (by kernel_rfl)) (by decide) (fun K hK => ?_)
               refine goes_ Tryd.func25 (by kernel_rfl) rfl #[.int .u64 ((rd_T57 l0_2 x6_1).f5)] (by rfl) rfl rfl zx17_1 ?_
               with_reducible refine (postroomref1_Put.calls k1 ((rd_T57 l0_2 x6_1).f5) t258 _ A26.out).mono ?_
               rintro e w42 ⟨rfl, hb⟩
               refine ⟨_, rfl, ?_⟩
               have n0_ := Aside0.mk (blk_below (g := gb247) (o := .cells #[.int .u64 a0_0, .int .u64 a0_1, .slice (some ad252) l0_2.length c0_2] 30 (0, 0)) zx17_0 hb)
               have n1_ := Aside0.mk (blk_below (g := gb253) (o := .cells #[.string ((rd_T57 l0_2 x6_1).f0), .int .u64 ((rd_T57 l0_2 x6_1).f1), .int .u64 ((rd_T57 l0_2 x6_1).f2), .slice A252_3 ((rd_T57 l0_2 x6_1).f3).length c252_3, .int .u64 ((rd_T57 l0_2 x6_1).f4), .int .u64 ((rd_T57 l0_2 x6_1).f5), .int .u64 ((rd_T57 l0_2 x6_1).f6)] 57 (0, 0)) zx17_4 hb)
               have n2_ := Aside0.mk (below_step zx17_2 hb)
               clear BK247
               clear BK253
               clear HB
               have BK247 := n0_
               have BK253 := n1_
               have HB := n2_
               clear n0_ n1_ n2_
               (try clear hb)
               (try clear hb2)
               (try clear hk)
               (try clear hi)
               refine hK.out _ _ ⟨(blk_cell BK253.out 0).trans rfl, (blk_cell BK253.out 1).trans rfl, (blk_cell BK253.out 2).trans rfl, (blk_cell BK253.out 3).trans rfl, (blk_cell BK253.out 4).trans rfl, (blk_cell BK253.out 5).trans rfl, (blk_cell BK253.out 6).trans rfl⟩ (fun hHeld => ?_)
               clear hK K
               refine norm_ (a' := ?_) ?_ ?_
               rotate_left
               ·show Act.put _ (some 58) _ = _
                simp only [Act.put, List.setIfInBounds_toArray, List.set_cons_zero, List.set_cons_succ, i64_w, i32_w]
                rfl
               refine pure_ (i := 20) (N := some 59) (v := ?_) (a' := ?_) #[true, true, true, true, true, true, true, true, true, true, true, true, true, true, true, true, true, true, true, true, true, true, true, false, false, true, true, true, true, false, false, false] rfl rfl (any_of HT_.out (by kernel_rfl)) (fun _ _ _ h => h) (Or.inl ⟨by rfl, ?_⟩) ?_ ?_
               rotate_left
               ·intro w'
                go_simp
                with_reducible rfl
               rotate_left
               ·simp only [Act.put, List.setIfInBounds_toArray, List.set_cons_zero, List.set_cons_succ, i64_w, i32_w]
                rfl
               refine one_ (i := 23) (N := some 62) #[true, true, true, true, true, true, true, true, true, true, true, true, true, true, true, true, true, true, true, true, true, true, true, true, false, true, true, true, true, false, false, false] rfl rfl (one_of HT_.out (by kernel_rfl)) (by decide) (fun K hK => ?_)
               refine goes_ Tryd.func25 (by kernel_rfl) rfl #[.int .u64 ((rd_T57 l0_2 x6_1).f6)] (by rfl) rfl rfl zx17_1 ?_
               with_reducible refine (postroomref1_Put.calls k1 ((rd_T57 l0_2 x6_1).f6) t259 _ A28.out).mono ?_
               rintro e w43 ⟨rfl, hb⟩
               refine ⟨_, rfl, ?_⟩
               have n0_ := Aside0.mk (blk_below (g := gb247) (o := .cells #[.int .u64 a0_0, .int .u64 a0_1, .slice (some ad252) l0_2.length c0_2] 30 (0, 0)) zx17_0 hb)
               have n1_ := Aside0.mk (blk_below (g := gb253) (o := .cells #[.string ((rd_T57 l0_2 x6_1).f0), .int .u64 ((rd_T57 l0_2 x6_1).f1), .int .u64 ((rd_T57 l0_2 x6_1).f2), .slice A252_3 ((rd_T57 l0_2 x6_1).f3).length c252_3, .int .u64 ((rd_T57 l0_2 x6_1).f4), .int .u64 ((rd_T57 l0_2 x6_1).f5), .int .u64 ((rd_T57 l0_2 x6_1).f6)] 57 (0, 0)) zx17_4 hb)
               have n2_ := Aside0.mk (below_step zx17_2 hb)
               clear BK247
               clear BK253
               clear HB
               have BK247 := n0_
               have BK253 := n1_
               have HB := n2_
               clear n0_ n1_ n2_
               (try clear hb)
               (try clear hb2)
               (try clear hk)
               (try clear hi)
               refine hK.out _ _ ⟨(blk_cell BK253.out 0).trans rfl, (blk_cell BK253.out 1).trans rfl, (blk_cell BK253.out 2).trans rfl, (blk_cell BK253.out 3).trans rfl, (blk_cell BK253.out 4).trans rfl, (blk_cell BK253.out 5).trans rfl, (blk_cell BK253.out 6).trans rfl⟩ (fun hHeld => ?_)
               clear hK K
               refine norm_ (a' := ?_) ?_ ?_
               rotate_left
               ·show Act.put _ (some 62) _ = _
                simp only [Act.put, List.setIfInBounds_toArray, List.set_cons_zero, List.set_cons_succ, i64_w, i32_w]
                rfl
               refine pure_ (i := 24) (N := some 63) (v := ?_) (a' := ?_) #[true, true, true, true, true, true, true, true, true, true, true, true, true, true, true, true, true, true, true, true, true, true, true, true, true, true, true, true, true, false, false, false] rfl rfl (any_of HT_.out (by kernel_rfl)) (fun _ _ _ h => h) (Or.inl ⟨by rfl, ?_⟩) ?_ ?_
               rotate_left
               ·intro w'
                go_simp
                with_reducible rfl
               rotate_left
               ·simp only [Act.put, List.setIfInBounds_toArray, List.set_cons_zero, List.set_cons_succ, i64_w, i32_w]
                rfl
               refine one_ (i := 29) (N := some 68) #[true, true, true, true, true, true, true, true, true, true, true, true, true, true, true, true, true, true, true, true, true, true, true, true, true, true, true, true, true, true, false, false] rfl rfl (one_of HT_.out (by kernel_rfl)) (by decide) (fun K hK => ?_)
               refine goes_ Tryd.func25 (by kernel_rfl) rfl #[.int .u64 (IntKind.u64.wrap ((((rd_T57 l0_2 x6_1).f3).length : Int)))] (by rfl) rfl rfl zx17_1 ?_
               with_reducible refine (postroomref1_Put.calls k1 (IntKind.u64.wrap ((((rd_T57 l0_2 x6_1).f3).length : Int))) t260 _ A30.out).mono ?_
               rintro e w44 ⟨rfl, hb⟩
               refine ⟨_, rfl, ?_⟩
               have n0_ := Aside0.mk (blk_below (g := gb247) (o := .cells #[.int .u64 a0_0, .int .u64 a0_1, .slice (some ad252) l0_2.length c0_2] 30 (0, 0)) zx17_0 hb)
               have n1_ := Aside0.mk (blk_below (g := gb253) (o := .cells #[.string ((rd_T57 l0_2 x6_1).f0), .int .u64 ((rd_T57 l0_2 x6_1).f1), .int .u64 ((rd_T57 l0_2 x6_1).f2), .slice A252_3 ((rd_T57 l0_2 x6_1).f3).length c252_3, .int .u64 ((rd_T57 l0_2 x6_1).f4), .int .u64 ((rd_T57 l0_2 x6_1).f5), .int .u64 ((rd_T57 l0_2 x6_1).f6)] 57 (0, 0)) zx17_4 hb)
               have n2_ := Aside0.mk (below_step zx17_2 hb)
               clear BK247
               clear BK253
               clear HB
               have BK247 := n0_
               have BK253 := n1_
               have HB := n2_
               clear n0_ n1_ n2_
               (try clear hb)
               (try clear hb2)
               (try clear hk)
               (try clear hi)
               refine hK.out _ _ ⟨(blk_cell BK253.out 0).trans rfl, (blk_cell BK253.out 1).trans rfl, (blk_cell BK253.out 2).trans rfl, (blk_cell BK253.out 3).trans rfl, (blk_cell BK253.out 4).trans rfl, (blk_cell BK253.out 5).trans rfl, (blk_cell BK253.out 6).trans rfl⟩ (fun hHeld => ?_)
               clear hK K
               refine norm_ (a' := ?_) ?_ ?_
               rotate_left
               ·show Act.put _ (some 68) _ = _
                simp only [Act.put, List.setIfInBounds_toArray, List.set_cons_zero, List.set_cons_succ, i64_w, i32_w]
                rfl
               refine pure_ (i := 30) (N := some 69) (v := ?_) (a' := ?_) #[true, true, true, true, true, true, true, true, true, true, true, true, true, true, true, true, true, true, true, true, true, true, true, true, true, true, true, true, true, true, true, false] rfl rfl (any_of HT_.out (by kernel_rfl)) (fun _ _ _ h => h) (Or.inl ⟨by rfl, ?_⟩) ?_ ?_
               rotate_left
               ·intro w'
                go_simp
                with_reducible rfl
               rotate_left
               ·simp only [Act.put, List.setIfInBounds_toArray, List.set_cons_zero, List.set_cons_succ, i64_w, i32_w]
                rfl
               refine pure_ (i := 31) (N := some 5) (v := ?_) (a' := ?_) #[true, true, true, true, true, true, true, true, true, true, true, true, true, true, true, true, true, true, true, true, true, true, true, true, true, true, true, true, true, true, true, true] rfl rfl (any_of HT_.out (by kernel_rfl)) (fun _ _ _ h => h) (Or.inl ⟨by rfl, ?_⟩) ?_ ?_
               rotate_left
               ·intro w'
                go_simp
                with_reducible rfl
               rotate_left
               ·simp only [Act.put, List.setIfInBounds_toArray, List.set_cons_zero, List.set_cons_succ, i64_w, i32_w]
                rfl
               refine done_ (done_of HT_.out (by kernel_rfl)) ?_
               obtain ⟨hcz45_0, hcz45_1, hcz45_2, hcz45_3, hcz45_4, hcz45_5, hcz45_6, hfz45_0, hfz45_1, hfz45_2, hfz45_3, hfz45_4, hfz45_5, hfz45_6⟩ := cx17_bc7 BK253.out
               try go_wp2
               go_loopg [5, 8, 9] k1 (fun kq v5 v8 v9 w' => ∃ (x5_2 : ByteArray) (x8_2 : Int) (x9_2 : Int), v5 = .string x5_2 ∧ v8 = .int .u64 x8_2 ∧ v9 = .int .i64 x9_2 ∧ Aside0 (postroomref11_Put.l1 kq x5_2 x6_1 x8_2 x9_2 a0_0 a0_1 l0_2 ((rd_T57 l0_2 x6_1).f0) ((rd_T57 l0_2 x6_1).f1) ((rd_T57 l0_2 x6_1).f2) ((rd_T57 l0_2 x6_1).f3) ((rd_T57 l0_2 x6_1).f4) ((rd_T57 l0_2 x6_1).f5) ((rd_T57 l0_2 x6_1).f6) = some (r1, r2)) ∧ Aside0 (kq ≤ k1) ∧ Aside0 (w'.heap[gb247]? = some (.cells #[.int .u64 a0_0, .int .u64 a0_1, (.slice (some ad252) l0_2.length c0_2)] 30 (0, 0))) ∧ Aside0 (w'.heap[gb253]? = some (.cells #[.string ((rd_T57 l0_2 x6_1).f0), .int .u64 ((rd_T57 l0_2 x6_1).f1), .int .u64 ((rd_T57 l0_2 x6_1).f2), (.slice A252_3 ((rd_T57 l0_2 x6_1).f3).length c252_3), .int .u64 ((rd_T57 l0_2 x6_1).f4), .int .u64 ((rd_T57 l0_2 x6_1).f5), .int .u64 ((rd_T57 l0_2 x6_1).f6)] 57 (0, 0))) ∧ Aside0 (Below w.heap.size w w'))
               case atStart => exact ⟨(((((((x5_1 ++ t254) ++ t255) ++ t256) ++ t257) ++ t258) ++ t259) ++ t260), ((rd_T57 l0_2 x6_1).f2), (0), zx17_6, zx17_6, zx17_6, H', ⟨Nat.le_refl _⟩, ⟨by (with_reducible repeat (first | refine blk_drewN ?_ _ | refine blk_drew ?_ | refine blk_alloc ?_ _)); exact BK247.out⟩, ⟨by (with_reducible repeat (first | refine blk_drewN ?_ _ | refine blk_drew ?_ | refine blk_alloc ?_ _)); exact BK253.out⟩, ⟨by repeat (first | (with_reducible first | exact HB.out | apply below_alloc | apply pw_below_drewN | apply below_drew1 | refine below_set ?_ GE247.out | refine below_set ?_ GE253.out) | exact HB.out)⟩⟩
               case round =>
                clear H'
                (try clear c1); (try clear c2); (try clear p2); (try clear q2); (try clear hx2); (try clear c3); (try clear c6); (try clear c6b0); (try clear c6b1); (try clear c6b2); (try clear c8); (try clear c8b0); (try clear c8b1); (try clear c8b2); (try clear c12); (try clear c16); (try clear c16b0); (try clear c17); (try clear c17b0); (try clear c19); (try clear c19b0); (try clear c19b1); (try clear c19b2); (try clear c21); (try clear c21b0); (try clear c21b1); (try clear c21b2); (try clear c23); (try clear c23b0); (try clear c23b1); (try clear c23b2); (try clear c25); (try clear c25b0); (try clear c25b1); (try clear c25b2); (try clear p25); (try clear q25); (try clear hx25); (try clear c26); (try clear c27); (try clear c27b0); (try clear c27b1); (try clear c27b2); (try clear c29); (try clear c29b0); (try clear c29b1); (try clear c29b2); (try clear c31); (try clear c31b0); (try clear c31b1); (try clear c31b2); (try clear c34); (try clear hcz10_0); (try clear hcz10_1); (try clear hcz10_2); (try clear hcz32_0); (try clear hcz32_1); (try clear hcz32_2); (try clear hcz35_0); (try clear hcz35_1); (try clear hcz35_2); (try clear hcz35_3); (try clear hcz35_4); (try clear hcz35_5); (try clear hcz35_6); (try clear hcz45_0); (try clear hcz45_1); (try clear hcz45_2); (try clear hcz45_3); (try clear hcz45_4); (try clear hcz45_5); (try clear hcz45_6); (try clear hfz10_0); (try clear hfz10_1); (try clear hfz10_2); (try clear hfz32_0); (try clear hfz32_1); (try clear hfz32_2); (try clear hfz35_0); (try clear hfz35_1); (try clear hfz35_2); (try clear hfz35_3); (try clear hfz35_4); (try clear hfz35_5); (try clear hfz35_6); (try clear hfz45_0); (try clear hfz45_1); (try clear hfz45_2); (try clear hfz45_3); (try clear hfz45_4); (try clear hfz45_5); (try clear hfz45_6); (try clear hx252_0); (try clear hx252_1); (try clear hx252_2); (try clear hx252_3); (try clear hx252_4); (try clear hx252_5); (try clear hx252_6); (try clear p2); (try clear p252); (try clear q252)
                obtain ⟨x5_2, x8_2, x9_2, rfl, rfl, rfl, HA, HK2, BK247, BK253, HB⟩ := hrel
                cases gk with
                | zero => exact absurd HA.out (by simp [postroomref11_Put.l1])
                | succ k2 =>
                 have H := HA.out
                 clear HA
                 simp only [postroomref11_Put.l1] at H
                 by_cases c46 : x9_2 < (((rd_T57 l0_2 x6_1).f3).length : Int)
                 ·rw [if_pos c46] at H
                  have c46b0 : decide (x9_2 < (((rd_T57 l0_2 x6_1).f3).length : Int)) = true := decide_eq_true c46
                  clear c46
                  by_cases c47 : 0 ≤ x9_2
                  ·rw [if_pos c47] at H
                   have c47b0 : decide (0 ≤ x9_2) = true := decide_eq_true c47
                   clear c47
                   replace H := Option.bind_eq_some_iff.mp H
                   obtain ⟨t262, A480, H⟩ := H
                   replace H : (if x5_2.size + t262.size ≤ 9223372036854775807 then (postroomref11_Put.l1 k2 (x5_2 ++ t262) x6_1 (rd ((rd_T57 l0_2 x6_1).f3) x9_2) (wrap64 (x9_2 + 1)) a0_0 a0_1 l0_2 ((rd_T57 l0_2 x6_1).f0) ((rd_T57 l0_2 x6_1).f1) ((rd_T57 l0_2 x6_1).f2) ((rd_T57 l0_2 x6_1).f3) ((rd_T57 l0_2 x6_1).f4) ((rd_T57 l0_2 x6_1).f5) ((rd_T57 l0_2 x6_1).f6)) else (none)) = some (r1, r2) := H
                   have A48 := Aside0.mk A480
                   clear A480
                   by_cases c49 : x5_2.size + t262.size ≤ 9223372036854775807
                   ·rw [if_pos c49] at H
                    have c49b0 := eq_true c49
                    have c49b1 : decide (x5_2.size + t262.size ≤ 9223372036854775807) = true := decide_eq_true c49
                    try have c49b2 : (9223372036854775807 < x5_2.size + t262.size) = False := eq_false (Nat.not_lt.2 c49)
                    clear c49
                    have H' := Aside0.mk H
                    clear H
                    have hnb50 := NB253_247.out
                    have hnc50 := NB247_253.out
                    obtain ⟨hcz51_0, hcz51_1, hcz51_2, hcz51_3, hcz51_4, hcz51_5, hcz51_6, hfz51_0, hfz51_1, hfz51_2, hfz51_3, hfz51_4, hfz51_5, hfz51_6⟩ := cx17_bc7 BK253.out
                    have p261 : 0 ≤ (x9_2 : Int) := of_decide_eq_true zx17_7
                    have q261 : x9_2 < (((rd_T57 l0_2 x6_1).f3).length : Int) := of_decide_eq_true zx17_7
                    obtain ⟨ad261, e261, hx261_0⟩ := Kd.at_int HR252_3.out x9_2 p261 q261
                    cases e261
                    replace hx261_0 := (HB.out.cell (World.block_lt_of_cell? w _ hx261_0)).trans hx261_0
                    replace p261 := eq_true p261
                    replace q261 := eq_true q261
                    go_wp2_with (first | ((with_reducible refine gate_callee (f := 25) rfl ?_); refine goesL_ (some 87) rfl rfl Tryd.func25 (by kernel_rfl) rfl #[.int .u64 (IntKind.u64.wrap ((rd ((rd_T57 l0_2 x6_1).f3) x9_2) - x8_2))] rfl zx17_1 ?_; (with_reducible refine (postroomref1_Put.calls k2 (IntKind.u64.wrap ((rd ((rd_T57 l0_2 x6_1).f3) x9_2) - x8_2)) t262 _ A48.out).mono ?_); rintro e w52 ⟨rfl, hb⟩; refine ⟨_, rfl, ?_⟩; have n0_ := Aside0.mk (blk_below (g := gb247) (o := .cells #[.int .u64 a0_0, .int .u64 a0_1, .slice (some ad252) l0_2.length c0_2] 30 (0, 0)) zx17_0 hb); have n1_ := Aside0.mk (blk_below (g := gb253) (o := .cells #[.string ((rd_T57 l0_2 x6_1).f0), .int .u64 ((rd_T57 l0_2 x6_1).f1), .int .u64 ((rd_T57 l0_2 x6_1).f2), .slice (some ad261) ((rd_T57 l0_2 x6_1).f3).length c252_3, .int .u64 ((rd_T57 l0_2 x6_1).f4), .int .u64 ((rd_T57 l0_2 x6_1).f5), .int .u64 ((rd_T57 l0_2 x6_1).f6)] 57 (0, 0)) zx17_4 hb); have n2_ := Aside0.mk (below_step zx17_2 hb); clear BK247; clear BK253; clear HB; have BK247 := n0_; have BK253 := n1_; have HB := n2_; clear n0_ n1_ n2_; (try clear hb); (try clear hb2); (try clear hk); (try clear hi); have hcz53_0 : w52.cell? ⟨gb253, 0, none⟩ = some (.string ((rd_T57 l0_2 x6_1).f0)) := (blk_cell BK253.out 0).trans rfl; have hcz53_1 : w52.cell? ⟨gb253, 1, none⟩ = some (.int .u64 ((rd_T57 l0_2 x6_1).f1)) := (blk_cell BK253.out 1).trans rfl; have hcz53_2 : w52.cell? ⟨gb253, 2, none⟩ = some (.int .u64 ((rd_T57 l0_2 x6_1).f2)) := (blk_cell BK253.out 2).trans rfl; have hcz53_3 : w52.cell? ⟨gb253, 3, none⟩ = some (.slice (some ad261) ((rd_T57 l0_2 x6_1).f3).length c252_3) := (blk_cell BK253.out 3).trans rfl; have hcz53_4 : w52.cell? ⟨gb253, 4, none⟩ = some (.int .u64 ((rd_T57 l0_2 x6_1).f4)) := (blk_cell BK253.out 4).trans rfl; have hcz53_5 : w52.cell? ⟨gb253, 5, none⟩ = some (.int .u64 ((rd_T57 l0_2 x6_1).f5)) := (blk_cell BK253.out 5).trans rfl; have hcz53_6 : w52.cell? ⟨gb253, 6, none⟩ = some (.int .u64 ((rd_T57 l0_2 x6_1).f6)) := (blk_cell BK253.out 6).trans rfl; have hfz53_0 := blk_frozen BK253.out 0; have hfz53_1 := blk_frozen BK253.out 1; have hfz53_2 := blk_frozen BK253.out 2; have hfz53_3 := blk_frozen BK253.out 3; have hfz53_4 := blk_frozen BK253.out 4; have hfz53_5 := blk_frozen BK253.out 5; have hfz53_6 := blk_frozen BK253.out 6; have p263 : 0 ≤ (x9_2 : Int) := of_decide_eq_true zx17_7; have q263 : x9_2 < (((rd_T57 l0_2 x6_1).f3).length : Int) := of_decide_eq_true zx17_7; obtain ⟨ad263, e263, hx263_0⟩ := Kd.at_int HR252_3.out x9_2 p263 q263; obtain rfl : ad261 = ad263 := (by injection e263); replace hx263_0 := (HB.out.cell (World.block_lt_of_cell? w _ hx263_0)).trans hx263_0; replace p263 := eq_true p263; replace q263 := eq_true q263))
                    go_roundg k2
                    case measure => have := HK1.out; have := HK2.out; omega
                    case rel => exact ⟨(x5_2 ++ t262), (rd ((rd_T57 l0_2 x6_1).f3) x9_2), (wrap64 (x9_2 + 1)), zx17_6, zx17_6, zx17_6, H', ⟨by have := HK1.out; have := HK2.out; omega⟩, ⟨by (with_reducible repeat (first | refine blk_drewN ?_ _ | refine blk_drew ?_ | refine blk_alloc ?_ _)); exact BK247.out⟩, ⟨by (with_reducible repeat (first | refine blk_drewN ?_ _ | refine blk_drew ?_ | refine blk_alloc ?_ _)); exact BK253.out⟩, ⟨by repeat (first | (with_reducible first | exact HB.out | apply below_alloc | apply pw_below_drewN | apply below_drew1 | refine below_set ?_ GE247.out | refine below_set ?_ GE253.out) | exact HB.out)⟩⟩
                   ·rw [if_neg c49] at H
                    exact absurd H (by simp)
                  ·rw [if_neg c47] at H
                   exact absurd H (by simp)
                 ·rw [if_neg c46] at H
                  have c46b0 : decide (x9_2 < (((rd_T57 l0_2 x6_1).f3).length : Int)) = false := decide_eq_false c46
                  clear c46
                  have H' := Aside0.mk H
                  clear H
                  have hnb54 := NB253_247.out
                  have hnc54 := NB247_253.out
                  obtain ⟨hcz55_0, hcz55_1, hcz55_2, hcz55_3, hcz55_4, hcz55_5, hcz55_6, hfz55_0, hfz55_1, hfz55_2, hfz55_3, hfz55_4, hfz55_5, hfz55_6⟩ := cx17_bc7 BK253.out
                  go_wp2
                  go_roundg k2
                  case measure => have := HK1.out; have := HK2.out; omega
                  case rel => exact ⟨(x5_2), (wrap64 (x6_1 + 1)), zx17_6, zx17_6, H', ⟨by have := HK1.out; have := HK2.out; omega⟩, ⟨by (with_reducible repeat (first | refine blk_drewN ?_ _ | refine blk_drew ?_ | refine blk_alloc ?_ _)); exact BK247.out⟩, ⟨by repeat (first | (with_reducible first | exact HB.out | apply below_alloc | apply pw_below_drewN | apply below_drew1 | refine below_set ?_ GE247.out | refine below_set ?_ GE253.out) | exact HB.out)⟩⟩
              ·rw [if_neg c31] at H
               exact absurd H (by simp)
             ·rw [if_neg c29] at H
              exact absurd H (by simp)
            ·rw [if_neg c27] at H
             exact absurd H (by simp)
           ·rw [if_neg c25] at H
            exact absurd H (by simp)
          ·rw [if_neg c23] at H
           exact absurd H (by simp)
         ·rw [if_neg c21] at H
          exact absurd H (by simp)
        ·rw [if_neg c19] at H
         exact absurd H (by simp)
       ·rw [if_neg c17] at H
        exact absurd H (by simp)
      ·rw [if_neg c16] at H
       have c16b0 : decide (x6_1 < (l0_2.length : Int)) = false := decide_eq_false c16
       clear c16
       simp only [Option.some.injEq, Prod.mk.injEq] at H
       obtain ⟨rfl, rfl⟩ := H
       obtain ⟨hcz56_0, hcz56_1, hcz56_2, hfz56_0, hfz56_1, hfz56_2⟩ := cx17_bc3 BK247.out
       go_wp2
       go_ret2
       exact ⟨by first | rfl | (simp [errW_none, errW_some] <;> rfl) | (simp [*, errW_none, errW_some] <;> rfl), by repeat (first | (with_reducible first | exact HB.out | apply below_alloc | apply pw_below_drewN | apply below_drew1 | refine below_set ?_ GE247.out) | exact HB.out)⟩
   ·rw [if_neg c8] at H
    exact absurd H (by simp)
  ·rw [if_neg c6] at H
   exact absurd H (by simp)
 ·replace c3 := Bool.eq_false_iff.mpr c3
  subst c3
  have H1 : (some ((⟨#[]⟩ : ByteArray), 1)) = some (r1, r2) := by rw [if_neg (show ¬ (false = true) by decide)] at H; exact H
  clear H
  have H := H1
  clear H1
  simp only [Option.some.injEq, Prod.mk.injEq] at H
  obtain ⟨rfl, rfl⟩ := H
  go_enter Tryd.func12, Tryd.ntmps12
  go_wp2_with (first | ((with_reducible refine gate_dst (N := 1) rfl ?_); refine box_event ?hg (N := 1) ?hd (cs := #[.int .u64 a0_0, .int .u64 a0_1, .slice A0_2 l0_2.length c0_2]) (t := 30) ?hr ?_; (case hd => rfl); (case hg => rfl); (case hr => first | (go_simp; done) | (go_simp; rfl)); intro gb247 hg w57 hbox hb; have n0_ := Aside0.mk (below_step zx17_5 hb); have n1_ := Aside0.mk (hbox); have n2_ := Aside0.mk ((by rw [hg]; exact (below_size zx17_5) : w.heap.size ≤ gb247)); have n3_ := Aside0.mk ((by rw [hg]; exact (below_size zx17_5) : w.heap.size ≤ gb247)); clear HB; have HB := n0_; have BK247 := n1_; have GW247 := n2_; have GE247 := n3_; clear n0_ n1_ n2_ n3_; clear hb hbox hg; have hcz58_0 : w57.cell? ⟨gb247, 0, none⟩ = some (.int .u64 a0_0) := (blk_cell BK247.out 0).trans rfl; have hcz58_1 : w57.cell? ⟨gb247, 1, none⟩ = some (.int .u64 a0_1) := (blk_cell BK247.out 1).trans rfl; have hcz58_2 : w57.cell? ⟨gb247, 2, none⟩ = some (.slice A0_2 l0_2.length c0_2) := (blk_cell BK247.out 2).trans rfl; have hfz58_0 := blk_frozen BK247.out 0; have hfz58_1 := blk_frozen BK247.out 1; have hfz58_2 := blk_frozen BK247.out 2) | ((with_reducible refine gate_callee (f := 16) rfl ?_); refine goesL_ (some 11) rfl rfl Tryd.func16 (by kernel_rfl) rfl #[.agg #[.int .u64 a0_0, .int .u64 a0_1, .slice A0_2 l0_2.length c0_2]] rfl zx17_1 ?_; (with_reducible refine (postroomref11_Right.calls k a0_0 a0_1 _ _ l0_2 false _ ?side1 ?side2 A2.out).mono ?_); (case side1 => repeat (first | exact (Kd.C_below HR0_2.out HB.out) | (with_reducible refine Kd.C_alloc ?_ _) | (with_reducible refine Kd.C_drewN ?_ _) | (with_reducible refine Kd.C_drew ?_))); (case side2 => exact HC0_2.out); rintro e w59 ⟨rfl, hb⟩; refine ⟨_, rfl, ?_⟩; have n0_ := Aside0.mk (blk_below (g := gb247) (o := .cells #[.int .u64 a0_0, .int .u64 a0_1, .slice A0_2 l0_2.length c0_2] 30 (0, 0)) zx17_0 hb); have n1_ := Aside0.mk (below_step zx17_3 hb); clear BK247; clear HB; have BK247 := n0_; have HB := n1_; clear n0_ n1_; (try clear hb); (try clear hb2); (try clear hk); (try clear hi)))
  go_ret2
  exact ⟨by first | rfl | (simp [errW_none, errW_some] <;> rfl) | (simp [*, errW_none, errW_some] <;> rfl), by repeat (first | (with_reducible first | exact HB.out | apply below_alloc | apply pw_below_drewN | apply below_drew1 | refine below_set ?_ GE247.out) | exact HB.out)⟩

end Go.Proofs.YtmbigoeldobaiaaDoor.XMrk
end
section
/- What the functions of the translation answer, each as a plain Lean function, and that the code comes to it; for a law: its row. Conditions: none but those that each theorem names. Written by a program of this session (wip/xp). -/
namespace Go.Proofs.YtmbigoeldobaiaaDoor.XMrk
open Go.RowKit Go.Proofs.YtmbigoeldobaiaaDoorW.PrintWords Go.Proofs.YtmbigoeldobaiaaDoorW.PrintLast Go.Proofs.YtmbigoeldobaiaaDoorW.PrintMore
attribute [local go_sem] max2_int min2_int max_two min_two max_three min_three max_four min_four   -- for this text's walks alone
theorem cx21_bc3 {w : World} {g : Nat} {t : TypeId} {x0 x1 x2 : Value} (h : w.heap[g]? = some (.cells #[x0, x1, x2] t (0, 0))) : w.cell? ⟨g, 0, none⟩ = some x0 ∧ w.cell? ⟨g, 1, none⟩ = some x1 ∧ w.cell? ⟨g, 2, none⟩ = some x2 ∧ w.frozen? ⟨g, 0, none⟩ = false ∧ w.frozen? ⟨g, 1, none⟩ = false ∧ w.frozen? ⟨g, 2, none⟩ = false :=
 ⟨(blk_cell h 0).trans rfl, (blk_cell h 1).trans rfl, (blk_cell h 2).trans rfl, blk_frozen h 0, blk_frozen h 1, blk_frozen h 2⟩
theorem zx21_10 {p : Prop} (h : p := by first | (with_reducible assumption) | assumption) : p := h
theorem zx21_4 {p : Prop} (h : p := by (with_reducible repeat (first | apply Kd.R_alloc | apply Kd.R_drewN | apply Kd.R_drew)); exact HO_4.out) : p := h
theorem zx21_5 {p : Prop} (h : p := by (with_reducible repeat (first | apply Kd.S_alloc | apply Kd.S_drewN | apply Kd.S_drew)); exact HO_310002.out) : p := h
theorem zx21_1 {p : Prop} (h : p := by (with_reducible repeat (first | refine blk_drewN ?_ _ | refine blk_drew ?_ | refine blk_alloc ?_ _)); exact BK300.out) : p := h
theorem zx21_3 {p : Prop} (h : p := by (with_reducible repeat (first | refine blk_drewN ?_ _ | refine blk_drew ?_ | refine blk_alloc ?_ _)); exact BK309.out) : p := h
theorem zx21_11 {p : Prop} (h : p := by repeat (first | (with_reducible first | exact HB.out | apply below_alloc | apply pw_below_drewN | apply below_drew1) | exact HB.out)) : p := h
theorem zx21_7 {p : Prop} (h : p := by (try simp only [List.map_toArray, List.map_cons, List.map_nil]); first | done | rfl | (simp only [List.length_drop, List.length_take]; rfl)) : p := h
theorem zx21_8 {p : Prop} (h : p := by repeat (first | (with_reducible first | exact HB.out | apply below_alloc | apply pw_below_drewN | apply below_drew1 | refine below_set ?_ GE300.out) | exact HB.out)) : p := h
theorem zx21_0 {p : Prop} (h : p := by repeat (first | (with_reducible first | exact HB.out | apply below_alloc | apply pw_below_drewN | apply below_drew1 | refine below_set ?_ GE300.out | refine below_set ?_ GE309.out) | exact HB.out)) : p := h
theorem zx21_9 {p : Prop} (h : p := by repeat (first | (with_reducible first | exact HB.out | apply below_alloc | apply pw_below_drewN | apply below_drew1 | refine below_set ?_ GE300.out | refine below_set ?_ GE309.out | refine below_set ?_ GE322.out) | exact HB.out)) : p := h
theorem zx21_2 {p : Prop} (h : p := by first | exact Kd.own_blk (Kd.R_ne HO_4.out BK309.out (by decide)) | (rw [add_block]; exact Kd.own_blk (Kd.R_ne HO_4.out BK309.out (by decide))) | (show (Addr.add _ _).block ≠ _; rw [add_block]; exact Kd.own_blk (Kd.R_ne HO_4.out BK309.out (by decide))) | (dsimp only; exact Kd.own_blk (Kd.R_ne HO_4.out BK309.out (by decide)))) : p := h
theorem zx21_6 {p : Prop} (h : p := by (with_reducible repeat (first | refine blk_drewN ?_ _ | refine blk_drew ?_ | refine blk_alloc ?_ _)); refine blk_put (cs := #[.int .u64 0, .int .u64 0, .slice none 0 0]) ?_ 2 _ rfl; (with_reducible repeat (first | refine blk_drewN ?_ _ | refine blk_drew ?_ | refine blk_alloc ?_ _)); refine blk_put (cs := #[.int .u64 0, .int .u64 x301001_2, .slice none 0 0]) ?_ 1 _ rfl; (with_reducible repeat (first | refine blk_drewN ?_ _ | refine blk_drew ?_ | refine blk_alloc ?_ _)); refine blk_put (cs := #[.int .u64 x301000_2, .int .u64 x301001_2, .slice none 0 0]) ?_ 0 _ rfl; (with_reducible repeat (first | refine blk_drewN ?_ _ | refine blk_drew ?_ | refine blk_alloc ?_ _)); exact BK300.out) : p := h
set_option linter.unusedVariables false
set_option linter.unusedSimpArgs false

/-! ### postroomref11_Take: function 14 -/
mutual
def postroomref11_Take.j0 : Nat → ByteArray → List Int → ByteArray → Bool → Option (Int × Int × (List (S57)) × Int)
 | 0, _, _, _, _ => none
 | k + 1, x0, x4, x5, x27 => if x27 = true then (some (0, 0, ([] : List (S57)), 2)) else (if 0 < (x4.length : Int) then (if 1 < (x4.length : Int) then (postroomref11_Take.l0 k x0 x4 x5 0 (rd x4 0) (rd x4 1) ([] : List (S57))) else (none)) else (none))
def postroomref11_Take.l0 : Nat → ByteArray → List Int → ByteArray → Int → Int → Int → List (S57) → Option (Int × Int × (List (S57)) × Int)
 | 0, _, _, _, _, _, _, _ => none
 | k + 1, x0, x4, x5, x8, x310000, x310001, x310002 => if 2 < (x4.length : Int) then (if x8 < (rd x4 2) then ((postroomref11_dest.f k x5).bind fun bt311 => (if bt311.2.2.2.2.2.2.2.2 = true then (if x310002.length < 1759218604441 then (postroomref11_Take.l0 k x0 x4 bt311.2.2.2.2.2.2.2.1 (IntKind.u64.wrap (x8 + 1)) x310000 x310001 (x310002 ++ [(⟨bt311.1, bt311.2.1, bt311.2.2.1, bt311.2.2.2.1, bt311.2.2.2.2.1, bt311.2.2.2.2.2.1, bt311.2.2.2.2.2.2.1⟩ : S57)])) else (none)) else (some (0, 0, ([] : List (S57)), 2)))) else ((postroomref11_Put.f k x310000 x310001 x310002).bind fun bt326 => (if bt326.2 = 0 then (if bt326.1.toList = x0.toList then (some (x310000, x310001, x310002, 0)) else (some (0, 0, ([] : List (S57)), 2))) else (some (0, 0, ([] : List (S57)), 2))))) else (none)
end
def postroomref11_Take.f (k : Nat) (a0 : ByteArray) : Option (Int × Int × (List (S57)) × Int) := (postroomref11_row.f k a0 3).bind fun bt301 => (if bt301.2.2 = true then (if 2 < (bt301.1.length : Int) then (postroomref11_Take.j0 k a0 bt301.1 bt301.2.1 (decide ((rd bt301.1 2) > 4))) else (none)) else (postroomref11_Take.j0 k a0 bt301.1 bt301.2.1 true))
theorem postroomref11_Take.mono_l : ∀ k, (∀ y0 y1 y2 y3, LeO (postroomref11_Take.j0 k y0 y1 y2 y3) (postroomref11_Take.j0 (k + 1) y0 y1 y2 y3)) ∧ (∀ y0 y1 y2 y3 y4 y5 y6, LeO (postroomref11_Take.l0 k y0 y1 y2 y3 y4 y5 y6) (postroomref11_Take.l0 (k + 1) y0 y1 y2 y3 y4 y5 y6))
 | 0 => ⟨fun _ _ _ _ r h => by simp [postroomref11_Take.j0] at h, fun _ _ _ _ _ _ _ r h => by simp [postroomref11_Take.l0] at h⟩
 | k + 1 => by
  obtain ⟨ih0, ih1⟩ := postroomref11_Take.mono_l k
  refine ⟨?_, ?_⟩
  ·intro y0 y1 y2 y3
   unfold postroomref11_Take.j0
   repeat' first
   | (with_reducible exact ih0 _ _ _ _)
   | (with_reducible exact ih1 _ _ _ _ _ _ _)
   | (with_reducible exact postroomref11_Put.mono _ _ _ _)
   | (with_reducible exact postroomref11_dest.mono _ _)
   | (with_reducible exact postroomref11_row.mono _ _ _)
   | (with_reducible exact LeO.refl _)
   | (with_reducible exact LeO.none _)
   | (with_reducible refine LeO.ite ?_ ?_)
   | (with_reducible refine LeO.bind ?_ (fun _ => ?_))
   | exact ih0 _ _ _ _
   | exact ih1 _ _ _ _ _ _ _
   | exact postroomref11_Put.mono _ _ _ _
   | exact postroomref11_dest.mono _ _
   | exact postroomref11_row.mono _ _ _
   | exact LeO.none _
   | refine LeO.ite ?_ ?_
   | refine LeO.bind ?_ (fun _ => ?_)
  ·intro y0 y1 y2 y3 y4 y5 y6
   unfold postroomref11_Take.l0
   repeat' first
   | (with_reducible exact ih0 _ _ _ _)
   | (with_reducible exact ih1 _ _ _ _ _ _ _)
   | (with_reducible exact postroomref11_Put.mono _ _ _ _)
   | (with_reducible exact postroomref11_dest.mono _ _)
   | (with_reducible exact postroomref11_row.mono _ _ _)
   | (with_reducible exact LeO.refl _)
   | (with_reducible exact LeO.none _)
   | (with_reducible refine LeO.ite ?_ ?_)
   | (with_reducible refine LeO.bind ?_ (fun _ => ?_))
   | exact ih0 _ _ _ _
   | exact ih1 _ _ _ _ _ _ _
   | exact postroomref11_Put.mono _ _ _ _
   | exact postroomref11_dest.mono _ _
   | exact postroomref11_row.mono _ _ _
   | exact LeO.none _
   | refine LeO.ite ?_ ?_
   | refine LeO.bind ?_ (fun _ => ?_)
theorem postroomref11_Take.mono : ∀ a0 k, LeO (postroomref11_Take.f k a0) (postroomref11_Take.f (k + 1) a0) := by
 intro a0 k
 obtain ⟨ih0, ih1⟩ := postroomref11_Take.mono_l k
 unfold postroomref11_Take.f
 repeat' first
   | (with_reducible exact ih0 _ _ _ _)
   | (with_reducible exact ih1 _ _ _ _ _ _ _)
   | (with_reducible exact postroomref11_Put.mono _ _ _ _)
   | (with_reducible exact postroomref11_dest.mono _ _)
   | (with_reducible exact postroomref11_row.mono _ _ _)
   | (with_reducible exact LeO.refl _)
   | (with_reducible exact LeO.none _)
   | (with_reducible refine LeO.ite ?_ ?_)
   | (with_reducible refine LeO.bind ?_ (fun _ => ?_))
   | exact ih0 _ _ _ _
   | exact ih1 _ _ _ _ _ _ _
   | exact postroomref11_Put.mono _ _ _ _
   | exact postroomref11_dest.mono _ _
   | exact postroomref11_row.mono _ _ _
   | exact LeO.none _
   | refine LeO.ite ?_ ?_
   | refine LeO.bind ?_ (fun _ => ?_)
def postroomref11_Take.T4 : Bool × List (List Nat × List Nat) := (true, [([], []), ([0], [0]), ([1], [1]), ([], []), ([3], [3]), ([4], [4]), ([2, 5], [2, 5]), ([], []), ([7, 6, 0, 1, 2, 3, 4, 5, 6, 7], [6, 7])])
def postroomref11_Take.B4 : List Nat := [0, 1, 3, 0, 8, 24, 63, 0, 255]
theorem postroomref11_Take.tab4 : rtab .any (opsOf Tryd.f14 4) = postroomref11_Take.T4 := by kernel_rfl
theorem postroomref11_Take.bits4 : waitsOk postroomref11_Take.T4.2 postroomref11_Take.B4 = true := by kernel_rfl
set_option maxHeartbeats 8000000 in
set_option maxRecDepth 100000 in
theorem postroomref11_Take.calls (k : Nat) (a0 : ByteArray) (r1 : Int) (r2 : Int) (r3 : List (S57)) (r4 : Int) (w : World) (h : postroomref11_Take.f k a0 = some (r1, r2, r3, r4)) :
  Calls Tryd.prog 14 #[.string a0] w fun e w' => ∃ v2_ : Value, e = .returned (.tuple #[.agg #[.int .u64 r1, .int .u64 r2, v2_], .int .i64 r4]) ∧ Kd.S k57 57 w' w.heap.size (fun _ => True) v2_ r3 ∧ Below w.heap.size w w' := by
 have hu30 := Tryd.underlying30
 have hu57 := Tryd.underlying57
 have HB := Aside0.mk (Below.refl w.heap.size w)
 have H : ((postroomref11_row.f k a0 3).bind fun bt301 => (if bt301.2.2 = true then (if 2 < (bt301.1.length : Int) then (postroomref11_Take.j0 k a0 bt301.1 bt301.2.1 (decide ((rd bt301.1 2) > 4))) else (none)) else (postroomref11_Take.j0 k a0 bt301.1 bt301.2.1 true))) = some (r1, r2, r3, r4) := h
 clear h
 replace H := Option.bind_eq_some_iff.mp H
 obtain ⟨⟨t301, t302, t303⟩, A20, H⟩ := H
 replace H : (if t303 = true then (if 2 < (t301.length : Int) then (postroomref11_Take.j0 k a0 t301 t302 (decide ((rd t301 2) > 4))) else (none)) else (postroomref11_Take.j0 k a0 t301 t302 true)) = some (r1, r2, r3, r4) := H
 have A2 := Aside0.mk A20
 clear A20
 have HC3 := Aside0.mk H
 clear H
 go_enter Tryd.func14, Tryd.ntmps14
 go_upto_region 2 with (first | ((with_reducible refine gate_dst (N := 2) rfl ?_); refine box_event ?hg (N := 2) ?hd (cs := #[.int .u64 0, .int .u64 0, .slice none 0 0]) (t := 30) ?hr ?_; (case hd => rfl); (case hg => rfl); (case hr => first | (go_simp; done) | (go_simp; rfl)); intro gb300 hg w4 hbox hb; have n0_ := Aside0.mk (below_step zx21_11 hb); have n1_ := Aside0.mk (hbox); have n2_ := Aside0.mk ((by rw [hg]; exact (below_size zx21_11) : w.heap.size ≤ gb300)); have n3_ := Aside0.mk ((by rw [hg]; exact (below_size zx21_11) : w.heap.size ≤ gb300)); clear HB; have HB := n0_; have BK300 := n1_; have GW300 := n2_; have GE300 := n3_; clear n0_ n1_ n2_ n3_; clear hb hbox hg) | ((with_reducible refine gate_callee (f := 29) rfl ?_); refine goesL_ (some 16) rfl rfl Tryd.func29 (by kernel_rfl) rfl #[.string a0, .int .i64 3] rfl zx21_7 ?_; (with_reducible refine (postroomref11_row.calls k a0 3 t301 t302 t303 _ A2.out).mono ?_); rintro e w5 ⟨v304, rfl, ho0, hb⟩; refine ⟨_, rfl, ?_⟩; have n0_ := Aside0.mk (Kd.R_lower ho0 (below_size zx21_8)); have n1_ := Aside0.mk (blk_below (g := gb300) (o := .cells #[.int .u64 0, .int .u64 0, .slice none 0 0] 30 (0, 0)) zx21_1 hb); have n2_ := Aside0.mk (below_step zx21_8 hb); clear BK300; clear HB; have HO305 := n0_; have BK300 := n1_; have HB := n2_; clear n0_ n1_ n2_; (try clear hb); (try clear hb2); (try clear hk); (try clear hi); (try clear ho0)))
 (try simp only [Act.put, List.setIfInBounds_toArray, List.set_cons_zero, List.set_cons_succ])
 go_cut [27] (fun v27 wc => ∃ (kq : Nat) (x27_2 : Bool), v27 = .bool x27_2 ∧ Aside0 (postroomref11_Take.j0 kq a0 t301 t302 x27_2 = some (r1, r2, r3, r4)) ∧ Aside0 (kq ≤ k) ∧ Aside0 (Kd.R (Kd.int .u64) 22 wc w.heap.size (fun _ => True) v304 t301) ∧ Aside0 (wc.heap[gb300]? = some (.cells #[.int .u64 0, .int .u64 0, (.slice none 0 0)] 30 (0, 0))) ∧ Aside0 (Below w.heap.size w wc))
 case first =>
  have H := HC3.out
  clear HC3
  by_cases c6 : t303 = true
  ·subst c6
   have H1 : (if 2 < (t301.length : Int) then (postroomref11_Take.j0 k a0 t301 t302 (decide ((rd t301 2) > 4))) else (none)) = some (r1, r2, r3, r4) := by rw [if_pos rfl] at H; exact H
   clear H
   have H := H1
   clear H1
   by_cases c7 : 2 < (t301.length : Int)
   ·rw [if_pos c7] at H
    have c7b0 : decide (2 < (t301.length : Int)) = true := decide_eq_true c7
    have c7b1 : decide (2 < t301.length) = true := decide_eq_true (by omega)
    clear c7
    (first | rw [c7b0] | (simp only [i64_w, i32_w]; rw [c7b0]) | skip)
    have H' := Aside0.mk H
    clear H
    obtain ⟨Ao8, co8, eo8⟩ := Kd.R_slice HO305.out
    subst eo8
    have p306 : 0 ≤ (2 : Int) := (by omega)
    have q306 : 2 < (t301.length : Int) := of_decide_eq_true zx21_10
    obtain ⟨ad306, e306, hx306_0⟩ := Kd.at_int (Kd.R_reads' HO305.out).2.2 2 p306 q306
    cases e306
    (try simp only [show (2 : Int).toNat = 2 from rfl, Nat.reduceMul, Nat.reduceEqDiff, Go.Addr.add, ↓reduceIte] at hx306_0)
    have qi306 : (2 < t301.length) = True := eq_true (by omega)
    (try rw [show ((2 : Int)).toNat = 2 from rfl] at hx306_0)
    replace p306 := eq_true p306
    replace q306 := eq_true q306
    go_wp2
    go_meet
    case rel => exact ⟨_, (decide ((rd t301 2) > 4)), (by first | rfl | (simp; done) | (simp [*]; done)), H', ⟨by first | omega | exact Nat.le_refl _⟩, ⟨by (with_reducible repeat (first | apply Kd.R_alloc | apply Kd.R_drewN | apply Kd.R_drew)); exact HO305.out⟩, ⟨by (with_reducible repeat (first | refine blk_drewN ?_ _ | refine blk_drew ?_ | refine blk_alloc ?_ _)); exact BK300.out⟩, ⟨by repeat (first | (with_reducible first | exact HB.out | apply below_alloc | apply pw_below_drewN | apply below_drew1 | refine below_set ?_ GE300.out) | exact HB.out)⟩⟩
   ·rw [if_neg c7] at H
    exact absurd H (by simp)
  ·replace c6 := Bool.eq_false_iff.mpr c6
   subst c6
   have H1 : (postroomref11_Take.j0 k a0 t301 t302 true) = some (r1, r2, r3, r4) := by rw [if_neg (show ¬ (false = true) by decide)] at H; exact H
   clear H
   have H := H1
   clear H1
   have H' := Aside0.mk H
   clear H
   go_wp2
   go_meet
   case rel => exact ⟨_, (true), (by first | rfl | (simp; done) | (simp [*]; done)), H', ⟨by first | omega | exact Nat.le_refl _⟩, ⟨by (with_reducible repeat (first | apply Kd.R_alloc | apply Kd.R_drewN | apply Kd.R_drew)); exact HO305.out⟩, ⟨by (with_reducible repeat (first | refine blk_drewN ?_ _ | refine blk_drew ?_ | refine blk_alloc ?_ _)); exact BK300.out⟩, ⟨by repeat (first | (with_reducible first | exact HB.out | apply below_alloc | apply pw_below_drewN | apply below_drew1 | refine below_set ?_ GE300.out) | exact HB.out)⟩⟩
 case rest =>
  clear HC3
  (try clear c1); (try clear c2); (try clear p2); (try clear p3); (try clear q3); (try clear hx3); (try clear qi3); (try clear c6); (try clear c7); (try clear c7b0); (try clear c7b1); (try clear hx306_0); (try clear p306); (try clear q306)
  obtain ⟨kq, x27_2, rfl, HA, HJ2, HO_4, BK300, HB⟩ := hcut
  cases kq with
  | zero => exact absurd HA.out (by simp [postroomref11_Take.j0])
  | succ kj2 =>
   have H := HA.out
   clear HA
   simp only [postroomref11_Take.j0] at H
   by_cases c9 : x27_2 = true
   ·subst c9
    have H1 : (some (0, 0, ([] : List (S57)), 2)) = some (r1, r2, r3, r4) := by rw [if_pos rfl] at H; exact H
    clear H
    have H := H1
    clear H1
    simp only [Option.some.injEq, Prod.mk.injEq] at H
    obtain ⟨rfl, rfl, rfl, rfl⟩ := H
    obtain ⟨hcz10_0, hcz10_1, hcz10_2, hfz10_0, hfz10_1, hfz10_2⟩ := cx21_bc3 BK300.out
    go_wp2
    refine bodyPost_ret (results_ct rfl _ _ gb300 30 #[.int .u64 0, .int .u64 0, .slice none 0 0] (0, 0) _ rfl (by (with_reducible repeat (first | refine blk_drewN ?_ _ | refine blk_drew ?_ | refine blk_alloc ?_ _)); refine blk_put (cs := #[.int .u64 0, .int .u64 0, .slice none 0 0]) ?_ 2 _ rfl; (with_reducible repeat (first | refine blk_drewN ?_ _ | refine blk_drew ?_ | refine blk_alloc ?_ _)); refine blk_put (cs := #[.int .u64 0, .int .u64 0, .slice none 0 0]) ?_ 1 _ rfl; (with_reducible repeat (first | refine blk_drewN ?_ _ | refine blk_drew ?_ | refine blk_alloc ?_ _)); refine blk_put (cs := #[.int .u64 0, .int .u64 0, .slice none 0 0]) ?_ 0 _ rfl; (with_reducible repeat (first | refine blk_drewN ?_ _ | refine blk_drew ?_ | refine blk_alloc ?_ _)); exact BK300.out) Tryd.underlying30 rfl (by kernel_rfl)) rfl ?_
    exact ⟨_, by first | rfl | (simp [errW_none, errW_some] <;> rfl) | (simp [*, errW_none, errW_some] <;> rfl), by first | exact Kd.S_nil _ _ _ _ _ | exact Kd.N_nil _ _ _ _ _ | exact Kd.V_nil _ _ _ _ _ | exact Kd.Q_nil _ _ _ _ _ | exact Kd.R_nil _ _ _ _ _, by repeat (first | (with_reducible first | exact HB.out | apply below_alloc | apply pw_below_drewN | apply below_drew1 | refine below_set ?_ GE300.out) | exact HB.out)⟩
   ·replace c9 := Bool.eq_false_iff.mpr c9
    subst c9
    have H1 : (if 0 < (t301.length : Int) then (if 1 < (t301.length : Int) then (postroomref11_Take.l0 kj2 a0 t301 t302 0 (rd t301 0) (rd t301 1) ([] : List (S57))) else (none)) else (none)) = some (r1, r2, r3, r4) := by rw [if_neg (show ¬ (false = true) by decide)] at H; exact H
    clear H
    have H := H1
    clear H1
    by_cases c11 : 0 < (t301.length : Int)
    ·rw [if_pos c11] at H
     have c11b0 : decide (0 < (t301.length : Int)) = true := decide_eq_true c11
     have c11b1 : decide (0 < t301.length) = true := decide_eq_true (by omega)
     clear c11
     by_cases c12 : 1 < (t301.length : Int)
     ·rw [if_pos c12] at H
      have c12b0 : decide (1 < (t301.length : Int)) = true := decide_eq_true c12
      have c12b1 : decide (1 < t301.length) = true := decide_eq_true (by omega)
      clear c12
      have H' := Aside0.mk H
      clear H
      try go_wp2
      have n0_ := Aside0.mk (Kd.R_drew HO_4.out)
      have n1_ := Aside0.mk (blk_drew BK300.out)
      have n2_ := Aside0.mk (below_drew1 HB.out)
      clear HO_4
      clear BK300
      clear HB
      have HO_4 := n0_
      have BK300 := n1_
      have HB := n2_
      clear n0_ n1_ n2_
      obtain ⟨Ao14, co14, eo14⟩ := Kd.R_slice HO_4.out
      (first | subst eo14 | (injection eo14 with f1_ f2_ f3_; have f4_ := f1_.symm; have f5_ := f3_.symm; clear f1_ f2_ f3_; subst f4_; subst f5_))
      have p307 : 0 ≤ (0 : Int) := (by omega)
      have q307 : 0 < (t301.length : Int) := of_decide_eq_true zx21_10
      obtain ⟨ad307, e307, hx307_0⟩ := Kd.at_int (Kd.R_reads' HO_4.out).2.2 0 p307 q307
      cases e307
      have qi307 : (0 < t301.length) = True := eq_true (by omega)
      (try rw [show ((0 : Int)).toNat = 0 from rfl] at hx307_0)
      (try rw [Addr.add_zero'] at hx307_0)
      replace p307 := eq_true p307
      replace q307 := eq_true q307
      have p308 : 0 ≤ (1 : Int) := (by omega)
      have q308 : 1 < (t301.length : Int) := of_decide_eq_true zx21_10
      obtain ⟨ad308, e308, hx308_0⟩ := Kd.at_int (Kd.R_reads' HO_4.out).2.2 1 p308 q308
      obtain rfl : ad307 = ad308 := (by injection e308)
      (try simp only [show (1 : Int).toNat = 1 from rfl, Nat.reduceMul, Nat.reduceEqDiff, Go.Addr.add, ↓reduceIte] at hx308_0)
      have qi308 : (1 < t301.length) = True := eq_true (by omega)
      (try rw [show ((1 : Int)).toNat = 1 from rfl] at hx308_0)
      replace p308 := eq_true p308
      replace q308 := eq_true q308
      refine start_ (n := 9) (S := fun w' => w'.cell? ad307 = some (.int .u64 (rd t301 0)) ∧ w'.cell? ⟨ad307.block, ad307.off + 1, none⟩ = some (.int .u64 (rd t301 1))) (ds := []) #[false, false, false, false, false, false, false, false, false] (by kernel_rfl) rfl rfl ⟨hx307_0, hx308_0⟩ (fun hHeld => ?_); refine with_tabW postroomref11_Take.tab4 postroomref11_Take.bits4 (fun HT_ HW_ => ?_)
      generalize wc.drew = w13 at HO_4 BK300 HB hx307_0 hx308_0 hHeld ⊢
      refine pure_ (i := 0) (N := some 29) (v := ?_) (a' := ?_) #[true, false, false, false, false, false, false, false, false] rfl rfl (any_of HT_.out (by kernel_rfl)) (fun _ _ _ h => h) (Or.inl ⟨by rfl, ?_⟩) ?_ ?_
      rotate_left
      ·intro w'
       go_simp
       with_reducible rfl
      rotate_left
      ·simp only [Act.put, List.setIfInBounds_toArray, List.set_cons_zero, List.set_cons_succ, i64_w, i32_w]
       rfl
      refine pure_ (i := 1) (N := some 30) (v := ?_) (a' := ?_) #[true, true, false, false, false, false, false, false, false] rfl rfl (any_of HT_.out (by kernel_rfl)) (fun _ _ _ h => h) (Or.inl ⟨by rfl, ?_⟩) ?_ ?_
      rotate_left
      ·intro w'
       go_simp
       with_reducible rfl
      rotate_left
      ·simp only [Act.put, List.setIfInBounds_toArray, List.set_cons_zero, List.set_cons_succ, i64_w, i32_w]
       rfl
      refine pure_ (i := 3) (N := some 32) (v := ?_) (a' := ?_) #[true, true, false, true, false, false, false, false, false] rfl rfl (any_of HT_.out (by kernel_rfl)) (fun _ _ _ h => h) (Or.inl ⟨by rfl, ?_⟩) ?_ ?_
      rotate_left
      ·intro w'
       go_simp
       with_reducible rfl
      rotate_left
      ·simp only [Act.put, List.setIfInBounds_toArray, List.set_cons_zero, List.set_cons_succ, i64_w, i32_w]
       rfl
      refine pure_ (i := 4) (N := some 33) (v := ?_) (a' := ?_) #[true, true, false, true, true, false, false, false, false] rfl rfl (any_of HT_.out (by kernel_rfl)) (fun _ _ _ h => h) (Or.inl ⟨by rfl, ?_⟩) ?_ ?_
      rotate_left
      ·intro w'
       go_simp
       with_reducible rfl
      rotate_left
      ·simp only [Act.put, List.setIfInBounds_toArray, List.set_cons_zero, List.set_cons_succ, i64_w, i32_w]
       rfl
      refine take_ (i := 2) (N := some 31) (v := ?_) (a' := ?_) #[true, true, true, true, true, false, false, false, false] rfl rfl (take_ofW HT_.out HW_.out (by kernel_rfl)) (fun _ _ _ h => h) (Or.inl ⟨by rfl, ?_⟩) hHeld ?_ ?_
      rotate_left
      ·rintro w' ⟨s0, s1⟩
       go_simp
       with_reducible rfl
      rotate_left
      ·simp only [Act.put, List.setIfInBounds_toArray, List.set_cons_zero, List.set_cons_succ, i64_w, i32_w]
       rfl
      refine take_ (i := 5) (N := some 34) (v := ?_) (a' := ?_) #[true, true, true, true, true, true, false, false, false] rfl rfl (take_ofW HT_.out HW_.out (by kernel_rfl)) (fun _ _ _ h => h) (Or.inl ⟨by rfl, ?_⟩) hHeld ?_ ?_
      rotate_left
      ·rintro w' ⟨s0, s1⟩
       go_simp
       with_reducible rfl
      rotate_left
      ·simp only [Act.put, List.setIfInBounds_toArray, List.set_cons_zero, List.set_cons_succ, i64_w, i32_w]
       rfl
      refine pure_ (i := 6) (N := some 35) (v := ?_) (a' := ?_) #[true, true, true, true, true, true, true, false, false] rfl rfl (any_of HT_.out (by kernel_rfl)) (fun _ _ _ h => h) (Or.inl ⟨by rfl, ?_⟩) ?_ ?_
      rotate_left
      ·intro w'
       go_simp
       with_reducible rfl
      rotate_left
      ·simp only [Act.put, List.setIfInBounds_toArray, List.set_cons_zero, List.set_cons_succ, i64_w, i32_w]
       rfl
      refine one_ (i := 7) (N := some 7) #[true, true, true, true, true, true, true, true, false] rfl rfl (one_of HT_.out (by kernel_rfl)) (by decide) (fun K hK => ?_)
      refine box_step ?hg (N := 7) ?hd (cs := #[.int .u64 0, .int .u64 0, .slice none 0 0]) (t := 30) ?hr ?_; (case hd => rfl); (case hg => rfl); (case hr => first | (go_simp; done) | (go_simp; rfl))
      intro gb309 hg w15 hbox hb
      have HS0_ := (hb.cell (World.block_lt_of_cell? _ _ (hHeld.1))).trans (hHeld.1)
      have HS1_ := (hb.cell (World.block_lt_of_cell? _ _ (hHeld.2))).trans (hHeld.2)
      have n0_ := Aside0.mk (Kd.R_below zx21_4 hb)
      have n1_ := Aside0.mk (blk_below (g := gb300) (o := .cells #[.int .u64 0, .int .u64 0, .slice none 0 0] 30 (0, 0)) zx21_1 hb)
      have n2_ := Aside0.mk (below_step zx21_8 hb)
      have n3_ := Aside0.mk (hbox)
      have n4_ := Aside0.mk ((by rw [hg]; exact (below_size zx21_8) : w.heap.size ≤ gb309))
      have n5_ := Aside0.mk ((by rw [hg]; exact (below_size zx21_8) : w.heap.size ≤ gb309))
      have n6_ := Aside0.mk ((by rw [hg]; exact Nat.ne_of_lt (blk_lt (g := gb300) (o := .cells #[.int .u64 0, .int .u64 0, .slice none 0 0] 30 (0, 0)) zx21_1) : gb300 ≠ gb309))
      have n7_ := Aside0.mk ((by rw [hg]; exact Nat.ne_of_gt (blk_lt (g := gb300) (o := .cells #[.int .u64 0, .int .u64 0, .slice none 0 0] 30 (0, 0)) zx21_1) : gb309 ≠ gb300))
      clear HO_4
      clear BK300
      clear HB
      have HO_4 := n0_
      have BK300 := n1_
      have HB := n2_
      have BK309 := n3_
      have GW309 := n4_
      have GE309 := n5_
      have NB300_309 := n6_
      have NB309_300 := n7_
      clear n0_ n1_ n2_ n3_ n4_ n5_ n6_ n7_
      clear hb hbox hg
      refine hK.out _ _ ⟨HS0_, HS1_⟩ (fun hHeld => ?_)
      clear hK K
      refine norm_ (a' := ?_) ?_ ?_
      rotate_left
      ·show Act.put _ (some 7) _ = _
       simp only [Act.put, List.setIfInBounds_toArray, List.set_cons_zero, List.set_cons_succ, i64_w, i32_w]
       rfl
      refine one_ (i := 8) (N := none) #[true, true, true, true, true, true, true, true, true] rfl rfl (one_of HT_.out (by kernel_rfl)) (by decide) (fun K hK => ?_)
      have hs16 : w15.cell? ⟨gb309, 0, none⟩ = some (.int .u64 0) := (blk_cell BK309.out 0).trans rfl
      have hfs16 := blk_frozen BK309.out 0
      have hns16_0 := NB300_309.out
      have hms16_0 := NB309_300.out
      have hs17 : w15.cell? ⟨gb309, 1, none⟩ = some (.int .u64 0) := (blk_cell BK309.out 1).trans rfl
      have hfs17 := blk_frozen BK309.out 1
      have hns17_0 := NB300_309.out
      have hms17_0 := NB309_300.out
      have hs18 : w15.cell? ⟨gb309, 2, none⟩ = some (.slice none 0 0) := (blk_cell BK309.out 2).trans rfl
      have hfs18 := blk_frozen BK309.out 2
      have hns18_0 := NB300_309.out
      have hms18_0 := NB309_300.out
      refine skip_ (w1 := ?_) (by rfl) rfl ?_ ?_
      rotate_left
      ·go_simp
       rfl
      refine hK.out _ _ ⟨((cell_far (p := ⟨gb309, _, none⟩) zx21_2 _).trans (((cell_far (p := ⟨gb309, _, none⟩) zx21_2 _).trans (((cell_far (p := ⟨gb309, _, none⟩) zx21_2 _).trans (hHeld.1)))))), ((cell_far (p := ⟨gb309, _, none⟩) zx21_2 _).trans (((cell_far (p := ⟨gb309, _, none⟩) zx21_2 _).trans (((cell_far (p := ⟨gb309, _, none⟩) zx21_2 _).trans (hHeld.2))))))⟩ (fun hHeld => ?_)
      clear hK K
      refine done_ (done_of HT_.out (by kernel_rfl)) ?_
      try go_wp2
      go_loopg [5, 8] kj2 (fun kq v5 v8 w' => ∃ (x5_2 : ByteArray) (x8_2 : Int) (x301000_2 : Int) (x301001_2 : Int) (x310002_2 : List (S57)) (u310002 : Value), v5 = .string x5_2 ∧ v8 = .int .u64 x8_2 ∧ Aside0 (postroomref11_Take.l0 kq a0 t301 x5_2 x8_2 (rd t301 0) (rd t301 1) x310002_2 = some (r1, r2, r3, r4)) ∧ Aside0 (kq ≤ kj2) ∧ Aside0 (Kd.R (Kd.int .u64) 22 w' w.heap.size (fun _ => True) (.slice (some ad307) t301.length co14) t301) ∧ Aside0 (Kd.S k57 57 w' w.heap.size (fun k_ => some k_ ≠ ((.slice (some ad307) t301.length co14) : Value).ownBlock) u310002 x310002_2) ∧ Aside0 (w'.heap[gb300]? = some (.cells #[.int .u64 x301000_2, .int .u64 x301001_2, (.slice none 0 0)] 30 (0, 0))) ∧ Aside0 (w'.heap[gb309]? = some (.cells #[.int .u64 (rd t301 0), .int .u64 (rd t301 1), u310002] 30 (0, 0))) ∧ Aside0 (Below w.heap.size w w'))
      case atStart => exact ⟨(t302), (0), (0), (0), (([] : List (S57))), (.slice none 0 0), (by first | rfl | (simp; done) | (simp [*]; done)), (by first | rfl | (simp; done) | (simp [*]; done)), H', ⟨Nat.le_refl _⟩, ⟨by (with_reducible repeat (first | apply Kd.R_alloc | apply Kd.R_drewN | apply Kd.R_drew)); exact Kd.R_mono (Kd.R_far (p := ⟨gb309, 2, none⟩) (Kd.R_far (p := ⟨gb309, 1, none⟩) (Kd.R_far (p := ⟨gb309, 0, none⟩) (Kd.R_types HO_4.out BK309.out (by decide)) (fun _ hk => hk.2) (.int .u64 (rd t301 0))) (fun _ hk => hk.2) (.int .u64 (rd t301 1))) (fun _ hk => hk.2) (.slice none 0 0)) (fun _ hk => trivial)⟩, ⟨by first | exact Kd.S_nil _ _ _ _ _ | exact Kd.N_nil _ _ _ _ _ | exact Kd.V_nil _ _ _ _ _ | exact Kd.Q_nil _ _ _ _ _ | exact Kd.R_nil _ _ _ _ _⟩, ⟨by (with_reducible repeat (first | refine blk_drewN ?_ _ | refine blk_drew ?_ | refine blk_alloc ?_ _)); refine blk_far ?_ NB300_309.out _; (with_reducible repeat (first | refine blk_drewN ?_ _ | refine blk_drew ?_ | refine blk_alloc ?_ _)); refine blk_far ?_ NB300_309.out _; (with_reducible repeat (first | refine blk_drewN ?_ _ | refine blk_drew ?_ | refine blk_alloc ?_ _)); refine blk_far ?_ NB300_309.out _; (with_reducible repeat (first | refine blk_drewN ?_ _ | refine blk_drew ?_ | refine blk_alloc ?_ _)); exact BK300.out⟩, ⟨by (with_reducible repeat (first | refine blk_drewN ?_ _ | refine blk_drew ?_ | refine blk_alloc ?_ _)); refine blk_put (cs := #[.int .u64 (rd t301 0), .int .u64 (rd t301 1), .slice none 0 0]) ?_ 2 _ rfl; (with_reducible repeat (first | refine blk_drewN ?_ _ | refine blk_drew ?_ | refine blk_alloc ?_ _)); refine blk_put (cs := #[.int .u64 (rd t301 0), .int .u64 0, .slice none 0 0]) ?_ 1 _ rfl; (with_reducible repeat (first | refine blk_drewN ?_ _ | refine blk_drew ?_ | refine blk_alloc ?_ _)); refine blk_put (cs := #[.int .u64 0, .int .u64 0, .slice none 0 0]) ?_ 0 _ rfl; (with_reducible repeat (first | refine blk_drewN ?_ _ | refine blk_drew ?_ | refine blk_alloc ?_ _)); exact BK309.out⟩, ⟨by repeat (first | (with_reducible first | exact HB.out | apply below_alloc | apply pw_below_drewN | apply below_drew1 | refine below_set ?_ GE300.out | refine below_set ?_ GE309.out) | exact HB.out)⟩⟩
      case round =>
       clear H'
       (try clear c1); (try clear c2); (try clear p2); (try clear p3); (try clear q3); (try clear hx3); (try clear qi3); (try clear c6); (try clear c7); (try clear c7b0); (try clear c7b1); (try clear c9); (try clear c11); (try clear c11b0); (try clear c11b1); (try clear c12); (try clear c12b0); (try clear c12b1); (try clear c14); (try clear hcz10_0); (try clear hcz10_1); (try clear hcz10_2); (try clear hfz10_0); (try clear hfz10_1); (try clear hfz10_2); (try clear hx306_0); (try clear hx307_0); (try clear hx308_0); (try clear p2); (try clear p3); (try clear p306); (try clear p307); (try clear p308); (try clear q3); (try clear q306); (try clear q307); (try clear q308)
       obtain ⟨x5_2, x8_2, x301000_2, x301001_2, x310002_2, u310002, rfl, rfl, HA, HK2, HO_4, HO_310002, BK300, BK309, HB⟩ := hrel
       cases gk with
       | zero => exact absurd HA.out (by simp [postroomref11_Take.l0])
       | succ k2 =>
        have H := HA.out
        clear HA
        simp only [postroomref11_Take.l0] at H
        by_cases c19 : 2 < (t301.length : Int)
        ·rw [if_pos c19] at H
         have c19b0 : decide (2 < (t301.length : Int)) = true := decide_eq_true c19
         have c19b1 : decide (2 < t301.length) = true := decide_eq_true (by omega)
         clear c19
         by_cases c20 : x8_2 < (rd t301 2)
         ·rw [if_pos c20] at H
          have c20b0 : decide (x8_2 < (rd t301 2)) = true := decide_eq_true c20
          clear c20
          replace H := Option.bind_eq_some_iff.mp H
          obtain ⟨⟨t311, t312, t313, t314, t317, t318, t319, t320, t321⟩, A210, H⟩ := H
          replace H : (if t321 = true then (if x310002_2.length < 1759218604441 then (postroomref11_Take.l0 k2 a0 t301 t320 (IntKind.u64.wrap (x8_2 + 1)) (rd t301 0) (rd t301 1) (x310002_2 ++ [(⟨t311, t312, t313, t314, t317, t318, t319⟩ : S57)])) else (none)) else (some (0, 0, ([] : List (S57)), 2))) = some (r1, r2, r3, r4) := H
          have A21 := Aside0.mk A210
          clear A210
          by_cases c22 : t321 = true
          ·subst c22
           have H1 : (if x310002_2.length < 1759218604441 then (postroomref11_Take.l0 k2 a0 t301 t320 (IntKind.u64.wrap (x8_2 + 1)) (rd t301 0) (rd t301 1) (x310002_2 ++ [(⟨t311, t312, t313, t314, t317, t318, t319⟩ : S57)])) else (none)) = some (r1, r2, r3, r4) := by rw [if_pos rfl] at H; exact H
           clear H
           have H := H1
           clear H1
           by_cases c23 : x310002_2.length < 1759218604441
           ·rw [if_pos c23] at H
            have LMc23 := Aside0.mk c23
            clear c23
            obtain ⟨y323, hy323⟩ : ∃ y_ : List (S57), y_ = (x310002_2 ++ [(⟨t311, t312, t313, t314, t317, t318, t319⟩ : S57)]) := ⟨_, rfl⟩
            replace H : (postroomref11_Take.l0 k2 a0 t301 t320 (IntKind.u64.wrap (x8_2 + 1)) (rd t301 0) (rd t301 1) y323) = some (r1, r2, r3, r4) := by first | (rw [hy323]; with_reducible exact H) | (have H2_ := (Option.bind_some _ _).symm.trans H; rw [hy323]; with_reducible exact H2_) | (have H2_ := (Option.bind_some _ _).symm.trans H; with_reducible exact H2_) | with_reducible exact H | (rw [hy323]; exact H) | exact H
            have Ny323 := Aside0.mk hy323
            clear hy323
            have H' := Aside0.mk H
            clear H
            have p310 : 0 ≤ (2 : Int) := (by omega)
            have q310 : 2 < (t301.length : Int) := of_decide_eq_true zx21_10
            obtain ⟨ad310, e310, hx310_0⟩ := Kd.at_int (Kd.R_reads' HO_4.out).2.2 2 p310 q310
            obtain rfl : ad307 = ad310 := (by injection e310)
            (try simp only [show (2 : Int).toNat = 2 from rfl, Nat.reduceMul, Nat.reduceEqDiff, Go.Addr.add, ↓reduceIte] at hx310_0)
            have qi310 : (2 < t301.length) = True := eq_true (by omega)
            (try rw [show ((2 : Int)).toNat = 2 from rfl] at hx310_0)
            replace p310 := eq_true p310
            replace q310 := eq_true q310
            go_wp2_with (first | ((with_reducible refine gate_callee (f := 30) rfl ?_); refine goesL_ (some 45) rfl rfl Tryd.func30 (by kernel_rfl) rfl #[.string x5_2] rfl zx21_7 ?_; (with_reducible refine (postroomref11_dest.calls k2 x5_2 t311 t312 t313 t314 t317 t318 t319 t320 true _ A21.out).mono ?_); rintro e w24 ⟨v315, rfl, ho0, hb⟩; refine ⟨_, rfl, ?_⟩; have n0_ := Aside0.mk (Kd.R_elder' zx21_4 (Kd.R_base ho0) hb); have n1_ := Aside0.mk (Kd.S_elder' zx21_5 (Kd.R_base ho0) hb); have n2_ := Aside0.mk (Kd.R_lower (Kd.R_new' ho0 (Kd.R_lt zx21_4)) (below_size zx21_0)); have n3_ := Aside0.mk (blk_below (g := gb300) (o := .cells #[.int .u64 x301000_2, .int .u64 x301001_2, .slice none 0 0] 30 (0, 0)) zx21_1 hb); have n4_ := Aside0.mk (blk_below (g := gb309) (o := .cells #[.int .u64 (rd t301 0), .int .u64 (rd t301 1), u310002] 30 (0, 0)) zx21_3 hb); have n5_ := Aside0.mk (below_step zx21_0 hb); clear HO_4; clear HO_310002; clear BK300; clear BK309; clear HB; have HO_4 := n0_; have HO_310002 := n1_; have HO316 := n2_; have BK300 := n3_; have BK309 := n4_; have HB := n5_; clear n0_ n1_ n2_ n3_ n4_ n5_; (try clear hb); (try clear hb2); (try clear hk); (try clear hi); (try clear ho0)) | ((with_reducible refine gate_dst (N := 9) rfl ?_); refine box_event ?hg (N := 9) ?hd (cs := #[.string (⟨#[]⟩ : ByteArray), .int .u64 0, .int .u64 0, .slice none 0 0, .int .u64 0, .int .u64 0, .int .u64 0]) (t := 57) ?hr ?_; (case hd => rfl); (case hg => rfl); (case hr => first | (go_simp; done) | (go_simp; rfl)); intro gb322 hg w25 hbox hb; have n0_ := Aside0.mk (Kd.R_below zx21_4 hb); have n1_ := Aside0.mk (Kd.S_below (Kd.S_elderB zx21_5 gb322 (Nat.le_of_eq hg.symm)) hb); have n2_ := Aside0.mk (Kd.R_below (by (with_reducible repeat (first | apply Kd.R_alloc | apply Kd.R_drewN | apply Kd.R_drew)); exact HO316.out) hb); have n3_ := Aside0.mk (blk_below (g := gb300) (o := .cells #[.int .u64 x301000_2, .int .u64 x301001_2, .slice none 0 0] 30 (0, 0)) zx21_1 hb); have n4_ := Aside0.mk (blk_below (g := gb309) (o := .cells #[.int .u64 (rd t301 0), .int .u64 (rd t301 1), u310002] 30 (0, 0)) zx21_3 hb); have n5_ := Aside0.mk (below_step zx21_0 hb); have n6_ := Aside0.mk (hbox); have n7_ := Aside0.mk ((by rw [hg]; exact (below_size zx21_0) : w.heap.size ≤ gb322)); have n8_ := Aside0.mk ((by rw [hg]; exact (below_size zx21_0) : w.heap.size ≤ gb322)); have n9_ := Aside0.mk ((by rw [hg]; exact Nat.ne_of_lt (blk_lt (g := gb300) (o := .cells #[.int .u64 x301000_2, .int .u64 x301001_2, .slice none 0 0] 30 (0, 0)) zx21_1) : gb300 ≠ gb322)); have n10_ := Aside0.mk ((by rw [hg]; exact Nat.ne_of_gt (blk_lt (g := gb300) (o := .cells #[.int .u64 x301000_2, .int .u64 x301001_2, .slice none 0 0] 30 (0, 0)) zx21_1) : gb322 ≠ gb300)); have n11_ := Aside0.mk ((by rw [hg]; exact Nat.ne_of_lt (blk_lt (g := gb309) (o := .cells #[.int .u64 (rd t301 0), .int .u64 (rd t301 1), u310002] 30 (0, 0)) zx21_3) : gb309 ≠ gb322)); have n12_ := Aside0.mk ((by rw [hg]; exact Nat.ne_of_gt (blk_lt (g := gb309) (o := .cells #[.int .u64 (rd t301 0), .int .u64 (rd t301 1), u310002] 30 (0, 0)) zx21_3) : gb322 ≠ gb309)); clear HO_4; clear HO_310002; (try clear HO316); clear BK300; clear BK309; clear HB; have HO_4 := n0_; have HO_310002 := n1_; have HO316 := n2_; have BK300 := n3_; have BK309 := n4_; have HB := n5_; have BK322 := n6_; have GW322 := n7_; have GE322 := n8_; have NB300_322 := n9_; have NB322_300 := n10_; have NB309_322 := n11_; have NB322_309 := n12_; clear n0_ n1_ n2_ n3_ n4_ n5_ n6_ n7_ n8_ n9_ n10_ n11_ n12_; clear hb hbox hg; have hnb26 := NB322_300.out; have hnc26 := NB300_322.out; have hnb27 := NB322_309.out; have hnc27 := NB309_322.out; have hcz28_0 : w25.cell? ⟨gb322, 0, none⟩ = some (.string (⟨#[]⟩ : ByteArray)) := (blk_cell BK322.out 0).trans rfl; have hcz28_1 : w25.cell? ⟨gb322, 1, none⟩ = some (.int .u64 0) := (blk_cell BK322.out 1).trans rfl; have hcz28_2 : w25.cell? ⟨gb322, 2, none⟩ = some (.int .u64 0) := (blk_cell BK322.out 2).trans rfl; have hcz28_3 : w25.cell? ⟨gb322, 3, none⟩ = some (.slice none 0 0) := (blk_cell BK322.out 3).trans rfl; have hcz28_4 : w25.cell? ⟨gb322, 4, none⟩ = some (.int .u64 0) := (blk_cell BK322.out 4).trans rfl; have hcz28_5 : w25.cell? ⟨gb322, 5, none⟩ = some (.int .u64 0) := (blk_cell BK322.out 5).trans rfl; have hcz28_6 : w25.cell? ⟨gb322, 6, none⟩ = some (.int .u64 0) := (blk_cell BK322.out 6).trans rfl; have hfz28_0 := blk_frozen BK322.out 0; have hfz28_1 := blk_frozen BK322.out 1; have hfz28_2 := blk_frozen BK322.out 2; have hfz28_3 := blk_frozen BK322.out 3; have hfz28_4 := blk_frozen BK322.out 4; have hfz28_5 := blk_frozen BK322.out 5; have hfz28_6 := blk_frozen BK322.out 6; obtain ⟨Ao29, co29, eo29⟩ := Kd.R_slice HO316.out; subst eo29) | ((with_reducible refine gate_store (t := 57) (p := 9) rfl ?_); refine store_event (t := 57) (p := 9) (v := ?vo_w30) (w1 := (((((((w25.setCell ⟨gb322, 0, none⟩ (.string t311)).setCell ⟨gb322, 1, none⟩ (.int .u64 t312)).setCell ⟨gb322, 2, none⟩ (.int .u64 t313)).setCell ⟨gb322, 3, none⟩ (.slice Ao29 t314.length co29)).setCell ⟨gb322, 4, none⟩ (.int .u64 t317)).setCell ⟨gb322, 5, none⟩ (.int .u64 t318)).setCell ⟨gb322, 6, none⟩ (.int .u64 t319))) ?hg ?ho ?hn ?hr ?_; (case ho => rfl); (case hg => rfl); (case hn => rfl); (case hr => first | (go_simp; done) | (go_simp; rfl)); intro w30 hw; have n0_ : Aside0 (Kd.R (Kd.int .u64) 22 w30 w.heap.size (fun k_ => some k_ ≠ (.slice Ao29 t314.length co29 : Value).ownBlock) (.slice (some ad307) t301.length co14) t301) := ⟨(by rw [hw]; exact (by (with_reducible repeat (first | apply Kd.R_alloc | apply Kd.R_drewN | apply Kd.R_drew)); exact Kd.R_mono (Kd.R_far (p := ⟨gb322, 6, none⟩) (Kd.R_far (p := ⟨gb322, 5, none⟩) (Kd.R_far (p := ⟨gb322, 4, none⟩) (Kd.R_far (p := ⟨gb322, 3, none⟩) (Kd.R_far (p := ⟨gb322, 2, none⟩) (Kd.R_far (p := ⟨gb322, 1, none⟩) (Kd.R_far (p := ⟨gb322, 0, none⟩) (Kd.R_types HO_4.out BK322.out (by decide)) (fun _ hk => hk.2) (.string t311)) (fun _ hk => hk.2) (.int .u64 t312)) (fun _ hk => hk.2) (.int .u64 t313)) (fun _ hk => hk.2) (.slice Ao29 t314.length co29)) (fun _ hk => hk.2) (.int .u64 t317)) (fun _ hk => hk.2) (.int .u64 t318)) (fun _ hk => hk.2) (.int .u64 t319)) (fun _ hk => hk.1.2)))⟩; have n1_ : Aside0 (Kd.S k57 57 w30 w.heap.size (fun k_ => some k_ ≠ (.slice (some ad307) t301.length co14 : Value).ownBlock ∧ some k_ ≠ (.slice Ao29 t314.length co29 : Value).ownBlock ∧ k_ ≠ gb322) u310002 x310002_2) := ⟨(by rw [hw]; exact (by (with_reducible repeat (first | apply Kd.S_alloc | apply Kd.S_drewN | apply Kd.S_drew)); exact Kd.S_mono (Kd.S_far (p := ⟨gb322, 6, none⟩) (Kd.S_far (p := ⟨gb322, 5, none⟩) (Kd.S_far (p := ⟨gb322, 4, none⟩) (Kd.S_far (p := ⟨gb322, 3, none⟩) (Kd.S_far (p := ⟨gb322, 2, none⟩) (Kd.S_far (p := ⟨gb322, 1, none⟩) (Kd.S_far (p := ⟨gb322, 0, none⟩) (Kd.S_mono HO_310002.out (fun k_ hk => (⟨hk, hk.2⟩ : _ ∧ k_ ≠ gb322))) (fun _ hk => hk.2) (.string t311)) (fun _ hk => hk.2) (.int .u64 t312)) (fun _ hk => hk.2) (.int .u64 t313)) (fun _ hk => hk.2) (.slice Ao29 t314.length co29)) (fun _ hk => hk.2) (.int .u64 t317)) (fun _ hk => hk.2) (.int .u64 t318)) (fun _ hk => hk.2) (.int .u64 t319)) (fun _ hk => ⟨hk.1.1.1, ⟨hk.1.1.2, hk.1.2⟩⟩)))⟩; have n2_ : Aside0 (Kd.R (Kd.int .u64) 22 w30 w.heap.size (fun k_ => some k_ ≠ (.slice (some ad307) t301.length co14 : Value).ownBlock) (.slice Ao29 t314.length co29) t314) := ⟨(by rw [hw]; exact (by (with_reducible repeat (first | apply Kd.R_alloc | apply Kd.R_drewN | apply Kd.R_drew)); exact Kd.R_mono (Kd.R_far (p := ⟨gb322, 6, none⟩) (Kd.R_far (p := ⟨gb322, 5, none⟩) (Kd.R_far (p := ⟨gb322, 4, none⟩) (Kd.R_far (p := ⟨gb322, 3, none⟩) (Kd.R_far (p := ⟨gb322, 2, none⟩) (Kd.R_far (p := ⟨gb322, 1, none⟩) (Kd.R_far (p := ⟨gb322, 0, none⟩) (Kd.R_types HO316.out BK322.out (by decide)) (fun _ hk => hk.2) (.string t311)) (fun _ hk => hk.2) (.int .u64 t312)) (fun _ hk => hk.2) (.int .u64 t313)) (fun _ hk => hk.2) (.slice Ao29 t314.length co29)) (fun _ hk => hk.2) (.int .u64 t317)) (fun _ hk => hk.2) (.int .u64 t318)) (fun _ hk => hk.2) (.int .u64 t319)) (fun _ hk => hk.1.2)))⟩; have n3_ : Aside0 (w30.heap[gb300]? = some (.cells #[.int .u64 x301000_2, .int .u64 x301001_2, .slice none 0 0] 30 (0, 0))) := ⟨(by rw [hw]; exact (by (with_reducible repeat (first | refine blk_drewN ?_ _ | refine blk_drew ?_ | refine blk_alloc ?_ _)); refine blk_far ?_ NB300_322.out _; (with_reducible repeat (first | refine blk_drewN ?_ _ | refine blk_drew ?_ | refine blk_alloc ?_ _)); refine blk_far ?_ NB300_322.out _; (with_reducible repeat (first | refine blk_drewN ?_ _ | refine blk_drew ?_ | refine blk_alloc ?_ _)); refine blk_far ?_ NB300_322.out _; (with_reducible repeat (first | refine blk_drewN ?_ _ | refine blk_drew ?_ | refine blk_alloc ?_ _)); refine blk_far ?_ NB300_322.out _; (with_reducible repeat (first | refine blk_drewN ?_ _ | refine blk_drew ?_ | refine blk_alloc ?_ _)); refine blk_far ?_ NB300_322.out _; (with_reducible repeat (first | refine blk_drewN ?_ _ | refine blk_drew ?_ | refine blk_alloc ?_ _)); refine blk_far ?_ NB300_322.out _; (with_reducible repeat (first | refine blk_drewN ?_ _ | refine blk_drew ?_ | refine blk_alloc ?_ _)); refine blk_far ?_ NB300_322.out _; (with_reducible repeat (first | refine blk_drewN ?_ _ | refine blk_drew ?_ | refine blk_alloc ?_ _)); exact BK300.out))⟩; have n4_ : Aside0 (w30.heap[gb309]? = some (.cells #[.int .u64 (rd t301 0), .int .u64 (rd t301 1), u310002] 30 (0, 0))) := ⟨(by rw [hw]; exact (by (with_reducible repeat (first | refine blk_drewN ?_ _ | refine blk_drew ?_ | refine blk_alloc ?_ _)); refine blk_far ?_ NB309_322.out _; (with_reducible repeat (first | refine blk_drewN ?_ _ | refine blk_drew ?_ | refine blk_alloc ?_ _)); refine blk_far ?_ NB309_322.out _; (with_reducible repeat (first | refine blk_drewN ?_ _ | refine blk_drew ?_ | refine blk_alloc ?_ _)); refine blk_far ?_ NB309_322.out _; (with_reducible repeat (first | refine blk_drewN ?_ _ | refine blk_drew ?_ | refine blk_alloc ?_ _)); refine blk_far ?_ NB309_322.out _; (with_reducible repeat (first | refine blk_drewN ?_ _ | refine blk_drew ?_ | refine blk_alloc ?_ _)); refine blk_far ?_ NB309_322.out _; (with_reducible repeat (first | refine blk_drewN ?_ _ | refine blk_drew ?_ | refine blk_alloc ?_ _)); refine blk_far ?_ NB309_322.out _; (with_reducible repeat (first | refine blk_drewN ?_ _ | refine blk_drew ?_ | refine blk_alloc ?_ _)); refine blk_far ?_ NB309_322.out _; (with_reducible repeat (first | refine blk_drewN ?_ _ | refine blk_drew ?_ | refine blk_alloc ?_ _)); exact BK309.out))⟩; have n5_ : Aside0 (w30.heap[gb322]? = some (.cells #[.string t311, .int .u64 t312, .int .u64 t313, .slice Ao29 t314.length co29, .int .u64 t317, .int .u64 t318, .int .u64 t319] 57 (0, 0))) := ⟨(by rw [hw]; exact (by (with_reducible repeat (first | refine blk_drewN ?_ _ | refine blk_drew ?_ | refine blk_alloc ?_ _)); refine blk_put (cs := #[.string t311, .int .u64 t312, .int .u64 t313, .slice Ao29 t314.length co29, .int .u64 t317, .int .u64 t318, .int .u64 0]) ?_ 6 _ rfl; (with_reducible repeat (first | refine blk_drewN ?_ _ | refine blk_drew ?_ | refine blk_alloc ?_ _)); refine blk_put (cs := #[.string t311, .int .u64 t312, .int .u64 t313, .slice Ao29 t314.length co29, .int .u64 t317, .int .u64 0, .int .u64 0]) ?_ 5 _ rfl; (with_reducible repeat (first | refine blk_drewN ?_ _ | refine blk_drew ?_ | refine blk_alloc ?_ _)); refine blk_put (cs := #[.string t311, .int .u64 t312, .int .u64 t313, .slice Ao29 t314.length co29, .int .u64 0, .int .u64 0, .int .u64 0]) ?_ 4 _ rfl; (with_reducible repeat (first | refine blk_drewN ?_ _ | refine blk_drew ?_ | refine blk_alloc ?_ _)); refine blk_put (cs := #[.string t311, .int .u64 t312, .int .u64 t313, .slice none 0 0, .int .u64 0, .int .u64 0, .int .u64 0]) ?_ 3 _ rfl; (with_reducible repeat (first | refine blk_drewN ?_ _ | refine blk_drew ?_ | refine blk_alloc ?_ _)); refine blk_put (cs := #[.string t311, .int .u64 t312, .int .u64 0, .slice none 0 0, .int .u64 0, .int .u64 0, .int .u64 0]) ?_ 2 _ rfl; (with_reducible repeat (first | refine blk_drewN ?_ _ | refine blk_drew ?_ | refine blk_alloc ?_ _)); refine blk_put (cs := #[.string t311, .int .u64 0, .int .u64 0, .slice none 0 0, .int .u64 0, .int .u64 0, .int .u64 0]) ?_ 1 _ rfl; (with_reducible repeat (first | refine blk_drewN ?_ _ | refine blk_drew ?_ | refine blk_alloc ?_ _)); refine blk_put (cs := #[.string (⟨#[]⟩ : ByteArray), .int .u64 0, .int .u64 0, .slice none 0 0, .int .u64 0, .int .u64 0, .int .u64 0]) ?_ 0 _ rfl; (with_reducible repeat (first | refine blk_drewN ?_ _ | refine blk_drew ?_ | refine blk_alloc ?_ _)); exact BK322.out))⟩; have n6_ : Aside0 (Below w.heap.size w w30) := ⟨(by rw [hw]; exact zx21_9)⟩; clear hw; clear HO_4; clear HO_310002; (try clear HO316); clear BK300; clear BK309; clear BK322; clear HB; have HO_4 := n0_; have HO_310002 := n1_; have HO316 := n2_; have BK300 := n3_; have BK309 := n4_; have BK322 := n5_; have HB := n6_; clear n0_ n1_ n2_ n3_ n4_ n5_ n6_; have hnb31 := NB309_300.out; have hnc31 := NB300_309.out; have hcz32_0 : w30.cell? ⟨gb309, 0, none⟩ = some (.int .u64 (rd t301 0)) := (blk_cell BK309.out 0).trans rfl; have hcz32_1 : w30.cell? ⟨gb309, 1, none⟩ = some (.int .u64 (rd t301 1)) := (blk_cell BK309.out 1).trans rfl; have hcz32_2 : w30.cell? ⟨gb309, 2, none⟩ = some (u310002) := (blk_cell BK309.out 2).trans rfl; have hfz32_0 := blk_frozen BK309.out 0; have hfz32_1 := blk_frozen BK309.out 1; have hfz32_2 := blk_frozen BK309.out 2; have hcz33_0 : w30.cell? ⟨gb322, 0, none⟩ = some (.string t311) := (blk_cell BK322.out 0).trans rfl; have hcz33_1 : w30.cell? ⟨gb322, 1, none⟩ = some (.int .u64 t312) := (blk_cell BK322.out 1).trans rfl; have hcz33_2 : w30.cell? ⟨gb322, 2, none⟩ = some (.int .u64 t313) := (blk_cell BK322.out 2).trans rfl; have hcz33_3 : w30.cell? ⟨gb322, 3, none⟩ = some (.slice Ao29 t314.length co29) := (blk_cell BK322.out 3).trans rfl; have hcz33_4 : w30.cell? ⟨gb322, 4, none⟩ = some (.int .u64 t317) := (blk_cell BK322.out 4).trans rfl; have hcz33_5 : w30.cell? ⟨gb322, 5, none⟩ = some (.int .u64 t318) := (blk_cell BK322.out 5).trans rfl; have hcz33_6 : w30.cell? ⟨gb322, 6, none⟩ = some (.int .u64 t319) := (blk_cell BK322.out 6).trans rfl; have hfz33_0 := blk_frozen BK322.out 0; have hfz33_1 := blk_frozen BK322.out 1; have hfz33_2 := blk_frozen BK322.out 2; have hfz33_3 := blk_frozen BK322.out 3; have hfz33_4 := blk_frozen BK322.out 4; have hfz33_5 := blk_frozen BK322.out 5; have hfz33_6 := blk_frozen BK322.out 6) | ((with_reducible refine gate_builtin (b := .append) (xs := #[.tmp 53, .tmp 55]) rfl ?_); at_builtin; refine Kd.S_append k57 (w0 := w) w.heap.size rfl (.tmp 53) (.tmp 55) 28 57 (.agg #[(.string ⟨#[]⟩), (.int .u64 0), (.int .u64 0), (.slice none 0 0), (.int .u64 0), (.int .u64 0), (.int .u64 0)]) 80 rfl Tryd.underlying28 info57 rfl (by decide) (by omega) u310002 x310002_2 (⟨t311, t312, t313, t314, t317, t318, t319⟩ : S57) [.string t311, .int .u64 t312, .int .u64 t313, .slice Ao29 t314.length co29, .int .u64 t317, .int .u64 t318, .int .u64 t319] (fun k_ => some k_ ≠ (.slice (some ad307) t301.length co14 : Value).ownBlock ∧ k_ ≠ gb322) (fun k_ => some k_ = (.slice Ao29 t314.length co29 : Value).ownBlock) rfl rfl ?aP (fun k_ hk_ => ((Kd.R_mono (ok' := fun k_ => ((fun k_ => some k_ ≠ (.slice (some ad307) t301.length co14 : Value).ownBlock ∧ k_ ≠ gb322)) k_ ∧ some k_ ≠ (u310002 : Value).ownBlock) (Kd.R_types (Kd.R_apart' (HO316.out) (Kd.S_typed HO_310002.out) (by decide)) BK322.out (by decide)) (fun k_ hk => ⟨⟨hk.1.1, hk.2⟩, hk.1.2⟩))).1 k_ hk_.symm) ?aF ?aO ?aB ?aS ?aL ?_; (case aP => exact k57_mkM _ _ _ (⟨t311, t312, t313, t314, t317, t318, t319⟩ : S57) (Kd.R_mono (Kd.R_tight rfl (Kd.R_mono (ok' := fun k_ => ((fun k_ => some k_ ≠ (.slice (some ad307) t301.length co14 : Value).ownBlock ∧ k_ ≠ gb322)) k_ ∧ some k_ ≠ (u310002 : Value).ownBlock) (Kd.R_types (Kd.R_apart' (HO316.out) (Kd.S_typed HO_310002.out) (by decide)) BK322.out (by decide)) (fun k_ hk => ⟨⟨hk.1.1, hk.2⟩, hk.1.2⟩))) (fun _ h_ => h_))); (case aB => exact zx21_9); (case aF => exact (fun k_ hk => ⟨Kd.fresh' (Kd.R_lt zx21_4) k_ hk, Kd.freshB (g := gb322) (o := .cells #[.string t311, .int .u64 t312, .int .u64 t313, .slice Ao29 t314.length co29, .int .u64 t317, .int .u64 t318, .int .u64 t319] 57 (0, 0)) (by (with_reducible repeat (first | refine blk_drewN ?_ _ | refine blk_drew ?_ | refine blk_alloc ?_ _)); exact BK322.out) k_ hk⟩)); (case aO => exact (by (with_reducible repeat (first | apply Kd.S_alloc | apply Kd.S_drewN | apply Kd.S_drew)); exact Kd.S_mono HO_310002.out (fun k_ hk => ⟨⟨hk.1, hk.2.2⟩, fun e_ => hk.2.1 e_⟩))); (case aS => exact (below_size zx21_9)); (case aL => have := LMc23.out; omega); intro v324 w34 ho hb hg hat; rw [← Ny323.out] at ho; have n0_ := Aside0.mk (Kd.R_over' zx21_4 (Kd.S_typed zx21_5) (by decide) hg); have n1_ := Aside0.mk (blk_grown (g := gb300) (o := .cells #[.int .u64 x301000_2, .int .u64 x301001_2, .slice none 0 0] 30 (0, 0)) zx21_1 hg (Kd.S_ne HO_310002.out BK300.out (by decide))); have n2_ := Aside0.mk (blk_grown (g := gb309) (o := .cells #[.int .u64 (rd t301 0), .int .u64 (rd t301 1), u310002] 30 (0, 0)) zx21_3 hg (Kd.S_ne HO_310002.out BK309.out (by decide))); have n3_ := Aside0.mk (blk_grown (g := gb322) (o := .cells #[.string t311, .int .u64 t312, .int .u64 t313, .slice Ao29 t314.length co29, .int .u64 t317, .int .u64 t318, .int .u64 t319] 57 (0, 0)) (by (with_reducible repeat (first | refine blk_drewN ?_ _ | refine blk_drew ?_ | refine blk_alloc ?_ _)); exact BK322.out) hg (Kd.S_away HO_310002.out (fun _ hk => hk.2.2))); have n4_ := Aside0.mk (hb); have n5_ := Aside0.mk (ho); clear HO_4; clear BK300; clear BK309; clear BK322; clear HB; clear HO_310002; (try clear HO316); have HO_4 := n0_; have BK300 := n1_; have BK309 := n2_; have BK322 := n3_; have HB := n4_; have HO325 := n5_; clear n0_ n1_ n2_ n3_ n4_ n5_; clear ho hb hg hat; obtain ⟨Ao35, co35, eo35⟩ := Kd.S_slice HO325.out; subst eo35; have hcz36_0 : w34.cell? ⟨gb309, 0, none⟩ = some (.int .u64 (rd t301 0)) := (blk_cell BK309.out 0).trans rfl; have hcz36_1 : w34.cell? ⟨gb309, 1, none⟩ = some (.int .u64 (rd t301 1)) := (blk_cell BK309.out 1).trans rfl; have hcz36_2 : w34.cell? ⟨gb309, 2, none⟩ = some (u310002) := (blk_cell BK309.out 2).trans rfl; have hfz36_0 := blk_frozen BK309.out 0; have hfz36_1 := blk_frozen BK309.out 1; have hfz36_2 := blk_frozen BK309.out 2))
            go_roundg k2
            case measure => have := HJ2.out; have := HK2.out; omega
            case rel => exact ⟨(t320), (IntKind.u64.wrap (x8_2 + 1)), (x301000_2), (x301001_2), (y323), (.slice Ao35 y323.length co35), (by first | rfl | (simp; done) | (simp [*]; done)), (by first | rfl | (simp; done) | (simp [*]; done)), H', ⟨by have := HJ2.out; have := HK2.out; omega⟩, ⟨by (with_reducible repeat (first | apply Kd.R_alloc | apply Kd.R_drewN | apply Kd.R_drew)); exact Kd.R_mono (Kd.R_far (p := ⟨gb309, 2, none⟩) (Kd.R_types HO_4.out BK309.out (by decide)) (fun _ hk => hk.2) (.slice Ao35 y323.length co35)) (fun _ hk => trivial)⟩, ⟨by (with_reducible repeat (first | apply Kd.S_alloc | apply Kd.S_drewN | apply Kd.S_drew)); exact Kd.S_mono (Kd.S_far (p := ⟨gb309, 2, none⟩) (Kd.S_types HO325.out BK309.out (by decide)) (fun _ hk => hk.2) (.slice Ao35 y323.length co35)) (fun _ hk => hk.1.1)⟩, ⟨by (with_reducible repeat (first | refine blk_drewN ?_ _ | refine blk_drew ?_ | refine blk_alloc ?_ _)); refine blk_far ?_ NB300_309.out _; (with_reducible repeat (first | refine blk_drewN ?_ _ | refine blk_drew ?_ | refine blk_alloc ?_ _)); exact BK300.out⟩, ⟨by (with_reducible repeat (first | refine blk_drewN ?_ _ | refine blk_drew ?_ | refine blk_alloc ?_ _)); refine blk_put (cs := #[.int .u64 (rd t301 0), .int .u64 (rd t301 1), u310002]) ?_ 2 _ rfl; (with_reducible repeat (first | refine blk_drewN ?_ _ | refine blk_drew ?_ | refine blk_alloc ?_ _)); exact BK309.out⟩, ⟨by repeat (first | (with_reducible first | exact HB.out | apply below_alloc | apply pw_below_drewN | apply below_drew1 | refine below_set ?_ GE300.out | refine below_set ?_ GE309.out | refine below_set ?_ GE322.out) | exact HB.out)⟩⟩
           ·rw [if_neg c23] at H
            exact absurd H (by simp)
          ·replace c22 := Bool.eq_false_iff.mpr c22
           subst c22
           have H1 : (some (0, 0, ([] : List (S57)), 2)) = some (r1, r2, r3, r4) := by rw [if_neg (show ¬ (false = true) by decide)] at H; exact H
           clear H
           have H := H1
           clear H1
           simp only [Option.some.injEq, Prod.mk.injEq] at H
           obtain ⟨rfl, rfl, rfl, rfl⟩ := H
           have p310 : 0 ≤ (2 : Int) := (by omega)
           have q310 : 2 < (t301.length : Int) := of_decide_eq_true zx21_10
           obtain ⟨ad310, e310, hx310_0⟩ := Kd.at_int (Kd.R_reads' HO_4.out).2.2 2 p310 q310
           obtain rfl : ad307 = ad310 := (by injection e310)
           (try simp only [show (2 : Int).toNat = 2 from rfl, Nat.reduceMul, Nat.reduceEqDiff, Go.Addr.add, ↓reduceIte] at hx310_0)
           have qi310 : (2 < t301.length) = True := eq_true (by omega)
           (try rw [show ((2 : Int)).toNat = 2 from rfl] at hx310_0)
           replace p310 := eq_true p310
           replace q310 := eq_true q310
           go_wp2_with (first | ((with_reducible refine gate_callee (f := 30) rfl ?_); refine goesL_ (some 45) rfl rfl Tryd.func30 (by kernel_rfl) rfl #[.string x5_2] rfl zx21_7 ?_; (with_reducible refine (postroomref11_dest.calls k2 x5_2 t311 t312 t313 t314 t317 t318 t319 t320 false _ A21.out).mono ?_); rintro e w37 ⟨v315, rfl, ho0, hb⟩; refine ⟨_, rfl, ?_⟩; have n0_ := Aside0.mk (Kd.R_elder' zx21_4 (Kd.R_base ho0) hb); have n1_ := Aside0.mk (Kd.S_elder' zx21_5 (Kd.R_base ho0) hb); have n2_ := Aside0.mk (Kd.R_lower (Kd.R_new' ho0 (Kd.R_lt zx21_4)) (below_size zx21_0)); have n3_ := Aside0.mk (blk_below (g := gb300) (o := .cells #[.int .u64 x301000_2, .int .u64 x301001_2, .slice none 0 0] 30 (0, 0)) zx21_1 hb); have n4_ := Aside0.mk (blk_below (g := gb309) (o := .cells #[.int .u64 (rd t301 0), .int .u64 (rd t301 1), u310002] 30 (0, 0)) zx21_3 hb); have n5_ := Aside0.mk (below_step zx21_0 hb); clear HO_4; clear HO_310002; clear BK300; clear BK309; clear HB; have HO_4 := n0_; have HO_310002 := n1_; have HO316 := n2_; have BK300 := n3_; have BK309 := n4_; have HB := n5_; clear n0_ n1_ n2_ n3_ n4_ n5_; (try clear hb); (try clear hb2); (try clear hk); (try clear hi); (try clear ho0)) | ((with_reducible refine gate_dst (N := 9) rfl ?_); refine box_event ?hg (N := 9) ?hd (cs := #[.string (⟨#[]⟩ : ByteArray), .int .u64 0, .int .u64 0, .slice none 0 0, .int .u64 0, .int .u64 0, .int .u64 0]) (t := 57) ?hr ?_; (case hd => rfl); (case hg => rfl); (case hr => first | (go_simp; done) | (go_simp; rfl)); intro gb322 hg w38 hbox hb; have n0_ := Aside0.mk (Kd.R_below zx21_4 hb); have n1_ := Aside0.mk (Kd.S_below (Kd.S_elderB zx21_5 gb322 (Nat.le_of_eq hg.symm)) hb); have n2_ := Aside0.mk (Kd.R_below (by (with_reducible repeat (first | apply Kd.R_alloc | apply Kd.R_drewN | apply Kd.R_drew)); exact HO316.out) hb); have n3_ := Aside0.mk (blk_below (g := gb300) (o := .cells #[.int .u64 x301000_2, .int .u64 x301001_2, .slice none 0 0] 30 (0, 0)) zx21_1 hb); have n4_ := Aside0.mk (blk_below (g := gb309) (o := .cells #[.int .u64 (rd t301 0), .int .u64 (rd t301 1), u310002] 30 (0, 0)) zx21_3 hb); have n5_ := Aside0.mk (below_step zx21_0 hb); have n6_ := Aside0.mk (hbox); have n7_ := Aside0.mk ((by rw [hg]; exact (below_size zx21_0) : w.heap.size ≤ gb322)); have n8_ := Aside0.mk ((by rw [hg]; exact (below_size zx21_0) : w.heap.size ≤ gb322)); have n9_ := Aside0.mk ((by rw [hg]; exact Nat.ne_of_lt (blk_lt (g := gb300) (o := .cells #[.int .u64 x301000_2, .int .u64 x301001_2, .slice none 0 0] 30 (0, 0)) zx21_1) : gb300 ≠ gb322)); have n10_ := Aside0.mk ((by rw [hg]; exact Nat.ne_of_gt (blk_lt (g := gb300) (o := .cells #[.int .u64 x301000_2, .int .u64 x301001_2, .slice none 0 0] 30 (0, 0)) zx21_1) : gb322 ≠ gb300)); have n11_ := Aside0.mk ((by rw [hg]; exact Nat.ne_of_lt (blk_lt (g := gb309) (o := .cells #[.int .u64 (rd t301 0), .int .u64 (rd t301 1), u310002] 30 (0, 0)) zx21_3) : gb309 ≠ gb322)); have n12_ := Aside0.mk ((by rw [hg]; exact Nat.ne_of_gt (blk_lt (g := gb309) (o := .cells #[.int .u64 (rd t301 0), .int .u64 (rd t301 1), u310002] 30 (0, 0)) zx21_3) : gb322 ≠ gb309)); clear HO_4; clear HO_310002; (try clear HO316); clear BK300; clear BK309; clear HB; have HO_4 := n0_; have HO_310002 := n1_; have HO316 := n2_; have BK300 := n3_; have BK309 := n4_; have HB := n5_; have BK322 := n6_; have GW322 := n7_; have GE322 := n8_; have NB300_322 := n9_; have NB322_300 := n10_; have NB309_322 := n11_; have NB322_309 := n12_; clear n0_ n1_ n2_ n3_ n4_ n5_ n6_ n7_ n8_ n9_ n10_ n11_ n12_; clear hb hbox hg; have hnb39 := NB322_300.out; have hnc39 := NB300_322.out; have hnb40 := NB322_309.out; have hnc40 := NB309_322.out; have hcz41_0 : w38.cell? ⟨gb322, 0, none⟩ = some (.string (⟨#[]⟩ : ByteArray)) := (blk_cell BK322.out 0).trans rfl; have hcz41_1 : w38.cell? ⟨gb322, 1, none⟩ = some (.int .u64 0) := (blk_cell BK322.out 1).trans rfl; have hcz41_2 : w38.cell? ⟨gb322, 2, none⟩ = some (.int .u64 0) := (blk_cell BK322.out 2).trans rfl; have hcz41_3 : w38.cell? ⟨gb322, 3, none⟩ = some (.slice none 0 0) := (blk_cell BK322.out 3).trans rfl; have hcz41_4 : w38.cell? ⟨gb322, 4, none⟩ = some (.int .u64 0) := (blk_cell BK322.out 4).trans rfl; have hcz41_5 : w38.cell? ⟨gb322, 5, none⟩ = some (.int .u64 0) := (blk_cell BK322.out 5).trans rfl; have hcz41_6 : w38.cell? ⟨gb322, 6, none⟩ = some (.int .u64 0) := (blk_cell BK322.out 6).trans rfl; have hfz41_0 := blk_frozen BK322.out 0; have hfz41_1 := blk_frozen BK322.out 1; have hfz41_2 := blk_frozen BK322.out 2; have hfz41_3 := blk_frozen BK322.out 3; have hfz41_4 := blk_frozen BK322.out 4; have hfz41_5 := blk_frozen BK322.out 5; have hfz41_6 := blk_frozen BK322.out 6; obtain ⟨Ao42, co42, eo42⟩ := Kd.R_slice HO316.out; subst eo42; have hnb43 := NB300_309.out; have hnc43 := NB309_300.out; have hcz44_0 : w38.cell? ⟨gb300, 0, none⟩ = some (.int .u64 x301000_2) := (blk_cell BK300.out 0).trans rfl; have hcz44_1 : w38.cell? ⟨gb300, 1, none⟩ = some (.int .u64 x301001_2) := (blk_cell BK300.out 1).trans rfl; have hcz44_2 : w38.cell? ⟨gb300, 2, none⟩ = some (.slice none 0 0) := (blk_cell BK300.out 2).trans rfl; have hfz44_0 := blk_frozen BK300.out 0; have hfz44_1 := blk_frozen BK300.out 1; have hfz44_2 := blk_frozen BK300.out 2))
           refine bodyPost_ret (results_ct rfl _ _ gb300 30 #[.int .u64 0, .int .u64 0, .slice none 0 0] (0, 0) _ rfl (by (with_reducible repeat (first | refine blk_drewN ?_ _ | refine blk_drew ?_ | refine blk_alloc ?_ _)); refine blk_put (cs := #[.int .u64 0, .int .u64 0, .slice none 0 0]) ?_ 2 _ rfl; (with_reducible repeat (first | refine blk_drewN ?_ _ | refine blk_drew ?_ | refine blk_alloc ?_ _)); refine blk_put (cs := #[.int .u64 0, .int .u64 x301001_2, .slice none 0 0]) ?_ 1 _ rfl; (with_reducible repeat (first | refine blk_drewN ?_ _ | refine blk_drew ?_ | refine blk_alloc ?_ _)); refine blk_put (cs := #[.int .u64 x301000_2, .int .u64 x301001_2, .slice none 0 0]) ?_ 0 _ rfl; (with_reducible repeat (first | refine blk_drewN ?_ _ | refine blk_drew ?_ | refine blk_alloc ?_ _)); refine blk_far ?_ NB300_322.out _; (with_reducible repeat (first | refine blk_drewN ?_ _ | refine blk_drew ?_ | refine blk_alloc ?_ _)); refine blk_far ?_ NB300_322.out _; (with_reducible repeat (first | refine blk_drewN ?_ _ | refine blk_drew ?_ | refine blk_alloc ?_ _)); refine blk_far ?_ NB300_322.out _; (with_reducible repeat (first | refine blk_drewN ?_ _ | refine blk_drew ?_ | refine blk_alloc ?_ _)); refine blk_far ?_ NB300_322.out _; (with_reducible repeat (first | refine blk_drewN ?_ _ | refine blk_drew ?_ | refine blk_alloc ?_ _)); refine blk_far ?_ NB300_322.out _; (with_reducible repeat (first | refine blk_drewN ?_ _ | refine blk_drew ?_ | refine blk_alloc ?_ _)); refine blk_far ?_ NB300_322.out _; (with_reducible repeat (first | refine blk_drewN ?_ _ | refine blk_drew ?_ | refine blk_alloc ?_ _)); refine blk_far ?_ NB300_322.out _; (with_reducible repeat (first | refine blk_drewN ?_ _ | refine blk_drew ?_ | refine blk_alloc ?_ _)); exact BK300.out) Tryd.underlying30 rfl (by kernel_rfl)) rfl ?_
           exact ⟨_, by first | rfl | (simp [errW_none, errW_some] <;> rfl) | (simp [*, errW_none, errW_some] <;> rfl), by first | exact Kd.S_nil _ _ _ _ _ | exact Kd.N_nil _ _ _ _ _ | exact Kd.V_nil _ _ _ _ _ | exact Kd.Q_nil _ _ _ _ _ | exact Kd.R_nil _ _ _ _ _, by repeat (first | (with_reducible first | exact HB.out | apply below_alloc | apply pw_below_drewN | apply below_drew1 | refine below_set ?_ GE300.out | refine below_set ?_ GE309.out | refine below_set ?_ GE322.out) | exact HB.out)⟩
         ·rw [if_neg c20] at H
          have c20b0 : decide (x8_2 < (rd t301 2)) = false := decide_eq_false c20
          clear c20
          replace H := Option.bind_eq_some_iff.mp H
          obtain ⟨⟨t326, t327⟩, A450, H⟩ := H
          replace H : (if t327 = 0 then (if t326.toList = a0.toList then (some ((rd t301 0), (rd t301 1), x310002_2, 0)) else (some (0, 0, ([] : List (S57)), 2))) else (some (0, 0, ([] : List (S57)), 2))) = some (r1, r2, r3, r4) := H
          have A45 := Aside0.mk A450
          clear A450
          by_cases c46 : t327 = 0
          ·rw [if_pos c46] at H
           have c46b0 : (t327 == 0) = true := beq_iff_eq.mpr c46
           have c46b1 : (t327 != 0) = false := bne_eq_false_iff_eq.mpr c46
           clear c46
           by_cases c47 : t326.toList = a0.toList
           ·rw [if_pos c47] at H
            have c47b0 : (t326.toList == a0.toList) = true := beq_iff_eq.mpr c47
            have c47b1 : (t326.toList != a0.toList) = false := bne_eq_false_iff_eq.mpr c47
            clear c47
            simp only [Option.some.injEq, Prod.mk.injEq] at H
            obtain ⟨rfl, rfl, rfl, rfl⟩ := H
            have p310 : 0 ≤ (2 : Int) := (by omega)
            have q310 : 2 < (t301.length : Int) := of_decide_eq_true zx21_10
            obtain ⟨ad310, e310, hx310_0⟩ := Kd.at_int (Kd.R_reads' HO_4.out).2.2 2 p310 q310
            obtain rfl : ad307 = ad310 := (by injection e310)
            (try simp only [show (2 : Int).toNat = 2 from rfl, Nat.reduceMul, Nat.reduceEqDiff, Go.Addr.add, ↓reduceIte] at hx310_0)
            have qi310 : (2 < t301.length) = True := eq_true (by omega)
            (try rw [show ((2 : Int)).toNat = 2 from rfl] at hx310_0)
            replace p310 := eq_true p310
            replace q310 := eq_true q310
            have hnb48 := NB309_300.out
            have hnc48 := NB300_309.out
            obtain ⟨hcz49_0, hcz49_1, hcz49_2, hfz49_0, hfz49_1, hfz49_2⟩ := cx21_bc3 BK309.out
            obtain ⟨Ao50, co50, eo50⟩ := Kd.S_slice HO_310002.out
            subst eo50
            go_wp2_with (first | ((with_reducible refine gate_callee (f := 12) rfl ?_); refine goesL_ (some 61) rfl rfl Tryd.func12 (by kernel_rfl) rfl #[.agg #[.int .u64 (rd t301 0), .int .u64 (rd t301 1), .slice Ao50 x310002_2.length co50]] rfl zx21_7 ?_; (with_reducible refine (postroomref11_Put.calls k2 (rd t301 0) (rd t301 1) _ _ x310002_2 t326 t327 _ ?side1 ?side2 A45.out).mono ?_); (case side1 => repeat (first | exact (Kd.S_reads' HO_310002.out).2.2 | (with_reducible refine Kd.C_alloc ?_ _) | (with_reducible refine Kd.C_drewN ?_ _) | (with_reducible refine Kd.C_drew ?_))); (case side2 => exact (Kd.S_reads' HO_310002.out).2.1); rintro e w51 ⟨rfl, hb⟩; refine ⟨_, rfl, ?_⟩; have n0_ := Aside0.mk (Kd.R_below zx21_4 hb); have n1_ := Aside0.mk (Kd.S_below zx21_5 hb); have n2_ := Aside0.mk (blk_below (g := gb300) (o := .cells #[.int .u64 x301000_2, .int .u64 x301001_2, .slice none 0 0] 30 (0, 0)) zx21_1 hb); have n3_ := Aside0.mk (blk_below (g := gb309) (o := .cells #[.int .u64 (rd t301 0), .int .u64 (rd t301 1), .slice Ao50 x310002_2.length co50] 30 (0, 0)) zx21_3 hb); have n4_ := Aside0.mk (below_step zx21_0 hb); clear HO_4; clear HO_310002; clear BK300; clear BK309; clear HB; have HO_4 := n0_; have HO_310002 := n1_; have BK300 := n2_; have BK309 := n3_; have HB := n4_; clear n0_ n1_ n2_ n3_ n4_; (try clear hb); (try clear hb2); (try clear hk); (try clear hi); have hcz52_0 : w51.cell? ⟨gb309, 0, none⟩ = some (.int .u64 (rd t301 0)) := (blk_cell BK309.out 0).trans rfl; have hcz52_1 : w51.cell? ⟨gb309, 1, none⟩ = some (.int .u64 (rd t301 1)) := (blk_cell BK309.out 1).trans rfl; have hcz52_2 : w51.cell? ⟨gb309, 2, none⟩ = some (.slice Ao50 x310002_2.length co50) := (blk_cell BK309.out 2).trans rfl; have hfz52_0 := blk_frozen BK309.out 0; have hfz52_1 := blk_frozen BK309.out 1; have hfz52_2 := blk_frozen BK309.out 2; have hcz53_0 : w51.cell? ⟨gb300, 0, none⟩ = some (.int .u64 x301000_2) := (blk_cell BK300.out 0).trans rfl; have hcz53_1 : w51.cell? ⟨gb300, 1, none⟩ = some (.int .u64 x301001_2) := (blk_cell BK300.out 1).trans rfl; have hcz53_2 : w51.cell? ⟨gb300, 2, none⟩ = some (.slice none 0 0) := (blk_cell BK300.out 2).trans rfl; have hfz53_0 := blk_frozen BK300.out 0; have hfz53_1 := blk_frozen BK300.out 1; have hfz53_2 := blk_frozen BK300.out 2))
            refine bodyPost_ret (results_ct rfl _ _ gb300 30 #[.int .u64 (rd t301 0), .int .u64 (rd t301 1), .slice Ao50 x310002_2.length co50] (0, 0) _ rfl (by (with_reducible repeat (first | refine blk_drewN ?_ _ | refine blk_drew ?_ | refine blk_alloc ?_ _)); refine blk_put (cs := #[.int .u64 (rd t301 0), .int .u64 (rd t301 1), .slice none 0 0]) ?_ 2 _ rfl; (with_reducible repeat (first | refine blk_drewN ?_ _ | refine blk_drew ?_ | refine blk_alloc ?_ _)); refine blk_put (cs := #[.int .u64 (rd t301 0), .int .u64 x301001_2, .slice none 0 0]) ?_ 1 _ rfl; (with_reducible repeat (first | refine blk_drewN ?_ _ | refine blk_drew ?_ | refine blk_alloc ?_ _)); refine blk_put (cs := #[.int .u64 x301000_2, .int .u64 x301001_2, .slice none 0 0]) ?_ 0 _ rfl; (with_reducible repeat (first | refine blk_drewN ?_ _ | refine blk_drew ?_ | refine blk_alloc ?_ _)); exact BK300.out) Tryd.underlying30 rfl (by kernel_rfl)) rfl ?_
            exact ⟨_, by first | rfl | (simp [errW_none, errW_some] <;> rfl) | (simp [*, errW_none, errW_some] <;> rfl), by (with_reducible repeat (first | apply Kd.S_alloc | apply Kd.S_drewN | apply Kd.S_drew)); exact Kd.S_mono (Kd.S_far (p := ⟨gb300, 2, none⟩) (Kd.S_far (p := ⟨gb300, 1, none⟩) (Kd.S_far (p := ⟨gb300, 0, none⟩) (Kd.S_types HO_310002.out BK300.out (by decide)) (fun _ hk => hk.2) (.int .u64 (rd t301 0))) (fun _ hk => hk.2) (.int .u64 (rd t301 1))) (fun _ hk => hk.2) (.slice Ao50 x310002_2.length co50)) (fun _ hk => trivial), by repeat (first | (with_reducible first | exact HB.out | apply below_alloc | apply pw_below_drewN | apply below_drew1 | refine below_set ?_ GE300.out | refine below_set ?_ GE309.out) | exact HB.out)⟩
           ·rw [if_neg c47] at H
            have c47b0 : (t326.toList == a0.toList) = false := beq_eq_false_iff_ne.mpr c47
            have c47b1 : (t326.toList != a0.toList) = true := bne_iff_ne.mpr c47
            simp only [Option.some.injEq, Prod.mk.injEq] at H
            obtain ⟨rfl, rfl, rfl, rfl⟩ := H
            have p310 : 0 ≤ (2 : Int) := (by omega)
            have q310 : 2 < (t301.length : Int) := of_decide_eq_true zx21_10
            obtain ⟨ad310, e310, hx310_0⟩ := Kd.at_int (Kd.R_reads' HO_4.out).2.2 2 p310 q310
            obtain rfl : ad307 = ad310 := (by injection e310)
            (try simp only [show (2 : Int).toNat = 2 from rfl, Nat.reduceMul, Nat.reduceEqDiff, Go.Addr.add, ↓reduceIte] at hx310_0)
            have qi310 : (2 < t301.length) = True := eq_true (by omega)
            (try rw [show ((2 : Int)).toNat = 2 from rfl] at hx310_0)
            replace p310 := eq_true p310
            replace q310 := eq_true q310
            have hnb54 := NB309_300.out
            have hnc54 := NB300_309.out
            obtain ⟨hcz55_0, hcz55_1, hcz55_2, hfz55_0, hfz55_1, hfz55_2⟩ := cx21_bc3 BK309.out
            obtain ⟨Ao56, co56, eo56⟩ := Kd.S_slice HO_310002.out
            subst eo56
            go_wp2_with (first | ((with_reducible refine gate_callee (f := 12) rfl ?_); refine goesL_ (some 61) rfl rfl Tryd.func12 (by kernel_rfl) rfl #[.agg #[.int .u64 (rd t301 0), .int .u64 (rd t301 1), .slice Ao56 x310002_2.length co56]] rfl zx21_7 ?_; (with_reducible refine (postroomref11_Put.calls k2 (rd t301 0) (rd t301 1) _ _ x310002_2 t326 t327 _ ?side1 ?side2 A45.out).mono ?_); (case side1 => repeat (first | exact (Kd.S_reads' HO_310002.out).2.2 | (with_reducible refine Kd.C_alloc ?_ _) | (with_reducible refine Kd.C_drewN ?_ _) | (with_reducible refine Kd.C_drew ?_))); (case side2 => exact (Kd.S_reads' HO_310002.out).2.1); rintro e w57 ⟨rfl, hb⟩; refine ⟨_, rfl, ?_⟩; have n0_ := Aside0.mk (Kd.R_below zx21_4 hb); have n1_ := Aside0.mk (Kd.S_below zx21_5 hb); have n2_ := Aside0.mk (blk_below (g := gb300) (o := .cells #[.int .u64 x301000_2, .int .u64 x301001_2, .slice none 0 0] 30 (0, 0)) zx21_1 hb); have n3_ := Aside0.mk (blk_below (g := gb309) (o := .cells #[.int .u64 (rd t301 0), .int .u64 (rd t301 1), .slice Ao56 x310002_2.length co56] 30 (0, 0)) zx21_3 hb); have n4_ := Aside0.mk (below_step zx21_0 hb); clear HO_4; clear HO_310002; clear BK300; clear BK309; clear HB; have HO_4 := n0_; have HO_310002 := n1_; have BK300 := n2_; have BK309 := n3_; have HB := n4_; clear n0_ n1_ n2_ n3_ n4_; (try clear hb); (try clear hb2); (try clear hk); (try clear hi); have hcz58_0 : w57.cell? ⟨gb300, 0, none⟩ = some (.int .u64 x301000_2) := (blk_cell BK300.out 0).trans rfl; have hcz58_1 : w57.cell? ⟨gb300, 1, none⟩ = some (.int .u64 x301001_2) := (blk_cell BK300.out 1).trans rfl; have hcz58_2 : w57.cell? ⟨gb300, 2, none⟩ = some (.slice none 0 0) := (blk_cell BK300.out 2).trans rfl; have hfz58_0 := blk_frozen BK300.out 0; have hfz58_1 := blk_frozen BK300.out 1; have hfz58_2 := blk_frozen BK300.out 2))
            refine bodyPost_ret (results_ct rfl _ _ gb300 30 #[.int .u64 0, .int .u64 0, .slice none 0 0] (0, 0) _ rfl zx21_6 Tryd.underlying30 rfl (by kernel_rfl)) rfl ?_
            exact ⟨_, by first | rfl | (simp [errW_none, errW_some] <;> rfl) | (simp [*, errW_none, errW_some] <;> rfl), by first | exact Kd.S_nil _ _ _ _ _ | exact Kd.N_nil _ _ _ _ _ | exact Kd.V_nil _ _ _ _ _ | exact Kd.Q_nil _ _ _ _ _ | exact Kd.R_nil _ _ _ _ _, by repeat (first | (with_reducible first | exact HB.out | apply below_alloc | apply pw_below_drewN | apply below_drew1 | refine below_set ?_ GE300.out | refine below_set ?_ GE309.out) | exact HB.out)⟩
          ·rw [if_neg c46] at H
           have c46b0 : (t327 == 0) = false := beq_eq_false_iff_ne.mpr c46
           have c46b1 : (t327 != 0) = true := bne_iff_ne.mpr c46
           simp only [Option.some.injEq, Prod.mk.injEq] at H
           obtain ⟨rfl, rfl, rfl, rfl⟩ := H
           have p310 : 0 ≤ (2 : Int) := (by omega)
           have q310 : 2 < (t301.length : Int) := of_decide_eq_true zx21_10
           obtain ⟨ad310, e310, hx310_0⟩ := Kd.at_int (Kd.R_reads' HO_4.out).2.2 2 p310 q310
           obtain rfl : ad307 = ad310 := (by injection e310)
           (try simp only [show (2 : Int).toNat = 2 from rfl, Nat.reduceMul, Nat.reduceEqDiff, Go.Addr.add, ↓reduceIte] at hx310_0)
           have qi310 : (2 < t301.length) = True := eq_true (by omega)
           (try rw [show ((2 : Int)).toNat = 2 from rfl] at hx310_0)
           replace p310 := eq_true p310
           replace q310 := eq_true q310
           have hnb59 := NB309_300.out
           have hnc59 := NB300_309.out
           obtain ⟨hcz60_0, hcz60_1, hcz60_2, hfz60_0, hfz60_1, hfz60_2⟩ := cx21_bc3 BK309.out
           obtain ⟨Ao61, co61, eo61⟩ := Kd.S_slice HO_310002.out
           subst eo61
           go_wp2_with (first | ((with_reducible refine gate_callee (f := 12) rfl ?_); refine goesL_ (some 61) rfl rfl Tryd.func12 (by kernel_rfl) rfl #[.agg #[.int .u64 (rd t301 0), .int .u64 (rd t301 1), .slice Ao61 x310002_2.length co61]] rfl zx21_7 ?_; (with_reducible refine (postroomref11_Put.calls k2 (rd t301 0) (rd t301 1) _ _ x310002_2 t326 t327 _ ?side1 ?side2 A45.out).mono ?_); (case side1 => repeat (first | exact (Kd.S_reads' HO_310002.out).2.2 | (with_reducible refine Kd.C_alloc ?_ _) | (with_reducible refine Kd.C_drewN ?_ _) | (with_reducible refine Kd.C_drew ?_))); (case side2 => exact (Kd.S_reads' HO_310002.out).2.1); rintro e w62 ⟨rfl, hb⟩; refine ⟨_, rfl, ?_⟩; have n0_ := Aside0.mk (Kd.R_below zx21_4 hb); have n1_ := Aside0.mk (Kd.S_below zx21_5 hb); have n2_ := Aside0.mk (blk_below (g := gb300) (o := .cells #[.int .u64 x301000_2, .int .u64 x301001_2, .slice none 0 0] 30 (0, 0)) zx21_1 hb); have n3_ := Aside0.mk (blk_below (g := gb309) (o := .cells #[.int .u64 (rd t301 0), .int .u64 (rd t301 1), .slice Ao61 x310002_2.length co61] 30 (0, 0)) zx21_3 hb); have n4_ := Aside0.mk (below_step zx21_0 hb); clear HO_4; clear HO_310002; clear BK300; clear BK309; clear HB; have HO_4 := n0_; have HO_310002 := n1_; have BK300 := n2_; have BK309 := n3_; have HB := n4_; clear n0_ n1_ n2_ n3_ n4_; (try clear hb); (try clear hb2); (try clear hk); (try clear hi); have hcz63_0 : w62.cell? ⟨gb300, 0, none⟩ = some (.int .u64 x301000_2) := (blk_cell BK300.out 0).trans rfl; have hcz63_1 : w62.cell? ⟨gb300, 1, none⟩ = some (.int .u64 x301001_2) := (blk_cell BK300.out 1).trans rfl; have hcz63_2 : w62.cell? ⟨gb300, 2, none⟩ = some (.slice none 0 0) := (blk_cell BK300.out 2).trans rfl; have hfz63_0 := blk_frozen BK300.out 0; have hfz63_1 := blk_frozen BK300.out 1; have hfz63_2 := blk_frozen BK300.out 2))
           refine bodyPost_ret (results_ct rfl _ _ gb300 30 #[.int .u64 0, .int .u64 0, .slice none 0 0] (0, 0) _ rfl zx21_6 Tryd.underlying30 rfl (by kernel_rfl)) rfl ?_
           exact ⟨_, by first | rfl | (simp [errW_none, errW_some] <;> rfl) | (simp [*, errW_none, errW_some] <;> rfl), by first | exact Kd.S_nil _ _ _ _ _ | exact Kd.N_nil _ _ _ _ _ | exact Kd.V_nil _ _ _ _ _ | exact Kd.Q_nil _ _ _ _ _ | exact Kd.R_nil _ _ _ _ _, by repeat (first | (with_reducible first | exact HB.out | apply below_alloc | apply pw_below_drewN | apply below_drew1 | refine below_set ?_ GE300.out | refine below_set ?_ GE309.out) | exact HB.out)⟩
        ·rw [if_neg c19] at H
         exact absurd H (by simp)
     ·rw [if_neg c12] at H
      exact absurd H (by simp)
    ·rw [if_neg c11] at H
     exact absurd H (by simp)

end Go.Proofs.YtmbigoeldobaiaaDoor.XMrk
end
section
/- What the functions of the translation answer, each as a plain Lean function, and that the code comes to it; for a law: its row. Conditions: none but those that each theorem names. Written by a program of this session (wip/xp). -/
namespace Go.Proofs.YtmbigoeldobaiaaDoor.XMrk
open Go.RowKit Go.Proofs.YtmbigoeldobaiaaDoorW.PrintWords Go.Proofs.YtmbigoeldobaiaaDoorW.PrintLast Go.Proofs.YtmbigoeldobaiaaDoorW.PrintMore
attribute [local go_sem] max2_int min2_int max_two min_two max_three min_three max_four min_four   -- for this text's walks alone
theorem cx12_bc3 {w : World} {g : Nat} {t : TypeId} {x0 x1 x2 : Value} (h : w.heap[g]? = some (.cells #[x0, x1, x2] t (0, 0))) : w.cell? ⟨g, 0, none⟩ = some x0 ∧ w.cell? ⟨g, 1, none⟩ = some x1 ∧ w.cell? ⟨g, 2, none⟩ = some x2 ∧ w.frozen? ⟨g, 0, none⟩ = false ∧ w.frozen? ⟨g, 1, none⟩ = false ∧ w.frozen? ⟨g, 2, none⟩ = false :=
 ⟨(blk_cell h 0).trans rfl, (blk_cell h 1).trans rfl, (blk_cell h 2).trans rfl, blk_frozen h 0, blk_frozen h 1, blk_frozen h 2⟩
theorem zx12_3 {p : Prop} (h : p := by first | (with_reducible assumption) | assumption) : p := h
theorem zx12_1 {p : Prop} (h : p := by (with_reducible repeat (first | apply Kd.N_alloc | apply Kd.N_drewN | apply Kd.N_drew)); exact HO210.out) : p := h
theorem zx12_0 {p : Prop} (h : p := by repeat (first | (with_reducible first | exact HB.out | apply below_alloc | apply pw_below_drewN | apply below_drew1) | exact HB.out)) : p := h
theorem zx12_2 {p : Prop} (h : p := by (try simp only [List.map_toArray, List.map_cons, List.map_nil]); first | done | rfl | (simp only [List.length_drop, List.length_take]; rfl)) : p := h
set_option linter.unusedVariables false
set_option linter.unusedSimpArgs false

/-! ### postroomlaw11_shown: function 8 -/
def postroomlaw11_shown.f (k : Nat)  : Option (Bool) := (mark_Put.f k 1 4 (([(⟨(⟨#[97]⟩ : ByteArray), 1, 1, (([2] : List Int)), 1, 0, 0⟩ : S55)] : List (S55)))).bind fun bt211 => ((mark_Take.f k (⟨#[]⟩ : ByteArray)).bind fun bt213 => (if bt211.2 = 0 then (if bt211.1.toList = ([1, 4, 1, 1, 97, 1, 1, 1, 0, 0, 1, 1] : List UInt8) then (some (bt213.2.2.2 == 2)) else (some false)) else (some false)))
theorem postroomlaw11_shown.mono : ∀ k, LeO (postroomlaw11_shown.f k ) (postroomlaw11_shown.f (k + 1) ) := by
 intro  k
 unfold postroomlaw11_shown.f
 repeat' first
   | (with_reducible exact mark_Put.mono _ _ _ _)
   | (with_reducible exact mark_Take.mono _ _)
   | (with_reducible exact LeO.refl _)
   | (with_reducible exact LeO.none _)
   | (with_reducible refine LeO.ite ?_ ?_)
   | (with_reducible refine LeO.bind ?_ (fun _ => ?_))
   | exact mark_Put.mono _ _ _ _
   | exact mark_Take.mono _ _
   | exact LeO.none _
   | refine LeO.ite ?_ ?_
   | refine LeO.bind ?_ (fun _ => ?_)
set_option maxHeartbeats 8000000 in
set_option maxRecDepth 100000 in
theorem postroomlaw11_shown.calls (k : Nat)  (r : Bool) (w : World) (h : postroomlaw11_shown.f k  = some r) :
  Calls Tryd.prog 8 #[] w fun e w' => e = .returned (.bool r) ∧ Below w.heap.size w w' := by
 have hu55 := Tryd.underlying55
 have hu25 := Tryd.underlying25
 have HB := Aside0.mk (Below.refl w.heap.size w)
 have H : ((mark_Put.f k 1 4 (([(⟨(⟨#[97]⟩ : ByteArray), 1, 1, (([2] : List Int)), 1, 0, 0⟩ : S55)] : List (S55)))).bind fun bt211 => ((mark_Take.f k (⟨#[]⟩ : ByteArray)).bind fun bt213 => (if bt211.2 = 0 then (if bt211.1.toList = ([1, 4, 1, 1, 97, 1, 1, 1, 0, 0, 1, 1] : List UInt8) then (some (bt213.2.2.2 == 2)) else (some false)) else (some false)))) = some r := h
 clear h
 obtain ⟨y205, hy205⟩ : ∃ y_ : List Int, y_ = (([2] : List Int)) := ⟨_, rfl⟩
 replace H : ((mark_Put.f k 1 4 (([(⟨(⟨#[97]⟩ : ByteArray), 1, 1, y205, 1, 0, 0⟩ : S55)] : List (S55)))).bind fun bt211 => ((mark_Take.f k (⟨#[]⟩ : ByteArray)).bind fun bt213 => (if bt211.2 = 0 then (if bt211.1.toList = ([1, 4, 1, 1, 97, 1, 1, 1, 0, 0, 1, 1] : List UInt8) then (some (bt213.2.2.2 == 2)) else (some false)) else (some false)))) = some r := by first | (rw [hy205]; with_reducible exact H) | (have H2_ := (Option.bind_some _ _).symm.trans H; rw [hy205]; with_reducible exact H2_) | (have H2_ := (Option.bind_some _ _).symm.trans H; with_reducible exact H2_) | with_reducible exact H | (rw [hy205]; exact H) | exact H
 have Ny205 := Aside0.mk hy205
 clear hy205
 obtain ⟨y208, hy208⟩ : ∃ y_ : List (S55), y_ = (([(⟨(⟨#[97]⟩ : ByteArray), 1, 1, y205, 1, 0, 0⟩ : S55)] : List (S55))) := ⟨_, rfl⟩
 replace H : ((mark_Put.f k 1 4 y208).bind fun bt211 => ((mark_Take.f k (⟨#[]⟩ : ByteArray)).bind fun bt213 => (if bt211.2 = 0 then (if bt211.1.toList = ([1, 4, 1, 1, 97, 1, 1, 1, 0, 0, 1, 1] : List UInt8) then (some (bt213.2.2.2 == 2)) else (some false)) else (some false)))) = some r := by first | (rw [hy208]; with_reducible exact H) | (have H2_ := (Option.bind_some _ _).symm.trans H; rw [hy208]; with_reducible exact H2_) | (have H2_ := (Option.bind_some _ _).symm.trans H; with_reducible exact H2_) | with_reducible exact H | (rw [hy208]; exact H) | exact H
 have Ny208 := Aside0.mk hy208
 clear hy208
 replace H := Option.bind_eq_some_iff.mp H
 obtain ⟨⟨t211, t212⟩, A10, H⟩ := H
 replace H : ((mark_Take.f k (⟨#[]⟩ : ByteArray)).bind fun bt213 => (if t212 = 0 then (if t211.toList = ([1, 4, 1, 1, 97, 1, 1, 1, 0, 0, 1, 1] : List UInt8) then (some (bt213.2.2.2 == 2)) else (some false)) else (some false))) = some r := H
 have A1 := Aside0.mk A10
 clear A10
 replace H := Option.bind_eq_some_iff.mp H
 obtain ⟨⟨t213, t214, t215, t218⟩, A20, H⟩ := H
 replace H : (if t212 = 0 then (if t211.toList = ([1, 4, 1, 1, 97, 1, 1, 1, 0, 0, 1, 1] : List UInt8) then (some (t218 == 2)) else (some false)) else (some false)) = some r := H
 have A2 := Aside0.mk A20
 clear A20
 by_cases c3 : t212 = 0
 ·rw [if_pos c3] at H
  have c3b0 : (t212 == 0) = true := beq_iff_eq.mpr c3
  have c3b1 : (t212 != 0) = false := bne_eq_false_iff_eq.mpr c3
  clear c3
  by_cases c4 : t211.toList = ([1, 4, 1, 1, 97, 1, 1, 1, 0, 0, 1, 1] : List UInt8)
  ·rw [if_pos c4] at H
   have c4b0 : (t211.toList == ([1, 4, 1, 1, 97, 1, 1, 1, 0, 0, 1, 1] : List UInt8)) = true := beq_iff_eq.mpr c4
   have c4b1 : (t211.toList != ([1, 4, 1, 1, 97, 1, 1, 1, 0, 0, 1, 1] : List UInt8)) = false := bne_eq_false_iff_eq.mpr c4
   clear c4
   obtain rfl := Option.some.inj H
   go_enter Tryd.func8, Tryd.ntmps8
   go_wp2_with (first | ((with_reducible refine gate_dst (N := 6) rfl ?_); refine Kd.R_lit (Kd.int .u64) _ 22 ?hg (N := 6) ?hd (xs := ([2] : List Int)) (inner := [.int .u64 2]) (ok := fun _ => True) (okp := fun _ => True) ?hr ?hp (fun _ hk => hk) trivial (Below.refl _ _) (Nat.le_refl _) (by simp) ?_; (case hd => rfl); (case hg => rfl); (case hr => first | (go_simp; done) | (go_simp; rfl)); (case hp => exact (Reps.one (show Kd.M (Kd.int .u64) _ _ _ 2 [.int .u64 2] from rfl) (Reps.none _ _))); intro v206 w5 ho6 hb hg_ hnew_; clear hg_ hnew_; (first | rw [← Ny205.out] at ho6 | (simp only [Int.reduceToNat] at ho6; rw [← Ny205.out] at ho6)); have n0_ := Aside0.mk (Kd.R_lower ho6 (below_size zx12_0)); have n1_ := Aside0.mk (below_step zx12_0 hb); clear HB; have HO207 := n0_; have HB := n1_; clear n0_ n1_; clear hb ho6; obtain ⟨Ao7, co7, eo7⟩ := Kd.R_slice HO207.out; subst eo7) | ((with_reducible refine gate_dst (N := 8) rfl ?_); refine Kd.N_lit k55 _ 55 ?hg (N' := 8) ?hd (xs := ([(⟨(⟨#[97]⟩ : ByteArray), 1, 1, y205, 1, 0, 0⟩ : S55)] : List (S55))) (inner := [.string (⟨#[97]⟩ : ByteArray), .int .u64 1, .int .u64 1, .slice Ao7 y205.length co7, .int .u64 1, .int .u64 0, .int .u64 0]) (ok := (fun _ => True)) (okp := (fun _ => True)) ?hr ?hp (fun _ hk => hk) ((show ∀ k_, w5.heap.size ≤ k_ → (fun _ => True) k_ from fun k_ hk => trivial) _ (Nat.le_refl _)) (Below.refl _ _) (Nat.le_refl _) (by simp) ?_; (case hd => rfl); (case hg => rfl); (case hr => first | (go_simp; done) | (go_simp; rfl)); (case hp => exact (Reps.c7 (show Kd.FK k55 _ _ (⟨(⟨#[97]⟩ : ByteArray), 1, 1, y205, 1, 0, 0⟩ : S55) [.string (⟨#[97]⟩ : ByteArray), .int .u64 1, .int .u64 1, .slice Ao7 y205.length co7, .int .u64 1, .int .u64 0, .int .u64 0] from (k55_mkF _ _ (⟨(⟨#[97]⟩ : ByteArray), 1, 1, y205, 1, 0, 0⟩ : S55) (Kd.R_reads' (Kd.R_mono (ok' := (fun _ => True)) (HO207.out) (fun k_ hk => trivial))).2.1 (Kd.R_F (Kd.R_mono (ok' := (fun _ => True)) (HO207.out) (fun k_ hk => trivial))))) (Reps.none _ _))); intro v209 w8 ho9 hb hg_ hnew_; clear hg_ hnew_; (first | rw [← Ny208.out] at ho9 | (simp only [Int.reduceToNat] at ho9; rw [← Ny208.out] at ho9)); have n0_ := Aside0.mk (Kd.N_lower ho9 (below_size zx12_0)); have n1_ := Aside0.mk (below_step zx12_0 hb); clear HB; (try clear HO207); have HO210 := n0_; have HB := n1_; clear n0_ n1_; clear hb ho9; obtain ⟨Ao10, co10, eo10⟩ := Kd.N_slice HO210.out; subst eo10) | ((with_reducible refine gate_callee (f := 11) rfl ?_); refine goesL_ (some 10) rfl rfl Tryd.func11 (by kernel_rfl) rfl #[.agg #[.int .u64 1, .int .u64 4, .slice Ao10 y208.length co10]] rfl zx12_2 ?_; (with_reducible refine (mark_Put.calls k 1 4 _ _ y208 t211 t212 _ ?side1 ?side2 A1.out).mono ?_); (case side1 => repeat (first | exact (Kd.N_reads' HO210.out).2.2 | (with_reducible refine Kd.C_alloc ?_ _) | (with_reducible refine Kd.C_drewN ?_ _) | (with_reducible refine Kd.C_drew ?_))); (case side2 => exact (Kd.N_reads' HO210.out).2.1); rintro e w11 ⟨rfl, hb⟩; refine ⟨_, rfl, ?_⟩; have n0_ := Aside0.mk (Kd.N_below zx12_1 hb); have n1_ := Aside0.mk (below_step zx12_0 hb); (try clear HO210); clear HB; have HO210 := n0_; have HB := n1_; clear n0_ n1_; (try clear hb); (try clear hb2); (try clear hk); (try clear hi)) | ((with_reducible refine gate_callee (f := 13) rfl ?_); refine goesL_ (some 14) rfl rfl Tryd.func13 (by kernel_rfl) rfl #[.string (⟨#[]⟩ : ByteArray)] rfl zx12_2 ?_; (with_reducible refine (mark_Take.calls k (⟨#[]⟩ : ByteArray) t213 t214 t215 t218 _ A2.out).mono ?_); rintro e w12 ⟨v216, rfl, ho0, hb⟩; refine ⟨_, rfl, ?_⟩; have n0_ := Aside0.mk (Kd.N_elder' zx12_1 (Kd.N_base (Kd.S_N (Kd.S_bound ho0))) hb); have n1_ := Aside0.mk (Kd.N_lower (Kd.N_mono (ok' := fun k_ => some k_ ≠ (.slice Ao10 y208.length co10 : Value).ownBlock) (Kd.S_N (Kd.S_bound ho0)) (fun k_ hk_ => (Kd.fresh' (Kd.N_lt zx12_1) k_ hk_.2.1))) (below_size zx12_0)); have n2_ := Aside0.mk (below_step zx12_0 hb); (try clear HO210); clear HB; have HO210 := n0_; have HO217 := n1_; have HB := n2_; clear n0_ n1_ n2_; (try clear hb); (try clear hb2); (try clear hk); (try clear hi); (try clear ho0)) | ((with_reducible refine gate_dst (N := 3) rfl ?_); refine box_event ?hg (N := 3) ?hd (cs := #[.int .u64 0, .int .u64 0, .slice none 0 0]) (t := 25) ?hr ?_; (case hd => rfl); (case hg => rfl); (case hr => first | (go_simp; done) | (go_simp; rfl)); intro gb219 hg w13 hbox hb; have n0_ := Aside0.mk (Kd.N_below (Kd.N_elderB zx12_1 gb219 (Nat.le_of_eq hg.symm)) hb); have n1_ := Aside0.mk (Kd.N_below (Kd.N_elderB (by (with_reducible repeat (first | apply Kd.N_alloc | apply Kd.N_drewN | apply Kd.N_drew)); exact HO217.out) gb219 (Nat.le_of_eq hg.symm)) hb); have n2_ := Aside0.mk (below_step zx12_0 hb); have n3_ := Aside0.mk (hbox); have n4_ := Aside0.mk ((by rw [hg]; exact (below_size zx12_0) : w.heap.size ≤ gb219)); have n5_ := Aside0.mk ((by rw [hg]; exact (below_size zx12_0) : w.heap.size ≤ gb219)); (try clear HO210); (try clear HO217); clear HB; have HO210 := n0_; have HO217 := n1_; have HB := n2_; have BK219 := n3_; have GW219 := n4_; have GE219 := n5_; clear n0_ n1_ n2_ n3_ n4_ n5_; clear hb hbox hg; have hcz14_0 : w13.cell? ⟨gb219, 0, none⟩ = some (.int .u64 0) := (blk_cell BK219.out 0).trans rfl; have hcz14_1 : w13.cell? ⟨gb219, 1, none⟩ = some (.int .u64 0) := (blk_cell BK219.out 1).trans rfl; have hcz14_2 : w13.cell? ⟨gb219, 2, none⟩ = some (.slice none 0 0) := (blk_cell BK219.out 2).trans rfl; have hfz14_0 := blk_frozen BK219.out 0; have hfz14_1 := blk_frozen BK219.out 1; have hfz14_2 := blk_frozen BK219.out 2; obtain ⟨Ao15, co15, eo15⟩ := Kd.N_slice HO217.out; subst eo15))
   go_ret
   exact ⟨by first | rfl | (simp [errW_none, errW_some] <;> rfl) | (simp [*, errW_none, errW_some] <;> rfl), by repeat (first | (with_reducible first | exact HB.out | apply below_alloc | apply pw_below_drewN | apply below_drew1 | refine below_set ?_ GE219.out) | exact HB.out)⟩
  ·rw [if_neg c4] at H
   have c4b0 : (t211.toList == ([1, 4, 1, 1, 97, 1, 1, 1, 0, 0, 1, 1] : List UInt8)) = false := beq_eq_false_iff_ne.mpr c4
   have c4b1 : (t211.toList != ([1, 4, 1, 1, 97, 1, 1, 1, 0, 0, 1, 1] : List UInt8)) = true := bne_iff_ne.mpr c4
   obtain rfl := Option.some.inj H
   go_enter Tryd.func8, Tryd.ntmps8
   go_wp2_with (first | ((with_reducible refine gate_dst (N := 6) rfl ?_); refine Kd.R_lit (Kd.int .u64) _ 22 ?hg (N := 6) ?hd (xs := ([2] : List Int)) (inner := [.int .u64 2]) (ok := fun _ => True) (okp := fun _ => True) ?hr ?hp (fun _ hk => hk) trivial (Below.refl _ _) (Nat.le_refl _) (by simp) ?_; (case hd => rfl); (case hg => rfl); (case hr => first | (go_simp; done) | (go_simp; rfl)); (case hp => exact (Reps.one (show Kd.M (Kd.int .u64) _ _ _ 2 [.int .u64 2] from rfl) (Reps.none _ _))); intro v206 w16 ho17 hb hg_ hnew_; clear hg_ hnew_; (first | rw [← Ny205.out] at ho17 | (simp only [Int.reduceToNat] at ho17; rw [← Ny205.out] at ho17)); have n0_ := Aside0.mk (Kd.R_lower ho17 (below_size zx12_0)); have n1_ := Aside0.mk (below_step zx12_0 hb); clear HB; have HO207 := n0_; have HB := n1_; clear n0_ n1_; clear hb ho17; obtain ⟨Ao18, co18, eo18⟩ := Kd.R_slice HO207.out; subst eo18) | ((with_reducible refine gate_dst (N := 8) rfl ?_); refine Kd.N_lit k55 _ 55 ?hg (N' := 8) ?hd (xs := ([(⟨(⟨#[97]⟩ : ByteArray), 1, 1, y205, 1, 0, 0⟩ : S55)] : List (S55))) (inner := [.string (⟨#[97]⟩ : ByteArray), .int .u64 1, .int .u64 1, .slice Ao18 y205.length co18, .int .u64 1, .int .u64 0, .int .u64 0]) (ok := (fun _ => True)) (okp := (fun _ => True)) ?hr ?hp (fun _ hk => hk) ((show ∀ k_, w16.heap.size ≤ k_ → (fun _ => True) k_ from fun k_ hk => trivial) _ (Nat.le_refl _)) (Below.refl _ _) (Nat.le_refl _) (by simp) ?_; (case hd => rfl); (case hg => rfl); (case hr => first | (go_simp; done) | (go_simp; rfl)); (case hp => exact (Reps.c7 (show Kd.FK k55 _ _ (⟨(⟨#[97]⟩ : ByteArray), 1, 1, y205, 1, 0, 0⟩ : S55) [.string (⟨#[97]⟩ : ByteArray), .int .u64 1, .int .u64 1, .slice Ao18 y205.length co18, .int .u64 1, .int .u64 0, .int .u64 0] from (k55_mkF _ _ (⟨(⟨#[97]⟩ : ByteArray), 1, 1, y205, 1, 0, 0⟩ : S55) (Kd.R_reads' (Kd.R_mono (ok' := (fun _ => True)) (HO207.out) (fun k_ hk => trivial))).2.1 (Kd.R_F (Kd.R_mono (ok' := (fun _ => True)) (HO207.out) (fun k_ hk => trivial))))) (Reps.none _ _))); intro v209 w19 ho20 hb hg_ hnew_; clear hg_ hnew_; (first | rw [← Ny208.out] at ho20 | (simp only [Int.reduceToNat] at ho20; rw [← Ny208.out] at ho20)); have n0_ := Aside0.mk (Kd.N_lower ho20 (below_size zx12_0)); have n1_ := Aside0.mk (below_step zx12_0 hb); clear HB; (try clear HO207); have HO210 := n0_; have HB := n1_; clear n0_ n1_; clear hb ho20; obtain ⟨Ao21, co21, eo21⟩ := Kd.N_slice HO210.out; subst eo21) | ((with_reducible refine gate_callee (f := 11) rfl ?_); refine goesL_ (some 10) rfl rfl Tryd.func11 (by kernel_rfl) rfl #[.agg #[.int .u64 1, .int .u64 4, .slice Ao21 y208.length co21]] rfl zx12_2 ?_; (with_reducible refine (mark_Put.calls k 1 4 _ _ y208 t211 t212 _ ?side1 ?side2 A1.out).mono ?_); (case side1 => repeat (first | exact (Kd.N_reads' HO210.out).2.2 | (with_reducible refine Kd.C_alloc ?_ _) | (with_reducible refine Kd.C_drewN ?_ _) | (with_reducible refine Kd.C_drew ?_))); (case side2 => exact (Kd.N_reads' HO210.out).2.1); rintro e w22 ⟨rfl, hb⟩; refine ⟨_, rfl, ?_⟩; have n0_ := Aside0.mk (Kd.N_below zx12_1 hb); have n1_ := Aside0.mk (below_step zx12_0 hb); (try clear HO210); clear HB; have HO210 := n0_; have HB := n1_; clear n0_ n1_; (try clear hb); (try clear hb2); (try clear hk); (try clear hi)) | ((with_reducible refine gate_callee (f := 13) rfl ?_); refine goesL_ (some 14) rfl rfl Tryd.func13 (by kernel_rfl) rfl #[.string (⟨#[]⟩ : ByteArray)] rfl zx12_2 ?_; (with_reducible refine (mark_Take.calls k (⟨#[]⟩ : ByteArray) t213 t214 t215 t218 _ A2.out).mono ?_); rintro e w23 ⟨v216, rfl, ho0, hb⟩; refine ⟨_, rfl, ?_⟩; have n0_ := Aside0.mk (Kd.N_elder' zx12_1 (Kd.N_base (Kd.S_N (Kd.S_bound ho0))) hb); have n1_ := Aside0.mk (Kd.N_lower (Kd.N_mono (ok' := fun k_ => some k_ ≠ (.slice Ao21 y208.length co21 : Value).ownBlock) (Kd.S_N (Kd.S_bound ho0)) (fun k_ hk_ => (Kd.fresh' (Kd.N_lt zx12_1) k_ hk_.2.1))) (below_size zx12_0)); have n2_ := Aside0.mk (below_step zx12_0 hb); (try clear HO210); clear HB; have HO210 := n0_; have HO217 := n1_; have HB := n2_; clear n0_ n1_ n2_; (try clear hb); (try clear hb2); (try clear hk); (try clear hi); (try clear ho0)) | ((with_reducible refine gate_dst (N := 3) rfl ?_); refine box_event ?hg (N := 3) ?hd (cs := #[.int .u64 0, .int .u64 0, .slice none 0 0]) (t := 25) ?hr ?_; (case hd => rfl); (case hg => rfl); (case hr => first | (go_simp; done) | (go_simp; rfl)); intro gb219 hg w24 hbox hb; have n0_ := Aside0.mk (Kd.N_below (Kd.N_elderB zx12_1 gb219 (Nat.le_of_eq hg.symm)) hb); have n1_ := Aside0.mk (Kd.N_below (Kd.N_elderB (by (with_reducible repeat (first | apply Kd.N_alloc | apply Kd.N_drewN | apply Kd.N_drew)); exact HO217.out) gb219 (Nat.le_of_eq hg.symm)) hb); have n2_ := Aside0.mk (below_step zx12_0 hb); have n3_ := Aside0.mk (hbox); have n4_ := Aside0.mk ((by rw [hg]; exact (below_size zx12_0) : w.heap.size ≤ gb219)); have n5_ := Aside0.mk ((by rw [hg]; exact (below_size zx12_0) : w.heap.size ≤ gb219)); (try clear HO210); (try clear HO217); clear HB; have HO210 := n0_; have HO217 := n1_; have HB := n2_; have BK219 := n3_; have GW219 := n4_; have GE219 := n5_; clear n0_ n1_ n2_ n3_ n4_ n5_; clear hb hbox hg; have hcz25_0 : w24.cell? ⟨gb219, 0, none⟩ = some (.int .u64 0) := (blk_cell BK219.out 0).trans rfl; have hcz25_1 : w24.cell? ⟨gb219, 1, none⟩ = some (.int .u64 0) := (blk_cell BK219.out 1).trans rfl; have hcz25_2 : w24.cell? ⟨gb219, 2, none⟩ = some (.slice none 0 0) := (blk_cell BK219.out 2).trans rfl; have hfz25_0 := blk_frozen BK219.out 0; have hfz25_1 := blk_frozen BK219.out 1; have hfz25_2 := blk_frozen BK219.out 2; obtain ⟨Ao26, co26, eo26⟩ := Kd.N_slice HO217.out; subst eo26))
   go_ret
   exact ⟨by first | rfl | (simp [errW_none, errW_some] <;> rfl) | (simp [*, errW_none, errW_some] <;> rfl), by repeat (first | (with_reducible first | exact HB.out | apply below_alloc | apply pw_below_drewN | apply below_drew1 | refine below_set ?_ GE219.out) | exact HB.out)⟩
 ·rw [if_neg c3] at H
  have c3b0 : (t212 == 0) = false := beq_eq_false_iff_ne.mpr c3
  have c3b1 : (t212 != 0) = true := bne_iff_ne.mpr c3
  obtain rfl := Option.some.inj H
  go_enter Tryd.func8, Tryd.ntmps8
  go_wp2_with (first | ((with_reducible refine gate_dst (N := 6) rfl ?_); refine Kd.R_lit (Kd.int .u64) _ 22 ?hg (N := 6) ?hd (xs := ([2] : List Int)) (inner := [.int .u64 2]) (ok := fun _ => True) (okp := fun _ => True) ?hr ?hp (fun _ hk => hk) trivial (Below.refl _ _) (Nat.le_refl _) (by simp) ?_; (case hd => rfl); (case hg => rfl); (case hr => first | (go_simp; done) | (go_simp; rfl)); (case hp => exact (Reps.one (show Kd.M (Kd.int .u64) _ _ _ 2 [.int .u64 2] from rfl) (Reps.none _ _))); intro v206 w27 ho28 hb hg_ hnew_; clear hg_ hnew_; (first | rw [← Ny205.out] at ho28 | (simp only [Int.reduceToNat] at ho28; rw [← Ny205.out] at ho28)); have n0_ := Aside0.mk (Kd.R_lower ho28 (below_size zx12_0)); have n1_ := Aside0.mk (below_step zx12_0 hb); clear HB; have HO207 := n0_; have HB := n1_; clear n0_ n1_; clear hb ho28; obtain ⟨Ao29, co29, eo29⟩ := Kd.R_slice HO207.out; subst eo29) | ((with_reducible refine gate_dst (N := 8) rfl ?_); refine Kd.N_lit k55 _ 55 ?hg (N' := 8) ?hd (xs := ([(⟨(⟨#[97]⟩ : ByteArray), 1, 1, y205, 1, 0, 0⟩ : S55)] : List (S55))) (inner := [.string (⟨#[97]⟩ : ByteArray), .int .u64 1, .int .u64 1, .slice Ao29 y205.length co29, .int .u64 1, .int .u64 0, .int .u64 0]) (ok := (fun _ => True)) (okp := (fun _ => True)) ?hr ?hp (fun _ hk => hk) ((show ∀ k_, w27.heap.size ≤ k_ → (fun _ => True) k_ from fun k_ hk => trivial) _ (Nat.le_refl _)) (Below.refl _ _) (Nat.le_refl _) (by simp) ?_; (case hd => rfl); (case hg => rfl); (case hr => first | (go_simp; done) | (go_simp; rfl)); (case hp => exact (Reps.c7 (show Kd.FK k55 _ _ (⟨(⟨#[97]⟩ : ByteArray), 1, 1, y205, 1, 0, 0⟩ : S55) [.string (⟨#[97]⟩ : ByteArray), .int .u64 1, .int .u64 1, .slice Ao29 y205.length co29, .int .u64 1, .int .u64 0, .int .u64 0] from (k55_mkF _ _ (⟨(⟨#[97]⟩ : ByteArray), 1, 1, y205, 1, 0, 0⟩ : S55) (Kd.R_reads' (Kd.R_mono (ok' := (fun _ => True)) (HO207.out) (fun k_ hk => trivial))).2.1 (Kd.R_F (Kd.R_mono (ok' := (fun _ => True)) (HO207.out) (fun k_ hk => trivial))))) (Reps.none _ _))); intro v209 w30 ho31 hb hg_ hnew_; clear hg_ hnew_; (first | rw [← Ny208.out] at ho31 | (simp only [Int.reduceToNat] at ho31; rw [← Ny208.out] at ho31)); have n0_ := Aside0.mk (Kd.N_lower ho31 (below_size zx12_0)); have n1_ := Aside0.mk (below_step zx12_0 hb); clear HB; (try clear HO207); have HO210 := n0_; have HB := n1_; clear n0_ n1_; clear hb ho31; obtain ⟨Ao32, co32, eo32⟩ := Kd.N_slice HO210.out; subst eo32) | ((with_reducible refine gate_callee (f := 11) rfl ?_); refine goesL_ (some 10) rfl rfl Tryd.func11 (by kernel_rfl) rfl #[.agg #[.int .u64 1, .int .u64 4, .slice Ao32 y208.length co32]] rfl zx12_2 ?_; (with_reducible refine (mark_Put.calls k 1 4 _ _ y208 t211 t212 _ ?side1 ?side2 A1.out).mono ?_); (case side1 => repeat (first | exact (Kd.N_reads' HO210.out).2.2 | (with_reducible refine Kd.C_alloc ?_ _) | (with_reducible refine Kd.C_drewN ?_ _) | (with_reducible refine Kd.C_drew ?_))); (case side2 => exact (Kd.N_reads' HO210.out).2.1); rintro e w33 ⟨rfl, hb⟩; refine ⟨_, rfl, ?_⟩; have n0_ := Aside0.mk (Kd.N_below zx12_1 hb); have n1_ := Aside0.mk (below_step zx12_0 hb); (try clear HO210); clear HB; have HO210 := n0_; have HB := n1_; clear n0_ n1_; (try clear hb); (try clear hb2); (try clear hk); (try clear hi)) | ((with_reducible refine gate_callee (f := 13) rfl ?_); refine goesL_ (some 14) rfl rfl Tryd.func13 (by kernel_rfl) rfl #[.string (⟨#[]⟩ : ByteArray)] rfl zx12_2 ?_; (with_reducible refine (mark_Take.calls k (⟨#[]⟩ : ByteArray) t213 t214 t215 t218 _ A2.out).mono ?_); rintro e w34 ⟨v216, rfl, ho0, hb⟩; refine ⟨_, rfl, ?_⟩;  have n1_ := Aside0.mk (Kd.N_lower (Kd.N_mono (ok' := fun k_ => some k_ ≠ (.slice Ao32 y208.length co32 : Value).ownBlock) (Kd.S_N (Kd.S_bound ho0)) (fun k_ hk_ => (Kd.fresh' (Kd.N_lt zx12_1) k_ hk_.2.1))) (below_size zx12_0)); have n2_ := Aside0.mk (below_step zx12_0 hb); (try clear HO210); clear HB; have HO217 := n1_; have HB := n2_; clear n1_ n2_; (try clear hb); (try clear hb2); (try clear hk); (try clear hi); (try clear ho0)) | ((with_reducible refine gate_dst (N := 3) rfl ?_); refine box_event ?hg (N := 3) ?hd (cs := #[.int .u64 0, .int .u64 0, .slice none 0 0]) (t := 25) ?hr ?_; (case hd => rfl); (case hg => rfl); (case hr => first | (go_simp; done) | (go_simp; rfl)); intro gb219 hg w35 hbox hb;  have n1_ := Aside0.mk (Kd.N_below (Kd.N_elderB (by (with_reducible repeat (first | apply Kd.N_alloc | apply Kd.N_drewN | apply Kd.N_drew)); exact HO217.out) gb219 (Nat.le_of_eq hg.symm)) hb); have n2_ := Aside0.mk (below_step zx12_0 hb); have n3_ := Aside0.mk (hbox); have n4_ := Aside0.mk ((by rw [hg]; exact (below_size zx12_0) : w.heap.size ≤ gb219)); have n5_ := Aside0.mk ((by rw [hg]; exact (below_size zx12_0) : w.heap.size ≤ gb219)); (try clear HO210); (try clear HO217); clear HB; have HO217 := n1_; have HB := n2_; have BK219 := n3_; have GW219 := n4_; have GE219 := n5_; clear n1_ n2_ n3_ n4_ n5_; clear hb hbox hg; have hcz36_0 : w35.cell? ⟨gb219, 0, none⟩ = some (.int .u64 0) := (blk_cell BK219.out 0).trans rfl; have hcz36_1 : w35.cell? ⟨gb219, 1, none⟩ = some (.int .u64 0) := (blk_cell BK219.out 1).trans rfl; have hcz36_2 : w35.cell? ⟨gb219, 2, none⟩ = some (.slice none 0 0) := (blk_cell BK219.out 2).trans rfl; have hfz36_0 := blk_frozen BK219.out 0; have hfz36_1 := blk_frozen BK219.out 1; have hfz36_2 := blk_frozen BK219.out 2; obtain ⟨Ao37, co37, eo37⟩ := Kd.N_slice HO217.out; subst eo37))
  go_ret
  exact ⟨by first | rfl | (simp [errW_none, errW_some] <;> rfl) | (simp [*, errW_none, errW_some] <;> rfl), by repeat (first | (with_reducible first | exact HB.out | apply below_alloc | apply pw_below_drewN | apply below_drew1 | refine below_set ?_ GE219.out) | exact HB.out)⟩

/-! ### postroomlaw11_few: function 9 -/
def postroomlaw11_few.l0 : Nat → Int → Int → Int → List (S55) → Option (Bool)
 | 0, _, _, _, _ => none
 | k + 1, x3, x221000, x221001, x221002 => if x3 < (x221002.length : Int) then (if 0 ≤ x3 then (if (((rd_T55 x221002 x3).f3).length : Int) > 100 then (some false) else (if (((rd_T55 x221002 x3).f0).size : Int) > 100 then (some false) else (postroomlaw11_few.l0 k (wrap64 (x3 + 1)) x221000 x221001 x221002))) else (none)) else (some (decide ((x221002.length : Int) ≤ 10)))
def postroomlaw11_few.f (k : Nat) (a0_0 : Int) (a0_1 : Int) (l0_2 : List (S55)) : Option (Bool) := postroomlaw11_few.l0 k 0 a0_0 a0_1 l0_2
theorem postroomlaw11_few.mono_l : ∀ k, (∀ y0 y1 y2 y3, LeO (postroomlaw11_few.l0 k y0 y1 y2 y3) (postroomlaw11_few.l0 (k + 1) y0 y1 y2 y3))
 | 0 => fun _ _ _ _ r h => by simp [postroomlaw11_few.l0] at h
 | k + 1 => by
  have ih0 := postroomlaw11_few.mono_l k
  ·intro y0 y1 y2 y3
   unfold postroomlaw11_few.l0
   repeat' first
   | (with_reducible exact ih0 _ _ _ _)
   | (with_reducible exact LeO.refl _)
   | (with_reducible exact LeO.none _)
   | (with_reducible refine LeO.ite ?_ ?_)
   | (with_reducible refine LeO.bind ?_ (fun _ => ?_))
   | exact ih0 _ _ _ _
   | exact LeO.none _
   | refine LeO.ite ?_ ?_
   | refine LeO.bind ?_ (fun _ => ?_)
theorem postroomlaw11_few.mono : ∀ a0 a1 a2 k, LeO (postroomlaw11_few.f k a0 a1 a2) (postroomlaw11_few.f (k + 1) a0 a1 a2) := by
 intro a0 a1 a2 k
 have ih0 := postroomlaw11_few.mono_l k
 unfold postroomlaw11_few.f
 repeat' first
   | (with_reducible exact ih0 _ _ _ _)
   | (with_reducible exact LeO.refl _)
   | (with_reducible exact LeO.none _)
   | (with_reducible refine LeO.ite ?_ ?_)
   | (with_reducible refine LeO.bind ?_ (fun _ => ?_))
   | exact ih0 _ _ _ _
   | exact LeO.none _
   | refine LeO.ite ?_ ?_
   | refine LeO.bind ?_ (fun _ => ?_)
set_option maxHeartbeats 8000000 in
set_option maxRecDepth 100000 in
theorem postroomlaw11_few.calls (k : Nat) (a0_0 : Int) (a0_1 : Int) (A0_2 : Option Addr) (c0_2 : Nat) (l0_2 : List (S55)) (r : Bool) (w : World) (hr0_2 : Kd.C k55 w A0_2 l0_2.length l0_2) (hc0_2 : l0_2.length ≤ c0_2) (h : postroomlaw11_few.f k a0_0 a0_1 l0_2 = some r) :
  Calls Tryd.prog 9 #[.agg #[.int .u64 a0_0, .int .u64 a0_1, .slice A0_2 l0_2.length c0_2]] w fun e w' => e = .returned (.bool r) ∧ Below w.heap.size w w' := by
 have hu25 := Tryd.underlying25
 have HR0_2 := Aside0.mk hr0_2
 have HC0_2 := Aside0.mk hc0_2
 clear hr0_2 hc0_2
 have HB := Aside0.mk (Below.refl w.heap.size w)
 have H : (postroomlaw11_few.l0 k 0 a0_0 a0_1 l0_2) = some r := h
 clear h
 have H' := Aside0.mk H
 clear H
 go_enter Tryd.func9, Tryd.ntmps9
 go_wp2_with (first | ((with_reducible refine gate_dst (N := 1) rfl ?_); (try (refine gate_guard (by rfl) ?_; dsimp only)); refine box_event ?hg (N := 1) ?hd (cs := #[.int .u64 a0_0, .int .u64 a0_1, .slice A0_2 l0_2.length c0_2]) (t := 25) ?hr ?_; (case hd => rfl); (case hg => rfl); (case hr => first | (go_simp; done) | (go_simp; rfl)); intro gb220 hg w2 hbox hb; have n0_ := Aside0.mk (below_step zx12_0 hb); have n1_ := Aside0.mk (hbox); have n2_ := Aside0.mk ((by rw [hg]; exact (below_size zx12_0) : w.heap.size ≤ gb220)); have n3_ := Aside0.mk ((by rw [hg]; exact (below_size zx12_0) : w.heap.size ≤ gb220)); clear HB; have HB := n0_; have BK220 := n1_; have GW220 := n2_; have GE220 := n3_; clear n0_ n1_ n2_ n3_; clear hb hbox hg))
 go_loopg [3] k (fun kq v3 w' => ∃ (x3_1 : Int), v3 = .int .i64 x3_1 ∧ Aside0 (postroomlaw11_few.l0 kq x3_1 a0_0 a0_1 l0_2 = some r) ∧ Aside0 (kq ≤ k) ∧ Aside0 (w'.heap[gb220]? = some (.cells #[.int .u64 a0_0, .int .u64 a0_1, (.slice A0_2 l0_2.length c0_2)] 25 (0, 0))) ∧ Aside0 (Below w.heap.size w w'))
 case atStart => exact ⟨(0), (by first | rfl | (simp; done) | (simp [*]; done)), H', ⟨Nat.le_refl _⟩, ⟨by (with_reducible repeat (first | refine blk_drewN ?_ _ | refine blk_drew ?_ | refine blk_alloc ?_ _)); exact BK220.out⟩, ⟨by repeat (first | (with_reducible first | exact HB.out | apply below_alloc | apply pw_below_drewN | apply below_drew1 | refine below_set ?_ GE220.out) | exact HB.out)⟩⟩
 case round =>
  clear H'
  (try clear p2)
  obtain ⟨x3_1, rfl, HA, HK1, BK220, HB⟩ := hrel
  cases gk with
  | zero => exact absurd HA.out (by simp [postroomlaw11_few.l0])
  | succ k1 =>
   have H := HA.out
   clear HA
   simp only [postroomlaw11_few.l0] at H
   by_cases c3 : x3_1 < (l0_2.length : Int)
   ·rw [if_pos c3] at H
    have c3b0 : decide (x3_1 < (l0_2.length : Int)) = true := decide_eq_true c3
    clear c3
    by_cases c4 : 0 ≤ x3_1
    ·rw [if_pos c4] at H
     have c4b0 : decide (0 ≤ x3_1) = true := decide_eq_true c4
     clear c4
     by_cases c5 : (((rd_T55 l0_2 x3_1).f3).length : Int) > 100
     ·rw [if_pos c5] at H
      have c5b0 : decide (100 < (((rd_T55 l0_2 x3_1).f3).length : Int)) = true := decide_eq_true c5
      have c5b1 : decide (100 < ((rd_T55 l0_2 x3_1).f3).length) = true := decide_eq_true (by omega)
      clear c5
      obtain rfl := Option.some.inj H
      obtain ⟨hcz6_0, hcz6_1, hcz6_2, hfz6_0, hfz6_1, hfz6_2⟩ := cx12_bc3 BK220.out
      have p221 : 0 ≤ (x3_1 : Int) := of_decide_eq_true zx12_3
      have q221 : x3_1 < (l0_2.length : Int) := of_decide_eq_true zx12_3
      obtain ⟨ad221, A221_3, c221_3, e221, hx221_0, hx221_1, hx221_2, hx221_3, hx221_4, hx221_5, hx221_6, hl221_3, hi221_3⟩ := at_T55 HR0_2.out x3_1 p221 q221
      cases e221
      replace hx221_0 := (HB.out.cell (World.block_lt_of_cell? w _ hx221_0)).trans hx221_0
      replace hx221_1 := (HB.out.cell (World.block_lt_of_cell? w _ hx221_1)).trans hx221_1
      replace hx221_2 := (HB.out.cell (World.block_lt_of_cell? w _ hx221_2)).trans hx221_2
      replace hx221_3 := (HB.out.cell (World.block_lt_of_cell? w _ hx221_3)).trans hx221_3
      replace hx221_4 := (HB.out.cell (World.block_lt_of_cell? w _ hx221_4)).trans hx221_4
      replace hx221_5 := (HB.out.cell (World.block_lt_of_cell? w _ hx221_5)).trans hx221_5
      replace hx221_6 := (HB.out.cell (World.block_lt_of_cell? w _ hx221_6)).trans hx221_6
      have HR221_3 := Aside0.mk hi221_3
      have HC221_3 := Aside0.mk hl221_3
      clear hi221_3 hl221_3
      replace p221 := eq_true p221
      replace q221 := eq_true q221
      go_wp2
      go_ret
      exact ⟨by first | rfl | (simp [errW_none, errW_some] <;> rfl) | (simp [*, errW_none, errW_some] <;> rfl), by repeat (first | (with_reducible first | exact HB.out | apply below_alloc | apply pw_below_drewN | apply below_drew1 | refine below_set ?_ GE220.out) | exact HB.out)⟩
     ·rw [if_neg c5] at H
      have c5b0 : decide (100 < (((rd_T55 l0_2 x3_1).f3).length : Int)) = false := decide_eq_false c5
      have c5b1 : decide (100 < ((rd_T55 l0_2 x3_1).f3).length) = false := decide_eq_false (by omega)
      clear c5
      by_cases c7 : (((rd_T55 l0_2 x3_1).f0).size : Int) > 100
      ·rw [if_pos c7] at H
       have c7b0 : decide (100 < (((rd_T55 l0_2 x3_1).f0).size : Int)) = true := decide_eq_true c7
       have c7b1 : decide (100 < ((rd_T55 l0_2 x3_1).f0).size) = true := decide_eq_true (by omega)
       clear c7
       obtain rfl := Option.some.inj H
       obtain ⟨hcz8_0, hcz8_1, hcz8_2, hfz8_0, hfz8_1, hfz8_2⟩ := cx12_bc3 BK220.out
       have p221 : 0 ≤ (x3_1 : Int) := of_decide_eq_true zx12_3
       have q221 : x3_1 < (l0_2.length : Int) := of_decide_eq_true zx12_3
       obtain ⟨ad221, A221_3, c221_3, e221, hx221_0, hx221_1, hx221_2, hx221_3, hx221_4, hx221_5, hx221_6, hl221_3, hi221_3⟩ := at_T55 HR0_2.out x3_1 p221 q221
       cases e221
       replace hx221_0 := (HB.out.cell (World.block_lt_of_cell? w _ hx221_0)).trans hx221_0
       replace hx221_1 := (HB.out.cell (World.block_lt_of_cell? w _ hx221_1)).trans hx221_1
       replace hx221_2 := (HB.out.cell (World.block_lt_of_cell? w _ hx221_2)).trans hx221_2
       replace hx221_3 := (HB.out.cell (World.block_lt_of_cell? w _ hx221_3)).trans hx221_3
       replace hx221_4 := (HB.out.cell (World.block_lt_of_cell? w _ hx221_4)).trans hx221_4
       replace hx221_5 := (HB.out.cell (World.block_lt_of_cell? w _ hx221_5)).trans hx221_5
       replace hx221_6 := (HB.out.cell (World.block_lt_of_cell? w _ hx221_6)).trans hx221_6
       have HR221_3 := Aside0.mk hi221_3
       have HC221_3 := Aside0.mk hl221_3
       clear hi221_3 hl221_3
       replace p221 := eq_true p221
       replace q221 := eq_true q221
       have p222 : 0 ≤ (x3_1 : Int) := of_decide_eq_true zx12_3
       have q222 : x3_1 < (l0_2.length : Int) := of_decide_eq_true zx12_3
       obtain ⟨ad222, A222_3, c222_3, e222, hx222_0, hx222_1, hx222_2, hx222_3, hx222_4, hx222_5, hx222_6, hl222_3, hi222_3⟩ := at_T55 HR0_2.out x3_1 p222 q222
       obtain rfl : ad221 = ad222 := (by injection e222)
       replace hx222_0 := (HB.out.cell (World.block_lt_of_cell? w _ hx222_0)).trans hx222_0
       replace hx222_1 := (HB.out.cell (World.block_lt_of_cell? w _ hx222_1)).trans hx222_1
       replace hx222_2 := (HB.out.cell (World.block_lt_of_cell? w _ hx222_2)).trans hx222_2
       replace hx222_3 := (HB.out.cell (World.block_lt_of_cell? w _ hx222_3)).trans hx222_3
       replace hx222_4 := (HB.out.cell (World.block_lt_of_cell? w _ hx222_4)).trans hx222_4
       replace hx222_5 := (HB.out.cell (World.block_lt_of_cell? w _ hx222_5)).trans hx222_5
       replace hx222_6 := (HB.out.cell (World.block_lt_of_cell? w _ hx222_6)).trans hx222_6
       have HR222_3 := Aside0.mk hi222_3
       have HC222_3 := Aside0.mk hl222_3
       clear hi222_3 hl222_3
       replace p222 := eq_true p222
       replace q222 := eq_true q222
       have ea_ := Option.some.inj (hx221_3.symm.trans hx222_3)
       injection ea_ with ea_ en_ ec_
       subst ea_
       subst ec_
       clear en_
       go_wp2
       go_ret
       exact ⟨by first | rfl | (simp [errW_none, errW_some] <;> rfl) | (simp [*, errW_none, errW_some] <;> rfl), by repeat (first | (with_reducible first | exact HB.out | apply below_alloc | apply pw_below_drewN | apply below_drew1 | refine below_set ?_ GE220.out) | exact HB.out)⟩
      ·rw [if_neg c7] at H
       have c7b0 : decide (100 < (((rd_T55 l0_2 x3_1).f0).size : Int)) = false := decide_eq_false c7
       have c7b1 : decide (100 < ((rd_T55 l0_2 x3_1).f0).size) = false := decide_eq_false (by omega)
       clear c7
       have H' := Aside0.mk H
       clear H
       obtain ⟨hcz9_0, hcz9_1, hcz9_2, hfz9_0, hfz9_1, hfz9_2⟩ := cx12_bc3 BK220.out
       have p221 : 0 ≤ (x3_1 : Int) := of_decide_eq_true zx12_3
       have q221 : x3_1 < (l0_2.length : Int) := of_decide_eq_true zx12_3
       obtain ⟨ad221, A221_3, c221_3, e221, hx221_0, hx221_1, hx221_2, hx221_3, hx221_4, hx221_5, hx221_6, hl221_3, hi221_3⟩ := at_T55 HR0_2.out x3_1 p221 q221
       cases e221
       replace hx221_0 := (HB.out.cell (World.block_lt_of_cell? w _ hx221_0)).trans hx221_0
       replace hx221_1 := (HB.out.cell (World.block_lt_of_cell? w _ hx221_1)).trans hx221_1
       replace hx221_2 := (HB.out.cell (World.block_lt_of_cell? w _ hx221_2)).trans hx221_2
       replace hx221_3 := (HB.out.cell (World.block_lt_of_cell? w _ hx221_3)).trans hx221_3
       replace hx221_4 := (HB.out.cell (World.block_lt_of_cell? w _ hx221_4)).trans hx221_4
       replace hx221_5 := (HB.out.cell (World.block_lt_of_cell? w _ hx221_5)).trans hx221_5
       replace hx221_6 := (HB.out.cell (World.block_lt_of_cell? w _ hx221_6)).trans hx221_6
       have HR221_3 := Aside0.mk hi221_3
       have HC221_3 := Aside0.mk hl221_3
       clear hi221_3 hl221_3
       replace p221 := eq_true p221
       replace q221 := eq_true q221
       have p222 : 0 ≤ (x3_1 : Int) := of_decide_eq_true zx12_3
       have q222 : x3_1 < (l0_2.length : Int) := of_decide_eq_true zx12_3
       obtain ⟨ad222, A222_3, c222_3, e222, hx222_0, hx222_1, hx222_2, hx222_3, hx222_4, hx222_5, hx222_6, hl222_3, hi222_3⟩ := at_T55 HR0_2.out x3_1 p222 q222
       obtain rfl : ad221 = ad222 := (by injection e222)
       replace hx222_0 := (HB.out.cell (World.block_lt_of_cell? w _ hx222_0)).trans hx222_0
       replace hx222_1 := (HB.out.cell (World.block_lt_of_cell? w _ hx222_1)).trans hx222_1
       replace hx222_2 := (HB.out.cell (World.block_lt_of_cell? w _ hx222_2)).trans hx222_2
       replace hx222_3 := (HB.out.cell (World.block_lt_of_cell? w _ hx222_3)).trans hx222_3
       replace hx222_4 := (HB.out.cell (World.block_lt_of_cell? w _ hx222_4)).trans hx222_4
       replace hx222_5 := (HB.out.cell (World.block_lt_of_cell? w _ hx222_5)).trans hx222_5
       replace hx222_6 := (HB.out.cell (World.block_lt_of_cell? w _ hx222_6)).trans hx222_6
       have HR222_3 := Aside0.mk hi222_3
       have HC222_3 := Aside0.mk hl222_3
       clear hi222_3 hl222_3
       replace p222 := eq_true p222
       replace q222 := eq_true q222
       have ea_ := Option.some.inj (hx221_3.symm.trans hx222_3)
       injection ea_ with ea_ en_ ec_
       subst ea_
       subst ec_
       clear en_
       go_wp2
       go_roundg k1
       case measure => have := HK1.out; omega
       case rel => exact ⟨(wrap64 (x3_1 + 1)), (by first | rfl | (simp; done) | (simp [*]; done)), H', ⟨by have := HK1.out; omega⟩, ⟨by (with_reducible repeat (first | refine blk_drewN ?_ _ | refine blk_drew ?_ | refine blk_alloc ?_ _)); exact BK220.out⟩, ⟨by repeat (first | (with_reducible first | exact HB.out | apply below_alloc | apply pw_below_drewN | apply below_drew1 | refine below_set ?_ GE220.out) | exact HB.out)⟩⟩
    ·rw [if_neg c4] at H
     exact absurd H (by simp)
   ·rw [if_neg c3] at H
    have c3b0 : decide (x3_1 < (l0_2.length : Int)) = false := decide_eq_false c3
    clear c3
    obtain rfl := Option.some.inj H
    obtain ⟨hcz10_0, hcz10_1, hcz10_2, hfz10_0, hfz10_1, hfz10_2⟩ := cx12_bc3 BK220.out
    go_wp2
    go_ret
    exact ⟨by first | rfl | (simp [errW_none, errW_some] <;> rfl) | (simp [*, errW_none, errW_some] <;> rfl), by repeat (first | (with_reducible first | exact HB.out | apply below_alloc | apply pw_below_drewN | apply below_drew1 | refine below_set ?_ GE220.out) | exact HB.out)⟩

end Go.Proofs.YtmbigoeldobaiaaDoor.XMrk
end
