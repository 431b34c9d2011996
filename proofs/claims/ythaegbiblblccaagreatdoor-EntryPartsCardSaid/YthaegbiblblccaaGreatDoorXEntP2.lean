/- Texts of this seat, in one. Conditions: those that each theorem names. -/
import Derived.Test.YthaegbiblblccaaGreatDoorXEntP1
import Derived.Test.YthaegbiblblccaaGreatDoorGLabelFind
import Derived.Test.YthaegbiblblccaaGreatDoorGLabelName
section
/- What the functions of the translation answer, each as a plain Lean function, and that the code comes to it; for a law: its row. Conditions: none but those that each theorem names. Written by a program of this session (wip/xp). -/
namespace Go.Proofs.YthaegbiblblccaaGreatDoor.XEnt
open Go.RowKit Go.Proofs.YthaegbiblblccaaGreatDoorW.PrintWords Go.Proofs.YthaegbiblblccaaGreatDoorW.PrintLast Go.Proofs.YthaegbiblblccaaGreatDoorW.PrintMore
attribute [local go_sem] max2_int min2_int max_two min_two max_three min_three max_four min_four   -- for this text's walks alone
theorem zx5_4 {p : Prop} (h : p := by first | (with_reducible assumption) | assumption) : p := h
theorem zx5_1 {p : Prop} (h : p := by repeat (first | (with_reducible first | exact HB.out | apply below_alloc | apply pw_below_drewN | apply below_drew1) | exact HB.out)) : p := h
theorem zx5_3 {p : Prop} (h : p := by (try simp only [List.map_toArray, List.map_cons, List.map_nil]); first | done | rfl | (simp only [List.length_drop, List.length_take]; rfl)) : p := h
theorem zx5_2 {p : Prop} (h : p := by repeat (first | (with_reducible first | exact HB.out | apply below_alloc | apply pw_below_drewN | apply below_drew1 | refine below_set ?_ GE102.out) | exact HB.out)) : p := h
theorem zx5_0 {p : Prop} (h : p := by (with_reducible repeat (first | refine blk_drewN ?_ _ | refine blk_drew ?_ | refine blk_alloc ?_ _)); refine blk_put (cs := #[.string ((rd_T52 l0 x10_1).f0), .string (⟨#[]⟩ : ByteArray)]) ?_ 1 _ rfl; (with_reducible repeat (first | refine blk_drewN ?_ _ | refine blk_drew ?_ | refine blk_alloc ?_ _)); refine blk_put (cs := #[.string (⟨#[]⟩ : ByteArray), .string (⟨#[]⟩ : ByteArray)]) ?_ 0 _ rfl; (with_reducible repeat (first | refine blk_drewN ?_ _ | refine blk_drew ?_ | refine blk_alloc ?_ _)); exact BK102.out) : p := h
set_option linter.unusedVariables false
set_option linter.unusedSimpArgs false

/-! ### label_Check: function 32 -/
def label_Check.l0 : Nat → List (S52) → List (S52) → Int → Int → Option (Int)
  | 0, _, _, _, _ => none
  | k + 1, x0, x8, x9, x10 => if x10 < x9 then (if 0 ≤ x10 then (if x10 < (x8.length : Int) then ((label_Name.f ((rd_T52 x8 x10).f0)).bind fun t103 => (if t103 = true then (if (((rd_T52 x8 x10).f1).size : Int) > 40 then (some 7) else (if x10 ≤ (x0.length : Int) then ((label_find.f (x0.take (x10 : Int).toNat) ((rd_T52 x8 x10).f0)).bind fun t108 => (if t108 ≥ 0 then (some 4) else (label_Check.l0 k x0 x8 x9 (wrap64 (x10 + 1))))) else (none))) else (some 3))) else (none)) else (none)) else (some 0)
def label_Check.f (k : Nat) (l0 : List (S52)) : Option (Int) := if (l0.length : Int) > 8 then (some 6) else (label_Check.l0 k l0 l0 (l0.length : Int) 0)
theorem label_Check.mono_l : ∀ k, (∀ y0 y1 y2 y3, LeO (label_Check.l0 k y0 y1 y2 y3) (label_Check.l0 (k + 1) y0 y1 y2 y3))
  | 0 => fun _ _ _ _ r h => by simp [label_Check.l0] at h
  | k + 1 => by
    have ih0 := label_Check.mono_l k
    · intro y0 y1 y2 y3
      unfold label_Check.l0
      repeat' first
      | (with_reducible exact ih0 _ _ _ _)
      | (with_reducible exact LeO.refl _)
      | (with_reducible exact LeO.none _)
      | (with_reducible refine LeO.ite ?_ ?_)
      | (with_reducible refine LeO.bind ?_ (fun _ => ?_))
      | exact ih0 _ _ _ _
      | exact LeO.none _
      | refine LeO.ite ?_ ?_
      | refine LeO.bind ?_ (fun _ => ?_)
theorem label_Check.mono : ∀ a0 k, LeO (label_Check.f k a0) (label_Check.f (k + 1) a0) := by
  intro a0 k
  have ih0 := label_Check.mono_l k
  unfold label_Check.f
  repeat' first
      | (with_reducible exact ih0 _ _ _ _)
      | (with_reducible exact LeO.refl _)
      | (with_reducible exact LeO.none _)
      | (with_reducible refine LeO.ite ?_ ?_)
      | (with_reducible refine LeO.bind ?_ (fun _ => ?_))
      | exact ih0 _ _ _ _
      | exact LeO.none _
      | refine LeO.ite ?_ ?_
      | refine LeO.bind ?_ (fun _ => ?_)
def label_Check.T10 : Bool × List (List Nat × List Nat) := (true, [([], []), ([], []), ([0, 1], [0, 1]), ([], []), ([3], [3]), ([2, 4], [2, 4]), ([5], [5]), ([6, 5], [6])])
def label_Check.B10 : List Nat := [0, 0, 3, 0, 8, 31, 63, 127]
theorem label_Check.tab10 : rtab .any (opsOf Tryz.f32 10) = label_Check.T10 := by kernel_rfl
theorem label_Check.bits10 : waitsOk label_Check.T10.2 label_Check.B10 = true := by kernel_rfl
set_option maxHeartbeats 8000000 in
set_option maxRecDepth 100000 in
theorem label_Check.calls (k : Nat) (A0 : Option Addr) (c0 : Nat) (l0 : List (S52)) (r : Int) (w : World) (hr0 : Kd.C k52 w A0 l0.length l0) (hc0 : l0.length ≤ c0) (h : label_Check.f k l0 = some r) :
    Calls Tryz.prog 32 #[.slice A0 l0.length c0] w fun e w' => e = .returned (.int .i64 r) ∧ Below w.heap.size w w' := by
  have hu52 := Tryz.underlying52
  have HR0 := Aside0.mk hr0
  have HC0 := Aside0.mk hc0
  clear hr0 hc0
  have HB := Aside0.mk (Below.refl w.heap.size w)
  have H : (if (l0.length : Int) > 8 then (some 6) else (label_Check.l0 k l0 l0 (l0.length : Int) 0)) = some r := h
  clear h
  by_cases c2 : (l0.length : Int) > 8
  · rw [if_pos c2] at H
    have c2b0 : decide (8 < (l0.length : Int)) = true := decide_eq_true c2
    have c2b1 : decide (8 < l0.length) = true := decide_eq_true (by omega)
    clear c2
    obtain rfl := Option.some.inj H
    go_enter Tryz.func32, Tryz.ntmps32
    go_wp2
    go_ret
    exact ⟨by first | rfl | (simp [errW_none, errW_some] <;> rfl) | (simp [*, errW_none, errW_some] <;> rfl), by repeat (first | (with_reducible first | exact HB.out | apply below_alloc | apply pw_below_drewN | apply below_drew1) | exact HB.out)⟩
  · rw [if_neg c2] at H
    have c2b0 : decide (8 < (l0.length : Int)) = false := decide_eq_false c2
    have c2b1 : decide (8 < l0.length) = false := decide_eq_false (by omega)
    clear c2
    have H' := Aside0.mk H
    clear H
    go_enter Tryz.func32, Tryz.ntmps32
    go_wp2
    go_loopg [10] k (fun kq v10 w' => ∃ (x10_1 : Int), v10 = .int .i64 x10_1 ∧ Aside0 (label_Check.l0 kq l0 l0 (l0.length : Int) x10_1 = some r) ∧ Aside0 (kq ≤ k) ∧ Aside0 (Below w.heap.size w w'))
    case atStart => exact ⟨(0), (by first | rfl | (simp; done) | (simp [*]; done)), H', ⟨Nat.le_refl _⟩, ⟨by repeat (first | (with_reducible first | exact HB.out | apply below_alloc | apply pw_below_drewN | apply below_drew1) | exact HB.out)⟩⟩
    case round =>
      clear H'
      try clear c2
      try clear c2b0
      try clear c2b1
      try clear p2
      obtain ⟨x10_1, rfl, HA, HK1, HB⟩ := hrel
      cases gk with
      | zero => exact absurd HA.out (by simp [label_Check.l0])
      | succ k1 =>
        have H := HA.out
        clear HA
        simp only [label_Check.l0] at H
        by_cases c3 : x10_1 < (l0.length : Int)
        · rw [if_pos c3] at H
          have c3b0 : decide (x10_1 < (l0.length : Int)) = true := decide_eq_true c3
          clear c3
          by_cases c4 : 0 ≤ x10_1
          · rw [if_pos c4] at H
            have c4b0 : decide (0 ≤ x10_1) = true := decide_eq_true c4
            clear c4
            by_cases c5 : x10_1 < (l0.length : Int)
            · rw [if_pos c5] at H
              have c5b0 : decide (x10_1 < (l0.length : Int)) = true := decide_eq_true c5
              clear c5
              replace H := Option.bind_eq_some_iff.mp H
              obtain ⟨t103, A60, H⟩ := H
              replace H : (if t103 = true then (if (((rd_T52 l0 x10_1).f1).size : Int) > 40 then (some 7) else (if x10_1 ≤ (l0.length : Int) then ((label_find.f (l0.take (x10_1 : Int).toNat) ((rd_T52 l0 x10_1).f0)).bind fun t108 => (if t108 ≥ 0 then (some 4) else (label_Check.l0 k1 l0 l0 (l0.length : Int) (wrap64 (x10_1 + 1))))) else (none))) else (some 3)) = some r := H
              have A6 := Aside0.mk A60
              clear A60
              by_cases c7 : t103 = true
              · subst c7
                have H1 : (if (((rd_T52 l0 x10_1).f1).size : Int) > 40 then (some 7) else (if x10_1 ≤ (l0.length : Int) then ((label_find.f (l0.take (x10_1 : Int).toNat) ((rd_T52 l0 x10_1).f0)).bind fun t108 => (if t108 ≥ 0 then (some 4) else (label_Check.l0 k1 l0 l0 (l0.length : Int) (wrap64 (x10_1 + 1))))) else (none))) = some r := by rw [if_pos rfl] at H; exact H
                clear H
                have H := H1
                clear H1
                by_cases c8 : (((rd_T52 l0 x10_1).f1).size : Int) > 40
                · rw [if_pos c8] at H
                  have c8b0 : decide (40 < (((rd_T52 l0 x10_1).f1).size : Int)) = true := decide_eq_true c8
                  have c8b1 : decide (40 < ((rd_T52 l0 x10_1).f1).size) = true := decide_eq_true (by omega)
                  clear c8
                  obtain rfl := Option.some.inj H
                  have p101 : 0 ≤ (x10_1 : Int) := of_decide_eq_true zx5_4
                  have q101 : x10_1 < (l0.length : Int) := of_decide_eq_true zx5_4
                  obtain ⟨ad101, e101, hx101_0, hx101_1⟩ := at_T52 HR0.out x10_1 p101 q101
                  cases e101
                  replace hx101_0 := (HB.out.cell (World.block_lt_of_cell? w _ hx101_0)).trans hx101_0
                  replace hx101_1 := (HB.out.cell (World.block_lt_of_cell? w _ hx101_1)).trans hx101_1
                  replace p101 := eq_true p101
                  replace q101 := eq_true q101
                  go_wp2_with (first | ((with_reducible refine gate_dst (N := 4) rfl ?_); refine box_event ?hg (N := 4) ?hd (cs := #[.string (⟨#[]⟩ : ByteArray), .string (⟨#[]⟩ : ByteArray)]) (t := 52) ?hr ?_; (case hd => rfl); (case hg => rfl); (case hr => first | (go_simp; done) | (go_simp; rfl)); intro gb102 hg w9 hbox hb; have n0_ := Aside0.mk (below_step zx5_1 hb); have n1_ := Aside0.mk (hbox); have n2_ := Aside0.mk ((by rw [hg]; exact (below_size zx5_1) : w.heap.size ≤ gb102)); have n3_ := Aside0.mk ((by rw [hg]; exact (below_size zx5_1) : w.heap.size ≤ gb102)); clear HB; have HB := n0_; have BK102 := n1_; have GW102 := n2_; have GE102 := n3_; clear n0_ n1_ n2_ n3_; clear hb hbox hg; have hcz10_0 : w9.cell? ⟨gb102, 0, none⟩ = some (.string (⟨#[]⟩ : ByteArray)) := (blk_cell BK102.out 0).trans rfl; have hcz10_1 : w9.cell? ⟨gb102, 1, none⟩ = some (.string (⟨#[]⟩ : ByteArray)) := (blk_cell BK102.out 1).trans rfl; have hfz10_0 := blk_frozen BK102.out 0; have hfz10_1 := blk_frozen BK102.out 1) | ((with_reducible refine gate_callee (f := 57) rfl ?_); refine goesL_ (some 18) rfl rfl Tryz.func57 (by kernel_rfl) rfl #[.string ((rd_T52 l0 x10_1).f0)] rfl zx5_3 ?_; (with_reducible refine (label_Name.calls ((rd_T52 l0 x10_1).f0) true _ A6.out).mono ?_); rintro e w11 ⟨rfl, hb⟩; refine ⟨_, rfl, ?_⟩; have n0_ := Aside0.mk (blk_below (g := gb102) (o := .cells #[.string ((rd_T52 l0 x10_1).f0), .string ((rd_T52 l0 x10_1).f1)] 52 (0, 0)) zx5_0 hb); have n1_ := Aside0.mk (below_step zx5_2 hb); clear BK102; clear HB; have BK102 := n0_; have HB := n1_; clear n0_ n1_; (try clear hb); (try clear hb2); (try clear hk); (try clear hi); have hcz12_0 : w11.cell? ⟨gb102, 0, none⟩ = some (.string ((rd_T52 l0 x10_1).f0)) := (blk_cell BK102.out 0).trans rfl; have hcz12_1 : w11.cell? ⟨gb102, 1, none⟩ = some (.string ((rd_T52 l0 x10_1).f1)) := (blk_cell BK102.out 1).trans rfl; have hfz12_0 := blk_frozen BK102.out 0; have hfz12_1 := blk_frozen BK102.out 1))
                  go_ret
                  exact ⟨by first | rfl | (simp [errW_none, errW_some] <;> rfl) | (simp [*, errW_none, errW_some] <;> rfl), by repeat (first | (with_reducible first | exact HB.out | apply below_alloc | apply pw_below_drewN | apply below_drew1 | refine below_set ?_ GE102.out) | exact HB.out)⟩
                · rw [if_neg c8] at H
                  have c8b0 : decide (40 < (((rd_T52 l0 x10_1).f1).size : Int)) = false := decide_eq_false c8
                  have c8b1 : decide (40 < ((rd_T52 l0 x10_1).f1).size) = false := decide_eq_false (by omega)
                  clear c8
                  have c13b0 := eq_true (of_decide_eq_true zx5_4 : 0 ≤ x10_1)
                  by_cases c14 : x10_1 ≤ (l0.length : Int)
                  · rw [if_pos c14] at H
                    have c14b0 := eq_true c14
                    have c14b1 : decide (x10_1 ≤ (l0.length : Int)) = true := decide_eq_true c14
                    clear c14
                    obtain ⟨y104, hy104⟩ : ∃ y_ : List (S52), y_ = (l0.take (x10_1 : Int).toNat) := ⟨_, rfl⟩
                    replace H : ((label_find.f y104 ((rd_T52 l0 x10_1).f0)).bind fun t108 => (if t108 ≥ 0 then (some 4) else (label_Check.l0 k1 l0 l0 (l0.length : Int) (wrap64 (x10_1 + 1))))) = some r := by first | (rw [hy104]; with_reducible exact H) | (have H2_ := (Option.bind_some _ _).symm.trans H; rw [hy104]; with_reducible exact H2_) | (have H2_ := (Option.bind_some _ _).symm.trans H; with_reducible exact H2_) | with_reducible exact H | (rw [hy104]; exact H) | exact H
                    have Ny104 := Aside0.mk hy104
                    clear hy104
                    replace H := Option.bind_eq_some_iff.mp H
                    obtain ⟨t108, A150, H⟩ := H
                    replace H : (if t108 ≥ 0 then (some 4) else (label_Check.l0 k1 l0 l0 (l0.length : Int) (wrap64 (x10_1 + 1)))) = some r := H
                    have A15 := Aside0.mk A150
                    clear A150
                    by_cases c16 : t108 ≥ 0
                    · rw [if_pos c16] at H
                      have c16b0 : decide (0 ≤ t108) = true := decide_eq_true c16
                      clear c16
                      obtain rfl := Option.some.inj H
                      have p101 : 0 ≤ (x10_1 : Int) := of_decide_eq_true zx5_4
                      have q101 : x10_1 < (l0.length : Int) := of_decide_eq_true zx5_4
                      obtain ⟨ad101, e101, hx101_0, hx101_1⟩ := at_T52 HR0.out x10_1 p101 q101
                      cases e101
                      replace hx101_0 := (HB.out.cell (World.block_lt_of_cell? w _ hx101_0)).trans hx101_0
                      replace hx101_1 := (HB.out.cell (World.block_lt_of_cell? w _ hx101_1)).trans hx101_1
                      replace p101 := eq_true p101
                      replace q101 := eq_true q101
                      try go_wp2_with (first | ((with_reducible refine gate_dst (N := 4) rfl ?_); refine box_event ?hg (N := 4) ?hd (cs := #[.string (⟨#[]⟩ : ByteArray), .string (⟨#[]⟩ : ByteArray)]) (t := 52) ?hr ?_; (case hd => rfl); (case hg => rfl); (case hr => first | (go_simp; done) | (go_simp; rfl)); intro gb102 hg w17 hbox hb; have n0_ := Aside0.mk (below_step zx5_1 hb); have n1_ := Aside0.mk (hbox); have n2_ := Aside0.mk ((by rw [hg]; exact (below_size zx5_1) : w.heap.size ≤ gb102)); have n3_ := Aside0.mk ((by rw [hg]; exact (below_size zx5_1) : w.heap.size ≤ gb102)); clear HB; have HB := n0_; have BK102 := n1_; have GW102 := n2_; have GE102 := n3_; clear n0_ n1_ n2_ n3_; clear hb hbox hg; have hcz18_0 : w17.cell? ⟨gb102, 0, none⟩ = some (.string (⟨#[]⟩ : ByteArray)) := (blk_cell BK102.out 0).trans rfl; have hcz18_1 : w17.cell? ⟨gb102, 1, none⟩ = some (.string (⟨#[]⟩ : ByteArray)) := (blk_cell BK102.out 1).trans rfl; have hfz18_0 := blk_frozen BK102.out 0; have hfz18_1 := blk_frozen BK102.out 1) | ((with_reducible refine gate_callee (f := 57) rfl ?_); refine goesL_ (some 18) rfl rfl Tryz.func57 (by kernel_rfl) rfl #[.string ((rd_T52 l0 x10_1).f0)] rfl zx5_3 ?_; (with_reducible refine (label_Name.calls ((rd_T52 l0 x10_1).f0) true _ A6.out).mono ?_); rintro e w19 ⟨rfl, hb⟩; refine ⟨_, rfl, ?_⟩; have n0_ := Aside0.mk (blk_below (g := gb102) (o := .cells #[.string ((rd_T52 l0 x10_1).f0), .string ((rd_T52 l0 x10_1).f1)] 52 (0, 0)) zx5_0 hb); have n1_ := Aside0.mk (below_step zx5_2 hb); clear BK102; clear HB; have BK102 := n0_; have HB := n1_; clear n0_ n1_; (try clear hb); (try clear hb2); (try clear hk); (try clear hi); have hcz20_0 : w19.cell? ⟨gb102, 0, none⟩ = some (.string ((rd_T52 l0 x10_1).f0)) := (blk_cell BK102.out 0).trans rfl; have hcz20_1 : w19.cell? ⟨gb102, 1, none⟩ = some (.string ((rd_T52 l0 x10_1).f1)) := (blk_cell BK102.out 1).trans rfl; have hfz20_0 := blk_frozen BK102.out 0; have hfz20_1 := blk_frozen BK102.out 1))
                      have n0_ := Aside0.mk (blk_drew BK102.out)
                      have n1_ := Aside0.mk (below_drew1 HB.out)
                      clear BK102
                      clear HB
                      have BK102 := n0_
                      have HB := n1_
                      clear n0_ n1_
                      have q22 : (x10_1 : Int) ≤ ((l0.length : Int) : Int) := of_decide_eq_true zx5_4
                      obtain ⟨i022, hi022, _, hsz22, _⟩ := info_parts info52
                      have hroom22 : l0.length ≤ c0 := HC0.out
                      have hC22 : Kd.C k52 _ (some ad101) l0.length l0 := HR0.out
                      have hcut22 := cut_to (P := Tryz.prog) 22 52 .i64 Tryz.underlying22 hi022 (some ad101) l0.length c0 x10_1 (of_decide_eq_true zx5_4) q22 hroom22
                      have hr22 := Kd.C_take (m := (x10_1 : Int).toNat) hC22 (by omega)
                      have hy22 : y104.length = (x10_1 : Int).toNat := (by rw [Ny104.out, List.length_take]; omega)
                      rw [← Ny104.out] at hr22
                      rw [← hy22] at hcut22
                      have HR107 := Aside0.mk hr22
                      have HC107 := Aside0.mk (show y104.length ≤ c0 from by omega)
                      clear hr22 hC22 hroom22 hi022 hsz22
                      have KY22 := Aside0.mk hy22
                      clear hy22
                      replace q22 := eq_true q22
                      refine start_ (n := 8) (S := fun w' => w'.cell? ⟨gb102, 0, none⟩ = some (.string ((rd_T52 l0 x10_1).f0)) ∧ w'.cell? ⟨gb102, 1, none⟩ = some (.string ((rd_T52 l0 x10_1).f1))) (ds := []) #[false, false, false, false, false, false, false, false] (by kernel_rfl) rfl rfl ⟨(blk_cell BK102.out 0).trans rfl, (blk_cell BK102.out 1).trans rfl⟩ (fun hHeld => ?_); refine with_tabW label_Check.tab10 label_Check.bits10 (fun HT_ HW_ => ?_)
                      generalize w19.drew = w21 at BK102 HB HR107 hHeld ⊢
                      refine pure_ (i := 0) (N := some 26) (v := ?_) (a' := ?_) #[true, false, false, false, false, false, false, false] rfl rfl (any_of HT_.out (by kernel_rfl)) (fun _ _ _ h => h) (Or.inl ⟨by rfl, ?_⟩) ?_ ?_
                      rotate_left
                      · intro w'
                        go_simp
                        with_reducible rfl
                      rotate_left
                      · simp only [Act.put, List.setIfInBounds_toArray, List.set_cons_zero, List.set_cons_succ, i64_w, i32_w]
                        rfl
                      refine pure_ (i := 1) (N := some 27) (v := ?_) (a' := ?_) #[true, true, false, false, false, false, false, false] rfl rfl (any_of HT_.out (by kernel_rfl)) (fun _ _ _ h => h) (Or.inl ⟨by rfl, ?_⟩) ?_ ?_
                      rotate_left
                      · intro w'
                        go_simp
                        with_reducible rfl
                      rotate_left
                      · simp only [Act.put, List.setIfInBounds_toArray, List.set_cons_zero, List.set_cons_succ, i64_w, i32_w]
                        rfl
                      refine pure_ (i := 2) (N := some 28) (v := ?_) (a' := ?_) #[true, true, true, false, false, false, false, false] rfl rfl (any_of HT_.out (by kernel_rfl)) (fun _ _ _ h => h) (Or.inl ⟨by rfl, ?_⟩) ?_ ?_
                      rotate_left
                      · intro w'
                        go_simp
                        with_reducible rfl
                      rotate_left
                      · simp only [Act.put, List.setIfInBounds_toArray, List.set_cons_zero, List.set_cons_succ, i64_w, i32_w]
                        rfl
                      refine pure_ (i := 3) (N := some 29) (v := ?_) (a' := ?_) #[true, true, true, true, false, false, false, false] rfl rfl (any_of HT_.out (by kernel_rfl)) (fun _ _ _ h => h) (Or.inl ⟨by rfl, ?_⟩) ?_ ?_
                      rotate_left
                      · intro w'
                        go_simp
                        with_reducible rfl
                      rotate_left
                      · simp only [Act.put, List.setIfInBounds_toArray, List.set_cons_zero, List.set_cons_succ, i64_w, i32_w]
                        rfl
                      refine take_ (i := 4) (N := some 30) (v := ?_) (a' := ?_) #[true, true, true, true, true, false, false, false] rfl rfl (take_ofW HT_.out HW_.out (by kernel_rfl)) (fun _ _ _ h => h) (Or.inl ⟨by rfl, ?_⟩) hHeld ?_ ?_
                      rotate_left
                      · rintro w' ⟨s0, s1⟩
                        go_simp
                        with_reducible rfl
                      rotate_left
                      · simp only [Act.put, List.setIfInBounds_toArray, List.set_cons_zero, List.set_cons_succ, i64_w, i32_w]
                        rfl
                      refine one_ (i := 5) (N := some 31) #[true, true, true, true, true, true, false, false] rfl rfl (one_of HT_.out (by kernel_rfl)) (by decide) (fun K hK => ?_)
                      refine goes_ Tryz.func58 (by kernel_rfl) rfl #[.slice (some ad101) y104.length c0, .string ((rd_T52 l0 x10_1).f0)] (by rfl) rfl rfl zx5_3 ?_
                      with_reducible refine (label_find.calls _ _ y104 ((rd_T52 l0 x10_1).f0) t108 _ ?side1 ?side2 A15.out).mono ?_
                      (case side1 => repeat (first | exact (Kd.C_below HR107.out HB.out) | (with_reducible refine Kd.C_alloc ?_ _) | (with_reducible refine Kd.C_drewN ?_ _) | (with_reducible refine Kd.C_drew ?_)))
                      (case side2 => exact HC107.out)
                      rintro e w23 ⟨rfl, hb⟩
                      refine ⟨_, rfl, ?_⟩
                      have n0_ := Aside0.mk (blk_below (g := gb102) (o := .cells #[.string ((rd_T52 l0 x10_1).f0), .string ((rd_T52 l0 x10_1).f1)] 52 (0, 0)) (by (with_reducible repeat (first | refine blk_drewN ?_ _ | refine blk_drew ?_ | refine blk_alloc ?_ _)); exact BK102.out) hb)
                      have n1_ := Aside0.mk (below_step zx5_2 hb)
                      clear BK102
                      clear HB
                      have BK102 := n0_
                      have HB := n1_
                      clear n0_ n1_
                      (try clear hb)
                      (try clear hb2)
                      (try clear hk)
                      (try clear hi)
                      refine hK.out _ _ ⟨(blk_cell BK102.out 0).trans rfl, (blk_cell BK102.out 1).trans rfl⟩ (fun hHeld => ?_)
                      clear hK K
                      refine norm_ (a' := ?_) ?_ ?_
                      rotate_left
                      · show Act.put _ (some 31) _ = _
                        simp only [Act.put, List.setIfInBounds_toArray, List.set_cons_zero, List.set_cons_succ, i64_w, i32_w]
                        rfl
                      refine pure_ (i := 6) (N := some 32) (v := ?_) (a' := ?_) #[true, true, true, true, true, true, true, false] rfl rfl (any_of HT_.out (by kernel_rfl)) (fun _ _ _ h => h) (Or.inl ⟨by rfl, ?_⟩) ?_ ?_
                      rotate_left
                      · intro w'
                        go_simp
                        with_reducible rfl
                      rotate_left
                      · simp only [Act.put, List.setIfInBounds_toArray, List.set_cons_zero, List.set_cons_succ, i64_w, i32_w]
                        rfl
                      refine pure_ (i := 7) (N := some 25) (v := ?_) (a' := ?_) #[true, true, true, true, true, true, true, true] rfl rfl (any_of HT_.out (by kernel_rfl)) (fun _ _ _ h => h) (Or.inl ⟨by rfl, ?_⟩) ?_ ?_
                      rotate_left
                      · intro w'
                        go_simp
                        with_reducible rfl
                      rotate_left
                      · simp only [Act.put, List.setIfInBounds_toArray, List.set_cons_zero, List.set_cons_succ, i64_w, i32_w]
                        rfl
                      refine done_ (done_of HT_.out (by kernel_rfl)) ?_
                      try go_wp2
                      go_ret
                      exact ⟨by first | rfl | (simp [errW_none, errW_some] <;> rfl) | (simp [*, errW_none, errW_some] <;> rfl), by repeat (first | (with_reducible first | exact HB.out | apply below_alloc | apply pw_below_drewN | apply below_drew1 | refine below_set ?_ GE102.out) | exact HB.out)⟩
                    · rw [if_neg c16] at H
                      have c16b0 : decide (0 ≤ t108) = false := decide_eq_false c16
                      clear c16
                      have H' := Aside0.mk H
                      clear H
                      have p101 : 0 ≤ (x10_1 : Int) := of_decide_eq_true zx5_4
                      have q101 : x10_1 < (l0.length : Int) := of_decide_eq_true zx5_4
                      obtain ⟨ad101, e101, hx101_0, hx101_1⟩ := at_T52 HR0.out x10_1 p101 q101
                      cases e101
                      replace hx101_0 := (HB.out.cell (World.block_lt_of_cell? w _ hx101_0)).trans hx101_0
                      replace hx101_1 := (HB.out.cell (World.block_lt_of_cell? w _ hx101_1)).trans hx101_1
                      replace p101 := eq_true p101
                      replace q101 := eq_true q101
                      try go_wp2_with (first | ((with_reducible refine gate_dst (N := 4) rfl ?_); refine box_event ?hg (N := 4) ?hd (cs := #[.string (⟨#[]⟩ : ByteArray), .string (⟨#[]⟩ : ByteArray)]) (t := 52) ?hr ?_; (case hd => rfl); (case hg => rfl); (case hr => first | (go_simp; done) | (go_simp; rfl)); intro gb102 hg w24 hbox hb; have n0_ := Aside0.mk (below_step zx5_1 hb); have n1_ := Aside0.mk (hbox); have n2_ := Aside0.mk ((by rw [hg]; exact (below_size zx5_1) : w.heap.size ≤ gb102)); have n3_ := Aside0.mk ((by rw [hg]; exact (below_size zx5_1) : w.heap.size ≤ gb102)); clear HB; have HB := n0_; have BK102 := n1_; have GW102 := n2_; have GE102 := n3_; clear n0_ n1_ n2_ n3_; clear hb hbox hg; have hcz25_0 : w24.cell? ⟨gb102, 0, none⟩ = some (.string (⟨#[]⟩ : ByteArray)) := (blk_cell BK102.out 0).trans rfl; have hcz25_1 : w24.cell? ⟨gb102, 1, none⟩ = some (.string (⟨#[]⟩ : ByteArray)) := (blk_cell BK102.out 1).trans rfl; have hfz25_0 := blk_frozen BK102.out 0; have hfz25_1 := blk_frozen BK102.out 1) | ((with_reducible refine gate_callee (f := 57) rfl ?_); refine goesL_ (some 18) rfl rfl Tryz.func57 (by kernel_rfl) rfl #[.string ((rd_T52 l0 x10_1).f0)] rfl zx5_3 ?_; (with_reducible refine (label_Name.calls ((rd_T52 l0 x10_1).f0) true _ A6.out).mono ?_); rintro e w26 ⟨rfl, hb⟩; refine ⟨_, rfl, ?_⟩; have n0_ := Aside0.mk (blk_below (g := gb102) (o := .cells #[.string ((rd_T52 l0 x10_1).f0), .string ((rd_T52 l0 x10_1).f1)] 52 (0, 0)) zx5_0 hb); have n1_ := Aside0.mk (below_step zx5_2 hb); clear BK102; clear HB; have BK102 := n0_; have HB := n1_; clear n0_ n1_; (try clear hb); (try clear hb2); (try clear hk); (try clear hi); have hcz27_0 : w26.cell? ⟨gb102, 0, none⟩ = some (.string ((rd_T52 l0 x10_1).f0)) := (blk_cell BK102.out 0).trans rfl; have hcz27_1 : w26.cell? ⟨gb102, 1, none⟩ = some (.string ((rd_T52 l0 x10_1).f1)) := (blk_cell BK102.out 1).trans rfl; have hfz27_0 := blk_frozen BK102.out 0; have hfz27_1 := blk_frozen BK102.out 1))
                      have n0_ := Aside0.mk (blk_drew BK102.out)
                      have n1_ := Aside0.mk (below_drew1 HB.out)
                      clear BK102
                      clear HB
                      have BK102 := n0_
                      have HB := n1_
                      clear n0_ n1_
                      have q29 : (x10_1 : Int) ≤ ((l0.length : Int) : Int) := of_decide_eq_true zx5_4
                      obtain ⟨i029, hi029, _, hsz29, _⟩ := info_parts info52
                      have hroom29 : l0.length ≤ c0 := HC0.out
                      have hC29 : Kd.C k52 _ (some ad101) l0.length l0 := HR0.out
                      have hcut29 := cut_to (P := Tryz.prog) 22 52 .i64 Tryz.underlying22 hi029 (some ad101) l0.length c0 x10_1 (of_decide_eq_true zx5_4) q29 hroom29
                      have hr29 := Kd.C_take (m := (x10_1 : Int).toNat) hC29 (by omega)
                      have hy29 : y104.length = (x10_1 : Int).toNat := (by rw [Ny104.out, List.length_take]; omega)
                      rw [← Ny104.out] at hr29
                      rw [← hy29] at hcut29
                      have HR107 := Aside0.mk hr29
                      have HC107 := Aside0.mk (show y104.length ≤ c0 from by omega)
                      clear hr29 hC29 hroom29 hi029 hsz29
                      have KY29 := Aside0.mk hy29
                      clear hy29
                      replace q29 := eq_true q29
                      refine start_ (n := 8) (S := fun w' => w'.cell? ⟨gb102, 0, none⟩ = some (.string ((rd_T52 l0 x10_1).f0)) ∧ w'.cell? ⟨gb102, 1, none⟩ = some (.string ((rd_T52 l0 x10_1).f1))) (ds := []) #[false, false, false, false, false, false, false, false] (by kernel_rfl) rfl rfl ⟨(blk_cell BK102.out 0).trans rfl, (blk_cell BK102.out 1).trans rfl⟩ (fun hHeld => ?_); refine with_tabW label_Check.tab10 label_Check.bits10 (fun HT_ HW_ => ?_)
                      generalize w26.drew = w28 at BK102 HB HR107 hHeld ⊢
                      refine pure_ (i := 0) (N := some 26) (v := ?_) (a' := ?_) #[true, false, false, false, false, false, false, false] rfl rfl (any_of HT_.out (by kernel_rfl)) (fun _ _ _ h => h) (Or.inl ⟨by rfl, ?_⟩) ?_ ?_
                      rotate_left
                      · intro w'
                        go_simp
                        with_reducible rfl
                      rotate_left
                      · simp only [Act.put, List.setIfInBounds_toArray, List.set_cons_zero, List.set_cons_succ, i64_w, i32_w]
                        rfl
                      refine pure_ (i := 1) (N := some 27) (v := ?_) (a' := ?_) #[true, true, false, false, false, false, false, false] rfl rfl (any_of HT_.out (by kernel_rfl)) (fun _ _ _ h => h) (Or.inl ⟨by rfl, ?_⟩) ?_ ?_
                      rotate_left
                      · intro w'
                        go_simp
                        with_reducible rfl
                      rotate_left
                      · simp only [Act.put, List.setIfInBounds_toArray, List.set_cons_zero, List.set_cons_succ, i64_w, i32_w]
                        rfl
                      refine pure_ (i := 2) (N := some 28) (v := ?_) (a' := ?_) #[true, true, true, false, false, false, false, false] rfl rfl (any_of HT_.out (by kernel_rfl)) (fun _ _ _ h => h) (Or.inl ⟨by rfl, ?_⟩) ?_ ?_
                      rotate_left
                      · intro w'
                        go_simp
                        with_reducible rfl
                      rotate_left
                      · simp only [Act.put, List.setIfInBounds_toArray, List.set_cons_zero, List.set_cons_succ, i64_w, i32_w]
                        rfl
                      refine pure_ (i := 3) (N := some 29) (v := ?_) (a' := ?_) #[true, true, true, true, false, false, false, false] rfl rfl (any_of HT_.out (by kernel_rfl)) (fun _ _ _ h => h) (Or.inl ⟨by rfl, ?_⟩) ?_ ?_
                      rotate_left
                      · intro w'
                        go_simp
                        with_reducible rfl
                      rotate_left
                      · simp only [Act.put, List.setIfInBounds_toArray, List.set_cons_zero, List.set_cons_succ, i64_w, i32_w]
                        rfl
                      refine take_ (i := 4) (N := some 30) (v := ?_) (a' := ?_) #[true, true, true, true, true, false, false, false] rfl rfl (take_ofW HT_.out HW_.out (by kernel_rfl)) (fun _ _ _ h => h) (Or.inl ⟨by rfl, ?_⟩) hHeld ?_ ?_
                      rotate_left
                      · rintro w' ⟨s0, s1⟩
                        go_simp
                        with_reducible rfl
                      rotate_left
                      · simp only [Act.put, List.setIfInBounds_toArray, List.set_cons_zero, List.set_cons_succ, i64_w, i32_w]
                        rfl
                      refine one_ (i := 5) (N := some 31) #[true, true, true, true, true, true, false, false] rfl rfl (one_of HT_.out (by kernel_rfl)) (by decide) (fun K hK => ?_)
                      refine goes_ Tryz.func58 (by kernel_rfl) rfl #[.slice (some ad101) y104.length c0, .string ((rd_T52 l0 x10_1).f0)] (by rfl) rfl rfl zx5_3 ?_
                      with_reducible refine (label_find.calls _ _ y104 ((rd_T52 l0 x10_1).f0) t108 _ ?side1 ?side2 A15.out).mono ?_
                      (case side1 => repeat (first | exact (Kd.C_below HR107.out HB.out) | (with_reducible refine Kd.C_alloc ?_ _) | (with_reducible refine Kd.C_drewN ?_ _) | (with_reducible refine Kd.C_drew ?_)))
                      (case side2 => exact HC107.out)
                      rintro e w30 ⟨rfl, hb⟩
                      refine ⟨_, rfl, ?_⟩
                      have n0_ := Aside0.mk (blk_below (g := gb102) (o := .cells #[.string ((rd_T52 l0 x10_1).f0), .string ((rd_T52 l0 x10_1).f1)] 52 (0, 0)) (by (with_reducible repeat (first | refine blk_drewN ?_ _ | refine blk_drew ?_ | refine blk_alloc ?_ _)); exact BK102.out) hb)
                      have n1_ := Aside0.mk (below_step zx5_2 hb)
                      clear BK102
                      clear HB
                      have BK102 := n0_
                      have HB := n1_
                      clear n0_ n1_
                      (try clear hb)
                      (try clear hb2)
                      (try clear hk)
                      (try clear hi)
                      refine hK.out _ _ ⟨(blk_cell BK102.out 0).trans rfl, (blk_cell BK102.out 1).trans rfl⟩ (fun hHeld => ?_)
                      clear hK K
                      refine norm_ (a' := ?_) ?_ ?_
                      rotate_left
                      · show Act.put _ (some 31) _ = _
                        simp only [Act.put, List.setIfInBounds_toArray, List.set_cons_zero, List.set_cons_succ, i64_w, i32_w]
                        rfl
                      refine pure_ (i := 6) (N := some 32) (v := ?_) (a' := ?_) #[true, true, true, true, true, true, true, false] rfl rfl (any_of HT_.out (by kernel_rfl)) (fun _ _ _ h => h) (Or.inl ⟨by rfl, ?_⟩) ?_ ?_
                      rotate_left
                      · intro w'
                        go_simp
                        with_reducible rfl
                      rotate_left
                      · simp only [Act.put, List.setIfInBounds_toArray, List.set_cons_zero, List.set_cons_succ, i64_w, i32_w]
                        rfl
                      refine pure_ (i := 7) (N := some 25) (v := ?_) (a' := ?_) #[true, true, true, true, true, true, true, true] rfl rfl (any_of HT_.out (by kernel_rfl)) (fun _ _ _ h => h) (Or.inl ⟨by rfl, ?_⟩) ?_ ?_
                      rotate_left
                      · intro w'
                        go_simp
                        with_reducible rfl
                      rotate_left
                      · simp only [Act.put, List.setIfInBounds_toArray, List.set_cons_zero, List.set_cons_succ, i64_w, i32_w]
                        rfl
                      refine done_ (done_of HT_.out (by kernel_rfl)) ?_
                      try go_wp2
                      go_roundg k1
                      case measure => have := HK1.out; omega
                      case rel => exact ⟨(wrap64 (x10_1 + 1)), (by first | rfl | (simp; done) | (simp [*]; done)), H', ⟨by have := HK1.out; omega⟩, ⟨by repeat (first | (with_reducible first | exact HB.out | apply below_alloc | apply pw_below_drewN | apply below_drew1 | refine below_set ?_ GE102.out) | exact HB.out)⟩⟩
                  · rw [if_neg c14] at H
                    exact absurd H (by simp)
              · replace c7 := Bool.eq_false_iff.mpr c7
                subst c7
                have H1 : (some 3) = some r := by rw [if_neg (show ¬ (false = true) by decide)] at H; exact H
                clear H
                have H := H1
                clear H1
                obtain rfl := Option.some.inj H
                have p101 : 0 ≤ (x10_1 : Int) := of_decide_eq_true zx5_4
                have q101 : x10_1 < (l0.length : Int) := of_decide_eq_true zx5_4
                obtain ⟨ad101, e101, hx101_0, hx101_1⟩ := at_T52 HR0.out x10_1 p101 q101
                cases e101
                replace hx101_0 := (HB.out.cell (World.block_lt_of_cell? w _ hx101_0)).trans hx101_0
                replace hx101_1 := (HB.out.cell (World.block_lt_of_cell? w _ hx101_1)).trans hx101_1
                replace p101 := eq_true p101
                replace q101 := eq_true q101
                go_wp2_with (first | ((with_reducible refine gate_dst (N := 4) rfl ?_); refine box_event ?hg (N := 4) ?hd (cs := #[.string (⟨#[]⟩ : ByteArray), .string (⟨#[]⟩ : ByteArray)]) (t := 52) ?hr ?_; (case hd => rfl); (case hg => rfl); (case hr => first | (go_simp; done) | (go_simp; rfl)); intro gb102 hg w31 hbox hb; have n0_ := Aside0.mk (below_step zx5_1 hb); have n1_ := Aside0.mk (hbox); have n2_ := Aside0.mk ((by rw [hg]; exact (below_size zx5_1) : w.heap.size ≤ gb102)); have n3_ := Aside0.mk ((by rw [hg]; exact (below_size zx5_1) : w.heap.size ≤ gb102)); clear HB; have HB := n0_; have BK102 := n1_; have GW102 := n2_; have GE102 := n3_; clear n0_ n1_ n2_ n3_; clear hb hbox hg; have hcz32_0 : w31.cell? ⟨gb102, 0, none⟩ = some (.string (⟨#[]⟩ : ByteArray)) := (blk_cell BK102.out 0).trans rfl; have hcz32_1 : w31.cell? ⟨gb102, 1, none⟩ = some (.string (⟨#[]⟩ : ByteArray)) := (blk_cell BK102.out 1).trans rfl; have hfz32_0 := blk_frozen BK102.out 0; have hfz32_1 := blk_frozen BK102.out 1) | ((with_reducible refine gate_callee (f := 57) rfl ?_); refine goesL_ (some 18) rfl rfl Tryz.func57 (by kernel_rfl) rfl #[.string ((rd_T52 l0 x10_1).f0)] rfl zx5_3 ?_; (with_reducible refine (label_Name.calls ((rd_T52 l0 x10_1).f0) false _ A6.out).mono ?_); rintro e w33 ⟨rfl, hb⟩; refine ⟨_, rfl, ?_⟩; have n0_ := Aside0.mk (blk_below (g := gb102) (o := .cells #[.string ((rd_T52 l0 x10_1).f0), .string ((rd_T52 l0 x10_1).f1)] 52 (0, 0)) zx5_0 hb); have n1_ := Aside0.mk (below_step zx5_2 hb); clear BK102; clear HB; have BK102 := n0_; have HB := n1_; clear n0_ n1_; (try clear hb); (try clear hb2); (try clear hk); (try clear hi)))
                go_ret
                exact ⟨by first | rfl | (simp [errW_none, errW_some] <;> rfl) | (simp [*, errW_none, errW_some] <;> rfl), by repeat (first | (with_reducible first | exact HB.out | apply below_alloc | apply pw_below_drewN | apply below_drew1 | refine below_set ?_ GE102.out) | exact HB.out)⟩
            · rw [if_neg c5] at H
              exact absurd H (by simp)
          · rw [if_neg c4] at H
            exact absurd H (by simp)
        · rw [if_neg c3] at H
          have c3b0 : decide (x10_1 < (l0.length : Int)) = false := decide_eq_false c3
          clear c3
          obtain rfl := Option.some.inj H
          go_wp2
          go_ret
          exact ⟨by first | rfl | (simp [errW_none, errW_some] <;> rfl) | (simp [*, errW_none, errW_some] <;> rfl), by repeat (first | (with_reducible first | exact HB.out | apply below_alloc | apply pw_below_drewN | apply below_drew1) | exact HB.out)⟩

end Go.Proofs.YthaegbiblblccaaGreatDoor.XEnt
end
section
/- What the functions of the translation answer, each as a plain Lean function, and that the code comes to it; for a law: its row. Conditions: none but those that each theorem names. Written by a program of this session (wip/xp). -/
namespace Go.Proofs.YthaegbiblblccaaGreatDoor.XEnt
open Go.RowKit Go.Proofs.YthaegbiblblccaaGreatDoorW.PrintWords Go.Proofs.YthaegbiblblccaaGreatDoorW.PrintLast Go.Proofs.YthaegbiblblccaaGreatDoorW.PrintMore
attribute [local go_sem] max2_int min2_int max_two min_two max_three min_three max_four min_four   -- for this text's walks alone
theorem zx6_4 {p : Prop} (h : p := by first | (with_reducible assumption) | assumption) : p := h
theorem zx6_3 {p : Prop} (h : p := by have := World.block_lt_of_cell? _ _ hx115_0; first | rwa [add_block] at this | exact this) : p := h
theorem zx6_7 {p : Prop} (h : p := by (with_reducible repeat (first | refine blk_drewN ?_ _ | refine blk_drew ?_ | refine blk_alloc ?_ _)); exact BK116.out) : p := h
theorem zx6_1 {p : Prop} (h : p := by first | (rw [add_block]; exact hn115_0) | (show (Addr.add _ _).block ≠ _; rw [add_block]; exact hn115_0) | exact hn115_0) : p := h
theorem zx6_2 {p : Prop} (h : p := by first | (rw [add_block]; exact hn115_1) | (show (Addr.add _ _).block ≠ _; rw [add_block]; exact hn115_1) | exact hn115_1) : p := h
theorem zx6_0 {p : Prop} (h : p := by repeat (first | (with_reducible first | exact HB.out | apply below_alloc | apply pw_below_drewN | apply below_drew1) | exact HB.out)) : p := h
theorem zx6_6 {p : Prop} (h : p := by (try simp only [List.map_toArray, List.map_cons, List.map_nil]); first | done | rfl | (simp only [List.length_drop, List.length_take]; rfl)) : p := h
theorem zx6_5 {p : Prop} (h : p := by repeat (first | (with_reducible first | exact HB.out | apply below_alloc | apply pw_below_drewN | apply below_drew1 | refine below_set ?_ GE116.out) | exact HB.out)) : p := h
set_option linter.unusedVariables false
set_option linter.unusedSimpArgs false

/-! ### sample_Check: function 33 -/
mutual
def sample_Check.j0 : Nat → List (S54) → Bool → Option (Int)
  | 0, _, _ => none
  | k + 1, x0, x12 => if x12 = true then (some 6) else (if 1 ≤ (x0.length : Int) then ((some (x0.drop 1 : List (S54))).bind fun y109 => (sample_Check.l0 k x0 y109 (y109.length : Int) 0)) else (none))
def sample_Check.l0 : Nat → List (S54) → List (S54) → Int → Int → Option (Int)
  | 0, _, _, _, _ => none
  | k + 1, x0, x14, x15, x16 => if x16 < x15 then (if 0 ≤ x16 then (if x16 < (x14.length : Int) then (if x16 < (x0.length : Int) then (if ((rd_T54 x14 x16).f0) ≤ ((rd_T54 x0 x16).f0) then (some 8) else (sample_Check.l0 k x0 x14 x15 (wrap64 (x16 + 1)))) else (none)) else (none)) else (none)) else (some 0)
end
def sample_Check.f (k : Nat) (l0 : List (S54)) : Option (Int) := if (l0.length : Int) = 0 then (sample_Check.j0 k l0 true) else (sample_Check.j0 k l0 (decide ((l0.length : Int) > 20)))
theorem sample_Check.mono_l : ∀ k, (∀ y0 y1, LeO (sample_Check.j0 k y0 y1) (sample_Check.j0 (k + 1) y0 y1)) ∧ (∀ y0 y1 y2 y3, LeO (sample_Check.l0 k y0 y1 y2 y3) (sample_Check.l0 (k + 1) y0 y1 y2 y3))
  | 0 => ⟨fun _ _ r h => by simp [sample_Check.j0] at h, fun _ _ _ _ r h => by simp [sample_Check.l0] at h⟩
  | k + 1 => by
    obtain ⟨ih0, ih1⟩ := sample_Check.mono_l k
    refine ⟨?_, ?_⟩
    · intro y0 y1
      unfold sample_Check.j0
      repeat' first
      | (with_reducible exact ih0 _ _)
      | (with_reducible exact ih1 _ _ _ _)
      | (with_reducible exact LeO.refl _)
      | (with_reducible exact LeO.none _)
      | (with_reducible refine LeO.ite ?_ ?_)
      | (with_reducible refine LeO.bind ?_ (fun _ => ?_))
      | exact ih0 _ _
      | exact ih1 _ _ _ _
      | exact LeO.none _
      | refine LeO.ite ?_ ?_
      | refine LeO.bind ?_ (fun _ => ?_)
    · intro y0 y1 y2 y3
      unfold sample_Check.l0
      repeat' first
      | (with_reducible exact ih0 _ _)
      | (with_reducible exact ih1 _ _ _ _)
      | (with_reducible exact LeO.refl _)
      | (with_reducible exact LeO.none _)
      | (with_reducible refine LeO.ite ?_ ?_)
      | (with_reducible refine LeO.bind ?_ (fun _ => ?_))
      | exact ih0 _ _
      | exact ih1 _ _ _ _
      | exact LeO.none _
      | refine LeO.ite ?_ ?_
      | refine LeO.bind ?_ (fun _ => ?_)
theorem sample_Check.mono : ∀ a0 k, LeO (sample_Check.f k a0) (sample_Check.f (k + 1) a0) := by
  intro a0 k
  obtain ⟨ih0, ih1⟩ := sample_Check.mono_l k
  unfold sample_Check.f
  repeat' first
      | (with_reducible exact ih0 _ _)
      | (with_reducible exact ih1 _ _ _ _)
      | (with_reducible exact LeO.refl _)
      | (with_reducible exact LeO.none _)
      | (with_reducible refine LeO.ite ?_ ?_)
      | (with_reducible refine LeO.bind ?_ (fun _ => ?_))
      | exact ih0 _ _
      | exact ih1 _ _ _ _
      | exact LeO.none _
      | refine LeO.ite ?_ ?_
      | refine LeO.bind ?_ (fun _ => ?_)
set_option maxHeartbeats 8000000 in
set_option maxRecDepth 100000 in
theorem sample_Check.calls (k : Nat) (A0 : Option Addr) (c0 : Nat) (l0 : List (S54)) (r : Int) (w : World) (hr0 : Kd.C k54 w A0 l0.length l0) (hc0 : l0.length ≤ c0) (h : sample_Check.f k l0 = some r) :
    Calls Tryz.prog 33 #[.slice A0 l0.length c0] w fun e w' => e = .returned (.int .i64 r) ∧ Below w.heap.size w w' := by
  have hu54 := Tryz.underlying54
  have HR0 := Aside0.mk hr0
  have HC0 := Aside0.mk hc0
  clear hr0 hc0
  have HB := Aside0.mk (Below.refl w.heap.size w)
  have H : (if (l0.length : Int) = 0 then (sample_Check.j0 k l0 true) else (sample_Check.j0 k l0 (decide ((l0.length : Int) > 20)))) = some r := h
  clear h
  have HC2 := Aside0.mk H
  clear H
  go_enter Tryz.func33, Tryz.ntmps33
  go_upto_region 1 with (fail)
  repeat (go_quiet (fail); go_upto_region 1 with (fail))
  go_cut [12] (fun v12 wc => ∃ (kq : Nat) (x12_1 : Bool), v12 = .bool x12_1 ∧ Aside0 (sample_Check.j0 kq l0 x12_1 = some r) ∧ Aside0 (kq ≤ k) ∧ Aside0 (Below w.heap.size w wc))
  case first =>
    have H := HC2.out
    clear HC2
    by_cases c3 : (l0.length : Int) = 0
    · rw [if_pos c3] at H
      have c3b0 : ((l0.length : Int) == 0) = true := beq_iff_eq.mpr c3
      have c3b1 : ((l0.length : Int) != 0) = false := bne_eq_false_iff_eq.mpr c3
      clear c3
      (first | rw [c3b0] | (simp only [i64_w, i32_w]; rw [c3b0]) | skip)
      have H' := Aside0.mk H
      clear H
      go_wp2
      repeat (go_quiet (fail); try go_wp2)
      go_meet
      case rel => exact ⟨_, (true), (by first | rfl | (simp; done) | (simp [*]; done)), H', ⟨by first | omega | exact Nat.le_refl _⟩, ⟨by repeat (first | (with_reducible first | exact HB.out | apply below_alloc | apply pw_below_drewN | apply below_drew1) | exact HB.out)⟩⟩
    · rw [if_neg c3] at H
      have c3b0 : ((l0.length : Int) == 0) = false := beq_eq_false_iff_ne.mpr c3
      have c3b1 : ((l0.length : Int) != 0) = true := bne_iff_ne.mpr c3
      have c3b2 : ¬ (l0 = []) := fun h_ => c3 (by rw [h_]; rfl)
      (first | rw [c3b0] | (simp only [i64_w, i32_w]; rw [c3b0]) | skip)
      have H' := Aside0.mk H
      clear H
      go_wp2
      repeat (go_quiet (fail); try go_wp2)
      go_meet
      case rel => exact ⟨_, (decide ((l0.length : Int) > 20)), (by first | rfl | (simp; done) | (simp [*]; done)), H', ⟨by first | omega | exact Nat.le_refl _⟩, ⟨by repeat (first | (with_reducible first | exact HB.out | apply below_alloc | apply pw_below_drewN | apply below_drew1) | exact HB.out)⟩⟩
  case rest =>
    clear HC2
    try clear p2
    try clear c3
    try clear c3b0
    try clear c3b1
    try clear c3b2
    obtain ⟨kq, x12_1, rfl, HA, HJ1, HB⟩ := hcut
    cases kq with
    | zero => exact absurd HA.out (by simp [sample_Check.j0])
    | succ kj1 =>
      have H := HA.out
      clear HA
      simp only [sample_Check.j0] at H
      by_cases c4 : x12_1 = true
      · subst c4
        have H1 : (some 6) = some r := by rw [if_pos rfl] at H; exact H
        clear H
        have H := H1
        clear H1
        obtain rfl := Option.some.inj H
        go_wp2
        repeat (go_quiet (fail); try go_wp2)
        go_ret
        exact ⟨by first | rfl | (simp [errW_none, errW_some] <;> rfl) | (simp [*, errW_none, errW_some] <;> rfl), by repeat (first | (with_reducible first | exact HB.out | apply below_alloc | apply pw_below_drewN | apply below_drew1) | exact HB.out)⟩
      · replace c4 := Bool.eq_false_iff.mpr c4
        subst c4
        have H1 : (if 1 ≤ (l0.length : Int) then ((some (l0.drop 1 : List (S54))).bind fun y109 => (sample_Check.l0 kj1 l0 y109 (y109.length : Int) 0)) else (none)) = some r := by rw [if_neg (show ¬ (false = true) by decide)] at H; exact H
        clear H
        have H := H1
        clear H1
        by_cases c5 : 1 ≤ (l0.length : Int)
        · rw [if_pos c5] at H
          have c5b0 := eq_true c5
          have c5b1 : decide (1 ≤ (l0.length : Int)) = true := decide_eq_true c5
          clear c5
          obtain ⟨y109, hy109⟩ : ∃ y_ : List (S54), y_ = (l0.drop 1) := ⟨_, rfl⟩
          replace H : (sample_Check.l0 kj1 l0 y109 (y109.length : Int) 0) = some r := by first | (rw [hy109]; with_reducible exact H) | (have H2_ := (Option.bind_some _ _).symm.trans H; rw [hy109]; with_reducible exact H2_) | (have H2_ := (Option.bind_some _ _).symm.trans H; with_reducible exact H2_) | with_reducible exact H | (rw [hy109]; exact H) | exact H
          have Ny109 := Aside0.mk hy109
          clear hy109
          have H' := Aside0.mk H
          clear H
          have q6 : (1 : Int) ≤ ((l0.length : Int) : Int) := of_decide_eq_true zx6_4
          obtain ⟨i06, hi06, _, hsz6, _⟩ := info_parts info54
          have hroom6 : l0.length ≤ c0 := HC0.out
          have hC6 : Kd.C k54 _ A0 l0.length l0 := HR0.out
          have hcut6 := cut_from (P := Tryz.prog) 23 54 .i64 Tryz.underlying23 hi06 2 hsz6 A0 l0.length c0 1 (by omega) q6
          have hr6 := Kd.C_drop (m := (1 : Int).toNat) (c := c0) hC6 (by omega) hroom6
          obtain ⟨A6, hA6⟩ : ∃ A1, A1 = (if c0 = (1 : Int).toNat then A0 else (A0 : Option Addr).map (·.add ((1 : Int).toNat * 2))) := ⟨_, rfl⟩
          obtain ⟨c6, hc6⟩ : ∃ c1, c1 = c0 - (1 : Int).toNat := ⟨_, rfl⟩
          have hy6 : y109.length = l0.length - (1 : Int).toNat := (by rw [Ny109.out, List.length_drop] <;> omega)
          rw [show (l0).drop (1 : Int).toNat = y109 from Ny109.out.symm] at hr6
          replace hr6 : Kd.C k54 _ A6 y109.length y109 := (by rw [hA6]; exact hr6)
          rw [← hy6, ← hA6, ← hc6] at hcut6
          have HR112 := Aside0.mk hr6
          have HC112 := Aside0.mk (show y109.length ≤ c6 from by rw [hy6, hc6]; exact Nat.sub_le_sub_right hroom6 _)
          clear hr6 hC6 hroom6 hi06 hsz6 hc6
          have KY6 := Aside0.mk hy6
          have KA6 := Aside0.mk hA6
          clear hy6 hA6
          replace q6 := eq_true q6
          go_wp2
          repeat (go_quiet (fail); try go_wp2)
          go_loopg [16] kj1 (fun kq v16 w' => ∃ (x16_2 : Int), v16 = .int .i64 x16_2 ∧ Aside0 (sample_Check.l0 kq l0 y109 (y109.length : Int) x16_2 = some r) ∧ Aside0 (kq ≤ kj1) ∧ Aside0 (Below w.heap.size w w'))
          case atStart => exact ⟨(0), (by first | rfl | (simp; done) | (simp [*]; done)), H', ⟨Nat.le_refl _⟩, ⟨by repeat (first | (with_reducible first | exact HB.out | apply below_alloc | apply pw_below_drewN | apply below_drew1) | exact HB.out)⟩⟩
          case round =>
            clear H'
            try clear c1
            try clear p2
            try clear c3
            try clear c3b0
            try clear c3b1
            try clear c3b2
            try clear c4
            try clear c5
            try clear c5b0
            try clear c5b1
            try clear c6
            try clear q6
            try clear p2
            try clear q6
            obtain ⟨x16_2, rfl, HA, HK2, HB⟩ := hrel
            cases gk with
            | zero => exact absurd HA.out (by simp [sample_Check.l0])
            | succ k2 =>
              have H := HA.out
              clear HA
              simp only [sample_Check.l0] at H
              by_cases c7 : x16_2 < (y109.length : Int)
              · rw [if_pos c7] at H
                have c7b0 : decide (x16_2 < (y109.length : Int)) = true := decide_eq_true c7
                clear c7
                by_cases c8 : 0 ≤ x16_2
                · rw [if_pos c8] at H
                  have c8b0 : decide (0 ≤ x16_2) = true := decide_eq_true c8
                  clear c8
                  by_cases c9 : x16_2 < (y109.length : Int)
                  · rw [if_pos c9] at H
                    have c9b0 : decide (x16_2 < (y109.length : Int)) = true := decide_eq_true c9
                    clear c9
                    by_cases c10 : x16_2 < (l0.length : Int)
                    · rw [if_pos c10] at H
                      have c10b0 : decide (x16_2 < (l0.length : Int)) = true := decide_eq_true c10
                      clear c10
                      by_cases c11 : ((rd_T54 y109 x16_2).f0) ≤ ((rd_T54 l0 x16_2).f0)
                      · rw [if_pos c11] at H
                        have c11b0 : decide (((rd_T54 y109 x16_2).f0) ≤ ((rd_T54 l0 x16_2).f0)) = true := decide_eq_true c11
                        clear c11
                        obtain rfl := Option.some.inj H
                        have p113 : 0 ≤ (x16_2 : Int) := of_decide_eq_true zx6_4
                        have q113 : x16_2 < (y109.length : Int) := of_decide_eq_true zx6_4
                        obtain ⟨ad113, e113, hx113_0, hx113_1⟩ := at_T54 HR112.out x16_2 p113 q113
                        cases e113
                        replace hx113_0 := (HB.out.cell (World.block_lt_of_cell? w _ hx113_0)).trans hx113_0
                        replace hx113_1 := (HB.out.cell (World.block_lt_of_cell? w _ hx113_1)).trans hx113_1
                        replace p113 := eq_true p113
                        replace q113 := eq_true q113
                        go_wp2_with (first | ((with_reducible refine gate_dst (N := 4) rfl ?_); (try (refine gate_guard (by rfl) ?_; dsimp only)); refine box_event ?hg (N := 4) ?hd (cs := #[.int .u64 0, .int .i64 0]) (t := 54) ?hr ?_; (case hd => rfl); (case hg => rfl); (case hr => first | (go_simp; done) | (go_simp; rfl)); intro gb114 hg w12 hbox hb; have n0_ := Aside0.mk (below_step zx6_0 hb); have n1_ := Aside0.mk (hbox); have n2_ := Aside0.mk ((by rw [hg]; exact (below_size zx6_0) : w.heap.size ≤ gb114)); have n3_ := Aside0.mk ((by rw [hg]; exact (below_size zx6_0) : w.heap.size ≤ gb114)); clear HB; have HB := n0_; have BK114 := n1_; have GW114 := n2_; have GE114 := n3_; clear n0_ n1_ n2_ n3_; clear hb hbox hg; have hcz13_0 : w12.cell? ⟨gb114, 0, none⟩ = some (.int .u64 0) := (blk_cell BK114.out 0).trans rfl; have hcz13_1 : w12.cell? ⟨gb114, 1, none⟩ = some (.int .i64 0) := (blk_cell BK114.out 1).trans rfl; have hfz13_0 := blk_frozen BK114.out 0; have hfz13_1 := blk_frozen BK114.out 1; have p115 : 0 ≤ (x16_2 : Int) := of_decide_eq_true zx6_4; have q115 : x16_2 < (l0.length : Int) := of_decide_eq_true zx6_4; obtain ⟨ad115, e115, hx115_0, hx115_1⟩ := at_T54 HR0.out x16_2 p115 q115; cases e115; have hn115_0 : ad115.block ≠ gb114 := Nat.ne_of_lt (Nat.lt_of_lt_of_le zx6_3 GW114.out); have hn115_1 : ad115.block ≠ gb114 := Nat.ne_of_lt (Nat.lt_of_lt_of_le zx6_3 GW114.out); replace hx115_0 := (HB.out.cell (World.block_lt_of_cell? w _ hx115_0)).trans hx115_0; replace hx115_1 := (HB.out.cell (World.block_lt_of_cell? w _ hx115_1)).trans hx115_1; replace hx115_0 := (cell_far (p := ⟨gb114, 0, none⟩) zx6_1 (.int .u64 ((rd_T54 y109 x16_2).f0))).trans hx115_0; replace hx115_1 := (cell_far (p := ⟨gb114, 0, none⟩) zx6_1 (.int .u64 ((rd_T54 y109 x16_2).f0))).trans hx115_1; replace hx115_0 := (cell_far (p := ⟨gb114, 1, none⟩) zx6_2 (.int .i64 ((rd_T54 y109 x16_2).f1))).trans hx115_0; replace hx115_1 := (cell_far (p := ⟨gb114, 1, none⟩) zx6_2 (.int .i64 ((rd_T54 y109 x16_2).f1))).trans hx115_1; (try have hy115_0 := fun (n_ : Nat) => (show ((((w12.drewN n_).setCell ⟨gb114, 0, none⟩ (.int .u64 ((rd_T54 y109 x16_2).f0))).setCell ⟨gb114, 1, none⟩ (.int .i64 ((rd_T54 y109 x16_2).f1)))).cell? _ = some _ from hx115_0)); (try have hy115_1 := fun (n_ : Nat) => (show ((((w12.drewN n_).setCell ⟨gb114, 0, none⟩ (.int .u64 ((rd_T54 y109 x16_2).f0))).setCell ⟨gb114, 1, none⟩ (.int .i64 ((rd_T54 y109 x16_2).f1)))).cell? _ = some _ from hx115_1)); clear hn115_0; clear hn115_1; replace p115 := eq_true p115; replace q115 := eq_true q115))
                        repeat (go_quiet (first | ((with_reducible refine gate_dst (N := 4) rfl ?_); (try (refine gate_guard (by rfl) ?_; dsimp only)); refine box_event ?hg (N := 4) ?hd (cs := #[.int .u64 0, .int .i64 0]) (t := 54) ?hr ?_; (case hd => rfl); (case hg => rfl); (case hr => first | (go_simp; done) | (go_simp; rfl)); intro gb114 hg w12 hbox hb; have n0_ := Aside0.mk (below_step zx6_0 hb); have n1_ := Aside0.mk (hbox); have n2_ := Aside0.mk ((by rw [hg]; exact (below_size zx6_0) : w.heap.size ≤ gb114)); have n3_ := Aside0.mk ((by rw [hg]; exact (below_size zx6_0) : w.heap.size ≤ gb114)); clear HB; have HB := n0_; have BK114 := n1_; have GW114 := n2_; have GE114 := n3_; clear n0_ n1_ n2_ n3_; clear hb hbox hg; have hcz13_0 : w12.cell? ⟨gb114, 0, none⟩ = some (.int .u64 0) := (blk_cell BK114.out 0).trans rfl; have hcz13_1 : w12.cell? ⟨gb114, 1, none⟩ = some (.int .i64 0) := (blk_cell BK114.out 1).trans rfl; have hfz13_0 := blk_frozen BK114.out 0; have hfz13_1 := blk_frozen BK114.out 1; have p115 : 0 ≤ (x16_2 : Int) := of_decide_eq_true zx6_4; have q115 : x16_2 < (l0.length : Int) := of_decide_eq_true zx6_4; obtain ⟨ad115, e115, hx115_0, hx115_1⟩ := at_T54 HR0.out x16_2 p115 q115; cases e115; have hn115_0 : ad115.block ≠ gb114 := Nat.ne_of_lt (Nat.lt_of_lt_of_le zx6_3 GW114.out); have hn115_1 : ad115.block ≠ gb114 := Nat.ne_of_lt (Nat.lt_of_lt_of_le zx6_3 GW114.out); replace hx115_0 := (HB.out.cell (World.block_lt_of_cell? w _ hx115_0)).trans hx115_0; replace hx115_1 := (HB.out.cell (World.block_lt_of_cell? w _ hx115_1)).trans hx115_1; replace hx115_0 := (cell_far (p := ⟨gb114, 0, none⟩) zx6_1 (.int .u64 ((rd_T54 y109 x16_2).f0))).trans hx115_0; replace hx115_1 := (cell_far (p := ⟨gb114, 0, none⟩) zx6_1 (.int .u64 ((rd_T54 y109 x16_2).f0))).trans hx115_1; replace hx115_0 := (cell_far (p := ⟨gb114, 1, none⟩) zx6_2 (.int .i64 ((rd_T54 y109 x16_2).f1))).trans hx115_0; replace hx115_1 := (cell_far (p := ⟨gb114, 1, none⟩) zx6_2 (.int .i64 ((rd_T54 y109 x16_2).f1))).trans hx115_1; (try have hy115_0 := fun (n_ : Nat) => (show ((((w12.drewN n_).setCell ⟨gb114, 0, none⟩ (.int .u64 ((rd_T54 y109 x16_2).f0))).setCell ⟨gb114, 1, none⟩ (.int .i64 ((rd_T54 y109 x16_2).f1)))).cell? _ = some _ from hx115_0)); (try have hy115_1 := fun (n_ : Nat) => (show ((((w12.drewN n_).setCell ⟨gb114, 0, none⟩ (.int .u64 ((rd_T54 y109 x16_2).f0))).setCell ⟨gb114, 1, none⟩ (.int .i64 ((rd_T54 y109 x16_2).f1)))).cell? _ = some _ from hx115_1)); clear hn115_0; clear hn115_1; replace p115 := eq_true p115; replace q115 := eq_true q115)); try go_wp2_with (first | ((with_reducible refine gate_dst (N := 4) rfl ?_); (try (refine gate_guard (by rfl) ?_; dsimp only)); refine box_event ?hg (N := 4) ?hd (cs := #[.int .u64 0, .int .i64 0]) (t := 54) ?hr ?_; (case hd => rfl); (case hg => rfl); (case hr => first | (go_simp; done) | (go_simp; rfl)); intro gb114 hg w12 hbox hb; have n0_ := Aside0.mk (below_step zx6_0 hb); have n1_ := Aside0.mk (hbox); have n2_ := Aside0.mk ((by rw [hg]; exact (below_size zx6_0) : w.heap.size ≤ gb114)); have n3_ := Aside0.mk ((by rw [hg]; exact (below_size zx6_0) : w.heap.size ≤ gb114)); clear HB; have HB := n0_; have BK114 := n1_; have GW114 := n2_; have GE114 := n3_; clear n0_ n1_ n2_ n3_; clear hb hbox hg; have hcz13_0 : w12.cell? ⟨gb114, 0, none⟩ = some (.int .u64 0) := (blk_cell BK114.out 0).trans rfl; have hcz13_1 : w12.cell? ⟨gb114, 1, none⟩ = some (.int .i64 0) := (blk_cell BK114.out 1).trans rfl; have hfz13_0 := blk_frozen BK114.out 0; have hfz13_1 := blk_frozen BK114.out 1; have p115 : 0 ≤ (x16_2 : Int) := of_decide_eq_true zx6_4; have q115 : x16_2 < (l0.length : Int) := of_decide_eq_true zx6_4; obtain ⟨ad115, e115, hx115_0, hx115_1⟩ := at_T54 HR0.out x16_2 p115 q115; cases e115; have hn115_0 : ad115.block ≠ gb114 := Nat.ne_of_lt (Nat.lt_of_lt_of_le zx6_3 GW114.out); have hn115_1 : ad115.block ≠ gb114 := Nat.ne_of_lt (Nat.lt_of_lt_of_le zx6_3 GW114.out); replace hx115_0 := (HB.out.cell (World.block_lt_of_cell? w _ hx115_0)).trans hx115_0; replace hx115_1 := (HB.out.cell (World.block_lt_of_cell? w _ hx115_1)).trans hx115_1; replace hx115_0 := (cell_far (p := ⟨gb114, 0, none⟩) zx6_1 (.int .u64 ((rd_T54 y109 x16_2).f0))).trans hx115_0; replace hx115_1 := (cell_far (p := ⟨gb114, 0, none⟩) zx6_1 (.int .u64 ((rd_T54 y109 x16_2).f0))).trans hx115_1; replace hx115_0 := (cell_far (p := ⟨gb114, 1, none⟩) zx6_2 (.int .i64 ((rd_T54 y109 x16_2).f1))).trans hx115_0; replace hx115_1 := (cell_far (p := ⟨gb114, 1, none⟩) zx6_2 (.int .i64 ((rd_T54 y109 x16_2).f1))).trans hx115_1; (try have hy115_0 := fun (n_ : Nat) => (show ((((w12.drewN n_).setCell ⟨gb114, 0, none⟩ (.int .u64 ((rd_T54 y109 x16_2).f0))).setCell ⟨gb114, 1, none⟩ (.int .i64 ((rd_T54 y109 x16_2).f1)))).cell? _ = some _ from hx115_0)); (try have hy115_1 := fun (n_ : Nat) => (show ((((w12.drewN n_).setCell ⟨gb114, 0, none⟩ (.int .u64 ((rd_T54 y109 x16_2).f0))).setCell ⟨gb114, 1, none⟩ (.int .i64 ((rd_T54 y109 x16_2).f1)))).cell? _ = some _ from hx115_1)); clear hn115_0; clear hn115_1; replace p115 := eq_true p115; replace q115 := eq_true q115)))
                        go_ret
                        exact ⟨by first | rfl | (simp [errW_none, errW_some] <;> rfl) | (simp [*, errW_none, errW_some] <;> rfl), by repeat (first | (with_reducible first | exact HB.out | apply below_alloc | apply pw_below_drewN | apply below_drew1 | refine below_set ?_ GE114.out) | exact HB.out)⟩
                      · rw [if_neg c11] at H
                        have c11b0 : decide (((rd_T54 y109 x16_2).f0) ≤ ((rd_T54 l0 x16_2).f0)) = false := decide_eq_false c11
                        clear c11
                        have H' := Aside0.mk H
                        clear H
                        have p113 : 0 ≤ (x16_2 : Int) := of_decide_eq_true zx6_4
                        have q113 : x16_2 < (y109.length : Int) := of_decide_eq_true zx6_4
                        obtain ⟨ad113, e113, hx113_0, hx113_1⟩ := at_T54 HR112.out x16_2 p113 q113
                        cases e113
                        replace hx113_0 := (HB.out.cell (World.block_lt_of_cell? w _ hx113_0)).trans hx113_0
                        replace hx113_1 := (HB.out.cell (World.block_lt_of_cell? w _ hx113_1)).trans hx113_1
                        replace p113 := eq_true p113
                        replace q113 := eq_true q113
                        go_wp2_with (first | ((with_reducible refine gate_dst (N := 4) rfl ?_); (try (refine gate_guard (by rfl) ?_; dsimp only)); refine box_event ?hg (N := 4) ?hd (cs := #[.int .u64 0, .int .i64 0]) (t := 54) ?hr ?_; (case hd => rfl); (case hg => rfl); (case hr => first | (go_simp; done) | (go_simp; rfl)); intro gb114 hg w14 hbox hb; have n0_ := Aside0.mk (below_step zx6_0 hb); have n1_ := Aside0.mk (hbox); have n2_ := Aside0.mk ((by rw [hg]; exact (below_size zx6_0) : w.heap.size ≤ gb114)); have n3_ := Aside0.mk ((by rw [hg]; exact (below_size zx6_0) : w.heap.size ≤ gb114)); clear HB; have HB := n0_; have BK114 := n1_; have GW114 := n2_; have GE114 := n3_; clear n0_ n1_ n2_ n3_; clear hb hbox hg; have hcz15_0 : w14.cell? ⟨gb114, 0, none⟩ = some (.int .u64 0) := (blk_cell BK114.out 0).trans rfl; have hcz15_1 : w14.cell? ⟨gb114, 1, none⟩ = some (.int .i64 0) := (blk_cell BK114.out 1).trans rfl; have hfz15_0 := blk_frozen BK114.out 0; have hfz15_1 := blk_frozen BK114.out 1; have p115 : 0 ≤ (x16_2 : Int) := of_decide_eq_true zx6_4; have q115 : x16_2 < (l0.length : Int) := of_decide_eq_true zx6_4; obtain ⟨ad115, e115, hx115_0, hx115_1⟩ := at_T54 HR0.out x16_2 p115 q115; cases e115; have hn115_0 : ad115.block ≠ gb114 := Nat.ne_of_lt (Nat.lt_of_lt_of_le zx6_3 GW114.out); have hn115_1 : ad115.block ≠ gb114 := Nat.ne_of_lt (Nat.lt_of_lt_of_le zx6_3 GW114.out); replace hx115_0 := (HB.out.cell (World.block_lt_of_cell? w _ hx115_0)).trans hx115_0; replace hx115_1 := (HB.out.cell (World.block_lt_of_cell? w _ hx115_1)).trans hx115_1; replace hx115_0 := (cell_far (p := ⟨gb114, 0, none⟩) zx6_1 (.int .u64 ((rd_T54 y109 x16_2).f0))).trans hx115_0; replace hx115_1 := (cell_far (p := ⟨gb114, 0, none⟩) zx6_1 (.int .u64 ((rd_T54 y109 x16_2).f0))).trans hx115_1; replace hx115_0 := (cell_far (p := ⟨gb114, 1, none⟩) zx6_2 (.int .i64 ((rd_T54 y109 x16_2).f1))).trans hx115_0; replace hx115_1 := (cell_far (p := ⟨gb114, 1, none⟩) zx6_2 (.int .i64 ((rd_T54 y109 x16_2).f1))).trans hx115_1; (try have hy115_0 := fun (n_ : Nat) => (show ((((w14.drewN n_).setCell ⟨gb114, 0, none⟩ (.int .u64 ((rd_T54 y109 x16_2).f0))).setCell ⟨gb114, 1, none⟩ (.int .i64 ((rd_T54 y109 x16_2).f1)))).cell? _ = some _ from hx115_0)); (try have hy115_1 := fun (n_ : Nat) => (show ((((w14.drewN n_).setCell ⟨gb114, 0, none⟩ (.int .u64 ((rd_T54 y109 x16_2).f0))).setCell ⟨gb114, 1, none⟩ (.int .i64 ((rd_T54 y109 x16_2).f1)))).cell? _ = some _ from hx115_1)); clear hn115_0; clear hn115_1; replace p115 := eq_true p115; replace q115 := eq_true q115))
                        repeat (go_quiet (first | ((with_reducible refine gate_dst (N := 4) rfl ?_); (try (refine gate_guard (by rfl) ?_; dsimp only)); refine box_event ?hg (N := 4) ?hd (cs := #[.int .u64 0, .int .i64 0]) (t := 54) ?hr ?_; (case hd => rfl); (case hg => rfl); (case hr => first | (go_simp; done) | (go_simp; rfl)); intro gb114 hg w14 hbox hb; have n0_ := Aside0.mk (below_step zx6_0 hb); have n1_ := Aside0.mk (hbox); have n2_ := Aside0.mk ((by rw [hg]; exact (below_size zx6_0) : w.heap.size ≤ gb114)); have n3_ := Aside0.mk ((by rw [hg]; exact (below_size zx6_0) : w.heap.size ≤ gb114)); clear HB; have HB := n0_; have BK114 := n1_; have GW114 := n2_; have GE114 := n3_; clear n0_ n1_ n2_ n3_; clear hb hbox hg; have hcz15_0 : w14.cell? ⟨gb114, 0, none⟩ = some (.int .u64 0) := (blk_cell BK114.out 0).trans rfl; have hcz15_1 : w14.cell? ⟨gb114, 1, none⟩ = some (.int .i64 0) := (blk_cell BK114.out 1).trans rfl; have hfz15_0 := blk_frozen BK114.out 0; have hfz15_1 := blk_frozen BK114.out 1; have p115 : 0 ≤ (x16_2 : Int) := of_decide_eq_true zx6_4; have q115 : x16_2 < (l0.length : Int) := of_decide_eq_true zx6_4; obtain ⟨ad115, e115, hx115_0, hx115_1⟩ := at_T54 HR0.out x16_2 p115 q115; cases e115; have hn115_0 : ad115.block ≠ gb114 := Nat.ne_of_lt (Nat.lt_of_lt_of_le zx6_3 GW114.out); have hn115_1 : ad115.block ≠ gb114 := Nat.ne_of_lt (Nat.lt_of_lt_of_le zx6_3 GW114.out); replace hx115_0 := (HB.out.cell (World.block_lt_of_cell? w _ hx115_0)).trans hx115_0; replace hx115_1 := (HB.out.cell (World.block_lt_of_cell? w _ hx115_1)).trans hx115_1; replace hx115_0 := (cell_far (p := ⟨gb114, 0, none⟩) zx6_1 (.int .u64 ((rd_T54 y109 x16_2).f0))).trans hx115_0; replace hx115_1 := (cell_far (p := ⟨gb114, 0, none⟩) zx6_1 (.int .u64 ((rd_T54 y109 x16_2).f0))).trans hx115_1; replace hx115_0 := (cell_far (p := ⟨gb114, 1, none⟩) zx6_2 (.int .i64 ((rd_T54 y109 x16_2).f1))).trans hx115_0; replace hx115_1 := (cell_far (p := ⟨gb114, 1, none⟩) zx6_2 (.int .i64 ((rd_T54 y109 x16_2).f1))).trans hx115_1; (try have hy115_0 := fun (n_ : Nat) => (show ((((w14.drewN n_).setCell ⟨gb114, 0, none⟩ (.int .u64 ((rd_T54 y109 x16_2).f0))).setCell ⟨gb114, 1, none⟩ (.int .i64 ((rd_T54 y109 x16_2).f1)))).cell? _ = some _ from hx115_0)); (try have hy115_1 := fun (n_ : Nat) => (show ((((w14.drewN n_).setCell ⟨gb114, 0, none⟩ (.int .u64 ((rd_T54 y109 x16_2).f0))).setCell ⟨gb114, 1, none⟩ (.int .i64 ((rd_T54 y109 x16_2).f1)))).cell? _ = some _ from hx115_1)); clear hn115_0; clear hn115_1; replace p115 := eq_true p115; replace q115 := eq_true q115)); try go_wp2_with (first | ((with_reducible refine gate_dst (N := 4) rfl ?_); (try (refine gate_guard (by rfl) ?_; dsimp only)); refine box_event ?hg (N := 4) ?hd (cs := #[.int .u64 0, .int .i64 0]) (t := 54) ?hr ?_; (case hd => rfl); (case hg => rfl); (case hr => first | (go_simp; done) | (go_simp; rfl)); intro gb114 hg w14 hbox hb; have n0_ := Aside0.mk (below_step zx6_0 hb); have n1_ := Aside0.mk (hbox); have n2_ := Aside0.mk ((by rw [hg]; exact (below_size zx6_0) : w.heap.size ≤ gb114)); have n3_ := Aside0.mk ((by rw [hg]; exact (below_size zx6_0) : w.heap.size ≤ gb114)); clear HB; have HB := n0_; have BK114 := n1_; have GW114 := n2_; have GE114 := n3_; clear n0_ n1_ n2_ n3_; clear hb hbox hg; have hcz15_0 : w14.cell? ⟨gb114, 0, none⟩ = some (.int .u64 0) := (blk_cell BK114.out 0).trans rfl; have hcz15_1 : w14.cell? ⟨gb114, 1, none⟩ = some (.int .i64 0) := (blk_cell BK114.out 1).trans rfl; have hfz15_0 := blk_frozen BK114.out 0; have hfz15_1 := blk_frozen BK114.out 1; have p115 : 0 ≤ (x16_2 : Int) := of_decide_eq_true zx6_4; have q115 : x16_2 < (l0.length : Int) := of_decide_eq_true zx6_4; obtain ⟨ad115, e115, hx115_0, hx115_1⟩ := at_T54 HR0.out x16_2 p115 q115; cases e115; have hn115_0 : ad115.block ≠ gb114 := Nat.ne_of_lt (Nat.lt_of_lt_of_le zx6_3 GW114.out); have hn115_1 : ad115.block ≠ gb114 := Nat.ne_of_lt (Nat.lt_of_lt_of_le zx6_3 GW114.out); replace hx115_0 := (HB.out.cell (World.block_lt_of_cell? w _ hx115_0)).trans hx115_0; replace hx115_1 := (HB.out.cell (World.block_lt_of_cell? w _ hx115_1)).trans hx115_1; replace hx115_0 := (cell_far (p := ⟨gb114, 0, none⟩) zx6_1 (.int .u64 ((rd_T54 y109 x16_2).f0))).trans hx115_0; replace hx115_1 := (cell_far (p := ⟨gb114, 0, none⟩) zx6_1 (.int .u64 ((rd_T54 y109 x16_2).f0))).trans hx115_1; replace hx115_0 := (cell_far (p := ⟨gb114, 1, none⟩) zx6_2 (.int .i64 ((rd_T54 y109 x16_2).f1))).trans hx115_0; replace hx115_1 := (cell_far (p := ⟨gb114, 1, none⟩) zx6_2 (.int .i64 ((rd_T54 y109 x16_2).f1))).trans hx115_1; (try have hy115_0 := fun (n_ : Nat) => (show ((((w14.drewN n_).setCell ⟨gb114, 0, none⟩ (.int .u64 ((rd_T54 y109 x16_2).f0))).setCell ⟨gb114, 1, none⟩ (.int .i64 ((rd_T54 y109 x16_2).f1)))).cell? _ = some _ from hx115_0)); (try have hy115_1 := fun (n_ : Nat) => (show ((((w14.drewN n_).setCell ⟨gb114, 0, none⟩ (.int .u64 ((rd_T54 y109 x16_2).f0))).setCell ⟨gb114, 1, none⟩ (.int .i64 ((rd_T54 y109 x16_2).f1)))).cell? _ = some _ from hx115_1)); clear hn115_0; clear hn115_1; replace p115 := eq_true p115; replace q115 := eq_true q115)))
                        go_roundg k2
                        case measure => have := HJ1.out; have := HK2.out; omega
                        case rel => exact ⟨(wrap64 (x16_2 + 1)), (by first | rfl | (simp; done) | (simp [*]; done)), H', ⟨by have := HJ1.out; have := HK2.out; omega⟩, ⟨by repeat (first | (with_reducible first | exact HB.out | apply below_alloc | apply pw_below_drewN | apply below_drew1 | refine below_set ?_ GE114.out) | exact HB.out)⟩⟩
                    · rw [if_neg c10] at H
                      exact absurd H (by simp)
                  · rw [if_neg c9] at H
                    exact absurd H (by simp)
                · rw [if_neg c8] at H
                  exact absurd H (by simp)
              · rw [if_neg c7] at H
                have c7b0 : decide (x16_2 < (y109.length : Int)) = false := decide_eq_false c7
                clear c7
                obtain rfl := Option.some.inj H
                go_wp2
                repeat (go_quiet (fail); try go_wp2)
                go_ret
                exact ⟨by first | rfl | (simp [errW_none, errW_some] <;> rfl) | (simp [*, errW_none, errW_some] <;> rfl), by repeat (first | (with_reducible first | exact HB.out | apply below_alloc | apply pw_below_drewN | apply below_drew1) | exact HB.out)⟩
        · rw [if_neg c5] at H
          exact absurd H (by simp)

/-! ### entry_Check: function 14 -/
def entry_Check.f (k : Nat) (l0_0 : List (S52)) (l0_1 : List (S54)) : Option (Int) := (label_Check.f k l0_0).bind fun t117 => (if t117 = 0 then ((sample_Check.f k l0_1).bind fun t118 => (some t118)) else (some t117))
theorem entry_Check.mono : ∀ a0 a1 k, LeO (entry_Check.f k a0 a1) (entry_Check.f (k + 1) a0 a1) := by
  intro a0 a1 k
  unfold entry_Check.f
  repeat' first
      | (with_reducible exact label_Check.mono _ _)
      | (with_reducible exact sample_Check.mono _ _)
      | (with_reducible exact LeO.refl _)
      | (with_reducible exact LeO.none _)
      | (with_reducible refine LeO.ite ?_ ?_)
      | (with_reducible refine LeO.bind ?_ (fun _ => ?_))
      | exact label_Check.mono _ _
      | exact sample_Check.mono _ _
      | exact LeO.none _
      | refine LeO.ite ?_ ?_
      | refine LeO.bind ?_ (fun _ => ?_)
set_option maxHeartbeats 8000000 in
set_option maxRecDepth 100000 in
theorem entry_Check.calls (k : Nat) (A0_0 : Option Addr) (c0_0 : Nat) (l0_0 : List (S52)) (A0_1 : Option Addr) (c0_1 : Nat) (l0_1 : List (S54)) (r : Int) (w : World) (hr0_0 : Kd.C k52 w A0_0 l0_0.length l0_0) (hc0_0 : l0_0.length ≤ c0_0) (hr0_1 : Kd.C k54 w A0_1 l0_1.length l0_1) (hc0_1 : l0_1.length ≤ c0_1) (h : entry_Check.f k l0_0 l0_1 = some r) :
    Calls Tryz.prog 14 #[.agg #[.slice A0_0 l0_0.length c0_0, .slice A0_1 l0_1.length c0_1]] w fun e w' => e = .returned (.int .i64 r) ∧ Below w.heap.size w w' := by
  have hu25 := Tryz.underlying25
  have HR0_0 := Aside0.mk hr0_0
  have HC0_0 := Aside0.mk hc0_0
  clear hr0_0 hc0_0
  have HR0_1 := Aside0.mk hr0_1
  have HC0_1 := Aside0.mk hc0_1
  clear hr0_1 hc0_1
  have HB := Aside0.mk (Below.refl w.heap.size w)
  have H : ((label_Check.f k l0_0).bind fun t117 => (if t117 = 0 then ((sample_Check.f k l0_1).bind fun t118 => (some t118)) else (some t117))) = some r := h
  clear h
  replace H := Option.bind_eq_some_iff.mp H
  obtain ⟨t117, A20, H⟩ := H
  replace H : (if t117 = 0 then ((sample_Check.f k l0_1).bind fun t118 => (some t118)) else (some t117)) = some r := H
  have A2 := Aside0.mk A20
  clear A20
  by_cases c3 : t117 = 0
  · rw [if_pos c3] at H
    have c3b0 : (t117 == 0) = true := beq_iff_eq.mpr c3
    have c3b1 : (t117 != 0) = false := bne_eq_false_iff_eq.mpr c3
    clear c3
    replace H := Option.bind_eq_some_iff.mp H
    obtain ⟨t118, A40, H⟩ := H
    replace H : (some t118) = some r := H
    have A4 := Aside0.mk A40
    clear A40
    obtain rfl := Option.some.inj H
    go_enter Tryz.func14, Tryz.ntmps14
    go_wp2_with (first | ((with_reducible refine gate_dst (N := 1) rfl ?_); refine box_event ?hg (N := 1) ?hd (cs := #[.slice A0_0 l0_0.length c0_0, .slice A0_1 l0_1.length c0_1]) (t := 25) ?hr ?_; (case hd => rfl); (case hg => rfl); (case hr => first | (go_simp; done) | (go_simp; rfl)); intro gb116 hg w5 hbox hb; have n0_ := Aside0.mk (below_step zx6_0 hb); have n1_ := Aside0.mk (hbox); have n2_ := Aside0.mk ((by rw [hg]; exact (below_size zx6_0) : w.heap.size ≤ gb116)); have n3_ := Aside0.mk ((by rw [hg]; exact (below_size zx6_0) : w.heap.size ≤ gb116)); clear HB; have HB := n0_; have BK116 := n1_; have GW116 := n2_; have GE116 := n3_; clear n0_ n1_ n2_ n3_; clear hb hbox hg; have hcz6_0 : w5.cell? ⟨gb116, 0, none⟩ = some (.slice A0_0 l0_0.length c0_0) := (blk_cell BK116.out 0).trans rfl; have hcz6_1 : w5.cell? ⟨gb116, 1, none⟩ = some (.slice A0_1 l0_1.length c0_1) := (blk_cell BK116.out 1).trans rfl; have hfz6_0 := blk_frozen BK116.out 0; have hfz6_1 := blk_frozen BK116.out 1) | ((with_reducible refine gate_callee (f := 32) rfl ?_); refine goesL_ (some 6) rfl rfl Tryz.func32 (by kernel_rfl) rfl #[.slice A0_0 l0_0.length c0_0] rfl zx6_6 ?_; (with_reducible refine (label_Check.calls k _ _ l0_0 t117 _ ?side1 ?side2 A2.out).mono ?_); (case side1 => repeat (first | exact (Kd.C_below HR0_0.out HB.out) | (with_reducible refine Kd.C_alloc ?_ _) | (with_reducible refine Kd.C_drewN ?_ _) | (with_reducible refine Kd.C_drew ?_))); (case side2 => exact HC0_0.out); rintro e w7 ⟨rfl, hb⟩; refine ⟨_, rfl, ?_⟩; have n0_ := Aside0.mk (blk_below (g := gb116) (o := .cells #[.slice A0_0 l0_0.length c0_0, .slice A0_1 l0_1.length c0_1] 25 (0, 0)) zx6_7 hb); have n1_ := Aside0.mk (below_step zx6_5 hb); clear BK116; clear HB; have BK116 := n0_; have HB := n1_; clear n0_ n1_; (try clear hb); (try clear hb2); (try clear hk); (try clear hi); have hcz8_0 : w7.cell? ⟨gb116, 0, none⟩ = some (.slice A0_0 l0_0.length c0_0) := (blk_cell BK116.out 0).trans rfl; have hcz8_1 : w7.cell? ⟨gb116, 1, none⟩ = some (.slice A0_1 l0_1.length c0_1) := (blk_cell BK116.out 1).trans rfl; have hfz8_0 := blk_frozen BK116.out 0; have hfz8_1 := blk_frozen BK116.out 1) | ((with_reducible refine gate_callee (f := 33) rfl ?_); refine goesL_ (some 12) rfl rfl Tryz.func33 (by kernel_rfl) rfl #[.slice A0_1 l0_1.length c0_1] rfl zx6_6 ?_; (with_reducible refine (sample_Check.calls k _ _ l0_1 t118 _ ?side1 ?side2 A4.out).mono ?_); (case side1 => repeat (first | exact (Kd.C_below HR0_1.out HB.out) | (with_reducible refine Kd.C_alloc ?_ _) | (with_reducible refine Kd.C_drewN ?_ _) | (with_reducible refine Kd.C_drew ?_))); (case side2 => exact HC0_1.out); rintro e w9 ⟨rfl, hb⟩; refine ⟨_, rfl, ?_⟩; have n0_ := Aside0.mk (blk_below (g := gb116) (o := .cells #[.slice A0_0 l0_0.length c0_0, .slice A0_1 l0_1.length c0_1] 25 (0, 0)) zx6_7 hb); have n1_ := Aside0.mk (below_step zx6_5 hb); clear BK116; clear HB; have BK116 := n0_; have HB := n1_; clear n0_ n1_; (try clear hb); (try clear hb2); (try clear hk); (try clear hi)))
    go_ret
    exact ⟨by first | rfl | (simp [errW_none, errW_some] <;> rfl) | (simp [*, errW_none, errW_some] <;> rfl), by repeat (first | (with_reducible first | exact HB.out | apply below_alloc | apply pw_below_drewN | apply below_drew1 | refine below_set ?_ GE116.out) | exact HB.out)⟩
  · rw [if_neg c3] at H
    have c3b0 : (t117 == 0) = false := beq_eq_false_iff_ne.mpr c3
    have c3b1 : (t117 != 0) = true := bne_iff_ne.mpr c3
    obtain rfl := Option.some.inj H
    go_enter Tryz.func14, Tryz.ntmps14
    go_wp2_with (first | ((with_reducible refine gate_dst (N := 1) rfl ?_); refine box_event ?hg (N := 1) ?hd (cs := #[.slice A0_0 l0_0.length c0_0, .slice A0_1 l0_1.length c0_1]) (t := 25) ?hr ?_; (case hd => rfl); (case hg => rfl); (case hr => first | (go_simp; done) | (go_simp; rfl)); intro gb116 hg w10 hbox hb; have n0_ := Aside0.mk (below_step zx6_0 hb); have n1_ := Aside0.mk (hbox); have n2_ := Aside0.mk ((by rw [hg]; exact (below_size zx6_0) : w.heap.size ≤ gb116)); have n3_ := Aside0.mk ((by rw [hg]; exact (below_size zx6_0) : w.heap.size ≤ gb116)); clear HB; have HB := n0_; have BK116 := n1_; have GW116 := n2_; have GE116 := n3_; clear n0_ n1_ n2_ n3_; clear hb hbox hg; have hcz11_0 : w10.cell? ⟨gb116, 0, none⟩ = some (.slice A0_0 l0_0.length c0_0) := (blk_cell BK116.out 0).trans rfl; have hcz11_1 : w10.cell? ⟨gb116, 1, none⟩ = some (.slice A0_1 l0_1.length c0_1) := (blk_cell BK116.out 1).trans rfl; have hfz11_0 := blk_frozen BK116.out 0; have hfz11_1 := blk_frozen BK116.out 1) | ((with_reducible refine gate_callee (f := 32) rfl ?_); refine goesL_ (some 6) rfl rfl Tryz.func32 (by kernel_rfl) rfl #[.slice A0_0 l0_0.length c0_0] rfl zx6_6 ?_; (with_reducible refine (label_Check.calls k _ _ l0_0 t117 _ ?side1 ?side2 A2.out).mono ?_); (case side1 => repeat (first | exact (Kd.C_below HR0_0.out HB.out) | (with_reducible refine Kd.C_alloc ?_ _) | (with_reducible refine Kd.C_drewN ?_ _) | (with_reducible refine Kd.C_drew ?_))); (case side2 => exact HC0_0.out); rintro e w12 ⟨rfl, hb⟩; refine ⟨_, rfl, ?_⟩; have n0_ := Aside0.mk (blk_below (g := gb116) (o := .cells #[.slice A0_0 l0_0.length c0_0, .slice A0_1 l0_1.length c0_1] 25 (0, 0)) zx6_7 hb); have n1_ := Aside0.mk (below_step zx6_5 hb); clear BK116; clear HB; have BK116 := n0_; have HB := n1_; clear n0_ n1_; (try clear hb); (try clear hb2); (try clear hk); (try clear hi)))
    go_ret
    exact ⟨by first | rfl | (simp [errW_none, errW_some] <;> rfl) | (simp [*, errW_none, errW_some] <;> rfl), by repeat (first | (with_reducible first | exact HB.out | apply below_alloc | apply pw_below_drewN | apply below_drew1 | refine below_set ?_ GE116.out) | exact HB.out)⟩

-- NOT PRINTED: function 100 (api_Pair_100)

-- NOT PRINTED: function 91 (api_Pair_91)

-- NOT PRINTED: function 106 (api_Pair_106)

-- NOT PRINTED: function 119 (api_Pair_119)

-- NOT PRINTED: function 107 (api_Pair_107)

-- NOT PRINTED: function 121 (slices_xorshift_Next)

-- NOT PRINTED: function 108 (api_Pair_108)

-- NOT PRINTED: function 124 (api_Pair_124)

-- NOT PRINTED: function 123 (api_Pair_123)

-- NOT PRINTED: function 122 (api_Pair_122)

-- NOT PRINTED: function 109 (api_Pair_109)

-- NOT PRINTED: function 110 (api_Pair_110)

-- NOT PRINTED: function 111 (api_Pair_111)

-- NOT PRINTED: function 112 (api_Pair_112)

-- NOT PRINTED: function 113 (api_Pair_113)

-- NOT PRINTED: function 101 (api_Pair_101)

-- NOT PRINTED: function 92 (api_Pair_92)

-- NOT PRINTED: function 77 (api_Pair_77)

-- NOT PRINTED: function 78 (api_Pair_78)

-- NOT PRINTED: function 63 (api_Pair_string)

end Go.Proofs.YthaegbiblblccaaGreatDoor.XEnt
end
section
/- What the functions of the translation answer, each as a plain Lean function, and that the code comes to it; for a law: its row. Conditions: none but those that each theorem names. Written by a program of this session (wip/xp). -/
namespace Go.Proofs.YthaegbiblblccaaGreatDoor.XEnt
open Go.RowKit Go.Proofs.YthaegbiblblccaaGreatDoorW.PrintWords Go.Proofs.YthaegbiblblccaaGreatDoorW.PrintLast Go.Proofs.YthaegbiblblccaaGreatDoorW.PrintMore
attribute [local go_sem] max2_int min2_int max_two min_two max_three min_three max_four min_four   -- for this text's walks alone
theorem zx31_11 {p : Prop} (h : p := by first | rfl | (simp; done) | (simp [*]; done)) : p := h
theorem zx31_10 {p : Prop} (h : p := by first | (with_reducible assumption) | assumption) : p := h
theorem zx31_2 {p : Prop} (h : p := by (with_reducible repeat (first | apply Kd.R_alloc | apply Kd.R_drewN | apply Kd.R_drew)); exact HO_8.out) : p := h
theorem zx31_6 {p : Prop} (h : p := by (with_reducible repeat (first | refine blk_drewN ?_ _ | refine blk_drew ?_ | refine blk_alloc ?_ _)); exact BK462.out) : p := h
theorem zx31_7 {p : Prop} (h : p := by first | (rw [add_block]; exact hn469_0) | (show (Addr.add _ _).block ≠ _; rw [add_block]; exact hn469_0) | exact hn469_0) : p := h
theorem zx31_0 {p : Prop} (h : p := by repeat (first | (with_reducible first | exact HB.out | apply below_alloc | apply pw_below_drewN | apply below_drew1) | exact HB.out)) : p := h
theorem zx31_1 {p : Prop} (h : p := by repeat (first | (with_reducible first | exact HB.out | apply below_alloc | apply pw_below_drewN | apply below_drew1 | refine below_set ?_ GE462.out) | exact HB.out)) : p := h
theorem zx31_9 {p : Prop} (h : p := by first | exact Kd.R_away HO_8.out (fun _ hk => hk.2) | exact Kd.R_away HO_8.out (fun _ hk => hk) | exact Kd.R_away HO_8.out (fun _ hk => hk.1.2) | exact Kd.R_away HO_8.out (fun _ hk => hk.1) | exact Kd.R_away HO_8.out (fun _ hk => hk.2.1)) : p := h
theorem zx31_5 {p : Prop} (h : p := by (with_reducible repeat (first | apply Kd.R_alloc | apply Kd.R_drewN | apply Kd.R_drew)); exact (Kd.R_mono (Kd.R_far (p := ⟨gb462, 0, none⟩) (Kd.R_mono HO_8.out (fun k_ hk => (⟨hk, hk.2⟩ : _ ∧ k_ ≠ gb462))) (fun _ hk => hk.2) (.string t463)) (fun _ h_ => h_.1))) : p := h
theorem zx31_8 {p : Prop} (h : p := by (with_reducible repeat (first | apply Kd.R_alloc | apply Kd.R_drewN | apply Kd.R_drew)); exact Kd.R_mono (Kd.R_far (p := ⟨gb462, 1, none⟩) (Kd.R_mono HO_8.out (fun k_ hk => (⟨hk, hk.2⟩ : _ ∧ k_ ≠ gb462))) (fun _ hk => hk.2) (.string t466)) (fun _ hk => hk.1.2)) : p := h
theorem zx31_4 {p : Prop} (h : p := by (with_reducible repeat (first | refine blk_drewN ?_ _ | refine blk_drew ?_ | refine blk_alloc ?_ _)); refine blk_put (cs := #[.string t463, .string (⟨#[]⟩ : ByteArray)]) ?_ 1 _ rfl; (with_reducible repeat (first | refine blk_drewN ?_ _ | refine blk_drew ?_ | refine blk_alloc ?_ _)); exact BK462.out) : p := h
theorem zx31_3 {p : Prop} (h : p := by (with_reducible repeat (first | refine blk_drewN ?_ _ | refine blk_drew ?_ | refine blk_alloc ?_ _)); refine blk_put (cs := #[.string (⟨#[]⟩ : ByteArray), .string (⟨#[]⟩ : ByteArray)]) ?_ 0 _ rfl; (with_reducible repeat (first | refine blk_drewN ?_ _ | refine blk_drew ?_ | refine blk_alloc ?_ _)); exact BK462.out) : p := h
set_option linter.unusedVariables false
set_option linter.unusedSimpArgs false

/-! ### num_TakeText: function 69 -/
def num_TakeText.f (k : Nat) (a0 : ByteArray) (a1 : Int) : Option (ByteArray × ByteArray × Int) := (num_Take.f k a0).bind fun bt455 => (if bt455.2.2 = 0 then (if bt455.1 > (IntKind.u64.wrap (mx a1 0)) then (some ((⟨#[]⟩ : ByteArray), (⟨#[]⟩ : ByteArray), 7)) else (if bt455.1 > (IntKind.u64.wrap ((bt455.2.1.size : Int))) then (some ((⟨#[]⟩ : ByteArray), (⟨#[]⟩ : ByteArray), 2)) else (if 0 ≤ bt455.1 then (if bt455.1 ≤ (bt455.2.1.size : Int) then (some (bt455.2.1.extract 0 (bt455.1 : Int).toNat, bt455.2.1.extract (bt455.1 : Int).toNat bt455.2.1.size, 0)) else (none)) else (none)))) else (some ((⟨#[]⟩ : ByteArray), (⟨#[]⟩ : ByteArray), bt455.2.2)))
theorem num_TakeText.mono : ∀ a0 a1 k, LeO (num_TakeText.f k a0 a1) (num_TakeText.f (k + 1) a0 a1) := by
  intro a0 a1 k
  unfold num_TakeText.f
  repeat' first
      | (with_reducible exact num_Take.mono _ _)
      | (with_reducible exact LeO.refl _)
      | (with_reducible exact LeO.none _)
      | (with_reducible refine LeO.ite ?_ ?_)
      | (with_reducible refine LeO.bind ?_ (fun _ => ?_))
      | exact num_Take.mono _ _
      | exact LeO.none _
      | refine LeO.ite ?_ ?_
      | refine LeO.bind ?_ (fun _ => ?_)
set_option maxHeartbeats 8000000 in
set_option maxRecDepth 100000 in
theorem num_TakeText.calls (k : Nat) (a0 : ByteArray) (a1 : Int) (r1 : ByteArray) (r2 : ByteArray) (r3 : Int) (w : World) (h : num_TakeText.f k a0 a1 = some (r1, r2, r3)) :
    Calls Tryz.prog 69 #[.string a0, .int .i64 a1] w fun e w' => e = .returned (.tuple #[.string r1, .string r2, .int .i64 r3]) ∧ Below w.heap.size w w' := by
  have HB := Aside0.mk (Below.refl w.heap.size w)
  have H : ((num_Take.f k a0).bind fun bt455 => (if bt455.2.2 = 0 then (if bt455.1 > (IntKind.u64.wrap (mx a1 0)) then (some ((⟨#[]⟩ : ByteArray), (⟨#[]⟩ : ByteArray), 7)) else (if bt455.1 > (IntKind.u64.wrap ((bt455.2.1.size : Int))) then (some ((⟨#[]⟩ : ByteArray), (⟨#[]⟩ : ByteArray), 2)) else (if 0 ≤ bt455.1 then (if bt455.1 ≤ (bt455.2.1.size : Int) then (some (bt455.2.1.extract 0 (bt455.1 : Int).toNat, bt455.2.1.extract (bt455.1 : Int).toNat bt455.2.1.size, 0)) else (none)) else (none)))) else (some ((⟨#[]⟩ : ByteArray), (⟨#[]⟩ : ByteArray), bt455.2.2)))) = some (r1, r2, r3) := h
  clear h
  replace H := Option.bind_eq_some_iff.mp H
  obtain ⟨⟨t455, t456, t457⟩, A30, H⟩ := H
  replace H : (if t457 = 0 then (if t455 > (IntKind.u64.wrap (mx a1 0)) then (some ((⟨#[]⟩ : ByteArray), (⟨#[]⟩ : ByteArray), 7)) else (if t455 > (IntKind.u64.wrap ((t456.size : Int))) then (some ((⟨#[]⟩ : ByteArray), (⟨#[]⟩ : ByteArray), 2)) else (if 0 ≤ t455 then (if t455 ≤ (t456.size : Int) then (some (t456.extract 0 (t455 : Int).toNat, t456.extract (t455 : Int).toNat t456.size, 0)) else (none)) else (none)))) else (some ((⟨#[]⟩ : ByteArray), (⟨#[]⟩ : ByteArray), t457))) = some (r1, r2, r3) := H
  have A3 := Aside0.mk A30
  clear A30
  by_cases c4 : t457 = 0
  · rw [if_pos c4] at H
    have c4b0 : (t457 == 0) = true := beq_iff_eq.mpr c4
    have c4b1 : (t457 != 0) = false := bne_eq_false_iff_eq.mpr c4
    clear c4
    obtain ⟨ji5, hji5⟩ : ∃ j_ : Int, (mx a1 0) = j_ := ⟨_, rfl⟩
    replace H : (if t455 > (IntKind.u64.wrap (ji5)) then (some ((⟨#[]⟩ : ByteArray), (⟨#[]⟩ : ByteArray), 7)) else (if t455 > (IntKind.u64.wrap ((t456.size : Int))) then (some ((⟨#[]⟩ : ByteArray), (⟨#[]⟩ : ByteArray), 2)) else (if 0 ≤ t455 then (if t455 ≤ (t456.size : Int) then (some (t456.extract 0 (t455 : Int).toNat, t456.extract (t455 : Int).toNat t456.size, 0)) else (none)) else (none)))) = some (r1, r2, r3) := by first | (rw [hji5] at H; exact H) | (simp only [hji5] at H ⊢; exact H)
    (try rw [hji5] at A3)
    (try (have hji5l : 0 ≤ ji5 := by (rw [← hji5]; unfold mx; (repeat' split) <;> omega)))
    (try (have hji5m : 0 ≤ ji5 := by omega))
    have hji5_ : (if a1 < 0 then 0 else a1) = ji5 := hji5
    by_cases c6 : t455 > (IntKind.u64.wrap (ji5))
    · rw [if_pos c6] at H
      have c6b0 : decide ((IntKind.u64.wrap (ji5)) < t455) = true := decide_eq_true c6
      clear c6
      simp only [Option.some.injEq, Prod.mk.injEq] at H
      obtain ⟨rfl, rfl, rfl⟩ := H
      go_enter Tryz.func69, Tryz.ntmps69
      go_wp2_with (first | (go_at_call 68; (with_reducible refine (num_Take.calls k a0 t455 t456 t457 _ A3.out).mono ?_); rintro e w' ⟨rfl, ⟨nd, rfl⟩⟩; (try first | exact ⟨rfl, _, World.drewN_drewN _ _ _⟩ | exact ⟨rfl, _, Eq.trans (World.drewN_drewN _ _ _) (congrArg (World.drewN _) (Nat.add_assoc _ _ _))⟩)))
      repeat (go_quiet (first | (go_at_call 68; (with_reducible refine (num_Take.calls k a0 t455 t456 t457 _ A3.out).mono ?_); rintro e w' ⟨rfl, ⟨nd, rfl⟩⟩; (try first | exact ⟨rfl, _, World.drewN_drewN _ _ _⟩ | exact ⟨rfl, _, Eq.trans (World.drewN_drewN _ _ _) (congrArg (World.drewN _) (Nat.add_assoc _ _ _))⟩))); try go_wp2_with (first | (go_at_call 68; (with_reducible refine (num_Take.calls k a0 t455 t456 t457 _ A3.out).mono ?_); rintro e w' ⟨rfl, ⟨nd, rfl⟩⟩; (try first | exact ⟨rfl, _, World.drewN_drewN _ _ _⟩ | exact ⟨rfl, _, Eq.trans (World.drewN_drewN _ _ _) (congrArg (World.drewN _) (Nat.add_assoc _ _ _))⟩))))
      go_ret3
      exact ⟨by first | rfl | (simp [errW_none, errW_some] <;> rfl) | (simp only [← hji5]; first | rfl | (simp [errW_none, errW_some] <;> rfl)) | (simp [*, errW_none, errW_some] <;> rfl), by repeat (first | (with_reducible first | exact HB.out | apply below_alloc | apply pw_below_drewN | apply below_drew1) | exact HB.out)⟩
    · rw [if_neg c6] at H
      have c6b0 : decide ((IntKind.u64.wrap (ji5)) < t455) = false := decide_eq_false c6
      clear c6
      by_cases c7 : t455 > (IntKind.u64.wrap ((t456.size : Int)))
      · rw [if_pos c7] at H
        have c7b0 : decide ((IntKind.u64.wrap ((t456.size : Int))) < t455) = true := decide_eq_true c7
        clear c7
        simp only [Option.some.injEq, Prod.mk.injEq] at H
        obtain ⟨rfl, rfl, rfl⟩ := H
        go_enter Tryz.func69, Tryz.ntmps69
        go_wp2_with (first | (go_at_call 68; (with_reducible refine (num_Take.calls k a0 t455 t456 t457 _ A3.out).mono ?_); rintro e w' ⟨rfl, ⟨nd, rfl⟩⟩; (try first | exact ⟨rfl, _, World.drewN_drewN _ _ _⟩ | exact ⟨rfl, _, Eq.trans (World.drewN_drewN _ _ _) (congrArg (World.drewN _) (Nat.add_assoc _ _ _))⟩)))
        repeat (go_quiet (first | (go_at_call 68; (with_reducible refine (num_Take.calls k a0 t455 t456 t457 _ A3.out).mono ?_); rintro e w' ⟨rfl, ⟨nd, rfl⟩⟩; (try first | exact ⟨rfl, _, World.drewN_drewN _ _ _⟩ | exact ⟨rfl, _, Eq.trans (World.drewN_drewN _ _ _) (congrArg (World.drewN _) (Nat.add_assoc _ _ _))⟩))); try go_wp2_with (first | (go_at_call 68; (with_reducible refine (num_Take.calls k a0 t455 t456 t457 _ A3.out).mono ?_); rintro e w' ⟨rfl, ⟨nd, rfl⟩⟩; (try first | exact ⟨rfl, _, World.drewN_drewN _ _ _⟩ | exact ⟨rfl, _, Eq.trans (World.drewN_drewN _ _ _) (congrArg (World.drewN _) (Nat.add_assoc _ _ _))⟩))))
        go_ret3
        exact ⟨by first | rfl | (simp [errW_none, errW_some] <;> rfl) | (simp only [← hji5]; first | rfl | (simp [errW_none, errW_some] <;> rfl)) | (simp [*, errW_none, errW_some] <;> rfl), by repeat (first | (with_reducible first | exact HB.out | apply below_alloc | apply pw_below_drewN | apply below_drew1) | exact HB.out)⟩
      · rw [if_neg c7] at H
        have c7b0 : decide ((IntKind.u64.wrap ((t456.size : Int))) < t455) = false := decide_eq_false c7
        clear c7
        by_cases c8 : 0 ≤ t455
        · rw [if_pos c8] at H
          have c8b0 := eq_true c8
          have c8b1 : decide (0 ≤ t455) = true := decide_eq_true c8
          clear c8
          by_cases c9 : t455 ≤ (t456.size : Int)
          · rw [if_pos c9] at H
            have c9b0 := eq_true c9
            have c9b1 : decide (t455 ≤ (t456.size : Int)) = true := decide_eq_true c9
            clear c9
            have c10b0 := eq_true (of_decide_eq_true zx31_10 : 0 ≤ t455)
            have c11b0 := eq_true (of_decide_eq_true zx31_10 : t455 ≤ (t456.size : Int))
            simp only [Option.some.injEq, Prod.mk.injEq] at H
            obtain ⟨rfl, rfl, rfl⟩ := H
            go_enter Tryz.func69, Tryz.ntmps69
            go_wp2_with (first | (go_at_call 68; (with_reducible refine (num_Take.calls k a0 t455 t456 t457 _ A3.out).mono ?_); rintro e w' ⟨rfl, ⟨nd, rfl⟩⟩; (try first | exact ⟨rfl, _, World.drewN_drewN _ _ _⟩ | exact ⟨rfl, _, Eq.trans (World.drewN_drewN _ _ _) (congrArg (World.drewN _) (Nat.add_assoc _ _ _))⟩)))
            repeat (go_quiet (first | (go_at_call 68; (with_reducible refine (num_Take.calls k a0 t455 t456 t457 _ A3.out).mono ?_); rintro e w' ⟨rfl, ⟨nd, rfl⟩⟩; (try first | exact ⟨rfl, _, World.drewN_drewN _ _ _⟩ | exact ⟨rfl, _, Eq.trans (World.drewN_drewN _ _ _) (congrArg (World.drewN _) (Nat.add_assoc _ _ _))⟩))); try go_wp2_with (first | (go_at_call 68; (with_reducible refine (num_Take.calls k a0 t455 t456 t457 _ A3.out).mono ?_); rintro e w' ⟨rfl, ⟨nd, rfl⟩⟩; (try first | exact ⟨rfl, _, World.drewN_drewN _ _ _⟩ | exact ⟨rfl, _, Eq.trans (World.drewN_drewN _ _ _) (congrArg (World.drewN _) (Nat.add_assoc _ _ _))⟩))))
            go_ret3
            exact ⟨by first | rfl | (simp [errW_none, errW_some] <;> rfl) | (simp only [← hji5]; first | rfl | (simp [errW_none, errW_some] <;> rfl)) | (simp [*, errW_none, errW_some] <;> rfl), by repeat (first | (with_reducible first | exact HB.out | apply below_alloc | apply pw_below_drewN | apply below_drew1) | exact HB.out)⟩
          · rw [if_neg c9] at H
            exact absurd H (by simp)
        · rw [if_neg c8] at H
          exact absurd H (by simp)
  · rw [if_neg c4] at H
    have c4b0 : (t457 == 0) = false := beq_eq_false_iff_ne.mpr c4
    have c4b1 : (t457 != 0) = true := bne_iff_ne.mpr c4
    simp only [Option.some.injEq, Prod.mk.injEq] at H
    obtain ⟨rfl, rfl, rfl⟩ := H
    go_enter Tryz.func69, Tryz.ntmps69
    go_wp2_with (first | (go_at_call 68; (with_reducible refine (num_Take.calls k a0 t455 t456 t457 _ A3.out).mono ?_); rintro e w' ⟨rfl, ⟨nd, rfl⟩⟩; (try first | exact ⟨rfl, _, World.drewN_drewN _ _ _⟩ | exact ⟨rfl, _, Eq.trans (World.drewN_drewN _ _ _) (congrArg (World.drewN _) (Nat.add_assoc _ _ _))⟩)))
    repeat (go_quiet (first | (go_at_call 68; (with_reducible refine (num_Take.calls k a0 t455 t456 t457 _ A3.out).mono ?_); rintro e w' ⟨rfl, ⟨nd, rfl⟩⟩; (try first | exact ⟨rfl, _, World.drewN_drewN _ _ _⟩ | exact ⟨rfl, _, Eq.trans (World.drewN_drewN _ _ _) (congrArg (World.drewN _) (Nat.add_assoc _ _ _))⟩))); try go_wp2_with (first | (go_at_call 68; (with_reducible refine (num_Take.calls k a0 t455 t456 t457 _ A3.out).mono ?_); rintro e w' ⟨rfl, ⟨nd, rfl⟩⟩; (try first | exact ⟨rfl, _, World.drewN_drewN _ _ _⟩ | exact ⟨rfl, _, Eq.trans (World.drewN_drewN _ _ _) (congrArg (World.drewN _) (Nat.add_assoc _ _ _))⟩))))
    go_ret3
    exact ⟨by first | rfl | (simp [errW_none, errW_some] <;> rfl) | (simp [*, errW_none, errW_some] <;> rfl), by repeat (first | (with_reducible first | exact HB.out | apply below_alloc | apply pw_below_drewN | apply below_drew1) | exact HB.out)⟩

/-! ### label_Take: function 51 -/
mutual
def label_Take.j0 : Nat → Int → ByteArray → Bool → Option ((List (S52)) × ByteArray × Int)
  | 0, _, _, _ => none
  | k + 1, x5, x6, x21 => if x21 = true then (some (([] : List (S52)), (⟨#[]⟩ : ByteArray), 2)) else (label_Take.l0 k x6 ([] : List (S52)) x5 0)
def label_Take.l0 : Nat → ByteArray → List (S52) → Int → Int → Option ((List (S52)) × ByteArray × Int)
  | 0, _, _, _, _ => none
  | k + 1, x6, x8, x22, x23 => if x23 < x22 then ((num_TakeText.f k x6 20).bind fun bt463 => (if bt463.2.2 = 0 then ((num_TakeText.f k bt463.2.1 40).bind fun bt466 => (if bt466.2.2 = 0 then (if (x8.length : Int) > 0 then (if 0 ≤ (wrap64 ((x8.length : Int) - 1)) then (if (wrap64 ((x8.length : Int) - 1)) < (x8.length : Int) then (if ((Op.bytesLess (((rd_T52 x8 (wrap64 ((x8.length : Int) - 1))).f0).toList) bt463.1.toList) = true) then (if x8.length < 4398046511104 then (label_Take.l0 k bt466.2.1 (x8 ++ [(⟨bt463.1, bt466.1⟩ : S52)]) x22 (IntKind.u64.wrap (x23 + 1))) else (none)) else (some (([] : List (S52)), (⟨#[]⟩ : ByteArray), 2))) else (none)) else (none)) else (if x8.length < 4398046511104 then (label_Take.l0 k bt466.2.1 (x8 ++ [(⟨bt463.1, bt466.1⟩ : S52)]) x22 (IntKind.u64.wrap (x23 + 1))) else (none))) else (some (([] : List (S52)), (⟨#[]⟩ : ByteArray), 2)))) else (some (([] : List (S52)), (⟨#[]⟩ : ByteArray), 2)))) else ((label_Check.f k x8).bind fun t461 => (if t461 = 0 then (some (x8, x6, 0)) else (some (([] : List (S52)), (⟨#[]⟩ : ByteArray), 2))))
end
def label_Take.f (k : Nat) (a0 : ByteArray) : Option ((List (S52)) × ByteArray × Int) := (num_Take.f k a0).bind fun bt458 => (if bt458.2.2 = 0 then (label_Take.j0 k bt458.1 bt458.2.1 (decide (bt458.1 > 8))) else (label_Take.j0 k bt458.1 bt458.2.1 true))
theorem label_Take.mono_l : ∀ k, (∀ y0 y1 y2, LeO (label_Take.j0 k y0 y1 y2) (label_Take.j0 (k + 1) y0 y1 y2)) ∧ (∀ y0 y1 y2 y3, LeO (label_Take.l0 k y0 y1 y2 y3) (label_Take.l0 (k + 1) y0 y1 y2 y3))
  | 0 => ⟨fun _ _ _ r h => by simp [label_Take.j0] at h, fun _ _ _ _ r h => by simp [label_Take.l0] at h⟩
  | k + 1 => by
    obtain ⟨ih0, ih1⟩ := label_Take.mono_l k
    refine ⟨?_, ?_⟩
    · intro y0 y1 y2
      unfold label_Take.j0
      repeat' first
      | (with_reducible exact ih0 _ _ _)
      | (with_reducible exact ih1 _ _ _ _)
      | (with_reducible exact label_Check.mono _ _)
      | (with_reducible exact num_Take.mono _ _)
      | (with_reducible exact num_TakeText.mono _ _ _)
      | (with_reducible exact LeO.refl _)
      | (with_reducible exact LeO.none _)
      | (with_reducible refine LeO.ite ?_ ?_)
      | (with_reducible refine LeO.bind ?_ (fun _ => ?_))
      | exact ih0 _ _ _
      | exact ih1 _ _ _ _
      | exact label_Check.mono _ _
      | exact num_Take.mono _ _
      | exact num_TakeText.mono _ _ _
      | exact LeO.none _
      | refine LeO.ite ?_ ?_
      | refine LeO.bind ?_ (fun _ => ?_)
    · intro y0 y1 y2 y3
      unfold label_Take.l0
      repeat' first
      | (with_reducible exact ih0 _ _ _)
      | (with_reducible exact ih1 _ _ _ _)
      | (with_reducible exact label_Check.mono _ _)
      | (with_reducible exact num_Take.mono _ _)
      | (with_reducible exact num_TakeText.mono _ _ _)
      | (with_reducible exact LeO.refl _)
      | (with_reducible exact LeO.none _)
      | (with_reducible refine LeO.ite ?_ ?_)
      | (with_reducible refine LeO.bind ?_ (fun _ => ?_))
      | exact ih0 _ _ _
      | exact ih1 _ _ _ _
      | exact label_Check.mono _ _
      | exact num_Take.mono _ _
      | exact num_TakeText.mono _ _ _
      | exact LeO.none _
      | refine LeO.ite ?_ ?_
      | refine LeO.bind ?_ (fun _ => ?_)
theorem label_Take.mono : ∀ a0 k, LeO (label_Take.f k a0) (label_Take.f (k + 1) a0) := by
  intro a0 k
  obtain ⟨ih0, ih1⟩ := label_Take.mono_l k
  unfold label_Take.f
  repeat' first
      | (with_reducible exact ih0 _ _ _)
      | (with_reducible exact ih1 _ _ _ _)
      | (with_reducible exact label_Check.mono _ _)
      | (with_reducible exact num_Take.mono _ _)
      | (with_reducible exact num_TakeText.mono _ _ _)
      | (with_reducible exact LeO.refl _)
      | (with_reducible exact LeO.none _)
      | (with_reducible refine LeO.ite ?_ ?_)
      | (with_reducible refine LeO.bind ?_ (fun _ => ?_))
      | exact ih0 _ _ _
      | exact ih1 _ _ _ _
      | exact label_Check.mono _ _
      | exact num_Take.mono _ _
      | exact num_TakeText.mono _ _ _
      | exact LeO.none _
      | refine LeO.ite ?_ ?_
      | refine LeO.bind ?_ (fun _ => ?_)
set_option maxHeartbeats 8000000 in
set_option maxRecDepth 100000 in
theorem label_Take.calls (k : Nat) (a0 : ByteArray) (r1 : List (S52)) (r2 : ByteArray) (r3 : Int) (w : World) (h : label_Take.f k a0 = some (r1, r2, r3)) :
    Calls Tryz.prog 51 #[.string a0] w fun e w' => ∃ v0_ : Value, e = .returned (.tuple #[v0_, .string r2, .int .i64 r3]) ∧ Kd.R k52 52 w' w.heap.size (fun _ => True) v0_ r1 ∧ Below w.heap.size w w' := by
  have hu52 := Tryz.underlying52
  have HB := Aside0.mk (Below.refl w.heap.size w)
  have H : ((num_Take.f k a0).bind fun bt458 => (if bt458.2.2 = 0 then (label_Take.j0 k bt458.1 bt458.2.1 (decide (bt458.1 > 8))) else (label_Take.j0 k bt458.1 bt458.2.1 true))) = some (r1, r2, r3) := h
  clear h
  replace H := Option.bind_eq_some_iff.mp H
  obtain ⟨⟨t458, t459, t460⟩, A20, H⟩ := H
  replace H : (if t460 = 0 then (label_Take.j0 k t458 t459 (decide (t458 > 8))) else (label_Take.j0 k t458 t459 true)) = some (r1, r2, r3) := H
  have A2 := Aside0.mk A20
  clear A20
  have HC3 := Aside0.mk H
  clear H
  go_enter Tryz.func51, Tryz.ntmps51
  go_upto_region 2 with (first | (go_at_call 68; (with_reducible refine (num_Take.calls k a0 t458 t459 t460 _ A2.out).mono ?_); rintro e w' ⟨rfl, ⟨nd, rfl⟩⟩; (try first | exact ⟨rfl, _, World.drewN_drewN _ _ _⟩ | exact ⟨rfl, _, Eq.trans (World.drewN_drewN _ _ _) (congrArg (World.drewN _) (Nat.add_assoc _ _ _))⟩)))
  repeat (go_quiet (first | (go_at_call 68; (with_reducible refine (num_Take.calls k a0 t458 t459 t460 _ A2.out).mono ?_); rintro e w' ⟨rfl, ⟨nd, rfl⟩⟩; (try first | exact ⟨rfl, _, World.drewN_drewN _ _ _⟩ | exact ⟨rfl, _, Eq.trans (World.drewN_drewN _ _ _) (congrArg (World.drewN _) (Nat.add_assoc _ _ _))⟩))); go_upto_region 2 with (first | (go_at_call 68; (with_reducible refine (num_Take.calls k a0 t458 t459 t460 _ A2.out).mono ?_); rintro e w' ⟨rfl, ⟨nd, rfl⟩⟩; (try first | exact ⟨rfl, _, World.drewN_drewN _ _ _⟩ | exact ⟨rfl, _, Eq.trans (World.drewN_drewN _ _ _) (congrArg (World.drewN _) (Nat.add_assoc _ _ _))⟩))))
  (try simp only [Act.put, List.setIfInBounds_toArray, List.set_cons_zero, List.set_cons_succ])
  go_cut [21] (fun v21 wc => ∃ (kq : Nat) (x21_2 : Bool), v21 = .bool x21_2 ∧ Aside0 (label_Take.j0 kq t458 t459 x21_2 = some (r1, r2, r3)) ∧ Aside0 (kq ≤ k) ∧ Aside0 (Below w.heap.size w wc))
  case first =>
    have H := HC3.out
    clear HC3
    by_cases c4 : t460 = 0
    · rw [if_pos c4] at H
      have c4b0 : (t460 == 0) = true := beq_iff_eq.mpr c4
      have c4b1 : (t460 != 0) = false := bne_eq_false_iff_eq.mpr c4
      clear c4
      (first | rw [c4b0] | (simp only [i64_w, i32_w]; rw [c4b0]) | skip)
      have H' := Aside0.mk H
      clear H
      go_wp2
      repeat (go_quiet (fail); try go_wp2)
      go_meet
      case rel => exact ⟨_, (decide (t458 > 8)), zx31_11, H', ⟨by first | omega | exact Nat.le_refl _⟩, ⟨by repeat (first | (with_reducible first | exact HB.out | apply below_alloc | apply pw_below_drewN | apply below_drew1) | exact HB.out)⟩⟩
    · rw [if_neg c4] at H
      have c4b0 : (t460 == 0) = false := beq_eq_false_iff_ne.mpr c4
      have c4b1 : (t460 != 0) = true := bne_iff_ne.mpr c4
      (first | rw [c4b0] | (simp only [i64_w, i32_w]; rw [c4b0]) | skip)
      have H' := Aside0.mk H
      clear H
      go_wp2
      repeat (go_quiet (fail); try go_wp2)
      go_meet
      case rel => exact ⟨_, (true), zx31_11, H', ⟨by first | omega | exact Nat.le_refl _⟩, ⟨by repeat (first | (with_reducible first | exact HB.out | apply below_alloc | apply pw_below_drewN | apply below_drew1) | exact HB.out)⟩⟩
  case rest =>
    clear HC3
    try clear p2
    try clear c4
    try clear c4b0
    try clear c4b1
    obtain ⟨kq, x21_2, rfl, HA, HJ2, HB⟩ := hcut
    cases kq with
    | zero => exact absurd HA.out (by simp [label_Take.j0])
    | succ kj2 =>
      have H := HA.out
      clear HA
      simp only [label_Take.j0] at H
      by_cases c5 : x21_2 = true
      · subst c5
        have H1 : (some (([] : List (S52)), (⟨#[]⟩ : ByteArray), 2)) = some (r1, r2, r3) := by rw [if_pos rfl] at H; exact H
        clear H
        have H := H1
        clear H1
        simp only [Option.some.injEq, Prod.mk.injEq] at H
        obtain ⟨rfl, rfl, rfl⟩ := H
        go_wp2
        repeat (go_quiet (fail); try go_wp2)
        go_ret3
        exact ⟨_, by first | rfl | (simp [errW_none, errW_some] <;> rfl) | (simp [*, errW_none, errW_some] <;> rfl), by first | exact Kd.R_nil _ _ _ _ _ | exact Kd.N_nil _ _ _ _ _ | exact Kd.V_nil _ _ _ _ _ | exact Kd.Q_nil _ _ _ _ _ | exact Kd.S_nil _ _ _ _ _, by repeat (first | (with_reducible first | exact HB.out | apply below_alloc | apply pw_below_drewN | apply below_drew1) | exact HB.out)⟩
      · replace c5 := Bool.eq_false_iff.mpr c5
        subst c5
        have H1 : (label_Take.l0 kj2 t459 ([] : List (S52)) t458 0) = some (r1, r2, r3) := by rw [if_neg (show ¬ (false = true) by decide)] at H; exact H
        clear H
        have H := H1
        clear H1
        have H' := Aside0.mk H
        clear H
        go_wp2
        repeat (go_quiet (fail); try go_wp2)
        go_loopg [6, 8, 23] kj2 (fun kq v6 v8 v23 w' => ∃ (x6_2 : ByteArray) (x8_2 : List (S52)) (x23_2 : Int), v6 = .string x6_2 ∧ v23 = .int .u64 x23_2 ∧ Aside0 (label_Take.l0 kq x6_2 x8_2 t458 x23_2 = some (r1, r2, r3)) ∧ Aside0 (kq ≤ kj2) ∧ Aside0 (Kd.R k52 52 w' w.heap.size (fun _ => True) v8 x8_2) ∧ Aside0 (Below w.heap.size w w'))
        case atStart => exact ⟨(t459), (([] : List (S52))), (0), zx31_11, zx31_11, H', ⟨Nat.le_refl _⟩, ⟨by first | exact Kd.R_nil _ _ _ _ _ | exact Kd.N_nil _ _ _ _ _ | exact Kd.V_nil _ _ _ _ _ | exact Kd.Q_nil _ _ _ _ _ | exact Kd.S_nil _ _ _ _ _⟩, ⟨by repeat (first | (with_reducible first | exact HB.out | apply below_alloc | apply pw_below_drewN | apply below_drew1) | exact HB.out)⟩⟩
        case round =>
          clear H'
          try clear p2
          try clear c4
          try clear c4b0
          try clear c4b1
          try clear c5
          try clear p2
          obtain ⟨x6_2, x8_2, x23_2, rfl, rfl, HA, HK2, HO_8, HB⟩ := hrel
          cases gk with
          | zero => exact absurd HA.out (by simp [label_Take.l0])
          | succ k2 =>
            have H := HA.out
            clear HA
            simp only [label_Take.l0] at H
            by_cases c6 : x23_2 < t458
            · rw [if_pos c6] at H
              have c6b0 : decide (x23_2 < t458) = true := decide_eq_true c6
              clear c6
              replace H := Option.bind_eq_some_iff.mp H
              obtain ⟨⟨t463, t464, t465⟩, A70, H⟩ := H
              replace H : (if t465 = 0 then ((num_TakeText.f k2 t464 40).bind fun bt466 => (if bt466.2.2 = 0 then (if (x8_2.length : Int) > 0 then (if 0 ≤ (wrap64 ((x8_2.length : Int) - 1)) then (if (wrap64 ((x8_2.length : Int) - 1)) < (x8_2.length : Int) then (if ((Op.bytesLess (((rd_T52 x8_2 (wrap64 ((x8_2.length : Int) - 1))).f0).toList) t463.toList) = true) then (if x8_2.length < 4398046511104 then (label_Take.l0 k2 bt466.2.1 (x8_2 ++ [(⟨t463, bt466.1⟩ : S52)]) t458 (IntKind.u64.wrap (x23_2 + 1))) else (none)) else (some (([] : List (S52)), (⟨#[]⟩ : ByteArray), 2))) else (none)) else (none)) else (if x8_2.length < 4398046511104 then (label_Take.l0 k2 bt466.2.1 (x8_2 ++ [(⟨t463, bt466.1⟩ : S52)]) t458 (IntKind.u64.wrap (x23_2 + 1))) else (none))) else (some (([] : List (S52)), (⟨#[]⟩ : ByteArray), 2)))) else (some (([] : List (S52)), (⟨#[]⟩ : ByteArray), 2))) = some (r1, r2, r3) := H
              have A7 := Aside0.mk A70
              clear A70
              by_cases c8 : t465 = 0
              · rw [if_pos c8] at H
                have c8b0 : (t465 == 0) = true := beq_iff_eq.mpr c8
                have c8b1 : (t465 != 0) = false := bne_eq_false_iff_eq.mpr c8
                clear c8
                replace H := Option.bind_eq_some_iff.mp H
                obtain ⟨⟨t466, t467, t468⟩, A90, H⟩ := H
                replace H : (if t468 = 0 then (if (x8_2.length : Int) > 0 then (if 0 ≤ (wrap64 ((x8_2.length : Int) - 1)) then (if (wrap64 ((x8_2.length : Int) - 1)) < (x8_2.length : Int) then (if ((Op.bytesLess (((rd_T52 x8_2 (wrap64 ((x8_2.length : Int) - 1))).f0).toList) t463.toList) = true) then (if x8_2.length < 4398046511104 then (label_Take.l0 k2 t467 (x8_2 ++ [(⟨t463, t466⟩ : S52)]) t458 (IntKind.u64.wrap (x23_2 + 1))) else (none)) else (some (([] : List (S52)), (⟨#[]⟩ : ByteArray), 2))) else (none)) else (none)) else (if x8_2.length < 4398046511104 then (label_Take.l0 k2 t467 (x8_2 ++ [(⟨t463, t466⟩ : S52)]) t458 (IntKind.u64.wrap (x23_2 + 1))) else (none))) else (some (([] : List (S52)), (⟨#[]⟩ : ByteArray), 2))) = some (r1, r2, r3) := H
                have A9 := Aside0.mk A90
                clear A90
                by_cases c10 : t468 = 0
                · rw [if_pos c10] at H
                  have c10b0 : (t468 == 0) = true := beq_iff_eq.mpr c10
                  have c10b1 : (t468 != 0) = false := bne_eq_false_iff_eq.mpr c10
                  clear c10
                  by_cases c11 : (x8_2.length : Int) > 0
                  · rw [if_pos c11] at H
                    have c11b0 : decide (0 < (x8_2.length : Int)) = true := decide_eq_true c11
                    have c11b1 : decide (0 < x8_2.length) = true := decide_eq_true (by omega)
                    clear c11
                    obtain ⟨ji12, hji12⟩ : ∃ j_ : Int, (wrap64 ((x8_2.length : Int) - 1)) = j_ := ⟨_, rfl⟩
                    replace H : (if 0 ≤ (ji12) then (if (ji12) < (x8_2.length : Int) then (if ((Op.bytesLess (((rd_T52 x8_2 (ji12)).f0).toList) t463.toList) = true) then (if x8_2.length < 4398046511104 then (label_Take.l0 k2 t467 (x8_2 ++ [(⟨t463, t466⟩ : S52)]) t458 (IntKind.u64.wrap (x23_2 + 1))) else (none)) else (some (([] : List (S52)), (⟨#[]⟩ : ByteArray), 2))) else (none)) else (none)) = some (r1, r2, r3) := by first | (rw [hji12] at H; exact H) | (simp only [hji12] at H ⊢; exact H)
                    (try rw [hji12] at A7)
                    (try rw [hji12] at A9)
                    have hji12w : (IntKind.i64.wrap ((x8_2.length : Int) - 1)) = ji12 := (i64_w _).trans hji12
                    by_cases c13 : 0 ≤ (ji12)
                    · rw [if_pos c13] at H
                      have c13b0 : decide (0 ≤ (ji12)) = true := decide_eq_true c13
                      clear c13
                      by_cases c14 : (ji12) < (x8_2.length : Int)
                      · rw [if_pos c14] at H
                        have c14b0 : decide ((ji12) < (x8_2.length : Int)) = true := decide_eq_true c14
                        clear c14
                        by_cases c15 : ((Op.bytesLess (((rd_T52 x8_2 (ji12)).f0).toList) t463.toList) = true)
                        · rw [if_pos c15] at H
                          have c15b0 : (Op.bytesLess (((rd_T52 x8_2 (ji12)).f0).toList) t463.toList) = true := c15
                          clear c15
                          by_cases c16 : x8_2.length < 4398046511104
                          · rw [if_pos c16] at H
                            have LMc16 := Aside0.mk c16
                            clear c16
                            obtain ⟨y470, hy470⟩ : ∃ y_ : List (S52), y_ = (x8_2 ++ [(⟨t463, t466⟩ : S52)]) := ⟨_, rfl⟩
                            replace H : (label_Take.l0 k2 t467 y470 t458 (IntKind.u64.wrap (x23_2 + 1))) = some (r1, r2, r3) := by first | (rw [hy470]; with_reducible exact H) | (have H2_ := (Option.bind_some _ _).symm.trans H; rw [hy470]; with_reducible exact H2_) | (have H2_ := (Option.bind_some _ _).symm.trans H; with_reducible exact H2_) | with_reducible exact H | (rw [hy470]; exact H) | exact H
                            have Ny470 := Aside0.mk hy470
                            clear hy470
                            have H' := Aside0.mk H
                            clear H
                            go_wp2_with (first | ((with_reducible refine gate_dst (N := 9) rfl ?_); (try (refine gate_guard (by rfl) ?_; dsimp only)); refine box_event ?hg (N := 9) ?hd (cs := #[.string (⟨#[]⟩ : ByteArray), .string (⟨#[]⟩ : ByteArray)]) (t := 52) ?hr ?_; (case hd => rfl); (case hg => rfl); (case hr => first | (go_simp; done) | (go_simp; rfl)); intro gb462 hg w17 hbox hb; have n0_ := Aside0.mk (Kd.R_below (Kd.R_elderB zx31_2 gb462 (Nat.le_of_eq hg.symm)) hb); have n1_ := Aside0.mk (below_step zx31_0 hb); have n2_ := Aside0.mk (hbox); have n3_ := Aside0.mk ((by rw [hg]; exact (below_size zx31_0) : w.heap.size ≤ gb462)); have n4_ := Aside0.mk ((by rw [hg]; exact (below_size zx31_0) : w.heap.size ≤ gb462)); clear HO_8; clear HB; have HO_8 := n0_; have HB := n1_; have BK462 := n2_; have GW462 := n3_; have GE462 := n4_; clear n0_ n1_ n2_ n3_ n4_; clear hb hbox hg) | (go_at_call 69; (with_reducible refine (num_TakeText.calls k2 x6_2 20 t463 t464 t465 _ A7.out).mono ?_); rintro e w18 ⟨rfl, hb⟩; have n0_ := Aside0.mk (Kd.R_below zx31_2 hb); have n1_ := Aside0.mk (blk_below (g := gb462) (o := .cells #[.string (⟨#[]⟩ : ByteArray), .string (⟨#[]⟩ : ByteArray)] 52 (0, 0)) zx31_6 hb); have n2_ := Aside0.mk (below_step zx31_1 hb); clear HO_8; clear BK462; clear HB; have HO_8 := n0_; have BK462 := n1_; have HB := n2_; clear n0_ n1_ n2_; (try clear hb); (try clear hb2); (try clear hk); (try clear hi); have hcz19_0 : w18.cell? ⟨gb462, 0, none⟩ = some (.string (⟨#[]⟩ : ByteArray)) := (blk_cell BK462.out 0).trans rfl; have hcz19_1 : w18.cell? ⟨gb462, 1, none⟩ = some (.string (⟨#[]⟩ : ByteArray)) := (blk_cell BK462.out 1).trans rfl; have hfz19_0 := blk_frozen BK462.out 0; have hfz19_1 := blk_frozen BK462.out 1) | (go_at_call 69; (with_reducible refine (num_TakeText.calls k2 t464 40 t466 t467 t468 _ A9.out).mono ?_); rintro e w20 ⟨rfl, hb⟩; have n0_ := Aside0.mk (Kd.R_below zx31_5 hb); have n1_ := Aside0.mk (blk_below (g := gb462) (o := .cells #[.string t463, .string (⟨#[]⟩ : ByteArray)] 52 (0, 0)) zx31_3 hb); have n2_ := Aside0.mk (below_step zx31_1 hb); clear HO_8; clear BK462; clear HB; have HO_8 := n0_; have BK462 := n1_; have HB := n2_; clear n0_ n1_ n2_; (try clear hb); (try clear hb2); (try clear hk); (try clear hi); have hcz21_0 : w20.cell? ⟨gb462, 0, none⟩ = some (.string t463) := (blk_cell BK462.out 0).trans rfl; have hcz21_1 : w20.cell? ⟨gb462, 1, none⟩ = some (.string (⟨#[]⟩ : ByteArray)) := (blk_cell BK462.out 1).trans rfl; have hfz21_0 := blk_frozen BK462.out 0; have hfz21_1 := blk_frozen BK462.out 1; obtain ⟨Ao22, co22, eo22⟩ := Kd.R_slice HO_8.out; subst eo22; have p469 : 0 ≤ ((ji12) : Int) := of_decide_eq_true zx31_10; have q469 : (ji12) < (x8_2.length : Int) := of_decide_eq_true zx31_10; obtain ⟨ad469, e469, hx469_0, hx469_1⟩ := at_T52 (Kd.R_reads' HO_8.out).2.2 (ji12) p469 q469; cases e469; have hn469_0 : ad469.block ≠ gb462 := Kd.own_blk zx31_9; replace hx469_0 := (cell_far (p := ⟨gb462, 1, none⟩) zx31_7 (.string t466)).trans hx469_0; replace hx469_1 := (cell_far (p := ⟨gb462, 1, none⟩) zx31_7 (.string t466)).trans hx469_1; (try have hy469_0 := fun (n_ : Nat) => (show (((w20.drewN n_).setCell ⟨gb462, 1, none⟩ (.string t466))).cell? _ = some _ from hx469_0)); (try have hy469_1 := fun (n_ : Nat) => (show (((w20.drewN n_).setCell ⟨gb462, 1, none⟩ (.string t466))).cell? _ = some _ from hx469_1)); clear hn469_0; replace p469 := eq_true p469; replace q469 := eq_true q469) | ((with_reducible refine gate_builtin (b := .append) (xs := #[.tmp 60, .tmp 62]) rfl ?_); (try (refine gate_guard (by rfl) ?_; dsimp only)); at_builtin; refine Kd.R_append k52 (w0 := w) w.heap.size rfl (.tmp 60) (.tmp 62) 22 52 (.agg #[(.string ⟨#[]⟩), (.string ⟨#[]⟩)]) 32 rfl Tryz.underlying22 info52 rfl (by decide) (by omega) (.slice (some ad469) x8_2.length co22) x8_2 (⟨t463, t466⟩ : S52) [.string t463, .string t466] (fun k_ => k_ ≠ gb462) (fun _ => False) rfl (by first | (go_simp; done) | (go_simp; rfl)) ?aP (fun _ hk => hk.elim) ?aF ?aO ?aB ?aS ?aL ?_; (case aP => exact k52_mkM _ _ _ (⟨t463, t466⟩ : S52)); (case aB => exact zx31_1); (case aF => exact (fun k_ hk => Kd.freshB (g := gb462) (o := .cells #[.string t463, .string t466] 52 (0, 0)) zx31_4 k_ hk)); (case aO => exact zx31_8); (case aS => exact (below_size zx31_1)); (case aL => have := LMc16.out; omega); intro v471 w23 ho hb hg hat; rw [← Ny470.out] at ho; have n0_ := Aside0.mk (blk_grown (g := gb462) (o := .cells #[.string t463, .string t466] 52 (0, 0)) zx31_4 hg (Kd.R_away HO_8.out (fun _ hk => hk.2))); have n1_ := Aside0.mk (hb); have n2_ := Aside0.mk (ho); clear BK462; clear HB; clear HO_8; have BK462 := n0_; have HB := n1_; have HO472 := n2_; clear n0_ n1_ n2_; clear ho hb hg hat))
                            repeat (go_quiet (first | ((with_reducible refine gate_dst (N := 9) rfl ?_); (try (refine gate_guard (by rfl) ?_; dsimp only)); refine box_event ?hg (N := 9) ?hd (cs := #[.string (⟨#[]⟩ : ByteArray), .string (⟨#[]⟩ : ByteArray)]) (t := 52) ?hr ?_; (case hd => rfl); (case hg => rfl); (case hr => first | (go_simp; done) | (go_simp; rfl)); intro gb462 hg w17 hbox hb; have n0_ := Aside0.mk (Kd.R_below (Kd.R_elderB zx31_2 gb462 (Nat.le_of_eq hg.symm)) hb); have n1_ := Aside0.mk (below_step zx31_0 hb); have n2_ := Aside0.mk (hbox); have n3_ := Aside0.mk ((by rw [hg]; exact (below_size zx31_0) : w.heap.size ≤ gb462)); have n4_ := Aside0.mk ((by rw [hg]; exact (below_size zx31_0) : w.heap.size ≤ gb462)); clear HO_8; clear HB; have HO_8 := n0_; have HB := n1_; have BK462 := n2_; have GW462 := n3_; have GE462 := n4_; clear n0_ n1_ n2_ n3_ n4_; clear hb hbox hg) | (go_at_call 69; (with_reducible refine (num_TakeText.calls k2 x6_2 20 t463 t464 t465 _ A7.out).mono ?_); rintro e w18 ⟨rfl, hb⟩; have n0_ := Aside0.mk (Kd.R_below zx31_2 hb); have n1_ := Aside0.mk (blk_below (g := gb462) (o := .cells #[.string (⟨#[]⟩ : ByteArray), .string (⟨#[]⟩ : ByteArray)] 52 (0, 0)) zx31_6 hb); have n2_ := Aside0.mk (below_step zx31_1 hb); clear HO_8; clear BK462; clear HB; have HO_8 := n0_; have BK462 := n1_; have HB := n2_; clear n0_ n1_ n2_; (try clear hb); (try clear hb2); (try clear hk); (try clear hi); have hcz19_0 : w18.cell? ⟨gb462, 0, none⟩ = some (.string (⟨#[]⟩ : ByteArray)) := (blk_cell BK462.out 0).trans rfl; have hcz19_1 : w18.cell? ⟨gb462, 1, none⟩ = some (.string (⟨#[]⟩ : ByteArray)) := (blk_cell BK462.out 1).trans rfl; have hfz19_0 := blk_frozen BK462.out 0; have hfz19_1 := blk_frozen BK462.out 1) | (go_at_call 69; (with_reducible refine (num_TakeText.calls k2 t464 40 t466 t467 t468 _ A9.out).mono ?_); rintro e w20 ⟨rfl, hb⟩; have n0_ := Aside0.mk (Kd.R_below zx31_5 hb); have n1_ := Aside0.mk (blk_below (g := gb462) (o := .cells #[.string t463, .string (⟨#[]⟩ : ByteArray)] 52 (0, 0)) zx31_3 hb); have n2_ := Aside0.mk (below_step zx31_1 hb); clear HO_8; clear BK462; clear HB; have HO_8 := n0_; have BK462 := n1_; have HB := n2_; clear n0_ n1_ n2_; (try clear hb); (try clear hb2); (try clear hk); (try clear hi); have hcz21_0 : w20.cell? ⟨gb462, 0, none⟩ = some (.string t463) := (blk_cell BK462.out 0).trans rfl; have hcz21_1 : w20.cell? ⟨gb462, 1, none⟩ = some (.string (⟨#[]⟩ : ByteArray)) := (blk_cell BK462.out 1).trans rfl; have hfz21_0 := blk_frozen BK462.out 0; have hfz21_1 := blk_frozen BK462.out 1; obtain ⟨Ao22, co22, eo22⟩ := Kd.R_slice HO_8.out; subst eo22; have p469 : 0 ≤ ((ji12) : Int) := of_decide_eq_true zx31_10; have q469 : (ji12) < (x8_2.length : Int) := of_decide_eq_true zx31_10; obtain ⟨ad469, e469, hx469_0, hx469_1⟩ := at_T52 (Kd.R_reads' HO_8.out).2.2 (ji12) p469 q469; cases e469; have hn469_0 : ad469.block ≠ gb462 := Kd.own_blk zx31_9; replace hx469_0 := (cell_far (p := ⟨gb462, 1, none⟩) zx31_7 (.string t466)).trans hx469_0; replace hx469_1 := (cell_far (p := ⟨gb462, 1, none⟩) zx31_7 (.string t466)).trans hx469_1; (try have hy469_0 := fun (n_ : Nat) => (show (((w20.drewN n_).setCell ⟨gb462, 1, none⟩ (.string t466))).cell? _ = some _ from hx469_0)); (try have hy469_1 := fun (n_ : Nat) => (show (((w20.drewN n_).setCell ⟨gb462, 1, none⟩ (.string t466))).cell? _ = some _ from hx469_1)); clear hn469_0; replace p469 := eq_true p469; replace q469 := eq_true q469) | ((with_reducible refine gate_builtin (b := .append) (xs := #[.tmp 60, .tmp 62]) rfl ?_); (try (refine gate_guard (by rfl) ?_; dsimp only)); at_builtin; refine Kd.R_append k52 (w0 := w) w.heap.size rfl (.tmp 60) (.tmp 62) 22 52 (.agg #[(.string ⟨#[]⟩), (.string ⟨#[]⟩)]) 32 rfl Tryz.underlying22 info52 rfl (by decide) (by omega) (.slice (some ad469) x8_2.length co22) x8_2 (⟨t463, t466⟩ : S52) [.string t463, .string t466] (fun k_ => k_ ≠ gb462) (fun _ => False) rfl (by first | (go_simp; done) | (go_simp; rfl)) ?aP (fun _ hk => hk.elim) ?aF ?aO ?aB ?aS ?aL ?_; (case aP => exact k52_mkM _ _ _ (⟨t463, t466⟩ : S52)); (case aB => exact zx31_1); (case aF => exact (fun k_ hk => Kd.freshB (g := gb462) (o := .cells #[.string t463, .string t466] 52 (0, 0)) zx31_4 k_ hk)); (case aO => exact zx31_8); (case aS => exact (below_size zx31_1)); (case aL => have := LMc16.out; omega); intro v471 w23 ho hb hg hat; rw [← Ny470.out] at ho; have n0_ := Aside0.mk (blk_grown (g := gb462) (o := .cells #[.string t463, .string t466] 52 (0, 0)) zx31_4 hg (Kd.R_away HO_8.out (fun _ hk => hk.2))); have n1_ := Aside0.mk (hb); have n2_ := Aside0.mk (ho); clear BK462; clear HB; clear HO_8; have BK462 := n0_; have HB := n1_; have HO472 := n2_; clear n0_ n1_ n2_; clear ho hb hg hat)); try go_wp2_with (first | ((with_reducible refine gate_dst (N := 9) rfl ?_); (try (refine gate_guard (by rfl) ?_; dsimp only)); refine box_event ?hg (N := 9) ?hd (cs := #[.string (⟨#[]⟩ : ByteArray), .string (⟨#[]⟩ : ByteArray)]) (t := 52) ?hr ?_; (case hd => rfl); (case hg => rfl); (case hr => first | (go_simp; done) | (go_simp; rfl)); intro gb462 hg w17 hbox hb; have n0_ := Aside0.mk (Kd.R_below (Kd.R_elderB zx31_2 gb462 (Nat.le_of_eq hg.symm)) hb); have n1_ := Aside0.mk (below_step zx31_0 hb); have n2_ := Aside0.mk (hbox); have n3_ := Aside0.mk ((by rw [hg]; exact (below_size zx31_0) : w.heap.size ≤ gb462)); have n4_ := Aside0.mk ((by rw [hg]; exact (below_size zx31_0) : w.heap.size ≤ gb462)); clear HO_8; clear HB; have HO_8 := n0_; have HB := n1_; have BK462 := n2_; have GW462 := n3_; have GE462 := n4_; clear n0_ n1_ n2_ n3_ n4_; clear hb hbox hg) | (go_at_call 69; (with_reducible refine (num_TakeText.calls k2 x6_2 20 t463 t464 t465 _ A7.out).mono ?_); rintro e w18 ⟨rfl, hb⟩; have n0_ := Aside0.mk (Kd.R_below zx31_2 hb); have n1_ := Aside0.mk (blk_below (g := gb462) (o := .cells #[.string (⟨#[]⟩ : ByteArray), .string (⟨#[]⟩ : ByteArray)] 52 (0, 0)) zx31_6 hb); have n2_ := Aside0.mk (below_step zx31_1 hb); clear HO_8; clear BK462; clear HB; have HO_8 := n0_; have BK462 := n1_; have HB := n2_; clear n0_ n1_ n2_; (try clear hb); (try clear hb2); (try clear hk); (try clear hi); have hcz19_0 : w18.cell? ⟨gb462, 0, none⟩ = some (.string (⟨#[]⟩ : ByteArray)) := (blk_cell BK462.out 0).trans rfl; have hcz19_1 : w18.cell? ⟨gb462, 1, none⟩ = some (.string (⟨#[]⟩ : ByteArray)) := (blk_cell BK462.out 1).trans rfl; have hfz19_0 := blk_frozen BK462.out 0; have hfz19_1 := blk_frozen BK462.out 1) | (go_at_call 69; (with_reducible refine (num_TakeText.calls k2 t464 40 t466 t467 t468 _ A9.out).mono ?_); rintro e w20 ⟨rfl, hb⟩; have n0_ := Aside0.mk (Kd.R_below zx31_5 hb); have n1_ := Aside0.mk (blk_below (g := gb462) (o := .cells #[.string t463, .string (⟨#[]⟩ : ByteArray)] 52 (0, 0)) zx31_3 hb); have n2_ := Aside0.mk (below_step zx31_1 hb); clear HO_8; clear BK462; clear HB; have HO_8 := n0_; have BK462 := n1_; have HB := n2_; clear n0_ n1_ n2_; (try clear hb); (try clear hb2); (try clear hk); (try clear hi); have hcz21_0 : w20.cell? ⟨gb462, 0, none⟩ = some (.string t463) := (blk_cell BK462.out 0).trans rfl; have hcz21_1 : w20.cell? ⟨gb462, 1, none⟩ = some (.string (⟨#[]⟩ : ByteArray)) := (blk_cell BK462.out 1).trans rfl; have hfz21_0 := blk_frozen BK462.out 0; have hfz21_1 := blk_frozen BK462.out 1; obtain ⟨Ao22, co22, eo22⟩ := Kd.R_slice HO_8.out; subst eo22; have p469 : 0 ≤ ((ji12) : Int) := of_decide_eq_true zx31_10; have q469 : (ji12) < (x8_2.length : Int) := of_decide_eq_true zx31_10; obtain ⟨ad469, e469, hx469_0, hx469_1⟩ := at_T52 (Kd.R_reads' HO_8.out).2.2 (ji12) p469 q469; cases e469; have hn469_0 : ad469.block ≠ gb462 := Kd.own_blk zx31_9; replace hx469_0 := (cell_far (p := ⟨gb462, 1, none⟩) zx31_7 (.string t466)).trans hx469_0; replace hx469_1 := (cell_far (p := ⟨gb462, 1, none⟩) zx31_7 (.string t466)).trans hx469_1; (try have hy469_0 := fun (n_ : Nat) => (show (((w20.drewN n_).setCell ⟨gb462, 1, none⟩ (.string t466))).cell? _ = some _ from hx469_0)); (try have hy469_1 := fun (n_ : Nat) => (show (((w20.drewN n_).setCell ⟨gb462, 1, none⟩ (.string t466))).cell? _ = some _ from hx469_1)); clear hn469_0; replace p469 := eq_true p469; replace q469 := eq_true q469) | ((with_reducible refine gate_builtin (b := .append) (xs := #[.tmp 60, .tmp 62]) rfl ?_); (try (refine gate_guard (by rfl) ?_; dsimp only)); at_builtin; refine Kd.R_append k52 (w0 := w) w.heap.size rfl (.tmp 60) (.tmp 62) 22 52 (.agg #[(.string ⟨#[]⟩), (.string ⟨#[]⟩)]) 32 rfl Tryz.underlying22 info52 rfl (by decide) (by omega) (.slice (some ad469) x8_2.length co22) x8_2 (⟨t463, t466⟩ : S52) [.string t463, .string t466] (fun k_ => k_ ≠ gb462) (fun _ => False) rfl (by first | (go_simp; done) | (go_simp; rfl)) ?aP (fun _ hk => hk.elim) ?aF ?aO ?aB ?aS ?aL ?_; (case aP => exact k52_mkM _ _ _ (⟨t463, t466⟩ : S52)); (case aB => exact zx31_1); (case aF => exact (fun k_ hk => Kd.freshB (g := gb462) (o := .cells #[.string t463, .string t466] 52 (0, 0)) zx31_4 k_ hk)); (case aO => exact zx31_8); (case aS => exact (below_size zx31_1)); (case aL => have := LMc16.out; omega); intro v471 w23 ho hb hg hat; rw [← Ny470.out] at ho; have n0_ := Aside0.mk (blk_grown (g := gb462) (o := .cells #[.string t463, .string t466] 52 (0, 0)) zx31_4 hg (Kd.R_away HO_8.out (fun _ hk => hk.2))); have n1_ := Aside0.mk (hb); have n2_ := Aside0.mk (ho); clear BK462; clear HB; clear HO_8; have BK462 := n0_; have HB := n1_; have HO472 := n2_; clear n0_ n1_ n2_; clear ho hb hg hat)))
                            go_roundg k2
                            case measure => have := HJ2.out; have := HK2.out; omega
                            case rel => exact ⟨(t467), (y470), (IntKind.u64.wrap (x23_2 + 1)), zx31_11, zx31_11, H', ⟨by have := HJ2.out; have := HK2.out; omega⟩, ⟨by (with_reducible repeat (first | apply Kd.R_alloc | apply Kd.R_drewN | apply Kd.R_drew)); exact Kd.R_mono HO472.out (fun _ hk => trivial)⟩, ⟨by repeat (first | (with_reducible first | exact HB.out | apply below_alloc | apply pw_below_drewN | apply below_drew1 | refine below_set ?_ GE462.out) | exact HB.out)⟩⟩
                          · rw [if_neg c16] at H
                            exact absurd H (by simp)
                        · rw [if_neg c15] at H
                          have c15b0 : (Op.bytesLess (((rd_T52 x8_2 (ji12)).f0).toList) t463.toList) = false := by simpa using c15
                          clear c15
                          simp only [Option.some.injEq, Prod.mk.injEq] at H
                          obtain ⟨rfl, rfl, rfl⟩ := H
                          go_wp2_with (first | ((with_reducible refine gate_dst (N := 9) rfl ?_); (try (refine gate_guard (by rfl) ?_; dsimp only)); refine box_event ?hg (N := 9) ?hd (cs := #[.string (⟨#[]⟩ : ByteArray), .string (⟨#[]⟩ : ByteArray)]) (t := 52) ?hr ?_; (case hd => rfl); (case hg => rfl); (case hr => first | (go_simp; done) | (go_simp; rfl)); intro gb462 hg w24 hbox hb; have n0_ := Aside0.mk (Kd.R_below (Kd.R_elderB zx31_2 gb462 (Nat.le_of_eq hg.symm)) hb); have n1_ := Aside0.mk (below_step zx31_0 hb); have n2_ := Aside0.mk (hbox); have n3_ := Aside0.mk ((by rw [hg]; exact (below_size zx31_0) : w.heap.size ≤ gb462)); have n4_ := Aside0.mk ((by rw [hg]; exact (below_size zx31_0) : w.heap.size ≤ gb462)); clear HO_8; clear HB; have HO_8 := n0_; have HB := n1_; have BK462 := n2_; have GW462 := n3_; have GE462 := n4_; clear n0_ n1_ n2_ n3_ n4_; clear hb hbox hg) | (go_at_call 69; (with_reducible refine (num_TakeText.calls k2 x6_2 20 t463 t464 t465 _ A7.out).mono ?_); rintro e w25 ⟨rfl, hb⟩; have n0_ := Aside0.mk (Kd.R_below zx31_2 hb); have n1_ := Aside0.mk (blk_below (g := gb462) (o := .cells #[.string (⟨#[]⟩ : ByteArray), .string (⟨#[]⟩ : ByteArray)] 52 (0, 0)) zx31_6 hb); have n2_ := Aside0.mk (below_step zx31_1 hb); clear HO_8; clear BK462; clear HB; have HO_8 := n0_; have BK462 := n1_; have HB := n2_; clear n0_ n1_ n2_; (try clear hb); (try clear hb2); (try clear hk); (try clear hi); have hcz26_0 : w25.cell? ⟨gb462, 0, none⟩ = some (.string (⟨#[]⟩ : ByteArray)) := (blk_cell BK462.out 0).trans rfl; have hcz26_1 : w25.cell? ⟨gb462, 1, none⟩ = some (.string (⟨#[]⟩ : ByteArray)) := (blk_cell BK462.out 1).trans rfl; have hfz26_0 := blk_frozen BK462.out 0; have hfz26_1 := blk_frozen BK462.out 1) | (go_at_call 69; (with_reducible refine (num_TakeText.calls k2 t464 40 t466 t467 t468 _ A9.out).mono ?_); rintro e w27 ⟨rfl, hb⟩; have n0_ := Aside0.mk (Kd.R_below zx31_5 hb); have n1_ := Aside0.mk (blk_below (g := gb462) (o := .cells #[.string t463, .string (⟨#[]⟩ : ByteArray)] 52 (0, 0)) zx31_3 hb); have n2_ := Aside0.mk (below_step zx31_1 hb); clear HO_8; clear BK462; clear HB; have HO_8 := n0_; have BK462 := n1_; have HB := n2_; clear n0_ n1_ n2_; (try clear hb); (try clear hb2); (try clear hk); (try clear hi); have hcz28_0 : w27.cell? ⟨gb462, 0, none⟩ = some (.string t463) := (blk_cell BK462.out 0).trans rfl; have hcz28_1 : w27.cell? ⟨gb462, 1, none⟩ = some (.string (⟨#[]⟩ : ByteArray)) := (blk_cell BK462.out 1).trans rfl; have hfz28_0 := blk_frozen BK462.out 0; have hfz28_1 := blk_frozen BK462.out 1; obtain ⟨Ao29, co29, eo29⟩ := Kd.R_slice HO_8.out; subst eo29; have p469 : 0 ≤ ((ji12) : Int) := of_decide_eq_true zx31_10; have q469 : (ji12) < (x8_2.length : Int) := of_decide_eq_true zx31_10; obtain ⟨ad469, e469, hx469_0, hx469_1⟩ := at_T52 (Kd.R_reads' HO_8.out).2.2 (ji12) p469 q469; cases e469; have hn469_0 : ad469.block ≠ gb462 := Kd.own_blk zx31_9; replace hx469_0 := (cell_far (p := ⟨gb462, 1, none⟩) zx31_7 (.string t466)).trans hx469_0; replace hx469_1 := (cell_far (p := ⟨gb462, 1, none⟩) zx31_7 (.string t466)).trans hx469_1; (try have hy469_0 := fun (n_ : Nat) => (show (((w27.drewN n_).setCell ⟨gb462, 1, none⟩ (.string t466))).cell? _ = some _ from hx469_0)); (try have hy469_1 := fun (n_ : Nat) => (show (((w27.drewN n_).setCell ⟨gb462, 1, none⟩ (.string t466))).cell? _ = some _ from hx469_1)); clear hn469_0; replace p469 := eq_true p469; replace q469 := eq_true q469))
                          repeat (go_quiet (first | ((with_reducible refine gate_dst (N := 9) rfl ?_); (try (refine gate_guard (by rfl) ?_; dsimp only)); refine box_event ?hg (N := 9) ?hd (cs := #[.string (⟨#[]⟩ : ByteArray), .string (⟨#[]⟩ : ByteArray)]) (t := 52) ?hr ?_; (case hd => rfl); (case hg => rfl); (case hr => first | (go_simp; done) | (go_simp; rfl)); intro gb462 hg w24 hbox hb; have n0_ := Aside0.mk (Kd.R_below (Kd.R_elderB zx31_2 gb462 (Nat.le_of_eq hg.symm)) hb); have n1_ := Aside0.mk (below_step zx31_0 hb); have n2_ := Aside0.mk (hbox); have n3_ := Aside0.mk ((by rw [hg]; exact (below_size zx31_0) : w.heap.size ≤ gb462)); have n4_ := Aside0.mk ((by rw [hg]; exact (below_size zx31_0) : w.heap.size ≤ gb462)); clear HO_8; clear HB; have HO_8 := n0_; have HB := n1_; have BK462 := n2_; have GW462 := n3_; have GE462 := n4_; clear n0_ n1_ n2_ n3_ n4_; clear hb hbox hg) | (go_at_call 69; (with_reducible refine (num_TakeText.calls k2 x6_2 20 t463 t464 t465 _ A7.out).mono ?_); rintro e w25 ⟨rfl, hb⟩; have n0_ := Aside0.mk (Kd.R_below zx31_2 hb); have n1_ := Aside0.mk (blk_below (g := gb462) (o := .cells #[.string (⟨#[]⟩ : ByteArray), .string (⟨#[]⟩ : ByteArray)] 52 (0, 0)) zx31_6 hb); have n2_ := Aside0.mk (below_step zx31_1 hb); clear HO_8; clear BK462; clear HB; have HO_8 := n0_; have BK462 := n1_; have HB := n2_; clear n0_ n1_ n2_; (try clear hb); (try clear hb2); (try clear hk); (try clear hi); have hcz26_0 : w25.cell? ⟨gb462, 0, none⟩ = some (.string (⟨#[]⟩ : ByteArray)) := (blk_cell BK462.out 0).trans rfl; have hcz26_1 : w25.cell? ⟨gb462, 1, none⟩ = some (.string (⟨#[]⟩ : ByteArray)) := (blk_cell BK462.out 1).trans rfl; have hfz26_0 := blk_frozen BK462.out 0; have hfz26_1 := blk_frozen BK462.out 1) | (go_at_call 69; (with_reducible refine (num_TakeText.calls k2 t464 40 t466 t467 t468 _ A9.out).mono ?_); rintro e w27 ⟨rfl, hb⟩; have n0_ := Aside0.mk (Kd.R_below zx31_5 hb); have n1_ := Aside0.mk (blk_below (g := gb462) (o := .cells #[.string t463, .string (⟨#[]⟩ : ByteArray)] 52 (0, 0)) zx31_3 hb); have n2_ := Aside0.mk (below_step zx31_1 hb); clear HO_8; clear BK462; clear HB; have HO_8 := n0_; have BK462 := n1_; have HB := n2_; clear n0_ n1_ n2_; (try clear hb); (try clear hb2); (try clear hk); (try clear hi); have hcz28_0 : w27.cell? ⟨gb462, 0, none⟩ = some (.string t463) := (blk_cell BK462.out 0).trans rfl; have hcz28_1 : w27.cell? ⟨gb462, 1, none⟩ = some (.string (⟨#[]⟩ : ByteArray)) := (blk_cell BK462.out 1).trans rfl; have hfz28_0 := blk_frozen BK462.out 0; have hfz28_1 := blk_frozen BK462.out 1; obtain ⟨Ao29, co29, eo29⟩ := Kd.R_slice HO_8.out; subst eo29; have p469 : 0 ≤ ((ji12) : Int) := of_decide_eq_true zx31_10; have q469 : (ji12) < (x8_2.length : Int) := of_decide_eq_true zx31_10; obtain ⟨ad469, e469, hx469_0, hx469_1⟩ := at_T52 (Kd.R_reads' HO_8.out).2.2 (ji12) p469 q469; cases e469; have hn469_0 : ad469.block ≠ gb462 := Kd.own_blk zx31_9; replace hx469_0 := (cell_far (p := ⟨gb462, 1, none⟩) zx31_7 (.string t466)).trans hx469_0; replace hx469_1 := (cell_far (p := ⟨gb462, 1, none⟩) zx31_7 (.string t466)).trans hx469_1; (try have hy469_0 := fun (n_ : Nat) => (show (((w27.drewN n_).setCell ⟨gb462, 1, none⟩ (.string t466))).cell? _ = some _ from hx469_0)); (try have hy469_1 := fun (n_ : Nat) => (show (((w27.drewN n_).setCell ⟨gb462, 1, none⟩ (.string t466))).cell? _ = some _ from hx469_1)); clear hn469_0; replace p469 := eq_true p469; replace q469 := eq_true q469)); try go_wp2_with (first | ((with_reducible refine gate_dst (N := 9) rfl ?_); (try (refine gate_guard (by rfl) ?_; dsimp only)); refine box_event ?hg (N := 9) ?hd (cs := #[.string (⟨#[]⟩ : ByteArray), .string (⟨#[]⟩ : ByteArray)]) (t := 52) ?hr ?_; (case hd => rfl); (case hg => rfl); (case hr => first | (go_simp; done) | (go_simp; rfl)); intro gb462 hg w24 hbox hb; have n0_ := Aside0.mk (Kd.R_below (Kd.R_elderB zx31_2 gb462 (Nat.le_of_eq hg.symm)) hb); have n1_ := Aside0.mk (below_step zx31_0 hb); have n2_ := Aside0.mk (hbox); have n3_ := Aside0.mk ((by rw [hg]; exact (below_size zx31_0) : w.heap.size ≤ gb462)); have n4_ := Aside0.mk ((by rw [hg]; exact (below_size zx31_0) : w.heap.size ≤ gb462)); clear HO_8; clear HB; have HO_8 := n0_; have HB := n1_; have BK462 := n2_; have GW462 := n3_; have GE462 := n4_; clear n0_ n1_ n2_ n3_ n4_; clear hb hbox hg) | (go_at_call 69; (with_reducible refine (num_TakeText.calls k2 x6_2 20 t463 t464 t465 _ A7.out).mono ?_); rintro e w25 ⟨rfl, hb⟩; have n0_ := Aside0.mk (Kd.R_below zx31_2 hb); have n1_ := Aside0.mk (blk_below (g := gb462) (o := .cells #[.string (⟨#[]⟩ : ByteArray), .string (⟨#[]⟩ : ByteArray)] 52 (0, 0)) zx31_6 hb); have n2_ := Aside0.mk (below_step zx31_1 hb); clear HO_8; clear BK462; clear HB; have HO_8 := n0_; have BK462 := n1_; have HB := n2_; clear n0_ n1_ n2_; (try clear hb); (try clear hb2); (try clear hk); (try clear hi); have hcz26_0 : w25.cell? ⟨gb462, 0, none⟩ = some (.string (⟨#[]⟩ : ByteArray)) := (blk_cell BK462.out 0).trans rfl; have hcz26_1 : w25.cell? ⟨gb462, 1, none⟩ = some (.string (⟨#[]⟩ : ByteArray)) := (blk_cell BK462.out 1).trans rfl; have hfz26_0 := blk_frozen BK462.out 0; have hfz26_1 := blk_frozen BK462.out 1) | (go_at_call 69; (with_reducible refine (num_TakeText.calls k2 t464 40 t466 t467 t468 _ A9.out).mono ?_); rintro e w27 ⟨rfl, hb⟩; have n0_ := Aside0.mk (Kd.R_below zx31_5 hb); have n1_ := Aside0.mk (blk_below (g := gb462) (o := .cells #[.string t463, .string (⟨#[]⟩ : ByteArray)] 52 (0, 0)) zx31_3 hb); have n2_ := Aside0.mk (below_step zx31_1 hb); clear HO_8; clear BK462; clear HB; have HO_8 := n0_; have BK462 := n1_; have HB := n2_; clear n0_ n1_ n2_; (try clear hb); (try clear hb2); (try clear hk); (try clear hi); have hcz28_0 : w27.cell? ⟨gb462, 0, none⟩ = some (.string t463) := (blk_cell BK462.out 0).trans rfl; have hcz28_1 : w27.cell? ⟨gb462, 1, none⟩ = some (.string (⟨#[]⟩ : ByteArray)) := (blk_cell BK462.out 1).trans rfl; have hfz28_0 := blk_frozen BK462.out 0; have hfz28_1 := blk_frozen BK462.out 1; obtain ⟨Ao29, co29, eo29⟩ := Kd.R_slice HO_8.out; subst eo29; have p469 : 0 ≤ ((ji12) : Int) := of_decide_eq_true zx31_10; have q469 : (ji12) < (x8_2.length : Int) := of_decide_eq_true zx31_10; obtain ⟨ad469, e469, hx469_0, hx469_1⟩ := at_T52 (Kd.R_reads' HO_8.out).2.2 (ji12) p469 q469; cases e469; have hn469_0 : ad469.block ≠ gb462 := Kd.own_blk zx31_9; replace hx469_0 := (cell_far (p := ⟨gb462, 1, none⟩) zx31_7 (.string t466)).trans hx469_0; replace hx469_1 := (cell_far (p := ⟨gb462, 1, none⟩) zx31_7 (.string t466)).trans hx469_1; (try have hy469_0 := fun (n_ : Nat) => (show (((w27.drewN n_).setCell ⟨gb462, 1, none⟩ (.string t466))).cell? _ = some _ from hx469_0)); (try have hy469_1 := fun (n_ : Nat) => (show (((w27.drewN n_).setCell ⟨gb462, 1, none⟩ (.string t466))).cell? _ = some _ from hx469_1)); clear hn469_0; replace p469 := eq_true p469; replace q469 := eq_true q469)))
                          go_ret3
                          exact ⟨_, by first | rfl | (simp [errW_none, errW_some] <;> rfl) | (simp only [← hji12]; first | rfl | (simp [errW_none, errW_some] <;> rfl)) | (simp [*, errW_none, errW_some] <;> rfl), by first | exact Kd.R_nil _ _ _ _ _ | exact Kd.N_nil _ _ _ _ _ | exact Kd.V_nil _ _ _ _ _ | exact Kd.Q_nil _ _ _ _ _ | exact Kd.S_nil _ _ _ _ _, by repeat (first | (with_reducible first | exact HB.out | apply below_alloc | apply pw_below_drewN | apply below_drew1 | refine below_set ?_ GE462.out) | exact HB.out)⟩
                      · rw [if_neg c14] at H
                        exact absurd H (by simp)
                    · rw [if_neg c13] at H
                      exact absurd H (by simp)
                  · rw [if_neg c11] at H
                    have c11b0 : decide (0 < (x8_2.length : Int)) = false := decide_eq_false c11
                    have c11b1 : decide (0 < x8_2.length) = false := decide_eq_false (by omega)
                    clear c11
                    by_cases c30 : x8_2.length < 4398046511104
                    · rw [if_pos c30] at H
                      have LMc30 := Aside0.mk c30
                      clear c30
                      obtain ⟨y473, hy473⟩ : ∃ y_ : List (S52), y_ = (x8_2 ++ [(⟨t463, t466⟩ : S52)]) := ⟨_, rfl⟩
                      replace H : (label_Take.l0 k2 t467 y473 t458 (IntKind.u64.wrap (x23_2 + 1))) = some (r1, r2, r3) := by first | (rw [hy473]; with_reducible exact H) | (have H2_ := (Option.bind_some _ _).symm.trans H; rw [hy473]; with_reducible exact H2_) | (have H2_ := (Option.bind_some _ _).symm.trans H; with_reducible exact H2_) | with_reducible exact H | (rw [hy473]; exact H) | exact H
                      have Ny473 := Aside0.mk hy473
                      clear hy473
                      have H' := Aside0.mk H
                      clear H
                      go_wp2_with (first | ((with_reducible refine gate_dst (N := 9) rfl ?_); (try (refine gate_guard (by rfl) ?_; dsimp only)); refine box_event ?hg (N := 9) ?hd (cs := #[.string (⟨#[]⟩ : ByteArray), .string (⟨#[]⟩ : ByteArray)]) (t := 52) ?hr ?_; (case hd => rfl); (case hg => rfl); (case hr => first | (go_simp; done) | (go_simp; rfl)); intro gb462 hg w31 hbox hb; have n0_ := Aside0.mk (Kd.R_below (Kd.R_elderB zx31_2 gb462 (Nat.le_of_eq hg.symm)) hb); have n1_ := Aside0.mk (below_step zx31_0 hb); have n2_ := Aside0.mk (hbox); have n3_ := Aside0.mk ((by rw [hg]; exact (below_size zx31_0) : w.heap.size ≤ gb462)); have n4_ := Aside0.mk ((by rw [hg]; exact (below_size zx31_0) : w.heap.size ≤ gb462)); clear HO_8; clear HB; have HO_8 := n0_; have HB := n1_; have BK462 := n2_; have GW462 := n3_; have GE462 := n4_; clear n0_ n1_ n2_ n3_ n4_; clear hb hbox hg) | (go_at_call 69; (with_reducible refine (num_TakeText.calls k2 x6_2 20 t463 t464 t465 _ A7.out).mono ?_); rintro e w32 ⟨rfl, hb⟩; have n0_ := Aside0.mk (Kd.R_below zx31_2 hb); have n1_ := Aside0.mk (blk_below (g := gb462) (o := .cells #[.string (⟨#[]⟩ : ByteArray), .string (⟨#[]⟩ : ByteArray)] 52 (0, 0)) zx31_6 hb); have n2_ := Aside0.mk (below_step zx31_1 hb); clear HO_8; clear BK462; clear HB; have HO_8 := n0_; have BK462 := n1_; have HB := n2_; clear n0_ n1_ n2_; (try clear hb); (try clear hb2); (try clear hk); (try clear hi); have hcz33_0 : w32.cell? ⟨gb462, 0, none⟩ = some (.string (⟨#[]⟩ : ByteArray)) := (blk_cell BK462.out 0).trans rfl; have hcz33_1 : w32.cell? ⟨gb462, 1, none⟩ = some (.string (⟨#[]⟩ : ByteArray)) := (blk_cell BK462.out 1).trans rfl; have hfz33_0 := blk_frozen BK462.out 0; have hfz33_1 := blk_frozen BK462.out 1) | (go_at_call 69; (with_reducible refine (num_TakeText.calls k2 t464 40 t466 t467 t468 _ A9.out).mono ?_); rintro e w34 ⟨rfl, hb⟩; have n0_ := Aside0.mk (Kd.R_below zx31_5 hb); have n1_ := Aside0.mk (blk_below (g := gb462) (o := .cells #[.string t463, .string (⟨#[]⟩ : ByteArray)] 52 (0, 0)) zx31_3 hb); have n2_ := Aside0.mk (below_step zx31_1 hb); clear HO_8; clear BK462; clear HB; have HO_8 := n0_; have BK462 := n1_; have HB := n2_; clear n0_ n1_ n2_; (try clear hb); (try clear hb2); (try clear hk); (try clear hi); have hcz35_0 : w34.cell? ⟨gb462, 0, none⟩ = some (.string t463) := (blk_cell BK462.out 0).trans rfl; have hcz35_1 : w34.cell? ⟨gb462, 1, none⟩ = some (.string (⟨#[]⟩ : ByteArray)) := (blk_cell BK462.out 1).trans rfl; have hfz35_0 := blk_frozen BK462.out 0; have hfz35_1 := blk_frozen BK462.out 1; obtain ⟨Ao36, co36, eo36⟩ := Kd.R_slice HO_8.out; subst eo36) | ((with_reducible refine gate_builtin (b := .append) (xs := #[.tmp 60, .tmp 62]) rfl ?_); (try (refine gate_guard (by rfl) ?_; dsimp only)); at_builtin; refine Kd.R_append k52 (w0 := w) w.heap.size rfl (.tmp 60) (.tmp 62) 22 52 (.agg #[(.string ⟨#[]⟩), (.string ⟨#[]⟩)]) 32 rfl Tryz.underlying22 info52 rfl (by decide) (by omega) (.slice Ao36 x8_2.length co36) x8_2 (⟨t463, t466⟩ : S52) [.string t463, .string t466] (fun k_ => k_ ≠ gb462) (fun _ => False) rfl (by first | (go_simp; done) | (go_simp; rfl)) ?aP (fun _ hk => hk.elim) ?aF ?aO ?aB ?aS ?aL ?_; (case aP => exact k52_mkM _ _ _ (⟨t463, t466⟩ : S52)); (case aB => exact zx31_1); (case aF => exact (fun k_ hk => Kd.freshB (g := gb462) (o := .cells #[.string t463, .string t466] 52 (0, 0)) zx31_4 k_ hk)); (case aO => exact zx31_8); (case aS => exact (below_size zx31_1)); (case aL => have := LMc30.out; omega); intro v474 w37 ho hb hg hat; rw [← Ny473.out] at ho; have n0_ := Aside0.mk (blk_grown (g := gb462) (o := .cells #[.string t463, .string t466] 52 (0, 0)) zx31_4 hg (Kd.R_away HO_8.out (fun _ hk => hk.2))); have n1_ := Aside0.mk (hb); have n2_ := Aside0.mk (ho); clear BK462; clear HB; clear HO_8; have BK462 := n0_; have HB := n1_; have HO475 := n2_; clear n0_ n1_ n2_; clear ho hb hg hat))
                      repeat (go_quiet (first | ((with_reducible refine gate_dst (N := 9) rfl ?_); (try (refine gate_guard (by rfl) ?_; dsimp only)); refine box_event ?hg (N := 9) ?hd (cs := #[.string (⟨#[]⟩ : ByteArray), .string (⟨#[]⟩ : ByteArray)]) (t := 52) ?hr ?_; (case hd => rfl); (case hg => rfl); (case hr => first | (go_simp; done) | (go_simp; rfl)); intro gb462 hg w31 hbox hb; have n0_ := Aside0.mk (Kd.R_below (Kd.R_elderB zx31_2 gb462 (Nat.le_of_eq hg.symm)) hb); have n1_ := Aside0.mk (below_step zx31_0 hb); have n2_ := Aside0.mk (hbox); have n3_ := Aside0.mk ((by rw [hg]; exact (below_size zx31_0) : w.heap.size ≤ gb462)); have n4_ := Aside0.mk ((by rw [hg]; exact (below_size zx31_0) : w.heap.size ≤ gb462)); clear HO_8; clear HB; have HO_8 := n0_; have HB := n1_; have BK462 := n2_; have GW462 := n3_; have GE462 := n4_; clear n0_ n1_ n2_ n3_ n4_; clear hb hbox hg) | (go_at_call 69; (with_reducible refine (num_TakeText.calls k2 x6_2 20 t463 t464 t465 _ A7.out).mono ?_); rintro e w32 ⟨rfl, hb⟩; have n0_ := Aside0.mk (Kd.R_below zx31_2 hb); have n1_ := Aside0.mk (blk_below (g := gb462) (o := .cells #[.string (⟨#[]⟩ : ByteArray), .string (⟨#[]⟩ : ByteArray)] 52 (0, 0)) zx31_6 hb); have n2_ := Aside0.mk (below_step zx31_1 hb); clear HO_8; clear BK462; clear HB; have HO_8 := n0_; have BK462 := n1_; have HB := n2_; clear n0_ n1_ n2_; (try clear hb); (try clear hb2); (try clear hk); (try clear hi); have hcz33_0 : w32.cell? ⟨gb462, 0, none⟩ = some (.string (⟨#[]⟩ : ByteArray)) := (blk_cell BK462.out 0).trans rfl; have hcz33_1 : w32.cell? ⟨gb462, 1, none⟩ = some (.string (⟨#[]⟩ : ByteArray)) := (blk_cell BK462.out 1).trans rfl; have hfz33_0 := blk_frozen BK462.out 0; have hfz33_1 := blk_frozen BK462.out 1) | (go_at_call 69; (with_reducible refine (num_TakeText.calls k2 t464 40 t466 t467 t468 _ A9.out).mono ?_); rintro e w34 ⟨rfl, hb⟩; have n0_ := Aside0.mk (Kd.R_below zx31_5 hb); have n1_ := Aside0.mk (blk_below (g := gb462) (o := .cells #[.string t463, .string (⟨#[]⟩ : ByteArray)] 52 (0, 0)) zx31_3 hb); have n2_ := Aside0.mk (below_step zx31_1 hb); clear HO_8; clear BK462; clear HB; have HO_8 := n0_; have BK462 := n1_; have HB := n2_; clear n0_ n1_ n2_; (try clear hb); (try clear hb2); (try clear hk); (try clear hi); have hcz35_0 : w34.cell? ⟨gb462, 0, none⟩ = some (.string t463) := (blk_cell BK462.out 0).trans rfl; have hcz35_1 : w34.cell? ⟨gb462, 1, none⟩ = some (.string (⟨#[]⟩ : ByteArray)) := (blk_cell BK462.out 1).trans rfl; have hfz35_0 := blk_frozen BK462.out 0; have hfz35_1 := blk_frozen BK462.out 1; obtain ⟨Ao36, co36, eo36⟩ := Kd.R_slice HO_8.out; subst eo36) | ((with_reducible refine gate_builtin (b := .append) (xs := #[.tmp 60, .tmp 62]) rfl ?_); (try (refine gate_guard (by rfl) ?_; dsimp only)); at_builtin; refine Kd.R_append k52 (w0 := w) w.heap.size rfl (.tmp 60) (.tmp 62) 22 52 (.agg #[(.string ⟨#[]⟩), (.string ⟨#[]⟩)]) 32 rfl Tryz.underlying22 info52 rfl (by decide) (by omega) (.slice Ao36 x8_2.length co36) x8_2 (⟨t463, t466⟩ : S52) [.string t463, .string t466] (fun k_ => k_ ≠ gb462) (fun _ => False) rfl (by first | (go_simp; done) | (go_simp; rfl)) ?aP (fun _ hk => hk.elim) ?aF ?aO ?aB ?aS ?aL ?_; (case aP => exact k52_mkM _ _ _ (⟨t463, t466⟩ : S52)); (case aB => exact zx31_1); (case aF => exact (fun k_ hk => Kd.freshB (g := gb462) (o := .cells #[.string t463, .string t466] 52 (0, 0)) zx31_4 k_ hk)); (case aO => exact zx31_8); (case aS => exact (below_size zx31_1)); (case aL => have := LMc30.out; omega); intro v474 w37 ho hb hg hat; rw [← Ny473.out] at ho; have n0_ := Aside0.mk (blk_grown (g := gb462) (o := .cells #[.string t463, .string t466] 52 (0, 0)) zx31_4 hg (Kd.R_away HO_8.out (fun _ hk => hk.2))); have n1_ := Aside0.mk (hb); have n2_ := Aside0.mk (ho); clear BK462; clear HB; clear HO_8; have BK462 := n0_; have HB := n1_; have HO475 := n2_; clear n0_ n1_ n2_; clear ho hb hg hat)); try go_wp2_with (first | ((with_reducible refine gate_dst (N := 9) rfl ?_); (try (refine gate_guard (by rfl) ?_; dsimp only)); refine box_event ?hg (N := 9) ?hd (cs := #[.string (⟨#[]⟩ : ByteArray), .string (⟨#[]⟩ : ByteArray)]) (t := 52) ?hr ?_; (case hd => rfl); (case hg => rfl); (case hr => first | (go_simp; done) | (go_simp; rfl)); intro gb462 hg w31 hbox hb; have n0_ := Aside0.mk (Kd.R_below (Kd.R_elderB zx31_2 gb462 (Nat.le_of_eq hg.symm)) hb); have n1_ := Aside0.mk (below_step zx31_0 hb); have n2_ := Aside0.mk (hbox); have n3_ := Aside0.mk ((by rw [hg]; exact (below_size zx31_0) : w.heap.size ≤ gb462)); have n4_ := Aside0.mk ((by rw [hg]; exact (below_size zx31_0) : w.heap.size ≤ gb462)); clear HO_8; clear HB; have HO_8 := n0_; have HB := n1_; have BK462 := n2_; have GW462 := n3_; have GE462 := n4_; clear n0_ n1_ n2_ n3_ n4_; clear hb hbox hg) | (go_at_call 69; (with_reducible refine (num_TakeText.calls k2 x6_2 20 t463 t464 t465 _ A7.out).mono ?_); rintro e w32 ⟨rfl, hb⟩; have n0_ := Aside0.mk (Kd.R_below zx31_2 hb); have n1_ := Aside0.mk (blk_below (g := gb462) (o := .cells #[.string (⟨#[]⟩ : ByteArray), .string (⟨#[]⟩ : ByteArray)] 52 (0, 0)) zx31_6 hb); have n2_ := Aside0.mk (below_step zx31_1 hb); clear HO_8; clear BK462; clear HB; have HO_8 := n0_; have BK462 := n1_; have HB := n2_; clear n0_ n1_ n2_; (try clear hb); (try clear hb2); (try clear hk); (try clear hi); have hcz33_0 : w32.cell? ⟨gb462, 0, none⟩ = some (.string (⟨#[]⟩ : ByteArray)) := (blk_cell BK462.out 0).trans rfl; have hcz33_1 : w32.cell? ⟨gb462, 1, none⟩ = some (.string (⟨#[]⟩ : ByteArray)) := (blk_cell BK462.out 1).trans rfl; have hfz33_0 := blk_frozen BK462.out 0; have hfz33_1 := blk_frozen BK462.out 1) | (go_at_call 69; (with_reducible refine (num_TakeText.calls k2 t464 40 t466 t467 t468 _ A9.out).mono ?_); rintro e w34 ⟨rfl, hb⟩; have n0_ := Aside0.mk (Kd.R_below zx31_5 hb); have n1_ := Aside0.mk (blk_below (g := gb462) (o := .cells #[.string t463, .string (⟨#[]⟩ : ByteArray)] 52 (0, 0)) zx31_3 hb); have n2_ := Aside0.mk (below_step zx31_1 hb); clear HO_8; clear BK462; clear HB; have HO_8 := n0_; have BK462 := n1_; have HB := n2_; clear n0_ n1_ n2_; (try clear hb); (try clear hb2); (try clear hk); (try clear hi); have hcz35_0 : w34.cell? ⟨gb462, 0, none⟩ = some (.string t463) := (blk_cell BK462.out 0).trans rfl; have hcz35_1 : w34.cell? ⟨gb462, 1, none⟩ = some (.string (⟨#[]⟩ : ByteArray)) := (blk_cell BK462.out 1).trans rfl; have hfz35_0 := blk_frozen BK462.out 0; have hfz35_1 := blk_frozen BK462.out 1; obtain ⟨Ao36, co36, eo36⟩ := Kd.R_slice HO_8.out; subst eo36) | ((with_reducible refine gate_builtin (b := .append) (xs := #[.tmp 60, .tmp 62]) rfl ?_); (try (refine gate_guard (by rfl) ?_; dsimp only)); at_builtin; refine Kd.R_append k52 (w0 := w) w.heap.size rfl (.tmp 60) (.tmp 62) 22 52 (.agg #[(.string ⟨#[]⟩), (.string ⟨#[]⟩)]) 32 rfl Tryz.underlying22 info52 rfl (by decide) (by omega) (.slice Ao36 x8_2.length co36) x8_2 (⟨t463, t466⟩ : S52) [.string t463, .string t466] (fun k_ => k_ ≠ gb462) (fun _ => False) rfl (by first | (go_simp; done) | (go_simp; rfl)) ?aP (fun _ hk => hk.elim) ?aF ?aO ?aB ?aS ?aL ?_; (case aP => exact k52_mkM _ _ _ (⟨t463, t466⟩ : S52)); (case aB => exact zx31_1); (case aF => exact (fun k_ hk => Kd.freshB (g := gb462) (o := .cells #[.string t463, .string t466] 52 (0, 0)) zx31_4 k_ hk)); (case aO => exact zx31_8); (case aS => exact (below_size zx31_1)); (case aL => have := LMc30.out; omega); intro v474 w37 ho hb hg hat; rw [← Ny473.out] at ho; have n0_ := Aside0.mk (blk_grown (g := gb462) (o := .cells #[.string t463, .string t466] 52 (0, 0)) zx31_4 hg (Kd.R_away HO_8.out (fun _ hk => hk.2))); have n1_ := Aside0.mk (hb); have n2_ := Aside0.mk (ho); clear BK462; clear HB; clear HO_8; have BK462 := n0_; have HB := n1_; have HO475 := n2_; clear n0_ n1_ n2_; clear ho hb hg hat)))
                      go_roundg k2
                      case measure => have := HJ2.out; have := HK2.out; omega
                      case rel => exact ⟨(t467), (y473), (IntKind.u64.wrap (x23_2 + 1)), zx31_11, zx31_11, H', ⟨by have := HJ2.out; have := HK2.out; omega⟩, ⟨by (with_reducible repeat (first | apply Kd.R_alloc | apply Kd.R_drewN | apply Kd.R_drew)); exact Kd.R_mono HO475.out (fun _ hk => trivial)⟩, ⟨by repeat (first | (with_reducible first | exact HB.out | apply below_alloc | apply pw_below_drewN | apply below_drew1 | refine below_set ?_ GE462.out) | exact HB.out)⟩⟩
                    · rw [if_neg c30] at H
                      exact absurd H (by simp)
                · rw [if_neg c10] at H
                  have c10b0 : (t468 == 0) = false := beq_eq_false_iff_ne.mpr c10
                  have c10b1 : (t468 != 0) = true := bne_iff_ne.mpr c10
                  simp only [Option.some.injEq, Prod.mk.injEq] at H
                  obtain ⟨rfl, rfl, rfl⟩ := H
                  go_wp2_with (first | ((with_reducible refine gate_dst (N := 9) rfl ?_); (try (refine gate_guard (by rfl) ?_; dsimp only)); refine box_event ?hg (N := 9) ?hd (cs := #[.string (⟨#[]⟩ : ByteArray), .string (⟨#[]⟩ : ByteArray)]) (t := 52) ?hr ?_; (case hd => rfl); (case hg => rfl); (case hr => first | (go_simp; done) | (go_simp; rfl)); intro gb462 hg w38 hbox hb; have n0_ := Aside0.mk (Kd.R_below (Kd.R_elderB zx31_2 gb462 (Nat.le_of_eq hg.symm)) hb); have n1_ := Aside0.mk (below_step zx31_0 hb); have n2_ := Aside0.mk (hbox); have n3_ := Aside0.mk ((by rw [hg]; exact (below_size zx31_0) : w.heap.size ≤ gb462)); have n4_ := Aside0.mk ((by rw [hg]; exact (below_size zx31_0) : w.heap.size ≤ gb462)); clear HO_8; clear HB; have HO_8 := n0_; have HB := n1_; have BK462 := n2_; have GW462 := n3_; have GE462 := n4_; clear n0_ n1_ n2_ n3_ n4_; clear hb hbox hg) | (go_at_call 69; (with_reducible refine (num_TakeText.calls k2 x6_2 20 t463 t464 t465 _ A7.out).mono ?_); rintro e w39 ⟨rfl, hb⟩; have n0_ := Aside0.mk (Kd.R_below zx31_2 hb); have n1_ := Aside0.mk (blk_below (g := gb462) (o := .cells #[.string (⟨#[]⟩ : ByteArray), .string (⟨#[]⟩ : ByteArray)] 52 (0, 0)) zx31_6 hb); have n2_ := Aside0.mk (below_step zx31_1 hb); clear HO_8; clear BK462; clear HB; have HO_8 := n0_; have BK462 := n1_; have HB := n2_; clear n0_ n1_ n2_; (try clear hb); (try clear hb2); (try clear hk); (try clear hi); have hcz40_0 : w39.cell? ⟨gb462, 0, none⟩ = some (.string (⟨#[]⟩ : ByteArray)) := (blk_cell BK462.out 0).trans rfl; have hcz40_1 : w39.cell? ⟨gb462, 1, none⟩ = some (.string (⟨#[]⟩ : ByteArray)) := (blk_cell BK462.out 1).trans rfl; have hfz40_0 := blk_frozen BK462.out 0; have hfz40_1 := blk_frozen BK462.out 1) | (go_at_call 69; (with_reducible refine (num_TakeText.calls k2 t464 40 t466 t467 t468 _ A9.out).mono ?_); rintro e w41 ⟨rfl, hb⟩; have n0_ := Aside0.mk (Kd.R_below zx31_5 hb); have n1_ := Aside0.mk (blk_below (g := gb462) (o := .cells #[.string t463, .string (⟨#[]⟩ : ByteArray)] 52 (0, 0)) zx31_3 hb); have n2_ := Aside0.mk (below_step zx31_1 hb); clear HO_8; clear BK462; clear HB; have HO_8 := n0_; have BK462 := n1_; have HB := n2_; clear n0_ n1_ n2_; (try clear hb); (try clear hb2); (try clear hk); (try clear hi); have hcz42_0 : w41.cell? ⟨gb462, 0, none⟩ = some (.string t463) := (blk_cell BK462.out 0).trans rfl; have hcz42_1 : w41.cell? ⟨gb462, 1, none⟩ = some (.string (⟨#[]⟩ : ByteArray)) := (blk_cell BK462.out 1).trans rfl; have hfz42_0 := blk_frozen BK462.out 0; have hfz42_1 := blk_frozen BK462.out 1))
                  repeat (go_quiet (first | ((with_reducible refine gate_dst (N := 9) rfl ?_); (try (refine gate_guard (by rfl) ?_; dsimp only)); refine box_event ?hg (N := 9) ?hd (cs := #[.string (⟨#[]⟩ : ByteArray), .string (⟨#[]⟩ : ByteArray)]) (t := 52) ?hr ?_; (case hd => rfl); (case hg => rfl); (case hr => first | (go_simp; done) | (go_simp; rfl)); intro gb462 hg w38 hbox hb; have n0_ := Aside0.mk (Kd.R_below (Kd.R_elderB zx31_2 gb462 (Nat.le_of_eq hg.symm)) hb); have n1_ := Aside0.mk (below_step zx31_0 hb); have n2_ := Aside0.mk (hbox); have n3_ := Aside0.mk ((by rw [hg]; exact (below_size zx31_0) : w.heap.size ≤ gb462)); have n4_ := Aside0.mk ((by rw [hg]; exact (below_size zx31_0) : w.heap.size ≤ gb462)); clear HO_8; clear HB; have HO_8 := n0_; have HB := n1_; have BK462 := n2_; have GW462 := n3_; have GE462 := n4_; clear n0_ n1_ n2_ n3_ n4_; clear hb hbox hg) | (go_at_call 69; (with_reducible refine (num_TakeText.calls k2 x6_2 20 t463 t464 t465 _ A7.out).mono ?_); rintro e w39 ⟨rfl, hb⟩; have n0_ := Aside0.mk (Kd.R_below zx31_2 hb); have n1_ := Aside0.mk (blk_below (g := gb462) (o := .cells #[.string (⟨#[]⟩ : ByteArray), .string (⟨#[]⟩ : ByteArray)] 52 (0, 0)) zx31_6 hb); have n2_ := Aside0.mk (below_step zx31_1 hb); clear HO_8; clear BK462; clear HB; have HO_8 := n0_; have BK462 := n1_; have HB := n2_; clear n0_ n1_ n2_; (try clear hb); (try clear hb2); (try clear hk); (try clear hi); have hcz40_0 : w39.cell? ⟨gb462, 0, none⟩ = some (.string (⟨#[]⟩ : ByteArray)) := (blk_cell BK462.out 0).trans rfl; have hcz40_1 : w39.cell? ⟨gb462, 1, none⟩ = some (.string (⟨#[]⟩ : ByteArray)) := (blk_cell BK462.out 1).trans rfl; have hfz40_0 := blk_frozen BK462.out 0; have hfz40_1 := blk_frozen BK462.out 1) | (go_at_call 69; (with_reducible refine (num_TakeText.calls k2 t464 40 t466 t467 t468 _ A9.out).mono ?_); rintro e w41 ⟨rfl, hb⟩; have n0_ := Aside0.mk (Kd.R_below zx31_5 hb); have n1_ := Aside0.mk (blk_below (g := gb462) (o := .cells #[.string t463, .string (⟨#[]⟩ : ByteArray)] 52 (0, 0)) zx31_3 hb); have n2_ := Aside0.mk (below_step zx31_1 hb); clear HO_8; clear BK462; clear HB; have HO_8 := n0_; have BK462 := n1_; have HB := n2_; clear n0_ n1_ n2_; (try clear hb); (try clear hb2); (try clear hk); (try clear hi); have hcz42_0 : w41.cell? ⟨gb462, 0, none⟩ = some (.string t463) := (blk_cell BK462.out 0).trans rfl; have hcz42_1 : w41.cell? ⟨gb462, 1, none⟩ = some (.string (⟨#[]⟩ : ByteArray)) := (blk_cell BK462.out 1).trans rfl; have hfz42_0 := blk_frozen BK462.out 0; have hfz42_1 := blk_frozen BK462.out 1)); try go_wp2_with (first | ((with_reducible refine gate_dst (N := 9) rfl ?_); (try (refine gate_guard (by rfl) ?_; dsimp only)); refine box_event ?hg (N := 9) ?hd (cs := #[.string (⟨#[]⟩ : ByteArray), .string (⟨#[]⟩ : ByteArray)]) (t := 52) ?hr ?_; (case hd => rfl); (case hg => rfl); (case hr => first | (go_simp; done) | (go_simp; rfl)); intro gb462 hg w38 hbox hb; have n0_ := Aside0.mk (Kd.R_below (Kd.R_elderB zx31_2 gb462 (Nat.le_of_eq hg.symm)) hb); have n1_ := Aside0.mk (below_step zx31_0 hb); have n2_ := Aside0.mk (hbox); have n3_ := Aside0.mk ((by rw [hg]; exact (below_size zx31_0) : w.heap.size ≤ gb462)); have n4_ := Aside0.mk ((by rw [hg]; exact (below_size zx31_0) : w.heap.size ≤ gb462)); clear HO_8; clear HB; have HO_8 := n0_; have HB := n1_; have BK462 := n2_; have GW462 := n3_; have GE462 := n4_; clear n0_ n1_ n2_ n3_ n4_; clear hb hbox hg) | (go_at_call 69; (with_reducible refine (num_TakeText.calls k2 x6_2 20 t463 t464 t465 _ A7.out).mono ?_); rintro e w39 ⟨rfl, hb⟩; have n0_ := Aside0.mk (Kd.R_below zx31_2 hb); have n1_ := Aside0.mk (blk_below (g := gb462) (o := .cells #[.string (⟨#[]⟩ : ByteArray), .string (⟨#[]⟩ : ByteArray)] 52 (0, 0)) zx31_6 hb); have n2_ := Aside0.mk (below_step zx31_1 hb); clear HO_8; clear BK462; clear HB; have HO_8 := n0_; have BK462 := n1_; have HB := n2_; clear n0_ n1_ n2_; (try clear hb); (try clear hb2); (try clear hk); (try clear hi); have hcz40_0 : w39.cell? ⟨gb462, 0, none⟩ = some (.string (⟨#[]⟩ : ByteArray)) := (blk_cell BK462.out 0).trans rfl; have hcz40_1 : w39.cell? ⟨gb462, 1, none⟩ = some (.string (⟨#[]⟩ : ByteArray)) := (blk_cell BK462.out 1).trans rfl; have hfz40_0 := blk_frozen BK462.out 0; have hfz40_1 := blk_frozen BK462.out 1) | (go_at_call 69; (with_reducible refine (num_TakeText.calls k2 t464 40 t466 t467 t468 _ A9.out).mono ?_); rintro e w41 ⟨rfl, hb⟩; have n0_ := Aside0.mk (Kd.R_below zx31_5 hb); have n1_ := Aside0.mk (blk_below (g := gb462) (o := .cells #[.string t463, .string (⟨#[]⟩ : ByteArray)] 52 (0, 0)) zx31_3 hb); have n2_ := Aside0.mk (below_step zx31_1 hb); clear HO_8; clear BK462; clear HB; have HO_8 := n0_; have BK462 := n1_; have HB := n2_; clear n0_ n1_ n2_; (try clear hb); (try clear hb2); (try clear hk); (try clear hi); have hcz42_0 : w41.cell? ⟨gb462, 0, none⟩ = some (.string t463) := (blk_cell BK462.out 0).trans rfl; have hcz42_1 : w41.cell? ⟨gb462, 1, none⟩ = some (.string (⟨#[]⟩ : ByteArray)) := (blk_cell BK462.out 1).trans rfl; have hfz42_0 := blk_frozen BK462.out 0; have hfz42_1 := blk_frozen BK462.out 1)))
                  go_ret3
                  exact ⟨_, by first | rfl | (simp [errW_none, errW_some] <;> rfl) | (simp [*, errW_none, errW_some] <;> rfl), by first | exact Kd.R_nil _ _ _ _ _ | exact Kd.N_nil _ _ _ _ _ | exact Kd.V_nil _ _ _ _ _ | exact Kd.Q_nil _ _ _ _ _ | exact Kd.S_nil _ _ _ _ _, by repeat (first | (with_reducible first | exact HB.out | apply below_alloc | apply pw_below_drewN | apply below_drew1 | refine below_set ?_ GE462.out) | exact HB.out)⟩
              · rw [if_neg c8] at H
                have c8b0 : (t465 == 0) = false := beq_eq_false_iff_ne.mpr c8
                have c8b1 : (t465 != 0) = true := bne_iff_ne.mpr c8
                simp only [Option.some.injEq, Prod.mk.injEq] at H
                obtain ⟨rfl, rfl, rfl⟩ := H
                go_wp2_with (first | ((with_reducible refine gate_dst (N := 9) rfl ?_); (try (refine gate_guard (by rfl) ?_; dsimp only)); refine box_event ?hg (N := 9) ?hd (cs := #[.string (⟨#[]⟩ : ByteArray), .string (⟨#[]⟩ : ByteArray)]) (t := 52) ?hr ?_; (case hd => rfl); (case hg => rfl); (case hr => first | (go_simp; done) | (go_simp; rfl)); intro gb462 hg w43 hbox hb; have n0_ := Aside0.mk (Kd.R_below (Kd.R_elderB zx31_2 gb462 (Nat.le_of_eq hg.symm)) hb); have n1_ := Aside0.mk (below_step zx31_0 hb); have n2_ := Aside0.mk (hbox); have n3_ := Aside0.mk ((by rw [hg]; exact (below_size zx31_0) : w.heap.size ≤ gb462)); have n4_ := Aside0.mk ((by rw [hg]; exact (below_size zx31_0) : w.heap.size ≤ gb462)); clear HO_8; clear HB; have HO_8 := n0_; have HB := n1_; have BK462 := n2_; have GW462 := n3_; have GE462 := n4_; clear n0_ n1_ n2_ n3_ n4_; clear hb hbox hg) | (go_at_call 69; (with_reducible refine (num_TakeText.calls k2 x6_2 20 t463 t464 t465 _ A7.out).mono ?_); rintro e w44 ⟨rfl, hb⟩; have n0_ := Aside0.mk (Kd.R_below zx31_2 hb); have n1_ := Aside0.mk (blk_below (g := gb462) (o := .cells #[.string (⟨#[]⟩ : ByteArray), .string (⟨#[]⟩ : ByteArray)] 52 (0, 0)) zx31_6 hb); have n2_ := Aside0.mk (below_step zx31_1 hb); clear HO_8; clear BK462; clear HB; have HO_8 := n0_; have BK462 := n1_; have HB := n2_; clear n0_ n1_ n2_; (try clear hb); (try clear hb2); (try clear hk); (try clear hi); have hcz45_0 : w44.cell? ⟨gb462, 0, none⟩ = some (.string (⟨#[]⟩ : ByteArray)) := (blk_cell BK462.out 0).trans rfl; have hcz45_1 : w44.cell? ⟨gb462, 1, none⟩ = some (.string (⟨#[]⟩ : ByteArray)) := (blk_cell BK462.out 1).trans rfl; have hfz45_0 := blk_frozen BK462.out 0; have hfz45_1 := blk_frozen BK462.out 1))
                repeat (go_quiet (first | ((with_reducible refine gate_dst (N := 9) rfl ?_); (try (refine gate_guard (by rfl) ?_; dsimp only)); refine box_event ?hg (N := 9) ?hd (cs := #[.string (⟨#[]⟩ : ByteArray), .string (⟨#[]⟩ : ByteArray)]) (t := 52) ?hr ?_; (case hd => rfl); (case hg => rfl); (case hr => first | (go_simp; done) | (go_simp; rfl)); intro gb462 hg w43 hbox hb; have n0_ := Aside0.mk (Kd.R_below (Kd.R_elderB zx31_2 gb462 (Nat.le_of_eq hg.symm)) hb); have n1_ := Aside0.mk (below_step zx31_0 hb); have n2_ := Aside0.mk (hbox); have n3_ := Aside0.mk ((by rw [hg]; exact (below_size zx31_0) : w.heap.size ≤ gb462)); have n4_ := Aside0.mk ((by rw [hg]; exact (below_size zx31_0) : w.heap.size ≤ gb462)); clear HO_8; clear HB; have HO_8 := n0_; have HB := n1_; have BK462 := n2_; have GW462 := n3_; have GE462 := n4_; clear n0_ n1_ n2_ n3_ n4_; clear hb hbox hg) | (go_at_call 69; (with_reducible refine (num_TakeText.calls k2 x6_2 20 t463 t464 t465 _ A7.out).mono ?_); rintro e w44 ⟨rfl, hb⟩; have n0_ := Aside0.mk (Kd.R_below zx31_2 hb); have n1_ := Aside0.mk (blk_below (g := gb462) (o := .cells #[.string (⟨#[]⟩ : ByteArray), .string (⟨#[]⟩ : ByteArray)] 52 (0, 0)) zx31_6 hb); have n2_ := Aside0.mk (below_step zx31_1 hb); clear HO_8; clear BK462; clear HB; have HO_8 := n0_; have BK462 := n1_; have HB := n2_; clear n0_ n1_ n2_; (try clear hb); (try clear hb2); (try clear hk); (try clear hi); have hcz45_0 : w44.cell? ⟨gb462, 0, none⟩ = some (.string (⟨#[]⟩ : ByteArray)) := (blk_cell BK462.out 0).trans rfl; have hcz45_1 : w44.cell? ⟨gb462, 1, none⟩ = some (.string (⟨#[]⟩ : ByteArray)) := (blk_cell BK462.out 1).trans rfl; have hfz45_0 := blk_frozen BK462.out 0; have hfz45_1 := blk_frozen BK462.out 1)); try go_wp2_with (first | ((with_reducible refine gate_dst (N := 9) rfl ?_); (try (refine gate_guard (by rfl) ?_; dsimp only)); refine box_event ?hg (N := 9) ?hd (cs := #[.string (⟨#[]⟩ : ByteArray), .string (⟨#[]⟩ : ByteArray)]) (t := 52) ?hr ?_; (case hd => rfl); (case hg => rfl); (case hr => first | (go_simp; done) | (go_simp; rfl)); intro gb462 hg w43 hbox hb; have n0_ := Aside0.mk (Kd.R_below (Kd.R_elderB zx31_2 gb462 (Nat.le_of_eq hg.symm)) hb); have n1_ := Aside0.mk (below_step zx31_0 hb); have n2_ := Aside0.mk (hbox); have n3_ := Aside0.mk ((by rw [hg]; exact (below_size zx31_0) : w.heap.size ≤ gb462)); have n4_ := Aside0.mk ((by rw [hg]; exact (below_size zx31_0) : w.heap.size ≤ gb462)); clear HO_8; clear HB; have HO_8 := n0_; have HB := n1_; have BK462 := n2_; have GW462 := n3_; have GE462 := n4_; clear n0_ n1_ n2_ n3_ n4_; clear hb hbox hg) | (go_at_call 69; (with_reducible refine (num_TakeText.calls k2 x6_2 20 t463 t464 t465 _ A7.out).mono ?_); rintro e w44 ⟨rfl, hb⟩; have n0_ := Aside0.mk (Kd.R_below zx31_2 hb); have n1_ := Aside0.mk (blk_below (g := gb462) (o := .cells #[.string (⟨#[]⟩ : ByteArray), .string (⟨#[]⟩ : ByteArray)] 52 (0, 0)) zx31_6 hb); have n2_ := Aside0.mk (below_step zx31_1 hb); clear HO_8; clear BK462; clear HB; have HO_8 := n0_; have BK462 := n1_; have HB := n2_; clear n0_ n1_ n2_; (try clear hb); (try clear hb2); (try clear hk); (try clear hi); have hcz45_0 : w44.cell? ⟨gb462, 0, none⟩ = some (.string (⟨#[]⟩ : ByteArray)) := (blk_cell BK462.out 0).trans rfl; have hcz45_1 : w44.cell? ⟨gb462, 1, none⟩ = some (.string (⟨#[]⟩ : ByteArray)) := (blk_cell BK462.out 1).trans rfl; have hfz45_0 := blk_frozen BK462.out 0; have hfz45_1 := blk_frozen BK462.out 1)))
                go_ret3
                exact ⟨_, by first | rfl | (simp [errW_none, errW_some] <;> rfl) | (simp [*, errW_none, errW_some] <;> rfl), by first | exact Kd.R_nil _ _ _ _ _ | exact Kd.N_nil _ _ _ _ _ | exact Kd.V_nil _ _ _ _ _ | exact Kd.Q_nil _ _ _ _ _ | exact Kd.S_nil _ _ _ _ _, by repeat (first | (with_reducible first | exact HB.out | apply below_alloc | apply pw_below_drewN | apply below_drew1 | refine below_set ?_ GE462.out) | exact HB.out)⟩
            · rw [if_neg c6] at H
              have c6b0 : decide (x23_2 < t458) = false := decide_eq_false c6
              clear c6
              replace H := Option.bind_eq_some_iff.mp H
              obtain ⟨t461, A460, H⟩ := H
              replace H : (if t461 = 0 then (some (x8_2, x6_2, 0)) else (some (([] : List (S52)), (⟨#[]⟩ : ByteArray), 2))) = some (r1, r2, r3) := H
              have A46 := Aside0.mk A460
              clear A460
              by_cases c47 : t461 = 0
              · rw [if_pos c47] at H
                have c47b0 : (t461 == 0) = true := beq_iff_eq.mpr c47
                have c47b1 : (t461 != 0) = false := bne_eq_false_iff_eq.mpr c47
                clear c47
                simp only [Option.some.injEq, Prod.mk.injEq] at H
                obtain ⟨rfl, rfl, rfl⟩ := H
                obtain ⟨Ao48, co48, eo48⟩ := Kd.R_slice HO_8.out
                subst eo48
                go_wp2_with (first | (go_at_call 32; (with_reducible refine (label_Check.calls k2 _ _ x8_2 t461 _ ?side1 ?side2 A46.out).mono ?_); (case side1 => repeat (first | exact (Kd.R_reads' HO_8.out).2.2 | (with_reducible refine Kd.C_alloc ?_ _) | (with_reducible refine Kd.C_drewN ?_ _) | (with_reducible refine Kd.C_drew ?_))); (case side2 => exact (Kd.R_reads' HO_8.out).2.1); rintro e w49 ⟨rfl, hb⟩; have n0_ := Aside0.mk (Kd.R_below zx31_2 hb); have n1_ := Aside0.mk (below_step zx31_0 hb); clear HO_8; clear HB; have HO_8 := n0_; have HB := n1_; clear n0_ n1_; (try clear hb); (try clear hb2); (try clear hk); (try clear hi)))
                repeat (go_quiet (first | (go_at_call 32; (with_reducible refine (label_Check.calls k2 _ _ x8_2 t461 _ ?side1 ?side2 A46.out).mono ?_); (case side1 => repeat (first | exact (Kd.R_reads' HO_8.out).2.2 | (with_reducible refine Kd.C_alloc ?_ _) | (with_reducible refine Kd.C_drewN ?_ _) | (with_reducible refine Kd.C_drew ?_))); (case side2 => exact (Kd.R_reads' HO_8.out).2.1); rintro e w49 ⟨rfl, hb⟩; have n0_ := Aside0.mk (Kd.R_below zx31_2 hb); have n1_ := Aside0.mk (below_step zx31_0 hb); clear HO_8; clear HB; have HO_8 := n0_; have HB := n1_; clear n0_ n1_; (try clear hb); (try clear hb2); (try clear hk); (try clear hi))); try go_wp2_with (first | (go_at_call 32; (with_reducible refine (label_Check.calls k2 _ _ x8_2 t461 _ ?side1 ?side2 A46.out).mono ?_); (case side1 => repeat (first | exact (Kd.R_reads' HO_8.out).2.2 | (with_reducible refine Kd.C_alloc ?_ _) | (with_reducible refine Kd.C_drewN ?_ _) | (with_reducible refine Kd.C_drew ?_))); (case side2 => exact (Kd.R_reads' HO_8.out).2.1); rintro e w49 ⟨rfl, hb⟩; have n0_ := Aside0.mk (Kd.R_below zx31_2 hb); have n1_ := Aside0.mk (below_step zx31_0 hb); clear HO_8; clear HB; have HO_8 := n0_; have HB := n1_; clear n0_ n1_; (try clear hb); (try clear hb2); (try clear hk); (try clear hi))))
                go_ret3
                exact ⟨_, by first | rfl | (simp [errW_none, errW_some] <;> rfl) | (simp [*, errW_none, errW_some] <;> rfl), by (with_reducible repeat (first | apply Kd.R_alloc | apply Kd.R_drewN | apply Kd.R_drew)); exact HO_8.out, by repeat (first | (with_reducible first | exact HB.out | apply below_alloc | apply pw_below_drewN | apply below_drew1) | exact HB.out)⟩
              · rw [if_neg c47] at H
                have c47b0 : (t461 == 0) = false := beq_eq_false_iff_ne.mpr c47
                have c47b1 : (t461 != 0) = true := bne_iff_ne.mpr c47
                simp only [Option.some.injEq, Prod.mk.injEq] at H
                obtain ⟨rfl, rfl, rfl⟩ := H
                obtain ⟨Ao50, co50, eo50⟩ := Kd.R_slice HO_8.out
                subst eo50
                go_wp2_with (first | (go_at_call 32; (with_reducible refine (label_Check.calls k2 _ _ x8_2 t461 _ ?side1 ?side2 A46.out).mono ?_); (case side1 => repeat (first | exact (Kd.R_reads' HO_8.out).2.2 | (with_reducible refine Kd.C_alloc ?_ _) | (with_reducible refine Kd.C_drewN ?_ _) | (with_reducible refine Kd.C_drew ?_))); (case side2 => exact (Kd.R_reads' HO_8.out).2.1); rintro e w51 ⟨rfl, hb⟩; have n0_ := Aside0.mk (Kd.R_below zx31_2 hb); have n1_ := Aside0.mk (below_step zx31_0 hb); clear HO_8; clear HB; have HO_8 := n0_; have HB := n1_; clear n0_ n1_; (try clear hb); (try clear hb2); (try clear hk); (try clear hi)))
                repeat (go_quiet (first | (go_at_call 32; (with_reducible refine (label_Check.calls k2 _ _ x8_2 t461 _ ?side1 ?side2 A46.out).mono ?_); (case side1 => repeat (first | exact (Kd.R_reads' HO_8.out).2.2 | (with_reducible refine Kd.C_alloc ?_ _) | (with_reducible refine Kd.C_drewN ?_ _) | (with_reducible refine Kd.C_drew ?_))); (case side2 => exact (Kd.R_reads' HO_8.out).2.1); rintro e w51 ⟨rfl, hb⟩; have n0_ := Aside0.mk (Kd.R_below zx31_2 hb); have n1_ := Aside0.mk (below_step zx31_0 hb); clear HO_8; clear HB; have HO_8 := n0_; have HB := n1_; clear n0_ n1_; (try clear hb); (try clear hb2); (try clear hk); (try clear hi))); try go_wp2_with (first | (go_at_call 32; (with_reducible refine (label_Check.calls k2 _ _ x8_2 t461 _ ?side1 ?side2 A46.out).mono ?_); (case side1 => repeat (first | exact (Kd.R_reads' HO_8.out).2.2 | (with_reducible refine Kd.C_alloc ?_ _) | (with_reducible refine Kd.C_drewN ?_ _) | (with_reducible refine Kd.C_drew ?_))); (case side2 => exact (Kd.R_reads' HO_8.out).2.1); rintro e w51 ⟨rfl, hb⟩; have n0_ := Aside0.mk (Kd.R_below zx31_2 hb); have n1_ := Aside0.mk (below_step zx31_0 hb); clear HO_8; clear HB; have HO_8 := n0_; have HB := n1_; clear n0_ n1_; (try clear hb); (try clear hb2); (try clear hk); (try clear hi))))
                go_ret3
                exact ⟨_, by first | rfl | (simp [errW_none, errW_some] <;> rfl) | (simp [*, errW_none, errW_some] <;> rfl), by first | exact Kd.R_nil _ _ _ _ _ | exact Kd.N_nil _ _ _ _ _ | exact Kd.V_nil _ _ _ _ _ | exact Kd.Q_nil _ _ _ _ _ | exact Kd.S_nil _ _ _ _ _, by repeat (first | (with_reducible first | exact HB.out | apply below_alloc | apply pw_below_drewN | apply below_drew1) | exact HB.out)⟩

end Go.Proofs.YthaegbiblblccaaGreatDoor.XEnt
end
section
/- What the functions of the translation answer, each as a plain Lean function, and that the code comes to it; for a law: its row. Conditions: none but those that each theorem names. Written by a program of this session (wip/xp). -/
namespace Go.Proofs.YthaegbiblblccaaGreatDoor.XEnt
open Go.RowKit Go.Proofs.YthaegbiblblccaaGreatDoorW.PrintWords Go.Proofs.YthaegbiblblccaaGreatDoorW.PrintLast Go.Proofs.YthaegbiblblccaaGreatDoorW.PrintMore
attribute [local go_sem] max2_int min2_int max_two min_two max_three min_three max_four min_four   -- for this text's walks alone

set_option linter.unusedVariables false
set_option linter.unusedSimpArgs false

/-! ### label_Value: function 62 -/
def label_Value.f (l0 : List (S52)) (a1 : ByteArray) : Option (ByteArray) := (label_find.f l0 a1).bind fun t479 => (if t479 ≥ 0 then (if 0 ≤ t479 then (if t479 < (l0.length : Int) then (some ((rd_T52 l0 t479).f1)) else (none)) else (none)) else (some (⟨#[]⟩ : ByteArray)))
set_option maxHeartbeats 8000000 in
set_option maxRecDepth 100000 in
theorem label_Value.calls (A0 : Option Addr) (c0 : Nat) (l0 : List (S52)) (a1 : ByteArray) (r : ByteArray) (w : World) (hr0 : Kd.C k52 w A0 l0.length l0) (hc0 : l0.length ≤ c0) (h : label_Value.f l0 a1 = some r) :
    Calls Tryz.prog 62 #[.slice A0 l0.length c0, .string a1] w fun e w' => e = .returned (.string r) ∧ Below w.heap.size w w' := by
  have HR0 := Aside0.mk hr0
  have HC0 := Aside0.mk hc0
  clear hr0 hc0
  have HB := Aside0.mk (Below.refl w.heap.size w)
  have H : ((label_find.f l0 a1).bind fun t479 => (if t479 ≥ 0 then (if 0 ≤ t479 then (if t479 < (l0.length : Int) then (some ((rd_T52 l0 t479).f1)) else (none)) else (none)) else (some (⟨#[]⟩ : ByteArray)))) = some r := h
  clear h
  replace H := Option.bind_eq_some_iff.mp H
  obtain ⟨t479, A30, H⟩ := H
  replace H : (if t479 ≥ 0 then (if 0 ≤ t479 then (if t479 < (l0.length : Int) then (some ((rd_T52 l0 t479).f1)) else (none)) else (none)) else (some (⟨#[]⟩ : ByteArray))) = some r := H
  have A3 := Aside0.mk A30
  clear A30
  by_cases c4 : t479 ≥ 0
  · rw [if_pos c4] at H
    have c4b0 : decide (0 ≤ t479) = true := decide_eq_true c4
    clear c4
    by_cases c5 : 0 ≤ t479
    · rw [if_pos c5] at H
      have c5b0 : decide (0 ≤ t479) = true := decide_eq_true c5
      clear c5
      by_cases c6 : t479 < (l0.length : Int)
      · rw [if_pos c6] at H
        have c6b0 : decide (t479 < (l0.length : Int)) = true := decide_eq_true c6
        clear c6
        obtain rfl := Option.some.inj H
        go_enter Tryz.func62, Tryz.ntmps62
        go_wp2_with (first | ((with_reducible refine gate_callee (f := 58) rfl ?_); refine goesL_ (some 8) rfl rfl Tryz.func58 (by kernel_rfl) rfl #[.slice A0 l0.length c0, .string a1] rfl (by (try simp only [List.map_toArray, List.map_cons, List.map_nil]); first | done | rfl | (simp only [List.length_drop, List.length_take]; rfl)) ?_; (with_reducible refine (label_find.calls _ _ l0 a1 t479 _ ?side1 ?side2 A3.out).mono ?_); (case side1 => repeat (first | exact HR0.out | (with_reducible refine Kd.C_alloc ?_ _) | (with_reducible refine Kd.C_drewN ?_ _) | (with_reducible refine Kd.C_drew ?_))); (case side2 => exact HC0.out); rintro e w7 ⟨rfl, hb⟩; refine ⟨_, rfl, ?_⟩; have n0_ := Aside0.mk (below_step (by repeat (first | (with_reducible first | exact HB.out | apply below_alloc | apply pw_below_drewN | apply below_drew1) | exact HB.out)) hb); clear HB; have HB := n0_; clear n0_; (try clear hb); (try clear hb2); (try clear hk); (try clear hi); have p480 : 0 ≤ (t479 : Int) := of_decide_eq_true (by first | (with_reducible assumption) | assumption); have q480 : t479 < (l0.length : Int) := of_decide_eq_true (by first | (with_reducible assumption) | assumption); obtain ⟨ad480, e480, hx480_0, hx480_1⟩ := at_T52 HR0.out t479 p480 q480; cases e480; replace hx480_0 := (HB.out.cell (World.block_lt_of_cell? w _ hx480_0)).trans hx480_0; replace hx480_1 := (HB.out.cell (World.block_lt_of_cell? w _ hx480_1)).trans hx480_1; replace p480 := eq_true p480; replace q480 := eq_true q480))
        go_ret
        exact ⟨by first | rfl | (simp [errW_none, errW_some] <;> rfl) | (simp [*, errW_none, errW_some] <;> rfl), by repeat (first | (with_reducible first | exact HB.out | apply below_alloc | apply pw_below_drewN | apply below_drew1) | exact HB.out)⟩
      · rw [if_neg c6] at H
        exact absurd H (by simp)
    · rw [if_neg c5] at H
      exact absurd H (by simp)
  · rw [if_neg c4] at H
    have c4b0 : decide (0 ≤ t479) = false := decide_eq_false c4
    clear c4
    obtain rfl := Option.some.inj H
    go_enter Tryz.func62, Tryz.ntmps62
    go_wp2_with (first | ((with_reducible refine gate_callee (f := 58) rfl ?_); refine goesL_ (some 8) rfl rfl Tryz.func58 (by kernel_rfl) rfl #[.slice A0 l0.length c0, .string a1] rfl (by (try simp only [List.map_toArray, List.map_cons, List.map_nil]); first | done | rfl | (simp only [List.length_drop, List.length_take]; rfl)) ?_; (with_reducible refine (label_find.calls _ _ l0 a1 t479 _ ?side1 ?side2 A3.out).mono ?_); (case side1 => repeat (first | exact HR0.out | (with_reducible refine Kd.C_alloc ?_ _) | (with_reducible refine Kd.C_drewN ?_ _) | (with_reducible refine Kd.C_drew ?_))); (case side2 => exact HC0.out); rintro e w8 ⟨rfl, hb⟩; refine ⟨_, rfl, ?_⟩; have n0_ := Aside0.mk (below_step (by repeat (first | (with_reducible first | exact HB.out | apply below_alloc | apply pw_below_drewN | apply below_drew1) | exact HB.out)) hb); clear HB; have HB := n0_; clear n0_; (try clear hb); (try clear hb2); (try clear hk); (try clear hi)))
    go_ret
    exact ⟨by first | rfl | (simp [errW_none, errW_some] <;> rfl) | (simp [*, errW_none, errW_some] <;> rfl), by repeat (first | (with_reducible first | exact HB.out | apply below_alloc | apply pw_below_drewN | apply below_drew1) | exact HB.out)⟩

end Go.Proofs.YthaegbiblblccaaGreatDoor.XEnt
end
