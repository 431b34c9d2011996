/- ledger.Done of the given program: an entry that is done for a destination, or what is wrong. Conditions: those of (Dest).done. -/
import Derived.Test.YtmbigoeldobaiaaDoorGBox
import Derived.Test.YtmbigoeldobaiaaDoorGClone
import Derived.Test.YtmbigoeldobaiaaDoorGPlace
import Derived.Deep.RegionHeld3
import Derived.Test.YtmbigoeldobaiaaDoorXMrkP1
namespace Go.Proofs.YtmbigoeldobaiaaDoor.XMrk
open Go Go.RowKit Go.Proofs.YtmbigoeldobaiaaDoorW.PrintWords Go.Proofs.YtmbigoeldobaiaaDoorW.PrintLast Go.Proofs.YtmbigoeldobaiaaDoorW.PrintMore Go.Proofs.YtmbigoeldobaiaaDoor.Num
set_option linter.unusedVariables false
set_option linter.unusedSimpArgs false
def doneD (q : ByteArray × Int × Int × List Int × Int × Int × Int × Int) (kind : Int) : D := if kind = 97 then ⟨q.1, q.2.1, q.2.2.1, q.2.2.2.1, IntKind.u64.wrap (q.2.2.2.2.1 + q.2.2.2.2.2.2.2), q.2.2.2.2.2.1, q.2.2.2.2.2.2.1⟩ else ⟨q.1, q.2.1, q.2.2.1, q.2.2.2.1, q.2.2.2.2.1, q.2.2.2.2.2.1, IntKind.u64.wrap (q.2.2.2.2.2.2.1 + q.2.2.2.2.2.2.2)⟩
def ledger_Done.f (k : Nat) (a0_0 a0_1 : Int) (l0_2 : List D) (a1 : ByteArray) (a2 a3 : Int) : Option (Int × Int × List D × Int) :=
  if plN l0_2 a1 < l0_2.length then
    if a3 = 97 ∨ a3 = 114 then
      (ledger_Dest_waits.f k (rd_T55 l0_2 (plN l0_2 a1 : Int)).f0 (rd_T55 l0_2 (plN l0_2 a1 : Int)).f1 (rd_T55 l0_2 (plN l0_2 a1 : Int)).f2 (rd_T55 l0_2 (plN l0_2 a1 : Int)).f3 (rd_T55 l0_2 (plN l0_2 a1 : Int)).f4 (rd_T55 l0_2 (plN l0_2 a1 : Int)).f5 (rd_T55 l0_2 (plN l0_2 a1 : Int)).f6 a2 a0_1).bind fun t =>
        if t = true then
          if l0_2.length ≤ 1000000 then
            (ledger_Dest_done.f k (rd_T55 l0_2 (plN l0_2 a1 : Int)).f0 (rd_T55 l0_2 (plN l0_2 a1 : Int)).f1 (rd_T55 l0_2 (plN l0_2 a1 : Int)).f2 (rd_T55 l0_2 (plN l0_2 a1 : Int)).f3 (rd_T55 l0_2 (plN l0_2 a1 : Int)).f4 (rd_T55 l0_2 (plN l0_2 a1 : Int)).f5 (rd_T55 l0_2 (plN l0_2 a1 : Int)).f6 a2 (a2 + 1) a0_1).bind fun q =>
              some (a0_0, a0_1, l0_2.set (plN l0_2 a1) (doneD q a3), 0)
          else none
        else some (0, 0, [], 13)
    else some (0, 0, [], 1)
  else some (0, 0, [], 5)
theorem far7_heap (W : World) (g : Nat) (b0 b1 b2 b3 b4 b5 b6 : Value) (k : Nat) (h : k ≠ g) : (((((((W.setCell ⟨g, 0, none⟩ b0).setCell ⟨g, 1, none⟩ b1).setCell ⟨g, 2, none⟩ b2).setCell ⟨g, 3, none⟩ b3).setCell ⟨g, 4, none⟩ b4).setCell ⟨g, 5, none⟩ b5).setCell ⟨g, 6, none⟩ b6).heap[k]? = W.heap[k]? := by
  refine (Below.heap_setCell _ _ _ k h).trans ?_
  refine (Below.heap_setCell _ _ _ k h).trans ?_
  refine (Below.heap_setCell _ _ _ k h).trans ?_
  refine (Below.heap_setCell _ _ _ k h).trans ?_
  refine (Below.heap_setCell _ _ _ k h).trans ?_
  refine (Below.heap_setCell _ _ _ k h).trans ?_
  exact Below.heap_setCell _ _ _ k h
theorem far7_below {B : Nat} {w W : World} {g : Nat} (h : Below B w W) (h2 : B ≤ g) (b0 b1 b2 b3 b4 b5 b6 : Value) : Below B w (((((((W.setCell ⟨g, 0, none⟩ b0).setCell ⟨g, 1, none⟩ b1).setCell ⟨g, 2, none⟩ b2).setCell ⟨g, 3, none⟩ b3).setCell ⟨g, 4, none⟩ b4).setCell ⟨g, 5, none⟩ b5).setCell ⟨g, 6, none⟩ b6) :=
  ((((((h.setCell h2 _).setCell h2 _).setCell h2 _).setCell h2 _).setCell h2 _).setCell h2 _).setCell h2 _
theorem bc7 {w : World} {g : Nat} {t : TypeId} {x0 x1 x2 x3 x4 x5 x6 : Value} (h : w.heap[g]? = some (.cells #[x0, x1, x2, x3, x4, x5, x6] t (0, 0))) : w.cell? ⟨g, 0, none⟩ = some x0 ∧ w.cell? ⟨g, 1, none⟩ = some x1 ∧ w.cell? ⟨g, 2, none⟩ = some x2 ∧ w.cell? ⟨g, 3, none⟩ = some x3 ∧ w.cell? ⟨g, 4, none⟩ = some x4 ∧ w.cell? ⟨g, 5, none⟩ = some x5 ∧ w.cell? ⟨g, 6, none⟩ = some x6 ∧ w.frozen? ⟨g, 0, none⟩ = false ∧ w.frozen? ⟨g, 1, none⟩ = false ∧ w.frozen? ⟨g, 2, none⟩ = false ∧ w.frozen? ⟨g, 3, none⟩ = false ∧ w.frozen? ⟨g, 4, none⟩ = false ∧ w.frozen? ⟨g, 5, none⟩ = false ∧ w.frozen? ⟨g, 6, none⟩ = false :=
  ⟨(blk_cell h 0).trans rfl, (blk_cell h 1).trans rfl, (blk_cell h 2).trans rfl, (blk_cell h 3).trans rfl, (blk_cell h 4).trans rfl, (blk_cell h 5).trans rfl, (blk_cell h 6).trans rfl, blk_frozen h 0, blk_frozen h 1, blk_frozen h 2, blk_frozen h 3, blk_frozen h 4, blk_frozen h 5, blk_frozen h 6⟩
set_option maxHeartbeats 8000000 in
set_option maxRecDepth 100000 in
theorem ledger_Done.calls (k : Nat) (a0_0 : Int) (a0_1 : Int) (P0_2_ : Nat → Prop) (A0_2 : Option Addr) (c0_2 : Nat) (l0_2 : List D) (a1 : ByteArray) (a2 : Int) (a3 : Int) (r1 : Int) (r2 : Int) (r3 : List D) (r4 : Int) (w : World) (hs0_2 : Kd.V k55 55 w w.heap.size (fun k_ => P0_2_ k_) (.slice A0_2 l0_2.length c0_2) l0_2) (h : ledger_Done.f k a0_0 a0_1 l0_2 a1 a2 a3 = some (r1, r2, r3, r4)) :
    Calls Tryd.prog 20 #[.agg #[.int .u64 a0_0, .int .u64 a0_1, .slice A0_2 l0_2.length c0_2], .string a1, .int .u64 a2, .int .u8 a3] w fun e w' => ∃ v2_ : Value, e = .returned (.tuple #[.agg #[.int .u64 r1, .int .u64 r2, v2_], .int .i64 r4]) ∧ Kd.V k55 55 w' w.heap.size (fun k_ => (P0_2_ k_ ∨ w.heap.size ≤ k_)) v2_ r3 ∧ Below w.heap.size w w' := by
  unfold ledger_Done.f at h
  have HV0 := Aside0.mk (Kd.V_bound hs0_2)
  have hc0 := (Kd.V_reads' hs0_2).2.1
  have HC0 := Aside0.mk (Kd.V_reads' hs0_2).2.2
  clear hs0_2
  by_cases c1 : plN l0_2 a1 < l0_2.length
  · rw [if_pos c1] at h
    by_cases c2 : a3 = 97 ∨ a3 = 114
    · rw [if_pos c2] at h
      obtain ⟨t, hw, h⟩ := Option.bind_eq_some_iff.1 h
      have hpl := plI_pos c1
      obtain ⟨i, hi⟩ : ∃ i : Int, plI l0_2 a1 = i := ⟨_, rfl⟩
      have hi2 : i = (plN l0_2 a1 : Int) := by rw [← hi, hpl]
      have HI := Lib.hid hi
      have HI2 := Lib.hid hi2
      rw [← hi2] at h hw
      have p0 : 0 ≤ i := by omega
      have p1 : i < (l0_2.length : Int) := by omega
      have ci : decide (i < 0) = false := decide_eq_false (by omega)
      have ki : (a3 == 97) = false → (a3 == 114) = true := fun e => beq_iff_eq.2 (c2.resolve_left (fun e2 => by rw [e2] at e; cases e))
      have HW := Lib.hid hw
      have HH := Lib.hid h
      have hc2' := c2
      clear hpl hi hi2 hw h c1 c2
      have kk : (if (a3 != 97) = true then (a3 != 114) else false) = false := by
        rcases hc2' with rfl | rfl <;> rfl
      rcases hc2' with rfl | rfl
      all_goals
        go_enter Tryd.func20, Tryd.ntmps20
        go_wp2_with (go_at_call 32; refine (ledger_place.calls A0_2 c0_2 l0_2 a1 i _ (Kd.C_below HC0.out (below_alloc (below_alloc (Below.refl _ _) _) _)) hc0 (by rw [← HI.out]; rfl)).mono ?_; rintro e w2 ⟨rfl, hb2⟩; have HL := Aside0.mk (LB.step (LB.start w _ _) hb2); obtain ⟨hc0, hc1, hc2, hd0, hd1, hd2, hf1, hf2⟩ := HL.out.cells; clear hb2)
        obtain ⟨ad, A3, c3, e0, hx0, hx1, hx2, hx3, hx4, hx5, hx6, hx7, hx8⟩ := at_T55 (Kd.C_below HC0.out HL.out.below) i p0 p1
        cases e0
        have hw := HW.out
        have hh := HH.out
        obtain ⟨x, hx⟩ : ∃ x, rd_T55 l0_2 i = x := ⟨_, rfl⟩
        rw [hx] at hx0 hx1 hx2 hx3 hx4 hx5 hx6 hx7 hx8 hw hh
        have HX := Lib.hid hx
        have HW2 := Lib.hid hw
        have HH2 := Lib.hid hh
        have HR3 := Aside0.mk hx8
        have HC3 := Aside0.mk hx7
        have HF := Aside0.mk (fun W (hb : Below w2.heap.size w2 W) => show W.cell? ⟨w.heap.size, 1, none⟩ = some (.int .u64 a0_1) ∧ W.cell? ⟨w.heap.size, 2, none⟩ = some (.slice (some ad) l0_2.length c0_2) ∧ W.cell? (ad.add (i.toNat * 7)) = some (.string x.f0) ∧ W.cell? ⟨(ad.add (i.toNat * 7)).block, (ad.add (i.toNat * 7)).off + 1, none⟩ = some (.int .u64 x.f1) ∧ W.cell? ⟨(ad.add (i.toNat * 7)).block, (ad.add (i.toNat * 7)).off + 2, none⟩ = some (.int .u64 x.f2) ∧ W.cell? ⟨(ad.add (i.toNat * 7)).block, (ad.add (i.toNat * 7)).off + 3, none⟩ = some (.slice A3 x.f3.length c3) ∧ W.cell? ⟨(ad.add (i.toNat * 7)).block, (ad.add (i.toNat * 7)).off + 4, none⟩ = some (.int .u64 x.f4) ∧ W.cell? ⟨(ad.add (i.toNat * 7)).block, (ad.add (i.toNat * 7)).off + 5, none⟩ = some (.int .u64 x.f5) ∧ W.cell? ⟨(ad.add (i.toNat * 7)).block, (ad.add (i.toNat * 7)).off + 6, none⟩ = some (.int .u64 x.f6) from
          ⟨(hb.cell (World.block_lt_of_cell? _ _ hc1)).trans hc1, (hb.cell (World.block_lt_of_cell? _ _ hc2)).trans hc2, (hb.cell (World.block_lt_of_cell? _ _ hx0)).trans hx0, (hb.cell (World.block_lt_of_cell? _ _ hx1)).trans hx1, (hb.cell (World.block_lt_of_cell? _ _ hx2)).trans hx2, (hb.cell (World.block_lt_of_cell? _ _ hx3)).trans hx3, (hb.cell (World.block_lt_of_cell? _ _ hx4)).trans hx4, (hb.cell (World.block_lt_of_cell? _ _ hx5)).trans hx5, (hb.cell (World.block_lt_of_cell? _ _ hx6)).trans hx6⟩)
        have hI : Below w2.heap.size w2 w2 := Below.refl _ _
        clear hx0 hx1 hx2 hx3 hx4 hx5 hx6 hx7 hx8 hx hw hh hc0 hc1 hc2 hd0 hd1 hd2 hf1 hf2
        go_region_held3 (fun W => W.cell? ⟨w.heap.size, 1, none⟩ = some (.int .u64 a0_1) ∧ W.cell? ⟨w.heap.size, 2, none⟩ = some (.slice (some ad) l0_2.length c0_2) ∧ W.cell? (ad.add (i.toNat * 7)) = some (.string x.f0) ∧ W.cell? ⟨(ad.add (i.toNat * 7)).block, (ad.add (i.toNat * 7)).off + 1, none⟩ = some (.int .u64 x.f1) ∧ W.cell? ⟨(ad.add (i.toNat * 7)).block, (ad.add (i.toNat * 7)).off + 2, none⟩ = some (.int .u64 x.f2) ∧ W.cell? ⟨(ad.add (i.toNat * 7)).block, (ad.add (i.toNat * 7)).off + 3, none⟩ = some (.slice A3 x.f3.length c3) ∧ W.cell? ⟨(ad.add (i.toNat * 7)).block, (ad.add (i.toNat * 7)).off + 4, none⟩ = some (.int .u64 x.f4) ∧ W.cell? ⟨(ad.add (i.toNat * 7)).block, (ad.add (i.toNat * 7)).off + 5, none⟩ = some (.int .u64 x.f5) ∧ W.cell? ⟨(ad.add (i.toNat * 7)).block, (ad.add (i.toNat * 7)).off + 6, none⟩ = some (.int .u64 x.f6))
          (exact HF.out _ (by repeat (first | exact hI | apply below_drew)))
          (first | (go_at_call 38; refine (ledger_Dest_waits.calls k x.f0 x.f1 x.f2 A3 c3 x.f3 x.f4 x.f5 x.f6 a2 a0_1 t _ (Kd.C_below HR3.out (by first | exact hI | exact below_drew hI)) HC3.out HW2.out).mono ?_; rintro e w3 ⟨rfl, hb3⟩; have n0_ := below_step (by first | exact hI | exact below_drew hI) hb3; clear hI hb3; have hI := n0_; clear n0_))
        have HI3 := Aside0.mk hI
        have HL3 := Aside0.mk (HL.out.step hI)
        clear hI HF HL
        obtain ⟨hc0, hc1, hc2, hd0, hd1, hd2, hf1, hf2⟩ := HL3.out.cells
        cases t with
        | false =>
          have hh := HH2.out
          simp only [Bool.false_eq_true, if_false, Option.some.injEq, Prod.mk.injEq] at hh
          obtain ⟨rfl, rfl, rfl, rfl⟩ := hh
          go_wp2
          first
            | exact LB.ret rfl rfl (LB.setr3 HL3.out _ _ _) rfl rfl rfl ⟨_, rfl, Kd.V_nil _ _ _ _ _, (LB.setr3 HL3.out _ _ _).below⟩
            | exact LB.ret rfl rfl (LB.setr3 HL3.out.drew _ _ _) rfl rfl rfl ⟨_, rfl, Kd.V_nil _ _ _ _ _, (LB.setr3 HL3.out.drew _ _ _).below⟩
        | true =>
          have hh := HH2.out
          simp only [if_true] at hh
          by_cases c6 : l0_2.length ≤ 1000000
          · rw [if_pos c6] at hh
            obtain ⟨q, hq, hh⟩ := Option.bind_eq_some_iff.1 hh
            simp only [Option.some.injEq, Prod.mk.injEq] at hh
            obtain ⟨rfl, rfl, hr3, rfl⟩ := hh
            have HQ := Lib.hid hq
            have HR4 := Lib.hid hr3
            clear hq hr3
            obtain ⟨q1, q2, q3, q4, q5, q6, q7, q8⟩ := q
            have hpre : 0 ≤ a2 ∧ a2 ≤ 1000000000000 := by
              have e_ := HQ.out
              unfold ledger_Dest_done.f at e_
              by_cases hp_ : donePre x.f2 x.f3 a2 (a2 + 1) a0_1
              · exact hp_.2.2.2.1
              · rw [if_neg hp_] at e_; cases e_
            have hwr : IntKind.u64.wrap (a2 + 1) = a2 + 1 := u64_id (by omega) (by omega)
            have hlt3 := HL3.out.lt
            have hge3 := HL3.out.below.size
            go_wp2_with (first
              | (go_at_call 39; go_must (refine (ledger_Dest_39.calls (fun k_ => P0_2_ k_ ∧ k_ < w.heap.size) (some ad) c0_2 l0_2 l0_2 w3 (show Kd.V k55 55 w3 w3.heap.size (fun k_ => P0_2_ k_ ∧ k_ < w.heap.size) _ _ from Kd.V_below HV0.out HL3.out.below) (if_pos c6)).mono ?_; rintro e w4 ⟨v4, rfl, hN4, hb4⟩; obtain ⟨g, cap, hv4, hg4, hg5, _⟩ := Kd.N_form hN4 (by omega); subst hv4; have HL4 := Aside0.mk (HL3.out.step hb4); have HN4 := Aside0.mk hN4; clear hc0 hc1 hc2 hd0 hd1 hd2 hf1 hf2 hN4 hb4; obtain ⟨hc0, hc1, hc2, hd0, hd1, hd2, hf1, hf2⟩ := HL4.out.cells)))
            have HL5 := Aside0.mk (LB.setb (lb' := #[.int .u64 a0_0, .int .u64 a0_1, .slice (some ⟨g, 0, none⟩) l0_2.length cap]) HL4.out 2 (.slice (some ⟨g, 0, none⟩) l0_2.length cap) rfl)
            have HN5 := Aside0.mk (Kd.N_far (p := ⟨w.heap.size, 2, none⟩) HN4.out (fun k_ hk_ => by simp only at hk_ ⊢; omega) (.slice (some ⟨g, 0, none⟩) l0_2.length cap))
            have hg6 : w3.heap.size ≤ g := hg4
            clear hc0 hc1 hc2 hd0 hd1 hd2 hf1 hf2 HN4 HL4 hg5
            generalize (w4.setCell ⟨w.heap.size, 2, none⟩ (.slice (some ⟨g, 0, none⟩) l0_2.length cap)) = w5 at HL5 HN5 ⊢
            obtain ⟨hc0, hc1, hc2, hd0, hd1, hd2, hf1, hf2⟩ := HL5.out.cells
            obtain ⟨c, hcl, hFK, hcc, hfz⟩ := Kd.N_elem HN5.out z55 i p0 p1
            have hxx : l0_2.getD i.toNat z55 = x := HX.out
            rw [hxx] at hFK
            obtain ⟨B3, e3, rfl, hl3, hF3⟩ := k55_openF hFK
            have hx0 : w5.cell? ⟨g, i.toNat * 7, none⟩ = some (.string x.f0) := hcc 0 _ rfl
            have hx1 : w5.cell? ⟨g, i.toNat * 7 + 1, none⟩ = some (.int .u64 x.f1) := hcc 1 _ rfl
            have hx2 : w5.cell? ⟨g, i.toNat * 7 + 2, none⟩ = some (.int .u64 x.f2) := hcc 2 _ rfl
            have hx3 : w5.cell? ⟨g, i.toNat * 7 + 3, none⟩ = some (.slice B3 x.f3.length e3) := hcc 3 _ rfl
            have hx4 : w5.cell? ⟨g, i.toNat * 7 + 4, none⟩ = some (.int .u64 x.f4) := hcc 4 _ rfl
            have hx5 : w5.cell? ⟨g, i.toNat * 7 + 5, none⟩ = some (.int .u64 x.f5) := hcc 5 _ rfl
            have hx6 : w5.cell? ⟨g, i.toNat * 7 + 6, none⟩ = some (.int .u64 x.f6) := hcc 6 _ rfl
            have HFZ := Aside0.mk hfz
            have HF3 := Aside0.mk hF3
            have HLN3 := Aside0.mk hl3
            have HF := Aside0.mk (fun W (hb : Below w5.heap.size w5 W) => show W.cell? ⟨w.heap.size, 1, none⟩ = some (.int .u64 a0_1) ∧ W.cell? ⟨w.heap.size, 2, none⟩ = some (.slice (some ⟨g, 0, none⟩) l0_2.length cap) ∧ W.cell? ⟨g, i.toNat * 7, none⟩ = some (.string x.f0) ∧ W.cell? ⟨g, i.toNat * 7 + 1, none⟩ = some (.int .u64 x.f1) ∧ W.cell? ⟨g, i.toNat * 7 + 2, none⟩ = some (.int .u64 x.f2) ∧ W.cell? ⟨g, i.toNat * 7 + 3, none⟩ = some (.slice B3 x.f3.length e3) ∧ W.cell? ⟨g, i.toNat * 7 + 4, none⟩ = some (.int .u64 x.f4) ∧ W.cell? ⟨g, i.toNat * 7 + 5, none⟩ = some (.int .u64 x.f5) ∧ W.cell? ⟨g, i.toNat * 7 + 6, none⟩ = some (.int .u64 x.f6) from
              ⟨(hb.cell (World.block_lt_of_cell? _ _ hc1)).trans hc1, (hb.cell (World.block_lt_of_cell? _ _ hc2)).trans hc2, (hb.cell (World.block_lt_of_cell? _ _ hx0)).trans hx0, (hb.cell (World.block_lt_of_cell? _ _ hx1)).trans hx1, (hb.cell (World.block_lt_of_cell? _ _ hx2)).trans hx2, (hb.cell (World.block_lt_of_cell? _ _ hx3)).trans hx3, (hb.cell (World.block_lt_of_cell? _ _ hx4)).trans hx4, (hb.cell (World.block_lt_of_cell? _ _ hx5)).trans hx5, (hb.cell (World.block_lt_of_cell? _ _ hx6)).trans hx6⟩)
            have hI : Below w5.heap.size w5 w5 := Below.refl _ _
            clear hx0 hx1 hx2 hx3 hx4 hx5 hx6 hxx hcc hcl hFK hfz hF3 hl3 hc0 hc1 hc2 hd0 hd1 hd2 hf1 hf2
            go_region_held3 (fun W => W.cell? ⟨w.heap.size, 1, none⟩ = some (.int .u64 a0_1) ∧ W.cell? ⟨w.heap.size, 2, none⟩ = some (.slice (some ⟨g, 0, none⟩) l0_2.length cap) ∧ W.cell? ⟨g, i.toNat * 7, none⟩ = some (.string x.f0) ∧ W.cell? ⟨g, i.toNat * 7 + 1, none⟩ = some (.int .u64 x.f1) ∧ W.cell? ⟨g, i.toNat * 7 + 2, none⟩ = some (.int .u64 x.f2) ∧ W.cell? ⟨g, i.toNat * 7 + 3, none⟩ = some (.slice B3 x.f3.length e3) ∧ W.cell? ⟨g, i.toNat * 7 + 4, none⟩ = some (.int .u64 x.f4) ∧ W.cell? ⟨g, i.toNat * 7 + 5, none⟩ = some (.int .u64 x.f5) ∧ W.cell? ⟨g, i.toNat * 7 + 6, none⟩ = some (.int .u64 x.f6))
              (exact HF.out _ (by repeat (first | (with_reducible exact hI) | (with_reducible apply below_drew) | (with_reducible apply below_alloc) | (with_reducible refine Below.setCell ?_ (by first | exact Nat.le_refl _ | exact hI.size) _))))
              (first | (go_at_call 40; refine (ledger_Dest_done.calls k x.f0 x.f1 x.f2 B3 e3 x.f3 x.f4 x.f5 x.f6 a2 (a2 + 1) a0_1 q1 q2 q3 q4 q5 q6 q7 q8 _ (Kd.C_below (Kd.F_now HF3.out) (by repeat (first | (with_reducible exact hI) | (with_reducible apply below_drew) | (with_reducible apply below_alloc)))) HLN3.out HQ.out).mono ?_; rintro e w6 ⟨v6, rfl, ⟨A6, e6, rfl, hl6, hF6⟩, hb6⟩; have HF6 := Aside0.mk hF6; have HLN6 := Aside0.mk hl6; (try (have hzb : w6.heap[w5.heap.size]? = some (.cells #[.string (⟨#[]⟩ : ByteArray), .int .u64 0, .int .u64 0, .slice none 0 0, .int .u64 0, .int .u64 0, .int .u64 0] 55 (0, 0)) := (hb6.block w5.heap.size (by simp)).trans (by first | exact blk_new _ _ | (simpa using blk_new w5.drew _) | (simpa using blk_new w5 _)); obtain ⟨hz0, hz1, hz2, hz3, hz4, hz5, hz6, hv0, hv1, hv2, hv3, hv4, hv5, hv6⟩ := bc7 hzb; have HZB := Aside0.mk hzb; clear hzb)); have n0_ := below_step (by repeat (first | (with_reducible exact hI) | (with_reducible apply below_drew) | (with_reducible apply below_alloc))) hb6; clear hF6 hl6 hI hb6; have hI := n0_; clear n0_))
            all_goals
              have hlt5 := HL5.out.lt
              have hsz5 := HL5.out.below.size
              have hsz6 := hI.size
              have hg7 : g < w5.heap.size := Kd.N_lt HN5.out g rfl
              have hw35 : w3.heap.size ≤ w5.heap.size := by omega
            all_goals first
              | (obtain ⟨T, hT⟩ : ∃ T, w6.heap.size = T := ⟨_, rfl⟩
                 obtain ⟨W7, hW⟩ : ∃ W7, w6.alloc (.cells #[.string q1, .int .u64 q2, .int .u64 q3, .slice A6 q4.length e6, .int .u64 q5, .int .u64 q6, .int .u64 q7] 55) = W7 := ⟨_, rfl⟩
                 rw [hW, hT]
                 have hL7 : LB w w.heap.size (w.heap.size + 1) #[.int .u64 a0_0, .int .u64 a0_1, .slice (some ⟨g, 0, none⟩) l0_2.length cap] #[.int .u64 0, .int .u64 0, .slice none 0 0] W7 := hW ▸ (HL5.out.step hI).alloc _
                 have hT7 : W7.heap[T]? = some (.cells #[.string q1, .int .u64 q2, .int .u64 q3, .slice A6 q4.length e6, .int .u64 q5, .int .u64 q6, .int .u64 q7] 55 (0, 0)) := by rw [← hW, ← hT]; exact blk_new w6 _
                 have hN7 : Kd.N k55 55 W7 w3.heap.size (fun k_ => ((P0_2_ k_ ∧ k_ < w.heap.size) ∨ w3.heap.size ≤ k_) ∧ k_ ≠ T) (.slice (some ⟨g, 0, none⟩) l0_2.length cap) l0_2 := by rw [← hW]; exact Kd.N_mono (Kd.N_alloc (Kd.N_bound (Kd.N_below HN5.out hI)) _) (fun k_ hk_ => ⟨hk_.1, by have := hk_.2; omega⟩)
                 have hF7 : Kd.F (Kd.int .u64) W7 (fun k_ => w5.heap.size ≤ k_ ∧ k_ ≠ T) A6 q4.length q4 := by rw [← hW]; exact Kd.F_mono (Kd.F_alloc (Kd.F_bound HF6.out) _) (fun k_ hk_ => ⟨by simpa using hk_.1, by have := hk_.2; omega⟩)
                 have hTg : w5.heap.size ≤ T := by omega
                 clear hW hT)
              | (obtain ⟨T, hT⟩ : ∃ T, w5.heap.size = T := ⟨_, rfl⟩
                 obtain ⟨W7, hW⟩ : ∃ W7, (((((((w6.setCell ⟨w5.heap.size, 0, none⟩ (.string q1)).setCell ⟨w5.heap.size, 1, none⟩ (.int .u64 q2)).setCell ⟨w5.heap.size, 2, none⟩ (.int .u64 q3)).setCell ⟨w5.heap.size, 3, none⟩ (.slice A6 q4.length e6)).setCell ⟨w5.heap.size, 4, none⟩ (.int .u64 q5)).setCell ⟨w5.heap.size, 5, none⟩ (.int .u64 q6)).setCell ⟨w5.heap.size, 6, none⟩ (.int .u64 q7)) = W7 := ⟨_, rfl⟩
                 rw [hW, hT]
                 have hL7 : LB w w.heap.size (w.heap.size + 1) #[.int .u64 a0_0, .int .u64 a0_1, .slice (some ⟨g, 0, none⟩) l0_2.length cap] #[.int .u64 0, .int .u64 0, .slice none 0 0] W7 := hW ▸ ⟨far7_below (HL5.out.step hI).below (by omega) _ _ _ _ _ _ _, HL5.out.ge, (far7_heap _ _ _ _ _ _ _ _ _ _ (by omega)).trans (HL5.out.step hI).box, (far7_heap _ _ _ _ _ _ _ _ _ _ (by omega)).trans (HL5.out.step hI).res⟩
                 have hT7 : W7.heap[T]? = some (.cells #[.string q1, .int .u64 q2, .int .u64 q3, .slice A6 q4.length e6, .int .u64 q5, .int .u64 q6, .int .u64 q7] 55 (0, 0)) := by rw [← hW, ← hT]; exact put7 _ _ _ _ _ _ _ HZB.out
                 have hN7 : Kd.N k55 55 W7 w3.heap.size (fun k_ => ((P0_2_ k_ ∧ k_ < w.heap.size) ∨ w3.heap.size ≤ k_) ∧ k_ ≠ T) (.slice (some ⟨g, 0, none⟩) l0_2.length cap) l0_2 := by rw [← hW]; exact Kd.N_step (Kd.N_below (Kd.N_mono (Kd.N_bound HN5.out) (fun k_ hk_ => ⟨hk_.1, by have := hk_.2; omega⟩)) hI) (fun k_ hk_ _ => far7_heap _ _ _ _ _ _ _ _ _ k_ (by rw [hT]; exact hk_.2))
                 have hF7 : Kd.F (Kd.int .u64) W7 (fun k_ => w5.heap.size ≤ k_ ∧ k_ ≠ T) A6 q4.length q4 := by rw [← hW]; exact Kd.F_step (Kd.F_mono HF6.out (fun k_ hk_ => by simp at hk_; exact ⟨by omega, by omega⟩)) (fun k_ hk_ _ => far7_heap _ _ _ _ _ _ _ _ _ k_ (by rw [hT]; exact hk_.2))
                 have hTg : w5.heap.size ≤ T := by omega
                 clear hW hT)
            all_goals
              obtain ⟨hc0, hc1, hc2, hd0, hd1, hd2, hf1, hf2⟩ := hL7.cells
              obtain ⟨ht0, ht1, ht2, ht3, ht4, ht5, ht6, hu0, hu1, hu2, hu3, hu4, hu5, hu6⟩ := bc7 hT7
              obtain ⟨c, hcl, hFK, hcc, hfz⟩ := Kd.N_elem hN7 z55 i p0 p1
              have hxx : l0_2.getD i.toNat z55 = x := HX.out
              rw [hxx] at hFK
              obtain ⟨B4, e4, rfl, _, _⟩ := k55_openF hFK
              have hx0 : W7.cell? ⟨g, i.toNat * 7, none⟩ = some (.string x.f0) := hcc 0 _ rfl
              have hx1 : W7.cell? ⟨g, i.toNat * 7 + 1, none⟩ = some (.int .u64 x.f1) := hcc 1 _ rfl
              have hx2 : W7.cell? ⟨g, i.toNat * 7 + 2, none⟩ = some (.int .u64 x.f2) := hcc 2 _ rfl
              have hx3 : W7.cell? ⟨g, i.toNat * 7 + 3, none⟩ = some (.slice B4 x.f3.length e4) := hcc 3 _ rfl
              have hx4 : W7.cell? ⟨g, i.toNat * 7 + 4, none⟩ = some (.int .u64 x.f4) := hcc 4 _ rfl
              have hx5 : W7.cell? ⟨g, i.toNat * 7 + 5, none⟩ = some (.int .u64 x.f5) := hcc 5 _ rfl
              have hx6 : W7.cell? ⟨g, i.toNat * 7 + 6, none⟩ = some (.int .u64 x.f6) := hcc 6 _ rfl
              have hy0 : W7.frozen? ⟨g, i.toNat * 7, none⟩ = false := hfz 0
              have hy1 : W7.frozen? ⟨g, i.toNat * 7 + 1, none⟩ = false := hfz 1
              have hy2 : W7.frozen? ⟨g, i.toNat * 7 + 2, none⟩ = false := hfz 2
              have hy3 : W7.frozen? ⟨g, i.toNat * 7 + 3, none⟩ = false := hfz 3
              have hy4 : W7.frozen? ⟨g, i.toNat * 7 + 4, none⟩ = false := hfz 4
              have hy5 : W7.frozen? ⟨g, i.toNat * 7 + 5, none⟩ = false := hfz 5
              have hy6 : W7.frozen? ⟨g, i.toNat * 7 + 6, none⟩ = false := hfz 6
              have hn1 : T ≠ w.heap.size := by omega
              have hn2 : T ≠ w.heap.size + 1 := by omega
              have hn3 : T ≠ g := by omega
              have hn4 : g ≠ w.heap.size := by omega
              have hn5 : g ≠ w.heap.size + 1 := by omega
              have HT7 := Aside0.mk hT7
              have HL7 := Aside0.mk hL7
              have HN7 := Aside0.mk hN7
              have HF7 := Aside0.mk hF7
              have HG := Aside0.mk (show w.heap.size ≤ T ∧ w.heap.size ≤ g ∧ w3.heap.size ≤ w5.heap.size ∧ w5.heap.size ≤ T ∧ g < w5.heap.size by omega)
              clear hT7 hL7 hN7 hF7 hcc hfz hcl hFK hxx hI HF HF6 HLN3 HF3 HFZ hTg
              go_wp2
              first
                | (have hL8 := LB.far HL7.out HG.out.1 hn1.symm hn2.symm 4 (.int .u64 (IntKind.u64.wrap (q5 + q8)))
                   have hN8 := Kd.N_far (p := ⟨T, 4, none⟩) HN7.out (fun k_ hk_ => hk_.2) (.int .u64 (IntKind.u64.wrap (q5 + q8)))
                   have hF8 := Kd.F_far (p := ⟨T, 4, none⟩) HF7.out (fun k_ hk_ => hk_.2) (.int .u64 (IntKind.u64.wrap (q5 + q8)))
                   have hN9 := row_store7 (x := ⟨q1, q2, q3, q4, IntKind.u64.wrap (q5 + q8), q6, q7⟩) hN8 p0 p1 HLN6.out hF8 (fun k_ hk_ => ⟨⟨.inr (Nat.le_trans HG.out.2.2.1 hk_.1), hk_.2⟩, Nat.ne_of_gt (Nat.lt_of_lt_of_le HG.out.2.2.2.2 hk_.1)⟩)
                   have hr3 : l0_2.set i.toNat ⟨q1, q2, q3, q4, IntKind.u64.wrap (q5 + q8), q6, q7⟩ = r3 := by rw [← HR4.out, HI2.out, Int.toNat_natCast]; rfl
                   rw [hr3] at hN9
                   have hV9 := Kd.N_V (base' := w.heap.size) hN9
                   have hLf := LB.setr3 (LB.seven hL8 HG.out.2.1 hn4.symm hn5.symm (i.toNat * 7) (.string q1) (.int .u64 q2) (.int .u64 q3) (.slice A6 q4.length e6) (.int .u64 (IntKind.u64.wrap (q5 + q8))) (.int .u64 q6) (.int .u64 q7)) (.int .u64 a0_0) (.int .u64 a0_1) (.slice (some ⟨g, 0, none⟩) l0_2.length cap)
                   have hrr : ∀ k_, (((P0_2_ k_ ∧ k_ < w.heap.size) ∨ w3.heap.size ≤ k_) ∧ k_ ≠ T) → k_ ≠ w.heap.size + 1 := fun k_ hk_ => by have := hlt3.2; omega
                   have hVf := Kd.V_mono (Kd.V_far (p := ⟨w.heap.size + 1, 2, none⟩) (Kd.V_far (p := ⟨w.heap.size + 1, 1, none⟩) (Kd.V_far (p := ⟨w.heap.size + 1, 0, none⟩) hV9 hrr (.int .u64 a0_0)) hrr (.int .u64 a0_1)) hrr (.slice (some ⟨g, 0, none⟩) l0_2.length cap)) (ok' := fun k_ => P0_2_ k_ ∨ w.heap.size ≤ k_) (fun k_ hk_ => by rcases hk_.1 with h_ | h_; exact .inl h_.1; exact .inr (by omega))
                   exact LB.ret rfl rfl hLf rfl rfl rfl ⟨_, rfl, hVf, hLf.below⟩)
                | (have hL8 := LB.far HL7.out HG.out.1 hn1.symm hn2.symm 6 (.int .u64 (IntKind.u64.wrap (q7 + q8)))
                   have hN8 := Kd.N_far (p := ⟨T, 6, none⟩) HN7.out (fun k_ hk_ => hk_.2) (.int .u64 (IntKind.u64.wrap (q7 + q8)))
                   have hF8 := Kd.F_far (p := ⟨T, 6, none⟩) HF7.out (fun k_ hk_ => hk_.2) (.int .u64 (IntKind.u64.wrap (q7 + q8)))
                   have hN9 := row_store7 (x := ⟨q1, q2, q3, q4, q5, q6, IntKind.u64.wrap (q7 + q8)⟩) hN8 p0 p1 HLN6.out hF8 (fun k_ hk_ => ⟨⟨.inr (Nat.le_trans HG.out.2.2.1 hk_.1), hk_.2⟩, Nat.ne_of_gt (Nat.lt_of_lt_of_le HG.out.2.2.2.2 hk_.1)⟩)
                   have hr3 : l0_2.set i.toNat ⟨q1, q2, q3, q4, q5, q6, IntKind.u64.wrap (q7 + q8)⟩ = r3 := by rw [← HR4.out, HI2.out, Int.toNat_natCast]; rfl
                   rw [hr3] at hN9
                   have hV9 := Kd.N_V (base' := w.heap.size) hN9
                   have hLf := LB.setr3 (LB.seven hL8 HG.out.2.1 hn4.symm hn5.symm (i.toNat * 7) (.string q1) (.int .u64 q2) (.int .u64 q3) (.slice A6 q4.length e6) (.int .u64 q5) (.int .u64 q6) (.int .u64 (IntKind.u64.wrap (q7 + q8)))) (.int .u64 a0_0) (.int .u64 a0_1) (.slice (some ⟨g, 0, none⟩) l0_2.length cap)
                   have hrr : ∀ k_, (((P0_2_ k_ ∧ k_ < w.heap.size) ∨ w3.heap.size ≤ k_) ∧ k_ ≠ T) → k_ ≠ w.heap.size + 1 := fun k_ hk_ => by have := hlt3.2; omega
                   have hVf := Kd.V_mono (Kd.V_far (p := ⟨w.heap.size + 1, 2, none⟩) (Kd.V_far (p := ⟨w.heap.size + 1, 1, none⟩) (Kd.V_far (p := ⟨w.heap.size + 1, 0, none⟩) hV9 hrr (.int .u64 a0_0)) hrr (.int .u64 a0_1)) hrr (.slice (some ⟨g, 0, none⟩) l0_2.length cap)) (ok' := fun k_ => P0_2_ k_ ∨ w.heap.size ≤ k_) (fun k_ hk_ => by rcases hk_.1 with h_ | h_; exact .inl h_.1; exact .inr (by omega))
                   exact LB.ret rfl rfl hLf rfl rfl rfl ⟨_, rfl, hVf, hLf.below⟩)
          · rw [if_neg c6] at hh; cases hh
    · rw [if_neg c2] at h
      simp only [Option.some.injEq, Prod.mk.injEq] at h
      obtain ⟨rfl, rfl, rfl, rfl⟩ := h
      have hpl := plI_pos c1
      obtain ⟨i, hi⟩ : ∃ i : Int, plI l0_2 a1 = i := ⟨_, rfl⟩
      have hi0 : 0 ≤ i := by rw [← hi, hpl]; omega
      have HI := Lib.hid hi
      have ki1 : (a3 == 97) = false := beq_eq_false_iff_ne.2 (fun e => c2 (.inl e))
      have ki2 : (a3 == 114) = false := beq_eq_false_iff_ne.2 (fun e => c2 (.inr e))
      have kj1 : (a3 != 97) = true := by rw [bne_iff_ne]; exact fun e => c2 (.inl e)
      have kj2 : (a3 != 114) = true := by rw [bne_iff_ne]; exact fun e => c2 (.inr e)
      have ci : decide (i < 0) = false := decide_eq_false (by omega)
      clear hpl hi c1 c2
      go_enter Tryd.func20, Tryd.ntmps20
      go_wp2_with (go_at_call 32; refine (ledger_place.calls A0_2 c0_2 l0_2 a1 i _ (Kd.C_below HC0.out (below_alloc (below_alloc (Below.refl _ _) _) _)) hc0 (by rw [← HI.out]; rfl)).mono ?_; rintro e w2 ⟨rfl, hb2⟩; have HL := Aside0.mk (LB.step (LB.start w _ _) hb2); obtain ⟨hc0, hc1, hc2, hd0, hd1, hd2, hf1, hf2⟩ := HL.out.cells; clear hb2)
      exact LB.ret rfl rfl (LB.setr3 HL.out _ _ _) rfl rfl rfl ⟨_, rfl, Kd.V_nil _ _ _ _ _, (LB.setr3 HL.out _ _ _).below⟩
  · rw [if_neg c1] at h
    simp only [Option.some.injEq, Prod.mk.injEq] at h
    obtain ⟨rfl, rfl, rfl, rfl⟩ := h
    have hpl := plI_neg c1
    have HI := Lib.hid hpl
    clear hpl c1
    go_enter Tryd.func20, Tryd.ntmps20
    go_wp2_with (go_at_call 32; refine (ledger_place.calls A0_2 c0_2 l0_2 a1 (-1) _ (Kd.C_below HC0.out (below_alloc (below_alloc (Below.refl _ _) _) _)) hc0 (by rw [← HI.out]; rfl)).mono ?_; rintro e w2 ⟨rfl, hb2⟩; have HL := Aside0.mk (LB.step (LB.start w _ _) hb2); obtain ⟨hc0, hc1, hc2, hd0, hd1, hd2, hf1, hf2⟩ := HL.out.cells; clear hb2)
    exact LB.ret rfl rfl (LB.setr3 HL.out _ _ _) rfl rfl rfl ⟨_, rfl, Kd.V_nil _ _ _ _ _, (LB.setr3 HL.out _ _ _).below⟩
end Go.Proofs.YtmbigoeldobaiaaDoor.XMrk
