/- ledger.Evict of the given program: the entries below a number are gone, or what is wrong. Conditions: those of (Dest).done. -/
import Derived.Test.YtmbigoeldobaiaaDoorGDoneL
import Derived.Test.YtmbigoeldobaiaaDoorXMrkP1
namespace Go.Proofs.YtmbigoeldobaiaaDoor.XMrk
open Go Go.RowKit Go.Proofs.YtmbigoeldobaiaaDoorW.PrintWords Go.Proofs.YtmbigoeldobaiaaDoorW.PrintLast Go.Proofs.YtmbigoeldobaiaaDoorW.PrintMore Go.Proofs.YtmbigoeldobaiaaDoor.Num
set_option linter.unusedVariables false
set_option linter.unusedSimpArgs false
def evD (k : Nat) (tt next : Int) (d : D) : Option D := (ledger_Dest_done.f k d.f0 d.f1 d.f2 d.f3 d.f4 d.f5 d.f6 0 tt next).bind fun q => some ⟨q.1, q.2.1, q.2.2.1, q.2.2.2.1, q.2.2.2.2.1, IntKind.u64.wrap (q.2.2.2.2.2.1 + q.2.2.2.2.2.2.2), q.2.2.2.2.2.2.1⟩
def evL (k : Nat) (tt next : Int) : List D → Option (List D)
 | [] => some []
 | d :: r => (evD k tt next d).bind fun x => (evL k tt next r).bind fun l => some (x :: l)
theorem evL_at (k : Nat) (tt next : Int) : ∀ (ds l : List D), evL k tt next ds = some l → l.length = ds.length ∧ ∀ (i : Nat) (h : i < ds.length) (h2 : i < l.length), evD k tt next ds[i] = some l[i]
 | [], l, h => by
  simp only [evL, Option.some.injEq] at h
  subst h
  exact ⟨rfl, fun i h => by simp at h⟩
 | d :: r, l, h => by
  obtain ⟨x, hx, h⟩ := Option.bind_eq_some_iff.1 h
  obtain ⟨l', hl, h⟩ := Option.bind_eq_some_iff.1 h
  simp only [Option.some.injEq] at h
  subst h
  obtain ⟨e, ih⟩ := evL_at k tt next r l' hl
  refine ⟨by simp [e], fun i h1 h2 => ?_⟩
  cases i with
  | zero => exact hx
  | succ i => exact ih i (by simpa using h1) (by simpa using h2)
theorem evL_step (l d : List D) (i : Nat) (h : i < l.length) (h0 : i < d.length) : (l.take i ++ d.drop i).set i l[i] = l.take (i + 1) ++ d.drop (i + 1) := by
 rw [List.drop_eq_getElem_cons h0, List.set_append_right _ _ (by rw [List.length_take]; omega), List.length_take, Nat.min_eq_left (by omega), Nat.sub_self, List.set_cons_zero, ← List.take_append_getElem h, List.append_assoc]
 rfl
def ledger_Evict.f (k : Nat) (a0_0 a0_1 : Int) (l0_2 : List D) (a1 : Int) : Option (Int × Int × List D × Int) :=
 if a1 < a0_0 then some (0, 0, [], 1) else if a1 > a0_1 then some (0, 0, [], 1) else if l0_2.length ≤ 1000000 then (evL k a1 a0_1 l0_2).bind fun l => some (a1, a0_1, l, 0) else none
set_option maxHeartbeats 8000000 in
set_option maxRecDepth 100000 in
theorem ledger_Evict.calls (k : Nat) (a0_0 : Int) (a0_1 : Int) (P0_2_ : Nat → Prop) (A0_2 : Option Addr) (c0_2 : Nat) (l0_2 : List D) (a1 : Int) (r1 : Int) (r2 : Int) (r3 : List D) (r4 : Int) (w : World) (hs0_2 : Kd.V k55 55 w w.heap.size (fun k_ => P0_2_ k_) (.slice A0_2 l0_2.length c0_2) l0_2) (h : ledger_Evict.f k a0_0 a0_1 l0_2 a1 = some (r1, r2, r3, r4)) :
  Calls Tryd.prog 22 #[.agg #[.int .u64 a0_0, .int .u64 a0_1, .slice A0_2 l0_2.length c0_2], .int .u64 a1] w fun e w' => ∃ v2_ : Value, e = .returned (.tuple #[.agg #[.int .u64 r1, .int .u64 r2, v2_], .int .i64 r4]) ∧ Kd.V k55 55 w' w.heap.size (fun k_ => (P0_2_ k_ ∨ w.heap.size ≤ k_)) v2_ r3 ∧ Below w.heap.size w w' := by
 unfold ledger_Evict.f at h
 have HV0 := Aside0.mk (Kd.V_bound hs0_2)
 clear hs0_2
 by_cases c1 : a1 < a0_0
 ·rw [if_pos c1] at h
  simp only [Option.some.injEq, Prod.mk.injEq] at h
  obtain ⟨rfl, rfl, rfl, rfl⟩ := h
  have cb := decide_eq_true c1
  go_enter Tryd.func22, Tryd.ntmps22
  go_wp2
  exact LB.ret rfl rfl (LB.start w _ #[.int .u64 0, .int .u64 0, .slice none 0 0]) rfl rfl rfl ⟨_, rfl, Kd.V_nil _ _ _ _ _, (LB.start w _ _).below⟩
 ·rw [if_neg c1] at h
  have cb := decide_eq_false c1
  by_cases c2 : a1 > a0_1
  ·rw [if_pos c2] at h
   simp only [Option.some.injEq, Prod.mk.injEq] at h
   obtain ⟨rfl, rfl, rfl, rfl⟩ := h
   have cb2 : decide (a0_1 < a1) = true := decide_eq_true c2
   go_enter Tryd.func22, Tryd.ntmps22
   go_wp2
   exact LB.ret rfl rfl (LB.start w _ #[.int .u64 0, .int .u64 0, .slice none 0 0]) rfl rfl rfl ⟨_, rfl, Kd.V_nil _ _ _ _ _, (LB.start w _ _).below⟩
  ·rw [if_neg c2] at h
   have cb2 : decide (a0_1 < a1) = false := decide_eq_false c2
   by_cases c3 : l0_2.length ≤ 1000000
   ·rw [if_pos c3] at h
    obtain ⟨l, hl, h⟩ := Option.bind_eq_some_iff.1 h
    simp only [Option.some.injEq, Prod.mk.injEq] at h
    obtain ⟨rfl, rfl, rfl, rfl⟩ := h
    obtain ⟨hll, hat⟩ := evL_at k a1 a0_1 l0_2 l hl
    have HAT := Lib.hid hat
    have HLL := Lib.hid hll
    have HC3 := Lib.hid c3
    clear hl hat hll c1 c2 c3
    go_enter Tryd.func22, Tryd.ntmps22
    go_wp2_with fail
    have HL3 := Aside0.mk (LB.start w #[.int .u64 a1, .int .u64 a0_1, .slice A0_2 l0_2.length c0_2] #[.int .u64 0, .int .u64 0, .slice none 0 0])
    generalize ((w.alloc (.cells #[.int .u64 a1, .int .u64 a0_1, .slice A0_2 l0_2.length c0_2] 25)).alloc (.cells #[.int .u64 0, .int .u64 0, .slice none 0 0] 25)) = w3 at HL3 ⊢
    have hlt3 := HL3.out.lt
    refine (ledger_Dest_39.calls (fun k_ => P0_2_ k_ ∧ k_ < w.heap.size) A0_2 c0_2 l0_2 l0_2 w3 (show Kd.V k55 55 w3 w3.heap.size (fun k_ => P0_2_ k_ ∧ k_ < w.heap.size) _ _ from Kd.V_below HV0.out HL3.out.below) (if_pos HC3.out)).mono ?_
    rintro e w4 ⟨v4, rfl, hN4, hb4⟩
    obtain ⟨Ag, cap, hv4⟩ := Kd.N_slice hN4
    subst hv4
    have HL4 := Aside0.mk (HL3.out.step hb4)
    have HN4 := Aside0.mk hN4
    have hsz4 := hb4.size
    clear hN4 hb4
    obtain ⟨hc0, hc1, hc2, hd0, hd1, hd2, hf1, hf2⟩ := HL4.out.cells
    go_wp2
    have HL5 := Aside0.mk (LB.setb (lb' := #[.int .u64 a1, .int .u64 a0_1, .slice Ag l0_2.length cap]) HL4.out 2 (.slice Ag l0_2.length cap) rfl)
    have HN5 := Aside0.mk (Kd.N_far (p := ⟨w.heap.size, 2, none⟩) HN4.out (fun k_ hk_ => by simp only at hk_ ⊢; omega) (.slice Ag l0_2.length cap))
    clear hc0 hc1 hc2 hd0 hd1 hd2 hf1 hf2 HN4 HL4
    generalize (w4.setCell ⟨w.heap.size, 2, none⟩ (.slice Ag l0_2.length cap)) = w5 at HL5 HN5 ⊢
    obtain ⟨n0, hn0⟩ : ∃ n0, l0_2.length = n0 := ⟨_, rfl⟩
    have HN0 := Lib.hid hn0
    have hn63 : n0 ≤ 1000000 := by have := HC3.out; omega
    rw [hn0] at HL5 HN5 ⊢
    clear hn0
    go_loopg [30] (n0 + 1) (fun kq v30 W => ∃ (i : Nat) (cur : List D), v30 = .int .i64 (i : Int) ∧ Aside0 (i + kq = n0 + 1 ∧ i ≤ n0 ∧ cur.length = n0 ∧ cur = l.take i ++ l0_2.drop i) ∧ Aside0 (LB w w.heap.size (w.heap.size + 1) #[.int .u64 a1, .int .u64 a0_1, .slice Ag n0 cap] #[.int .u64 0, .int .u64 0, .slice none 0 0] W) ∧ Aside0 (Kd.N k55 55 W w3.heap.size (fun k_ => (P0_2_ k_ ∧ k_ < w.heap.size) ∨ w3.heap.size ≤ k_) (.slice Ag n0 cap) cur))
    case atStart => exact ⟨0, l0_2, rfl, ⟨by omega, by omega, HN0.out, by simp⟩, HL5, HN5⟩
    case round =>
     obtain ⟨i, cur, rfl, HA, HL6, HN6⟩ := hrel
     clear HL5 HN5
     by_cases c : i < n0
     ·have cb3 := decide_eq_true (show (i : Int) < (n0 : Int) by omega)
      have cp : (0 : Int) ≤ (i : Int) := by omega
      have cl : (i : Int) < (n0 : Int) := by omega
      have hcl0 : cur.length = n0 := HA.out.2.2.1
      obtain ⟨g, cap', eg, hg1, hg2, _⟩ := Kd.N_form HN6.out (by omega)
      injection eg with eg eg1 eg2
      clear eg1 eg2
      subst eg
      have c4 : i < l0_2.length := by have := HN0.out; omega
      have c5 : i < l.length := by have := HN0.out; have := HLL.out; omega
      have hq := HAT.out i c4 c5
      obtain ⟨q, hq, hqe⟩ := Option.bind_eq_some_iff.1 hq
      obtain ⟨q1, q2, q3, q4, q5, q6, q7, q8⟩ := q
      have HQE := Lib.hid hqe
      obtain ⟨c, hcl, hFK, hcc, hfz⟩ := Kd.N_elem HN6.out z55 (i : Int) cp cl
      have hxx : cur.getD ((i : Int)).toNat z55 = l0_2[i] := by
       rw [Int.toNat_natCast, HA.out.2.2.2, List.getD_eq_getElem?_getD, List.getElem?_append_right (by rw [List.length_take]; omega), List.length_take, Nat.min_eq_left (by omega), Nat.sub_self, List.getElem?_drop, Nat.add_zero, List.getElem?_eq_getElem c4]; rfl
      rw [hxx] at hFK
      obtain ⟨x, hx⟩ : ∃ x, l0_2[i] = x := ⟨_, rfl⟩
      rw [hx] at hFK hq
      have HQ := Lib.hid hq
      obtain ⟨B3, e3, rfl, hl3, hF3⟩ := k55_openF hFK
      rw [Int.toNat_natCast] at hcc hfz
      have hx0 : wr.cell? ⟨g, i * 7, none⟩ = some (.string x.f0) := hcc 0 _ rfl
      have hx1 : wr.cell? ⟨g, i * 7 + 1, none⟩ = some (.int .u64 x.f1) := hcc 1 _ rfl
      have hx2 : wr.cell? ⟨g, i * 7 + 2, none⟩ = some (.int .u64 x.f2) := hcc 2 _ rfl
      have hx3 : wr.cell? ⟨g, i * 7 + 3, none⟩ = some (.slice B3 x.f3.length e3) := hcc 3 _ rfl
      have hx4 : wr.cell? ⟨g, i * 7 + 4, none⟩ = some (.int .u64 x.f4) := hcc 4 _ rfl
      have hx5 : wr.cell? ⟨g, i * 7 + 5, none⟩ = some (.int .u64 x.f5) := hcc 5 _ rfl
      have hx6 : wr.cell? ⟨g, i * 7 + 6, none⟩ = some (.int .u64 x.f6) := hcc 6 _ rfl
      have hy0 : wr.frozen? ⟨g, i * 7, none⟩ = false := hfz 0
      have hy1 : wr.frozen? ⟨g, i * 7 + 1, none⟩ = false := hfz 1
      have hy2 : wr.frozen? ⟨g, i * 7 + 2, none⟩ = false := hfz 2
      have hy3 : wr.frozen? ⟨g, i * 7 + 3, none⟩ = false := hfz 3
      have hy4 : wr.frozen? ⟨g, i * 7 + 4, none⟩ = false := hfz 4
      have hy5 : wr.frozen? ⟨g, i * 7 + 5, none⟩ = false := hfz 5
      have hy6 : wr.frozen? ⟨g, i * 7 + 6, none⟩ = false := hfz 6
      have hn4 : g ≠ w.heap.size := by omega
      have hn5 : g ≠ w.heap.size + 1 := by omega
      have hlt6 := HL6.out.lt
      have hn6 : w.heap.size ≠ wr.heap.size := by omega
      have hn7 : w.heap.size + 1 ≠ wr.heap.size := by omega
      have hn8 : g ≠ wr.heap.size := by omega
      have hn9 : wr.heap.size ≠ g := by omega
      have hb6 : w.heap.size < wr.heap.size := hlt6.1
      have hb7 : w.heap.size + 1 < wr.heap.size := hlt6.2
      have hc8 : (wr.alloc (.cells #[.string x.f0, .int .u64 x.f1, .int .u64 x.f2, .slice B3 x.f3.length e3, .int .u64 x.f4, .int .u64 x.f5, .int .u64 x.f6] 55)).cell? ⟨w.heap.size, 1, none⟩ = some (.int .u64 a0_1) := (LB.alloc HL6.out _).cells.2.1
      clear hlt6
      have HF3 := Aside0.mk hF3
      have HLN3 := Aside0.mk hl3
      have HX := Lib.hid hx
      obtain ⟨hc0, hc1, hc2, hd0, hd1, hd2, hf1, hf2⟩ := HL6.out.cells
      have HY := Aside0.mk (fun W (hb : Below wr.heap.size wr W) => show (W.cell? ⟨g, i * 7, none⟩ = some (.string x.f0) ∧ W.cell? ⟨g, i * 7 + 1, none⟩ = some (.int .u64 x.f1) ∧ W.cell? ⟨g, i * 7 + 2, none⟩ = some (.int .u64 x.f2) ∧ W.cell? ⟨g, i * 7 + 3, none⟩ = some (.slice B3 x.f3.length e3) ∧ W.cell? ⟨g, i * 7 + 4, none⟩ = some (.int .u64 x.f4) ∧ W.cell? ⟨g, i * 7 + 5, none⟩ = some (.int .u64 x.f5) ∧ W.cell? ⟨g, i * 7 + 6, none⟩ = some (.int .u64 x.f6)) ∧ (W.frozen? ⟨g, i * 7, none⟩ = false ∧ W.frozen? ⟨g, i * 7 + 1, none⟩ = false ∧ W.frozen? ⟨g, i * 7 + 2, none⟩ = false ∧ W.frozen? ⟨g, i * 7 + 3, none⟩ = false ∧ W.frozen? ⟨g, i * 7 + 4, none⟩ = false ∧ W.frozen? ⟨g, i * 7 + 5, none⟩ = false ∧ W.frozen? ⟨g, i * 7 + 6, none⟩ = false) from
       ⟨⟨(hb.cell (World.block_lt_of_cell? _ _ hx0)).trans hx0, (hb.cell (World.block_lt_of_cell? _ _ hx1)).trans hx1, (hb.cell (World.block_lt_of_cell? _ _ hx2)).trans hx2, (hb.cell (World.block_lt_of_cell? _ _ hx3)).trans hx3, (hb.cell (World.block_lt_of_cell? _ _ hx4)).trans hx4, (hb.cell (World.block_lt_of_cell? _ _ hx5)).trans hx5, (hb.cell (World.block_lt_of_cell? _ _ hx6)).trans hx6⟩,  (hb.frozen (p := ⟨g, i * 7, none⟩) hg2).trans hy0, (hb.frozen (p := ⟨g, i * 7 + 1, none⟩) hg2).trans hy1, (hb.frozen (p := ⟨g, i * 7 + 2, none⟩) hg2).trans hy2, (hb.frozen (p := ⟨g, i * 7 + 3, none⟩) hg2).trans hy3, (hb.frozen (p := ⟨g, i * 7 + 4, none⟩) hg2).trans hy4, (hb.frozen (p := ⟨g, i * 7 + 5, none⟩) hg2).trans hy5, (hb.frozen (p := ⟨g, i * 7 + 6, none⟩) hg2).trans hy6⟩)
      have HCL := Lib.hid hcl0
      clear hcl0
      clear hcc hfz hcl hFK hxx hx hq hqe hF3 hl3
      go_wp2_with (first
       | (go_at_call 40; refine (ledger_Dest_done.calls k x.f0 x.f1 x.f2 B3 e3 x.f3 x.f4 x.f5 x.f6 0 a1 a0_1 q1 q2 q3 q4 q5 q6 q7 q8 _ (Kd.C_below (Kd.F_now HF3.out) (below_alloc (Below.refl _ _) _)) HLN3.out HQ.out).mono ?_; rintro e w6 ⟨v6, rfl, ⟨A6, e6, rfl, hl6, hF6⟩, hb6⟩; have HF6 := Aside0.mk hF6; have HLN6 := Aside0.mk hl6; have hI := below_step (below_alloc (Below.refl wr.heap.size wr) _) hb6; have HI := Aside0.mk hI; clear hc0 hc1 hc2 hd0 hd1 hd2 hf1 hf2 hx0 hx1 hx2 hx3 hx4 hx5 hx6; clear hy0 hy1 hy2 hy3 hy4 hy5 hy6; obtain ⟨⟨hx0, hx1, hx2, hx3, hx4, hx5, hx6⟩, hy0, hy1, hy2, hy3, hy4, hy5, hy6⟩ := HY.out (w6.alloc (.cells #[.string q1, .int .u64 q2, .int .u64 q3, .slice A6 q4.length e6, .int .u64 q5, .int .u64 (IntKind.u64.wrap (q6 + q8)), .int .u64 q7] 55)) (below_alloc hI _); obtain ⟨hc0, hc1, hc2, hd0, hd1, hd2, hf1, hf2⟩ := (HL6.out.step hI).cells; have HSZ6 := Aside0.mk (by simpa using hb6.size : wr.heap.size + 1 ≤ w6.heap.size); have hc9 := (LB.alloc (HL6.out.step hI) (.cells #[.string q1, .int .u64 q2, .int .u64 q3, .slice A6 q4.length e6, .int .u64 q5, .int .u64 (IntKind.u64.wrap (q6 + q8)), .int .u64 q7] 55)).cells.2.2.1; clear hF6 hl6 hI hb6))
      go_roundg (n0 - i)
      case measure => have := HA.out.1; omega
      case rel =>
       have hI := HI.out
       have hqe := HQE.out
       simp only [Option.some.injEq] at hqe
       have hlt6 := HL6.out.lt
       have hlw := HL6.out.ge
       have hsz := hI.size
       have hwg : w.heap.size ≤ g := by omega
       refine ⟨i + 1, cur.set i ⟨q1, q2, q3, q4, q5, IntKind.u64.wrap (q6 + q8), q7⟩, rfl, ⟨?_, ?_, ?_, ?_⟩, ⟨?_⟩, ⟨?_⟩⟩
       ·have := HA.out.1; omega
       ·omega
       ·rw [List.length_set]; exact HCL.out
       ·rw [HA.out.2.2.2, ← evL_step l l0_2 i c5 c4, ← hqe]
       ·exact LB.seven (LB.alloc (HL6.out.step hI) _) hwg hn4.symm hn5.symm _ _ _ _ _ _ _ _
       ·have hN7 := Kd.N_below (Kd.N_bound HN6.out) (below_alloc hI (.cells #[.string q1, .int .u64 q2, .int .u64 q3, .slice A6 q4.length e6, .int .u64 q5, .int .u64 (IntKind.u64.wrap (q6 + q8)), .int .u64 q7] 55))
        have hF7 := Kd.F_alloc HF6.out (.cells #[.string q1, .int .u64 q2, .int .u64 q3, .slice A6 q4.length e6, .int .u64 q5, .int .u64 (IntKind.u64.wrap (q6 + q8)), .int .u64 q7] 55)
        have hF8 := Kd.F_mono hF7 (ok' := fun k_ => wr.heap.size < k_) (fun k_ hk_ => by simp at hk_; omega)
        have hN9 := row_store7 (i := (i : Int)) (x := ⟨q1, q2, q3, q4, q5, IntKind.u64.wrap (q6 + q8), q7⟩) (Kd.N_mono hN7 (fun k_ hk_ => hk_.1)) cp cl HLN6.out hF8 (fun k_ hk_ => ⟨.inr (by omega), by omega⟩)
        rw [Int.toNat_natCast] at hN9
        exact hN9
     ·have cb3 := decide_eq_false (show ¬ (i : Int) < (n0 : Int) by omega)
      have hie : i = n0 := by have := HA.out.2.1; omega
      subst hie
      have hcur : cur = l := by have h1 := HA.out.2.2.2; rw [List.take_of_length_le (by have := HLL.out; have := HN0.out; omega), List.drop_eq_nil_of_le (by have := HN0.out; omega), List.append_nil] at h1; exact h1
      subst hcur
      obtain ⟨hc0, hc1, hc2, hd0, hd1, hd2, hf1, hf2⟩ := HL6.out.cells
      have HN7 := Aside0.mk (Kd.N_bound HN6.out)
      have hln : cur.length = i := HA.out.2.2.1
      have HLN := Lib.hid hln
      clear hln
      go_wp2
      have hln := HLN.out
      have hV9 := Kd.N_V (base' := w.heap.size) HN7.out
      have hLf := LB.setr3 HL6.out (.int .u64 a1) (.int .u64 a0_1) (.slice Ag i cap)
      have hlt6 := HL6.out.lt
      have hrr : ∀ k_, ((((P0_2_ k_ ∧ k_ < w.heap.size) ∨ w3.heap.size ≤ k_)) ∧ k_ < wr.heap.size) → k_ ≠ w.heap.size + 1 := fun k_ hk_ => by have := hlt3.2; omega
      have hVf := Kd.V_mono (Kd.V_far (p := ⟨w.heap.size + 1, 2, none⟩) (Kd.V_far (p := ⟨w.heap.size + 1, 1, none⟩) (Kd.V_far (p := ⟨w.heap.size + 1, 0, none⟩) hV9 hrr (.int .u64 a1)) hrr (.int .u64 a0_1)) hrr (.slice Ag i cap)) (ok' := fun k_ => P0_2_ k_ ∨ w.heap.size ≤ k_) (fun k_ hk_ => by rcases hk_.1 with h_ | h_; exact .inl h_.1; exact .inr (by omega))
      exact LB.ret rfl rfl hLf rfl rfl rfl ⟨_, rfl, hVf, hLf.below⟩
   ·rw [if_neg c3] at h; cases h
end Go.Proofs.YtmbigoeldobaiaaDoor.XMrk
