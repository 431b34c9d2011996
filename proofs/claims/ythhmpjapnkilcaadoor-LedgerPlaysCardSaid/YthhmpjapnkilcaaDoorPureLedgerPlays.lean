/- LedgerPlays: what each act makes of a ledger, or what is wrong, and what is told of it then, is as the chapter says; it stays right. Conditions: the law's own. -/
import Derived.Test.YthhmpjapnkilcaaDoorLdgMoreP
import Derived.Test.YthhmpjapnkilcaaDoorXLdgP2
import Derived.Test.YthhmpjapnkilcaaDoorXLdgx43
namespace Go.Proofs.YthhmpjapnkilcaaDoor.Ldg
open Go.Proofs.YthhmpjapnkilcaaDoorW.PrintWords hiding encs
open Go.RowKit Go.Proofs.YthhmpjapnkilcaaDoorW.PrintLast Go.Proofs.YthhmpjapnkilcaaDoorW.PrintMore Go.Proofs.YthhmpjapnkilcaaDoor.Num Go.Proofs.YthhmpjapnkilcaaDoor.XLdg
set_option linter.unusedVariables false
set_option linter.unusedSimpArgs false
theorem plays_l1 {f n : Int} {r : List RD} (h : Inv f n r) (nm : ByteArray) (L : List Act) (a1 a2 x10 : Int) (q0 : ByteArray) (q1 q2 : Int) (q3 : List Int) (q4 q5 q6 : Int) (R : Bool)
  (hq : ∀ hp : pN nm r < r.length, q1 = (progD r[pN nm r]).f1 ∧ q2 = (progD r[pN nm r]).f2) (hR : Ev (fun k => postroomlaw10_LedgerPlays.l0 k L a1 a2 (wrap64 (x10 + 1)) f n (r.map progD) f n r) R) :
  ∀ (d i : Nat), i + d = r.length → Ev (fun k => postroomlaw10_LedgerPlays.l1 k L a1 a2 x10 nm (decide (pN nm r < r.length)) (decide (pN nm r < i)) (i : Int) f n (r.map progD) f n r q0 q1 q2 q3 q4 q5 q6) R
 | 0, i, hi => by
  have hi' : i = r.length := by omega
  subst hi'
  refine Ev.step (fun k => ?_) hR
  rw [postroomlaw10_LedgerPlays.l1, if_neg (by rw [List.length_map]; omega), if_neg (by simp)]
 | d + 1, i, hi => by
  have hlt : i < r.length := by omega
  have hbig := h.big
  have ih := plays_l1 h nm L a1 a2 x10 q0 q1 q2 q3 q4 q5 q6 R hq hR d (i + 1) (by omega)
  have e := w_nat (i := i) (by omega)
  refine Ev.step (fun k => ?_) ih
  rw [postroomlaw10_LedgerPlays.l1, if_pos (by rw [List.length_map]; omega), e]
  by_cases c : pN nm r < i
  ·rw [if_pos (decide_eq_true c), decide_eq_true (show pN nm r < i + 1 by omega)]
  ·rw [if_neg (by simpa using c), if_pos (by omega), rdP r i hlt]
   by_cases c2 : r[i].f0.toList = nm.toList
   ·have hp := pN_lt (List.getElem_mem hlt) c2
    have e2 : pN nm r = i := by
     rcases Nat.lt_or_ge i (pN nm r) with g | g
     ·exact absurd c2 (fun c2 => by
       have := pN_at hp
       have h1 := List.pairwise_iff_getElem.1 h.apart i (pN nm r) (by rw [List.length_map]; omega) (by rw [List.length_map]; omega) g
       simp only [List.getElem_map] at h1
       exact h1 (c2.trans this.symm))
     ·omega
    have hq' := hq hp
    simp only [e2] at hq'
    rw [if_pos (show (progD r[i]).f0.toList = nm.toList from c2), if_pos hq'.2, decide_eq_true (show pN nm r < i + 1 by omega), hq'.1, beq_self_eq_true]
   ·have e2 : pN nm r ≠ i := fun e2 => by
     have h1 := pN_at (nm := nm) (r := r) (by omega)
     simp only [e2] at h1
     exact c2 h1
    rw [if_neg (show ¬ (progD r[i]).f0.toList = nm.toList from c2), decide_eq_false (show ¬ pN nm r < i + 1 by omega)]
theorem plays_l0 (l : List Act) (hl : l.length ≤ 100) (hw : ∀ a ∈ l, wfA a) (a1 a2 : Int) (h1 : -9223372036854775808 ≤ a1 ∧ a1 < 9223372036854775808) (h2 : 0 ≤ a2 ∧ a2 < 18446744073709551616) : ∀ (d i : Nat), i + d = l.length → Ev (fun k => postroomlaw10_LedgerPlays.l0 k l a1 a2 (i : Int) (runA (l.take i)).1 (runA (l.take i)).2.1 ((runA (l.take i)).2.2.map progD) (runA (l.take i)).1 (runA (l.take i)).2.1 (runA (l.take i)).2.2) true
 | 0, i, hi => by
  refine Ev.stop fun k => ?_
  rw [postroomlaw10_LedgerPlays.l0, if_neg (by omega)]
 | d + 1, i, hi => by
  have hlt : i < l.length := by omega
  obtain ⟨g1, g2⟩ := run_inv (l.take i) (by rw [List.length_take]; omega)
  rw [List.length_take] at g2
  have hd := does_ev g1 (by omega) l[i] (hw _ (List.getElem_mem hlt))
  have ih := plays_l0 l hl hw a1 a2 h1 h2 d (i + 1) (by omega)
  have e : runA (l.take (i + 1)) = stepA (runA (l.take i)) l[i] := by
   rw [← List.take_append_getElem hlt]; unfold runA; rw [List.foldl_append]; rfl
  have hS := (stepA_inv g1 (by omega) l[i]).1
  rw [e] at ih
  generalize stepA (runA (l.take i)) l[i] = S at hd ih hS
  obtain ⟨f, n, r⟩ := S
  dsimp only at hd ih
  have hI : Inv f n r := hS
  have e2 := w_nat (i := i) (by omega)
  obtain ⟨nm, hnm, hok⟩ := name_ev a1 h1.1 h1.2
  have find : ∃ (q0 : ByteArray) (q1 q2 : Int) (q3 : List Int) (q4 q5 q6 : Int) (q7 : Bool), ledger_Find.f f n (r.map progD) nm = some (q0, q1, q2, q3, q4, q5, q6, q7) ∧ q7 = decide (pN nm r < r.length) ∧ (∀ hp : pN nm r < r.length, q1 = (progD r[pN nm r]).f1 ∧ q2 = (progD r[pN nm r]).f2) := by
   by_cases hp : pN nm r < r.length
   ·exact ⟨_, _, _, _, _, _, _, _, find_yes hI nm hp, (decide_eq_true hp).symm, fun _ => ⟨rfl, rfl⟩⟩
   ·exact ⟨_, _, _, _, _, _, _, _, find_no nm hp, (decide_eq_false hp).symm, fun g => absurd g hp⟩
  obtain ⟨q0, q1, q2, q3, q4, q5, q6, q7, hf, e7, hq⟩ := find
  refine Ev.step (fun k => by rw [postroomlaw10_LedgerPlays.l0, if_pos (by omega), if_pos (by omega), rdA l i hlt]) ?_
  refine Ev.bind hd (Ev.congr (fun k => if_pos rfl) (Ev.bind (right_law hI) (Ev.congr (fun k => if_pos rfl) (Ev.bind (Ev.fix hnm) (Ev.bind (Ev.fix hf) (Ev.bind (pending_law hI nm) (Ev.bind (refPending_law hI nm) (Ev.bind (same_self (by have := pendA_len hI nm; omega)) (Ev.congr (fun k => if_pos rfl) (Ev.bind (waits_law hI nm a2) (Ev.bind (refWaits_law hI nm a2 h2.1 h2.2) (Ev.congr (fun k => if_neg (by simp)) (Ev.bind (free_law hI) (Ev.bind (refFree_law hI) (Ev.congr (fun k => if_pos rfl) ?_)))))))))))))))
  subst e7
  exact plays_l1 hI nm l a1 a2 (i : Int) q0 q1 q2 q3 q4 q5 q6 true hq (by rw [e2]; exact ih) r.length 0 (by omega)
end Go.Proofs.YthhmpjapnkilcaaDoor.Ldg
namespace Go.Proofs.YthhmpjapnkilcaaDoor
open Go.Proofs.YthhmpjapnkilcaaDoorW.PrintWords hiding encs
open Go.RowKit Go.Proofs.YthhmpjapnkilcaaDoorW.PrintLast Go.Proofs.YthhmpjapnkilcaaDoorW.PrintMore Go.Proofs.YthhmpjapnkilcaaDoor.Num Go.Proofs.YthhmpjapnkilcaaDoor.XLdg Go.Proofs.YthhmpjapnkilcaaDoor.Ldg
theorem Pure.LedgerPlays : XLdg.postroomlaw10_LedgerPlays.Pure := by
 intro l a1 a2 hm hy hw h1 h2
 have key : Ev (fun k => postroomlaw10_LedgerPlays.f k l a1 a2) true := by
  unfold postroomlaw10_LedgerPlays.f
  refine Ev.bind shown_ev (Ev.congr (fun k => if_pos rfl) ?_)
  by_cases c : (l.length : Int) > 100
  ·exact Ev.congr (fun k => if_pos c) (Ev.now _)
  ·refine Ev.congr (fun k => if_neg c) (Ev.bind (Ev.fix (r := (1, 1, [])) rfl) (Ev.bind (Ev.fix (r := (1, 1, [])) rfl) ?_))
   exact plays_l0 l (by omega) (wf_acts hw) a1 a2 (wf_i64 h1) (wf_u64 h2) l.length 0 (by omega)
 obtain ⟨K, hK⟩ := key
 exact ⟨K, hK K (Nat.le_refl _)⟩
end Go.Proofs.YthhmpjapnkilcaaDoor
