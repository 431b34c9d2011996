/- LedgerJoins: one that joins has none of the entries of before, and each that is added then. Conditions: the law's own. -/
import Derived.Test.YthhmpjapnkilcaaDoorLdgMore
import Derived.Test.YthhmpjapnkilcaaDoorXLdgP1
import Derived.Test.YthhmpjapnkilcaaDoorXLdgP4
import Derived.Test.YthhmpjapnkilcaaDoorXLdgx24
namespace Go.Proofs.YthhmpjapnkilcaaDoor.Ldg
open Go.Proofs.YthhmpjapnkilcaaDoorW.PrintWords hiding encs
open Go.RowKit Go.Proofs.YthhmpjapnkilcaaDoorW.PrintLast Go.Proofs.YthhmpjapnkilcaaDoorW.PrintMore Go.Proofs.YthhmpjapnkilcaaDoor.Num Go.Proofs.YthhmpjapnkilcaaDoor.XLdg
set_option linter.unusedVariables false
set_option linter.unusedSimpArgs false
theorem erase_none {f n : Int} {r : List RD} (h : Inv f n r) (nm : ByteArray) : ¬ pN nm (r.eraseIdx (pN nm r)) < (r.eraseIdx (pN nm r)).length := pN_ge nm fun x hx g => by
 obtain ⟨i, hi, hne, rfl⟩ := List.mem_eraseIdx_iff_getElem.1 hx
 exact hne (pN_eq h hi g).symm
theorem erase_inv {f n : Int} {r : List RD} (h : Inv f n r) (i : Nat) : Inv f n (r.eraseIdx i) :=
 ⟨h.f1, h.fn, h.n1, by
  have := h.few
  have := (List.eraseIdx_sublist r i).length_le
  omega, fun x hx => h.all x (List.mem_of_mem_eraseIdx hx), h.apart.sublist ((List.eraseIdx_sublist r i).map _)⟩
theorem radd_inv {f n : Int} {r : List RD} (h : Inv f n r) (hn : n < 1000) : Inv f (n + 1) (radd r) :=
 ⟨h.f1, by have := h.fn; omega, by omega, by rw [radd_len]; exact h.few, fun x hx => by
  obtain ⟨y, hy, rfl⟩ := List.mem_map.1 hx
  exact (h.all y hy).add h.fn, by rw [radd_names]; exact h.apart⟩
theorem join_inv {f n : Int} {r : List RD} (h : Inv f n r) (nm : ByteArray) (hok : nm ∈ okNames) (hno : ¬ pN nm r < r.length) (hl : r.length < 4) : Inv f n (r ++ [⟨nm, n, []⟩]) := by
 have h1 := h.f1
 have h2 := h.fn
 refine ⟨h.f1, h.fn, h.n1, by rw [List.length_append, List.length_singleton]; omega, fun x hx => ?_, ?_⟩
 ·rcases List.mem_append.1 hx with hx | hx
  ·exact h.all x hx
  ·rw [List.mem_singleton.1 hx]
   exact ⟨by show 1 ≤ n; omega, by simp, hok, fun b hb => by simp at hb, fun i hi => by simp at hi⟩
 ·rw [List.map_append, List.pairwise_append]
  refine ⟨h.apart, by simp, fun a ha b hb => ?_⟩
  obtain ⟨x, hx, rfl⟩ := List.mem_map.1 ha
  simp only [List.map_cons, List.map_nil, List.mem_singleton] at hb
  subst hb
  exact pN_none hno x hx
/-- A ledger to which entries were added. -/
def rI (r : List RD) : Nat → List RD
 | 0 => r
 | i + 1 => radd (rI r i)
theorem rI_len (r : List RD) : ∀ i, (rI r i).length = r.length
 | 0 => rfl
 | i + 1 => by rw [rI, radd_len, rI_len r i]
theorem rI_inv {f n : Int} {r : List RD} (h : Inv f n r) : ∀ i : Nat, n + (i : Int) < 1000 → Inv f (n + (i : Int)) (rI r i)
 | 0, _ => by
  have e : n + ((0 : Nat) : Int) = n := by omega
  rw [e]; exact h
 | i + 1, hi => by
  have e : n + ((i + 1 : Nat) : Int) = n + (i : Int) + 1 := by omega
  rw [e]
  exact radd_inv (rI_inv h i (by omega)) (by omega)
theorem rI_last (r : List RD) (x : RD) : ∀ i, rI (r ++ [x]) i = rI r i ++ [⟨x.f0, x.f1, x.f2 ++ List.replicate i 112⟩]
 | 0 => by
  obtain ⟨a, b, c⟩ := x
  simp [rI]
 | i + 1 => by
  rw [rI, rI_last r x i, rI]
  unfold radd
  rw [List.map_append, List.map_singleton]
  simp only [List.append_assoc]
  rw [← List.replicate_succ']
theorem low_rep (t : Nat) : lowN (List.replicate t 112) = 0 := by
 cases t with
 | zero => rfl
 | succ t => rw [List.replicate_succ]; exact lowN_p rfl
theorem cnt_rep {c : Int} (h : c ≠ 112) (t : Nat) : cntN c (List.replicate t 112) = 0 := by
 induction t with
 | zero => rfl
 | succ t ih => rw [List.replicate_succ, cntN_s (fun e => h e.symm), ih]
theorem cnt_rep_p (t : Nat) : cntN 112 (List.replicate t 112) = t := by
 induction t with
 | zero => rfl
 | succ t ih => rw [List.replicate_succ, cntN_p rfl, ih]
theorem joins_end {f n : Int} {r : List RD} (nm : ByteArray) (hok : nm ∈ okNames) (hno : ¬ pN nm r < r.length) (t : Nat) (ht : t < 20) (hI : Inv f (n + (t : Int)) (rI (r ++ [⟨nm, n, []⟩]) t)) (L : List D) (F : Int) : Ev (fun k => postroomlaw10_LedgerJoins.l0 k nm (t : Int) (t : Int) F n L f (n + (t : Int)) ((rI (r ++ [⟨nm, n, []⟩]) t).map progD)) true := by
 have hlen : (rI (r ++ [⟨nm, n, []⟩]) t).length = r.length + 1 := by rw [rI_len, List.length_append, List.length_singleton]
 have hlt : r.length < (rI (r ++ [⟨nm, n, []⟩]) t).length := by omega
 have hfew := hI.few
 have hr3 : r.length ≤ 3 := by omega
 have hx : (rI (r ++ [⟨nm, n, []⟩]) t)[r.length] = (⟨nm, n, List.replicate t 112⟩ : RD) := by
  have e := rI_last r ⟨nm, n, []⟩ t
  have e2 : (rI (r ++ [⟨nm, n, []⟩]) t)[r.length]? = some (⟨nm, n, List.replicate t 112⟩ : RD) := by
   rw [e, List.getElem?_append_right (by rw [rI_len]; omega), rI_len, Nat.sub_self]
   rfl
  rw [List.getElem?_eq_getElem hlt] at e2
  exact Option.some.inj e2
 generalize rI (r ++ [⟨nm, n, []⟩]) t = R at hI hlen hlt hx
 have hp : pN nm R = r.length := pN_eq hI hlt (by rw [hx])
 have hpl : pN nm R < R.length := by omega
 have hxp : R[pN nm R] = (⟨nm, n, List.replicate t 112⟩ : RD) := by simp only [hp]; exact hx
 have hf := find_yes hI nm hpl
 rw [hxp] at hf
 have e0 : progD ⟨nm, n, List.replicate t 112⟩ = ⟨nm, n, n + ((0 : Nat) : Int), abvL (n + ((lowN (List.replicate t 112) : Nat) : Int)) n (List.replicate t 112), ((0 : Nat) : Int), ((0 : Nat) : Int), ((0 : Nat) : Int)⟩ := by
  unfold progD
  simp only [low_rep, cnt_rep (show (97 : Int) ≠ 112 by decide), cnt_rep (show (101 : Int) ≠ 112 by decide), cnt_rep (show (114 : Int) ≠ 112 by decide)]
 rw [e0] at hf
 have ep : pendA R nm = pendL n (List.replicate t 112) := by
  unfold pendA
  rw [dif_pos hpl]
  simp only [hxp]
 have hpe := pending_law hI nm
 rw [ep] at hpe
 have hpn : (pendL n (List.replicate t 112)).length = t := by rw [pendL_len, cnt_rep_p]
 have hj : ledger_Join.f f (n + (t : Int)) (R.map progD) nm = some (0, 0, [], 4) := by
  rw [join_law f _ R hI.big nm (name_ok nm hok).1, if_pos hpl]
 have hlast : wrap64 (((R.map progD).length : Int) - 1) = (r.length : Int) := by
  rw [List.length_map, hlen, w64' (by omega) (by omega)]; omega
 have hrd := rdP R r.length hlt
 rw [hx] at hrd
 have hd : (((rd_T37 (R.map progD) (wrap64 (((R.map progD).length : Int) - 1))).f0).toList == nm.toList) = true := by
  rw [hlast, hrd]; exact beq_self_eq_true _
 have tail : (fun k => (if (4 : Int) = 4 then (if 0 ≤ (wrap64 (((R.map progD).length : Int) - 1)) then (if (wrap64 (((R.map progD).length : Int) - 1)) < ((R.map progD).length : Int) then (some (((rd_T37 (R.map progD) (wrap64 (((R.map progD).length : Int) - 1))).f0).toList == nm.toList)) else (none)) else (none)) else (none) : Option Bool)) = fun (k : Nat) => some true := by
  funext k
  rw [if_pos rfl, hd, hlast, if_pos (by omega), if_pos (by rw [List.length_map]; omega)]
 refine Ev.step (fun k => by rw [postroomlaw10_LedgerJoins.l0, if_neg (by omega)]) ?_
 refine Ev.bind (Ev.fix hf) (Ev.bind hpe (Ev.bind (Ev.fix hj) ?_))
 refine Ev.congr (fun k => (if_pos rfl).trans ((if_pos rfl).trans ((if_pos (by show n + ((0 : Nat) : Int) = n; omega)).trans ((if_pos (show Go.IntKind.u64.wrap (Go.IntKind.u64.wrap (((0 : Nat) : Int) + ((0 : Nat) : Int)) + ((0 : Nat) : Int)) = 0 by decide)).trans (if_pos (by omega)))))) ?_
 by_cases c : (t : Int) = 0
 ·refine Ev.congr (fun k => if_pos c) ?_
  have := Ev.now true
  rw [← tail] at this
  exact this
 ·obtain ⟨s, rfl⟩ : ∃ s, t = s + 1 := ⟨t - 1, by omega⟩
  have hh : rd (pendL n (List.replicate (s + 1) 112)) 0 = n := by
   rw [List.replicate_succ, pendL, if_pos rfl]; rfl
  refine Ev.congr (fun k => (if_neg c).trans ((if_pos (by omega)).trans (if_pos hh))) ?_
  have := Ev.now true
  rw [← tail] at this
  exact this
theorem joins_l0 {f n : Int} {r : List RD} (nm : ByteArray) (hok : nm ∈ okNames) (hno : ¬ pN nm r < r.length) (hn : n ≤ 500) (hI : Inv f n (r ++ [⟨nm, n, []⟩])) (L : List D) (F : Int) (t : Nat) (ht : t < 20) : ∀ (d i : Nat), i + d = t → Ev (fun k => postroomlaw10_LedgerJoins.l0 k nm (t : Int) (i : Int) F n L f (n + (i : Int)) ((rI (r ++ [⟨nm, n, []⟩]) i).map progD)) true
 | 0, i, hi => by
  have e : i = t := by omega
  subst e
  exact joins_end nm hok hno i ht (rI_inv hI i (by omega)) L F
 | d + 1, i, hi => by
  have h' := rI_inv hI i (by omega)
  have h1 := hI.f1
  have h2 := hI.fn
  have ih := joins_l0 nm hok hno hn hI L F t ht d (i + 1) (by omega)
  have e := w_nat (i := i) (by omega)
  have hadd : ledger_Add.f f (n + (i : Int)) ((rI (r ++ [(⟨nm, n, []⟩ : RD)]) i).map progD) = some (f, n + (i : Int) + 1, (radd (rI (r ++ [(⟨nm, n, []⟩ : RD)]) i)).map progD) := by
   rw [add_law f (n + (i : Int)) (rI (r ++ [(⟨nm, n, []⟩ : RD)]) i) h'.big, u64_small (by omega) (by omega), prog_radd]
  refine Ev.step (fun k => by rw [postroomlaw10_LedgerJoins.l0, if_pos (by omega), e]) (Ev.bind (Ev.fix hadd) ?_)
  have e2 : n + (i : Int) + 1 = n + ((i + 1 : Nat) : Int) := by omega
  show Ev (fun k => postroomlaw10_LedgerJoins.l0 k nm (t : Int) ((i + 1 : Nat) : Int) F n L f (n + (i : Int) + 1) ((radd (rI (r ++ [⟨nm, n, []⟩]) i)).map progD)) true
  rw [e2]
  exact ih
theorem joins_j0 {f n : Int} {r : List RD} (h : Inv f n r) (hn : n ≤ 500) (nm : ByteArray) (hok : nm ∈ okNames ∨ nm = ⟨#[49]⟩) (hno : ¬ pN nm r < r.length) (a2 : Int) (h2 : -9223372036854775808 ≤ a2 ∧ a2 < 9223372036854775808) : Ev (fun k => postroomlaw10_LedgerJoins.j0 k a2 nm f n (r.map progD)) true := by
 have hfew := h.few
 rcases hok with hok | rfl
 ·have hj := join_law f n r h.big nm (name_ok nm hok).1
  rw [if_neg hno] at hj
  by_cases c : 4 ≤ r.length
  ·rw [if_pos c] at hj
   refine Ev.step (fun k => by rw [postroomlaw10_LedgerJoins.j0]) (Ev.bind (Ev.fix hj) (Ev.congr (fun k => (if_neg (show ¬ (6 : Int) = 0 by decide)).trans ((if_neg (show ¬ (6 : Int) = 3 by decide)).trans (if_pos rfl))) ?_))
   have e : (((r.map progD).length : Int) == 4) = true := by
    rw [List.length_map, beq_iff_eq]; omega
   rw [e]
   exact Ev.now _
  ·rw [if_neg c] at hj
   obtain ⟨t, ht, t0, t1⟩ := pick_ev a2 20 h2.1 h2.2 (by decide)
   obtain ⟨m, rfl⟩ : ∃ m : Nat, t = (m : Int) := ⟨t.toNat, by omega⟩
   refine Ev.step (fun k => by rw [postroomlaw10_LedgerJoins.j0]) (Ev.bind (Ev.fix hj) (Ev.congr (fun k => if_pos rfl) (Ev.bind (Ev.fix ht) ?_)))
   have := joins_l0 nm hok hno hn (join_inv h nm hok hno (by omega)) (r.map progD) f m (by omega) m 0 (by omega)
   have e : n + ((0 : Nat) : Int) = n := by omega
   rw [e] at this
   exact this
 ·have hj := join_bad f n r _ name_bad.1
  refine Ev.step (fun k => by rw [postroomlaw10_LedgerJoins.j0]) (Ev.bind (Ev.fix hj) (Ev.congr (fun k => (if_neg (show ¬ (3 : Int) = 0 by decide)).trans ((if_pos rfl).trans (if_pos (show (⟨#[49]⟩ : ByteArray).toList = ([49] : List UInt8) by decide +kernel)))) (Ev.now _)))
end Go.Proofs.YthhmpjapnkilcaaDoor.Ldg
namespace Go.Proofs.YthhmpjapnkilcaaDoor
open Go.Proofs.YthhmpjapnkilcaaDoorW.PrintWords hiding encs
open Go.RowKit Go.Proofs.YthhmpjapnkilcaaDoorW.PrintLast Go.Proofs.YthhmpjapnkilcaaDoorW.PrintMore Go.Proofs.YthhmpjapnkilcaaDoor.Num Go.Proofs.YthhmpjapnkilcaaDoor.XLdg Go.Proofs.YthhmpjapnkilcaaDoor.Ldg
theorem Pure.LedgerJoins : XLdg.postroomlaw10_LedgerJoins.Pure := by
 intro l a1 a2 hm hy hw h1 h2
 have key : Ev (fun k => postroomlaw10_LedgerJoins.f k l a1 a2) true := by
  unfold postroomlaw10_LedgerJoins.f
  refine Ev.bind shown_ev (Ev.congr (fun k => if_pos rfl) ?_)
  by_cases c : (l.length : Int) > 100
  ·exact Ev.congr (fun k => if_pos c) (Ev.now _)
  ·obtain ⟨hI, hN⟩ := run_inv l (by omega)
   have hr := run_ev l (by omega) (wf_acts hw)
   generalize runA l = S at hI hN hr
   obtain ⟨f, n, r⟩ := S
   have hI' : Inv f n r := hI
   have hN' : n ≤ 1 + (l.length : Int) := hN
   obtain ⟨nm, hnm, hok⟩ := name_ev a1 (wf_i64 h1).1 (wf_i64 h1).2
   refine Ev.congr (fun k => if_neg c) (Ev.bind hr (Ev.bind (Ev.fix hnm) ?_))
   have hlv := leave_law f n r hI'.big nm
   by_cases c2 : pN nm r < r.length
   ·rw [if_pos c2] at hlv
    exact Ev.bind (Ev.fix hlv) (Ev.congr (fun k => if_pos rfl) (joins_j0 (erase_inv hI' _) (by omega) nm hok (erase_none hI' nm) a2 (wf_i64 h2)))
   ·rw [if_neg c2] at hlv
    exact Ev.bind (Ev.fix hlv) (Ev.congr (fun k => if_neg (show ¬ (5 : Int) = 0 by decide)) (joins_j0 hI' (by omega) nm hok c2 a2 (wf_i64 h2)))
 obtain ⟨K, hK⟩ := key
 exact ⟨K, hK K (Nat.le_refl _)⟩
end Go.Proofs.YthhmpjapnkilcaaDoor
