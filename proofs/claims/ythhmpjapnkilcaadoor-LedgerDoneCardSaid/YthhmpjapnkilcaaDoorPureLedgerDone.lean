/- LedgerDone: what is done is so once; it changes nothing of another destination, or of another entry. Conditions: the law's own. -/
import Derived.Test.YthhmpjapnkilcaaDoorLdgMore
import Derived.Test.YthhmpjapnkilcaaDoorXLdgx26
namespace Go.Proofs.YthhmpjapnkilcaaDoor.Ldg
open Go.Proofs.YthhmpjapnkilcaaDoorW.PrintWords hiding encs
open Go.RowKit Go.Proofs.YthhmpjapnkilcaaDoorW.PrintLast Go.Proofs.YthhmpjapnkilcaaDoorW.PrintMore Go.Proofs.YthhmpjapnkilcaaDoor.Num Go.Proofs.YthhmpjapnkilcaaDoor.XLdg
set_option linter.unusedVariables false
set_option linter.unusedSimpArgs false
theorem done_l0 {f n : Int} {r : List RD} (h : Inv f n r) (nm : ByteArray) (hp : pN nm r < r.length) (j : Nat) (c : Int) (hc : c = 97 ∨ c = 114) (hj : r[pN nm r].f2[j]? = some 112) : ∀ (d i : Nat), i + d = r.length → Ev (fun k => postroomlaw10_LedgerDone.l0 k nm (i : Int) f n (r.map progD) f n ((setR r (pN nm r) j c hp).map progD)) true
 | 0, i, hi => by
  refine Ev.stop fun k => ?_
  rw [postroomlaw10_LedgerDone.l0, if_neg (by rw [List.length_map]; omega)]
 | d + 1, i, hi => by
  have hlt : i < r.length := by omega
  have hfew := h.few
  have ih := done_l0 h nm hp j c hc hj d (i + 1) (by omega)
  have e := w_nat (i := i) (by omega)
  have h' := setR_inv h (pN nm r) j c hc hp
  have hlen := setR_len r (pN nm r) j c hp
  have hlt' : i < (setR r (pN nm r) j c hp).length := by omega
  have hc' : c ≠ 112 := by rcases hc with rfl | rfl <;> decide
  have p1 := pending_law h r[i].f0
  have p2 := pending_law h' r[i].f0
  have e1 := pendA_at h i hlt
  have e2 : pendA (setR r (pN nm r) j c hp) r[i].f0 = pendL (setR r (pN nm r) j c hp)[i].f1 (setR r (pN nm r) j c hp)[i].f2 := by
   have := pendA_at h' i hlt'
   have en : (setR r (pN nm r) j c hp)[i].f0 = r[i].f0 := by
    by_cases g : pN nm r = i
    ·subst g; rw [setR_at]; rfl
    ·rw [setR_far _ _ _ _ _ i hlt g]
   rw [en] at this
   exact this
  refine Ev.step (fun k => by rw [postroomlaw10_LedgerDone.l0, if_pos (by rw [List.length_map]; omega), if_pos (by omega), rdP r i hlt, rdP _ i hlt', e]) ?_
  refine Ev.bind p1 (Ev.bind p2 ?_)
  by_cases c1 : r[i].f0.toList = nm.toList
  ·have ei := pN_eq h hlt c1
   subst ei
   have ex : (setR r (pN nm r) j c hp)[pN nm r] = setD r[pN nm r] j c := setR_at _ _ _ _ _ _
   have hm := h.all _ (List.getElem_mem hlt)
   have hn1 := h.n1
   have hsn := hm.next
   have hss := hm.since
   have k0 := cnt_p_set r[pN nm r].f2 j c hc' hj
   have k1 := cnt_set 97 112 c r[pN nm r].f2 j hj
   have k2 := cnt_set 101 112 c r[pN nm r].f2 j hj
   have k3 := cnt_set 114 112 c r[pN nm r].f2 j hj
   have l0 := cnt_len r[pN nm r].f2 112
   have l1 := cnt_len r[pN nm r].f2 97
   have l3 := cnt_len r[pN nm r].f2 114
   have g1 : ((pendA (setR r (pN nm r) j c hp) r[pN nm r].f0).length : Int) = wrap64 (((pendA r r[pN nm r].f0).length : Int) - 1) := by
    rw [e1, e2, ex, pendL_len, pendL_len, w64 (by omega) (by omega)]
    show ((cntN 112 (r[pN nm r].f2.set j c) : Nat) : Int) = _
    omega
   have g2 : Go.IntKind.u64.wrap ((progD (setR r (pN nm r) j c hp)[pN nm r]).f4 + (progD (setR r (pN nm r) j c hp)[pN nm r]).f6) = Go.IntKind.u64.wrap (Go.IntKind.u64.wrap ((progD r[pN nm r]).f4 + (progD r[pN nm r]).f6) + 1) := by
    rw [ex]
    show Go.IntKind.u64.wrap (((cntN 97 (r[pN nm r].f2.set j c) : Nat) : Int) + ((cntN 114 (r[pN nm r].f2.set j c) : Nat) : Int)) = Go.IntKind.u64.wrap (Go.IntKind.u64.wrap (((cntN 97 r[pN nm r].f2 : Nat) : Int) + ((cntN 114 r[pN nm r].f2 : Nat) : Int)) + 1)
    have q : ((cntN 97 (r[pN nm r].f2.set j c) : Nat) : Int) + ((cntN 114 (r[pN nm r].f2.set j c) : Nat) : Int) = ((cntN 97 r[pN nm r].f2 : Nat) : Int) + ((cntN 114 r[pN nm r].f2 : Nat) : Int) + 1 := by
     rcases hc with rfl | rfl
     ·rw [if_neg (by decide), if_pos rfl] at k1
      rw [if_neg (by decide), if_neg (by decide)] at k3
      omega
     ·rw [if_neg (by decide), if_pos rfl] at k3
      rw [if_neg (by decide), if_neg (by decide)] at k1
      omega
    rw [q, u64_small (x := ((cntN 97 r[pN nm r].f2 : Nat) : Int) + ((cntN 114 r[pN nm r].f2 : Nat) : Int)) (by omega) (by omega)]
   have g3 : (progD (setR r (pN nm r) j c hp)[pN nm r]).f5 = (progD r[pN nm r]).f5 := by
    rw [ex]
    show ((cntN 101 (r[pN nm r].f2.set j c) : Nat) : Int) = ((cntN 101 r[pN nm r].f2 : Nat) : Int)
    rw [if_neg (by decide), if_neg (by rcases hc with rfl | rfl <;> decide)] at k2
    omega
   refine Ev.congr (fun k => (if_pos (show (progD r[pN nm r]).f0.toList = nm.toList from c1)).trans ((if_pos (by rw [List.length_map]; omega)).trans ((if_pos g1).trans ((if_pos g2).trans (if_pos g3))))) ih
  ·have ne : pN nm r ≠ i := fun g => by
    subst g; exact c1 (pN_at hp)
   have ep : pendA (setR r (pN nm r) j c hp) r[i].f0 = pendA r r[i].f0 := by
    rw [e1, e2, setR_far _ _ _ _ _ i hlt ne]
   refine Ev.congr (fun k => if_neg (show ¬ (progD r[i]).f0.toList = nm.toList from c1)) ?_
   rw [ep]
   exact Ev.bind (same_self (by have := pendA_len h r[i].f0; omega)) (Ev.congr (fun k => if_pos rfl) ih)
theorem done_j0 {f n : Int} {r : List RD} (h : Inv f n r) (nm : ByteArray) (seq c : Int) (hc : c = 97 ∨ c = 114) (hw : waitsA r nm seq = true) : Ev (fun k => postroomlaw10_LedgerDone.j0 k nm seq c f n (r.map progD)) true := by
 obtain ⟨hp, j, hj, e⟩ := waits_at (f := f) (n := n) hw
 have hs := h.since _ (List.getElem_mem hp)
 have h' := setR_inv h (pN nm r) j c hc hp
 have en : pN nm (setR r (pN nm r) j c hp) = pN nm r := pN_names (setR_names r (pN nm r) j c hp)
 have hlen := setR_len r (pN nm r) j c hp
 have hno : waitsA (setR r (pN nm r) j c hp) nm seq = false := Bool.eq_false_iff.2 fun g => ((waits_setR h nm hp j c hc seq).1 g).2 e
 have d1 := done_yes h nm seq c hc hp j hj e
 have d2 := done_state h' nm seq c (by omega) hc (by omega) hno
 have w1 := waits_law h' nm seq
 have w2 := waits_law h nm seq
 rw [hno] at w1
 rw [hw] at w2
 refine Ev.step (fun k => by rw [postroomlaw10_LedgerDone.j0]) (Ev.bind d1 (Ev.bind d2 (Ev.congr (fun k => (if_pos rfl).trans (if_pos rfl)) (Ev.bind w1 (Ev.congr (fun k => if_neg Bool.false_ne_true) (Ev.bind w2 (Ev.congr (fun k => (if_pos rfl).trans ((if_pos rfl).trans (if_pos rfl))) ?_)))))))
 exact done_l0 h nm hp j c hc hj r.length 0 (by omega)
end Go.Proofs.YthhmpjapnkilcaaDoor.Ldg
namespace Go.Proofs.YthhmpjapnkilcaaDoor
open Go.Proofs.YthhmpjapnkilcaaDoorW.PrintWords hiding encs
open Go.RowKit Go.Proofs.YthhmpjapnkilcaaDoorW.PrintLast Go.Proofs.YthhmpjapnkilcaaDoorW.PrintMore Go.Proofs.YthhmpjapnkilcaaDoor.Num Go.Proofs.YthhmpjapnkilcaaDoor.XLdg Go.Proofs.YthhmpjapnkilcaaDoor.Ldg
theorem Pure.LedgerDone : XLdg.postroomlaw10_LedgerDone.Pure := by
 intro l a1 a2 a3 hm hy hw h1 h2
 have key : Ev (fun k => postroomlaw10_LedgerDone.f k l a1 a2 a3) true := by
  unfold postroomlaw10_LedgerDone.f
  refine Ev.bind shown_ev (Ev.congr (fun k => if_pos rfl) ?_)
  by_cases c : (l.length : Int) > 100
  ·exact Ev.congr (fun k => if_pos c) (Ev.now _)
  ·obtain ⟨hI, hN⟩ := run_inv l (by omega)
   have hr := run_ev l (by omega) (wf_acts hw)
   generalize runA l = S at hI hN hr
   obtain ⟨f, n, r⟩ := S
   have hI' : Inv f n r := hI
   obtain ⟨nm, hnm, hok⟩ := name_ev a1 (wf_i64 h1).1 (wf_i64 h1).2
   refine Ev.congr (fun k => if_neg c) (Ev.bind hr (Ev.bind (Ev.fix hnm) (Ev.bind (pending_law hI' nm) ?_)))
   have hpl := pendA_len hI' nm
   by_cases c2 : ((pendA r nm).length : Int) = 0
   ·exact Ev.congr (fun k => if_pos c2) (Ev.now _)
   ·obtain ⟨t, ht, t0, t1⟩ := pick_ev a2 ((pendA r nm).length : Int) (wf_i64 h2).1 (wf_i64 h2).2 (by omega)
    obtain ⟨i, rfl⟩ : ∃ i : Nat, t = (i : Int) := ⟨t.toNat, by omega⟩
    have hi : i < (pendA r nm).length := by omega
    have hrd := rd_at (pendA r nm) i hi
    have hwt : waitsA r nm (rd (pendA r nm) (i : Int)) = true := by
     rw [hrd]; exact mem_pendA.1 (List.getElem_mem hi)
    refine Ev.congr (fun k => if_neg c2) (Ev.bind (Ev.fix ht) (Ev.congr (fun k => (if_pos t0).trans (if_pos t1)) ?_))
    cases a3 with
    | true => exact Ev.congr (fun k => if_pos rfl) (done_j0 hI' nm _ 114 (Or.inr rfl) hwt)
    | false => exact Ev.congr (fun k => if_neg Bool.false_ne_true) (done_j0 hI' nm _ 97 (Or.inl rfl) hwt)
 obtain ⟨K, hK⟩ := key
 exact ⟨K, hK K (Nat.le_refl _)⟩
end Go.Proofs.YthhmpjapnkilcaaDoor
