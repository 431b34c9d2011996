/- LedgerOrder: two entries that are done, in either order, come to the same. Conditions: the law's own. -/
import Derived.Test.YthhmpjapnkilcaaDoorLdgMore
import Derived.Test.YthhmpjapnkilcaaDoorXLdgx28
namespace Go.Proofs.YthhmpjapnkilcaaDoor.Ldg
open Go.Proofs.YthhmpjapnkilcaaDoorW.PrintWords hiding encs
open Go.RowKit Go.Proofs.YthhmpjapnkilcaaDoorW.PrintLast Go.Proofs.YthhmpjapnkilcaaDoorW.PrintMore Go.Proofs.YthhmpjapnkilcaaDoor.Num Go.Proofs.YthhmpjapnkilcaaDoor.XLdg
set_option linter.unusedVariables false
set_option linter.unusedSimpArgs false
theorem setR_twice (r : List RD) (p i j : Nat) (c e : Int) (h : p < r.length) (h' : p < (setR r p i c h).length) : setR (setR r p i c h) p j e h' = r.set p (setD (setD r[p] i c) j e) := by
 have hx : (setR r p i c h)[p] = setD r[p] i c := setR_at _ _ _ _ _ _
 show (setR r p i c h).set p (setD (setR r p i c h)[p] j e) = _
 rw [hx]
 exact List.set_set ..
theorem setD_comm (x : RD) (i j : Nat) (c e : Int) (h : i ≠ j) : setD (setD x i c) j e = setD (setD x j e) i c := by
 unfold setD
 dsimp only
 rw [List.set_comm _ _ h]
theorem order_j1 {f n : Int} {r : List RD} (h : Inv f n r) (nm : ByteArray) (c e : Int) (hc : c = 97 ∨ c = 114) (he : e = 97 ∨ e = 114) (a b : Nat) (ha : a < (pendA r nm).length) (hb : b < (pendA r nm).length) (hne : a ≠ b) : Ev (fun k => postroomlaw10_LedgerOrder.j1 k nm (pendA r nm) (a : Int) (b : Int) c e f n (r.map progD)) true := by
 have ra := rd_at (pendA r nm) a ha
 have rb := rd_at (pendA r nm) b hb
 have hseq : (pendA r nm)[a] ≠ (pendA r nm)[b] := by
  have hs := List.pairwise_iff_getElem.1 (pendA_sorted r nm)
  rcases Nat.lt_or_ge a b with g | g
  ·have := hs a b ha hb g; omega
  ·have := hs b a hb ha (by omega); omega
 have hwa : waitsA r nm (pendA r nm)[a] = true := mem_pendA.1 (List.getElem_mem ha)
 have hwb : waitsA r nm (pendA r nm)[b] = true := mem_pendA.1 (List.getElem_mem hb)
 obtain ⟨hp, i, hi, ei⟩ := waits_at (f := f) (n := n) hwa
 obtain ⟨_, j, hj, ej⟩ := waits_at (f := f) (n := n) hwb
 have hij : i ≠ j := fun g => by subst g; exact hseq (ei.trans ej.symm)
 have hc' : c ≠ 112 := by rcases hc with rfl | rfl <;> decide
 have he' : e ≠ 112 := by rcases he with rfl | rfl <;> decide
 have h1 := setR_inv h (pN nm r) i c hc hp
 have h2 := setR_inv h (pN nm r) j e he hp
 have n1 : pN nm (setR r (pN nm r) i c hp) = pN nm r := pN_names (setR_names r (pN nm r) i c hp)
 have n2 : pN nm (setR r (pN nm r) j e hp) = pN nm r := pN_names (setR_names r (pN nm r) j e hp)
 have p1 : pN nm (setR r (pN nm r) i c hp) < (setR r (pN nm r) i c hp).length := by rw [n1, setR_len]; exact hp
 have p2 : pN nm (setR r (pN nm r) j e hp) < (setR r (pN nm r) j e hp).length := by rw [n2, setR_len]; exact hp
 have x1 : (setR r (pN nm r) i c hp)[pN nm (setR r (pN nm r) i c hp)] = setD r[pN nm r] i c := by
  simp only [n1]; exact setR_at _ _ _ _ _ _
 have x2 : (setR r (pN nm r) j e hp)[pN nm (setR r (pN nm r) j e hp)] = setD r[pN nm r] j e := by
  simp only [n2]; exact setR_at _ _ _ _ _ _
 have d1 := done_yes h nm (pendA r nm)[a] c hc hp i hi ei
 have d3 := done_yes h nm (pendA r nm)[b] e he hp j hj ej
 have d2 := done_yes h1 nm (pendA r nm)[b] e he p1 j (by rw [x1]; exact (setD_pend _ i c hc' j).2 ⟨hj, fun g => hij g.symm⟩) (by rw [x1]; exact ej)
 have d4 := done_yes h2 nm (pendA r nm)[a] c hc p2 i (by rw [x2]; exact (setD_pend _ j e he' i).2 ⟨hi, hij⟩) (by rw [x2]; exact ei)
 have hu : setR (setR r (pN nm r) i c hp) (pN nm (setR r (pN nm r) i c hp)) j e p1 = setR (setR r (pN nm r) j e hp) (pN nm (setR r (pN nm r) j e hp)) i c p2 := by
  simp only [n1, n2]
  rw [setR_twice, setR_twice, setD_comm _ _ _ _ _ hij]
 have h3 := setR_inv h1 (pN nm (setR r (pN nm r) i c hp)) j e he p1
 rw [← hu] at d4
 generalize hU : setR (setR r (pN nm r) i c hp) (pN nm (setR r (pN nm r) i c hp)) j e p1 = U at d2 d4 h3
 have hpU : pN nm U < U.length := by
  have : pN nm U = pN nm r := pN_names (by rw [← hU, setR_names, setR_names])
  rw [this, ← hU, setR_len, setR_len]; exact hp
 have hab := abvL_len ((U[pN nm U]).f1 + (lowN (U[pN nm U]).f2 : Int)) (U[pN nm U]).f2 (U[pN nm U]).f1
 have hsm := (h3.sm _ (List.getElem_mem hpU)).len
 refine Ev.step (fun k => by rw [postroomlaw10_LedgerOrder.j1, if_pos (by omega), if_pos (by omega), ra, rb]) ?_
 refine Ev.bind d1 (Ev.congr (fun k => (if_pos (by omega)).trans (if_pos (by omega))) (Ev.bind d2 (Ev.bind d3 (Ev.bind d4 (Ev.bind (Ev.fix (find_yes h3 nm hpU)) (Ev.bind (Ev.fix (find_yes h3 nm hpU)) ?_))))))
 refine Ev.congr (fun k => (if_pos rfl).trans ((if_pos rfl).trans ((if_pos rfl).trans ((if_pos rfl).trans ((if_pos rfl).trans ((if_pos rfl).trans (if_pos rfl))))))) (Ev.bind (same_self (by show (abvL _ _ _).length < _; omega)) (Ev.congr (fun k => (if_pos rfl).trans ((if_pos rfl).trans (if_pos rfl))) (Ev.bind (free_law h3) (Ev.bind (free_law h3) ?_))))
 rw [beq_self_eq_true]
 exact Ev.now _
end Go.Proofs.YthhmpjapnkilcaaDoor.Ldg
namespace Go.Proofs.YthhmpjapnkilcaaDoor
open Go.Proofs.YthhmpjapnkilcaaDoorW.PrintWords hiding encs
open Go.RowKit Go.Proofs.YthhmpjapnkilcaaDoorW.PrintLast Go.Proofs.YthhmpjapnkilcaaDoorW.PrintMore Go.Proofs.YthhmpjapnkilcaaDoor.Num Go.Proofs.YthhmpjapnkilcaaDoor.XLdg Go.Proofs.YthhmpjapnkilcaaDoor.Ldg
theorem Pure.LedgerOrder : XLdg.postroomlaw10_LedgerOrder.Pure := by
 intro l a1 a2 a3 a4 a5 hm hy hw h1 h2 h3
 have key : Ev (fun k => postroomlaw10_LedgerOrder.f k l a1 a2 a3 a4 a5) true := by
  unfold postroomlaw10_LedgerOrder.f
  refine Ev.bind shown_ev (Ev.congr (fun k => if_pos rfl) ?_)
  by_cases c : (l.length : Int) > 100
  ·exact Ev.congr (fun k => if_pos c) (Ev.now _)
  ·obtain ⟨hI, hN⟩ := run_inv l (by omega)
   have hr := run_ev l (by omega) (wf_acts hw)
   generalize runA l = S at hI hN hr
   obtain ⟨f, n, r⟩ := S
   have hI' : Inv f n r := hI
   obtain ⟨nm, hnm, hok⟩ := name_ev a1 (wf_i64 h1).1 (wf_i64 h1).2
   refine Ev.congr (fun k => if_neg c) (Ev.bind hr (Ev.bind (Ev.fix hnm) (Ev.bind (pending_law hI' nm) ?_)))
   have hpl := pendA_len hI' nm
   by_cases c2 : ((pendA r nm).length : Int) < 2
   ·exact Ev.congr (fun k => if_pos c2) (Ev.now _)
   ·obtain ⟨t, ht, t0, t1⟩ := pick_ev a2 ((pendA r nm).length : Int) (wf_i64 h2).1 (wf_i64 h2).2 (by omega)
    obtain ⟨s, hs, s0, s1⟩ := pick_ev a3 ((pendA r nm).length : Int) (wf_i64 h3).1 (wf_i64 h3).2 (by omega)
    obtain ⟨i, rfl⟩ : ∃ i : Nat, t = (i : Int) := ⟨t.toNat, by omega⟩
    obtain ⟨j, rfl⟩ : ∃ j : Nat, s = (j : Int) := ⟨s.toNat, by omega⟩
    refine Ev.congr (fun k => if_neg c2) (Ev.bind (Ev.fix ht) (Ev.bind (Ev.fix hs) ?_))
    by_cases c3 : (i : Int) = (j : Int)
    ·exact Ev.congr (fun k => if_pos c3) (Ev.now _)
    ·have hj : ∀ x y : Int, (x = 97 ∨ x = 114) → (y = 97 ∨ y = 114) → Ev (fun k => postroomlaw10_LedgerOrder.j1 k nm (pendA r nm) (i : Int) (j : Int) x y f n (r.map progD)) true := fun x y hx hy => order_j1 hI' nm x y hx hy i j (by omega) (by omega) (by omega)
     refine Ev.congr (fun k => if_neg c3) ?_
     cases a4 with
     | true =>
      refine Ev.congr (fun k => if_pos rfl) ?_
      cases a5 with
      | true => exact Ev.step (fun k => by rw [postroomlaw10_LedgerOrder.j0, if_pos rfl]) (hj 114 114 (Or.inr rfl) (Or.inr rfl))
      | false => exact Ev.step (fun k => by rw [postroomlaw10_LedgerOrder.j0, if_neg Bool.false_ne_true]) (hj 114 97 (Or.inr rfl) (Or.inl rfl))
     | false =>
      refine Ev.congr (fun k => if_neg Bool.false_ne_true) ?_
      cases a5 with
      | true => exact Ev.step (fun k => by rw [postroomlaw10_LedgerOrder.j0, if_pos rfl]) (hj 97 114 (Or.inl rfl) (Or.inr rfl))
      | false => exact Ev.step (fun k => by rw [postroomlaw10_LedgerOrder.j0, if_neg Bool.false_ne_true]) (hj 97 97 (Or.inl rfl) (Or.inl rfl))
 obtain ⟨K, hK⟩ := key
 exact ⟨K, hK K (Nat.le_refl _)⟩
end Go.Proofs.YthhmpjapnkilcaaDoor
