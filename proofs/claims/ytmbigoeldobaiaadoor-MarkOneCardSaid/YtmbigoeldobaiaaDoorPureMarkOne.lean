/- MarkOne: what is taken was put so, and is right; ledgers that are unlike have unlike bytes. Conditions: the law's own. -/
import Derived.Test.YtmbigoeldobaiaaDoorMrkSame
import Derived.Test.YtmbigoeldobaiaaDoorXMrkx24
namespace Go.Proofs.YtmbigoeldobaiaaDoor.Mrk
open Go.Proofs.YtmbigoeldobaiaaDoorW.PrintWords hiding encs
open Go.RowKit Go.Proofs.YtmbigoeldobaiaaDoorW.PrintLast Go.Proofs.YtmbigoeldobaiaaDoorW.PrintMore Go.Proofs.YtmbigoeldobaiaaDoor.Num Go.Proofs.YtmbigoeldobaiaaDoor.XMrk Go.Proofs.YtmbigoeldobaiaaDoor.Nam
set_option linter.unusedVariables false
set_option linter.unusedSimpArgs false
theorem one2 (s : List UInt8) (hs : s.length ≤ 500000) : Ev (fun k => postroomlaw11_MarkOne.j1 k (bs s) false) true := by
 refine Ev.step (fun k => by rw [postroomlaw11_MarkOne.j1, if_neg (by decide)]) ?_
 obtain ⟨q, hq, hT⟩ := mtake_any s hs
 refine Ev.bind hq ?_
 rcases hT with rfl | ⟨f, n, ds, rfl, w, r, e⟩
 ·exact Ev.congr (fun k => (if_neg (by decide)).trans ((if_pos rfl).trans (if_pos rfl))) (Ev.now _)
 ·have hp := mput_f w (by have := (rightL_name r).1; omega)
  rw [if_pos r] at hp
  have hR := right_f f n ds (by have := (rightL_name r).1; omega) (fun d hd => by have := (w.all d hd).2; omega)
  rw [r] at hR
  refine Ev.congr (fun k => if_pos rfl) (Ev.bind hp (Ev.congr (fun k => (if_pos rfl).trans (if_pos (by rw [← e]))) (Ev.bind hR (Ev.now _))))
theorem one (s : ByteArray) (l m : List MAct) (hl : ∀ a ∈ l, wfM a) (hm : ∀ a ∈ m, wfM a) : Ev (fun k => postroomlaw11_MarkOne.f k s l m) true := by
 have hj : ∀ k, postroomlaw11_MarkOne.j0 (k + 1) s l m true true = some true := fun k => by rw [postroomlaw11_MarkOne.j0, if_pos rfl]
 refine Ev.bind shown_f (Ev.congr (fun k => if_pos rfl) ?_)
 by_cases c1 : (s.size : Int) > 2000
 ·exact Ev.congr (fun k => if_pos c1) (Ev.stop hj)
 ·refine Ev.congr (fun k => if_neg c1) ?_
  by_cases c2 : (l.length : Int) > 60
  ·exact Ev.congr (fun k => if_pos c2) (Ev.stop hj)
  ·refine Ev.congr (fun k => if_neg c2) ?_
   by_cases c3 : (m.length : Int) > 60
   ·rw [decide_eq_true c3]; exact Ev.stop hj
   ·rw [decide_eq_false c3]
    obtain ⟨t, rfl⟩ := bs_list s
    rw [bs_size] at c1
    obtain ⟨hI, hN⟩ := runM_inv l (by omega)
    obtain ⟨hJ, hM⟩ := runM_inv m (by omega)
    have hr := mrun_ev l (by omega) hl
    have hq := mrun_ev m (by omega) hm
    generalize runM l = S at hI hN hr
    generalize runM m = T at hJ hM hq
    obtain ⟨f, n, r⟩ := S
    obtain ⟨f', n', r'⟩ := T
    have hI' : Ldg.Inv f n r := hI
    have hJ' : Ldg.Inv f' n' r' := hJ
    have hW := inv_wfl hI'
    have hR := inv_right hI'
    have hW' := inv_wfl hJ'
    have hR' := inv_right hJ'
    obtain ⟨hd, hE⟩ := inv_few hI'
    generalize r.map Ldg.progD = ds at hr hW hR hd hE
    generalize r'.map Ldg.progD = es at hq hW' hR'
    have hds := (rightL_name hR).1
    have hes := (rightL_name hR').1
    have hp := mput_f hW (by omega)
    rw [if_pos hR] at hp
    have hp' := mput_f hW' (by omega)
    rw [if_pos hR'] at hp'
    obtain ⟨v, hv, hP⟩ := same_gen f n f' n' (ds.map cv) (es.map cv) (by rw [List.length_map]; omega) (fun d hd' => by
     obtain ⟨x, hx, rfl⟩ := List.mem_map.1 hd'
     have := (hd x hx).1
     show x.f3.length ≤ _
     omega)
    have hk : (((bs (encL f n ds)).toList == (bs (encL f' n' es)).toList) != v) = false := by
     rw [bs_toList, bs_toList]
     cases v with
     | true =>
      obtain ⟨e1, e2, e3⟩ := hP.1 rfl
      rw [e1, e2, cvs_inj e3]; simp
     | false =>
      have hne : encL f n ds ≠ encL f' n' es := fun e => by
       obtain ⟨e1, e2, e3, _⟩ := encL_tail hW hR hW' hR' (t := []) (u := []) (by rw [List.append_nil]; omega) (by rw [List.append_nil, List.append_nil]; exact e)
       have := hP.2 ⟨e1, e2, by rw [e3]⟩
       cases this
      simp [hne]
    refine Ev.step (fun k => by rw [postroomlaw11_MarkOne.j0, if_neg (by decide)]) ?_
    refine Ev.bind hr (Ev.bind hq (Ev.bind hp (Ev.bind hp' (Ev.congr (fun k => (if_pos rfl).trans (if_pos rfl)) (Ev.bind (as_f f n ds (by omega)) (Ev.bind (as_f f' n' es (by omega)) (Ev.bind hv ?_)))))))
    refine Ev.congr (fun k => congrArg (fun b => postroomlaw11_MarkOne.j1 k (bs t) b) hk) (one2 t (by omega))
end Go.Proofs.YtmbigoeldobaiaaDoor.Mrk
namespace Go.Proofs.YtmbigoeldobaiaaDoor
theorem Pure.MarkOne : XMrk.postroomlaw11_MarkOne.Pure := fun s l m _ _ _ hl _ _ hm => Go.Proofs.YtmbigoeldobaiaaDoorW.PrintWords.Ev.rounds (Mrk.one s l m (Mrk.wf_macts hl) (Mrk.wf_macts hm))
end Go.Proofs.YtmbigoeldobaiaaDoor
