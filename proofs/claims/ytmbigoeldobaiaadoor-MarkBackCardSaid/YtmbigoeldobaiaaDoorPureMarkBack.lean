/- MarkBack: a ledger that came of acts is taken again as it was put; with a byte more, or less, it is not. Conditions: the law's own. -/
import Derived.Test.YtmbigoeldobaiaaDoorMrkSame
import Derived.Test.YtmbigoeldobaiaaDoorXMrkx23
namespace Go.Proofs.YtmbigoeldobaiaaDoor.Mrk
open Go.Proofs.YtmbigoeldobaiaaDoorW.PrintWords hiding encs
open Go.RowKit Go.Proofs.YtmbigoeldobaiaaDoorW.PrintLast Go.Proofs.YtmbigoeldobaiaaDoorW.PrintMore Go.Proofs.YtmbigoeldobaiaaDoor.Num Go.Proofs.YtmbigoeldobaiaaDoor.XMrk Go.Proofs.YtmbigoeldobaiaaDoor.Nam
set_option linter.unusedVariables false
set_option linter.unusedSimpArgs false
theorem cvs_len {l : List D} {c : Nat} (h : ∀ d ∈ l, d.f3.length ≤ c) : ∀ d ∈ l.map cv, d.f3.length ≤ c := fun d hd => by
 obtain ⟨x, hx, rfl⟩ := List.mem_map.1 hd
 exact h x hx
theorem back (l : List MAct) (a1 : ByteArray) (a2 : Int) (hw : ∀ a ∈ l, wfM a) (h0 : -9223372036854775808 ≤ a2) (h1 : a2 < 9223372036854775808) : Ev (fun k => postroomlaw11_MarkBack.f k l a1 a2) true := by
 have hj : ∀ k, postroomlaw11_MarkBack.j0 (k + 1) l a1 a2 true true = some true := fun k => by rw [postroomlaw11_MarkBack.j0, if_pos rfl]
 refine Ev.bind shown_f (Ev.congr (fun k => if_pos rfl) ?_)
 by_cases c : (l.length : Int) > 100
 ·exact Ev.congr (fun k => if_pos c) (Ev.stop hj)
 ·refine Ev.congr (fun k => if_neg c) ?_
  by_cases c2 : (a1.size : Int) > 1000
  ·rw [decide_eq_true c2]; exact Ev.stop hj
  ·rw [decide_eq_false c2]
   obtain ⟨s, rfl⟩ := bs_list a1
   rw [bs_size] at c2
   obtain ⟨hI, hN⟩ := runM_inv l (by omega)
   have hr := mrun_ev l (by omega) hw
   generalize runM l = S at hI hN hr
   obtain ⟨f, n, r⟩ := S
   have hI' : Ldg.Inv f n r := hI
   have hW := inv_wfl hI'
   have hR := inv_right hI'
   obtain ⟨hd, hE⟩ := inv_few hI'
   have hf := hI'.few
   have hrg := (encL_range hW hR).1
   generalize r.map Ldg.progD = ds at hr hW hR hd hE hrg
   have hds := (rightL_name hR).1
   have hp := mput_f hW (by omega)
   rw [if_pos hR] at hp
   have ht := mtake_put hW hR
   refine Ev.step (fun k => by rw [postroomlaw11_MarkBack.j0, if_neg (by decide)]) ?_
   refine Ev.bind hr (Ev.bind hp (Ev.bind ht (Ev.congr (fun k => (if_pos rfl).trans ((if_pos rfl).trans (if_neg (by rw [bs_size]; omega)))) ?_)))
   refine Ev.bind (as_f f n ds (by omega)) (Ev.bind (as_f f n ds (by omega)) (Ev.bind (same_refl f n (ds.map cv) (by rw [List.length_map]; omega) (fun d hd' => by have := cvs_len (fun x hx => (hd x hx).1) d hd'; omega)) ?_))
   refine Ev.step (fun k => by rw [postroomlaw11_MarkBack.j1, if_neg (by decide)]) ?_
   obtain ⟨p, hpk, p0, p1⟩ := mpick_ev a2 ((encL f n ds).length : Int) h0 h1 (by omega)
   refine Ev.congr (fun k => by rw [bs_size, hpk]) (Ev.bind (Ev.now _) ?_)
   refine Ev.congr (fun k => (if_pos p0).trans ((if_pos (by omega)).trans (by rw [bs_take]))) ?_
   obtain ⟨q, hq, hT⟩ := mtake_any ((encL f n ds).take p.toNat) (by rw [List.length_take]; omega)
   have hq0 : q = err0 := by
    rcases hT with rfl | ⟨f', n', es, rfl, w', r', e⟩
    ·rfl
    ·exfalso
     have e1 := bs_inj e
     have e2 : encL f n ds ++ [] = encL f' n' es ++ (encL f n ds).drop p.toNat := by
      rw [← e1, List.take_append_drop, List.append_nil]
     have e3 := (encL_tail hW hR w' r' (by rw [List.append_nil]; omega) e2).2.2.2
     have e4 := congrArg List.length e3
     rw [List.length_drop, List.length_nil] at e4
     omega
   subst hq0
   refine Ev.bind hq (Ev.congr (fun k => (if_pos (by rw [bs_size]; omega)).trans (by rw [bs_app])) ?_)
   obtain ⟨q, hq, hT⟩ := mtake_any (encL f n ds ++ s) (by rw [List.length_append]; omega)
   refine Ev.bind hq (Ev.congr (fun k => if_pos rfl) ?_)
   have key : ((q.2.2.2 == 0) == ((bs s).toList == ([] : List UInt8))) = true := by
    rw [bs_toList]
    rcases hT with rfl | ⟨f', n', es, rfl, w', r', e⟩
    ·have hs : s ≠ [] := fun e => by
      subst e
      rw [List.append_nil] at hq
      have := Ev.uniq hq ht
      cases this
     cases s with
     | nil => exact absurd rfl hs
     | cons a b => rfl
    ·have e1 := bs_inj e
     have e2 : encL f n ds ++ s = encL f' n' es ++ [] := by rw [e1, List.append_nil]
     have e3 := (encL_tail hW hR w' r' (by rw [List.length_append]; omega) e2).2.2.2
     subst e3
     rfl
   rw [key]
   exact Ev.now _
end Go.Proofs.YtmbigoeldobaiaaDoor.Mrk
namespace Go.Proofs.YtmbigoeldobaiaaDoor
theorem Pure.MarkBack : XMrk.postroomlaw11_MarkBack.Pure := fun l a1 a2 _ _ hw _ h2 => Go.Proofs.YtmbigoeldobaiaaDoorW.PrintWords.Ev.rounds (Mrk.back l a1 a2 (Mrk.wf_macts hw) (Num.wf_i64 h2).1 (Num.wf_i64 h2).2)
end Go.Proofs.YtmbigoeldobaiaaDoor
