/- SampleOne: what is taken was put so. Conditions: the law's own. -/
import Derived.Test.YtncaikmdcbaeeaaSmpGlue
import Derived.Test.YtncaikmdcbaeeaaXSmpx9
namespace Go.Proofs.Ytncaikmdcbaeeaa
open Go.RowKit Go.Proofs.YtncaikmdcbaeeaaW.PrintWords Go.Proofs.YtncaikmdcbaeeaaW.PrintMore Go.Proofs.Ytncaikmdcbaeeaa.XSmp Go.Proofs.Ytncaikmdcbaeeaa.Num Go.Proofs.Ytncaikmdcbaeeaa.Smp
set_option linter.unusedVariables false
set_option linter.unusedSimpArgs false
theorem Pure.SampleOne : postroomlaw4_SampleOne.Pure := by
  intro s a b l m hs ha hb hl1 hl2 hwl hm1 hm2 hwm
  refine ⟨200, ?_⟩
  obtain ⟨t, rfl⟩ : ∃ t, s = bs t := ⟨ls s, (bs_ls s).symm⟩
  rw [bs_size] at hs
  unfold postroomlaw4_SampleOne.f
  rw [shown_f, bsome, if_pos rfl]
  simp only [postroomlaw4_SampleOne.j0]
  by_cases h2 : ((bs t).size : Int) > 1000
  · rw [if_pos (decide_eq_true h2)]
  · rw [bs_size] at h2
    have hlx := smp_len a l
    have hcx := smp_chk (a := a) hwl
    have hcy := smp_chk (a := b) hwm
    have hwx := smp_wf (a := a) hwl
    have hwy := smp_wf (a := b) hwm
    rw [if_neg (by rw [decide_eq_true_eq, bs_size]; exact h2), samplesOf_f ha (by omega) hwl (by omega), bsome, samplesOf_f hb (by omega) hwm (by omega), bsome]
    generalize smp a l = x at *
    generalize smp b m = y at *
    have e : (((bs (Smp.bytes x)).toList == (bs (Smp.bytes y)).toList) != decide (x = y)) = false := by
      rw [bs_toList, bs_toList]
      by_cases h : x = y
      · subst h; simp
      · rw [decide_eq_false h, beq_eq_false_iff_ne.2 (fun e => h (bytes_inj hcx hcy hwx hwy e))]; rfl
    rw [put_ok hwx hcx, bsome, put_ok hwy hcy, bsome, if_pos rfl, if_pos rfl, same_f (by omega) (by omega), bsome, e]
    simp only [postroomlaw4_SampleOne.j1]
    rw [if_neg (by decide), stake_f hs, bsome]
    rcases takeS_cases t with ⟨o, u, h3, h4⟩ | ⟨_, h4⟩
    · obtain ⟨k1, k2, k3⟩ := taken_some h3
      have hlen : (Smp.bytes o).length + u.length ≤ 1000 := by rw [← List.length_append, ← k1]; omega
      rw [h4, if_pos rfl, put_ok k3 k2, bsome, if_pos rfl, if_pos (by simp only [bs_size]; omega), bs_app, ← k1]
      simp
    · rw [h4, if_neg (by decide), if_pos rfl]
      show (if ((([] : List S).length : Int)) = 0 then some ((bs []).toList == ([] : List UInt8)) else some false) = some true
      rw [if_pos (by simp), bs_toList]
      rfl
end Go.Proofs.Ytncaikmdcbaeeaa
