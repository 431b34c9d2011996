/- SampleTells: all is as the document's answer has it. Conditions: the law's own. -/
import Derived.Test.YtncaikmdcbaeeaaSmpRTake
import Derived.Test.YtncaikmdcbaeeaaXSmpx6
namespace Go.Proofs.Ytncaikmdcbaeeaa
open Go.RowKit Go.Proofs.YtncaikmdcbaeeaaW.PrintWords Go.Proofs.YtncaikmdcbaeeaaW.PrintMore Go.Proofs.Ytncaikmdcbaeeaa.XSmp Go.Proofs.Ytncaikmdcbaeeaa.Num Go.Proofs.Ytncaikmdcbaeeaa.Smp
set_option linter.unusedVariables false
set_option linter.unusedSimpArgs false
theorem takeS_len (s : List UInt8) : (takeS s).1.length ≤ 20 := by
  rcases takeS_cases s with ⟨o, u, h1, h2⟩ | ⟨_, h2⟩
  · rw [h2]; exact (chk_len (taken_some h1).2.1).2
  · rw [h2]; simp
theorem Pure.SampleTells : postroomlaw4_SampleTells.Pure := by
  intro l s a b hl1 hl2 hw hs ha hb
  refine ⟨1301, ?_⟩
  unfold postroomlaw4_SampleTells.f
  rw [shown_f, bsome, if_pos rfl]
  obtain ⟨t, rfl⟩ : ∃ t, s = bs t := ⟨ls s, (bs_ls s).symm⟩
  rw [bs_size] at hs
  by_cases h1 : (l.length : Int) > 40
  · rw [if_pos h1]; simp only [postroomlaw4_SampleTells.j0]; rfl
  · rw [if_neg h1]
    simp only [postroomlaw4_SampleTells.j0]
    by_cases h2 : ((bs t).size : Int) > 1000
    · rw [if_pos (decide_eq_true h2)]
    · have hT := takeS_len t
      have hB := List.length_filter_le (fun x : S => decide (a ≤ x.f0) && decide (x.f0 ≤ b)) l
      rw [if_neg (by rw [decide_eq_true_eq]; exact h2), sput_f hw, bsome]
      rw [show postroomref4_Put.f l = some (putS l) by unfold postroomref4_Put.f; rw [if_pos hw], bsome, stake_f hs, bsome, rtake4_f hs (by omega), bsome, check_f l 1300 (by omega), bsome, rcheck_f l 1300 (by omega), bsome, if_pos rfl, if_pos rfl, if_pos rfl]
      rw [same_f (by omega) (by omega), bsome, decide_eq_true rfl, if_pos rfl, if_pos rfl, if_pos rfl, between_f (by omega) (by omega), bsome, rbetween_f (by omega) (by omega), bsome, same_f (by unfold btw; omega) (by unfold btw; omega), bsome, decide_eq_true rfl]
end Go.Proofs.Ytncaikmdcbaeeaa
