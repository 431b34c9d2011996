/- FrameBack: a frame is told again, with whatever stands behind it. Conditions: the law's own. -/
import Derived.Test.YtbhbbnfkblibfaaDoorFrmGlue
import Derived.Test.YtbhbbnfkblibfaaDoorXFrmx8
namespace Go.Proofs.YtbhbbnfkblibfaaDoor
open Go.RowKit Go.Proofs.YtbhbbnfkblibfaaDoorW.PrintWords Go.Proofs.YtbhbbnfkblibfaaDoorW.PrintMore Go.Proofs.YtbhbbnfkblibfaaDoor.XFrm Go.Proofs.YtbhbbnfkblibfaaDoor.Num Go.Proofs.YtbhbbnfkblibfaaDoor.Frm
set_option linter.unusedVariables false
set_option linter.unusedSimpArgs false
theorem Pure.FrameBack : postroomlaw6_FrameBack.Pure := by
  intro a0 a1 a2 h0 h1 h2
  obtain ⟨g0, g1⟩ := wf_u64 h0
  obtain ⟨n, rfl⟩ : ∃ n : Nat, a0 = (n : Int) := ⟨_, (Int.toNat_of_nonneg g0).symm⟩
  obtain ⟨b, rfl⟩ := bs_list a1
  obtain ⟨r, rfl⟩ := bs_list a2
  rw [bs_size] at h1 h2
  have hn : n < 18446744073709551616 := by omega
  refine ⟨200, ?_⟩
  unfold postroomlaw6_FrameBack.f
  rw [shown_f (by decide), bsome, if_pos rfl, bs_size, bs_size]
  by_cases hb : 2000 < b.length
  · rw [if_pos (by omega), postroomlaw6_FrameBack.j0, if_pos rfl]
  · rw [if_neg (by omega)]
    by_cases hr : 1000 < r.length
    · rw [postroomlaw6_FrameBack.j0, if_pos (by rw [decide_eq_true_eq]; omega)]
    · have hfl := fr_le hn (show b.length ≤ 2000 by omega)
      have hge := fr_ge n b
      have hp : putF n b = (bs (fr n b), 0) := by unfold putF; rw [if_neg hb]
      have e1 : wrap64 ((b.length : Int) + 6) = (b.length : Int) + 6 := w64_id (by omega) (by omega)
      rw [postroomlaw6_FrameBack.j0, if_neg (by rw [decide_eq_true_eq]; omega), fput_f hn h1 (by decide), bsome, hp, bs_size, bs_size, if_pos (by omega), bs_app, first_f (by rw [List.length_append]; omega) (by decide), bsome, firstP_put r hn (by omega)]
      simp only [bs_size, bs_toList]
      rw [if_pos trivial, if_pos trivial, if_pos trivial, if_pos trivial, if_pos trivial, fsize_f hn h1 (by decide), bsome, hp, bs_size, if_pos rfl, e1, decide_eq_true (by omega)]
end Go.Proofs.YtbhbbnfkblibfaaDoor
