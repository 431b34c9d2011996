/- LabelNot: a matcher and the same one turned never both hold; more matchers are never easier; none holds always. Conditions: the law's own. -/
import Derived.Test.YtkgelkdaodcjcaaDoorLblGlue2
import Derived.Test.YtkgelkdaodcjcaaDoorXLblx29
namespace Go.Proofs.YtkgelkdaodcjcaaDoor
open Go.RowKit Go.Proofs.YtkgelkdaodcjcaaDoorW.PrintWords Go.Proofs.YtkgelkdaodcjcaaDoorW.PrintMore Go.Proofs.YtkgelkdaodcjcaaDoor.XLbl Go.Proofs.YtkgelkdaodcjcaaDoor.Num Go.Proofs.YtkgelkdaodcjcaaDoor.Lbl
set_option linter.unusedVariables false
set_option linter.unusedSimpArgs false
theorem against_not (l : List Q) (a b : ByteArray) (c : Bool) : against l ⟨a, b, !c⟩ = !(against l ⟨a, b, c⟩) := by
  show (((valL l a).toList == b.toList) == !c) = !(((valL l a).toList == b.toList) == c)
  cases ((valL l a).toList == b.toList) <;> cases c <;> rfl
theorem Pure.LabelNot : postroomlaw3_LabelNot.Pure := by
  intro n m a b c hn1 hn2 hn hm1 hm2 hwm ha hb
  refine ⟨500 + 1, ?_⟩
  unfold postroomlaw3_LabelNot.f
  rw [shown_f (by omega), bsome, if_pos rfl]
  simp only [postroomlaw3_LabelNot.j0]
  by_cases h3 : (m.length : Int) > 20
  · rw [if_pos (decide_eq_true h3)]
  · obtain ⟨l, hl, hM⟩ := labels_f hn (k := 500) (by omega)
    rw [if_neg (by rw [decide_eq_true_eq]; exact h3), hl, bsome]
    unfold label_Match.f
    rw [bsome, bsome, bsome, bsome, if_pos (by rw [List.length_nil]; omega), bsome, bsome, if_pos (by rw [List.nil_append, List.length_singleton]; omega), bsome, List.nil_append, List.any_append]
    simp only [List.any_cons, List.any_nil, Bool.or_false, against_not]
    cases against l ⟨a, b, c⟩ <;> cases m.any (against l) <;> rfl
end Go.Proofs.YtkgelkdaodcjcaaDoor
