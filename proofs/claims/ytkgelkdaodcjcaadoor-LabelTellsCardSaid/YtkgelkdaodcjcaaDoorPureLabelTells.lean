/- LabelTells: all is as the document's answer has it. Conditions: the law's own. -/
import Derived.Test.YtkgelkdaodcjcaaDoorLblGlue2
import Derived.Test.YtkgelkdaodcjcaaDoorXLblx20
namespace Go.Proofs.YtkgelkdaodcjcaaDoor
open Go.RowKit Go.Proofs.YtkgelkdaodcjcaaDoorW.PrintWords Go.Proofs.YtkgelkdaodcjcaaDoorW.PrintMore Go.Proofs.YtkgelkdaodcjcaaDoor.XLbl Go.Proofs.YtkgelkdaodcjcaaDoor.Num Go.Proofs.YtkgelkdaodcjcaaDoor.Lbl
set_option linter.unusedVariables false
set_option linter.unusedSimpArgs false
theorem takeL_few (s : List UInt8) : (takeL s).1.length ≤ 8 := by
  by_cases h : (takeL s).2.2 = 0
  · obtain ⟨l, q, h1, h2, _⟩ := takeL_ok h
    rw [h1]; exact h2.few
  · rw [takeL_bad h]; simp
theorem canon_few (l : List Q) : (if chk l = 0 then (sortL l, (0 : Int)) else ([], chk l)).1.length ≤ 8 := by
  by_cases c : chk l = 0
  · rw [if_pos c]
    have := ((chk_zero l).1 c).few
    show (sortL l).length ≤ 8
    rw [sort_len]; exact this
  · rw [if_neg c]; simp
theorem Pure.LabelTells : postroomlaw3_LabelTells.Pure := by
  intro l s hl1 hl2 hw hs
  obtain ⟨B, hB, hwB⟩ : ∃ B : Nat, B ≤ 9223372036854775807 ∧ ∀ p ∈ l, p.f0.size ≤ B := ⟨maxLen, by unfold maxLen; exact Nat.le_refl _, fun p hp => (hw p hp).1⟩
  obtain ⟨t, rfl⟩ : ∃ t, s = bs t := ⟨ls s, (bs_ls s).symm⟩
  rw [bs_size] at hs
  clear hl1 hw
  obtain ⟨k, h1, h2, h4⟩ : ∃ k, B + 500 ≤ k ∧ l.length + 500 ≤ k ∧ t.length + 500 ≤ k := ⟨B + l.length + t.length + 500, by omega, by omega, by omega⟩
  refine ⟨k + 1, ?_⟩
  obtain ⟨b, hb, hb2⟩ := few_f l (by omega) (k := k + 1) (by omega)
  unfold postroomlaw3_LabelTells.f
  rw [shown_f (by omega), bsome, hb, bsome, if_pos rfl]
  by_cases c : b = true
  · rw [if_pos c]
    simp only [postroomlaw3_LabelTells.j0]
    by_cases h3 : ((bs t).size : Int) > 1000
    · rw [if_pos (decide_eq_true h3)]
    · have hT := takeL_few t
      have hC := canon_few l
      have s1 := same_self _ (Nat.le_trans hC (by omega : 8 ≤ 1000000000)) (k := k) (Nat.lt_of_le_of_lt hC (by omega))
      have s2 := same_self _ (Nat.le_trans hT (by omega : 8 ≤ 1000000000)) (k := k) (Nat.lt_of_le_of_lt hT (by omega))
      rw [if_neg (by rw [decide_eq_true_eq]; exact h3), canon_f l (by omega), bsome, rcanon_f l B hB hwB (by omega), bsome, lput_f l (by omega), bsome, rlput_f l B hB hwB (by omega), bsome, ltake_f hs (by omega), bsome, rltake_f hs (by omega), bsome]
      rw [show label_Name.f (bs t) = some (nameOk t) from rfl, bsome, rname_f t (k := k) (by omega) (by omega), bsome, if_pos (by simp), check_f l (by omega), bsome, rcheck_f l B hB hwB (by omega), bsome, if_pos rfl]
      rw [s1, bsome, if_pos rfl, if_pos rfl, if_pos rfl, if_pos rfl, s2, bsome, if_pos rfl, if_pos rfl]
      simp
  · rw [if_neg c]
    simp only [postroomlaw3_LabelTells.j0]
    rw [if_pos trivial]
end Go.Proofs.YtkgelkdaodcjcaaDoor
