/- LabelMatches: values and matches are as the document's answer has them. Conditions: the law's own. -/
import Derived.Test.YtkgelkdaodcjcaaDoorLblGlue2
import Derived.Test.YtkgelkdaodcjcaaDoorXLblx0
import Derived.Test.YtkgelkdaodcjcaaDoorXLblx22
namespace Go.Proofs.YtkgelkdaodcjcaaDoor
open Go.RowKit Go.Proofs.YtkgelkdaodcjcaaDoorW.PrintWords Go.Proofs.YtkgelkdaodcjcaaDoorW.PrintMore Go.Proofs.YtkgelkdaodcjcaaDoor.XLbl Go.Proofs.YtkgelkdaodcjcaaDoor.Num Go.Proofs.YtkgelkdaodcjcaaDoor.Lbl
set_option linter.unusedVariables false
set_option linter.unusedSimpArgs false
theorem rd_m (m : List MM) (i : Nat) (h : i < m.length) : rd_T41 m (i : Int) = m[i] := by
  unfold rd_T41
  rw [Int.toNat_natCast, List.getD_eq_getElem?_getD, List.getElem?_eq_getElem h]; rfl
theorem matches_l0 (l : List Q) (n : ByteArray) (m : List MM) (hl : l.length ≤ 20) (hm : m.length ≤ 20) : ∀ (d k i : Nat), i + d = m.length → d + 50 < k → postroomlaw3_LabelMatches.l0 k l n m (!((m.take i).any (against l))) (i : Int) = some true
  | 0, k, i, hi, hk => by
    obtain ⟨k, rfl⟩ : ∃ q, k = q + 1 := ⟨k - 1, by omega⟩
    rw [postroomlaw3_LabelMatches.l0, if_neg (by omega), value_f, bsome, rvalue_f l n (by omega) (by omega), bsome, if_pos rfl, List.take_of_length_le (by omega)]
    unfold label_Match.f
    rw [bsome]
    simp
  | d + 1, k, i, hi, hk => by
    obtain ⟨k, rfl⟩ : ∃ q, k = q + 1 := ⟨k - 1, by omega⟩
    have h1 : i < m.length := by omega
    have ih := matches_l0 l n m hl hm d k (i + 1) (by omega) (by omega)
    rw [List.take_succ_eq_append_getElem h1, List.any_append] at ih
    rw [postroomlaw3_LabelMatches.l0, if_pos (by omega), if_pos (by omega), rd_m m i h1, rvalue_f l _ (by omega) (by omega), bsome, w_succ (by omega)]
    by_cases c : (!((m.take i).any (against l))) = true
    · rw [if_pos c]
      have c' : (m.take i).any (against l) = false := by simpa using c
      rw [c'] at ih
      refine Eq.trans ?_ ih
      congr 1
      simp only [List.any_cons, List.any_nil, Bool.false_or, Bool.or_false]
      rfl
    · rw [if_neg c]
      have c' : (m.take i).any (against l) = true := by simpa using c
      rw [c'] at ih
      exact ih
theorem Pure.LabelMatches : postroomlaw3_LabelMatches.Pure := by
  intro l n m hl1 hl2 hw hn hm1 hm2 hwm
  obtain ⟨k, h2⟩ : ∃ k, l.length + 500 ≤ k := ⟨l.length + 500, by omega⟩
  refine ⟨k + 1, ?_⟩
  obtain ⟨b, hb, hb2⟩ := few_f l (by omega) (k := k + 1) (by omega)
  unfold postroomlaw3_LabelMatches.f
  rw [shown_f (by omega), bsome, hb, bsome, if_pos rfl]
  by_cases c : b = true
  · rw [if_pos c]
    have h20 := hb2 c
    simp only [postroomlaw3_LabelMatches.j0]
    by_cases h3 : (m.length : Int) > 20
    · rw [if_pos (decide_eq_true h3)]
    · rw [if_neg (by rw [decide_eq_true_eq]; exact h3)]
      have h := matches_l0 l n m h20 (by omega) m.length k 0 (by omega) (by omega)
      exact h
  · rw [if_neg c]
    simp only [postroomlaw3_LabelMatches.j0]
    rw [if_pos trivial]
end Go.Proofs.YtkgelkdaodcjcaaDoor
