/- LabelOne: labels that are unlike have unlike bytes; what is taken was put so. Conditions: the law's own. -/
import Derived.Test.YtkgelkdaodcjcaaDoorLblGlue2
import Derived.Test.YtkgelkdaodcjcaaDoorXLblx26
namespace Go.Proofs.YtkgelkdaodcjcaaDoor
open Go.RowKit Go.Proofs.YtkgelkdaodcjcaaDoorW.PrintWords Go.Proofs.YtkgelkdaodcjcaaDoorW.PrintMore Go.Proofs.YtkgelkdaodcjcaaDoor.XLbl Go.Proofs.YtkgelkdaodcjcaaDoor.Num Go.Proofs.YtkgelkdaodcjcaaDoor.Lbl
set_option linter.unusedVariables false
set_option linter.unusedSimpArgs false
theorem Pure.LabelOne : postroomlaw3_LabelOne.Pure := by
  intro n m s hn1 hn2 hn hm1 hm2 hm hs
  obtain ⟨t, rfl⟩ : ∃ t, s = bs t := ⟨ls s, (bs_ls s).symm⟩
  rw [bs_size] at hs
  refine ⟨500 + 2, ?_⟩
  unfold postroomlaw3_LabelOne.f
  rw [shown_f (by omega), bsome, if_pos rfl]
  simp only [postroomlaw3_LabelOne.j0]
  by_cases h3 : ((bs t).size : Int) > 1000
  · rw [if_pos (decide_eq_true h3)]
  · rw [bs_size] at h3
    obtain ⟨l, hl, hM⟩ := labels_f hn (k := 500 + 1) (by omega)
    obtain ⟨l', hl', hM'⟩ := labels_f hm (k := 500 + 1) (by omega)
    have hg := hM.good
    have h8 := hg.few
    have hg' := hM'.good
    have h8' := hg'.few
    have hlen := sort_len l
    obtain ⟨b, hb1, hb2⟩ := same_f (sortL l) (sortL l') (by omega) (k := 500 + 1) (by omega)
    have e : (((bs (lbytes l)).toList == (bs (lbytes l')).toList) != b) = false := by
      rw [bs_toList, bs_toList]
      by_cases h : lbytes l = lbytes l'
      · rw [h, hb2.2 ((lbytes_inj hg hg').1 h)]; simp
      · have : b = false := Bool.eq_false_iff.2 (fun hb => h ((lbytes_inj hg hg').2 (hb2.1 hb)))
        rw [this, beq_eq_false_iff_ne.2 h]; rfl
    rw [if_neg (by rw [decide_eq_true_eq, bs_size]; exact h3), hl, bsome, canon_good hg (by omega), bsome, hl', bsome, canon_good hg' (by omega), bsome, bsome, put_goodf hg (by omega), bsome, bsome, put_goodf hg' (by omega), bsome, if_pos rfl, if_pos rfl, hb1, bsome, e]
    simp only [postroomlaw3_LabelOne.j1]
    rw [if_neg (by decide), ltake_f hs (by omega), bsome]
    by_cases h5 : (takeL t).2.2 = 0
    · obtain ⟨o, q, k1, k2, k3, k4⟩ := takeL_ok h5
      have hlo : (lbytes o).length + q.length ≤ 140737488351232 := by rw [← List.length_append, ← k4]; exact hs
      rw [k1, if_pos rfl, put_goodf k2 (by omega), bsome, if_pos rfl, if_pos (by simp only [bs_size]; omega), bs_app, ← k4, if_pos rfl, check_f o (by omega), bsome, good_chk k2]
      rfl
    · rw [takeL_bad h5, if_neg (by decide), if_pos rfl]
      show (if ((([] : List Q).length : Int)) = 0 then some ((bs []).toList == ([] : List UInt8)) else some false) = some true
      rw [if_pos (by simp), bs_toList]
      rfl
end Go.Proofs.YtkgelkdaodcjcaaDoor
