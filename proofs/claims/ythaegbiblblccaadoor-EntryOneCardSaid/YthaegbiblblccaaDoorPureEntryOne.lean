/- EntryOne: what is taken was put so; entries that are unlike have unlike bytes. Conditions: the law's own. -/
import Derived.Test.YthaegbiblblccaaDoorEntGlue
import Derived.Test.YthaegbiblblccaaDoorXEntx22
namespace Go.Proofs.YthaegbiblblccaaDoor
open Go.RowKit Go.Proofs.YthaegbiblblccaaDoorW.PrintWords Go.Proofs.YthaegbiblblccaaDoorW.PrintMore Go.Proofs.YthaegbiblblccaaDoor.XEnt Go.Proofs.YthaegbiblblccaaDoor.Num Go.Proofs.YthaegbiblblccaaDoor.Ent
set_option linter.unusedVariables false
set_option linter.unusedSimpArgs false
theorem Pure.EntryOne : postroomlaw5_EntryOne.Pure := by
  intro s n n' a p p' hs hn1 hn2 hn hn1' hn2' hn' ha hp1 hp2 hp hp1' hp2' hp'
  obtain ⟨t, rfl⟩ : ∃ t, s = bs t := ⟨ls s, (bs_ls s).symm⟩
  rw [bs_size] at hs
  refine ⟨2000 + 2, ?_⟩
  unfold postroomlaw5_EntryOne.f
  rw [shown_f (by omega), bsome, if_pos rfl]
  simp only [postroomlaw5_EntryOne.j0]
  by_cases h3 : ((bs t).size : Int) > 2000
  · rw [if_pos (decide_eq_true h3)]
  · rw [bs_size] at h3
    obtain ⟨l, he, _, hg⟩ := entryOf_f hn ha (by omega) hp (k := 2000 + 1) (by omega)
    obtain ⟨l', he', _, hg'⟩ := entryOf_f hn' ha (by omega) hp' (k := 2000 + 1) (by omega)
    have hm := Smp.smp_chk (a := a) hp
    have hw := Smp.smp_wf (a := a) hp
    have hm' := Smp.smp_chk (a := a) hp'
    have hw' := Smp.smp_wf (a := a) hp'
    generalize Smp.smp a p = m at he hm hw
    generalize Smp.smp a p' = m' at he' hm' hw'
    have h8 := hg.few
    have h20 := (Smp.chk_len hm).2
    have hsl := Lbl.sort_len l
    obtain ⟨b, hb1, hb2⟩ := esame_f (sortL l) (sortL l') m m' (by omega) (by omega) (k := 2000 + 1) (by omega) (by omega)
    have e : (((bs (bytesE l m)).toList == (bs (bytesE l' m')).toList) != b) = false := by
      rw [bs_toList, bs_toList]
      by_cases h : bytesE l m = bytesE l' m'
      · rw [h, hb2.2 ((bytesE_inj hg hm hw hg' hm' hw').1 h)]; simp
      · have : b = false := Bool.eq_false_iff.2 (fun hb => h ((bytesE_inj hg hm hw hg' hm' hw').2 (hb2.1 hb)))
        rw [this, beq_eq_false_iff_ne.2 h]; rfl
    rw [if_neg (by rw [decide_eq_true_eq, bs_size]; exact h3), he, bsome, he', bsome, eput_ok hg hm hw (by omega), bsome, eput_ok hg' hm' hw' (by omega), bsome, if_pos rfl, if_pos rfl, ecanon_f hg m (by omega), bsome, ecanon_f hg' m' (by omega), bsome, hb1, bsome, e]
    simp only [postroomlaw5_EntryOne.j1]
    rw [if_neg (by decide), etake_f hs (by omega), bsome]
    rcases takeE_cases t with ⟨o, u, k1, k2, k3, k4, k5, k6⟩ | k1
    · rw [k1, if_pos rfl, eput_ok k3 k5 k6 (by omega), bsome, if_pos rfl, ← k2]
      simp
    · rw [k1, if_neg (by decide), if_pos rfl, esame_self [] [] (by simp) (by simp) (by simp) (by simp), bsome]
end Go.Proofs.YthaegbiblblccaaDoor
