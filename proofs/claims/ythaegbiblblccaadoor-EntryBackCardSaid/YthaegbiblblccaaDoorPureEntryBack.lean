/- EntryBack: an entry that is right is taken again as it was put; with a byte more, or less, it is not. Conditions: the law's own. -/
import Derived.Test.YthaegbiblblccaaDoorEntGlue
import Derived.Test.YthaegbiblblccaaDoorXEntx21
namespace Go.Proofs.YthaegbiblblccaaDoor
open Go.RowKit Go.Proofs.YthaegbiblblccaaDoorW.PrintWords Go.Proofs.YthaegbiblblccaaDoorW.PrintMore Go.Proofs.YthaegbiblblccaaDoor.XEnt Go.Proofs.YthaegbiblblccaaDoor.Num Go.Proofs.YthaegbiblblccaaDoor.Ent
set_option linter.unusedVariables false
set_option linter.unusedSimpArgs false
theorem Pure.EntryBack : postroomlaw5_EntryBack.Pure := by
  intro n a p s c hn1 hn2 hn ha hp1 hp2 hp hs hc
  obtain ⟨t, rfl⟩ : ∃ t, s = bs t := ⟨ls s, (bs_ls s).symm⟩
  have hc := wf_i64 hc
  rw [bs_size] at hs
  refine ⟨2000 + 2, ?_⟩
  unfold postroomlaw5_EntryBack.f
  rw [shown_f (by omega), bsome, if_pos rfl]
  simp only [postroomlaw5_EntryBack.j0]
  by_cases h3 : ((bs t).size : Int) > 1000
  · rw [if_pos (decide_eq_true h3)]
  · rw [bs_size] at h3
    obtain ⟨l, he, _, hg⟩ := entryOf_f hn ha (by omega) hp (k := 2000 + 1) (by omega)
    have hm := Smp.smp_chk (a := a) hp
    have hw := Smp.smp_wf (a := a) hp
    generalize Smp.smp a p = m at he hm hw
    have h8 := hg.few
    have h20 := (Smp.chk_len hm).2
    have hlen := bytesE_len hg hm hw
    have hsl := Lbl.sort_len l
    have hpos : 0 < (bytesE l m).length := by
      unfold bytesE Lbl.lbytes
      rw [List.length_append, List.length_append]
      have := enc_pos l.length
      omega
    rw [if_neg (by rw [decide_eq_true_eq, bs_size]; exact h3), he, bsome, eput_ok hg hm hw (by omega), bsome, etake_f (by omega) (by omega), bsome, takeE_all hg hm hw, if_pos rfl, if_pos rfl, echeck_f l m (by omega), bsome, chkE_zero.2 ⟨hg, hm⟩, if_pos rfl, ecanon_f hg m (by omega), bsome, esame_self (sortL l) m (by omega) (by omega) (by omega) (by omega), bsome, if_pos rfl]
    simp only [bs_size]
    rw [if_neg (by omega), decide_eq_false (by omega)]
    simp only [postroomlaw5_EntryBack.j1]
    have hp2 := Lbl.pick_f hc hpos
    have hlt := Lbl.pickN_lt c hpos
    generalize Lbl.pickN c (bytesE l m).length = i at hp2 hlt
    rw [if_neg (by decide), bs_size, hp2, bsome, if_pos (by omega), if_pos (by omega), Int.toNat_natCast, bs_take, etake_f (by rw [List.length_take]; omega) (by omega), bsome, takeE_cut hg hm hw hlt, if_pos (by rw [bs_size]; omega), bs_app, etake_f (by rw [List.length_append]; omega) (by omega), bsome, if_pos rfl, takeE_put hg hm hw, bs_toList]
    by_cases e : t = []
    · subst e; rfl
    · rw [if_neg e]
      have : (t == []) = false := beq_eq_false_iff_ne.2 e
      rw [this]; rfl
end Go.Proofs.YthaegbiblblccaaDoor
