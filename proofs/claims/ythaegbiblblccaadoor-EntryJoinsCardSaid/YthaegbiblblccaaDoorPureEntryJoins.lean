/- EntryJoins: an entry's bytes are those of its labels, and those of its samples. Conditions: the law's own. -/
import Derived.Test.YthaegbiblblccaaDoorEntGlue
import Derived.Test.YthaegbiblblccaaDoorXEntx27
namespace Go.Proofs.YthaegbiblblccaaDoor
open Go.RowKit Go.Proofs.YthaegbiblblccaaDoorW.PrintWords Go.Proofs.YthaegbiblblccaaDoorW.PrintMore Go.Proofs.YthaegbiblblccaaDoor.XEnt Go.Proofs.YthaegbiblblccaaDoor.Num Go.Proofs.YthaegbiblblccaaDoor.Ent
set_option linter.unusedVariables false
set_option linter.unusedSimpArgs false
theorem Pure.EntryJoins : postroomlaw5_EntryJoins.Pure := by
  intro n a p hn1 hn2 hn ha hp1 hp2 hp
  refine ⟨2000, ?_⟩
  obtain ⟨l, he, _, hg⟩ := entryOf_f hn ha (by omega) hp (k := 2000) (by omega)
  have hm := Smp.smp_chk (a := a) hp
  have hw := Smp.smp_wf (a := a) hp
  generalize Smp.smp a p = m at he hm hw
  have h8 := hg.few
  have h20 := (Smp.chk_len hm).2
  have hlen := bytesE_len hg hm hw
  have hl2 := lbytes_len hg
  have hl3 := Smp.bytes_len hm hw
  have hsl := Lbl.sort_len l
  have ht : Smp.takeS (Smp.bytes m) = (m, bs [], 0) := by
    have h := Smp.takeS_bytes hm hw []
    rwa [List.append_nil] at h
  unfold postroomlaw5_EntryJoins.f
  rw [shown_f (by omega), bsome, if_pos rfl, he, bsome, eput_ok hg hm hw (by omega), bsome, Lbl.put_goodf hg (by omega), bsome, Smp.put_ok hw hm, bsome, Lbl.ltake_f (by omega) (by omega), bsome]
  have e : Lbl.takeL (bytesE l m) = (sortL l, bs (Smp.bytes m), 0) := by unfold bytesE; exact Lbl.takeL_put hg _
  rw [e, Smp.stake_f (by omega), bsome, ht, etake_f (by omega) (by omega), bsome, takeE_all hg hm hw, if_pos rfl, if_pos rfl, if_pos rfl, if_pos rfl, if_pos rfl, if_pos rfl, if_pos (by simp only [bs_size]; omega), bs_app, if_pos (by rfl), if_pos rfl, bs_toList, if_pos rfl, esame_self (sortL l) m (by omega) (by omega) (by omega) (by omega), bsome]
end Go.Proofs.YthaegbiblblccaaDoor
