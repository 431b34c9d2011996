/- EntryTells: what is wrong with any entry, its bytes, its series, and what any bytes are, are as the document's answer has it. Conditions: the law's own. -/
import Derived.Test.YthaegbiblblccaaGreatDoorEntGlue
import Derived.Test.YthaegbiblblccaaGreatDoorXEntx22
namespace Go.Proofs.YthaegbiblblccaaGreatDoor
open Go.RowKit Go.Proofs.YthaegbiblblccaaGreatDoorW.PrintWords Go.Proofs.YthaegbiblblccaaGreatDoorW.PrintMore Go.Proofs.YthaegbiblblccaaGreatDoor.XEnt Go.Proofs.YthaegbiblblccaaGreatDoor.Num Go.Proofs.YthaegbiblblccaaGreatDoor.Ent
set_option linter.unusedVariables false
set_option linter.unusedSimpArgs false
theorem Pure.EntryTells : postroomlaw5_EntryTells.Pure := by
  intro l m s hl hw hm hwm hs
  obtain ⟨B, hB, hlB, hwB⟩ : ∃ B : Nat, B ≤ 9223372036854775807 ∧ l.length ≤ B ∧ ∀ p ∈ l, p.f0.size ≤ B := ⟨maxLen, by unfold maxLen; exact Nat.le_refl _, hl, fun p hp => (hw p hp).1⟩
  obtain ⟨t, rfl⟩ : ∃ t, s = bs t := ⟨ls s, (bs_ls s).symm⟩
  rw [bs_size] at hs
  clear hl hw hm
  obtain ⟨k, h1⟩ : ∃ k, B + 2000 ≤ k := ⟨B + 2000, Nat.le_refl _⟩
  refine ⟨k + 1, ?_⟩
  obtain ⟨b, hb, hb2⟩ := few_f l m (by omega) (k := k + 1) (by omega)
  unfold postroomlaw5_EntryTells.f
  rw [shown_f (by omega), bsome, hb, bsome, if_pos rfl]
  by_cases c : b = true
  · rw [if_pos c]
    simp only [postroomlaw5_EntryTells.j0]
    by_cases h3 : ((bs t).size : Int) > 2000
    · rw [if_pos (decide_eq_true h3)]
    · obtain ⟨hT1, hT2⟩ := takeE_few t
      rw [if_neg (by rw [decide_eq_true_eq]; exact h3), eput_f l m hwm (by omega), bsome, reput_f l m hwm B hB hwB (by omega), bsome, etake_f hs (by omega), bsome, retake_f hs (by omega), bsome, series_f l m (by omega), bsome, Lbl.rlput_f l B hB hwB (by omega), bsome, echeck_f l m (by omega), bsome, recheck_f l m B hB hwB (by omega), bsome, if_pos rfl, if_pos rfl, if_pos rfl]
      have e := esame_self (takeE t).1 (takeE t).2.1 (by omega) (by omega) (k := k) (by omega) (by omega)
      rw [e, bsome, if_pos rfl, if_pos rfl, if_pos rfl]
      simp
  · rw [if_neg c]
    simp only [postroomlaw5_EntryTells.j0]
    rw [if_pos trivial]
end Go.Proofs.YthaegbiblblccaaGreatDoor
