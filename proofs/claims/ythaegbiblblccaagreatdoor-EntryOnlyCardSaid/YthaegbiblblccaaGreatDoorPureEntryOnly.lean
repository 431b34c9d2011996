/- EntryOnly: what of any entry is asked for, or that it is nothing, is as the document's answer has it. Conditions: the law's own. -/
import Derived.Test.YthaegbiblblccaaGreatDoorEntOnly
import Derived.Test.YthaegbiblblccaaGreatDoorXEntP1
import Derived.Test.YthaegbiblblccaaGreatDoorXEntP5
namespace Go.Proofs.YthaegbiblblccaaGreatDoor
open Go.RowKit Go.Proofs.YthaegbiblblccaaGreatDoorW.PrintWords Go.Proofs.YthaegbiblblccaaGreatDoorW.PrintMore Go.Proofs.YthaegbiblblccaaGreatDoor.XEnt Go.Proofs.YthaegbiblblccaaGreatDoor.Num Go.Proofs.YthaegbiblblccaaGreatDoor.Ent
set_option linter.unusedVariables false
set_option linter.unusedSimpArgs false
theorem rd_m (m : List MM) (i : Nat) (h : i < m.length) : rd_T43 m (i : Int) = m[i] := by
  unfold rd_T43
  rw [Int.toNat_natCast, List.getD_eq_getElem?_getD, List.getElem?_eq_getElem h]; rfl
theorem only_end (l : List S52) (m : List Sm) (ms : List MM) (a b : Int) (hl : l.length ≤ 20) (hm : m.length ≤ 40) (B : Nat) (hB : B ≤ 9223372036854775807) (hs : ∀ p ∈ l, p.f0.size ≤ B) {k : Nat} (hk : B + 1000 ≤ k) (w : Bool) (hw : w = (decide (chkE l m = 0) && !(ms.any (against l)))) :
    postroomlaw5_EntryOnly.l0 (k + 2) ms a b (onlyE l m ms a b).2.2 w (ms.length : Int) l m (onlyE l m ms a b).1 (onlyE l m ms a b).2.1 = some true := by
  have hbl := btw_le m a b
  rw [postroomlaw5_EntryOnly.l0, if_neg (by omega), Smp.rbetween_f (by omega) (by omega), bsome]
  have none_ : ∀ x, x = true → onlyE l m ms a b = ([], [], false) → postroomlaw5_EntryOnly.j2 (k + 1) (onlyE l m ms a b).2.2 (Smp.btw m a b) x l m (onlyE l m ms a b).1 (onlyE l m ms a b).2.1 = some true := fun x hx e => by
    rw [e, hx, postroomlaw5_EntryOnly.j2, if_pos rfl, if_neg (by decide), esame_self [] [] (by simp) (by simp) (by simp; omega) (by simp; omega), bsome]
  by_cases c : chkE l m = 0
  · by_cases d : ms.any (against l) = true
    · have hwf : w = false := by rw [hw, d, decide_eq_true c]; rfl
      rw [hwf, if_neg (by decide)]
      exact none_ _ rfl (by unfold onlyE; rw [if_pos c, if_pos d])
    · have d' : ms.any (against l) = false := Bool.eq_false_iff.2 d
      have hwt : w = true := by rw [hw, d', decide_eq_true c]; rfl
      rw [hwt, if_pos rfl]
      by_cases e : Smp.btw m a b = []
      · exact none_ _ (by rw [e]; rfl) (by unfold onlyE; rw [if_pos c, if_neg d, if_pos e])
      · have hne : (Smp.btw m a b).length ≠ 0 := fun h => e (List.eq_nil_of_length_eq_zero h)
        obtain ⟨hg, _⟩ := chkE_zero.1 c
        have hsl := Lbl.sort_len l
        have e2 : onlyE l m ms a b = (sortL l, Smp.btw m a b, true) := by unfold onlyE; rw [if_pos c, if_neg d, if_neg e]
        rw [e2, beq_eq_false_iff_ne.2 (by omega), postroomlaw5_EntryOnly.j2, if_neg (by decide), if_pos rfl, ecanon_f hg _ (by omega), bsome, esame_self (sortL l) (Smp.btw m a b) (by omega) (by omega) (by omega) (by omega), bsome]
  · have hwf : w = false := by rw [hw, decide_eq_false c]; rfl
    rw [hwf, if_neg (by decide)]
    exact none_ _ rfl (by unfold onlyE; rw [if_neg c])
theorem only_l0 (l : List S52) (m : List Sm) (ms : List MM) (a b : Int) (hl : l.length ≤ 20) (hm : m.length ≤ 40) (hms : ms.length ≤ 20) (B : Nat) (hB : B ≤ 9223372036854775807) (hs : ∀ p ∈ l, p.f0.size ≤ B) : ∀ (d k i : Nat), i + d = ms.length → B + d + 1002 ≤ k →
    postroomlaw5_EntryOnly.l0 k ms a b (onlyE l m ms a b).2.2 (decide (chkE l m = 0) && !((ms.take i).any (against l))) (i : Int) l m (onlyE l m ms a b).1 (onlyE l m ms a b).2.1 = some true
  | 0, k, i, hi, hk => by
    obtain ⟨k, rfl⟩ : ∃ q, k = q + 2 := ⟨k - 2, by omega⟩
    have hi' : i = ms.length := by omega
    subst hi'
    exact only_end l m ms a b hl hm B hB hs (by omega) _ (by rw [List.take_length])
  | d + 1, k, i, hi, hk => by
    obtain ⟨k, rfl⟩ : ∃ q, k = q + 1 := ⟨k - 1, by omega⟩
    have h1 : i < ms.length := by omega
    have ih := only_l0 l m ms a b hl hm hms B hB hs d k (i + 1) (by omega) (by omega)
    rw [List.take_succ_eq_append_getElem h1, List.any_append] at ih
    rw [postroomlaw5_EntryOnly.l0, if_pos (by omega), if_pos (by omega), rd_m ms i h1, Lbl.rvalue_f l _ (by omega) (by omega), bsome, Lbl.w_succ (by omega)]
    by_cases c : (decide (chkE l m = 0) && !((ms.take i).any (against l))) = true
    · rw [if_pos c]
      have c1 : (ms.take i).any (against l) = false := by
        rw [Bool.and_eq_true, Bool.not_eq_true'] at c; exact c.2
      have c2 : decide (chkE l m = 0) = true := by rw [Bool.and_eq_true] at c; exact c.1
      rw [c1, c2] at ih
      refine Eq.trans ?_ ih
      congr 1
      simp only [List.any_cons, List.any_nil, Bool.false_or, Bool.or_false, Bool.true_and]
      rfl
    · rw [if_neg c]
      have c' := Bool.eq_false_iff.2 c
      have e : (decide (chkE l m = 0) && !((ms.take i).any (against l) || [ms[i]].any (against l))) = false := by
        cases h1 : decide (chkE l m = 0)
        · rfl
        · rw [h1, Bool.true_and] at c'
          have h2 : (ms.take i).any (against l) = true := by simpa using c'
          rw [h2]; rfl
      rw [e] at ih
      exact ih
theorem Pure.EntryOnly : postroomlaw5_EntryOnly.Pure := by
  intro l m ms a b hl hw hm hwm hms1 hms2 hwms ha hb
  obtain ⟨B, hB, hlB, hwB⟩ : ∃ B : Nat, B ≤ 9223372036854775807 ∧ l.length ≤ B ∧ ∀ p ∈ l, p.f0.size ≤ B := ⟨maxLen, by unfold maxLen; exact Nat.le_refl _, hl, fun p hp => (hw p hp).1⟩
  clear hl hw hm
  obtain ⟨k, h1⟩ : ∃ k, B + 3000 ≤ k := ⟨B + 3000, Nat.le_refl _⟩
  refine ⟨k + 1, ?_⟩
  obtain ⟨c, hc, hc2⟩ := few_f l m (by omega) (k := k + 1) (by omega)
  unfold postroomlaw5_EntryOnly.f
  rw [shown_f (by omega), bsome, hc, bsome, if_pos rfl]
  by_cases c3 : c = true
  · rw [if_pos c3]
    obtain ⟨h20, h40⟩ := hc2 c3
    simp only [postroomlaw5_EntryOnly.j0]
    by_cases h3 : (ms.length : Int) > 20
    · rw [if_pos (decide_eq_true h3)]
    · rw [if_neg (by rw [decide_eq_true_eq]; exact h3), only_f l m ms a b (by omega) (by omega), bsome, recheck_f l m B hB hwB (by omega), bsome]
      have h := only_l0 l m ms a b h20 h40 (by omega) B hB hwB ms.length k 0 (by omega) (by omega)
      rw [List.take_zero] at h
      have e : (chkE l m == 0) = (decide (chkE l m = 0) && !(([] : List MM).any (against l))) := by
        by_cases z : chkE l m = 0
        · rw [z]; rfl
        · rw [beq_eq_false_iff_ne.2 z, decide_eq_false z]; rfl
      rw [e]
      exact h
  · rw [if_neg c3]
    simp only [postroomlaw5_EntryOnly.j0]
    rw [if_pos trivial]
end Go.Proofs.YthaegbiblblccaaGreatDoor
