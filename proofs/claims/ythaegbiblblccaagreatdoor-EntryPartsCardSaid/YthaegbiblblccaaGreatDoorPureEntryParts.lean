/- EntryParts: of two times, one behind the other, what is told are both parts, one behind the other. Conditions: the law's own. -/
import Derived.Test.YthaegbiblblccaaGreatDoorEntOnly
import Derived.Test.YthaegbiblblccaaGreatDoorXEntx29
import Derived.Test.YthaegbiblblccaaGreatDoorXEntP1
import Derived.Test.YthaegbiblblccaaGreatDoorXEntP3
import Derived.Test.YthaegbiblblccaaGreatDoorXEntx29
namespace Go.Proofs.YthaegbiblblccaaGreatDoor.Ent
open Go.RowKit Go.Proofs.YthaegbiblblccaaGreatDoorW.PrintWords Go.Proofs.YthaegbiblblccaaGreatDoorW.PrintLast Go.Proofs.YthaegbiblblccaaGreatDoorW.PrintMore Go.Proofs.YthaegbiblblccaaGreatDoor.Num Go.Proofs.YthaegbiblblccaaGreatDoor.XEnt
set_option linter.unusedVariables false
set_option linter.unusedSimpArgs false
theorem rises_pw : ∀ (x : Sm) (r : List Sm), Smp.rises x r = true → (x :: r).Pairwise (fun a b => a.f0 < b.f0)
  | x, [], _ => List.pairwise_singleton _ _
  | x, y :: r, h => by
    simp only [Smp.rises, Bool.and_eq_true, decide_eq_true_eq] at h
    have ih := rises_pw y r h.2
    refine List.pairwise_cons.2 ⟨?_, ih⟩
    intro z hz
    rcases List.mem_cons.1 hz with rfl | hz
    · exact h.1
    · exact Int.lt_trans h.1 ((List.pairwise_cons.1 ih).1 z hz)
theorem chk_pw {m : List Sm} (h : Smp.chk m = 0) : m.Pairwise (fun a b => a.f0 < b.f0) := by
  cases m with
  | nil => exact List.Pairwise.nil
  | cons x r =>
    apply rises_pw
    unfold Smp.chk at h
    simp only at h
    by_cases c : 20 < (x :: r).length
    · rw [if_pos c] at h; cases h
    · rw [if_neg c] at h
      cases d : Smp.rises x r
      · rw [d] at h; cases h
      · rfl
theorem chk_ne {m : List Sm} (h : Smp.chk m = 0) : m ≠ [] := by
  intro e; rw [e] at h; cases h
theorem btw_full (m : List Sm) (b : Int) (hm : ∀ x ∈ m, 0 ≤ x.f0 ∧ x.f0 ≤ b) : Smp.btw m 0 b = m := by
  unfold Smp.btw
  rw [List.filter_eq_self]
  intro x hx
  rw [decide_eq_true (hm x hx).1, decide_eq_true (hm x hx).2]; rfl
theorem btw_parts (w b : Int) : ∀ (m : List Sm), m.Pairwise (fun a b => a.f0 < b.f0) → (∀ x ∈ m, 0 ≤ x.f0 ∧ x.f0 ≤ b) → Smp.btw m 0 (w - 1) ++ Smp.btw m w b = m
  | [], _, _ => rfl
  | x :: r, hp, hm => by
    have hx := hm x (by simp)
    obtain ⟨hp1, hp2⟩ := List.pairwise_cons.1 hp
    by_cases c : x.f0 ≤ w - 1
    · rw [Smp.btw_in hx.1 c, Smp.btw_lo (by omega), List.cons_append, btw_parts w b r hp2 (fun y hy => hm y (by simp [hy]))]
    · have h1 : Smp.btw (x :: r) 0 (w - 1) = [] := by
        unfold Smp.btw
        rw [List.filter_eq_nil_iff]
        intro y hy
        have : x.f0 ≤ y.f0 := by
          rcases List.mem_cons.1 hy with rfl | hy
          · exact Int.le_refl _
          · exact Int.le_of_lt (hp1 y hy)
        rw [decide_eq_false (show ¬ y.f0 ≤ w - 1 by omega), Bool.and_false]; decide
      have h2 : Smp.btw (x :: r) w b = x :: r := by
        unfold Smp.btw
        rw [List.filter_eq_self]
        intro y hy
        have : x.f0 ≤ y.f0 := by
          rcases List.mem_cons.1 hy with rfl | hy
          · exact Int.le_refl _
          · exact Int.le_of_lt (hp1 y hy)
        rw [decide_eq_true (show w ≤ y.f0 by omega), decide_eq_true (hm y hy).2]; rfl
      rw [h1, h2, List.nil_append]
/-- What is asked for with no matchers, of an entry that is right. -/
theorem only_none {l : List S52} {m : List Sm} (h : chkE l m = 0) (a b : Int) : onlyE l m [] a b = if Smp.btw m a b = [] then ([], [], false) else (sortL l, Smp.btw m a b, true) := by
  unfold onlyE
  rw [if_pos h, if_neg (by rw [List.any_nil]; decide)]
theorem only_none' {l : List S52} {m : List Sm} (h : chkE l m = 0) (a b : Int) : ∃ x, onlyE l m [] a b = (x, Smp.btw m a b, decide (((Smp.btw m a b).length : Int) > 0)) := by
  rw [only_none h]
  by_cases c : Smp.btw m a b = []
  · rw [if_pos c, c]; exact ⟨_, rfl⟩
  · rw [if_neg c]
    have : (Smp.btw m a b).length ≠ 0 := fun h => c (List.eq_nil_of_length_eq_zero h)
    exact ⟨_, by rw [decide_eq_true (by omega)]⟩
theorem only_full {l : List S52} {m : List Sm} (hg : Lbl.Good l) (hc : Smp.chk m = 0) (hm : ∀ x ∈ m, 0 ≤ x.f0 ∧ x.f0 ≤ 18446744073709551615) : onlyE l m [] 0 18446744073709551615 = (sortL l, m, true) := by
  rw [only_none (chkE_zero.2 ⟨hg, hc⟩), btw_full m _ hm, if_neg (chk_ne hc)]
theorem pure_parts : postroomlaw5_EntryParts.Pure := by
  intro n a p w hn hny hwn ha hp hpy hwp hw
  have hp' : p.length ≤ 140737488351232 := by omega
  obtain ⟨l, e1, e2, hg⟩ := entryOf_f (k := 2000) hwn ha hp' hwp (by omega)
  obtain ⟨l', e3, hmade⟩ := Lbl.labels_f (k := 2000) hwn (by omega)
  obtain rfl : l = l' := Option.some.inj (e2.symm.trans e3)
  have hc : Smp.chk (Smp.smp a p) = 0 := Smp.smp_chk hwp
  have hwf : ∀ x ∈ Smp.smp a p, Smp.WF x := Smp.smp_wf hwp
  have hlen : (Smp.smp a p).length ≤ 20 := by rw [Smp.smp_len]; omega
  clear e2 e3 hn hny hwn ha hp hpy hwp hp'
  generalize Smp.smp a p = m at e1 hc hwf hlen
  have hw0 := wf_u64 hw
  have hm : ∀ x ∈ m, 0 ≤ x.f0 ∧ x.f0 ≤ 18446744073709551615 := fun x hx => by have := wf_u64 (hwf x hx).1; omega
  have hE := chkE_zero.2 ⟨hg, hc⟩
  have hgs := Lbl.good_sort hg
  have hss : sortL (sortL l) = sortL l := Lbl.sortL_id (Lbl.sorted_strict hg.once)
  have hsl : (sortL l).length ≤ 8 := by rw [Lbl.sort_len]; exact hmade.len
  have hwr : w ≠ 0 → IntKind.u64.wrap (w - 1) = w - 1 := fun h => by
    unfold IntKind.wrap; simp [IntKind.signed, IntKind.bits]; omega
  obtain ⟨x1, o1⟩ := only_none' hE 0 (w - 1)
  obtain ⟨x2, o2⟩ := only_none' hE w 18446744073709551615
  have o3 := only_full hg hc hm
  have o4 := only_full hgs hc hm
  rw [hss] at o4
  have o5 : onlyE l m [(⟨(⟨#[110, 111, 110, 101]⟩ : ByteArray), (⟨#[120]⟩ : ByteArray), false⟩ : S43)] 0 18446744073709551615 = ([], [], false) := by
    unfold onlyE
    rw [if_pos hE, if_pos]
    have hv : valL l (⟨#[110, 111, 110, 101]⟩ : ByteArray) = ⟨#[]⟩ := by
      unfold valL
      rw [if_neg]
      intro hf
      obtain ⟨q, hq, e⟩ := (Lbl.find_ex l _).1 hf
      have h8 := hmade.names q hq
      rw [e] at h8
      exact absurd h8 (by decide +kernel)
    rw [List.any_cons, List.any_nil, Bool.or_false]
    unfold against
    rw [hv]; decide +kernel
  have hb := btw_parts w 18446744073709551615 m (chk_pw hc) hm
  have l1 := btw_le m 0 (w - 1)
  have l2 := btw_le m w 18446744073709551615
  generalize Smp.btw m 0 (w - 1) = y1 at o1 hb l1
  generalize Smp.btw m w 18446744073709551615 = y2 at o2 hb l2
  have hs4 : postroomref4_Same.f 2000 m m = some true := by rw [Smp.same_f (by omega) (by omega), decide_eq_true rfl]
  refine ⟨2001, ?_⟩
  by_cases c : w = 0
  · left
    unfold postroomlaw5_EntryPartsA.f
    rw [shown_f (by omega), bsome, if_pos rfl, show (w == 0) = true by rw [c]; rfl, postroomlaw5_EntryPartsA.j0, if_pos rfl]
  · have hc0 : (w == 0) = false := beq_eq_false_iff_ne.2 c
    by_cases d : ((y1.length : Int) > 0)
    · left
      rw [decide_eq_true d] at o1
      unfold postroomlaw5_EntryPartsA.f
      rw [shown_f (by omega), bsome, if_pos rfl, hc0, postroomlaw5_EntryPartsA.j0, if_neg (by decide), e1, bsome, hwr c]
      simp only [only_f l m _ _ _ (show m.length ≤ 1000 by omega) (show 1100 ≤ 2000 by omega), only_f (sortL l) m _ _ _ (show m.length ≤ 1000 by omega) (show 1100 ≤ 2000 by omega), o1, o2, o3, o4, o5, bsome]
      rw [if_pos (by rw [List.length_nil]; omega), if_pos (by rw [List.nil_append]; omega), if_pos trivial, if_pos trivial, if_pos trivial, if_neg (by decide), ecanon_f hg m (by omega), bsome, esame_self (sortL l) m (by omega) (by omega) (by omega) (by omega), bsome, if_pos rfl, bsome, if_pos rfl, List.nil_append, hb, hs4, bsome, if_pos rfl, decide_eq_true d, if_pos (by decide), beq_self_eq_true]
    · right
      have d' : y1 = [] := List.eq_nil_of_length_eq_zero (by omega)
      rw [d', List.nil_append] at hb
      have d2 : ((y2.length : Int) > 0) := by
        have : m.length ≠ 0 := fun h => chk_ne hc (List.eq_nil_of_length_eq_zero h)
        rw [hb]; omega
      rw [decide_eq_false d] at o1
      rw [decide_eq_true d2] at o2
      unfold postroomlaw5_EntryPartsB.f
      rw [shown_f (by omega), bsome, if_pos rfl, hc0, postroomlaw5_EntryPartsB.j0, if_neg (by decide), e1, bsome, hwr c]
      simp only [only_f l m _ _ _ (show m.length ≤ 1000 by omega) (show 1100 ≤ 2000 by omega), only_f (sortL l) m _ _ _ (show m.length ≤ 1000 by omega) (show 1100 ≤ 2000 by omega), o1, o2, o3, o4, o5, bsome]
      rw [if_pos (by rw [List.length_nil]; omega), if_pos (by rw [List.nil_append]; omega), if_neg (by decide), if_pos trivial, if_pos trivial, if_pos trivial, if_neg (by decide), ecanon_f hg m (by omega), bsome, esame_self (sortL l) m (by omega) (by omega) (by omega) (by omega), bsome, if_pos rfl, bsome, if_pos rfl, List.nil_append, d', List.nil_append, hb, hs4, bsome, if_pos rfl, if_pos (by rw [List.length_nil]; rfl)]
      rw [← hb, decide_eq_true d2]; rfl
end Go.Proofs.YthaegbiblblccaaGreatDoor.Ent
namespace Go.Proofs.YthaegbiblblccaaGreatDoor
theorem Pure.EntryParts : XEnt.postroomlaw5_EntryParts.Pure := Ent.pure_parts
end Go.Proofs.YthaegbiblblccaaGreatDoor
