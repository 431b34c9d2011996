/- SampleCuts: those of some time are all of it. Conditions: the law's own. -/
import Derived.Test.YtncaikmdcbaeeaaSmpGlue
import Derived.Test.YtncaikmdcbaeeaaXSmpx11
namespace Go.Proofs.Ytncaikmdcbaeeaa
open Go.RowKit Go.Proofs.YtncaikmdcbaeeaaW.PrintWords Go.Proofs.YtncaikmdcbaeeaaW.PrintMore Go.Proofs.Ytncaikmdcbaeeaa.XSmp Go.Proofs.Ytncaikmdcbaeeaa.Num Go.Proofs.Ytncaikmdcbaeeaa.Smp
/-- Every later one is later. -/
theorem rises_all : ∀ (l : List S) (x : S), rises x l = true → ∀ y ∈ l, x.f0 < y.f0
  | [], _, _, y, hy => by cases hy
  | z :: l, x, h, y, hy => by
    simp only [rises, Bool.and_eq_true, decide_eq_true_eq] at h
    rcases List.mem_cons.1 hy with rfl | hy
    · exact h.1
    · have := rises_all l z h.2 y hy; omega
theorem rises_tail {x : S} {l : List S} (z : S) (h : rises x (z :: l) = true) : rises z l = true := by
  simp only [rises, Bool.and_eq_true] at h; exact h.2
/-- Rising rows, parted at a time. -/
theorem cut_rises (t : Int) : ∀ (l : List S) (x : S), rises x l = true → (∀ y ∈ x :: l, 0 ≤ y.f0 ∧ y.f0 ≤ 18446744073709551615) → btw (x :: l) 0 (t - 1) ++ btw (x :: l) t 18446744073709551615 = x :: l
  | [], x, _, hb => by
    have := hb x (by simp)
    by_cases h : t ≤ x.f0
    · rw [btw_hi (by omega), btw_in h this.2]; rfl
    · rw [btw_in this.1 (by omega), btw_lo h]; rfl
  | y :: l, x, hr, hb => by
    have hx := hb x (by simp)
    have ih := cut_rises t l y (rises_tail y hr) (fun z hz => hb z (by simp only [List.mem_cons] at hz ⊢; exact .inr hz))
    by_cases h : t ≤ x.f0
    · have hall := rises_all _ _ hr
      have e : btw (y :: l) 0 (t - 1) = [] := by
        unfold btw
        rw [List.filter_eq_nil_iff]
        intro z hz
        have := hall z hz
        rw [decide_eq_false (p := z.f0 ≤ t - 1) (by omega)]; simp
      rw [e, List.nil_append] at ih
      rw [btw_hi (by omega), e, btw_in h hx.2, ih]; rfl
    · rw [btw_in hx.1 (by omega), btw_lo h, List.cons_append, ih]
theorem btw_all : ∀ (l : List S), (∀ y ∈ l, 0 ≤ y.f0 ∧ y.f0 ≤ 18446744073709551615) → btw l 0 18446744073709551615 = l := by
  intro l h
  unfold btw
  rw [List.filter_eq_self]
  intro x hx
  have := h x hx
  rw [decide_eq_true this.1, decide_eq_true this.2]; rfl
theorem btw_none (l : List S) {a b : Int} (h : b < a) : btw l a b = [] := by
  unfold btw
  rw [List.filter_eq_nil_iff]
  intro z _
  by_cases h1 : a ≤ z.f0
  · rw [decide_eq_false (p := z.f0 ≤ b) (by omega)]; simp
  · rw [decide_eq_false h1]; simp
theorem btw_one (t : Int) : ∀ (l : List S) (x : S), rises x l = true → (btw (x :: l) t t).length ≤ 1
  | [], x, _ => by unfold btw; exact Nat.le_trans (List.length_filter_le _ _) (by simp)
  | y :: l, x, hr => by
    have ih := btw_one t l y (rises_tail y hr)
    by_cases h1 : t ≤ x.f0
    · by_cases h2 : x.f0 ≤ t
      · have e : btw (y :: l) t t = [] := by
          unfold btw
          rw [List.filter_eq_nil_iff]
          intro z hz
          have := rises_all _ _ hr z hz
          rw [decide_eq_false (p := z.f0 ≤ t) (by omega)]; simp
        rw [btw_in h1 h2, e]; simp
      · rw [btw_hi h2]; exact ih
    · rw [btw_lo h1]; exact ih
theorem btw_len (l : List S) (a b : Int) : (btw l a b).length ≤ l.length := List.length_filter_le _ _
theorem Pure.SampleCuts : postroomlaw4_SampleCuts.Pure := by
  intro a l t ha hl1 hl2 hw ht
  have h0 := wf_u64 ht
  have hlen := smp_len a l
  have hc := smp_chk (a := a) hw
  have hwf := smp_wf (a := a) hw
  have hb : ∀ y ∈ smp a l, 0 ≤ y.f0 ∧ y.f0 ≤ 18446744073709551615 := fun y hy => by have := wf_u64 (hwf y hy).1; omega
  have hs := samplesOf_f (k := 100) ha (by omega) hw (by omega)
  obtain ⟨x, r, hx⟩ : ∃ x r, smp a l = x :: r := ⟨_, _, rfl⟩
  have hr : rises x r = true := by
    rw [hx] at hc
    simp only [chk] at hc
    by_cases h20 : 20 < (x :: r).length
    · rw [if_pos h20] at hc; cases hc
    · rw [if_neg h20] at hc
      cases h : rises x r
      · rw [h] at hc; cases hc
      · rfl
  refine ⟨100, ?_⟩
  unfold postroomlaw4_SampleCuts.f
  rw [shown_f, bsome, if_pos rfl, hs, bsome, between_f (by omega) (by omega), bsome, btw_all _ hb, same_f (by omega) (by omega), bsome, decide_eq_true rfl, if_pos rfl]
  simp only [postroomlaw4_SampleCuts.j0]
  by_cases hz : t = 0
  · rw [if_pos (by rw [hz]; rfl), same_f (by omega) (by omega), bsome, decide_eq_true rfl]
  · have l1 := btw_len (smp a l) 0 (t - 1)
    have l2 := btw_len (smp a l) t 18446744073709551615
    have l3 := btw_len (smp a l) t t
    rw [if_neg (by simpa using hz), u64_id (by omega) (by omega), between_f (by omega) (by omega), bsome, between_f (by omega) (by omega), bsome, between_f (by omega) (by omega), bsome, bsome, if_pos (by simp; omega), bsome, if_pos (by simp; omega), List.nil_append]
    have e : btw (smp a l) 0 (t - 1) ++ btw (smp a l) t 18446744073709551615 = smp a l := by rw [hx] at hb ⊢; exact cut_rises t r x hr hb
    have e1 : (btw (smp a l) t t).length ≤ 1 := by rw [hx]; exact btw_one t r x hr
    rw [e, same_f (by omega) (by omega), bsome, decide_eq_true rfl, if_pos rfl, if_pos (by omega), between_f (by omega) (by omega), bsome, btw_none _ (by omega)]
    rfl
end Go.Proofs.Ytncaikmdcbaeeaa
