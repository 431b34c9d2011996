/- SampleOrder: samples that stand the other way round are in no order. Conditions: the law's own. -/
import Derived.Test.YtncaikmdcbaeeaaSmpGlue
import Derived.Test.YtncaikmdcbaeeaaXSmpx9
namespace Go.Proofs.Ytncaikmdcbaeeaa
open Go.RowKit Go.Proofs.YtncaikmdcbaeeaaW.PrintWords Go.Proofs.YtncaikmdcbaeeaaW.PrintMore Go.Proofs.Ytncaikmdcbaeeaa.XSmp Go.Proofs.Ytncaikmdcbaeeaa.Num Go.Proofs.Ytncaikmdcbaeeaa.Smp
set_option linter.unusedVariables false
set_option linter.unusedSimpArgs false
theorem rises_adj : ∀ (r : List S) (x : S) (k : Nat) (h : k + 1 < (x :: r).length), rises x r = true → ((x :: r)[k]'(by omega)).f0 < ((x :: r)[k + 1]'h).f0
  | [], _, k, h, _ => by simp at h
  | y :: r, x, 0, _, hr => by
    simp only [rises, Bool.and_eq_true, decide_eq_true_eq] at hr
    exact hr.1
  | y :: r, x, k + 1, h, hr => by
    simp only [rises, Bool.and_eq_true] at hr
    exact rises_adj r y k (by simpa using h) hr.2
theorem chk_bad {l : List S} (k : Nat) (h : k + 1 < l.length) (hl : l.length ≤ 20) (hb : (l[k + 1]'h).f0 ≤ (l[k]'(by omega)).f0) : chk l = 8 := by
  match l, h, hl, hb with
  | x :: r, h, hl, hb =>
    simp only [chk]
    rw [if_neg (by omega)]
    cases hr : rises x r
    · rfl
    · have := rises_adj r x k h hr; omega
theorem chk_good {l : List S} (k : Nat) (h : k + 1 < l.length) (hc : chk l = 0) : (l[k]'(by omega)).f0 < (l[k + 1]'h).f0 := by
  match l, h, hc with
  | x :: r, h, hc =>
    have h20 := (chk_len hc).2
    simp only [chk] at hc
    rw [if_neg (by omega)] at hc
    cases hr : rises x r
    · rw [hr] at hc; cases hc
    · exact rises_adj r x k h hr
theorem chk_many {l : List S} (h : 20 < l.length) : chk l = 6 := by
  match l, h with
  | x :: r, h => simp only [chk]; rw [if_pos h]
theorem order_l0 (a2 : Int) (l : List S) : ∀ (d k : Nat) (m : List S), 21 ≤ m.length * 2 ^ d → d + 1201 ≤ k → m.length ≤ 40 → (∀ x ∈ m, WF x) → ∃ k', 1200 ≤ k' ∧ postroomlaw4_SampleOrder.l0 k a2 l 6 m = postroomlaw4_SampleOrder.j1 k' a2 l false
  | d, k, m, hd, hk, hm, hw => by
    obtain ⟨k, rfl⟩ : ∃ m, k = m + 1 := ⟨k - 1, by omega⟩
    by_cases h : m.length < 21
    · match d, hd, hk with
      | 0, hd, _ => omega
      | d + 1, hd, hk =>
        obtain ⟨k', h1, h2⟩ := order_l0 a2 l d k (m ++ m) (by rw [Nat.pow_succ] at hd; rw [List.length_append, Nat.add_mul]; rw [← Nat.mul_assoc, Nat.mul_two] at hd; exact hd) (by omega) (by simp; omega) (by intro x hx; rcases List.mem_append.1 hx with hx | hx <;> exact hw x hx)
        refine ⟨k', h1, ?_⟩
        rw [postroomlaw4_SampleOrder.l0, if_pos (by omega), bsome, if_pos (by simp; omega), bsome, if_pos (by simp; omega), List.nil_append, h2]
    · refine ⟨k, by omega, ?_⟩
      have hc := chk_many (l := m) (by omega)
      have hp : putS m = (bs [], 6) := by unfold putS; rw [hc, if_neg (by decide)]
      rw [postroomlaw4_SampleOrder.l0, if_neg (by omega), sput_f hw, bsome, hp, if_pos rfl, if_pos rfl, check_f m k (by omega), bsome, hc]
      rfl
theorem order_j1a (a2 : Int) (x : List S) (k : Nat) (hk : 1200 ≤ k) (hc : chk x = 0) (hl : x.length ≤ 20) (h0 : x.length < 2) : postroomlaw4_SampleOrder.j1 k a2 x false = some true := by
  obtain ⟨k, rfl⟩ : ∃ m, k = m + 1 := ⟨k - 1, by omega⟩
  rw [postroomlaw4_SampleOrder.j1, if_neg (by decide), if_pos (by omega), check_f x k (by omega), bsome, hc]; rfl
theorem order_j1b (a2 : Int) (x : List S) (k : Nat) (hk : 1200 ≤ k) (hc : chk x = 0) (hwf : ∀ y ∈ x, WF y) (hl : x.length ≤ 20) (h0 : 2 ≤ x.length) (t : Nat) (ht : pk a2 ((x.length : Int) - 1) = (t : Int)) (ht1 : t + 1 < x.length) (g2 : -9223372036854775808 ≤ a2 ∧ a2 < 9223372036854775808) : postroomlaw4_SampleOrder.j1 k a2 x false = some true := by
  obtain ⟨k, rfl⟩ : ∃ m, k = m + 1 := ⟨k - 1, by omega⟩
  have e1 : wrap64 ((x.length : Int) - 1) = (x.length : Int) - 1 := w64_id (by omega) (by omega)
  have e2 : wrap64 (1 + (t : Int)) = ((t + 1 : Nat) : Int) := by rw [w64_id (by omega) (by omega)]; omega
  have e3 : wrap64 (((t + 1 : Nat) : Int) - 1) = (t : Int) := by rw [w64_id (by omega) (by omega)]; omega
  rw [postroomlaw4_SampleOrder.j1, if_neg (by decide), if_neg (by omega), e1, pick_f _ _ (by omega), bsome, ht, e2, e3]
  have hgood := chk_good t ht1 hc
  rw [bsome, List.nil_append, if_pos (show ([] : List S).length + x.length < 8796093022208 by simp; omega), bsome, if_pos (by omega), if_pos (by omega), if_pos (by omega), if_pos (by omega)]
  rw [bsome, if_pos (show ([] : List S).length + x.length < 8796093022208 by simp; omega), bsome, List.nil_append, if_pos (by omega), if_pos (by omega), if_pos (by omega), if_pos (by omega)]
  rw [rd_S x t (by omega), rd_S x (t + 1) ht1, Int.toNat_natCast, Int.toNat_natCast, bsome]
  have c1 : chk (x.set (t + 1) (⟨(x[t]'(by omega)).f0, (x[t + 1]'ht1).f1⟩ : S)) = 8 := by
    refine chk_bad t (by simp; omega) (by simp; omega) ?_
    rw [List.getElem_set_self, List.getElem_set_ne (by omega)]
    exact Int.le_refl _
  have c2 : chk ((x.set (t + 1) (⟨(x[t]'(by omega)).f0, (x[t]'(by omega)).f1⟩ : S)).set t (⟨(x[t + 1]'ht1).f0, (x[t + 1]'ht1).f1⟩ : S)) = 8 := by
    refine chk_bad t (by simp; omega) (by simp; omega) ?_
    rw [List.getElem_set_self, List.getElem_set_ne (by omega), List.getElem_set_self]
    exact Int.le_of_lt hgood
  have w2 : ∀ y ∈ (x.set (t + 1) (⟨(x[t]'(by omega)).f0, (x[t]'(by omega)).f1⟩ : S)).set t (⟨(x[t + 1]'ht1).f0, (x[t + 1]'ht1).f1⟩ : S), WF y := by
    intro y hy
    rcases List.mem_or_eq_of_mem_set hy with hy | rfl
    · rcases List.mem_or_eq_of_mem_set hy with hy | rfl
      · exact hwf y hy
      · exact hwf x[t] (List.getElem_mem _)
    · exact hwf x[t + 1] (List.getElem_mem _)
  have hp : putS ((x.set (t + 1) (⟨(x[t]'(by omega)).f0, (x[t]'(by omega)).f1⟩ : S)).set t (⟨(x[t + 1]'ht1).f0, (x[t + 1]'ht1).f1⟩ : S)) = (bs [], 8) := by unfold putS; rw [c2, if_neg (by decide)]
  rw [sput_f w2, bsome, check_f _ k (by omega), bsome, c1, if_pos rfl, check_f _ k (by omega), bsome, c2, if_pos rfl, hp, if_pos rfl]
  show some ((bs []).toList == []) = some true
  rw [bs_toList]
  rfl
theorem Pure.SampleOrder : postroomlaw4_SampleOrder.Pure := by
  intro a l a2 ha hl1 hl2 hw h2
  have g2 := wf_i64 h2
  have hlen := smp_len a l
  have hc := smp_chk (a := a) hw
  have hwf := smp_wf (a := a) hw
  obtain ⟨k, hk, he⟩ := order_l0 a2 (smp a l) 5 1300 (smp a l) (by omega) (by omega) (by omega) hwf
  refine ⟨1300, ?_⟩
  unfold postroomlaw4_SampleOrder.f
  rw [shown_f, bsome, if_pos rfl, samplesOf_f ha (by omega) hw (by omega), bsome, show sample_Put.f ([] : List S) = some (bs [], 6) by rw [sput_f (by intro x hx; cases hx)]; rfl, bsome]
  refine Eq.trans he ?_
  by_cases h0 : (smp a l).length < 2
  · exact order_j1a a2 _ k hk hc (by omega) h0
  · have hp := pk_rng (a := a2) (n := ((smp a l).length : Int) - 1) (by omega) g2
    obtain ⟨t, ht⟩ : ∃ t : Nat, pk a2 (((smp a l).length : Int) - 1) = (t : Int) := ⟨_, (Int.toNat_of_nonneg hp.1).symm⟩
    exact order_j1b a2 _ k hk hc hwf (by omega) (by omega) t ht (by omega) g2
end Go.Proofs.Ytncaikmdcbaeeaa
