/- LabelOrder: what is asked of labels is the same in whatever order they stand. Conditions: the law's own. -/
import Derived.Test.YtkgelkdaodcjcaaDoorLblGlue2
import Derived.Test.YtkgelkdaodcjcaaDoorXLblx28
namespace Go.Proofs.YtkgelkdaodcjcaaDoor
open Go.RowKit Go.Proofs.YtkgelkdaodcjcaaDoorW.PrintWords Go.Proofs.YtkgelkdaodcjcaaDoorW.PrintMore Go.Proofs.YtkgelkdaodcjcaaDoor.XLbl Go.Proofs.YtkgelkdaodcjcaaDoor.Num Go.Proofs.YtkgelkdaodcjcaaDoor.Lbl
set_option linter.unusedVariables false
set_option linter.unusedSimpArgs false
theorem order_l0 (by_ : Int) (n : ByteArray) (m : List MM) (hb : -9223372036854775808 ≤ by_ ∧ by_ < 9223372036854775808) (l : List Q) (h8 : l.length ≤ 8) (hp : 0 < l.length) : ∀ (d k i : Nat), i + d = l.length → d < k →
    postroomlaw3_LabelOrder.l0 k by_ n m l ((rot l (pickN by_ l.length)).take i) (i : Int) = postroomlaw3_LabelOrder.l0 (k - d) by_ n m l (rot l (pickN by_ l.length)) (l.length : Int)
  | 0, k, i, hi, hk => by
    rw [List.take_of_length_le (by rw [rot_len]; omega), show i = l.length by omega]; rfl
  | d + 1, k, i, hi, hk => by
    obtain ⟨k, rfl⟩ : ∃ q, k = q + 1 := ⟨k - 1, by omega⟩
    have h1 : i < l.length := by omega
    have ih := order_l0 by_ n m hb l h8 hp d k (i + 1) (by omega) (by omega)
    have hlt := pickN_lt by_ hp
    have hs := rot_step hlt h1
    have hm : (i + pickN by_ l.length) % l.length < l.length := Nat.mod_lt _ hp
    rw [postroomlaw3_LabelOrder.l0, if_pos (by omega), pick_f hb hp, bsome, if_neg (by omega), w64_id (x := (i : Int) + (pickN by_ l.length : Int)) (by omega) (by omega), show (i : Int) + (pickN by_ l.length : Int) = ((i + pickN by_ l.length : Nat) : Int) by omega, tmod_nat, if_pos (by omega), if_pos (by omega), if_pos (by rw [List.length_take, rot_len]; omega), rd_q l _ hm, w_succ (by omega), show k + 1 - (d + 1) = k - d by omega, ← ih, ← hs]
theorem Pure.LabelOrder : postroomlaw3_LabelOrder.Pure := by
  intro n b nm' m hn1 hn2 hn hb hs hm1 hm2 hwm
  have hb := wf_i64 hb
  refine ⟨500 + 1, ?_⟩
  unfold postroomlaw3_LabelOrder.f
  rw [shown_f (by omega), bsome, if_pos rfl]
  simp only [postroomlaw3_LabelOrder.j0]
  by_cases h3 : (m.length : Int) > 20
  · rw [if_pos (decide_eq_true h3)]
  · obtain ⟨l, hl, hM⟩ := labels_f hn (k := 500) (by omega)
    rw [if_neg (by rw [decide_eq_true_eq]; exact h3), hl, bsome]
    have hg := hM.good
    have h8 := hg.few
    obtain ⟨u, hu, k2, hk2, e⟩ : ∃ u, u.Perm l ∧ ∃ k2, 400 < k2 ∧ postroomlaw3_LabelOrder.l0 500 b nm' m l [] 0 = postroomlaw3_LabelOrder.l0 k2 b nm' m l u (l.length : Int) := by
      by_cases c : 0 < l.length
      · have h := order_l0 b nm' m hb l h8 c l.length 500 0 (by omega) (by omega)
        exact ⟨_, rot_perm l _, 500 - l.length, by omega, h⟩
      · have : l = [] := List.eq_nil_of_length_eq_zero (by omega)
        subst this
        exact ⟨[], List.Perm.refl _, 500, by omega, rfl⟩
    rw [e]
    obtain ⟨k, rfl⟩ : ∃ k, k2 = k + 3 := ⟨k2 - 3, by omega⟩
    have hgu := good_perm hu.symm hg
    have hpu := (sortL_holds u).1
    have hpl := hpu.trans hu
    have v1 := valL_perm hpl (good_sort hgu).once nm'
    have v2 := valL_perm hpu (good_sort hgu).once nm'
    have a1 := against_perm hpl (good_sort hgu).once
    have a2 := against_perm hpu (good_sort hgu).once
    rw [postroomlaw3_LabelOrder.l0, if_neg (by omega), canon_good hgu (by omega), bsome, if_pos rfl, value_f, bsome, value_f, bsome, if_pos (by rw [v1]), value_f, bsome, bsome, if_pos (by rw [v2])]
    unfold label_Match.f
    rw [bsome, bsome, if_pos (by rw [a1]; simp), bsome, bsome, a2]
    simp
end Go.Proofs.YtkgelkdaodcjcaaDoor
