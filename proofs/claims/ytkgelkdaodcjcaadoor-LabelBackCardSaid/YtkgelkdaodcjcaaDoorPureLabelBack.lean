/- LabelBack: labels that were put are taken again, in whatever order they stood. Conditions: the law's own. -/
import Derived.Test.YtkgelkdaodcjcaaDoorLblGlue2
import Derived.Test.YtkgelkdaodcjcaaDoorXLblx25
namespace Go.Proofs.YtkgelkdaodcjcaaDoor
open Go.RowKit Go.Proofs.YtkgelkdaodcjcaaDoorW.PrintWords Go.Proofs.YtkgelkdaodcjcaaDoorW.PrintMore Go.Proofs.YtkgelkdaodcjcaaDoor.XLbl Go.Proofs.YtkgelkdaodcjcaaDoor.Num Go.Proofs.YtkgelkdaodcjcaaDoor.Lbl
set_option linter.unusedVariables false
set_option linter.unusedSimpArgs false
theorem back_l0 (s : ByteArray) (by_ : Int) (hb : -9223372036854775808 ≤ by_ ∧ by_ < 9223372036854775808) (l : List Q) (h8 : l.length ≤ 8) (hp : 0 < l.length) : ∀ (d k i : Nat), i + d = l.length → d < k →
    postroomlaw3_LabelBack.l0 k s by_ l ((rot l (pickN by_ l.length)).take i) (i : Int) = postroomlaw3_LabelBack.l0 (k - d) s by_ l (rot l (pickN by_ l.length)) (l.length : Int)
  | 0, k, i, hi, hk => by
    rw [List.take_of_length_le (by rw [rot_len]; omega), show i = l.length by omega]; rfl
  | d + 1, k, i, hi, hk => by
    obtain ⟨k, rfl⟩ : ∃ q, k = q + 1 := ⟨k - 1, by omega⟩
    have h1 : i < l.length := by omega
    have ih := back_l0 s by_ hb l h8 hp d k (i + 1) (by omega) (by omega)
    have hlt := pickN_lt by_ hp
    have hs := rot_step hlt h1
    have hm : (i + pickN by_ l.length) % l.length < l.length := Nat.mod_lt _ hp
    rw [postroomlaw3_LabelBack.l0, if_pos (by omega), pick_f hb hp, bsome, if_neg (by omega), w64_id (x := (i : Int) + (pickN by_ l.length : Int)) (by omega) (by omega), show (i : Int) + (pickN by_ l.length : Int) = ((i + pickN by_ l.length : Nat) : Int) by omega, tmod_nat, if_pos (by omega), if_pos (by omega), if_pos (by rw [List.length_take, rot_len]; omega), rd_q l _ hm, w_succ (by omega), show k + 1 - (d + 1) = k - d by omega, ← ih, ← hs]
theorem back_l1 (l : List Q) (hg : Lbl.Good l) : ∀ (d k i : Nat), i + d = l.length → d < k → postroomlaw3_LabelBack.l1 k l (sortL l) (i : Int) = some true
  | 0, k, i, hi, hk => by
    obtain ⟨k, rfl⟩ : ∃ q, k = q + 1 := ⟨k - 1, by omega⟩
    rw [postroomlaw3_LabelBack.l1, if_neg (by rw [sort_len]; omega)]
  | d + 1, k, i, hi, hk => by
    obtain ⟨k, rfl⟩ : ∃ q, k = q + 1 := ⟨k - 1, by omega⟩
    have h8 := hg.few
    have hlen := sort_len l
    have h1 : i < (sortL l).length := by omega
    have hv : valL l (sortL l)[i].f0 = (sortL l)[i].f1 := findN_unique hg.once ((sortL_holds l).1.mem_iff.1 (List.getElem_mem h1)) rfl
    have ih := back_l1 l hg d k (i + 1) (by omega) (by omega)
    rw [postroomlaw3_LabelBack.l1, if_pos (by omega), rd_q _ i h1, value_f, bsome, hv, if_pos rfl, w_succ (by omega), ih]
    by_cases c : i = 0
    · rw [if_neg (by omega), if_pos (by omega)]
    · have hw : wrap64 ((i : Int) - 1) = ((i - 1 : Nat) : Int) := by rw [w64_id (by omega) (by omega)]; omega
      rw [if_pos (by omega), hw, if_pos (by omega), if_pos (by omega), if_pos (by omega), rd_q _ (i - 1) (by omega), if_pos]
      exact (less_iff _ _).2 ((strict_at (sorted_strict hg.once) (by omega) h1).2 (by omega))
theorem Pure.LabelBack : postroomlaw3_LabelBack.Pure := by
  intro n s b hn1 hn2 hn hs hb
  obtain ⟨t, rfl⟩ : ∃ t, s = bs t := ⟨ls s, (bs_ls s).symm⟩
  have hb := wf_i64 hb
  refine ⟨500 + 1, ?_⟩
  unfold postroomlaw3_LabelBack.f
  rw [shown_f (by omega), bsome, if_pos rfl]
  simp only [postroomlaw3_LabelBack.j0]
  by_cases h3 : ((bs t).size : Int) > 1000
  · rw [if_pos (decide_eq_true h3)]
  · rw [bs_size] at h3
    obtain ⟨l, hl, hM⟩ := labels_f hn (k := 500) (by omega)
    rw [if_neg (by rw [decide_eq_true_eq, bs_size]; exact h3), hl, bsome]
    have hg := hM.good
    have h8 := hg.few
    have hlen := sort_len l
    obtain ⟨m, hm, k2, hk2, e⟩ : ∃ m, m.Perm l ∧ ∃ k2, 400 < k2 ∧ postroomlaw3_LabelBack.l0 500 (bs t) b l [] 0 = postroomlaw3_LabelBack.l0 k2 (bs t) b l m (l.length : Int) := by
      by_cases c : 0 < l.length
      · have h := back_l0 (bs t) b hb l h8 c l.length 500 0 (by omega) (by omega)
        exact ⟨_, rot_perm l _, 500 - l.length, by omega, h⟩
      · have : l = [] := List.eq_nil_of_length_eq_zero (by omega)
        subst this
        exact ⟨[], List.Perm.refl _, 500, by omega, rfl⟩
    rw [e]
    obtain ⟨k, rfl⟩ : ∃ k, k2 = k + 3 := ⟨k2 - 3, by omega⟩
    have hgm := good_perm hm.symm hg
    have hsm : lbytes m = lbytes l := by rw [lbytes_inj hgm hg]; exact sortL_perm hm hgm.once
    have hbl : (lbytes l).length ≤ 2000 := by
      have h2 := body_len (sortL l) (good_sort hg).ok
      have h3 := enc_len10 (n := l.length) (by omega)
      unfold lbytes
      rw [List.length_append]; omega
    rw [postroomlaw3_LabelBack.l0, if_neg (by omega), put_goodf hg (by omega), bsome, put_goodf hgm (by omega), bsome, canon_good hg (by omega), bsome, if_pos (by rw [bs_size, bs_size]; omega), bs_app, ltake_f (by rw [List.length_append]; omega) (by omega), bsome, takeL_put hg, hsm]
    rw [if_pos rfl, if_pos rfl, if_pos rfl, if_pos rfl, if_pos rfl, if_pos rfl, same_self (sortL l) (by omega) (by omega), bsome, if_pos rfl]
    simp only [postroomlaw3_LabelBack.j2]
    rw [if_neg (by simp [hlen])]
    exact back_l1 l hg l.length _ 0 (by omega) (by omega)
end Go.Proofs.YtkgelkdaodcjcaaDoor
