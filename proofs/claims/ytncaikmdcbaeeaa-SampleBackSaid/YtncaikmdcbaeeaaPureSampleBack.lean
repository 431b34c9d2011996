/- SampleBack: samples that are right are taken again. Conditions: the law's own. -/
import Derived.Test.YtncaikmdcbaeeaaSmpGlue
import Derived.Test.YtncaikmdcbaeeaaXSmpx3
import Derived.Test.YtncaikmdcbaeeaaXSmpx7
namespace Go.Proofs.Ytncaikmdcbaeeaa
open Go.RowKit Go.Proofs.YtncaikmdcbaeeaaW.PrintWords Go.Proofs.YtncaikmdcbaeeaaW.PrintMore Go.Proofs.Ytncaikmdcbaeeaa.XSmp Go.Proofs.Ytncaikmdcbaeeaa.Num Go.Proofs.Ytncaikmdcbaeeaa.Smp
set_option linter.unusedVariables false
set_option linter.unusedSimpArgs false
theorem rises_set : ∀ (l m : List S), l.map (·.f0) = m.map (·.f0) → ∀ x y : S, x.f0 = y.f0 → rises x l = rises y m
  | [], [], _, _, _, _ => rfl
  | [], _ :: _, h, _, _, _ => by cases h
  | _ :: _, [], h, _, _, _ => by cases h
  | a :: l, b :: m, h, x, y, e => by
    simp only [List.map_cons, List.cons.injEq] at h
    simp only [rises, e, h.1, rises_set l m h.2 a b h.1]
theorem chk_set {l m : List S} (h : l.map (·.f0) = m.map (·.f0)) : chk l = chk m := by
  match l, m, h with
  | [], [], _ => rfl
  | [], _ :: _, h => cases h
  | _ :: _, [], h => cases h
  | x :: l, y :: m, h =>
    simp only [List.map_cons, List.cons.injEq] at h
    have e : l.length = m.length := by have := congrArg List.length h.2; simpa using this
    simp only [chk, List.length_cons, e, rises_set l m h.2 x y h.1]
theorem back_end (l : List S) (a3 : ByteArray) (k : Nat) (hc : chk l = 0) (hw : ∀ x ∈ l, WF x) (hs : a3.size ≤ 1000) (hk : 100 ≤ k) :
    ((sample_Put.f l).bind fun bt222 => (if bt222.1.size + a3.size ≤ 9223372036854775807 then ((sample_Take.f (bt222.1 ++ a3)).bind fun bt224 => (if bt222.2 = 0 then (if bt224.2.2 = 0 then ((postroomref4_Same.f k bt224.1 l).bind fun t229 => (if t229 = true then (some (bt224.2.1.toList == a3.toList)) else (some false))) else (some false)) else (some false))) else (none))) = some true := by
  obtain ⟨r, rfl⟩ : ∃ r, a3 = bs r := ⟨ls a3, (bs_ls a3).symm⟩
  rw [bs_size] at hs
  have h1 := bytes_len hc hw
  have h2 := chk_len hc
  rw [put_ok hw hc, bsome, if_pos (by simp only [bs_size]; omega), bs_app, stake_f (by simp; omega), bsome, if_pos rfl, takeS_bytes hc hw r, if_pos rfl, same_f (l := l) (by omega) (by omega), bsome, decide_eq_true rfl, if_pos rfl]
  simp
theorem back_l0 (l2 : List Int) (hl2 : l2.length ≤ 140737488351232) (hw2 : ∀ x ∈ l2, (Lit.int .i64 x).wf = true) (a3 : ByteArray) (hs : a3.size ≤ 1000) : ∀ (d k i : Nat) (l : List S), i + d = l.length → d + 101 ≤ k → chk l = 0 → (∀ x ∈ l, WF x) →
    postroomlaw4_SampleBack.l0 k l2 a3 l (i : Int) = some true
  | d, k, i, l, hi, hk, hc, hw => by
    obtain ⟨k, rfl⟩ : ∃ m, k = m + 1 := ⟨k - 1, by omega⟩
    have h20 := chk_len hc
    simp only [postroomlaw4_SampleBack.l0]
    match d, hi, hk with
    | 0, hi, _ =>
      rw [if_neg (by omega)]
      exact back_end l a3 k hc hw hs (by omega)
    | d + 1, hi, hk =>
      have h1 : i < l.length := by omega
      rw [if_pos (by omega)]
      by_cases h : i < l2.length
      · have h2 := hw2 l2[i] (List.getElem_mem h)
        rw [if_pos (by omega), if_pos (by omega), rd_S l i h1, rd_int l2 i h, Int.toNat_natCast, w64_id (by omega) (by omega), show ((i : Int) + 1) = ((i + 1 : Nat) : Int) by omega]
        refine back_l0 l2 hl2 hw2 a3 hs d k (i + 1) _ (by simp; omega) (by omega) ?_ ?_
        · rw [← hc]
          refine chk_set ?_
          rw [List.map_set]
          refine List.ext_getElem (by simp) ?_
          intro j hj1 hj2
          rw [List.getElem_set]
          split
          · rename_i e; subst e; simp
          · rfl
        · intro x hx
          rcases List.mem_or_eq_of_mem_set hx with hx | rfl
          · exact hw x hx
          · exact ⟨(hw l[i] (List.getElem_mem h1)).1, h2⟩
      · rw [if_neg (by omega)]
        exact back_end l a3 k hc hw hs (by omega)
theorem Pure.SampleBack : postroomlaw4_SampleBack.Pure := by
  intro a l l2 a3 ha hl1 hl2 hw hm1 hm2 hw2 h3
  have hs := samplesOf_f (k := 199) ha (by omega) hw (by omega)
  refine ⟨200, ?_⟩
  unfold postroomlaw4_SampleBack.f
  rw [shown_f, bsome, if_pos rfl]
  simp only [postroomlaw4_SampleBack.j0]
  by_cases h : (a3.size : Int) > 1000
  · rw [if_pos (decide_eq_true h)]
  · rw [if_neg (by rw [decide_eq_true_eq]; exact h), hs, bsome]
    have hlen := smp_len a l
    exact back_l0 l2 (by omega) hw2 a3 (by omega) (smp a l).length 199 0 (smp a l) (by omega) (by omega) (smp_chk hw) (smp_wf hw)
end Go.Proofs.Ytncaikmdcbaeeaa
