/- EntrySeries: entries are of one series just if their labels are the same, in whatever order. Conditions: the law's own. -/
import Derived.Test.YthaegbiblblccaaDoorEntGlue
import Derived.Test.YthaegbiblblccaaDoorXEntx0
import Derived.Test.YthaegbiblblccaaDoorXEntx28
import Derived.Test.YthaegbiblblccaaDoorXEntx29
namespace Go.Proofs.YthaegbiblblccaaDoor
open Go.RowKit Go.Proofs.YthaegbiblblccaaDoorW.PrintWords Go.Proofs.YthaegbiblblccaaDoorW.PrintMore Go.Proofs.YthaegbiblblccaaDoor.XEnt Go.Proofs.YthaegbiblblccaaDoor.Num Go.Proofs.YthaegbiblblccaaDoor.Ent
set_option linter.unusedVariables false
set_option linter.unusedSimpArgs false
theorem series_l0 (by_ : Int) (hb : -9223372036854775808 ≤ by_ ∧ by_ < 9223372036854775808) (l : List S49) (m : List Sm) (l' : List S49) (m' mz : List Sm) (h8 : l.length ≤ 8) (hp : 0 < l.length) : ∀ (d k i : Nat), i + d = l.length → d < k →
    postroomlaw5_EntrySeries.l0 k by_ (i : Int) l m l' m' ((Lbl.rot l (Lbl.pickN by_ l.length)).take i) mz = postroomlaw5_EntrySeries.l0 (k - d) by_ (l.length : Int) l m l' m' (Lbl.rot l (Lbl.pickN by_ l.length)) mz
  | 0, k, i, hi, hk => by
    rw [List.take_of_length_le (by rw [Lbl.rot_len]; omega), show i = l.length by omega]; rfl
  | d + 1, k, i, hi, hk => by
    obtain ⟨k, rfl⟩ : ∃ q, k = q + 1 := ⟨k - 1, by omega⟩
    have h1 : i < l.length := by omega
    have ih := series_l0 by_ hb l m l' m' mz h8 hp d k (i + 1) (by omega) (by omega)
    have hlt := Lbl.pickN_lt by_ hp
    have hs := Lbl.rot_step hlt h1
    have hm : (i + Lbl.pickN by_ l.length) % l.length < l.length := Nat.mod_lt _ hp
    rw [postroomlaw5_EntrySeries.l0, if_pos (by omega), Lbl.pick_f hb hp, bsome, if_neg (by omega), w64_id (x := (i : Int) + (Lbl.pickN by_ l.length : Int)) (by omega) (by omega), show (i : Int) + (Lbl.pickN by_ l.length : Int) = ((i + Lbl.pickN by_ l.length : Nat) : Int) by omega, tmod_nat, if_pos (by omega), if_pos (by omega), if_pos (by rw [List.length_take, Lbl.rot_len]; omega), Lbl.rd_q l _ hm, Lbl.w_succ (by omega), show k + 1 - (d + 1) = k - d by omega, ← ih, ← hs]
theorem series_f {l : List S49} (hg : Lbl.Good l) (m : List Sm) {k : Nat} (hk : 10 ≤ k) : entry_Series.f k l m = some (bs (Lbl.lbytes l), 0) := by
  unfold entry_Series.f
  rw [Lbl.put_goodf hg hk, bsome]
theorem Pure.EntrySeries : postroomlaw5_EntrySeries.Pure := by
  intro n n' a p b hn1 hn2 hn hn1' hn2' hn' ha hp1 hp2 hp hb
  have hb := wf_i64 hb
  have ha2 : (Lit.int .u64 (IntKind.u64.wrap (a + 7))).wf = true := by
    rw [u64_wrap]
    simp [Lit.wf, IntKind.min, IntKind.max, IntKind.signed, IntKind.bits]; omega
  refine ⟨2000, ?_⟩
  obtain ⟨l, he, _, hg⟩ := entryOf_f hn ha (by omega) hp (k := 2000) (by omega)
  obtain ⟨l', he', _, hg'⟩ := entryOf_f (p := []) hn' ha2 (by simp) (by simp) (k := 2000) (by omega)
  have hm := Smp.smp_chk (a := a) hp
  have hw := Smp.smp_wf (a := a) hp
  generalize Smp.smp a p = m at he hm hw
  generalize Smp.smp (IntKind.u64.wrap (a + 7)) [] = m' at he'
  have h8 := hg.few
  have hlen := bytesE_len hg hm hw
  have hl2 := lbytes_len hg
  have hsl := Lbl.sort_len l
  have hbp : 0 < (Smp.bytes m).length := by
    cases m with
    | nil => cases hm
    | cons x r => unfold Smp.bytes; simp only [List.length_append]; have := enc_pos (x :: r).length; omega
  unfold postroomlaw5_EntrySeries.f
  rw [shown_f (by omega), bsome, if_pos rfl, he, bsome, he', bsome]
  obtain ⟨u, hu, k2, hk2, e⟩ : ∃ u, u.Perm l ∧ ∃ k2, 1900 < k2 ∧ postroomlaw5_EntrySeries.l0 2000 b 0 l m l' m' [] m' = postroomlaw5_EntrySeries.l0 k2 b (l.length : Int) l m l' m' u m' := by
    by_cases c : 0 < l.length
    · have h := series_l0 b hb l m l' m' m' h8 c l.length 2000 0 (by omega) (by omega)
      exact ⟨_, Lbl.rot_perm l _, 2000 - l.length, by omega, h⟩
    · have : l = [] := List.eq_nil_of_length_eq_zero (by omega)
      subst this
      exact ⟨[], List.Perm.refl _, 2000, by omega, rfl⟩
  simp only []
  rw [e]
  obtain ⟨k, rfl⟩ : ∃ k, k2 = k + 1 := ⟨k2 - 1, by omega⟩
  have hgu := Lbl.good_perm hu.symm hg
  have hsm : Lbl.lbytes u = Lbl.lbytes l := by rw [Lbl.lbytes_inj hgu hg]; exact Lbl.sortL_perm hu hgu.once
  obtain ⟨c, hc1, hc2⟩ := Lbl.same_f (sortL l) (sortL l') (by omega) (k := k) (by omega)
  have e2 : (((bs (Lbl.lbytes l)).toList == (bs (Lbl.lbytes l')).toList) == c) = true := by
    rw [bs_toList, bs_toList]
    by_cases h : Lbl.lbytes l = Lbl.lbytes l'
    · rw [h, hc2.2 ((Lbl.lbytes_inj hg hg').1 h)]; simp
    · have : c = false := Bool.eq_false_iff.2 (fun hb => h ((Lbl.lbytes_inj hg hg').2 (hc2.1 hb)))
      rw [this, beq_eq_false_iff_ne.2 h]; rfl
  have e3 : bytesE l m = Lbl.lbytes l ++ Smp.bytes m := rfl
  rw [postroomlaw5_EntrySeries.l0, if_neg (by omega), series_f hg m (by omega), bsome, series_f hg' m' (by omega), bsome, series_f hgu m' (by omega), bsome, eput_ok hg hm hw (by omega), bsome, Lbl.rcanon_f l 20 (by omega) (good_size hg) (by omega), bsome, Lbl.rcanon_f l' 20 (by omega) (good_size hg') (by omega), bsome, if_pos (Lbl.good_chk hg), if_pos (Lbl.good_chk hg'), if_pos rfl, if_pos rfl, if_pos rfl, if_pos rfl, hsm, if_pos rfl, hc1, bsome, if_pos e2, if_pos (by rw [bs_size, bs_size, e3, List.length_append]; omega), if_pos (by omega), if_pos (by rw [bs_size, bs_size, e3, List.length_append]; omega), bs_size, bs_take, e3, List.take_left' rfl]
  simp
end Go.Proofs.YthaegbiblblccaaDoor
