/- FrameLong: a body of 2000 bytes has a frame, one of a byte more has none. Conditions: the law's own. -/
import Derived.Test.YtbhbbnfkblibfaaDoorFrmGlue
import Derived.Test.YtbhbbnfkblibfaaDoorXFrmx8
namespace Go.Proofs.YtbhbbnfkblibfaaDoor
open Go.RowKit Go.Proofs.YtbhbbnfkblibfaaDoorW.PrintWords Go.Proofs.YtbhbbnfkblibfaaDoorW.PrintMore Go.Proofs.YtbhbbnfkblibfaaDoor.XFrm Go.Proofs.YtbhbbnfkblibfaaDoor.Num Go.Proofs.YtbhbbnfkblibfaaDoor.Frm
set_option linter.unusedVariables false
set_option linter.unusedSimpArgs false
theorem pick20 {a : Int} (h : -9223372036854775808 ≤ a ∧ a < 9223372036854775808) : ∃ t : Nat, t < 20 ∧ postroomlaw6_pick.f a 20 = some (t : Int) := by
  unfold postroomlaw6_pick.f
  by_cases h0 : a < 0
  · rw [if_pos h0, if_neg (by decide), w64_id (x := a + 1) (by omega) (by omega), w64_id (by omega) (by omega), Int.tmod_eq_emod_of_nonneg (by omega)]
    exact ⟨(-(a + 1) % 20).toNat, by omega, by congr 1; omega⟩
  · rw [if_neg h0, if_neg (by decide), Int.tmod_eq_emod_of_nonneg (by omega)]
    exact ⟨(a % 20).toNat, by omega, by congr 1; omega⟩
theorem Pure.FrameLong : postroomlaw6_FrameLong.Pure := by
  intro a0 a1 h0 h1
  obtain ⟨g0, g1⟩ := wf_u64 h0
  obtain ⟨n, rfl⟩ : ∃ n : Nat, a0 = (n : Int) := ⟨_, (Int.toNat_of_nonneg g0).symm⟩
  have hn : n < 18446744073709551616 := by omega
  obtain ⟨t, ht, hp⟩ := pick20 (wf_i64 h1)
  have e1 : wrap64 (1990 + (t : Int)) = ((1990 + t : Nat) : Int) := by rw [w64_id (by omega) (by omega)]; omega
  have hz : strOfNums (List.replicate (1990 + t) (0 : Int)) = bs (List.replicate (1990 + t) 0) := by
    rw [strOfNums_bs, List.map_replicate]; rfl
  have hzl : (List.replicate (1990 + t) (0 : UInt8)).length = 1990 + t := List.length_replicate
  refine ⟨200, ?_⟩
  unfold postroomlaw6_FrameLong.f
  rw [shown_f (by decide), bsome, if_pos rfl, hp, bsome, e1, if_pos (by omega), Int.toNat_natCast, if_pos (by omega), bsome, hz]
  generalize List.replicate (1990 + t) (0 : UInt8) = b at hz hzl
  rw [fput_f hn (by omega) (by decide), bsome]
  by_cases hb : 2000 < b.length
  · have hp2 : putF n b = (bs [], 7) := by unfold putF; rw [if_pos hb]
    rw [if_pos (by omega), hp2, if_pos rfl, bs_toList, if_pos rfl, fsize_f hn (by omega) (by decide), bsome, hp2, bs_size]; rfl
  · have hfl := fr_le hn (show b.length ≤ 2000 by omega)
    have hp2 : putF n b = (bs (fr n b), 0) := by unfold putF; rw [if_neg hb]
    have hf := firstP_put (n := n) (b := b) [] hn (by omega)
    rw [List.append_nil] at hf
    rw [if_neg (by omega), hp2, first_f (by omega) (by decide), bsome, hf]
    simp only [bs_size, bs_toList]
    rw [if_pos trivial, if_pos trivial, if_pos trivial, beq_self_eq_true]
end Go.Proofs.YtbhbbnfkblibfaaDoor
