/- FrameTells: a frame's bytes, the frame that any bytes begin with, and all of them, are as the chapter says. Conditions: the law's own. -/
import Derived.Test.YtbhbbnfkblibfaaDoorFrmRow
import Derived.Test.YtbhbbnfkblibfaaDoorXFrmx7
namespace Go.Proofs.YtbhbbnfkblibfaaDoor
open Go.RowKit Go.Proofs.YtbhbbnfkblibfaaDoorW.PrintWords Go.Proofs.YtbhbbnfkblibfaaDoorW.PrintMore Go.Proofs.YtbhbbnfkblibfaaDoor.XFrm Go.Proofs.YtbhbbnfkblibfaaDoor.Num Go.Proofs.YtbhbbnfkblibfaaDoor.Frm
set_option linter.unusedVariables false
set_option linter.unusedSimpArgs false
theorem Pure.FrameTells : postroomlaw6_FrameTells.Pure := by
  intro a0 a1 a2 h0 h1 h2
  obtain ⟨g0, g1⟩ := wf_u64 h0
  obtain ⟨n, rfl⟩ : ∃ n : Nat, a0 = (n : Int) := ⟨_, (Int.toNat_of_nonneg g0).symm⟩
  obtain ⟨b, rfl⟩ := bs_list a1
  obtain ⟨s, rfl⟩ := bs_list a2
  rw [bs_size] at h1 h2
  have hn : n < 18446744073709551616 := by omega
  refine ⟨130000, ?_⟩
  unfold postroomlaw6_FrameTells.f
  rw [shown_f (by decide), bsome, if_pos rfl, bs_size, bs_size]
  by_cases hb : 3000 < b.length
  · rw [if_pos (by omega), postroomlaw6_FrameTells.j0, if_pos rfl]
  · rw [if_neg (by omega)]
    by_cases hs : 3000 < s.length
    · rw [postroomlaw6_FrameTells.j0, if_pos (by rw [decide_eq_true_eq]; omega)]
    · have hl := scanA_len s
      rw [postroomlaw6_FrameTells.j0, if_neg (by rw [decide_eq_true_eq]; omega), fput_f hn h1 (by decide), bsome, rfput_f hn h1 (by decide), bsome, first_f h2 (by decide), bsome, rfirst_f h2 (by decide), bsome, scan_f (by omega) (by decide), bsome, rscan_f (by omega) (by decide), bsome]
      rw [if_pos rfl, if_pos rfl, fsize_f hn h1 (by decide), bsome, if_pos rfl, if_pos rfl, if_pos rfl, if_pos rfl, if_pos rfl]
      rw [as_f (by omega) (by omega), bsome, same_f rfl (by rw [List.length_map]; omega) (by rw [List.length_map]; omega), bsome, if_pos rfl, beq_self_eq_true]
end Go.Proofs.YtbhbbnfkblibfaaDoor
