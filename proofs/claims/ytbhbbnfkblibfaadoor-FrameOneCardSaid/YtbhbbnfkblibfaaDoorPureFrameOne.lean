/- FrameOne: two frames that have the same bytes are of the same number, and body. Conditions: the law's own. -/
import Derived.Test.YtbhbbnfkblibfaaDoorFrmRow
import Derived.Test.YtbhbbnfkblibfaaDoorXFrmx0
import Derived.Test.YtbhbbnfkblibfaaDoorXFrmx12
namespace Go.Proofs.YtbhbbnfkblibfaaDoor
open Go.RowKit Go.Proofs.YtbhbbnfkblibfaaDoorW.PrintWords Go.Proofs.YtbhbbnfkblibfaaDoorW.PrintMore Go.Proofs.YtbhbbnfkblibfaaDoor.XFrm Go.Proofs.YtbhbbnfkblibfaaDoor.Num Go.Proofs.YtbhbbnfkblibfaaDoor.Frm
set_option linter.unusedVariables false
set_option linter.unusedSimpArgs false
theorem one_j1 (k n m : Nat) (b c : List UInt8) (hk : 100100 ≤ k) (hn : n < 18446744073709551616) (hm : m < 18446744073709551616) (hb : b.length ≤ 2000) (hc : c.length ≤ 2000) :
    postroomlaw6_FrameOne.j1 k (n : Int) (m : Int) (bs b) (bs c) (bs (fr n b)) (bs (fr m c)) false = some true := by
  obtain ⟨k, rfl⟩ : ∃ q, k = q + 1 := ⟨k - 1, by omega⟩
  have hx := fr_le hn hb
  have hy := fr_le hm hc
  have hscan : scanA (fr m c ++ fr n b) = [(m, c), (n, b)] := by
    have h2 := scanA_put (n := n) (b := b) [] hn hb
    rw [List.append_nil] at h2
    rw [scanA_put _ hm hc, h2, scanA_none (by rfl)]
  have hlen : (frs [(m, c), (n, b)]).length = (fr m c).length + (fr n b).length := by
    simp only [frs, List.length_append, List.length_nil]; omega
  have ew : wrap64 (((fr n b).length : Int) + ((fr m c).length : Int)) = ((fr n b).length : Int) + ((fr m c).length : Int) := w64_id (by omega) (by omega)
  rw [postroomlaw6_FrameOne.j1, if_neg (by decide), bs_size, bs_size, if_pos (by omega), bs_app, first_f (by rw [List.length_append]; omega) (by omega), bsome, firstP_put _ hn hb, if_pos (by omega), bs_app, scan_f (by rw [List.length_append]; omega) (by omega), bsome, hscan, hlen]
  have r0 : rd_T28 ([(m, c), (n, b)].map toS) 0 = toS (m, c) := rfl
  have r1 : rd_T28 ([(m, c), (n, b)].map toS) 1 = toS (n, b) := rfl
  simp only [r0, r1, List.length_map, List.length_cons, List.length_nil, toS, bs_toList]
  rw [if_pos trivial, if_pos trivial, if_pos trivial, if_pos (by decide), if_pos (by decide), if_pos trivial, if_pos trivial, if_pos (by decide), if_pos trivial, if_pos trivial, ew]
  congr 1
  rw [beq_iff_eq]
  omega
theorem Pure.FrameOne : postroomlaw6_FrameOne.Pure := by
  intro a0 a1 a2 a3 h0 h1 h2 h3
  obtain ⟨g0, g1⟩ := wf_u64 h0
  obtain ⟨f0, f1⟩ := wf_u64 h1
  obtain ⟨n, rfl⟩ : ∃ n : Nat, a0 = (n : Int) := ⟨_, (Int.toNat_of_nonneg g0).symm⟩
  obtain ⟨m, rfl⟩ : ∃ n : Nat, a1 = (n : Int) := ⟨_, (Int.toNat_of_nonneg f0).symm⟩
  obtain ⟨b, rfl⟩ := bs_list a2
  obtain ⟨c, rfl⟩ := bs_list a3
  rw [bs_size] at h2 h3
  have hn : n < 18446744073709551616 := by omega
  have hm : m < 18446744073709551616 := by omega
  refine ⟨100200, ?_⟩
  unfold postroomlaw6_FrameOne.f
  rw [shown_f (by decide), bsome, if_pos rfl, bs_size, bs_size]
  by_cases hb : 2000 < b.length
  · rw [if_pos (by omega), postroomlaw6_FrameOne.j0, if_pos rfl]
  · rw [if_neg (by omega)]
    by_cases hc : 2000 < c.length
    · rw [postroomlaw6_FrameOne.j0, if_pos (by rw [decide_eq_true_eq]; omega)]
    · have hp1 : putF n b = (bs (fr n b), 0) := by unfold putF; rw [if_neg hb]
      have hp2 : putF m c = (bs (fr m c), 0) := by unfold putF; rw [if_neg hc]
      have key : (fr n b = fr m c) ↔ (n = m ∧ b = c) := by
        constructor
        · intro h
          have h2 : fr n b ++ [] = fr m c ++ [] := by rw [h]
          have := fr_inj hn (by omega) hm (by omega) h2
          exact ⟨this.1, this.2.1⟩
        · rintro ⟨rfl, rfl⟩; rfl
      rw [postroomlaw6_FrameOne.j0, if_neg (by rw [decide_eq_true_eq]; omega), fput_f hn h2 (by decide), bsome, fput_f hm h3 (by decide), bsome, hp1, hp2]
      simp only [bs_toList]
      rw [if_pos trivial, if_pos trivial]
      have hj := one_j1 100199 n m b c (by decide) hn hm (by omega) (by omega)
      by_cases e : (n : Int) = (m : Int)
      · rw [if_pos e]
        have en : n = m := by omega
        by_cases e2 : b = c
        · have e3 := key.2 ⟨en, e2⟩
          rw [show (fr n b == fr m c) = true by rw [beq_iff_eq]; exact e3, show (b == c) = true by rw [beq_iff_eq]; exact e2]
          exact hj
        · rw [show (fr n b == fr m c) = false by rw [beq_eq_false_iff_ne]; exact fun h => e2 (key.1 h).2, show (b == c) = false by rw [beq_eq_false_iff_ne]; exact e2]
          exact hj
      · rw [if_neg e, show (fr n b == fr m c) = false by rw [beq_eq_false_iff_ne]; exact fun h => e (by rw [(key.1 h).1])]
        exact hj
end Go.Proofs.YtbhbbnfkblibfaaDoor
