/- Chapter 3: the document's value of a name. Conditions: those that each theorem names. -/
import Derived.Test.YthaegbiblblccaaGreatDoorLblGlue2
import Derived.Test.YthaegbiblblccaaGreatDoorGLabelMatch
import Derived.Test.YthaegbiblblccaaGreatDoorXEntP5
namespace Go.Proofs.YthaegbiblblccaaGreatDoor.Lbl
open Go Go.RowKit Go.Proofs.YthaegbiblblccaaGreatDoorW.PrintWords Go.Proofs.YthaegbiblblccaaGreatDoorW.PrintLast Go.Proofs.YthaegbiblblccaaGreatDoorW.PrintMore Go.Proofs.YthaegbiblblccaaGreatDoor.Num Go.Proofs.YthaegbiblblccaaGreatDoor.XEnt
set_option linter.unusedVariables false
set_option linter.unusedSimpArgs false
/-! ### the value of a name -/
theorem rvalue_l0 (l : List Q) (n : ByteArray) (hl : l.length ≤ 1000000000000000000) : ∀ (d k i : Nat), i + d = l.length → i ≤ findN l n → d < k → postroomref3_Value.l0 k l n (i : Int) = some (valL l n)
  | 0, k, i, hi, hf, hk => by
    obtain ⟨k, rfl⟩ : ∃ q, k = q + 1 := ⟨k - 1, by omega⟩
    rw [postroomref3_Value.l0, if_neg (by omega)]
    unfold valL; rw [if_neg (by omega)]
  | d + 1, k, i, hi, hf, hk => by
    obtain ⟨k, rfl⟩ : ∃ q, k = q + 1 := ⟨k - 1, by omega⟩
    have h1 : i < l.length := by omega
    rw [postroomref3_Value.l0, if_pos (by omega), if_pos (by omega), rd_q l i h1]
    rcases Nat.lt_or_eq_of_le hf with h | h
    · rw [if_neg (find_lt l n i h h1), w_succ (by omega)]
      exact rvalue_l0 l n hl d k (i + 1) (by omega) (by omega) (by omega)
    · have h2 := find_at l n (by omega)
      simp only [← h] at h2
      rw [if_pos h2]
      unfold valL; rw [if_pos (by omega), ← h, rd_q l i h1]
theorem rvalue_f (l : List Q) (n : ByteArray) (hl : l.length ≤ 1000000000000000000) {k : Nat} (hk : l.length < k) : postroomref3_Value.f k l n = some (valL l n) :=
  rvalue_l0 l n hl l.length k 0 (by omega) (Nat.zero_le _) hk
end Go.Proofs.YthaegbiblblccaaGreatDoor.Lbl
