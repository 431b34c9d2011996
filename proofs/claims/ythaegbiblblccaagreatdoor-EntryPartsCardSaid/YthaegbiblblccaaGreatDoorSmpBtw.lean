/- Chapter 4: those of some time. Conditions: those that each theorem names. -/
import Derived.Test.YthaegbiblblccaaGreatDoorSmpGlue
import Derived.Test.YthaegbiblblccaaGreatDoorXEntP3
import Derived.Test.YthaegbiblblccaaGreatDoorXEntP1
namespace Go.Proofs.YthaegbiblblccaaGreatDoor.Smp
open Go.RowKit Go.Proofs.YthaegbiblblccaaGreatDoorW.PrintWords Go.Proofs.YthaegbiblblccaaGreatDoorW.PrintMore Go.Proofs.YthaegbiblblccaaGreatDoor.XEnt Go.Proofs.YthaegbiblblccaaGreatDoor.Num
set_option linter.unusedVariables false
set_option linter.unusedSimpArgs false
theorem between_l0 (l : List S) (a b : Int) (hl : l.length ≤ 1000000) : ∀ (d k i : Nat) (acc : List S), i + d = l.length → d + 1 ≤ k → acc.length ≤ i → sample_Between.l0 k a b acc l (l.length : Int) (i : Int) = some (acc ++ btw (l.drop i) a b)
  | d, k, i, acc, hi, hk, ha => by
    obtain ⟨k, rfl⟩ : ∃ m, k = m + 1 := ⟨k - 1, by omega⟩
    simp only [sample_Between.l0]
    match d, hi, hk with
    | 0, hi, _ =>
      have e : l.drop i = [] := List.drop_eq_nil_of_le (by omega)
      rw [if_neg (by omega), e]
      simp [btw]
    | d + 1, hi, hk =>
      have h1 : i < l.length := by omega
      rw [if_pos (by omega), if_pos (by omega), if_pos (by omega), rd_S l i h1, app_get l i h1, w64_id (by omega) (by omega), show ((i : Int) + 1) = ((i + 1 : Nat) : Int) by omega]
      by_cases h2 : l[i].f0 ≥ a
      · rw [if_pos h2]
        by_cases h3 : l[i].f0 ≤ b
        · rw [if_pos h3, if_pos (by omega), between_l0 l a b hl d k (i + 1) _ (by omega) (by omega) (by simp; omega)]
          rw [btw_in h2 h3, List.append_assoc]; rfl
        · rw [if_neg h3, between_l0 l a b hl d k (i + 1) _ (by omega) (by omega) (by omega)]
          rw [btw_hi h3]
      · rw [if_neg h2, between_l0 l a b hl d k (i + 1) _ (by omega) (by omega) (by omega)]
        rw [btw_lo h2]
theorem between_f {l : List S} {a b : Int} {k : Nat} (hl : l.length ≤ 1000000) (hk : l.length + 1 ≤ k) : sample_Between.f k l a b = some (btw l a b) := by
  unfold sample_Between.f
  have := between_l0 l a b hl l.length k 0 [] (by omega) hk (by simp)
  simpa using this
end Go.Proofs.YthaegbiblblccaaGreatDoor.Smp
