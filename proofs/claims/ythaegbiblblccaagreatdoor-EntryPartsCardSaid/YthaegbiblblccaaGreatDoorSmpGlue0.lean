/- What sample.Check answers, in the plain law's words. Conditions: rounds enough. -/
import Derived.Test.YthaegbiblblccaaGreatDoorSmpLib
import Derived.Test.YthaegbiblblccaaGreatDoorLblNumQ
import Derived.Test.YthaegbiblblccaaGreatDoorXEntP1
import Derived.Test.YthaegbiblblccaaGreatDoorXEntP2
namespace Go.Proofs.YthaegbiblblccaaGreatDoor.Smp
open Go.RowKit Go.Proofs.YthaegbiblblccaaGreatDoorW.PrintWords Go.Proofs.YthaegbiblblccaaGreatDoorW.PrintMore Go.Proofs.YthaegbiblblccaaGreatDoor.XEnt Go.Proofs.YthaegbiblblccaaGreatDoor.Num
set_option linter.unusedVariables false
set_option linter.unusedSimpArgs false
theorem rd_S (l : List S) (i : Nat) (h : i < l.length) : rd_T54 l (i : Int) = l[i] := by
  unfold rd_T54
  rw [Int.toNat_natCast, List.getD_eq_getElem?_getD, List.getElem?_eq_getElem h]
  rfl
theorem check_l0 (x : S) (r : List S) (hr : r.length ≤ 1000) : ∀ (d k i : Nat) (hi : i + d = r.length), d + 1 ≤ k →
    sample_Check.l0 k (x :: r) r (r.length : Int) (i : Int) = some (bif rises ((x :: r)[i]'(by simp; omega)) (r.drop i) then 0 else 8)
  | d, k, i, hi, hk => by
    obtain ⟨k, rfl⟩ : ∃ m, k = m + 1 := ⟨k - 1, by omega⟩
    simp only [sample_Check.l0]
    match d, hi, hk with
    | 0, hi, _ =>
      have e : r.drop i = [] := List.drop_eq_nil_of_le (by omega)
      rw [if_neg (by omega), e]
      simp [rises]
    | d + 1, hi, hk =>
      have hlt : i < r.length := by omega
      have e : r.drop i = r[i] :: r.drop (i + 1) := List.drop_eq_getElem_cons hlt
      have e2 : (x :: r)[i + 1]'(by simp; omega) = r[i] := by simp
      rw [if_pos (by omega), if_pos (by omega), if_pos (by omega), if_pos (by simp; omega), rd_S r i hlt, rd_S (x :: r) i (by simp; omega), e]
      simp only [rises]
      by_cases h : r[i].f0 ≤ ((x :: r)[i]'(by simp; omega)).f0
      · rw [if_pos h, decide_eq_false (by omega)]; rfl
      · have ih := check_l0 x r hr d k (i + 1) (by omega) (by omega)
        rw [e2] at ih
        rw [if_neg h, decide_eq_true (by omega), w64_id (by omega) (by omega), show ((i : Int) + 1) = ((i + 1 : Nat) : Int) by omega, ih, Bool.true_and]
theorem check_f (l : List S) (k : Nat) (hk : 1003 ≤ k) : sample_Check.f k l = some (chk l) := by
  obtain ⟨k, rfl⟩ : ∃ m, k = m + 1 := ⟨k - 1, by omega⟩
  unfold sample_Check.f
  match l with
  | [] => rw [if_pos (by simp)]; simp only [sample_Check.j0]; rfl
  | x :: r =>
    rw [if_neg (by simp; omega)]
    by_cases h : (x :: r).length ≤ 20
    · have hr : r.length ≤ 20 := by simp at h; omega
      have := check_l0 x r (by omega) r.length k 0 (by omega) (by omega)
      simp only [List.getElem_cons_zero, List.drop_zero, Int.natCast_zero] at this
      rw [decide_eq_false (by omega)]
      simp only [sample_Check.j0]
      rw [if_neg (by decide), if_pos (by simp; omega), bsome, List.drop_one, List.tail_cons, this]
      simp only [chk]
      rw [if_neg (by omega)]
    · rw [decide_eq_true (by omega)]
      simp only [sample_Check.j0]
      rw [if_pos trivial]
      simp only [chk]
      rw [if_pos (by omega)]
end Go.Proofs.YthaegbiblblccaaGreatDoor.Smp
