/- What the printed functions of chapter 4 answer, in the plain law's words. Conditions: rounds enough. -/
import Derived.Test.YthaegbiblblccaaGreatDoorSmpLaw
import Derived.Test.YthaegbiblblccaaGreatDoorGSamplePut
import Derived.Test.YthaegbiblblccaaGreatDoorGSampleTake
import Derived.Test.YthaegbiblblccaaGreatDoorSmpNumB
import Derived.Test.YthaegbiblblccaaGreatDoorXEntP3
namespace Go.Proofs.YthaegbiblblccaaGreatDoor.Smp
open Go.RowKit Go.Proofs.YthaegbiblblccaaGreatDoorW.PrintWords Go.Proofs.YthaegbiblblccaaGreatDoorW.PrintMore Go.Proofs.YthaegbiblblccaaGreatDoor.XEnt Go.Proofs.YthaegbiblblccaaGreatDoor.Num
set_option linter.unusedVariables false
set_option linter.unusedSimpArgs false

theorem sput_f {l : List S} (hw : ∀ x ∈ l, WF x) : sample_Put.f l = some (putS l) := by unfold sample_Put.f; rw [if_pos hw]
theorem put_ok {l : List S} (hw : ∀ x ∈ l, WF x) (hc : chk l = 0) : sample_Put.f l = some (bs (bytes l), 0) := by rw [sput_f hw]; unfold putS; rw [if_pos hc]
theorem stake_f {l : List UInt8} (hl : l.length ≤ 140737488351232) : sample_Take.f (bs l) = some (takeS l) := by unfold sample_Take.f; rw [if_pos (by rw [bs_size]; exact hl)]; rfl
theorem app_get (l : List S) (i : Nat) (h : i < l.length) : l.drop i = l[i] :: l.drop (i + 1) := List.drop_eq_getElem_cons h
theorem same_l0 (l m : List S) (hl : l.length ≤ 1000000) (hm : l.length = m.length) : ∀ (d k i : Nat), i + d = l.length → d + 1 ≤ k → postroomref4_Same.l0 k l m (i : Int) = some (decide (l.drop i = m.drop i))
  | d, k, i, hi, hk => by
    obtain ⟨k, rfl⟩ : ∃ m, k = m + 1 := ⟨k - 1, by omega⟩
    simp only [postroomref4_Same.l0]
    match d, hi, hk with
    | 0, hi, _ =>
      have e : l.drop i = [] := List.drop_eq_nil_of_le (by omega)
      have e2 : m.drop i = [] := List.drop_eq_nil_of_le (by omega)
      rw [if_neg (by omega), e, e2]
      simp
    | d + 1, hi, hk =>
      have h1 : i < l.length := by omega
      have h2 : i < m.length := by omega
      rw [if_pos (by omega), if_pos (by omega), if_pos (by omega), rd_S l i h1, rd_S m i h2, app_get l i h1, app_get m i h2]
      by_cases h : l[i] = m[i]
      · have ih := same_l0 l m hl hm d k (i + 1) (by omega) (by omega)
        rw [h]
        simp only [beq_self_eq_true, Bool.not_true, Bool.or_self, Bool.false_eq_true, if_false]
        rw [w64_id (by omega) (by omega), show ((i : Int) + 1) = ((i + 1 : Nat) : Int) by omega, ih]
        exact congrArg some (decide_eq_decide.2 ⟨fun e => by rw [e], fun e => (List.cons.inj e).2⟩)
      · have hne : ¬ (l[i] :: l.drop (i + 1) = m[i] :: m.drop (i + 1)) := fun e => h (List.cons.inj e).1
        rw [decide_eq_false hne]
        by_cases h3 : l[i].f0 = m[i].f0
        · have h4 : ¬ l[i].f1 = m[i].f1 := fun h4 => h (by cases e1 : l[i]; cases e2 : m[i]; rw [e1, e2] at h3 h4; simp at h3 h4; subst h3; subst h4; rfl)
          rw [if_pos]
          simp [h4]
        · rw [if_pos]
          simp [h3]
theorem same_f {l m : List S} {k : Nat} (hl : l.length ≤ 1000000) (hk : l.length + 1 ≤ k) : postroomref4_Same.f k l m = some (decide (l = m)) := by
  unfold postroomref4_Same.f
  by_cases h : l.length = m.length
  · rw [if_pos (by omega)]
    have := same_l0 l m hl h l.length k 0 (by omega) hk
    simpa using this
  · rw [if_neg (by omega), decide_eq_false (fun e => h (by rw [e]))]
/-- Those of some time. -/
def btw (l : List S) (a b : Int) : List S := l.filter fun x => decide (a ≤ x.f0) && decide (x.f0 ≤ b)
theorem btw_in {x : S} {r : List S} {a b : Int} (h1 : a ≤ x.f0) (h2 : x.f0 ≤ b) : btw (x :: r) a b = x :: btw r a b := by
  unfold btw; rw [List.filter_cons, if_pos]; rw [decide_eq_true h1, decide_eq_true h2]; rfl
theorem btw_lo {x : S} {r : List S} {a b : Int} (h1 : ¬ a ≤ x.f0) : btw (x :: r) a b = btw r a b := by
  unfold btw; rw [List.filter_cons, if_neg]; rw [decide_eq_false h1]; simp
theorem btw_hi {x : S} {r : List S} {a b : Int} (h1 : ¬ x.f0 ≤ b) : btw (x :: r) a b = btw r a b := by
  unfold btw; rw [List.filter_cons, if_neg]; rw [decide_eq_false h1]; simp
theorem eta_S (x : S) : (⟨x.f0, x.f1⟩ : S) = x := rfl
end Go.Proofs.YthaegbiblblccaaGreatDoor.Smp
