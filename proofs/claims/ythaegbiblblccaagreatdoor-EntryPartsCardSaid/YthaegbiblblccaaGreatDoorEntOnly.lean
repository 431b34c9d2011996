/- Chapter 5: what of an entry is asked for. Conditions: those that each theorem names. -/
import Derived.Test.YthaegbiblblccaaGreatDoorEntGlue
import Derived.Test.YthaegbiblblccaaGreatDoorSmpBtw
import Derived.Test.YthaegbiblblccaaGreatDoorGLabelMatch
import Derived.Test.YthaegbiblblccaaGreatDoorXEntP1
import Derived.Test.YthaegbiblblccaaGreatDoorXEntP3
namespace Go.Proofs.YthaegbiblblccaaGreatDoor.Ent
open Go.RowKit Go.Proofs.YthaegbiblblccaaGreatDoorW.PrintWords Go.Proofs.YthaegbiblblccaaGreatDoorW.PrintLast Go.Proofs.YthaegbiblblccaaGreatDoorW.PrintMore Go.Proofs.YthaegbiblblccaaGreatDoor.Num Go.Proofs.YthaegbiblblccaaGreatDoor.XEnt
set_option linter.unusedVariables false
set_option linter.unusedSimpArgs false
theorem ecanon_f {l : List S52} (hg : Lbl.Good l) (m : List Sm) {k : Nat} (hk : 200 ≤ k) : postroomref5_Canon.f k l m = some (sortL l, m) := by
  unfold postroomref5_Canon.f
  rw [Lbl.rcanon_f l 20 (by omega) (good_size hg) (by omega), bsome, if_pos (Lbl.good_chk hg)]
def onlyE (l : List S52) (m : List Sm) (ms : List MM) (a b : Int) : List S52 × List Sm × Bool :=
  if chkE l m = 0 then (if ms.any (against l) = true then ([], [], false) else (if Smp.btw m a b = [] then ([], [], false) else (sortL l, Smp.btw m a b, true))) else ([], [], false)
theorem btw_le (m : List Sm) (a b : Int) : (Smp.btw m a b).length ≤ m.length := List.length_filter_le _ _
theorem only_f (l : List S52) (m : List Sm) (ms : List MM) (a b : Int) (hm : m.length ≤ 1000) {k : Nat} (hk : 1100 ≤ k) : entry_Only.f k l m ms a b = some (onlyE l m ms a b) := by
  obtain ⟨k, rfl⟩ : ∃ q, k = q + 1 := ⟨k - 1, by omega⟩
  unfold entry_Only.f onlyE
  rw [echeck_f l m (by omega), bsome]
  by_cases c : chkE l m = 0
  · rw [if_pos c, if_pos c]
    unfold label_Match.f
    rw [bsome]
    by_cases d : ms.any (against l) = true
    · rw [if_pos d, d, entry_Only.j0, if_pos (by decide)]
    · have d' : ms.any (against l) = false := Bool.eq_false_iff.2 d
      rw [if_neg d, d', entry_Only.j0, if_neg (by decide), Smp.between_f (by omega) (by omega), bsome]
      by_cases e : Smp.btw m a b = []
      · rw [if_pos e, if_pos (by rw [e]; rfl)]
      · have hne : (Smp.btw m a b).length ≠ 0 := fun h => e (List.eq_nil_of_length_eq_zero h)
        rw [if_neg e, if_neg (by omega), Lbl.canon_good (chkE_zero.1 c).1 (by omega), bsome]
  · rw [if_neg c, if_neg c, entry_Only.j0, if_pos rfl]
end Go.Proofs.YthaegbiblblccaaGreatDoor.Ent
