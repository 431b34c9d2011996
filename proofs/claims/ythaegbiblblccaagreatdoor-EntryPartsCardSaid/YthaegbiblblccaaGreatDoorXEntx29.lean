/- What the functions of the translation answer, each as a plain Lean function, and that the code comes to it; for a law: its row. Conditions: none but those that each theorem names. Written by a program of this session (wip/xp). -/
import Derived.Test.YthaegbiblblccaaGreatDoorXEntPtA
import Derived.Test.YthaegbiblblccaaGreatDoorXEntPtB
namespace Go.Proofs.YthaegbiblblccaaGreatDoor.XEnt
open Go.RowKit Go.Proofs.YthaegbiblblccaaGreatDoorW.PrintWords Go.Proofs.YthaegbiblblccaaGreatDoorW.PrintLast Go.Proofs.YthaegbiblblccaaGreatDoorW.PrintMore
attribute [local go_sem] max2_int min2_int max_two min_two max_three min_three max_four min_four   -- for this text's walks alone

set_option linter.unusedVariables false
set_option linter.unusedSimpArgs false

/-- THE ONE PURE STATEMENT of postroomlaw5_EntryParts. -/
def postroomlaw5_EntryParts.Pure : Prop := ∀ (l0 : List Int) (a1 : Int) (l2 : List Int) (a3 : Int), l0.length ≤ maxLen → l0.length * 8 ≤ 140737488351232 → (∀ x ∈ l0, (Lit.int .i64 x).wf = true) → (Lit.int .u64 a1).wf = true → l2.length ≤ maxLen → l2.length * 8 ≤ 140737488351232 → (∀ x ∈ l2, (Lit.int .i64 x).wf = true) → (Lit.int .u64 a3).wf = true → ∃ k, postroomlaw5_EntryPartsA.f k l0 a1 l2 a3 = some true ∨ postroomlaw5_EntryPartsB.f k l0 a1 l2 a3 = some true
theorem postroomlaw5_EntryParts.walk (P : postroomlaw5_EntryParts.Pure) (A0 : Option Addr) (c0 : Nat) (l0 : List Int) (a1 : Int) (A2 : Option Addr) (c2 : Nat) (l2 : List Int) (a3 : Int) (w : World) (hr0 : Kd.C (Kd.int .i64) w A0 l0.length l0) (hc0 : l0.length ≤ c0) (hr2 : Kd.C (Kd.int .i64) w A2 l2.length l2) (hc2 : l2.length ≤ c2) (hm0 : l0.length ≤ maxLen) (hy0 : l0.length * 8 ≤ 140737488351232) (hw0 : (∀ x ∈ l0, (Lit.int .i64 x).wf = true)) (hw1 : (Lit.int .u64 a1).wf = true) (hm2 : l2.length ≤ maxLen) (hy2 : l2.length * 8 ≤ 140737488351232) (hw2 : (∀ x ∈ l2, (Lit.int .i64 x).wf = true)) (hw3 : (Lit.int .u64 a3).wf = true) :
    Calls Tryz.prog 5 #[.slice A0 l0.length c0, .int .u64 a1, .slice A2 l2.length c2, .int .u64 a3] w fun e w' => e = .returned (.bool true) ∧ Below w.heap.size w w' := by
  obtain ⟨k, h | h⟩ := P l0 a1 l2 a3 hm0 hy0 hw0 hw1 hm2 hy2 hw2 hw3
  · refine (postroomlaw5_EntryPartsA.calls k A0 c0 l0 a1 A2 c2 l2 a3 true w hr0 hc0 hr2 hc2 ⟨rfl⟩ h).mono ?_
    rintro e w' ⟨rfl, hd⟩
    exact ⟨rfl, hd⟩
  · refine (postroomlaw5_EntryPartsB.calls k A0 c0 l0 a1 A2 c2 l2 a3 true w hr0 hc0 hr2 hc2 ⟨rfl⟩ h).mono ?_
    rintro e w' ⟨rfl, hd⟩
    exact ⟨rfl, hd⟩

end Go.Proofs.YthaegbiblblccaaGreatDoor.XEnt
