/- The row of the law SampleWide: whatever the input, it answers true, and each argument reads as it read. Conditions: none but those that each theorem names. Written by a program of this session (wip/xp). -/
import Derived.Test.YtncaikmdcbaeeaaRows
import Derived.Test.YtncaikmdcbaeeaaXSmpx8
import Derived.Test.YtncaikmdcbaeeaaPureSampleWide
import Derived.Test.YtncaikmdcbaeeaaOpens
import Derived.WalkKit
import Derived.ProofKit
import Derived.OpenShut
import Derived.ShutString
import Derived.ChangeOld
import Derived.Below
import Derived.SizedLaws
namespace Go.Proofs.Ytncaikmdcbaeeaa.sampleWide
open Go.ChangeShapes Go.WideShapes Go.ChangeAt Go.RowKit Go.Proofs.YtncaikmdcbaeeaaW.PrintWords Go.Proofs.Ytncaikmdcbaeeaa.XSmp
open Go.ChangeMaps (open_string shut_string)
set_option linter.unusedVariables false
theorem own : ownKnob Try.prog.godebug = none := by kernel_rfl
theorem laidOut : laidOutB Try.prog = true := by kernel_rfl
set_option maxRecDepth 100000 in
theorem lifted (os : Os) (started : os.Started) (H : Type) (enc : TypeId × Value → H) :
    ReturnsInHanded {} Try.checked os 7 .any (Rows.sampleWideSpec.pre6 enc Try.prog Try.f7 Rows.sampleWideRow.domain false) (Rows.sampleWideSpec.post enc Try.prog Try.f7 false true false false) := by
  refine returnsInHanded_of_change_sized (C := Try.checked) own started (by kernel_rfl) Try.func7
    (ChangeSpec.witness6 (enc := enc) (C := Try.checked) false ⟨#[], #[.slice none 0 0, .slice none 0 0], []⟩ 8 (by kernel_rfl) (by kernel_rfl) (by kernel_rfl) (by kernel_rfl)) ?_
  intro W base args ds gs before hval0 hW hcnd hsz0 _
  have hsz : (DataW.weightsEach Try.prog (Try.f7.params.toList ++ Rows.sampleWideSpec.plain.varTypes Try.prog) (ds ++ gs)).all (· ≤ reachBytes) = true := hsz0
  have hval : ∀ (j : Nat) t v, Try.f7.params[j]? = some t → args[j]? = some v → Value.okWide Try.prog W .any base t v := hval0
  have hW' := hW
  obtain ⟨p, q, hA0, hV, rfl, hfz, hnd⟩ := hW
  have hA : DataW.TrodAll enc Try.prog W 0 (fun _ => true) true Try.f7.params.toList args.toList ds p := hA0
  rw [Try.params7] at hA hval hsz
  obtain ⟨v0, vs0, d0, ds0, p0, q0, hargs, rfl, rfl, h0, r0⟩ := trodAll_cons hA
  obtain ⟨v1, vs1, d1, ds1, p1, q1, rfl, rfl, rfl, h1, r1⟩ := trodAll_cons r0
  obtain ⟨rfl, rfl, rfl⟩ := trodAll_nil r1
  obtain rfl : args = #[v0, v1] := by cases args; simp_all
  obtain ⟨rfl, rfl⟩ := trodVars_none hV
  have lt0 : ∀ x ∈ p0, x.block < W.heap.size := by obtain ⟨m, hm⟩ := h0; exact DataW.trod_lt m _ _ _ hm
  obtain ⟨A0, c0, l0, rfl, hc0, hr0, hm0, hw0⟩ := Opens.arg_slice Try.underlying44 (Opens.opens_slice Try.underlying44 (by kernel_rfl) (Opens.opens_int Try.underlying22)) (hval 0 44 v0 rfl rfl) h0
  have hy0 : l0.length * 8 ≤ 140737488351232 := Opens.sized_any hsz (j := 0) (t := 44) rfl rfl Try.underlying44 (by kernel_rfl) h0
  have lt1 : ∀ x ∈ p1, x.block < W.heap.size := by obtain ⟨m, hm⟩ := h1; exact DataW.trod_lt m _ _ _ hm
  obtain ⟨A1, c1, l1, rfl, hc1, hr1, hm1, hw1⟩ := Opens.arg_slice Try.underlying40 (Opens.opens_slice Try.underlying40 (by kernel_rfl) (Opens.opens_int Try.underlying2)) (hval 1 40 v1 rfl rfl) h1
  have hy1 : l1.length * 8 ≤ 140737488351232 := Opens.sized_any hsz (j := 1) (t := 40) rfl rfl Try.underlying40 (by kernel_rfl) h1
  clear hA0 hval0 hsz0 hsz
  refine (XSmp.postroomlaw4_SampleWide.walk Pure.SampleWide A0 c0 l0 A1 c1 l1 W hr0 hc0 hr1 hc1 hm0 hy0 hw0 hm1 hy1 hw1).mono fun e W' ⟨he, bel⟩ => ?_
  subst he
  exact ⟨_, rfl, _, _, _, [], _, [], hW', trodAll_mk1 (shut_bool Try.underlying4 _), (trodAll_cons_mk (Below.trod laidOut (by kernel_rfl) (of_decide_eq_true (by kernel_rfl)) h0 bel lt0) (trodAll_cons_mk (Below.trod laidOut (by kernel_rfl) (of_decide_eq_true (by kernel_rfl)) h1 bel lt1) trodAll_mk0)), rfl, bel.frame _, fun h => by cases h⟩
theorem over : Rows.sampleWideRow.holds Try.pinned (OpenSpec.ofChange Rows.sampleWideSpec) :=
  OpenClaim.holds_of_wide 7 Try.f7 rfl rfl rfl rfl rfl rfl rfl ⟨rfl, rfl, rfl, rfl, rfl⟩ rfl rfl rfl rfl rfl (by kernel_rfl) Try.func7 (by kernel_rfl)
    (of_decide_eq_true (by kernel_rfl)) (by unfold Func.isWrapper; first | (rw [if_pos (by decide +kernel)]; kernel_rfl) | (rw [if_neg (by decide +kernel)]; exact ⟨rfl, rfl⟩))
    (fun os started H enc _ => lifted os started H enc)
theorem proved : Rows.SampleWideSaid := over
#print axioms proved
end Go.Proofs.Ytncaikmdcbaeeaa.sampleWide
namespace Go.Proofs.Ytncaikmdcbaeeaa
/-- The row, under a short name, for the claim. -/
theorem sampleWide_holds : Rows.SampleWideSaid := sampleWide.proved
end Go.Proofs.Ytncaikmdcbaeeaa
