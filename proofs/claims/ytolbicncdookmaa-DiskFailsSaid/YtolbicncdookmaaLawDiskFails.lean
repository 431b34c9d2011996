/- The row of the law DiskFails: whatever the input, it answers true, and each argument reads as it read. Conditions: none but those that each theorem names. Written by a program of this session (wip/xp). -/
import Derived.Test.YtolbicncdookmaaRows
import Derived.Test.YtolbicncdookmaaXDskx0
import Derived.Test.YtolbicncdookmaaPureDiskFails
import Derived.Test.YtolbicncdookmaaOpens
import Derived.WalkKit
import Derived.ProofKit
import Derived.OpenShut
import Derived.ShutString
import Derived.ChangeOld
import Derived.Below
import Derived.SizedLaws
namespace Go.Proofs.Ytolbicncdookmaa.diskFails
open Go.ChangeShapes Go.WideShapes Go.ChangeAt Go.RowKit Go.Proofs.YtolbicncdookmaaW.PrintWords Go.Proofs.Ytolbicncdookmaa.XDsk
open Go.ChangeMaps (open_string shut_string)
set_option linter.unusedVariables false
theorem own : ownKnob Try.prog.godebug = none := by kernel_rfl
theorem laidOut : laidOutB Try.prog = true := by kernel_rfl
theorem opensT44 : Opens.Opens Try.prog 44 k44 (fun y : S44 => ((Lit.int .i64 y.f0).wf = true ∧ (Lit.int .i64 y.f1).wf = true ∧ (Lit.int .i64 y.f2).wf = true ∧ (Lit.int .i64 y.f3).wf = true ∧ y.f4.size ≤ maxLen ∧ y.f5.size ≤ maxLen)) :=
  Opens.opens_struct (fun x : S44 => (x.f0, x.f1, x.f2, x.f3, x.f4, x.f5)) (fun p => (⟨p.1, p.2.1, p.2.2.1, p.2.2.2.1, p.2.2.2.2.1, p.2.2.2.2.2⟩ : S44)) (fun _ => rfl) Try.underlying44 (by kernel_rfl) (Opens.opens_field rfl (by kernel_rfl) (Opens.opens_int Try.underlying3) (Opens.opens_field rfl (by kernel_rfl) (Opens.opens_int Try.underlying3) (Opens.opens_field rfl (by kernel_rfl) (Opens.opens_int Try.underlying3) (Opens.opens_field rfl (by kernel_rfl) (Opens.opens_int Try.underlying3) (Opens.opens_field rfl (by kernel_rfl) (Opens.opens_string Try.underlying9) (Opens.opens_last rfl (by kernel_rfl) (Opens.opens_string Try.underlying9)))))))
set_option maxRecDepth 100000 in
theorem lifted (os : Os) (started : os.Started) (H : Type) (enc : TypeId × Value → H) :
    ReturnsInHanded {} Try.checked os 5 .any (Rows.diskFailsSpec.pre6 enc Try.prog Try.f5 Rows.diskFailsRow.domain false) (Rows.diskFailsSpec.post enc Try.prog Try.f5 false true false false) := by
  refine returnsInHanded_of_change_sized (C := Try.checked) own started (by kernel_rfl) Try.func5
    (ChangeSpec.witness6 (enc := enc) (C := Try.checked) false ⟨#[], #[.int .i64 0, .slice none 0 0, .int .i64 0], []⟩ 8 (by kernel_rfl) (by kernel_rfl) (by kernel_rfl) (by kernel_rfl)) ?_
  intro W base args ds gs before hval0 hW hcnd hsz0 _
  have hsz : (DataW.weightsEach Try.prog (Try.f5.params.toList ++ Rows.diskFailsSpec.plain.varTypes Try.prog) (ds ++ gs)).all (· ≤ reachBytes) = true := hsz0
  have hval : ∀ (j : Nat) t v, Try.f5.params[j]? = some t → args[j]? = some v → Value.okWide Try.prog W .any base t v := hval0
  have hW' := hW
  obtain ⟨p, q, hA0, hV, rfl, hfz, hnd⟩ := hW
  have hA : DataW.TrodAll enc Try.prog W 0 (fun _ => true) true Try.f5.params.toList args.toList ds p := hA0
  rw [Try.params5] at hA hval hsz
  obtain ⟨v0, vs0, d0, ds0, p0, q0, hargs, rfl, rfl, h0, r0⟩ := trodAll_cons hA
  obtain ⟨v1, vs1, d1, ds1, p1, q1, rfl, rfl, rfl, h1, r1⟩ := trodAll_cons r0
  obtain ⟨v2, vs2, d2, ds2, p2, q2, rfl, rfl, rfl, h2, r2⟩ := trodAll_cons r1
  obtain ⟨rfl, rfl, rfl⟩ := trodAll_nil r2
  obtain rfl : args = #[v0, v1, v2] := by cases args; simp_all
  obtain ⟨rfl, rfl⟩ := trodVars_none hV
  obtain ⟨a0, rfl, rfl, rfl, w0⟩ := open_int Try.underlying3 (hval 0 3 v0 rfl rfl) h0
  have lt1 : ∀ x ∈ p1, x.block < W.heap.size := by obtain ⟨m, hm⟩ := h1; exact DataW.trod_lt m _ _ _ hm
  obtain ⟨A1, c1, l1, rfl, hc1, hr1, hm1, hw1⟩ := Opens.arg_slice Try.underlying39 (Opens.opens_slice Try.underlying39 (by kernel_rfl) opensT44) (hval 1 39 v1 rfl rfl) h1
  have hy1 : l1.length * 64 ≤ 140737488351232 := Opens.sized_any hsz (j := 1) (t := 39) rfl rfl Try.underlying39 (by kernel_rfl) h1
  have hz1 : XDsk.actsWf l1 := XDsk.acts_sized hsz (j := 1) rfl rfl h1 hr1
  obtain ⟨a2, rfl, rfl, rfl, w2⟩ := open_int Try.underlying3 (hval 2 3 v2 rfl rfl) h2
  clear hA0 hval0 hsz0 hsz
  refine (XDsk.postroomlaw7_DiskFails.walk Pure.DiskFails a0 A1 c1 l1 a2 W hr1 hc1 w0 hm1 hy1 hw1 hz1 w2).mono fun e W' ⟨he, bel⟩ => ?_
  subst he
  exact ⟨_, rfl, _, _, _, [], _, [], hW', trodAll_mk1 (shut_bool Try.underlying4 _), (trodAll_cons_mk (shut_int Try.underlying3 w0) (trodAll_cons_mk (Below.trod laidOut (by kernel_rfl) (of_decide_eq_true (by kernel_rfl)) h1 bel lt1) (trodAll_cons_mk (shut_int Try.underlying3 w2) trodAll_mk0))), rfl, bel.frame _, fun h => by cases h⟩
theorem over : Rows.diskFailsRow.holds Try.pinned (OpenSpec.ofChange Rows.diskFailsSpec) :=
  OpenClaim.holds_of_wide 5 Try.f5 rfl rfl rfl rfl rfl rfl rfl ⟨rfl, rfl, rfl, rfl, rfl⟩ rfl rfl rfl rfl rfl (by kernel_rfl) Try.func5 (by kernel_rfl)
    (of_decide_eq_true (by kernel_rfl)) (by unfold Func.isWrapper; first | (rw [if_pos (by decide +kernel)]; kernel_rfl) | (rw [if_neg (by decide +kernel)]; exact ⟨rfl, rfl⟩))
    (fun os started H enc _ => lifted os started H enc)
theorem proved : Rows.DiskFailsSaid := over
#print axioms proved
end Go.Proofs.Ytolbicncdookmaa.diskFails
namespace Go.Proofs.Ytolbicncdookmaa
/-- The row, under a short name, for the claim. -/
theorem diskFails_holds : Rows.DiskFailsSaid := diskFails.proved
end Go.Proofs.Ytolbicncdookmaa
