/- The row of the law EntryOnly: whatever the input, it answers true, and each argument reads as it read. Conditions: none but those that each theorem names. Written by a program of this session (wip/xp). -/
import Derived.Test.YthaegbiblblccaaGreatDoorRows
import Derived.Test.YthaegbiblblccaaGreatDoorXEntP4
import Derived.Test.YthaegbiblblccaaGreatDoorPureEntryOnly
import Derived.Test.YthaegbiblblccaaGreatDoorOwnA
import Derived.WalkKit
import Derived.ProofKit
import Derived.OpenShut
import Derived.ShutString
import Derived.ChangeOld
import Derived.Below
import Derived.SizedLaws
import Derived.LaidMore
import Derived.Stop.Joined
import Derived.Lib.LaidTab
import Derived.SevenTiedAt
import Derived.Lay
import Derived.Test.YthaegbiblblccaaGreatDoorTie
import Derived.Test.YthaegbiblblccaaGreatDoorCards
namespace Go.Proofs.YthaegbiblblccaaGreatDoor.entryOnly
open Go.ChangeShapes Go.WideShapes Go.ChangeAt Go.RowKit Go.Proofs.YthaegbiblblccaaGreatDoorW.PrintWords Go.Proofs.YthaegbiblblccaaGreatDoor.XEnt
open Go.ChangeMaps (open_string shut_string)
set_option linter.unusedVariables false
theorem own : ownKnob Tryz.prog.godebug = none := by kernel_rfl
theorem laidOut : laidOutB Tryz.prog = true := by kernel_rfl
theorem opensT52 : Opens.Opens Tryz.prog 52 k52 (fun y : S52 => (y.f0.size ≤ maxLen ∧ y.f1.size ≤ maxLen)) :=
  Opens.opens_struct (fun x : S52 => (x.f0, x.f1)) (fun p => (⟨p.1, p.2⟩ : S52)) (fun _ => rfl) Tryz.underlying52 (by kernel_rfl) (Opens.opens_field rfl (by kernel_rfl) (Opens.opens_string Tryz.underlying9) (Opens.opens_last rfl (by kernel_rfl) (Opens.opens_string Tryz.underlying9)))
theorem opensT54 : Opens.Opens Tryz.prog 54 k54 (fun y : S54 => ((Lit.int .u64 y.f0).wf = true ∧ (Lit.int .i64 y.f1).wf = true)) :=
  Opens.opens_struct (fun x : S54 => (x.f0, x.f1)) (fun p => (⟨p.1, p.2⟩ : S54)) (fun _ => rfl) Tryz.underlying54 (by kernel_rfl) (Opens.opens_field rfl (by kernel_rfl) (Opens.opens_int Tryz.underlying38) (Opens.opens_last rfl (by kernel_rfl) (Opens.opens_int Tryz.underlying2)))
theorem opensT25 : Opens.Opens Tryz.prog 25 k25 (fun y : S25 => ((y.f0.length ≤ maxLen ∧ ∀ z473 ∈ y.f0, (z473.f0.size ≤ maxLen ∧ z473.f1.size ≤ maxLen)) ∧ (y.f1.length ≤ maxLen ∧ ∀ z474 ∈ y.f1, ((Lit.int .u64 z474.f0).wf = true ∧ (Lit.int .i64 z474.f1).wf = true)))) :=
  Opens.opens_struct (fun x : S25 => (x.f0, x.f1)) (fun p => (⟨p.1, p.2⟩ : S25)) (fun _ => rfl) Tryz.underlying25 (by kernel_rfl) (Opens.opens_field rfl (by kernel_rfl) (Opens.opens_slice Tryz.underlying22 (by kernel_rfl) opensT52) (Opens.opens_last rfl (by kernel_rfl) (Opens.opens_slice Tryz.underlying23 (by kernel_rfl) opensT54)))
theorem opensT43 : Opens.Opens Tryz.prog 43 k43 (fun y : S43 => (y.f0.size ≤ maxLen ∧ y.f1.size ≤ maxLen ∧ True)) :=
  Opens.opens_struct (fun x : S43 => (x.f0, x.f1, x.f2)) (fun p => (⟨p.1, p.2.1, p.2.2⟩ : S43)) (fun _ => rfl) Tryz.underlying43 (by kernel_rfl) (Opens.opens_field rfl (by kernel_rfl) (Opens.opens_string Tryz.underlying9) (Opens.opens_field rfl (by kernel_rfl) (Opens.opens_string Tryz.underlying9) (Opens.opens_last rfl (by kernel_rfl) (Opens.opens_bool Tryz.underlying4))))
theorem door_met (os : Os) (args : Array Value) : laidMetH Tryz.prog [("unicode/utf8.acceptRanges", Rows.laid_unicode_utf8_acceptRanges), ("unicode/utf8.first", Rows.laid_unicode_utf8_first)] ((World.laidAll Tryz.prog os [("unicode/utf8.acceptRanges", Rows.laid_unicode_utf8_acceptRanges), ("unicode/utf8.first", Rows.laid_unicode_utf8_first)]).forCall (fun _ _ => 0) ⟨#[], args, []⟩).memory := by
  rw [MakeChecks.laidMetH_plain _ _ _ (by kernel_rfl)]; exact laidMet_laidAll _ (by kernel_rfl) (by kernel_rfl)
set_option maxRecDepth 100000 in
theorem lifted (os : Os) (started : os.Started) (H : Type) (enc : TypeId × Value → H) :
    ReturnsInHanded {} Tryz.checked os 4 .any (fun w args => (Rows.entryOnlySpec.pre enc Tryz.prog Tryz.f4 [] false w args ∧ laidMetH Tryz.prog [("unicode/utf8.acceptRanges", Rows.laid_unicode_utf8_acceptRanges), ("unicode/utf8.first", Rows.laid_unicode_utf8_first)] w) ∧ sizedMet enc Tryz.prog Tryz.f4 (OpenSpec.ofChange Rows.entryOnlySpec) false w args)
      (Rows.entryOnlySpec.post enc Tryz.prog Tryz.f4 false true false false) := by
  refine returnsInHanded_of_change_and (C := Tryz.checked) (X := fun w _ => laidMetH Tryz.prog [("unicode/utf8.acceptRanges", Rows.laid_unicode_utf8_acceptRanges), ("unicode/utf8.first", Rows.laid_unicode_utf8_first)] w) (fun _ _ _ hh h => h.of_heap hh) own started (by kernel_rfl) Tryz.func4
    (ChangeSpec.witness_shaped (enc := enc) (C := Tryz.checked) (os := os) (X := fun w _ => laidMetH Tryz.prog [("unicode/utf8.acceptRanges", Rows.laid_unicode_utf8_acceptRanges), ("unicode/utf8.first", Rows.laid_unicode_utf8_first)] w) false (World.laidAll Tryz.prog os [("unicode/utf8.acceptRanges", Rows.laid_unicode_utf8_acceptRanges), ("unicode/utf8.first", Rows.laid_unicode_utf8_first)]) #[.agg #[.slice none 0 0, .slice none 0 0], .slice none 0 0, .int .u64 0, .int .u64 0] 8 (World.laidAll_os _ _ _) (World.shaped_of_ZipB (by kernel_rfl) (by kernel_rfl)) (by kernel_rfl) (by kernel_rfl) (by kernel_rfl) (door_met os _)) ?_
  intro W base args ds gs before hval0 hW _ hsz0 hL0 _
  have hsz : (DataW.weightsEach Tryz.prog (Tryz.f4.params.toList ++ Rows.entryOnlySpec.plain.varTypes Tryz.prog) (ds ++ gs)).all (· ≤ reachBytes) = true := hsz0
  have hval : ∀ (j : Nat) t v, Tryz.f4.params[j]? = some t → args[j]? = some v → Value.okWide Tryz.prog W .any base t v := hval0
  have hW' := hW
  obtain ⟨p, q, hA0, hV, rfl, hfz, hnd⟩ := hW
  have hA : DataW.TrodAll enc Tryz.prog W 0 (fun _ => true) true Tryz.f4.params.toList args.toList ds p := hA0
  rw [Tryz.params4] at hA hval hsz
  obtain ⟨v0, vs0, d0, ds0, p0, q0, hargs, rfl, rfl, h0, r0⟩ := trodAll_cons hA
  obtain ⟨v1, vs1, d1, ds1, p1, q1, rfl, rfl, rfl, h1, r1⟩ := trodAll_cons r0
  obtain ⟨v2, vs2, d2, ds2, p2, q2, rfl, rfl, rfl, h2, r2⟩ := trodAll_cons r1
  obtain ⟨v3, vs3, d3, ds3, p3, q3, rfl, rfl, rfl, h3, r3⟩ := trodAll_cons r2
  obtain ⟨rfl, rfl, rfl⟩ := trodAll_nil r3
  obtain rfl : args = #[v0, v1, v2, v3] := by cases args; simp_all
  obtain ⟨rfl, rfl⟩ := trodVars_none hV
  have lt0 : ∀ x ∈ p0, x.block < W.heap.size := by obtain ⟨m, hm⟩ := h0; exact DataW.trod_lt m _ _ _ hm
  obtain ⟨cs0, y0, rfl, hK0, hw0⟩ := Opens.arg_struct Tryz.underlying25 opensT25 (hval 0 25 v0 rfl rfl) h0
  obtain ⟨A0_0, c0_0, A0_1, c0_1, rfl, l0_0, g0_0, l0_1, g0_1⟩ := k25_open hK0
  have lt1 : ∀ x ∈ p1, x.block < W.heap.size := by obtain ⟨m, hm⟩ := h1; exact DataW.trod_lt m _ _ _ hm
  obtain ⟨A1, c1, l1, rfl, hc1, hr1, hm1, hw1⟩ := Opens.arg_slice Tryz.underlying37 (Opens.opens_slice Tryz.underlying37 (by kernel_rfl) opensT43) (hval 1 37 v1 rfl rfl) h1
  have hy1 : l1.length * 40 ≤ 140737488351232 := Opens.sized_any hsz (j := 1) (t := 37) rfl rfl Tryz.underlying37 (by kernel_rfl) h1
  obtain ⟨a2, rfl, rfl, rfl, w2⟩ := open_int Tryz.underlying38 (hval 2 38 v2 rfl rfl) h2
  obtain ⟨a3, rfl, rfl, rfl, w3⟩ := open_int Tryz.underlying38 (hval 3 38 v3 rfl rfl) h3
  clear hA0 hval0 hsz0 hsz
  refine (XEnt.postroomlaw5_EntryOnly.walk Pure.EntryOnly A0_0 c0_0 y0.f0 A0_1 c0_1 y0.f1 A1 c1 l1 a2 a3 W g0_0 l0_0 g0_1 l0_1 hr1 hc1 hw0.1.1 hw0.1.2 hw0.2.1 hw0.2.2 hm1 hy1 hw1 w2 w3).mono fun e W' ⟨he, bel⟩ => ?_
  subst he
  exact ⟨_, rfl, _, _, _, [], _, [], hW', trodAll_mk1 (shut_bool Tryz.underlying4 _), (trodAll_cons_mk (Below.trod laidOut (by kernel_rfl) (of_decide_eq_true (by kernel_rfl)) h0 bel lt0) (trodAll_cons_mk (Below.trod laidOut (by kernel_rfl) (of_decide_eq_true (by kernel_rfl)) h1 bel lt1) (trodAll_cons_mk (shut_int Tryz.underlying38 w2) (trodAll_cons_mk (shut_int Tryz.underlying38 w3) trodAll_mk0)))), rfl, bel.frame _, fun h => by cases h⟩
theorem over : Rows.entryOnlyRow.holds Tryz.pinned (OpenSpec.ofChange Rows.entryOnlySpec) :=
  OpenClaim.holds_of_wide 4 Tryz.f4 rfl rfl rfl rfl rfl rfl rfl ⟨rfl, rfl, rfl, rfl, rfl⟩ rfl rfl rfl rfl rfl (by kernel_rfl) Tryz.func4 (by kernel_rfl)
    (of_decide_eq_true (by kernel_rfl)) (by unfold Func.isWrapper; first | (rw [if_pos (by decide +kernel)]; kernel_rfl) | (rw [if_neg (by decide +kernel)]; exact ⟨rfl, rfl⟩))
    (fun os started H enc _ => lifted os started H enc)
theorem proved : Rows.EntryOnlyCardSaid :=
  Claim7.holds_tied_plain_at .later [] [.data, .pinned] true Rows.entryOnlyCard.stood.harness false over (fun _ h => by cases h) (by kernel_rfl) (fun _ h => by cases h) entryOnly_row_tie rfl ⟨rfl, rfl⟩ (by kernel_rfl) rfl
    (fun f fn hf hfn => by
      obtain rfl : f = 4 := Option.some.inj ((show Tryz.prog.funcNamed Rows.entryOnlyRow.func = some 4 by kernel_rfl).symm.trans hf) |>.symm
      obtain rfl : fn = Tryz.f4 := (Option.some.inj (Tryz.func4.symm.trans hfn)).symm
      exact ⟨by kernel_rfl, fun j t ht => by
        rw [Tryz.params4] at ht
        have hm : t ∈ [25, 37, 38, 38] := by simpa using Array.mem_of_getElem? ht
        have hall : ([25, 37, 38, 38].all fun u => !Tryz.prog.wantsStandIn u) = true := by kernel_rfl
        exact (show Tryz.prog.wantsStandIn t = false by simpa using List.all_eq_true.1 hall t hm)⟩)
    (by kernel_rfl)
#print axioms proved
end Go.Proofs.YthaegbiblblccaaGreatDoor.entryOnly
namespace Go.Proofs.YthaegbiblblccaaGreatDoor
/-- The row, under a short name, for the claim. -/
theorem entryOnly_holds : Rows.EntryOnlyCardSaid := entryOnly.proved
end Go.Proofs.YthaegbiblblccaaGreatDoor
