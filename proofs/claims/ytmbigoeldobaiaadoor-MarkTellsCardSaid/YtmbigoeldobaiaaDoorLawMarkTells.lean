/- The row of the law MarkTells: whatever the input, it answers true, and each argument reads as it read. Conditions: none but those that each theorem names. Written by a program of this session (wip/xp). -/
import Derived.Test.YtmbigoeldobaiaaDoorRows
import Derived.Test.YtmbigoeldobaiaaDoorXMrkP5
import Derived.Test.YtmbigoeldobaiaaDoorPureMarkTells
import Derived.Test.YtmbigoeldobaiaaDoorOpens
import Derived.WalkKit
import Derived.ProofKit
import Derived.OpenShut
import Derived.ShutString
import Derived.ChangeOld
import Derived.Below
import Derived.SizedLaws
import Derived.LaidMore
import Derived.Stop.Joined
import Derived.Lib.LaidTab
import Derived.SevenTiedAt
import Derived.Lay
import Derived.Test.YtmbigoeldobaiaaDoorTie
import Derived.Test.YtmbigoeldobaiaaDoorCards
namespace Go.Proofs.YtmbigoeldobaiaaDoor.markTells
open Go.ChangeShapes Go.WideShapes Go.ChangeAt Go.RowKit Go.Proofs.YtmbigoeldobaiaaDoorW.PrintWords Go.Proofs.YtmbigoeldobaiaaDoor.XMrk
open Go.ChangeMaps (open_string shut_string)
set_option linter.unusedVariables false
theorem own : ownKnob Tryd.prog.godebug = none := by kernel_rfl
theorem laidOut : laidOutB Tryd.prog = true := by kernel_rfl
structure S25 where
  f0 : Int
  f1 : Int
  f2 : List S55
def k25 : Kd S25 := Kd.iso (Kd.pair (Kd.int .u64) (Kd.pair (Kd.int .u64) (Kd.slice 55 k55))) (fun x : S25 => (x.f0, x.f1, x.f2))
theorem k25_open {w : World} {x : S25} {cs : List Value} (h : k25.K w x cs) : ∃ A2 c2, cs = [Value.int .u64 x.f0, Value.int .u64 x.f1, Value.slice A2 x.f2.length c2] ∧ x.f2.length ≤ c2 ∧ k55.C w A2 x.f2.length x.f2 := by
  obtain ⟨_, _, rfl, rfl, ⟨_, _, rfl, rfl, ⟨A2, c2, rfl, l2, g2⟩⟩⟩ := h
  exact ⟨A2, c2, rfl, l2, g2⟩
theorem opensT55 : Opens.Opens Tryd.prog 55 k55 (fun y : S55 => (y.f0.size ≤ maxLen ∧ (Lit.int .u64 y.f1).wf = true ∧ (Lit.int .u64 y.f2).wf = true ∧ (y.f3.length ≤ maxLen ∧ ∀ z373 ∈ y.f3, (Lit.int .u64 z373).wf = true) ∧ (Lit.int .u64 y.f4).wf = true ∧ (Lit.int .u64 y.f5).wf = true ∧ (Lit.int .u64 y.f6).wf = true)) :=
  Opens.opens_struct (fun x : S55 => (x.f0, x.f1, x.f2, x.f3, x.f4, x.f5, x.f6)) (fun p => (⟨p.1, p.2.1, p.2.2.1, p.2.2.2.1, p.2.2.2.2.1, p.2.2.2.2.2.1, p.2.2.2.2.2.2⟩ : S55)) (fun _ => rfl) Tryd.underlying55 (by kernel_rfl) (Opens.opens_field rfl (by kernel_rfl) (Opens.opens_string Tryd.underlying9) (Opens.opens_field rfl (by kernel_rfl) (Opens.opens_int Tryd.underlying22) (Opens.opens_field rfl (by kernel_rfl) (Opens.opens_int Tryd.underlying22) (Opens.opens_field rfl (by kernel_rfl) (Opens.opens_slice Tryd.underlying53 (by kernel_rfl) (Opens.opens_int Tryd.underlying22)) (Opens.opens_field rfl (by kernel_rfl) (Opens.opens_int Tryd.underlying22) (Opens.opens_field rfl (by kernel_rfl) (Opens.opens_int Tryd.underlying22) (Opens.opens_last rfl (by kernel_rfl) (Opens.opens_int Tryd.underlying22))))))))
theorem opensT25 : Opens.Opens Tryd.prog 25 k25 (fun y : S25 => ((Lit.int .u64 y.f0).wf = true ∧ (Lit.int .u64 y.f1).wf = true ∧ (y.f2.length ≤ maxLen ∧ ∀ z374 ∈ y.f2, (z374.f0.size ≤ maxLen ∧ (Lit.int .u64 z374.f1).wf = true ∧ (Lit.int .u64 z374.f2).wf = true ∧ (z374.f3.length ≤ maxLen ∧ ∀ z375 ∈ z374.f3, (Lit.int .u64 z375).wf = true) ∧ (Lit.int .u64 z374.f4).wf = true ∧ (Lit.int .u64 z374.f5).wf = true ∧ (Lit.int .u64 z374.f6).wf = true)))) :=
  Opens.opens_struct (fun x : S25 => (x.f0, x.f1, x.f2)) (fun p => (⟨p.1, p.2.1, p.2.2⟩ : S25)) (fun _ => rfl) Tryd.underlying25 (by kernel_rfl) (Opens.opens_field rfl (by kernel_rfl) (Opens.opens_int Tryd.underlying22) (Opens.opens_field rfl (by kernel_rfl) (Opens.opens_int Tryd.underlying22) (Opens.opens_last rfl (by kernel_rfl) (Opens.opens_slice Tryd.underlying23 (by kernel_rfl) opensT55))))
theorem door_met (os : Os) (args : Array Value) : laidMetH Tryd.prog [("unicode/utf8.acceptRanges", Rows.laid_unicode_utf8_acceptRanges), ("unicode/utf8.first", Rows.laid_unicode_utf8_first)] ((World.laidAll Tryd.prog os [("unicode/utf8.acceptRanges", Rows.laid_unicode_utf8_acceptRanges), ("unicode/utf8.first", Rows.laid_unicode_utf8_first)]).forCall (fun _ _ => 0) ⟨#[], args, []⟩).memory := by
  rw [MakeChecks.laidMetH_plain _ _ _ (by kernel_rfl)]; exact laidMet_laidAll _ (by kernel_rfl) (by kernel_rfl)
set_option maxRecDepth 100000 in
theorem lifted (os : Os) (started : os.Started) (H : Type) (enc : TypeId × Value → H) :
    ReturnsInHanded {} Tryd.checked os 3 .any (fun w args => (Rows.markTellsSpec.pre enc Tryd.prog Tryd.f3 [] false w args ∧ laidMetH Tryd.prog [("unicode/utf8.acceptRanges", Rows.laid_unicode_utf8_acceptRanges), ("unicode/utf8.first", Rows.laid_unicode_utf8_first)] w) ∧ sizedMet enc Tryd.prog Tryd.f3 (OpenSpec.ofChange Rows.markTellsSpec) false w args)
      (Rows.markTellsSpec.post enc Tryd.prog Tryd.f3 false true false false) := by
  refine returnsInHanded_of_change_and (C := Tryd.checked) (X := fun w _ => laidMetH Tryd.prog [("unicode/utf8.acceptRanges", Rows.laid_unicode_utf8_acceptRanges), ("unicode/utf8.first", Rows.laid_unicode_utf8_first)] w) (fun _ _ _ hh h => h.of_heap hh) own started (by kernel_rfl) Tryd.func3
    (ChangeSpec.witness_shaped (enc := enc) (C := Tryd.checked) (os := os) (X := fun w _ => laidMetH Tryd.prog [("unicode/utf8.acceptRanges", Rows.laid_unicode_utf8_acceptRanges), ("unicode/utf8.first", Rows.laid_unicode_utf8_first)] w) false (World.laidAll Tryd.prog os [("unicode/utf8.acceptRanges", Rows.laid_unicode_utf8_acceptRanges), ("unicode/utf8.first", Rows.laid_unicode_utf8_first)]) #[.agg #[.int .u64 0, .int .u64 0, .slice none 0 0], .string ByteArray.empty] 8 (World.laidAll_os _ _ _) (World.shaped_of_ZipB (by kernel_rfl) (by kernel_rfl)) (by kernel_rfl) (by kernel_rfl) (by kernel_rfl) (door_met os _)) ?_
  intro W base args ds gs before hval0 hW _ hsz0 hL0 _
  have hsz : (DataW.weightsEach Tryd.prog (Tryd.f3.params.toList ++ Rows.markTellsSpec.plain.varTypes Tryd.prog) (ds ++ gs)).all (· ≤ reachBytes) = true := hsz0
  have hval : ∀ (j : Nat) t v, Tryd.f3.params[j]? = some t → args[j]? = some v → Value.okWide Tryd.prog W .any base t v := hval0
  have hW' := hW
  obtain ⟨p, q, hA0, hV, rfl, hfz, hnd⟩ := hW
  have hA : DataW.TrodAll enc Tryd.prog W 0 (fun _ => true) true Tryd.f3.params.toList args.toList ds p := hA0
  rw [Tryd.params3] at hA hval hsz
  obtain ⟨v0, vs0, d0, ds0, p0, q0, hargs, rfl, rfl, h0, r0⟩ := trodAll_cons hA
  obtain ⟨v1, vs1, d1, ds1, p1, q1, rfl, rfl, rfl, h1, r1⟩ := trodAll_cons r0
  obtain ⟨rfl, rfl, rfl⟩ := trodAll_nil r1
  obtain rfl : args = #[v0, v1] := by cases args; simp_all
  obtain ⟨rfl, rfl⟩ := trodVars_none hV
  have lt0 : ∀ x ∈ p0, x.block < W.heap.size := by obtain ⟨m, hm⟩ := h0; exact DataW.trod_lt m _ _ _ hm
  obtain ⟨cs0, y0, rfl, hK0, hw0⟩ := Opens.arg_struct Tryd.underlying25 opensT25 (hval 0 25 v0 rfl rfl) h0
  obtain ⟨A0_2, c0_2, rfl, l0_2, g0_2⟩ := k25_open hK0
  obtain ⟨a1, rfl, rfl, rfl, y1⟩ := open_string Tryd.underlying9 (hval 1 9 v1 rfl rfl) h1
  have w1 : a1.size ≤ 140737488351232 := by
    have z := sized_string hsz (j := 1) (t := 9) rfl rfl
    rw [Array.length_toList] at z
    exact z
  clear hA0 hval0 hsz0 hsz
  refine (XMrk.postroomlaw11_MarkTells.walk Pure.MarkTells y0.f0 y0.f1 A0_2 c0_2 y0.f2 a1 W g0_2 l0_2 hw0.1 hw0.2.1 hw0.2.2.1 hw0.2.2.2 w1).mono fun e W' ⟨he, bel⟩ => ?_
  subst he
  exact ⟨_, rfl, _, _, _, [], _, [], hW', trodAll_mk1 (shut_bool Tryd.underlying4 _), (trodAll_cons_mk (Below.trod laidOut (by kernel_rfl) (of_decide_eq_true (by kernel_rfl)) h0 bel lt0) (trodAll_cons_mk (shut_string Tryd.underlying9 y1) trodAll_mk0)), rfl, bel.frame _, fun h => by cases h⟩
theorem over : Rows.markTellsRow.holds Tryd.pinned (OpenSpec.ofChange Rows.markTellsSpec) :=
  OpenClaim.holds_of_wide 3 Tryd.f3 rfl rfl rfl rfl rfl rfl rfl ⟨rfl, rfl, rfl, rfl, rfl⟩ rfl rfl rfl rfl rfl (by kernel_rfl) Tryd.func3 (by kernel_rfl)
    (of_decide_eq_true (by kernel_rfl)) (by unfold Func.isWrapper; first | (rw [if_pos (by decide +kernel)]; kernel_rfl) | (rw [if_neg (by decide +kernel)]; exact ⟨rfl, rfl⟩))
    (fun os started H enc _ => lifted os started H enc)
theorem proved : Rows.MarkTellsCardSaid :=
  Claim7.holds_tied_plain_at .later [] [.data, .pinned] true Rows.markTellsCard.stood.harness false over (fun _ h => by cases h) (by kernel_rfl) (fun _ h => by cases h) markTells_row_tie rfl ⟨rfl, rfl⟩ (by kernel_rfl) rfl
    (fun f fn hf hfn => by
      obtain rfl : f = 3 := Option.some.inj ((show Tryd.prog.funcNamed Rows.markTellsRow.func = some 3 by kernel_rfl).symm.trans hf) |>.symm
      obtain rfl : fn = Tryd.f3 := (Option.some.inj (Tryd.func3.symm.trans hfn)).symm
      exact ⟨by kernel_rfl, fun j t ht => by
        rw [Tryd.params3] at ht
        have hm : t ∈ [25, 9] := by simpa using Array.mem_of_getElem? ht
        have hall : ([25, 9].all fun u => !Tryd.prog.wantsStandIn u) = true := by kernel_rfl
        exact (show Tryd.prog.wantsStandIn t = false by simpa using List.all_eq_true.1 hall t hm)⟩)
    (by kernel_rfl)
#print axioms proved
end Go.Proofs.YtmbigoeldobaiaaDoor.markTells
namespace Go.Proofs.YtmbigoeldobaiaaDoor
/-- The row, under a short name, for the claim. -/
theorem markTells_holds : Rows.MarkTellsCardSaid := markTells.proved
end Go.Proofs.YtmbigoeldobaiaaDoor
