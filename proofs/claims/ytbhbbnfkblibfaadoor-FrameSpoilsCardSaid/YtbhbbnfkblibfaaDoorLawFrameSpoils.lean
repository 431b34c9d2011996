/- The row of the law FrameSpoils: whatever the input, it answers true, and each argument reads as it read. Conditions: none but those that each theorem names. Written by a program of this session (wip/xp). -/
import Derived.Test.YtbhbbnfkblibfaaDoorRows
import Derived.Test.YtbhbbnfkblibfaaDoorXFrmSpoil
import Derived.Test.YtbhbbnfkblibfaaDoorPureFrameSpoils
import Derived.Test.YtbhbbnfkblibfaaDoorOpens
import Derived.WalkKit
import Derived.ProofKit
import Derived.OpenShut
import Derived.ShutString
import Derived.ChangeOld
import Derived.Below
import Derived.SizedLaws
import Derived.LaidMore
import Derived.Stop.Joined
import Derived.Lib.LaidTab
import Derived.SevenTiedAt
import Derived.Test.YtbhbbnfkblibfaaDoorTie
import Derived.Test.YtbhbbnfkblibfaaDoorCards
import Derived.Test.YtbhbbnfkblibfaaDoorFrmTab
namespace Go.Proofs.YtbhbbnfkblibfaaDoor.frameSpoils
open Go.ChangeShapes Go.WideShapes Go.ChangeAt Go.RowKit Go.Proofs.YtbhbbnfkblibfaaDoorW.PrintWords Go.Proofs.YtbhbbnfkblibfaaDoor.XFrm
open Go.ChangeMaps (open_string shut_string)
set_option linter.unusedVariables false
theorem own : ownKnob Tryd.prog.godebug = none := by kernel_rfl
theorem laidOut : laidOutB Tryd.prog = true := by kernel_rfl
theorem gTab : Tryd.prog.globalNamed "postroom/crc.table" = some 0 := by kernel_rfl
theorem tTab : (Tryd.prog.globals[0]?).map (·.type) = some 67 := by kernel_rfl
theorem c62 : Tryd.prog.cellsOf 62 = 1 := by kernel_rfl
theorem c67 : Tryd.prog.cellsOf 67 = 16 := by kernel_rfl
theorem tabs_of {W : World} (h : laidMetH Tryd.prog [("postroom/crc.table", Rows.laid_postroom_crc_table)] W) : Tabs W := by
  rw [MakeChecks.laidMetH_plain _ _ _ (by kernel_rfl)] at h
  have h2 := Lib.tabIs_of_head (k := .u32) (zs := tblN.map Int.ofNat) gTab tTab Tryd.underlying67 Tryd.underlying62 c62 c67 h
  have hc : ∀ i, i < 16 → W.cell? ⟨0, i, none⟩ = some (.int .u32 ((tblN.getD i 0 : Nat) : Int)) := fun i hi => by
    have h3 := h2.cell gTab i hi
    rw [h3]
    have : ∀ j, j < 16 → (tblN.map Int.ofNat).getD j 0 = ((tblN.getD j 0 : Nat) : Int) := by decide
    rw [this i hi]
  refine ⟨?_, hc⟩
  have h0 := hc 0 (by decide)
  rcases Nat.lt_or_ge 0 W.heap.size with h | h
  · exact h
  · have : W.heap[0]? = none := Array.getElem?_eq_none h
    simp [World.cell?, this] at h0
theorem door_met (os : Os) (args : Array Value) : laidMetH Tryd.prog [("postroom/crc.table", Rows.laid_postroom_crc_table)] ((World.doorLaid Tryd.prog 400 os).forCall (fun _ _ => 0) ⟨#[], args, []⟩).memory :=
  laidMetH_of_parts3 (fuel := 8) (laidMet_of_run' 8 (by kernel_rfl) (by kernel_rfl)) (by kernel_rfl) (by kernel_rfl)
set_option maxRecDepth 100000 in
theorem lifted (os : Os) (started : os.Started) (H : Type) (enc : TypeId × Value → H) :
    ReturnsInHanded {} Tryd.checked os 6 .any (fun w args => (Rows.frameSpoilsSpec.pre enc Tryd.prog Tryd.f6 [] false w args ∧ laidMetH Tryd.prog [("postroom/crc.table", Rows.laid_postroom_crc_table)] w) ∧ sizedMet enc Tryd.prog Tryd.f6 (OpenSpec.ofChange Rows.frameSpoilsSpec) false w args)
      (Rows.frameSpoilsSpec.post enc Tryd.prog Tryd.f6 false true false false) := by
  refine returnsInHanded_of_change_and (C := Tryd.checked) (X := fun w _ => laidMetH Tryd.prog [("postroom/crc.table", Rows.laid_postroom_crc_table)] w) (fun _ _ _ hh h => h.of_heap hh) own started (by kernel_rfl) Tryd.func6
    (ChangeSpec.witness_shaped (enc := enc) (C := Tryd.checked) (os := os) (X := fun w _ => laidMetH Tryd.prog [("postroom/crc.table", Rows.laid_postroom_crc_table)] w) false (World.doorLaid Tryd.prog 400 os) #[.int .u64 0, .slice none 0 0, .int .i64 0, .int .i64 0] 8 rfl (World.shaped_of_RefB (by kernel_rfl) (by kernel_rfl)) (by kernel_rfl) (by kernel_rfl) (by kernel_rfl) (door_met os _)) ?_
  intro W base args ds gs before hval0 hW _ hsz0 hL0 _
  have hL := tabs_of hL0
  have hsz : (DataW.weightsEach Tryd.prog (Tryd.f6.params.toList ++ Rows.frameSpoilsSpec.plain.varTypes Tryd.prog) (ds ++ gs)).all (· ≤ reachBytes) = true := hsz0
  have hval : ∀ (j : Nat) t v, Tryd.f6.params[j]? = some t → args[j]? = some v → Value.okWide Tryd.prog W .any base t v := hval0
  have hW' := hW
  obtain ⟨p, q, hA0, hV, rfl, hfz, hnd⟩ := hW
  have hA : DataW.TrodAll enc Tryd.prog W 0 (fun _ => true) true Tryd.f6.params.toList args.toList ds p := hA0
  rw [Tryd.params6] at hA hval hsz
  obtain ⟨v0, vs0, d0, ds0, p0, q0, hargs, rfl, rfl, h0, r0⟩ := trodAll_cons hA
  obtain ⟨v1, vs1, d1, ds1, p1, q1, rfl, rfl, rfl, h1, r1⟩ := trodAll_cons r0
  obtain ⟨v2, vs2, d2, ds2, p2, q2, rfl, rfl, rfl, h2, r2⟩ := trodAll_cons r1
  obtain ⟨v3, vs3, d3, ds3, p3, q3, rfl, rfl, rfl, h3, r3⟩ := trodAll_cons r2
  obtain ⟨rfl, rfl, rfl⟩ := trodAll_nil r3
  obtain rfl : args = #[v0, v1, v2, v3] := by cases args; simp_all
  obtain ⟨rfl, rfl⟩ := trodVars_none hV
  obtain ⟨a0, rfl, rfl, rfl, w0⟩ := open_int Tryd.underlying22 (hval 0 22 v0 rfl rfl) h0
  have lt1 : ∀ x ∈ p1, x.block < W.heap.size := by obtain ⟨m, hm⟩ := h1; exact DataW.trod_lt m _ _ _ hm
  obtain ⟨A1, c1, l1, rfl, hc1, hr1, hm1, hw1⟩ := Opens.arg_slice Tryd.underlying36 (Opens.opens_slice Tryd.underlying36 (by kernel_rfl) (Opens.opens_string Tryd.underlying9)) (hval 1 36 v1 rfl rfl) h1
  have hy1 : l1.length * 16 ≤ 140737488351232 := Opens.sized_any hsz (j := 1) (t := 36) rfl rfl Tryd.underlying36 (by kernel_rfl) h1
  obtain ⟨a2, rfl, rfl, rfl, w2⟩ := open_int Tryd.underlying3 (hval 2 3 v2 rfl rfl) h2
  obtain ⟨a3, rfl, rfl, rfl, w3⟩ := open_int Tryd.underlying3 (hval 3 3 v3 rfl rfl) h3
  clear hA0 hval0 hsz0 hsz
  refine (XFrm.postroomlaw6_FrameSpoils.walk Pure.FrameSpoils a0 A1 c1 l1 a2 a3 W hr1 hc1 w0 hm1 hy1 hw1 w2 w3 hL).mono fun e W' ⟨he, bel⟩ => ?_
  subst he
  exact ⟨_, rfl, _, _, _, [], _, [], hW', trodAll_mk1 (shut_bool Tryd.underlying4 _), (trodAll_cons_mk (shut_int Tryd.underlying22 w0) (trodAll_cons_mk (Below.trod laidOut (by kernel_rfl) (of_decide_eq_true (by kernel_rfl)) h1 bel lt1) (trodAll_cons_mk (shut_int Tryd.underlying3 w2) (trodAll_cons_mk (shut_int Tryd.underlying3 w3) trodAll_mk0)))), rfl, bel.frame _, fun h => by cases h⟩
theorem over : Rows.frameSpoilsRow.holds Tryd.pinned (OpenSpec.ofChange Rows.frameSpoilsSpec) :=
  OpenClaim.holds_of_wide 6 Tryd.f6 rfl rfl rfl rfl rfl rfl rfl ⟨rfl, rfl, rfl, rfl, rfl⟩ rfl rfl rfl rfl rfl (by kernel_rfl) Tryd.func6 (by kernel_rfl)
    (of_decide_eq_true (by kernel_rfl)) (by unfold Func.isWrapper; first | (rw [if_pos (by decide +kernel)]; kernel_rfl) | (rw [if_neg (by decide +kernel)]; exact ⟨rfl, rfl⟩))
    (fun os started H enc _ => lifted os started H enc)
theorem proved : Rows.FrameSpoilsCardSaid :=
  Claim7.holds_tied_plain_at .later [] [.data] true Rows.frameSpoilsCard.stood.harness false over (fun _ h => by cases h) (by kernel_rfl) (fun _ h => by cases h) frameSpoils_row_tie rfl ⟨rfl, rfl⟩ (by kernel_rfl) rfl
    (fun f fn hf hfn => by
      obtain rfl : f = 6 := Option.some.inj ((show Tryd.prog.funcNamed Rows.frameSpoilsRow.func = some 6 by kernel_rfl).symm.trans hf) |>.symm
      obtain rfl : fn = Tryd.f6 := (Option.some.inj (Tryd.func6.symm.trans hfn)).symm
      exact ⟨by kernel_rfl, fun j t ht => by
        rw [Tryd.params6] at ht
        have hm : t ∈ [22, 36, 3, 3] := by simpa using Array.mem_of_getElem? ht
        have hall : ([22, 36, 3, 3].all fun u => !Tryd.prog.wantsStandIn u) = true := by kernel_rfl
        exact (show Tryd.prog.wantsStandIn t = false by simpa using List.all_eq_true.1 hall t hm)⟩)
    (by kernel_rfl)
#print axioms proved
end Go.Proofs.YtbhbbnfkblibfaaDoor.frameSpoils
namespace Go.Proofs.YtbhbbnfkblibfaaDoor
/-- The row, under a short name, for the claim. -/
theorem frameSpoils_holds : Rows.FrameSpoilsCardSaid := frameSpoils.proved
end Go.Proofs.YtbhbbnfkblibfaaDoor
