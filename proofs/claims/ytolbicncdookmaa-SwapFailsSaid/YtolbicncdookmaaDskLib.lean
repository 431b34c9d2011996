/- The library's functions that the disk calls: maps.Clone, slices.Sorted over maps.Keys; the disk's List. Conditions: counts below a million. -/
import Derived.Test.YtolbicncdookmaaDskUsed
import Derived.Test.YtolbicncdookmaaDskShelf

namespace Go.Proofs.Ytolbicncdookmaa.XDsk
open Go Go.RowKit Go.Maps Go.Sort Go.Shelf Go.Proofs.YtolbicncdookmaaW.PrintWords Go.Proofs.YtolbicncdookmaaW.PrintLast Go.Proofs.YtolbicncdookmaaW.PrintMore Go.Proofs.Ytolbicncdookmaa.Num
set_option linter.unusedVariables false
set_option linter.unusedSimpArgs false
theorem clone_calls {w : World} {g : Nat} {m : Names} (h : MapAt w g m) :
    Calls Try.prog 40 #[.map (some g)] w fun e w' => e = .returned (.map (some w.heap.size)) ∧ MapAt w' w.heap.size m ∧ Below w.heap.size w w' := by
  refine Calls.mono (show Calls Try.prog 40 #[.map (some g)] w _ from AnyW.maps_Clone_owns Try.cloneL 9 (plainElem Try.prog 3) g m.length (mapD m) w h) ?_
  rintro e w' ⟨rfl, h1, _, hb⟩
  exact ⟨rfl, h1, hb⟩
/-! ### keys that are texts -/
theorem keysS_calls (mb : Option Nat) (W : World) : Calls Try.prog 46 #[.map mb] W fun e w' => e = .returned (.func (.func 55) #[] #[.pointer (some ⟨W.heap.size, 0, none⟩)]) ∧ w' = W.alloc (.cells #[.map mb] 55) :=
  (callsIn_wide (n := 5)).1 (AnyZ.keys_in Try.keysS Fence.wide 5 trivial rfl mb W)
theorem sortsS (m : Nat) : AnyZ.SortsIn Try.prog Try.sortedS_ren Fence.wide m :=
  ⟨fun blk off cap ss W hH hblk hsz => callsIn_wide.2 (AnyM.slices_Sort_string Try.sortS blk off cap ss W hH hblk hsz), fun p cap W => callsIn_wide.2 (AnyM.slices_Sort_string_none Try.sortS p cap W)⟩
set_option maxHeartbeats 1000000 in
theorem sortedS_calls {H : Type} (b nn : Nat) (D0 : DataW H) (R : Value → Option (DataW H × List MemPlace)) (w : World) (hown : w.ownsMap Try.prog 9 R b nn D0) (hmax : Maps.size D0 ≤ maxLen) (hbytes : Maps.size D0 * 16 ≤ 140737488355328) :
    Calls Try.prog 45 #[.func (.func 55) #[] #[.pointer (some ⟨w.heap.size, 0, none⟩)]] (w.alloc (.cells #[.map (some b)] 55)) fun e w' => ∃ (v : Value) (ss : List (List UInt8)), e = .returned v ∧ ss.Perm (strKeys D0) ∧
      w'.ownsRow (w.alloc (.cells #[.map (some b)] 55)).heap.size 9 1 v ss.length ((ss.mergeSort (fun x y => decide (x ≤ y))).map encStr) ∧ (v = .slice none 0 0 ↔ ss = []) ∧ Below (w.alloc (.cells #[.map (some b)] 55)).heap.size (w.alloc (.cells #[.map (some b)] 55)) w' := by
  have hbl := hown.lt
  have hseq : SeqGives Fence.wide 2 Try.prog 55 #[.pointer (some ⟨w.heap.size, 0, none⟩)] encStr (fun ss => ss.Perm (strKeys D0)) (Maps.size D0) (w.alloc (.cells #[.map (some b)] 55)) :=
    AnyZ.keys_gives (ρ := Try.keysS_ren) { Try.keysS with } Fence.wide _ trivial rfl (by omega) w.heap.size b nn D0 _ (by simp) (by simp) (by
      obtain ⟨es, clock, hb, Ft, hs, hD⟩ := hown
      exact ⟨es, clock, (Below.heap_alloc _ _ b hbl).trans hb, Ft, hs, hD⟩)
  exact (callsIn_wide (n := 5)).1 (AnyZ.sorted_in Try.sortedS Fence.wide 5 trivial trivial trivial trivial rfl (by omega) (sortsS _) (enters_of Try.func54 (by kernel_rfl) rfl) 55 #[.pointer (some ⟨w.heap.size, 0, none⟩)] trivial (enters_of Try.func55 (by kernel_rfl) rfl) _ _ hmax hbytes _ hseq)
end Go.Proofs.Ytolbicncdookmaa.XDsk
