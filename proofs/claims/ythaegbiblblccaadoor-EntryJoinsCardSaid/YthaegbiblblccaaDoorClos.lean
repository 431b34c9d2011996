/- The closures of chapter 4: a number's change, and a sum, each over a number in a block of its own. Conditions: the block is there. -/
import Derived.Test.YthaegbiblblccaaDoorProg
import Derived.WalkKit
import Derived.KernelRfl
import Derived.OneCell
import Derived.Deep.QuietTactic
import Derived.BigQuiet
namespace Go.Proofs.YthaegbiblblccaaDoor.Clos
open Go.RowKit
set_option linter.unusedVariables false
set_option linter.unusedSimpArgs false

set_option maxHeartbeats 1000000 in
theorem changes (b : Int) (w : World) : Calls Tryd.prog 34 #[.int .i64 b] w fun e w' => e = .returned (.func (.func 47) #[] #[.pointer (some ⟨w.heap.size, 0, none⟩)]) ∧ w' = w.alloc (.cells #[.int .i64 b] 2) := by
  go_enter Tryd.func34, Tryd.ntmps34
  go_wp2
  go_ret
  exact ⟨rfl, by simp⟩
set_option maxHeartbeats 1000000 in
theorem sums (b : Int) (w : World) : Calls Tryd.prog 38 #[.int .i64 b] w fun e w' => e = .returned (.func (.func 48) #[] #[.pointer (some ⟨w.heap.size, 0, none⟩)]) ∧ w' = w.alloc (.cells #[.int .i64 b] 2) := by
  go_enter Tryd.func38, Tryd.ntmps38
  go_wp2
  go_ret
  exact ⟨rfl, by simp⟩
set_option maxHeartbeats 1000000 in
theorem change (g : Nat) (n last : Int) (w : World) (hc : w.cell? ⟨g, 0, none⟩ = some (.int .i64 last)) (hf : w.frozen? ⟨g, 0, none⟩ = false) :
    Calls Tryd.prog 47 #[.int .i64 n, .pointer (some ⟨g, 0, none⟩)] w fun e w' => e = .returned (.int .i64 (wrap64 (n - last))) ∧ w' = w.setCell ⟨g, 0, none⟩ (.int .i64 n) := by
  go_enter Tryd.func47, Tryd.ntmps47
  go_wp2
  go_ret
  exact ⟨rfl, rfl⟩
set_option maxHeartbeats 1000000 in
theorem sum (g : Nat) (n last : Int) (w : World) (hc : w.cell? ⟨g, 0, none⟩ = some (.int .i64 last)) (hf : w.frozen? ⟨g, 0, none⟩ = false) :
    Calls Tryd.prog 48 #[.int .i64 n, .pointer (some ⟨g, 0, none⟩)] w fun e w' => e = .returned (.int .i64 (wrap64 (last + n))) ∧ w' = w.setCell ⟨g, 0, none⟩ (.int .i64 (wrap64 (last + n))) := by
  go_enter Tryd.func48, Tryd.ntmps48
  go_wp2
  go_ret
  exact ⟨rfl, rfl⟩
end Go.Proofs.YthaegbiblblccaaDoor.Clos
