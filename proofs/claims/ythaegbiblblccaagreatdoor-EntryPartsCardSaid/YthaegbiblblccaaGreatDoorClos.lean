/- The closures of chapter 4: a number's change, and a sum, each over a number in a block of its own. Conditions: the block is there. -/
import Derived.Test.YthaegbiblblccaaGreatDoorProg
import Derived.WalkKit
import Derived.KernelRfl
import Derived.OneCell
import Derived.Deep.QuietTactic
import Derived.BigQuiet
namespace Go.Proofs.YthaegbiblblccaaGreatDoor.Clos
open Go.RowKit
set_option linter.unusedVariables false
set_option linter.unusedSimpArgs false

set_option maxHeartbeats 1000000 in
theorem changes (b : Int) (w : World) : Calls Tryz.prog 47 #[.int .i64 b] w fun e w' => e = .returned (.func (.func 67) #[] #[.pointer (some ⟨w.heap.size, 0, none⟩)]) ∧ w' = w.alloc (.cells #[.int .i64 b] 2) := by
  go_enter Tryz.func47, Tryz.ntmps47
  go_wp2
  go_ret
  exact ⟨rfl, by simp⟩
set_option maxHeartbeats 1000000 in
theorem sums (b : Int) (w : World) : Calls Tryz.prog 71 #[.int .i64 b] w fun e w' => e = .returned (.func (.func 82) #[] #[.pointer (some ⟨w.heap.size, 0, none⟩)]) ∧ w' = w.alloc (.cells #[.int .i64 b] 2) := by
  go_enter Tryz.func71, Tryz.ntmps71
  go_wp2
  go_ret
  exact ⟨rfl, by simp⟩
set_option maxHeartbeats 1000000 in
theorem change (g : Nat) (n last : Int) (w : World) (hc : w.cell? ⟨g, 0, none⟩ = some (.int .i64 last)) (hf : w.frozen? ⟨g, 0, none⟩ = false) :
    Calls Tryz.prog 67 #[.int .i64 n, .pointer (some ⟨g, 0, none⟩)] w fun e w' => e = .returned (.int .i64 (wrap64 (n - last))) ∧ w' = w.setCell ⟨g, 0, none⟩ (.int .i64 n) := by
  go_enter Tryz.func67, Tryz.ntmps67
  go_wp2
  go_ret
  exact ⟨rfl, rfl⟩
set_option maxHeartbeats 1000000 in
theorem sum (g : Nat) (n last : Int) (w : World) (hc : w.cell? ⟨g, 0, none⟩ = some (.int .i64 last)) (hf : w.frozen? ⟨g, 0, none⟩ = false) :
    Calls Tryz.prog 82 #[.int .i64 n, .pointer (some ⟨g, 0, none⟩)] w fun e w' => e = .returned (.int .i64 (wrap64 (last + n))) ∧ w' = w.setCell ⟨g, 0, none⟩ (.int .i64 (wrap64 (last + n))) := by
  go_enter Tryz.func82, Tryz.ntmps82
  go_wp2
  go_ret
  exact ⟨rfl, rfl⟩
end Go.Proofs.YthaegbiblblccaaGreatDoor.Clos
