/- More rounds tell the same: what is walked by hand. Conditions: none. -/
import Derived.Test.YthhmpjapnkilcaaDoorGDoes
import Derived.Test.YthhmpjapnkilcaaDoorXLdgP2
import Derived.Test.YthhmpjapnkilcaaDoorXLdgP1
import Derived.Test.YthhmpjapnkilcaaDoorXLdgP3
import Derived.Test.YthhmpjapnkilcaaDoorXLdgP4
namespace Go.Proofs.YthhmpjapnkilcaaDoor.XLdg
open Go Go.RowKit Go.Proofs.YthhmpjapnkilcaaDoorW.PrintWords Go.Proofs.YthhmpjapnkilcaaDoorW.PrintLast Go.Proofs.YthhmpjapnkilcaaDoorW.PrintMore Go.Proofs.YthhmpjapnkilcaaDoor.Num
set_option linter.unusedVariables false
theorem ledger_Done.mono : ∀ a0 a1 a2 a3 a4 a5 k, LeO (ledger_Done.f k a0 a1 a2 a3 a4 a5) (ledger_Done.f (k + 1) a0 a1 a2 a3 a4 a5) := by
 intro a0 a1 a2 a3 a4 a5 k
 unfold ledger_Done.f
 exact LeO.ite (LeO.ite (LeO.bind (ledger_Dest_waits.mono _ _ _ _ _ _ _ _ _ _) (fun _ => LeO.refl _)) (LeO.refl _)) (LeO.refl _)
theorem evL_mono (k : Nat) (t n : Int) : ∀ l, LeO (evL k t n l) (evL (k + 1) t n l)
 | [] => LeO.refl _
 | d :: r => LeO.bind (LeO.refl _) (fun _ => LeO.bind (evL_mono k t n r) (fun _ => LeO.refl _))
theorem ledger_Evict.mono : ∀ a0 a1 a2 a3 k, LeO (ledger_Evict.f k a0 a1 a2 a3) (ledger_Evict.f (k + 1) a0 a1 a2 a3) := by
 intro a0 a1 a2 a3 k
 unfold ledger_Evict.f
 exact LeO.ite (LeO.refl _) (LeO.ite (LeO.refl _) (LeO.ite (LeO.bind (evL_mono _ _ _ _) (fun _ => LeO.refl _)) (LeO.refl _)))
end Go.Proofs.YthhmpjapnkilcaaDoor.XLdg
