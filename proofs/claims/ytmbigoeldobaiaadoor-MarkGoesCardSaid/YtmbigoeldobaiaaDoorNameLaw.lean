/- Names: the document's reader of names comes to the plain law's. Conditions: those that each theorem names. -/
import Derived.Test.YtmbigoeldobaiaaDoorGLabelName

namespace Go.Proofs.YtmbigoeldobaiaaDoor.Nam
open Go Go.RowKit Go.Proofs.YtmbigoeldobaiaaDoorW.PrintWords Go.Proofs.YtmbigoeldobaiaaDoorW.PrintLast Go.Proofs.YtmbigoeldobaiaaDoorW.PrintMore Go.Proofs.YtmbigoeldobaiaaDoor.Num Go.Proofs.YtmbigoeldobaiaaDoor.XMrk
set_option linter.unusedVariables false
set_option linter.unusedSimpArgs false
theorem w_succ {i : Nat} (h : i < 9223372036854775807) : wrap64 ((i : Int) + 1) = ((i + 1 : Nat) : Int) := by rw [w64_id (by omega) (by omega)]; omega
end Go.Proofs.YtmbigoeldobaiaaDoor.Nam
