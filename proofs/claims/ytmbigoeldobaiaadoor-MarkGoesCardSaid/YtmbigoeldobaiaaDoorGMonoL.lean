/- More rounds tell the same: what of a ledger is walked by hand. Conditions: none. -/
import Derived.Test.YtmbigoeldobaiaaDoorGEvict
import Derived.Test.YtmbigoeldobaiaaDoorXMrkP1
namespace Go.Proofs.YtmbigoeldobaiaaDoor.XMrk
open Go Go.RowKit Go.Proofs.YtmbigoeldobaiaaDoorW.PrintWords Go.Proofs.YtmbigoeldobaiaaDoorW.PrintLast Go.Proofs.YtmbigoeldobaiaaDoorW.PrintMore Go.Proofs.YtmbigoeldobaiaaDoor.Num
set_option linter.unusedVariables false
end Go.Proofs.YtmbigoeldobaiaaDoor.XMrk
