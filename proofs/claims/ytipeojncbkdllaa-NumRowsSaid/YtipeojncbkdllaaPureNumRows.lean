/- The pure statement NumRows. Conditions: none. -/
import Derived.Test.YtipeojncbkdllaaNumRows
import Derived.Test.YtipeojncbkdllaaYNumx2
namespace Go.Proofs.Ytipeojncbkdllaa.Pure
open Go.Proofs.Ytipeojncbkdllaa.YNum
theorem NumRows : postroomlaw1_NumRows.Pure := fun l0 l1 _ _ hs _ _ hw => Num.rows l0 l1 hs hw
end Go.Proofs.Ytipeojncbkdllaa.Pure
