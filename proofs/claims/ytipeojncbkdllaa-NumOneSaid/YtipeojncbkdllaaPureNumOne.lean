/- The pure statement NumOne. Conditions: none. -/
import Derived.Test.YtipeojncbkdllaaNumLaws
import Derived.Test.YtipeojncbkdllaaXNumx4
namespace Go.Proofs.Ytipeojncbkdllaa.Pure
open Go.Proofs.Ytipeojncbkdllaa.XNum
theorem NumOne : postroomlaw1_NumOne.Pure := Num.one
end Go.Proofs.Ytipeojncbkdllaa.Pure
