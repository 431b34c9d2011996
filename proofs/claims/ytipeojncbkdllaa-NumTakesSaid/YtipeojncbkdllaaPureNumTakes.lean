/- The pure statement NumTakes. Conditions: none. -/
import Derived.Test.YtipeojncbkdllaaNumLaws
import Derived.Test.YtipeojncbkdllaaXNumx3
namespace Go.Proofs.Ytipeojncbkdllaa.Pure
open Go.Proofs.Ytipeojncbkdllaa.XNum
theorem NumTakes : postroomlaw1_NumTakes.Pure := Num.takes
end Go.Proofs.Ytipeojncbkdllaa.Pure
