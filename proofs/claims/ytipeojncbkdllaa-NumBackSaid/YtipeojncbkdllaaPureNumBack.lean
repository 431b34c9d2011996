/- The pure statement NumBack. Conditions: none. -/
import Derived.Test.YtipeojncbkdllaaNumLaws
import Derived.Test.YtipeojncbkdllaaXNumx3
namespace Go.Proofs.Ytipeojncbkdllaa.Pure
open Go.Proofs.Ytipeojncbkdllaa.XNum
theorem NumBack : postroomlaw1_NumBack.Pure := Num.back
end Go.Proofs.Ytipeojncbkdllaa.Pure
