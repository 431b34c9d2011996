/- The pure statement NumSigns. Conditions: none. -/
import Derived.Test.YtipeojncbkdllaaNumLaws
import Derived.Test.YtipeojncbkdllaaXNumx7
namespace Go.Proofs.Ytipeojncbkdllaa.Pure
open Go.Proofs.Ytipeojncbkdllaa.XNum
theorem NumSigns : postroomlaw1_NumSigns.Pure := Num.signs
end Go.Proofs.Ytipeojncbkdllaa.Pure
