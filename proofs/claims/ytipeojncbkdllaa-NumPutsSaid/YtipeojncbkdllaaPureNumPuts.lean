/- The pure statement NumPuts. Conditions: none. -/
import Derived.Test.YtipeojncbkdllaaNumLaws
import Derived.Test.YtipeojncbkdllaaXNumx7
namespace Go.Proofs.Ytipeojncbkdllaa.Pure
open Go.Proofs.Ytipeojncbkdllaa.XNum
theorem NumPuts : postroomlaw1_NumPuts.Pure := Num.puts
end Go.Proofs.Ytipeojncbkdllaa.Pure
