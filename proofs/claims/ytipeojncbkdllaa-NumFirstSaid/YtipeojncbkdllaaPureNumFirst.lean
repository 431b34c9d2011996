/- The pure statement NumFirst. Conditions: none. -/
import Derived.Test.YtipeojncbkdllaaNumFirst
import Derived.Test.YtipeojncbkdllaaXNumx5
namespace Go.Proofs.Ytipeojncbkdllaa.Pure
open Go.Proofs.Ytipeojncbkdllaa.XNum
theorem NumFirst : postroomlaw1_NumFirst.Pure := Num.first
end Go.Proofs.Ytipeojncbkdllaa.Pure
