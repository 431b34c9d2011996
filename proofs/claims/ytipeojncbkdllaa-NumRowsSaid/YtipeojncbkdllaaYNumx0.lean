/- What the functions of the translation answer, each as a plain Lean function, and that the code comes to it; for a law: its row. Conditions: none but those that each theorem names. Written by a program of this session (wip/xp). -/
import Derived.Test.YtipeojncbkdllaaProg
import Derived.Below
import Derived.Deep.Draws
import Derived.Deep.AppendLies
import Derived.Maps.AppendAt
import Derived.OwnWalk
import Derived.Laws.BytesArg
import Derived.Laws.MakeOwn
import Derived.Laws.OwnMore
import Derived.Deep.OwnRows
import Derived.Tactics
import Derived.Lib.ConvBytes
import Derived.Laws.Slices
import Derived.WalkKit
import Derived.KernelRfl
import Derived.RowKit3
import Derived.Deep.LoopGhost
import Derived.Deep.QuietTactic
import Derived.BigQuiet
import Derived.WideLaws
import Derived.Deep.DeepCutAuto
import Derived.Deep.CutBlock
import Derived.Deep.RegionHeld3
import Derived.Laws.Rows
import Derived.Lib.AppendStr
import Derived.ArgAppend
import Derived.Laws.IdiomCopy
import Derived.OrdersHeld
import Derived.Laws.BitsLemmas
import Derived.RowKit
import Derived.Test.YtipeojncbkdllaaWWords
import Derived.Test.YtipeojncbkdllaaWLast
import Derived.Test.YtipeojncbkdllaaWTab
import Derived.Test.YtipeojncbkdllaaWFour
import Derived.Test.YtipeojncbkdllaaWQPut
import Derived.Test.YtipeojncbkdllaaWApart
import Derived.Test.YtipeojncbkdllaaWArr
import Derived.Test.YtipeojncbkdllaaWZeros
import Derived.Test.YtipeojncbkdllaaWFoot
import Derived.Test.YtipeojncbkdllaaWKept
import Derived.Test.YtipeojncbkdllaaWShare
import Derived.Test.YtipeojncbkdllaaWN
import Derived.Test.YtipeojncbkdllaaWFootNe
import Derived.Test.YtipeojncbkdllaaWAt
import Derived.Test.YtipeojncbkdllaaWEqStruct
import Derived.Test.YtipeojncbkdllaaWRepsOne
import Derived.Test.YtipeojncbkdllaaWInv
import Derived.Test.YtipeojncbkdllaaWInvWords
import Derived.Test.YtipeojncbkdllaaWGuard
import Derived.Test.YtipeojncbkdllaaWNEv
import Derived.Test.YtipeojncbkdllaaWMore
namespace Go.Proofs.Ytipeojncbkdllaa.YNum
open Go.RowKit Go.Proofs.YtipeojncbkdllaaW.PrintWords Go.Proofs.YtipeojncbkdllaaW.PrintLast Go.Proofs.YtipeojncbkdllaaW.PrintMore
attribute [local go_sem] max2_int min2_int max_two min_two max_three min_three max_four min_four   -- for this text's walks alone
set_option linter.unusedVariables false
set_option linter.unusedSimpArgs false



def errW : Option Int → Value
  | none => .nilIface
  | some c => .iface 0 (.int .i64 c)
theorem errW_none : errW none = .nilIface := rfl
theorem errW_some (c : Int) : errW (some c) = .iface 0 (.int .i64 c) := rfl

theorem info5 : (Try.prog.info? 5).map (fun i => (i.zero, i.size, i.bytes)) = some (some (.int .u8 0), 1, 1) := by kernel_rfl
-- the values' own types

end Go.Proofs.Ytipeojncbkdllaa.YNum
