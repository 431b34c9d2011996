/-
  NARROWER THAN 'FOR EVERY INPUT', by the rows' own cells (each row's printed sentence says how): FrameBack: laid · FrameLong: laid · FrameTorn: laid · FrameSpoils: laid · FrameParts: laid · FrameOne: laid · FrameTells: laid.
  DERIVED. THE GIVEN ROWS OF THIS SEAT. 7 by the template 'for every input the law returns true; each argument reads behind the call as it read before'; 0 by the template 'total and deterministic' (their statements: YtbhbbnfkblibfaaDoorTotals.lean).
  GIVEN WITH THE SEED: the statements are not yours to turn. If you find one false, say at which input.
  Laid BY PROGRAM, IN A SANDBOX (cutbox-rows.mjs): the forced cells as the released guide's own fill.sh prints them over the translation 38ed1f09e88f18ee… (all of the seat's roots in one cut). By AI agents, Wed Nov 11 2026. No macro, syntax, notation, axiom, sorry.
-/
import Derived.Test.YtbhbbnfkblibfaaDoorChecked
import GoSem.Claim
import GoSem.ClaimJoined
import GoSem.ClaimMapViews
import Derived.JoinedTies
import Derived.KernelRfl
namespace Go.Proofs.YtbhbbnfkblibfaaDoor
/- THE CELL 'sum', in the pinned program and in every row, IS THE sha256 OF THE DUMP (.gsa) THAT YtbhbbnfkblibfaaDoorProg.lean LOADS. Nothing in Lean hashes anything: it is a label: what it is worth is what the hold of that sum in a sandbox is worth. -/
noncomputable def Tryd.pinned : Pinned := { name := "ytbhbbnfkblibfaadoor", sum := "38ed1f09e88f18ee1833d2f258ced7509734777197180ae03fca8e6a7befe0a2", checked := Tryd.checked }
namespace Rows
def none {H : Type} : Left H := { results := [], args := [] }

/- WHAT THE LISTED PACKAGE-LEVEL VARIABLES READ AS WHEN THE CALL BEGINS. Each datum BY PROGRAM (the guide's laid-datum.mjs) off the statement by which the dump's own 'gosem.cut.vars' lays the variable. In a bare row this is a premise. The card (YtbhbbnfkblibfaaDoorCards.lean) ties it to the program's text. -/
def laid_postroom_crc_table {H : Type} : DataW H := .agg [.lit (.int .u32 0), .lit (.int .u32 274646895), .lit (.int .u32 549293790), .lit (.int .u32 820201905), .lit (.int .u32 1098587580), .lit (.int .u32 1361435347), .lit (.int .u32 1640403810), .lit (.int .u32 1905808397), .lit (.int .u32 2197175160), .lit (.int .u32 2460548119), .lit (.int .u32 2722870694), .lit (.int .u32 2987750089), .lit (.int .u32 3280807620), .lit (.int .u32 3553878443), .lit (.int .u32 3811616794), .lit (.int .u32 4084100981)]

/-- 'postroomlaw6.FrameBack': WHATEVER THE INPUT: true; the input reads as it did. -/
def frameBackSpec : ChangeSpec := { name := "frameBack", fn := fun _ => fun
  | [d1, d2, d3] => { results := [.lit (.bool true)], args := [d1, d2, d3] }
  | _ => none }
def frameBackRow : OpenClaim := { program := "ytbhbbnfkblibfaadoor", sum := "38ed1f09e88f18ee1833d2f258ced7509734777197180ae03fca8e6a7befe0a2", func := "postroom/postroomlaw6.FrameBack", spec := "frameBack", named := ["postroom/crc.table"], apart := false, laid := [("postroom/crc.table", laid_postroom_crc_table)] }
def FrameBackSaid : Prop := frameBackRow.holds Tryd.pinned (OpenSpec.ofChange frameBackSpec)

/-- ITS FALSE NEIGHBOUR: 'it returns false'. Refute it at one input. -/
def frameBackWrong : ChangeSpec := { name := "frameBack", fn := fun _ => fun
  | [d1, d2, d3] => { results := [.lit (.bool false)], args := [d1, d2, d3] }
  | _ => none }
def FrameBackWrongFalsely : Prop := frameBackRow.holds Tryd.pinned (OpenSpec.ofChange frameBackWrong)

/-- 'postroomlaw6.FrameLong': WHATEVER THE INPUT: true; the input reads as it did. -/
def frameLongSpec : ChangeSpec := { name := "frameLong", fn := fun _ => fun
  | [d1, d2] => { results := [.lit (.bool true)], args := [d1, d2] }
  | _ => none }
def frameLongRow : OpenClaim := { program := "ytbhbbnfkblibfaadoor", sum := "38ed1f09e88f18ee1833d2f258ced7509734777197180ae03fca8e6a7befe0a2", func := "postroom/postroomlaw6.FrameLong", spec := "frameLong", named := ["postroom/crc.table"], apart := false, laid := [("postroom/crc.table", laid_postroom_crc_table)] }
def FrameLongSaid : Prop := frameLongRow.holds Tryd.pinned (OpenSpec.ofChange frameLongSpec)

/-- ITS FALSE NEIGHBOUR: 'it returns false'. Refute it at one input. -/
def frameLongWrong : ChangeSpec := { name := "frameLong", fn := fun _ => fun
  | [d1, d2] => { results := [.lit (.bool false)], args := [d1, d2] }
  | _ => none }
def FrameLongWrongFalsely : Prop := frameLongRow.holds Tryd.pinned (OpenSpec.ofChange frameLongWrong)

/-- 'postroomlaw6.FrameTorn': WHATEVER THE INPUT: true; the input reads as it did. -/
def frameTornSpec : ChangeSpec := { name := "frameTorn", fn := fun _ => fun
  | [d1, d2, d3] => { results := [.lit (.bool true)], args := [d1, d2, d3] }
  | _ => none }
def frameTornRow : OpenClaim := { program := "ytbhbbnfkblibfaadoor", sum := "38ed1f09e88f18ee1833d2f258ced7509734777197180ae03fca8e6a7befe0a2", func := "postroom/postroomlaw6.FrameTorn", spec := "frameTorn", unfollowed := true, recurses := true, named := ["postroom/crc.table"], apart := false, laid := [("postroom/crc.table", laid_postroom_crc_table)] }
def FrameTornSaid : Prop := frameTornRow.holds Tryd.pinned (OpenSpec.ofChange frameTornSpec)

/-- ITS FALSE NEIGHBOUR: 'it returns false'. Refute it at one input. -/
def frameTornWrong : ChangeSpec := { name := "frameTorn", fn := fun _ => fun
  | [d1, d2, d3] => { results := [.lit (.bool false)], args := [d1, d2, d3] }
  | _ => none }
def FrameTornWrongFalsely : Prop := frameTornRow.holds Tryd.pinned (OpenSpec.ofChange frameTornWrong)

/-- 'postroomlaw6.FrameSpoils': WHATEVER THE INPUT: true; the input reads as it did. -/
def frameSpoilsSpec : ChangeSpec := { name := "frameSpoils", fn := fun _ => fun
  | [d1, d2, d3, d4] => { results := [.lit (.bool true)], args := [d1, d2, d3, d4] }
  | _ => none }
def frameSpoilsRow : OpenClaim := { program := "ytbhbbnfkblibfaadoor", sum := "38ed1f09e88f18ee1833d2f258ced7509734777197180ae03fca8e6a7befe0a2", func := "postroom/postroomlaw6.FrameSpoils", spec := "frameSpoils", unfollowed := true, recurses := true, named := ["postroom/crc.table"], apart := false, laid := [("postroom/crc.table", laid_postroom_crc_table)] }
def FrameSpoilsSaid : Prop := frameSpoilsRow.holds Tryd.pinned (OpenSpec.ofChange frameSpoilsSpec)

/-- ITS FALSE NEIGHBOUR: 'it returns false'. Refute it at one input. -/
def frameSpoilsWrong : ChangeSpec := { name := "frameSpoils", fn := fun _ => fun
  | [d1, d2, d3, d4] => { results := [.lit (.bool false)], args := [d1, d2, d3, d4] }
  | _ => none }
def FrameSpoilsWrongFalsely : Prop := frameSpoilsRow.holds Tryd.pinned (OpenSpec.ofChange frameSpoilsWrong)

/-- 'postroomlaw6.FrameParts': WHATEVER THE INPUT: true; the input reads as it did. -/
def framePartsSpec : ChangeSpec := { name := "frameParts", fn := fun _ => fun
  | [d1, d2, d3] => { results := [.lit (.bool true)], args := [d1, d2, d3] }
  | _ => none }
def framePartsRow : OpenClaim := { program := "ytbhbbnfkblibfaadoor", sum := "38ed1f09e88f18ee1833d2f258ced7509734777197180ae03fca8e6a7befe0a2", func := "postroom/postroomlaw6.FrameParts", spec := "frameParts", unfollowed := true, recurses := true, named := ["postroom/crc.table"], apart := false, laid := [("postroom/crc.table", laid_postroom_crc_table)] }
def FramePartsSaid : Prop := framePartsRow.holds Tryd.pinned (OpenSpec.ofChange framePartsSpec)

/-- ITS FALSE NEIGHBOUR: 'it returns false'. Refute it at one input. -/
def framePartsWrong : ChangeSpec := { name := "frameParts", fn := fun _ => fun
  | [d1, d2, d3] => { results := [.lit (.bool false)], args := [d1, d2, d3] }
  | _ => none }
def FramePartsWrongFalsely : Prop := framePartsRow.holds Tryd.pinned (OpenSpec.ofChange framePartsWrong)

/-- 'postroomlaw6.FrameOne': WHATEVER THE INPUT: true; the input reads as it did. -/
def frameOneSpec : ChangeSpec := { name := "frameOne", fn := fun _ => fun
  | [d1, d2, d3, d4] => { results := [.lit (.bool true)], args := [d1, d2, d3, d4] }
  | _ => none }
def frameOneRow : OpenClaim := { program := "ytbhbbnfkblibfaadoor", sum := "38ed1f09e88f18ee1833d2f258ced7509734777197180ae03fca8e6a7befe0a2", func := "postroom/postroomlaw6.FrameOne", spec := "frameOne", unfollowed := true, recurses := true, named := ["postroom/crc.table"], apart := false, laid := [("postroom/crc.table", laid_postroom_crc_table)] }
def FrameOneSaid : Prop := frameOneRow.holds Tryd.pinned (OpenSpec.ofChange frameOneSpec)

/-- ITS FALSE NEIGHBOUR: 'it returns false'. Refute it at one input. -/
def frameOneWrong : ChangeSpec := { name := "frameOne", fn := fun _ => fun
  | [d1, d2, d3, d4] => { results := [.lit (.bool false)], args := [d1, d2, d3, d4] }
  | _ => none }
def FrameOneWrongFalsely : Prop := frameOneRow.holds Tryd.pinned (OpenSpec.ofChange frameOneWrong)

/-- 'postroomlaw6.FrameTells': WHATEVER THE INPUT: true; the input reads as it did. -/
def frameTellsSpec : ChangeSpec := { name := "frameTells", fn := fun _ => fun
  | [d1, d2, d3] => { results := [.lit (.bool true)], args := [d1, d2, d3] }
  | _ => none }
def frameTellsRow : OpenClaim := { program := "ytbhbbnfkblibfaadoor", sum := "38ed1f09e88f18ee1833d2f258ced7509734777197180ae03fca8e6a7befe0a2", func := "postroom/postroomlaw6.FrameTells", spec := "frameTells", unfollowed := true, recurses := true, named := ["postroom/crc.table"], apart := false, laid := [("postroom/crc.table", laid_postroom_crc_table)] }
def FrameTellsSaid : Prop := frameTellsRow.holds Tryd.pinned (OpenSpec.ofChange frameTellsSpec)

/-- ITS FALSE NEIGHBOUR: 'it returns false'. Refute it at one input. -/
def frameTellsWrong : ChangeSpec := { name := "frameTells", fn := fun _ => fun
  | [d1, d2, d3] => { results := [.lit (.bool false)], args := [d1, d2, d3] }
  | _ => none }
def FrameTellsWrongFalsely : Prop := frameTellsRow.holds Tryd.pinned (OpenSpec.ofChange frameTellsWrong)

/- THE SECOND FORM. 'bulk': how many values and letters a reading holds, each counted each time it is reached (what is shared counts as often as it is met; a slice's spare places count too). A statement '..UptoSaid' is the law's where the arguments, and the package variables that the reading takes, are together of bulk at most 1048576: NARROWER than '..Said'. Prove '..Said' where nothing that the law and all that it calls make is longer than what came in: it says more and counts as full. Else prove '..UptoSaid'. A law counts once. -/
mutual
def uptoBulk {H : Type} : DataW H → Nat
  | .lit (.string bytes) => bytes.length + 1
  | .lit _ => 1
  | .nil => 1
  | .ptr d => uptoBulk d + 1
  | .slice elems spare => uptoBulkAll elems + uptoBulkAll spare + 1
  | .agg parts => uptoBulkAll parts + 1
  | .iface _ d => uptoBulk d + 1
  | .map entries => uptoBulkEntries entries + 1
  | .held _ => 1
def uptoBulkAll {H : Type} : List (DataW H) → Nat
  | [] => 0
  | d :: r => uptoBulk d + uptoBulkAll r
def uptoBulkEntries {H : Type} : List (Lit × DataW H) → Nat
  | [] => 0
  | x :: r => uptoBulkEntry x + uptoBulkEntries r
def uptoBulkEntry {H : Type} : Lit × DataW H → Nat
  | (.string bytes, d) => bytes.length + uptoBulk d + 1
  | (_, d) => uptoBulk d + 1
 end
def uptoSmall : (H : Type) → List (DataW H) → Bool := fun _ ds => decide (uptoBulkAll ds ≤ 1048576)
def OpenSpec.upto (s : _root_.Go.ChangeSpec) : _root_.Go.OpenSpec := { _root_.Go.OpenSpec.ofChange s with cond := some uptoSmall }

/-- 'postroomlaw6.FrameBack', WHERE WHAT IT READS IS OF BULK AT MOST 1048576: true; the input reads as it did. -/
def frameBackUptoRow : OpenClaim := { program := "ytbhbbnfkblibfaadoor", sum := "38ed1f09e88f18ee1833d2f258ced7509734777197180ae03fca8e6a7befe0a2", func := "postroom/postroomlaw6.FrameBack", spec := "frameBack", named := ["postroom/crc.table"], apart := false, laid := [("postroom/crc.table", laid_postroom_crc_table)], narrowed := true }
def FrameBackUptoSaid : Prop := frameBackUptoRow.holds Tryd.pinned (OpenSpec.upto frameBackSpec)

/-- 'postroomlaw6.FrameLong', WHERE WHAT IT READS IS OF BULK AT MOST 1048576: true; the input reads as it did. -/
def frameLongUptoRow : OpenClaim := { program := "ytbhbbnfkblibfaadoor", sum := "38ed1f09e88f18ee1833d2f258ced7509734777197180ae03fca8e6a7befe0a2", func := "postroom/postroomlaw6.FrameLong", spec := "frameLong", named := ["postroom/crc.table"], apart := false, laid := [("postroom/crc.table", laid_postroom_crc_table)], narrowed := true }
def FrameLongUptoSaid : Prop := frameLongUptoRow.holds Tryd.pinned (OpenSpec.upto frameLongSpec)

/-- 'postroomlaw6.FrameTorn', WHERE WHAT IT READS IS OF BULK AT MOST 1048576: true; the input reads as it did. -/
def frameTornUptoRow : OpenClaim := { program := "ytbhbbnfkblibfaadoor", sum := "38ed1f09e88f18ee1833d2f258ced7509734777197180ae03fca8e6a7befe0a2", func := "postroom/postroomlaw6.FrameTorn", spec := "frameTorn", unfollowed := true, recurses := true, named := ["postroom/crc.table"], apart := false, laid := [("postroom/crc.table", laid_postroom_crc_table)], narrowed := true }
def FrameTornUptoSaid : Prop := frameTornUptoRow.holds Tryd.pinned (OpenSpec.upto frameTornSpec)

/-- 'postroomlaw6.FrameSpoils', WHERE WHAT IT READS IS OF BULK AT MOST 1048576: true; the input reads as it did. -/
def frameSpoilsUptoRow : OpenClaim := { program := "ytbhbbnfkblibfaadoor", sum := "38ed1f09e88f18ee1833d2f258ced7509734777197180ae03fca8e6a7befe0a2", func := "postroom/postroomlaw6.FrameSpoils", spec := "frameSpoils", unfollowed := true, recurses := true, named := ["postroom/crc.table"], apart := false, laid := [("postroom/crc.table", laid_postroom_crc_table)], narrowed := true }
def FrameSpoilsUptoSaid : Prop := frameSpoilsUptoRow.holds Tryd.pinned (OpenSpec.upto frameSpoilsSpec)

/-- 'postroomlaw6.FrameParts', WHERE WHAT IT READS IS OF BULK AT MOST 1048576: true; the input reads as it did. -/
def framePartsUptoRow : OpenClaim := { program := "ytbhbbnfkblibfaadoor", sum := "38ed1f09e88f18ee1833d2f258ced7509734777197180ae03fca8e6a7befe0a2", func := "postroom/postroomlaw6.FrameParts", spec := "frameParts", unfollowed := true, recurses := true, named := ["postroom/crc.table"], apart := false, laid := [("postroom/crc.table", laid_postroom_crc_table)], narrowed := true }
def FramePartsUptoSaid : Prop := framePartsUptoRow.holds Tryd.pinned (OpenSpec.upto framePartsSpec)

/-- 'postroomlaw6.FrameOne', WHERE WHAT IT READS IS OF BULK AT MOST 1048576: true; the input reads as it did. -/
def frameOneUptoRow : OpenClaim := { program := "ytbhbbnfkblibfaadoor", sum := "38ed1f09e88f18ee1833d2f258ced7509734777197180ae03fca8e6a7befe0a2", func := "postroom/postroomlaw6.FrameOne", spec := "frameOne", unfollowed := true, recurses := true, named := ["postroom/crc.table"], apart := false, laid := [("postroom/crc.table", laid_postroom_crc_table)], narrowed := true }
def FrameOneUptoSaid : Prop := frameOneUptoRow.holds Tryd.pinned (OpenSpec.upto frameOneSpec)

/-- 'postroomlaw6.FrameTells', WHERE WHAT IT READS IS OF BULK AT MOST 1048576: true; the input reads as it did. -/
def frameTellsUptoRow : OpenClaim := { program := "ytbhbbnfkblibfaadoor", sum := "38ed1f09e88f18ee1833d2f258ced7509734777197180ae03fca8e6a7befe0a2", func := "postroom/postroomlaw6.FrameTells", spec := "frameTells", unfollowed := true, recurses := true, named := ["postroom/crc.table"], apart := false, laid := [("postroom/crc.table", laid_postroom_crc_table)], narrowed := true }
def FrameTellsUptoSaid : Prop := frameTellsUptoRow.holds Tryd.pinned (OpenSpec.upto frameTellsSpec)

end Rows
end Go.Proofs.YtbhbbnfkblibfaaDoor
