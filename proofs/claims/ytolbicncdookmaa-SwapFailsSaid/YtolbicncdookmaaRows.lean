/-
  No cell of these rows narrows 'for every input' (looked for: loops, veiled, ifaces, maps, wideKeys, modest, calm, conditions, laid).
  DERIVED. THE GIVEN ROWS OF THIS SEAT. 7 by the template 'for every input the law returns true; each argument reads behind the call as it read before'; 0 by the template 'total and deterministic' (their statements: YtolbicncdookmaaTotals.lean).
  GIVEN WITH THE SEED: the statements are not yours to turn. If you find one false, say at which input.
  Laid BY PROGRAM, IN A SANDBOX (cutbox-rows.mjs): the forced cells as the released guide's own fill.sh prints them over the translation 906bab31aee35575… (all of the seat's roots in one cut). By AI agents, Wed Nov 11 2026. No macro, syntax, notation, axiom, sorry.
-/
import Derived.Test.YtolbicncdookmaaChecked
import GoSem.Claim
import GoSem.ClaimJoined
import GoSem.ClaimMapViews
import Derived.JoinedTies
import Derived.KernelRfl
namespace Go.Proofs.Ytolbicncdookmaa
/- THE CELL 'sum', in the pinned program and in every row, IS THE sha256 OF THE DUMP (.gsa) THAT YtolbicncdookmaaProg.lean LOADS. Nothing in Lean hashes anything: it is a label: what it is worth is what the hold of that sum in a sandbox is worth. -/
noncomputable def Try.pinned : Pinned := { name := "ytolbicncdookmaa", sum := "906bab31aee355754623b06116f747e00fc9d46409041fd01cb921b561d6d009", checked := Try.checked }
namespace Rows
def none {H : Type} : Left H := { results := [], args := [] }

/-- 'postroomlaw7.DiskFront': WHATEVER THE INPUT: true; the input reads as it did. -/
def diskFrontSpec : ChangeSpec := { name := "diskFront", fn := fun _ => fun
  | [d1, d2, d3] => { results := [.lit (.bool true)], args := [d1, d2, d3] }
  | _ => none }
def diskFrontRow : OpenClaim := { program := "ytolbicncdookmaa", sum := "906bab31aee355754623b06116f747e00fc9d46409041fd01cb921b561d6d009", func := "postroom/postroomlaw7.DiskFront", spec := "diskFront", inPlace := ["maps.clone"], unfollowed := true, recurses := true, apart := false }
def DiskFrontSaid : Prop := diskFrontRow.holds Try.pinned (OpenSpec.ofChange diskFrontSpec)

/-- ITS FALSE NEIGHBOUR: 'it returns false'. Refute it at one input. -/
def diskFrontWrong : ChangeSpec := { name := "diskFront", fn := fun _ => fun
  | [d1, d2, d3] => { results := [.lit (.bool false)], args := [d1, d2, d3] }
  | _ => none }
def DiskFrontWrongFalsely : Prop := diskFrontRow.holds Try.pinned (OpenSpec.ofChange diskFrontWrong)

/-- 'postroomlaw7.DiskRename': WHATEVER THE INPUT: true; the input reads as it did. -/
def diskRenameSpec : ChangeSpec := { name := "diskRename", fn := fun _ => fun
  | [d1, d2, d3, d4] => { results := [.lit (.bool true)], args := [d1, d2, d3, d4] }
  | _ => none }
def diskRenameRow : OpenClaim := { program := "ytolbicncdookmaa", sum := "906bab31aee355754623b06116f747e00fc9d46409041fd01cb921b561d6d009", func := "postroom/postroomlaw7.DiskRename", spec := "diskRename", inPlace := ["maps.clone"], unfollowed := true, recurses := true, apart := false }
def DiskRenameSaid : Prop := diskRenameRow.holds Try.pinned (OpenSpec.ofChange diskRenameSpec)

/-- ITS FALSE NEIGHBOUR: 'it returns false'. Refute it at one input. -/
def diskRenameWrong : ChangeSpec := { name := "diskRename", fn := fun _ => fun
  | [d1, d2, d3, d4] => { results := [.lit (.bool false)], args := [d1, d2, d3, d4] }
  | _ => none }
def DiskRenameWrongFalsely : Prop := diskRenameRow.holds Try.pinned (OpenSpec.ofChange diskRenameWrong)

/-- 'postroomlaw7.DiskFails': WHATEVER THE INPUT: true; the input reads as it did. -/
def diskFailsSpec : ChangeSpec := { name := "diskFails", fn := fun _ => fun
  | [d1, d2, d3] => { results := [.lit (.bool true)], args := [d1, d2, d3] }
  | _ => none }
def diskFailsRow : OpenClaim := { program := "ytolbicncdookmaa", sum := "906bab31aee355754623b06116f747e00fc9d46409041fd01cb921b561d6d009", func := "postroom/postroomlaw7.DiskFails", spec := "diskFails", inPlace := ["maps.clone"], unfollowed := true, recurses := true, apart := false }
def DiskFailsSaid : Prop := diskFailsRow.holds Try.pinned (OpenSpec.ofChange diskFailsSpec)

/-- ITS FALSE NEIGHBOUR: 'it returns false'. Refute it at one input. -/
def diskFailsWrong : ChangeSpec := { name := "diskFails", fn := fun _ => fun
  | [d1, d2, d3] => { results := [.lit (.bool false)], args := [d1, d2, d3] }
  | _ => none }
def DiskFailsWrongFalsely : Prop := diskFailsRow.holds Try.pinned (OpenSpec.ofChange diskFailsWrong)

/-- 'postroomlaw8.SwapNames': WHATEVER THE INPUT: true; the input reads as it did. -/
def swapNamesSpec : ChangeSpec := { name := "swapNames", fn := fun _ => fun
  | [d1, d2] => { results := [.lit (.bool true)], args := [d1, d2] }
  | _ => none }
def swapNamesRow : OpenClaim := { program := "ytolbicncdookmaa", sum := "906bab31aee355754623b06116f747e00fc9d46409041fd01cb921b561d6d009", func := "postroom/postroomlaw8.SwapNames", spec := "swapNames", inPlace := ["maps.clone"], unfollowed := true, recurses := true, apart := false }
def SwapNamesSaid : Prop := swapNamesRow.holds Try.pinned (OpenSpec.ofChange swapNamesSpec)

/-- ITS FALSE NEIGHBOUR: 'it returns false'. Refute it at one input. -/
def swapNamesWrong : ChangeSpec := { name := "swapNames", fn := fun _ => fun
  | [d1, d2] => { results := [.lit (.bool false)], args := [d1, d2] }
  | _ => none }
def SwapNamesWrongFalsely : Prop := swapNamesRow.holds Try.pinned (OpenSpec.ofChange swapNamesWrong)

/-- 'postroomlaw8.SwapFails': WHATEVER THE INPUT: true; the input reads as it did. -/
def swapFailsSpec : ChangeSpec := { name := "swapFails", fn := fun _ => fun
  | [d1, d2, d3, d4] => { results := [.lit (.bool true)], args := [d1, d2, d3, d4] }
  | _ => none }
def swapFailsRow : OpenClaim := { program := "ytolbicncdookmaa", sum := "906bab31aee355754623b06116f747e00fc9d46409041fd01cb921b561d6d009", func := "postroom/postroomlaw8.SwapFails", spec := "swapFails", inPlace := ["maps.clone"], unfollowed := true, recurses := true, apart := false }
def SwapFailsSaid : Prop := swapFailsRow.holds Try.pinned (OpenSpec.ofChange swapFailsSpec)

/-- ITS FALSE NEIGHBOUR: 'it returns false'. Refute it at one input. -/
def swapFailsWrong : ChangeSpec := { name := "swapFails", fn := fun _ => fun
  | [d1, d2, d3, d4] => { results := [.lit (.bool false)], args := [d1, d2, d3, d4] }
  | _ => none }
def SwapFailsWrongFalsely : Prop := swapFailsRow.holds Try.pinned (OpenSpec.ofChange swapFailsWrong)

/-- 'postroomlaw8.SwapTwo': WHATEVER THE INPUT: true; the input reads as it did. -/
def swapTwoSpec : ChangeSpec := { name := "swapTwo", fn := fun _ => fun
  | [d1, d2, d3] => { results := [.lit (.bool true)], args := [d1, d2, d3] }
  | _ => none }
def swapTwoRow : OpenClaim := { program := "ytolbicncdookmaa", sum := "906bab31aee355754623b06116f747e00fc9d46409041fd01cb921b561d6d009", func := "postroom/postroomlaw8.SwapTwo", spec := "swapTwo", inPlace := ["maps.clone"], unfollowed := true, recurses := true, apart := false }
def SwapTwoSaid : Prop := swapTwoRow.holds Try.pinned (OpenSpec.ofChange swapTwoSpec)

/-- ITS FALSE NEIGHBOUR: 'it returns false'. Refute it at one input. -/
def swapTwoWrong : ChangeSpec := { name := "swapTwo", fn := fun _ => fun
  | [d1, d2, d3] => { results := [.lit (.bool false)], args := [d1, d2, d3] }
  | _ => none }
def SwapTwoWrongFalsely : Prop := swapTwoRow.holds Try.pinned (OpenSpec.ofChange swapTwoWrong)

/-- 'postroomlaw8.SwapWhole': WHATEVER THE INPUT: true; the input reads as it did. -/
def swapWholeSpec : ChangeSpec := { name := "swapWhole", fn := fun _ => fun
  | [d1, d2, d3] => { results := [.lit (.bool true)], args := [d1, d2, d3] }
  | _ => none }
def swapWholeRow : OpenClaim := { program := "ytolbicncdookmaa", sum := "906bab31aee355754623b06116f747e00fc9d46409041fd01cb921b561d6d009", func := "postroom/postroomlaw8.SwapWhole", spec := "swapWhole", inPlace := ["maps.clone"], unfollowed := true, recurses := true, apart := false }
def SwapWholeSaid : Prop := swapWholeRow.holds Try.pinned (OpenSpec.ofChange swapWholeSpec)

/-- ITS FALSE NEIGHBOUR: 'it returns false'. Refute it at one input. -/
def swapWholeWrong : ChangeSpec := { name := "swapWhole", fn := fun _ => fun
  | [d1, d2, d3] => { results := [.lit (.bool false)], args := [d1, d2, d3] }
  | _ => none }
def SwapWholeWrongFalsely : Prop := swapWholeRow.holds Try.pinned (OpenSpec.ofChange swapWholeWrong)

/- THE SECOND FORM. 'bulk': how many values and letters a reading holds, each counted each time it is reached (what is shared counts as often as it is met; a slice's spare places count too). A statement '..UptoSaid' is the law's where the arguments, and the package variables that the reading takes, are together of bulk at most 1048576: NARROWER than '..Said'. Prove '..Said' where nothing that the law and all that it calls make is longer than what came in: it says more and counts as full. Else prove '..UptoSaid'. A law counts once. -/
mutual
def uptoBulk {H : Type} : DataW H → Nat
  | .lit (.string bytes) => bytes.length + 1
  | .lit _ => 1
  | .nil => 1
  | .ptr d => uptoBulk d + 1
  | .slice elems spare => uptoBulkAll elems + uptoBulkAll spare + 1
  | .agg parts => uptoBulkAll parts + 1
  | .iface _ d => uptoBulk d + 1
  | .map entries => uptoBulkEntries entries + 1
  | .held _ => 1
def uptoBulkAll {H : Type} : List (DataW H) → Nat
  | [] => 0
  | d :: r => uptoBulk d + uptoBulkAll r
def uptoBulkEntries {H : Type} : List (Lit × DataW H) → Nat
  | [] => 0
  | x :: r => uptoBulkEntry x + uptoBulkEntries r
def uptoBulkEntry {H : Type} : Lit × DataW H → Nat
  | (.string bytes, d) => bytes.length + uptoBulk d + 1
  | (_, d) => uptoBulk d + 1
 end
def uptoSmall : (H : Type) → List (DataW H) → Bool := fun _ ds => decide (uptoBulkAll ds ≤ 1048576)
def OpenSpec.upto (s : _root_.Go.ChangeSpec) : _root_.Go.OpenSpec := { _root_.Go.OpenSpec.ofChange s with cond := some uptoSmall }

/-- 'postroomlaw7.DiskFront', WHERE WHAT IT READS IS OF BULK AT MOST 1048576: true; the input reads as it did. -/
def diskFrontUptoRow : OpenClaim := { program := "ytolbicncdookmaa", sum := "906bab31aee355754623b06116f747e00fc9d46409041fd01cb921b561d6d009", func := "postroom/postroomlaw7.DiskFront", spec := "diskFront", inPlace := ["maps.clone"], unfollowed := true, recurses := true, apart := false, narrowed := true }
def DiskFrontUptoSaid : Prop := diskFrontUptoRow.holds Try.pinned (OpenSpec.upto diskFrontSpec)

/-- 'postroomlaw7.DiskRename', WHERE WHAT IT READS IS OF BULK AT MOST 1048576: true; the input reads as it did. -/
def diskRenameUptoRow : OpenClaim := { program := "ytolbicncdookmaa", sum := "906bab31aee355754623b06116f747e00fc9d46409041fd01cb921b561d6d009", func := "postroom/postroomlaw7.DiskRename", spec := "diskRename", inPlace := ["maps.clone"], unfollowed := true, recurses := true, apart := false, narrowed := true }
def DiskRenameUptoSaid : Prop := diskRenameUptoRow.holds Try.pinned (OpenSpec.upto diskRenameSpec)

/-- 'postroomlaw7.DiskFails', WHERE WHAT IT READS IS OF BULK AT MOST 1048576: true; the input reads as it did. -/
def diskFailsUptoRow : OpenClaim := { program := "ytolbicncdookmaa", sum := "906bab31aee355754623b06116f747e00fc9d46409041fd01cb921b561d6d009", func := "postroom/postroomlaw7.DiskFails", spec := "diskFails", inPlace := ["maps.clone"], unfollowed := true, recurses := true, apart := false, narrowed := true }
def DiskFailsUptoSaid : Prop := diskFailsUptoRow.holds Try.pinned (OpenSpec.upto diskFailsSpec)

/-- 'postroomlaw8.SwapNames', WHERE WHAT IT READS IS OF BULK AT MOST 1048576: true; the input reads as it did. -/
def swapNamesUptoRow : OpenClaim := { program := "ytolbicncdookmaa", sum := "906bab31aee355754623b06116f747e00fc9d46409041fd01cb921b561d6d009", func := "postroom/postroomlaw8.SwapNames", spec := "swapNames", inPlace := ["maps.clone"], unfollowed := true, recurses := true, apart := false, narrowed := true }
def SwapNamesUptoSaid : Prop := swapNamesUptoRow.holds Try.pinned (OpenSpec.upto swapNamesSpec)

/-- 'postroomlaw8.SwapFails', WHERE WHAT IT READS IS OF BULK AT MOST 1048576: true; the input reads as it did. -/
def swapFailsUptoRow : OpenClaim := { program := "ytolbicncdookmaa", sum := "906bab31aee355754623b06116f747e00fc9d46409041fd01cb921b561d6d009", func := "postroom/postroomlaw8.SwapFails", spec := "swapFails", inPlace := ["maps.clone"], unfollowed := true, recurses := true, apart := false, narrowed := true }
def SwapFailsUptoSaid : Prop := swapFailsUptoRow.holds Try.pinned (OpenSpec.upto swapFailsSpec)

/-- 'postroomlaw8.SwapTwo', WHERE WHAT IT READS IS OF BULK AT MOST 1048576: true; the input reads as it did. -/
def swapTwoUptoRow : OpenClaim := { program := "ytolbicncdookmaa", sum := "906bab31aee355754623b06116f747e00fc9d46409041fd01cb921b561d6d009", func := "postroom/postroomlaw8.SwapTwo", spec := "swapTwo", inPlace := ["maps.clone"], unfollowed := true, recurses := true, apart := false, narrowed := true }
def SwapTwoUptoSaid : Prop := swapTwoUptoRow.holds Try.pinned (OpenSpec.upto swapTwoSpec)

/-- 'postroomlaw8.SwapWhole', WHERE WHAT IT READS IS OF BULK AT MOST 1048576: true; the input reads as it did. -/
def swapWholeUptoRow : OpenClaim := { program := "ytolbicncdookmaa", sum := "906bab31aee355754623b06116f747e00fc9d46409041fd01cb921b561d6d009", func := "postroom/postroomlaw8.SwapWhole", spec := "swapWhole", inPlace := ["maps.clone"], unfollowed := true, recurses := true, apart := false, narrowed := true }
def SwapWholeUptoSaid : Prop := swapWholeUptoRow.holds Try.pinned (OpenSpec.upto swapWholeSpec)

end Rows
end Go.Proofs.Ytolbicncdookmaa
