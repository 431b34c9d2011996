/-
  NARROWER THAN 'FOR EVERY INPUT', by the rows' own cells (each row's printed sentence says how): LedgerJoins: laid · LedgerCounts: laid · LedgerDone: laid · LedgerOrder: laid · LedgerEvicts: laid · LedgerRight: laid · LedgerPlays: laid.
  DERIVED. THE GIVEN ROWS OF THIS SEAT. 7 by the template 'for every input the law returns true; each argument reads behind the call as it read before'; 0 by the template 'total and deterministic' (their statements: YthhmpjapnkilcaaDoorTotals.lean).
  GIVEN WITH THE SEED: the statements are not yours to turn. If you find one false, say at which input.
  Laid BY PROGRAM, IN A SANDBOX (cutbox-rows.mjs): the forced cells as the released guide's own fill.sh prints them over the translation b7dba4be0a0b121b… (all of the seat's roots in one cut). By AI agents, Wed Nov 11 2026. No macro, syntax, notation, axiom, sorry.
-/
import Derived.Test.YthhmpjapnkilcaaDoorChecked
import GoSem.PinnedTables
import GoSem.Claim
import GoSem.ClaimJoined
import GoSem.ClaimMapViews
import Derived.JoinedTies
import Derived.KernelRfl
namespace Go.Proofs.YthhmpjapnkilcaaDoor
/- THE CELL 'sum', in the pinned program and in every row, IS THE sha256 OF THE DUMP (.gsa) THAT YthhmpjapnkilcaaDoorProg.lean LOADS. Nothing in Lean hashes anything: it is a label: what it is worth is what the hold of that sum in a sandbox is worth. -/
noncomputable def Tryd.pinned : Pinned := { name := "ythhmpjapnkilcaadoor", sum := "b7dba4be0a0b121b1f2a0992314710c02d62f06f8bafab2a633e10f08720eaac", checked := Tryd.checked }
namespace Rows
def none {H : Type} : Left H := { results := [], args := [] }

/- WHAT THE LISTED PACKAGE-LEVEL VARIABLES READ AS WHEN THE CALL BEGINS. Each datum BY PROGRAM (the guide's laid-datum.mjs) off the statement by which the dump's own 'gosem.cut.vars' lays the variable. In a bare row this is a premise. The card (YthhmpjapnkilcaaDoorCards.lean) ties it to the program's text. -/
def laid_unicode_utf8_acceptRanges {H : Type} : DataW H := .agg [.agg [.lit (.int .u8 128), .lit (.int .u8 191)], .agg [.lit (.int .u8 160), .lit (.int .u8 191)], .agg [.lit (.int .u8 128), .lit (.int .u8 159)], .agg [.lit (.int .u8 144), .lit (.int .u8 191)], .agg [.lit (.int .u8 128), .lit (.int .u8 143)], .agg [.lit (.int .u8 0), .lit (.int .u8 0)], .agg [.lit (.int .u8 0), .lit (.int .u8 0)], .agg [.lit (.int .u8 0), .lit (.int .u8 0)], .agg [.lit (.int .u8 0), .lit (.int .u8 0)], .agg [.lit (.int .u8 0), .lit (.int .u8 0)], .agg [.lit (.int .u8 0), .lit (.int .u8 0)], .agg [.lit (.int .u8 0), .lit (.int .u8 0)], .agg [.lit (.int .u8 0), .lit (.int .u8 0)], .agg [.lit (.int .u8 0), .lit (.int .u8 0)], .agg [.lit (.int .u8 0), .lit (.int .u8 0)], .agg [.lit (.int .u8 0), .lit (.int .u8 0)]]
/-- One of Go's own tables, pinned by name: the form's constant. -/
def laid_unicode_utf8_first : DataW Unit := Go.Pinned.utf8First

/-- 'postroomlaw10.LedgerJoins': WHATEVER THE INPUT: true; the input reads as it did. -/
def ledgerJoinsSpec : ChangeSpec := { name := "ledgerJoins", fn := fun _ => fun
  | [d1, d2, d3] => { results := [.lit (.bool true)], args := [d1, d2, d3] }
  | _ => none }
def ledgerJoinsRow : OpenClaim := { program := "ythhmpjapnkilcaadoor", sum := "b7dba4be0a0b121b1f2a0992314710c02d62f06f8bafab2a633e10f08720eaac", func := "postroom/postroomlaw10.LedgerJoins", spec := "ledgerJoins", inPlace := ["internal/bytealg.IndexByteString", "internal/bytealg.IndexString", "slices.overlaps[uint64]"], unfollowed := true, recurses := true, named := ["unicode/utf8.first", "unicode/utf8.acceptRanges", "internal/bytealg.MaxLen"], apart := false, laid := [("unicode/utf8.acceptRanges", laid_unicode_utf8_acceptRanges), ("unicode/utf8.first", laid_unicode_utf8_first)] }
def LedgerJoinsSaid : Prop := ledgerJoinsRow.holds Tryd.pinned (OpenSpec.ofChange ledgerJoinsSpec)

/-- ITS FALSE NEIGHBOUR: 'it returns false'. Refute it at one input. -/
def ledgerJoinsWrong : ChangeSpec := { name := "ledgerJoins", fn := fun _ => fun
  | [d1, d2, d3] => { results := [.lit (.bool false)], args := [d1, d2, d3] }
  | _ => none }
def LedgerJoinsWrongFalsely : Prop := ledgerJoinsRow.holds Tryd.pinned (OpenSpec.ofChange ledgerJoinsWrong)

/-- 'postroomlaw10.LedgerCounts': WHATEVER THE INPUT: true; the input reads as it did. -/
def ledgerCountsSpec : ChangeSpec := { name := "ledgerCounts", fn := fun _ => fun
  | [d1, d2] => { results := [.lit (.bool true)], args := [d1, d2] }
  | _ => none }
def ledgerCountsRow : OpenClaim := { program := "ythhmpjapnkilcaadoor", sum := "b7dba4be0a0b121b1f2a0992314710c02d62f06f8bafab2a633e10f08720eaac", func := "postroom/postroomlaw10.LedgerCounts", spec := "ledgerCounts", inPlace := ["internal/bytealg.IndexByteString", "internal/bytealg.IndexString", "slices.overlaps[uint64]"], unfollowed := true, recurses := true, named := ["unicode/utf8.first", "unicode/utf8.acceptRanges", "internal/bytealg.MaxLen"], apart := false, laid := [("unicode/utf8.acceptRanges", laid_unicode_utf8_acceptRanges), ("unicode/utf8.first", laid_unicode_utf8_first)] }
def LedgerCountsSaid : Prop := ledgerCountsRow.holds Tryd.pinned (OpenSpec.ofChange ledgerCountsSpec)

/-- ITS FALSE NEIGHBOUR: 'it returns false'. Refute it at one input. -/
def ledgerCountsWrong : ChangeSpec := { name := "ledgerCounts", fn := fun _ => fun
  | [d1, d2] => { results := [.lit (.bool false)], args := [d1, d2] }
  | _ => none }
def LedgerCountsWrongFalsely : Prop := ledgerCountsRow.holds Tryd.pinned (OpenSpec.ofChange ledgerCountsWrong)

/-- 'postroomlaw10.LedgerDone': WHATEVER THE INPUT: true; the input reads as it did. -/
def ledgerDoneSpec : ChangeSpec := { name := "ledgerDone", fn := fun _ => fun
  | [d1, d2, d3, d4] => { results := [.lit (.bool true)], args := [d1, d2, d3, d4] }
  | _ => none }
def ledgerDoneRow : OpenClaim := { program := "ythhmpjapnkilcaadoor", sum := "b7dba4be0a0b121b1f2a0992314710c02d62f06f8bafab2a633e10f08720eaac", func := "postroom/postroomlaw10.LedgerDone", spec := "ledgerDone", inPlace := ["internal/bytealg.IndexByteString", "internal/bytealg.IndexString", "slices.overlaps[uint64]"], unfollowed := true, recurses := true, named := ["unicode/utf8.first", "unicode/utf8.acceptRanges", "internal/bytealg.MaxLen"], apart := false, laid := [("unicode/utf8.acceptRanges", laid_unicode_utf8_acceptRanges), ("unicode/utf8.first", laid_unicode_utf8_first)] }
def LedgerDoneSaid : Prop := ledgerDoneRow.holds Tryd.pinned (OpenSpec.ofChange ledgerDoneSpec)

/-- ITS FALSE NEIGHBOUR: 'it returns false'. Refute it at one input. -/
def ledgerDoneWrong : ChangeSpec := { name := "ledgerDone", fn := fun _ => fun
  | [d1, d2, d3, d4] => { results := [.lit (.bool false)], args := [d1, d2, d3, d4] }
  | _ => none }
def LedgerDoneWrongFalsely : Prop := ledgerDoneRow.holds Tryd.pinned (OpenSpec.ofChange ledgerDoneWrong)

/-- 'postroomlaw10.LedgerOrder': WHATEVER THE INPUT: true; the input reads as it did. -/
def ledgerOrderSpec : ChangeSpec := { name := "ledgerOrder", fn := fun _ => fun
  | [d1, d2, d3, d4, d5, d6] => { results := [.lit (.bool true)], args := [d1, d2, d3, d4, d5, d6] }
  | _ => none }
def ledgerOrderRow : OpenClaim := { program := "ythhmpjapnkilcaadoor", sum := "b7dba4be0a0b121b1f2a0992314710c02d62f06f8bafab2a633e10f08720eaac", func := "postroom/postroomlaw10.LedgerOrder", spec := "ledgerOrder", inPlace := ["internal/bytealg.IndexByteString", "internal/bytealg.IndexString", "slices.overlaps[uint64]"], unfollowed := true, recurses := true, named := ["unicode/utf8.first", "unicode/utf8.acceptRanges", "internal/bytealg.MaxLen"], apart := false, laid := [("unicode/utf8.acceptRanges", laid_unicode_utf8_acceptRanges), ("unicode/utf8.first", laid_unicode_utf8_first)] }
def LedgerOrderSaid : Prop := ledgerOrderRow.holds Tryd.pinned (OpenSpec.ofChange ledgerOrderSpec)

/-- ITS FALSE NEIGHBOUR: 'it returns false'. Refute it at one input. -/
def ledgerOrderWrong : ChangeSpec := { name := "ledgerOrder", fn := fun _ => fun
  | [d1, d2, d3, d4, d5, d6] => { results := [.lit (.bool false)], args := [d1, d2, d3, d4, d5, d6] }
  | _ => none }
def LedgerOrderWrongFalsely : Prop := ledgerOrderRow.holds Tryd.pinned (OpenSpec.ofChange ledgerOrderWrong)

/-- 'postroomlaw10.LedgerEvicts': WHATEVER THE INPUT: true; the input reads as it did. -/
def ledgerEvictsSpec : ChangeSpec := { name := "ledgerEvicts", fn := fun _ => fun
  | [d1, d2] => { results := [.lit (.bool true)], args := [d1, d2] }
  | _ => none }
def ledgerEvictsRow : OpenClaim := { program := "ythhmpjapnkilcaadoor", sum := "b7dba4be0a0b121b1f2a0992314710c02d62f06f8bafab2a633e10f08720eaac", func := "postroom/postroomlaw10.LedgerEvicts", spec := "ledgerEvicts", inPlace := ["internal/bytealg.IndexByteString", "internal/bytealg.IndexString", "slices.overlaps[uint64]"], unfollowed := true, recurses := true, named := ["unicode/utf8.first", "unicode/utf8.acceptRanges", "internal/bytealg.MaxLen"], apart := false, laid := [("unicode/utf8.acceptRanges", laid_unicode_utf8_acceptRanges), ("unicode/utf8.first", laid_unicode_utf8_first)] }
def LedgerEvictsSaid : Prop := ledgerEvictsRow.holds Tryd.pinned (OpenSpec.ofChange ledgerEvictsSpec)

/-- ITS FALSE NEIGHBOUR: 'it returns false'. Refute it at one input. -/
def ledgerEvictsWrong : ChangeSpec := { name := "ledgerEvicts", fn := fun _ => fun
  | [d1, d2] => { results := [.lit (.bool false)], args := [d1, d2] }
  | _ => none }
def LedgerEvictsWrongFalsely : Prop := ledgerEvictsRow.holds Tryd.pinned (OpenSpec.ofChange ledgerEvictsWrong)

/-- 'postroomlaw10.LedgerRight': WHATEVER THE INPUT: true; the input reads as it did. -/
def ledgerRightSpec : ChangeSpec := { name := "ledgerRight", fn := fun _ => fun
  | [d1, d2, d3] => { results := [.lit (.bool true)], args := [d1, d2, d3] }
  | _ => none }
def ledgerRightRow : OpenClaim := { program := "ythhmpjapnkilcaadoor", sum := "b7dba4be0a0b121b1f2a0992314710c02d62f06f8bafab2a633e10f08720eaac", func := "postroom/postroomlaw10.LedgerRight", spec := "ledgerRight", inPlace := ["internal/bytealg.IndexByteString", "internal/bytealg.IndexString", "slices.overlaps[uint64]"], unfollowed := true, recurses := true, named := ["unicode/utf8.first", "unicode/utf8.acceptRanges", "internal/bytealg.MaxLen"], apart := false, laid := [("unicode/utf8.acceptRanges", laid_unicode_utf8_acceptRanges), ("unicode/utf8.first", laid_unicode_utf8_first)] }
def LedgerRightSaid : Prop := ledgerRightRow.holds Tryd.pinned (OpenSpec.ofChange ledgerRightSpec)

/-- ITS FALSE NEIGHBOUR: 'it returns false'. Refute it at one input. -/
def ledgerRightWrong : ChangeSpec := { name := "ledgerRight", fn := fun _ => fun
  | [d1, d2, d3] => { results := [.lit (.bool false)], args := [d1, d2, d3] }
  | _ => none }
def LedgerRightWrongFalsely : Prop := ledgerRightRow.holds Tryd.pinned (OpenSpec.ofChange ledgerRightWrong)

/-- 'postroomlaw10.LedgerPlays': WHATEVER THE INPUT: true; the input reads as it did. -/
def ledgerPlaysSpec : ChangeSpec := { name := "ledgerPlays", fn := fun _ => fun
  | [d1, d2, d3] => { results := [.lit (.bool true)], args := [d1, d2, d3] }
  | _ => none }
def ledgerPlaysRow : OpenClaim := { program := "ythhmpjapnkilcaadoor", sum := "b7dba4be0a0b121b1f2a0992314710c02d62f06f8bafab2a633e10f08720eaac", func := "postroom/postroomlaw10.LedgerPlays", spec := "ledgerPlays", inPlace := ["internal/bytealg.IndexByteString", "internal/bytealg.IndexString", "slices.overlaps[uint64]"], unfollowed := true, recurses := true, named := ["unicode/utf8.first", "unicode/utf8.acceptRanges", "internal/bytealg.MaxLen"], apart := false, laid := [("unicode/utf8.acceptRanges", laid_unicode_utf8_acceptRanges), ("unicode/utf8.first", laid_unicode_utf8_first)] }
def LedgerPlaysSaid : Prop := ledgerPlaysRow.holds Tryd.pinned (OpenSpec.ofChange ledgerPlaysSpec)

/-- ITS FALSE NEIGHBOUR: 'it returns false'. Refute it at one input. -/
def ledgerPlaysWrong : ChangeSpec := { name := "ledgerPlays", fn := fun _ => fun
  | [d1, d2, d3] => { results := [.lit (.bool false)], args := [d1, d2, d3] }
  | _ => none }
def LedgerPlaysWrongFalsely : Prop := ledgerPlaysRow.holds Tryd.pinned (OpenSpec.ofChange ledgerPlaysWrong)

/- THE SECOND FORM. 'bulk': how many values and letters a reading holds, each counted each time it is reached (what is shared counts as often as it is met; a slice's spare places count too). A statement '..UptoSaid' is the law's where the arguments, and the package variables that the reading takes, are together of bulk at most 1048576: NARROWER than '..Said'. Prove '..Said' where nothing that the law and all that it calls make is longer than what came in: it says more and counts as full. Else prove '..UptoSaid'. A law counts once. -/
mutual
def uptoBulk {H : Type} : DataW H → Nat
  | .lit (.string bytes) => bytes.length + 1
  | .lit _ => 1
  | .nil => 1
  | .ptr d => uptoBulk d + 1
  | .slice elems spare => uptoBulkAll elems + uptoBulkAll spare + 1
  | .agg parts => uptoBulkAll parts + 1
  | .iface _ d => uptoBulk d + 1
  | .map entries => uptoBulkEntries entries + 1
  | .held _ => 1
def uptoBulkAll {H : Type} : List (DataW H) → Nat
  | [] => 0
  | d :: r => uptoBulk d + uptoBulkAll r
def uptoBulkEntries {H : Type} : List (Lit × DataW H) → Nat
  | [] => 0
  | x :: r => uptoBulkEntry x + uptoBulkEntries r
def uptoBulkEntry {H : Type} : Lit × DataW H → Nat
  | (.string bytes, d) => bytes.length + uptoBulk d + 1
  | (_, d) => uptoBulk d + 1
 end
def uptoSmall : (H : Type) → List (DataW H) → Bool := fun _ ds => decide (uptoBulkAll ds ≤ 1048576)
def OpenSpec.upto (s : _root_.Go.ChangeSpec) : _root_.Go.OpenSpec := { _root_.Go.OpenSpec.ofChange s with cond := some uptoSmall }

/-- 'postroomlaw10.LedgerJoins', WHERE WHAT IT READS IS OF BULK AT MOST 1048576: true; the input reads as it did. -/
def ledgerJoinsUptoRow : OpenClaim := { program := "ythhmpjapnkilcaadoor", sum := "b7dba4be0a0b121b1f2a0992314710c02d62f06f8bafab2a633e10f08720eaac", func := "postroom/postroomlaw10.LedgerJoins", spec := "ledgerJoins", inPlace := ["internal/bytealg.IndexByteString", "internal/bytealg.IndexString", "slices.overlaps[uint64]"], unfollowed := true, recurses := true, named := ["unicode/utf8.first", "unicode/utf8.acceptRanges", "internal/bytealg.MaxLen"], apart := false, laid := [("unicode/utf8.acceptRanges", laid_unicode_utf8_acceptRanges), ("unicode/utf8.first", laid_unicode_utf8_first)], narrowed := true }
def LedgerJoinsUptoSaid : Prop := ledgerJoinsUptoRow.holds Tryd.pinned (OpenSpec.upto ledgerJoinsSpec)

/-- 'postroomlaw10.LedgerCounts', WHERE WHAT IT READS IS OF BULK AT MOST 1048576: true; the input reads as it did. -/
def ledgerCountsUptoRow : OpenClaim := { program := "ythhmpjapnkilcaadoor", sum := "b7dba4be0a0b121b1f2a0992314710c02d62f06f8bafab2a633e10f08720eaac", func := "postroom/postroomlaw10.LedgerCounts", spec := "ledgerCounts", inPlace := ["internal/bytealg.IndexByteString", "internal/bytealg.IndexString", "slices.overlaps[uint64]"], unfollowed := true, recurses := true, named := ["unicode/utf8.first", "unicode/utf8.acceptRanges", "internal/bytealg.MaxLen"], apart := false, laid := [("unicode/utf8.acceptRanges", laid_unicode_utf8_acceptRanges), ("unicode/utf8.first", laid_unicode_utf8_first)], narrowed := true }
def LedgerCountsUptoSaid : Prop := ledgerCountsUptoRow.holds Tryd.pinned (OpenSpec.upto ledgerCountsSpec)

/-- 'postroomlaw10.LedgerDone', WHERE WHAT IT READS IS OF BULK AT MOST 1048576: true; the input reads as it did. -/
def ledgerDoneUptoRow : OpenClaim := { program := "ythhmpjapnkilcaadoor", sum := "b7dba4be0a0b121b1f2a0992314710c02d62f06f8bafab2a633e10f08720eaac", func := "postroom/postroomlaw10.LedgerDone", spec := "ledgerDone", inPlace := ["internal/bytealg.IndexByteString", "internal/bytealg.IndexString", "slices.overlaps[uint64]"], unfollowed := true, recurses := true, named := ["unicode/utf8.first", "unicode/utf8.acceptRanges", "internal/bytealg.MaxLen"], apart := false, laid := [("unicode/utf8.acceptRanges", laid_unicode_utf8_acceptRanges), ("unicode/utf8.first", laid_unicode_utf8_first)], narrowed := true }
def LedgerDoneUptoSaid : Prop := ledgerDoneUptoRow.holds Tryd.pinned (OpenSpec.upto ledgerDoneSpec)

/-- 'postroomlaw10.LedgerOrder', WHERE WHAT IT READS IS OF BULK AT MOST 1048576: true; the input reads as it did. -/
def ledgerOrderUptoRow : OpenClaim := { program := "ythhmpjapnkilcaadoor", sum := "b7dba4be0a0b121b1f2a0992314710c02d62f06f8bafab2a633e10f08720eaac", func := "postroom/postroomlaw10.LedgerOrder", spec := "ledgerOrder", inPlace := ["internal/bytealg.IndexByteString", "internal/bytealg.IndexString", "slices.overlaps[uint64]"], unfollowed := true, recurses := true, named := ["unicode/utf8.first", "unicode/utf8.acceptRanges", "internal/bytealg.MaxLen"], apart := false, laid := [("unicode/utf8.acceptRanges", laid_unicode_utf8_acceptRanges), ("unicode/utf8.first", laid_unicode_utf8_first)], narrowed := true }
def LedgerOrderUptoSaid : Prop := ledgerOrderUptoRow.holds Tryd.pinned (OpenSpec.upto ledgerOrderSpec)

/-- 'postroomlaw10.LedgerEvicts', WHERE WHAT IT READS IS OF BULK AT MOST 1048576: true; the input reads as it did. -/
def ledgerEvictsUptoRow : OpenClaim := { program := "ythhmpjapnkilcaadoor", sum := "b7dba4be0a0b121b1f2a0992314710c02d62f06f8bafab2a633e10f08720eaac", func := "postroom/postroomlaw10.LedgerEvicts", spec := "ledgerEvicts", inPlace := ["internal/bytealg.IndexByteString", "internal/bytealg.IndexString", "slices.overlaps[uint64]"], unfollowed := true, recurses := true, named := ["unicode/utf8.first", "unicode/utf8.acceptRanges", "internal/bytealg.MaxLen"], apart := false, laid := [("unicode/utf8.acceptRanges", laid_unicode_utf8_acceptRanges), ("unicode/utf8.first", laid_unicode_utf8_first)], narrowed := true }
def LedgerEvictsUptoSaid : Prop := ledgerEvictsUptoRow.holds Tryd.pinned (OpenSpec.upto ledgerEvictsSpec)

/-- 'postroomlaw10.LedgerRight', WHERE WHAT IT READS IS OF BULK AT MOST 1048576: true; the input reads as it did. -/
def ledgerRightUptoRow : OpenClaim := { program := "ythhmpjapnkilcaadoor", sum := "b7dba4be0a0b121b1f2a0992314710c02d62f06f8bafab2a633e10f08720eaac", func := "postroom/postroomlaw10.LedgerRight", spec := "ledgerRight", inPlace := ["internal/bytealg.IndexByteString", "internal/bytealg.IndexString", "slices.overlaps[uint64]"], unfollowed := true, recurses := true, named := ["unicode/utf8.first", "unicode/utf8.acceptRanges", "internal/bytealg.MaxLen"], apart := false, laid := [("unicode/utf8.acceptRanges", laid_unicode_utf8_acceptRanges), ("unicode/utf8.first", laid_unicode_utf8_first)], narrowed := true }
def LedgerRightUptoSaid : Prop := ledgerRightUptoRow.holds Tryd.pinned (OpenSpec.upto ledgerRightSpec)

/-- 'postroomlaw10.LedgerPlays', WHERE WHAT IT READS IS OF BULK AT MOST 1048576: true; the input reads as it did. -/
def ledgerPlaysUptoRow : OpenClaim := { program := "ythhmpjapnkilcaadoor", sum := "b7dba4be0a0b121b1f2a0992314710c02d62f06f8bafab2a633e10f08720eaac", func := "postroom/postroomlaw10.LedgerPlays", spec := "ledgerPlays", inPlace := ["internal/bytealg.IndexByteString", "internal/bytealg.IndexString", "slices.overlaps[uint64]"], unfollowed := true, recurses := true, named := ["unicode/utf8.first", "unicode/utf8.acceptRanges", "internal/bytealg.MaxLen"], apart := false, laid := [("unicode/utf8.acceptRanges", laid_unicode_utf8_acceptRanges), ("unicode/utf8.first", laid_unicode_utf8_first)], narrowed := true }
def LedgerPlaysUptoSaid : Prop := ledgerPlaysUptoRow.holds Tryd.pinned (OpenSpec.upto ledgerPlaysSpec)

end Rows
end Go.Proofs.YthhmpjapnkilcaaDoor
