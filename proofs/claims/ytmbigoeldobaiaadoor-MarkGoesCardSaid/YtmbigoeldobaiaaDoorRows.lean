/-
  NARROWER THAN 'FOR EVERY INPUT', by the rows' own cells (each row's printed sentence says how): MarkTells: laid · MarkBack: laid · MarkOne: laid · MarkGoes: laid · MarkShort: laid.
  DERIVED. THE GIVEN ROWS OF THIS SEAT. 5 by the template 'for every input the law returns true; each argument reads behind the call as it read before'; 0 by the template 'total and deterministic' (their statements: YtmbigoeldobaiaaDoorTotals.lean).
  GIVEN WITH THE SEED: the statements are not yours to turn. If you find one false, say at which input.
  Laid BY PROGRAM, IN A SANDBOX (cutbox-rows.mjs): the forced cells as the released guide's own fill.sh prints them over the translation 29083e739aac638e… (all of the seat's roots in one cut). By AI agents, Wed Nov 11 2026. No macro, syntax, notation, axiom, sorry.
-/
import Derived.Test.YtmbigoeldobaiaaDoorChecked
import GoSem.PinnedTables
import GoSem.Claim
import GoSem.ClaimJoined
import GoSem.ClaimMapViews
import Derived.JoinedTies
import Derived.KernelRfl
namespace Go.Proofs.YtmbigoeldobaiaaDoor
/- THE CELL 'sum', in the pinned program and in every row, IS THE sha256 OF THE DUMP (.gsa) THAT YtmbigoeldobaiaaDoorProg.lean LOADS. Nothing in Lean hashes anything: it is a label: what it is worth is what the hold of that sum in a sandbox is worth. -/
noncomputable def Tryd.pinned : Pinned := { name := "ytmbigoeldobaiaadoor", sum := "29083e739aac638e12fe0643bc33d9b63b80eee9d0f7c3d9a99f21331e0bfcd4", checked := Tryd.checked }
namespace Rows
def none {H : Type} : Left H := { results := [], args := [] }

/- WHAT THE LISTED PACKAGE-LEVEL VARIABLES READ AS WHEN THE CALL BEGINS. Each datum BY PROGRAM (the guide's laid-datum.mjs) off the statement by which the dump's own 'gosem.cut.vars' lays the variable. In a bare row this is a premise. The card (YtmbigoeldobaiaaDoorCards.lean) ties it to the program's text. -/
def laid_unicode_utf8_acceptRanges {H : Type} : DataW H := .agg [.agg [.lit (.int .u8 128), .lit (.int .u8 191)], .agg [.lit (.int .u8 160), .lit (.int .u8 191)], .agg [.lit (.int .u8 128), .lit (.int .u8 159)], .agg [.lit (.int .u8 144), .lit (.int .u8 191)], .agg [.lit (.int .u8 128), .lit (.int .u8 143)], .agg [.lit (.int .u8 0), .lit (.int .u8 0)], .agg [.lit (.int .u8 0), .lit (.int .u8 0)], .agg [.lit (.int .u8 0), .lit (.int .u8 0)], .agg [.lit (.int .u8 0), .lit (.int .u8 0)], .agg [.lit (.int .u8 0), .lit (.int .u8 0)], .agg [.lit (.int .u8 0), .lit (.int .u8 0)], .agg [.lit (.int .u8 0), .lit (.int .u8 0)], .agg [.lit (.int .u8 0), .lit (.int .u8 0)], .agg [.lit (.int .u8 0), .lit (.int .u8 0)], .agg [.lit (.int .u8 0), .lit (.int .u8 0)], .agg [.lit (.int .u8 0), .lit (.int .u8 0)]]
/-- One of Go's own tables, pinned by name: the form's constant. -/
def laid_unicode_utf8_first : DataW Unit := Go.Pinned.utf8First

/-- 'postroomlaw11.MarkTells': WHATEVER THE INPUT: true; the input reads as it did. -/
def markTellsSpec : ChangeSpec := { name := "markTells", fn := fun _ => fun
  | [d1, d2] => { results := [.lit (.bool true)], args := [d1, d2] }
  | _ => none }
def markTellsRow : OpenClaim := { program := "ytmbigoeldobaiaadoor", sum := "29083e739aac638e12fe0643bc33d9b63b80eee9d0f7c3d9a99f21331e0bfcd4", func := "postroom/postroomlaw11.MarkTells", spec := "markTells", inPlace := ["internal/bytealg.IndexByteString", "internal/bytealg.IndexString", "internal/abi.NoEscape"], unfollowed := true, recurses := true, named := ["unicode/utf8.first", "unicode/utf8.acceptRanges", "internal/bytealg.MaxLen"], apart := false, laid := [("unicode/utf8.acceptRanges", laid_unicode_utf8_acceptRanges), ("unicode/utf8.first", laid_unicode_utf8_first)] }
def MarkTellsSaid : Prop := markTellsRow.holds Tryd.pinned (OpenSpec.ofChange markTellsSpec)

/-- ITS FALSE NEIGHBOUR: 'it returns false'. Refute it at one input. -/
def markTellsWrong : ChangeSpec := { name := "markTells", fn := fun _ => fun
  | [d1, d2] => { results := [.lit (.bool false)], args := [d1, d2] }
  | _ => none }
def MarkTellsWrongFalsely : Prop := markTellsRow.holds Tryd.pinned (OpenSpec.ofChange markTellsWrong)

/-- 'postroomlaw11.MarkBack': WHATEVER THE INPUT: true; the input reads as it did. -/
def markBackSpec : ChangeSpec := { name := "markBack", fn := fun _ => fun
  | [d1, d2, d3] => { results := [.lit (.bool true)], args := [d1, d2, d3] }
  | _ => none }
def markBackRow : OpenClaim := { program := "ytmbigoeldobaiaadoor", sum := "29083e739aac638e12fe0643bc33d9b63b80eee9d0f7c3d9a99f21331e0bfcd4", func := "postroom/postroomlaw11.MarkBack", spec := "markBack", inPlace := ["internal/bytealg.IndexByteString", "internal/bytealg.IndexString", "internal/abi.NoEscape", "slices.overlaps[uint64]"], unfollowed := true, recurses := true, named := ["unicode/utf8.first", "unicode/utf8.acceptRanges", "internal/bytealg.MaxLen"], apart := false, laid := [("unicode/utf8.acceptRanges", laid_unicode_utf8_acceptRanges), ("unicode/utf8.first", laid_unicode_utf8_first)] }
def MarkBackSaid : Prop := markBackRow.holds Tryd.pinned (OpenSpec.ofChange markBackSpec)

/-- ITS FALSE NEIGHBOUR: 'it returns false'. Refute it at one input. -/
def markBackWrong : ChangeSpec := { name := "markBack", fn := fun _ => fun
  | [d1, d2, d3] => { results := [.lit (.bool false)], args := [d1, d2, d3] }
  | _ => none }
def MarkBackWrongFalsely : Prop := markBackRow.holds Tryd.pinned (OpenSpec.ofChange markBackWrong)

/-- 'postroomlaw11.MarkOne': WHATEVER THE INPUT: true; the input reads as it did. -/
def markOneSpec : ChangeSpec := { name := "markOne", fn := fun _ => fun
  | [d1, d2, d3] => { results := [.lit (.bool true)], args := [d1, d2, d3] }
  | _ => none }
def markOneRow : OpenClaim := { program := "ytmbigoeldobaiaadoor", sum := "29083e739aac638e12fe0643bc33d9b63b80eee9d0f7c3d9a99f21331e0bfcd4", func := "postroom/postroomlaw11.MarkOne", spec := "markOne", inPlace := ["internal/bytealg.IndexByteString", "internal/bytealg.IndexString", "internal/abi.NoEscape", "slices.overlaps[uint64]"], unfollowed := true, recurses := true, named := ["unicode/utf8.first", "unicode/utf8.acceptRanges", "internal/bytealg.MaxLen"], apart := false, laid := [("unicode/utf8.acceptRanges", laid_unicode_utf8_acceptRanges), ("unicode/utf8.first", laid_unicode_utf8_first)] }
def MarkOneSaid : Prop := markOneRow.holds Tryd.pinned (OpenSpec.ofChange markOneSpec)

/-- ITS FALSE NEIGHBOUR: 'it returns false'. Refute it at one input. -/
def markOneWrong : ChangeSpec := { name := "markOne", fn := fun _ => fun
  | [d1, d2, d3] => { results := [.lit (.bool false)], args := [d1, d2, d3] }
  | _ => none }
def MarkOneWrongFalsely : Prop := markOneRow.holds Tryd.pinned (OpenSpec.ofChange markOneWrong)

/-- 'postroomlaw11.MarkGoes': WHATEVER THE INPUT: true; the input reads as it did. -/
def markGoesSpec : ChangeSpec := { name := "markGoes", fn := fun _ => fun
  | [d1, d2, d3] => { results := [.lit (.bool true)], args := [d1, d2, d3] }
  | _ => none }
def markGoesRow : OpenClaim := { program := "ytmbigoeldobaiaadoor", sum := "29083e739aac638e12fe0643bc33d9b63b80eee9d0f7c3d9a99f21331e0bfcd4", func := "postroom/postroomlaw11.MarkGoes", spec := "markGoes", inPlace := ["internal/bytealg.IndexByteString", "internal/bytealg.IndexString", "internal/abi.NoEscape", "slices.overlaps[uint64]"], unfollowed := true, recurses := true, named := ["unicode/utf8.first", "unicode/utf8.acceptRanges", "internal/bytealg.MaxLen"], apart := false, laid := [("unicode/utf8.acceptRanges", laid_unicode_utf8_acceptRanges), ("unicode/utf8.first", laid_unicode_utf8_first)] }
def MarkGoesSaid : Prop := markGoesRow.holds Tryd.pinned (OpenSpec.ofChange markGoesSpec)

/-- ITS FALSE NEIGHBOUR: 'it returns false'. Refute it at one input. -/
def markGoesWrong : ChangeSpec := { name := "markGoes", fn := fun _ => fun
  | [d1, d2, d3] => { results := [.lit (.bool false)], args := [d1, d2, d3] }
  | _ => none }
def MarkGoesWrongFalsely : Prop := markGoesRow.holds Tryd.pinned (OpenSpec.ofChange markGoesWrong)

/-- 'postroomlaw11.MarkShort': WHATEVER THE INPUT: true; the input reads as it did. -/
def markShortSpec : ChangeSpec := { name := "markShort", fn := fun _ => fun
  | [d] => { results := [.lit (.bool true)], args := [d] }
  | _ => none }
def markShortRow : OpenClaim := { program := "ytmbigoeldobaiaadoor", sum := "29083e739aac638e12fe0643bc33d9b63b80eee9d0f7c3d9a99f21331e0bfcd4", func := "postroom/postroomlaw11.MarkShort", spec := "markShort", inPlace := ["internal/bytealg.IndexByteString", "internal/bytealg.IndexString", "internal/abi.NoEscape", "slices.overlaps[uint64]"], unfollowed := true, recurses := true, named := ["unicode/utf8.first", "unicode/utf8.acceptRanges", "internal/bytealg.MaxLen"], apart := false, laid := [("unicode/utf8.acceptRanges", laid_unicode_utf8_acceptRanges), ("unicode/utf8.first", laid_unicode_utf8_first)] }
def MarkShortSaid : Prop := markShortRow.holds Tryd.pinned (OpenSpec.ofChange markShortSpec)

/-- ITS FALSE NEIGHBOUR: 'it returns false'. Refute it at one input. -/
def markShortWrong : ChangeSpec := { name := "markShort", fn := fun _ => fun
  | [d] => { results := [.lit (.bool false)], args := [d] }
  | _ => none }
def MarkShortWrongFalsely : Prop := markShortRow.holds Tryd.pinned (OpenSpec.ofChange markShortWrong)

/- THE SECOND FORM. 'bulk': how many values and letters a reading holds, each counted each time it is reached (what is shared counts as often as it is met; a slice's spare places count too). A statement '..UptoSaid' is the law's where the arguments, and the package variables that the reading takes, are together of bulk at most 1048576: NARROWER than '..Said'. Prove '..Said' where nothing that the law and all that it calls make is longer than what came in: it says more and counts as full. Else prove '..UptoSaid'. A law counts once. -/
mutual
def uptoBulk {H : Type} : DataW H → Nat
  | .lit (.string bytes) => bytes.length + 1
  | .lit _ => 1
  | .nil => 1
  | .ptr d => uptoBulk d + 1
  | .slice elems spare => uptoBulkAll elems + uptoBulkAll spare + 1
  | .agg parts => uptoBulkAll parts + 1
  | .iface _ d => uptoBulk d + 1
  | .map entries => uptoBulkEntries entries + 1
  | .held _ => 1
def uptoBulkAll {H : Type} : List (DataW H) → Nat
  | [] => 0
  | d :: r => uptoBulk d + uptoBulkAll r
def uptoBulkEntries {H : Type} : List (Lit × DataW H) → Nat
  | [] => 0
  | x :: r => uptoBulkEntry x + uptoBulkEntries r
def uptoBulkEntry {H : Type} : Lit × DataW H → Nat
  | (.string bytes, d) => bytes.length + uptoBulk d + 1
  | (_, d) => uptoBulk d + 1
 end
def uptoSmall : (H : Type) → List (DataW H) → Bool := fun _ ds => decide (uptoBulkAll ds ≤ 1048576)
def OpenSpec.upto (s : _root_.Go.ChangeSpec) : _root_.Go.OpenSpec := { _root_.Go.OpenSpec.ofChange s with cond := some uptoSmall }

/-- 'postroomlaw11.MarkTells', WHERE WHAT IT READS IS OF BULK AT MOST 1048576: true; the input reads as it did. -/
def markTellsUptoRow : OpenClaim := { program := "ytmbigoeldobaiaadoor", sum := "29083e739aac638e12fe0643bc33d9b63b80eee9d0f7c3d9a99f21331e0bfcd4", func := "postroom/postroomlaw11.MarkTells", spec := "markTells", inPlace := ["internal/bytealg.IndexByteString", "internal/bytealg.IndexString", "internal/abi.NoEscape"], unfollowed := true, recurses := true, named := ["unicode/utf8.first", "unicode/utf8.acceptRanges", "internal/bytealg.MaxLen"], apart := false, laid := [("unicode/utf8.acceptRanges", laid_unicode_utf8_acceptRanges), ("unicode/utf8.first", laid_unicode_utf8_first)], narrowed := true }
def MarkTellsUptoSaid : Prop := markTellsUptoRow.holds Tryd.pinned (OpenSpec.upto markTellsSpec)

/-- 'postroomlaw11.MarkBack', WHERE WHAT IT READS IS OF BULK AT MOST 1048576: true; the input reads as it did. -/
def markBackUptoRow : OpenClaim := { program := "ytmbigoeldobaiaadoor", sum := "29083e739aac638e12fe0643bc33d9b63b80eee9d0f7c3d9a99f21331e0bfcd4", func := "postroom/postroomlaw11.MarkBack", spec := "markBack", inPlace := ["internal/bytealg.IndexByteString", "internal/bytealg.IndexString", "internal/abi.NoEscape", "slices.overlaps[uint64]"], unfollowed := true, recurses := true, named := ["unicode/utf8.first", "unicode/utf8.acceptRanges", "internal/bytealg.MaxLen"], apart := false, laid := [("unicode/utf8.acceptRanges", laid_unicode_utf8_acceptRanges), ("unicode/utf8.first", laid_unicode_utf8_first)], narrowed := true }
def MarkBackUptoSaid : Prop := markBackUptoRow.holds Tryd.pinned (OpenSpec.upto markBackSpec)

/-- 'postroomlaw11.MarkOne', WHERE WHAT IT READS IS OF BULK AT MOST 1048576: true; the input reads as it did. -/
def markOneUptoRow : OpenClaim := { program := "ytmbigoeldobaiaadoor", sum := "29083e739aac638e12fe0643bc33d9b63b80eee9d0f7c3d9a99f21331e0bfcd4", func := "postroom/postroomlaw11.MarkOne", spec := "markOne", inPlace := ["internal/bytealg.IndexByteString", "internal/bytealg.IndexString", "internal/abi.NoEscape", "slices.overlaps[uint64]"], unfollowed := true, recurses := true, named := ["unicode/utf8.first", "unicode/utf8.acceptRanges", "internal/bytealg.MaxLen"], apart := false, laid := [("unicode/utf8.acceptRanges", laid_unicode_utf8_acceptRanges), ("unicode/utf8.first", laid_unicode_utf8_first)], narrowed := true }
def MarkOneUptoSaid : Prop := markOneUptoRow.holds Tryd.pinned (OpenSpec.upto markOneSpec)

/-- 'postroomlaw11.MarkGoes', WHERE WHAT IT READS IS OF BULK AT MOST 1048576: true; the input reads as it did. -/
def markGoesUptoRow : OpenClaim := { program := "ytmbigoeldobaiaadoor", sum := "29083e739aac638e12fe0643bc33d9b63b80eee9d0f7c3d9a99f21331e0bfcd4", func := "postroom/postroomlaw11.MarkGoes", spec := "markGoes", inPlace := ["internal/bytealg.IndexByteString", "internal/bytealg.IndexString", "internal/abi.NoEscape", "slices.overlaps[uint64]"], unfollowed := true, recurses := true, named := ["unicode/utf8.first", "unicode/utf8.acceptRanges", "internal/bytealg.MaxLen"], apart := false, laid := [("unicode/utf8.acceptRanges", laid_unicode_utf8_acceptRanges), ("unicode/utf8.first", laid_unicode_utf8_first)], narrowed := true }
def MarkGoesUptoSaid : Prop := markGoesUptoRow.holds Tryd.pinned (OpenSpec.upto markGoesSpec)

/-- 'postroomlaw11.MarkShort', WHERE WHAT IT READS IS OF BULK AT MOST 1048576: true; the input reads as it did. -/
def markShortUptoRow : OpenClaim := { program := "ytmbigoeldobaiaadoor", sum := "29083e739aac638e12fe0643bc33d9b63b80eee9d0f7c3d9a99f21331e0bfcd4", func := "postroom/postroomlaw11.MarkShort", spec := "markShort", inPlace := ["internal/bytealg.IndexByteString", "internal/bytealg.IndexString", "internal/abi.NoEscape", "slices.overlaps[uint64]"], unfollowed := true, recurses := true, named := ["unicode/utf8.first", "unicode/utf8.acceptRanges", "internal/bytealg.MaxLen"], apart := false, laid := [("unicode/utf8.acceptRanges", laid_unicode_utf8_acceptRanges), ("unicode/utf8.first", laid_unicode_utf8_first)], narrowed := true }
def MarkShortUptoSaid : Prop := markShortUptoRow.holds Tryd.pinned (OpenSpec.upto markShortSpec)

end Rows
end Go.Proofs.YtmbigoeldobaiaaDoor
