/-
  DERIVED. GIVEN WITH THE SEED: THE CARDS: each row of YtbhbbnfkblibfaaDoorRows.lean that lists a variable, with what it lists TIED to the program's text (the seventh form; the later family's looks); each row that meets fmt, with fmt's text TOLD by the authors' own Lean function (tested against real Go, not proved from fmt's source: count such statements apart). THE CARD IS WHAT COUNTS. Prove the row's statement (the work); the ties are given (YtbhbbnfkblibfaaDoorTie.lean); close each card by the builder's one call (the guide's Derived/Test/ToyasCard.lean, 'card_holds'). Laid BY PROGRAM, IN A SANDBOX (cutbox-door.mjs). By AI agents, Wed Nov 11 2026. No macro, syntax, notation, axiom, sorry.
-/
import Derived.Test.YtbhbbnfkblibfaaDoorRows
import GoSem.ClaimSeven
namespace Go.Proofs.YtbhbbnfkblibfaaDoor
namespace Rows

/-- THE TIED CARD OF 'postroomlaw6.FrameBack'. -/
def frameBackCard : Claim7 := { stood := { row := frameBackRow, standIns := [], harness := (true, "6d7ad69709f4dbd16ed18314c5f4187382a718fe989213d36c098a64d0cd493c"), looks := false }, kinds := [], alts := [], laidByText := true, laidKinds := [.data], laidTests := true, laidLooks := .later }
def FrameBackCardSaid : Prop := Claim7.holds Tryd.pinned (.plain (OpenSpec.ofChange frameBackSpec)) frameBackCard

/-- THE TIED CARD OF 'postroomlaw6.FrameLong'. -/
def frameLongCard : Claim7 := { stood := { row := frameLongRow, standIns := [], harness := (true, "6d7ad69709f4dbd16ed18314c5f4187382a718fe989213d36c098a64d0cd493c"), looks := false }, kinds := [], alts := [], laidByText := true, laidKinds := [.data], laidTests := true, laidLooks := .later }
def FrameLongCardSaid : Prop := Claim7.holds Tryd.pinned (.plain (OpenSpec.ofChange frameLongSpec)) frameLongCard

/-- THE TIED CARD OF 'postroomlaw6.FrameTorn'. -/
def frameTornCard : Claim7 := { stood := { row := frameTornRow, standIns := [], harness := (true, "6d7ad69709f4dbd16ed18314c5f4187382a718fe989213d36c098a64d0cd493c"), looks := false }, kinds := [], alts := [], laidByText := true, laidKinds := [.data], laidTests := true, laidLooks := .later }
def FrameTornCardSaid : Prop := Claim7.holds Tryd.pinned (.plain (OpenSpec.ofChange frameTornSpec)) frameTornCard

/-- THE TIED CARD OF 'postroomlaw6.FrameSpoils'. -/
def frameSpoilsCard : Claim7 := { stood := { row := frameSpoilsRow, standIns := [], harness := (true, "6d7ad69709f4dbd16ed18314c5f4187382a718fe989213d36c098a64d0cd493c"), looks := false }, kinds := [], alts := [], laidByText := true, laidKinds := [.data], laidTests := true, laidLooks := .later }
def FrameSpoilsCardSaid : Prop := Claim7.holds Tryd.pinned (.plain (OpenSpec.ofChange frameSpoilsSpec)) frameSpoilsCard

/-- THE TIED CARD OF 'postroomlaw6.FrameParts'. -/
def framePartsCard : Claim7 := { stood := { row := framePartsRow, standIns := [], harness := (true, "6d7ad69709f4dbd16ed18314c5f4187382a718fe989213d36c098a64d0cd493c"), looks := false }, kinds := [], alts := [], laidByText := true, laidKinds := [.data], laidTests := true, laidLooks := .later }
def FramePartsCardSaid : Prop := Claim7.holds Tryd.pinned (.plain (OpenSpec.ofChange framePartsSpec)) framePartsCard

/-- THE TIED CARD OF 'postroomlaw6.FrameOne'. -/
def frameOneCard : Claim7 := { stood := { row := frameOneRow, standIns := [], harness := (true, "6d7ad69709f4dbd16ed18314c5f4187382a718fe989213d36c098a64d0cd493c"), looks := false }, kinds := [], alts := [], laidByText := true, laidKinds := [.data], laidTests := true, laidLooks := .later }
def FrameOneCardSaid : Prop := Claim7.holds Tryd.pinned (.plain (OpenSpec.ofChange frameOneSpec)) frameOneCard

/-- THE TIED CARD OF 'postroomlaw6.FrameTells'. -/
def frameTellsCard : Claim7 := { stood := { row := frameTellsRow, standIns := [], harness := (true, "6d7ad69709f4dbd16ed18314c5f4187382a718fe989213d36c098a64d0cd493c"), looks := false }, kinds := [], alts := [], laidByText := true, laidKinds := [.data], laidTests := true, laidLooks := .later }
def FrameTellsCardSaid : Prop := Claim7.holds Tryd.pinned (.plain (OpenSpec.ofChange frameTellsSpec)) frameTellsCard

/-- THE SECOND FORM's CARD OF 'postroomlaw6.FrameBack'. -/
def frameBackUptoCard : Claim7 := { stood := { row := frameBackUptoRow, standIns := [], harness := (true, "6d7ad69709f4dbd16ed18314c5f4187382a718fe989213d36c098a64d0cd493c"), looks := false }, kinds := [], alts := [], laidByText := true, laidKinds := [.data], laidTests := true, laidLooks := .later }
def FrameBackUptoCardSaid : Prop := Claim7.holds Tryd.pinned (.plain (OpenSpec.upto frameBackSpec)) frameBackUptoCard

/-- THE SECOND FORM's CARD OF 'postroomlaw6.FrameLong'. -/
def frameLongUptoCard : Claim7 := { stood := { row := frameLongUptoRow, standIns := [], harness := (true, "6d7ad69709f4dbd16ed18314c5f4187382a718fe989213d36c098a64d0cd493c"), looks := false }, kinds := [], alts := [], laidByText := true, laidKinds := [.data], laidTests := true, laidLooks := .later }
def FrameLongUptoCardSaid : Prop := Claim7.holds Tryd.pinned (.plain (OpenSpec.upto frameLongSpec)) frameLongUptoCard

/-- THE SECOND FORM's CARD OF 'postroomlaw6.FrameTorn'. -/
def frameTornUptoCard : Claim7 := { stood := { row := frameTornUptoRow, standIns := [], harness := (true, "6d7ad69709f4dbd16ed18314c5f4187382a718fe989213d36c098a64d0cd493c"), looks := false }, kinds := [], alts := [], laidByText := true, laidKinds := [.data], laidTests := true, laidLooks := .later }
def FrameTornUptoCardSaid : Prop := Claim7.holds Tryd.pinned (.plain (OpenSpec.upto frameTornSpec)) frameTornUptoCard

/-- THE SECOND FORM's CARD OF 'postroomlaw6.FrameSpoils'. -/
def frameSpoilsUptoCard : Claim7 := { stood := { row := frameSpoilsUptoRow, standIns := [], harness := (true, "6d7ad69709f4dbd16ed18314c5f4187382a718fe989213d36c098a64d0cd493c"), looks := false }, kinds := [], alts := [], laidByText := true, laidKinds := [.data], laidTests := true, laidLooks := .later }
def FrameSpoilsUptoCardSaid : Prop := Claim7.holds Tryd.pinned (.plain (OpenSpec.upto frameSpoilsSpec)) frameSpoilsUptoCard

/-- THE SECOND FORM's CARD OF 'postroomlaw6.FrameParts'. -/
def framePartsUptoCard : Claim7 := { stood := { row := framePartsUptoRow, standIns := [], harness := (true, "6d7ad69709f4dbd16ed18314c5f4187382a718fe989213d36c098a64d0cd493c"), looks := false }, kinds := [], alts := [], laidByText := true, laidKinds := [.data], laidTests := true, laidLooks := .later }
def FramePartsUptoCardSaid : Prop := Claim7.holds Tryd.pinned (.plain (OpenSpec.upto framePartsSpec)) framePartsUptoCard

/-- THE SECOND FORM's CARD OF 'postroomlaw6.FrameOne'. -/
def frameOneUptoCard : Claim7 := { stood := { row := frameOneUptoRow, standIns := [], harness := (true, "6d7ad69709f4dbd16ed18314c5f4187382a718fe989213d36c098a64d0cd493c"), looks := false }, kinds := [], alts := [], laidByText := true, laidKinds := [.data], laidTests := true, laidLooks := .later }
def FrameOneUptoCardSaid : Prop := Claim7.holds Tryd.pinned (.plain (OpenSpec.upto frameOneSpec)) frameOneUptoCard

/-- THE SECOND FORM's CARD OF 'postroomlaw6.FrameTells'. -/
def frameTellsUptoCard : Claim7 := { stood := { row := frameTellsUptoRow, standIns := [], harness := (true, "6d7ad69709f4dbd16ed18314c5f4187382a718fe989213d36c098a64d0cd493c"), looks := false }, kinds := [], alts := [], laidByText := true, laidKinds := [.data], laidTests := true, laidLooks := .later }
def FrameTellsUptoCardSaid : Prop := Claim7.holds Tryd.pinned (.plain (OpenSpec.upto frameTellsSpec)) frameTellsUptoCard
end Rows
end Go.Proofs.YtbhbbnfkblibfaaDoor
