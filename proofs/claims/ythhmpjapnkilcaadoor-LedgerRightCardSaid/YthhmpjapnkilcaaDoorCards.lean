/-
  DERIVED. GIVEN WITH THE SEED: THE CARDS: each row of YthhmpjapnkilcaaDoorRows.lean that lists a variable, with what it lists TIED to the program's text (the seventh form; the later family's looks); each row that meets fmt, with fmt's text TOLD by the authors' own Lean function (tested against real Go, not proved from fmt's source: count such statements apart). THE CARD IS WHAT COUNTS. Prove the row's statement (the work); the ties are given (YthhmpjapnkilcaaDoorTie.lean); close each card by the builder's one call (the guide's Derived/Test/ToyasCard.lean, 'card_holds'). Laid BY PROGRAM, IN A SANDBOX (cutbox-door.mjs). By AI agents, Wed Nov 11 2026. No macro, syntax, notation, axiom, sorry.
-/
import Derived.Test.YthhmpjapnkilcaaDoorRows
import GoSem.ClaimSeven
namespace Go.Proofs.YthhmpjapnkilcaaDoor
namespace Rows

/-- THE TIED CARD OF 'postroomlaw10.LedgerJoins'. -/
def ledgerJoinsCard : Claim7 := { stood := { row := ledgerJoinsRow, standIns := [], harness := (true, "f9e8559a556a602ac1114a6cbd16fc3b645709d7420de53d3886d769d0074b7d"), looks := false }, kinds := [], alts := [], laidByText := true, laidKinds := [.data, .pinned], laidTests := true, laidLooks := .later }
def LedgerJoinsCardSaid : Prop := Claim7.holds Tryd.pinned (.plain (OpenSpec.ofChange ledgerJoinsSpec)) ledgerJoinsCard

/-- THE TIED CARD OF 'postroomlaw10.LedgerCounts'. -/
def ledgerCountsCard : Claim7 := { stood := { row := ledgerCountsRow, standIns := [], harness := (true, "f9e8559a556a602ac1114a6cbd16fc3b645709d7420de53d3886d769d0074b7d"), looks := false }, kinds := [], alts := [], laidByText := true, laidKinds := [.data, .pinned], laidTests := true, laidLooks := .later }
def LedgerCountsCardSaid : Prop := Claim7.holds Tryd.pinned (.plain (OpenSpec.ofChange ledgerCountsSpec)) ledgerCountsCard

/-- THE TIED CARD OF 'postroomlaw10.LedgerDone'. -/
def ledgerDoneCard : Claim7 := { stood := { row := ledgerDoneRow, standIns := [], harness := (true, "f9e8559a556a602ac1114a6cbd16fc3b645709d7420de53d3886d769d0074b7d"), looks := false }, kinds := [], alts := [], laidByText := true, laidKinds := [.data, .pinned], laidTests := true, laidLooks := .later }
def LedgerDoneCardSaid : Prop := Claim7.holds Tryd.pinned (.plain (OpenSpec.ofChange ledgerDoneSpec)) ledgerDoneCard

/-- THE TIED CARD OF 'postroomlaw10.LedgerOrder'. -/
def ledgerOrderCard : Claim7 := { stood := { row := ledgerOrderRow, standIns := [], harness := (true, "f9e8559a556a602ac1114a6cbd16fc3b645709d7420de53d3886d769d0074b7d"), looks := false }, kinds := [], alts := [], laidByText := true, laidKinds := [.data, .pinned], laidTests := true, laidLooks := .later }
def LedgerOrderCardSaid : Prop := Claim7.holds Tryd.pinned (.plain (OpenSpec.ofChange ledgerOrderSpec)) ledgerOrderCard

/-- THE TIED CARD OF 'postroomlaw10.LedgerEvicts'. -/
def ledgerEvictsCard : Claim7 := { stood := { row := ledgerEvictsRow, standIns := [], harness := (true, "f9e8559a556a602ac1114a6cbd16fc3b645709d7420de53d3886d769d0074b7d"), looks := false }, kinds := [], alts := [], laidByText := true, laidKinds := [.data, .pinned], laidTests := true, laidLooks := .later }
def LedgerEvictsCardSaid : Prop := Claim7.holds Tryd.pinned (.plain (OpenSpec.ofChange ledgerEvictsSpec)) ledgerEvictsCard

/-- THE TIED CARD OF 'postroomlaw10.LedgerRight'. -/
def ledgerRightCard : Claim7 := { stood := { row := ledgerRightRow, standIns := [], harness := (true, "f9e8559a556a602ac1114a6cbd16fc3b645709d7420de53d3886d769d0074b7d"), looks := false }, kinds := [], alts := [], laidByText := true, laidKinds := [.data, .pinned], laidTests := true, laidLooks := .later }
def LedgerRightCardSaid : Prop := Claim7.holds Tryd.pinned (.plain (OpenSpec.ofChange ledgerRightSpec)) ledgerRightCard

/-- THE TIED CARD OF 'postroomlaw10.LedgerPlays'. -/
def ledgerPlaysCard : Claim7 := { stood := { row := ledgerPlaysRow, standIns := [], harness := (true, "f9e8559a556a602ac1114a6cbd16fc3b645709d7420de53d3886d769d0074b7d"), looks := false }, kinds := [], alts := [], laidByText := true, laidKinds := [.data, .pinned], laidTests := true, laidLooks := .later }
def LedgerPlaysCardSaid : Prop := Claim7.holds Tryd.pinned (.plain (OpenSpec.ofChange ledgerPlaysSpec)) ledgerPlaysCard

/-- THE SECOND FORM's CARD OF 'postroomlaw10.LedgerJoins'. -/
def ledgerJoinsUptoCard : Claim7 := { stood := { row := ledgerJoinsUptoRow, standIns := [], harness := (true, "f9e8559a556a602ac1114a6cbd16fc3b645709d7420de53d3886d769d0074b7d"), looks := false }, kinds := [], alts := [], laidByText := true, laidKinds := [.data, .pinned], laidTests := true, laidLooks := .later }
def LedgerJoinsUptoCardSaid : Prop := Claim7.holds Tryd.pinned (.plain (OpenSpec.upto ledgerJoinsSpec)) ledgerJoinsUptoCard

/-- THE SECOND FORM's CARD OF 'postroomlaw10.LedgerCounts'. -/
def ledgerCountsUptoCard : Claim7 := { stood := { row := ledgerCountsUptoRow, standIns := [], harness := (true, "f9e8559a556a602ac1114a6cbd16fc3b645709d7420de53d3886d769d0074b7d"), looks := false }, kinds := [], alts := [], laidByText := true, laidKinds := [.data, .pinned], laidTests := true, laidLooks := .later }
def LedgerCountsUptoCardSaid : Prop := Claim7.holds Tryd.pinned (.plain (OpenSpec.upto ledgerCountsSpec)) ledgerCountsUptoCard

/-- THE SECOND FORM's CARD OF 'postroomlaw10.LedgerDone'. -/
def ledgerDoneUptoCard : Claim7 := { stood := { row := ledgerDoneUptoRow, standIns := [], harness := (true, "f9e8559a556a602ac1114a6cbd16fc3b645709d7420de53d3886d769d0074b7d"), looks := false }, kinds := [], alts := [], laidByText := true, laidKinds := [.data, .pinned], laidTests := true, laidLooks := .later }
def LedgerDoneUptoCardSaid : Prop := Claim7.holds Tryd.pinned (.plain (OpenSpec.upto ledgerDoneSpec)) ledgerDoneUptoCard

/-- THE SECOND FORM's CARD OF 'postroomlaw10.LedgerOrder'. -/
def ledgerOrderUptoCard : Claim7 := { stood := { row := ledgerOrderUptoRow, standIns := [], harness := (true, "f9e8559a556a602ac1114a6cbd16fc3b645709d7420de53d3886d769d0074b7d"), looks := false }, kinds := [], alts := [], laidByText := true, laidKinds := [.data, .pinned], laidTests := true, laidLooks := .later }
def LedgerOrderUptoCardSaid : Prop := Claim7.holds Tryd.pinned (.plain (OpenSpec.upto ledgerOrderSpec)) ledgerOrderUptoCard

/-- THE SECOND FORM's CARD OF 'postroomlaw10.LedgerEvicts'. -/
def ledgerEvictsUptoCard : Claim7 := { stood := { row := ledgerEvictsUptoRow, standIns := [], harness := (true, "f9e8559a556a602ac1114a6cbd16fc3b645709d7420de53d3886d769d0074b7d"), looks := false }, kinds := [], alts := [], laidByText := true, laidKinds := [.data, .pinned], laidTests := true, laidLooks := .later }
def LedgerEvictsUptoCardSaid : Prop := Claim7.holds Tryd.pinned (.plain (OpenSpec.upto ledgerEvictsSpec)) ledgerEvictsUptoCard

/-- THE SECOND FORM's CARD OF 'postroomlaw10.LedgerRight'. -/
def ledgerRightUptoCard : Claim7 := { stood := { row := ledgerRightUptoRow, standIns := [], harness := (true, "f9e8559a556a602ac1114a6cbd16fc3b645709d7420de53d3886d769d0074b7d"), looks := false }, kinds := [], alts := [], laidByText := true, laidKinds := [.data, .pinned], laidTests := true, laidLooks := .later }
def LedgerRightUptoCardSaid : Prop := Claim7.holds Tryd.pinned (.plain (OpenSpec.upto ledgerRightSpec)) ledgerRightUptoCard

/-- THE SECOND FORM's CARD OF 'postroomlaw10.LedgerPlays'. -/
def ledgerPlaysUptoCard : Claim7 := { stood := { row := ledgerPlaysUptoRow, standIns := [], harness := (true, "f9e8559a556a602ac1114a6cbd16fc3b645709d7420de53d3886d769d0074b7d"), looks := false }, kinds := [], alts := [], laidByText := true, laidKinds := [.data, .pinned], laidTests := true, laidLooks := .later }
def LedgerPlaysUptoCardSaid : Prop := Claim7.holds Tryd.pinned (.plain (OpenSpec.upto ledgerPlaysSpec)) ledgerPlaysUptoCard
end Rows
end Go.Proofs.YthhmpjapnkilcaaDoor
