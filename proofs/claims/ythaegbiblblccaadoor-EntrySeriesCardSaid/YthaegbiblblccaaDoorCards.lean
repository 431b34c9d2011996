/-
  DERIVED. GIVEN WITH THE SEED: THE CARDS: each row of YthaegbiblblccaaDoorRows.lean that lists a variable, with what it lists TIED to the program's text (the seventh form; the later family's looks); each row that meets fmt, with fmt's text TOLD by the authors' own Lean function (tested against real Go, not proved from fmt's source: count such statements apart). THE CARD IS WHAT COUNTS. Prove the row's statement (the work); the ties are given (YthaegbiblblccaaDoorTie.lean); close each card by the builder's one call (the guide's Derived/Test/ToyasCard.lean, 'card_holds'). Laid BY PROGRAM, IN A SANDBOX (cutbox-door.mjs). By AI agents, Wed Nov 11 2026. No macro, syntax, notation, axiom, sorry.
-/
import Derived.Test.YthaegbiblblccaaDoorRows
import GoSem.ClaimSeven
namespace Go.Proofs.YthaegbiblblccaaDoor
namespace Rows

/-- THE TIED CARD OF 'postroomlaw5.EntryBack'. -/
def entryBackCard : Claim7 := { stood := { row := entryBackRow, standIns := [], harness := (true, "c517c1043133acb6b8a9c1724ab4ae328b311cb3de27e75ef84d7a0d4c3140d8"), looks := false }, kinds := [], alts := [], laidByText := true, laidKinds := [.data, .pinned], laidTests := true, laidLooks := .later }
def EntryBackCardSaid : Prop := Claim7.holds Tryd.pinned (.plain (OpenSpec.ofChange entryBackSpec)) entryBackCard

/-- THE TIED CARD OF 'postroomlaw5.EntryOne'. -/
def entryOneCard : Claim7 := { stood := { row := entryOneRow, standIns := [], harness := (true, "c517c1043133acb6b8a9c1724ab4ae328b311cb3de27e75ef84d7a0d4c3140d8"), looks := false }, kinds := [], alts := [], laidByText := true, laidKinds := [.data, .pinned], laidTests := true, laidLooks := .later }
def EntryOneCardSaid : Prop := Claim7.holds Tryd.pinned (.plain (OpenSpec.ofChange entryOneSpec)) entryOneCard

/-- THE TIED CARD OF 'postroomlaw5.EntryJoins'. -/
def entryJoinsCard : Claim7 := { stood := { row := entryJoinsRow, standIns := [], harness := (true, "c517c1043133acb6b8a9c1724ab4ae328b311cb3de27e75ef84d7a0d4c3140d8"), looks := false }, kinds := [], alts := [], laidByText := true, laidKinds := [.data, .pinned], laidTests := true, laidLooks := .later }
def EntryJoinsCardSaid : Prop := Claim7.holds Tryd.pinned (.plain (OpenSpec.ofChange entryJoinsSpec)) entryJoinsCard

/-- THE TIED CARD OF 'postroomlaw5.EntrySeries'. -/
def entrySeriesCard : Claim7 := { stood := { row := entrySeriesRow, standIns := [], harness := (true, "c517c1043133acb6b8a9c1724ab4ae328b311cb3de27e75ef84d7a0d4c3140d8"), looks := false }, kinds := [], alts := [], laidByText := true, laidKinds := [.data, .pinned], laidTests := true, laidLooks := .later }
def EntrySeriesCardSaid : Prop := Claim7.holds Tryd.pinned (.plain (OpenSpec.ofChange entrySeriesSpec)) entrySeriesCard

/-- THE SECOND FORM's CARD OF 'postroomlaw5.EntryBack'. -/
def entryBackUptoCard : Claim7 := { stood := { row := entryBackUptoRow, standIns := [], harness := (true, "c517c1043133acb6b8a9c1724ab4ae328b311cb3de27e75ef84d7a0d4c3140d8"), looks := false }, kinds := [], alts := [], laidByText := true, laidKinds := [.data, .pinned], laidTests := true, laidLooks := .later }
def EntryBackUptoCardSaid : Prop := Claim7.holds Tryd.pinned (.plain (OpenSpec.upto entryBackSpec)) entryBackUptoCard

/-- THE SECOND FORM's CARD OF 'postroomlaw5.EntryOne'. -/
def entryOneUptoCard : Claim7 := { stood := { row := entryOneUptoRow, standIns := [], harness := (true, "c517c1043133acb6b8a9c1724ab4ae328b311cb3de27e75ef84d7a0d4c3140d8"), looks := false }, kinds := [], alts := [], laidByText := true, laidKinds := [.data, .pinned], laidTests := true, laidLooks := .later }
def EntryOneUptoCardSaid : Prop := Claim7.holds Tryd.pinned (.plain (OpenSpec.upto entryOneSpec)) entryOneUptoCard

/-- THE SECOND FORM's CARD OF 'postroomlaw5.EntryJoins'. -/
def entryJoinsUptoCard : Claim7 := { stood := { row := entryJoinsUptoRow, standIns := [], harness := (true, "c517c1043133acb6b8a9c1724ab4ae328b311cb3de27e75ef84d7a0d4c3140d8"), looks := false }, kinds := [], alts := [], laidByText := true, laidKinds := [.data, .pinned], laidTests := true, laidLooks := .later }
def EntryJoinsUptoCardSaid : Prop := Claim7.holds Tryd.pinned (.plain (OpenSpec.upto entryJoinsSpec)) entryJoinsUptoCard

/-- THE SECOND FORM's CARD OF 'postroomlaw5.EntrySeries'. -/
def entrySeriesUptoCard : Claim7 := { stood := { row := entrySeriesUptoRow, standIns := [], harness := (true, "c517c1043133acb6b8a9c1724ab4ae328b311cb3de27e75ef84d7a0d4c3140d8"), looks := false }, kinds := [], alts := [], laidByText := true, laidKinds := [.data, .pinned], laidTests := true, laidLooks := .later }
def EntrySeriesUptoCardSaid : Prop := Claim7.holds Tryd.pinned (.plain (OpenSpec.upto entrySeriesSpec)) entrySeriesUptoCard
end Rows
end Go.Proofs.YthaegbiblblccaaDoor
