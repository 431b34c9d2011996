/-
  DERIVED. GIVEN WITH THE SEED: THE CARDS: each row of YthaegbiblblccaaGreatDoorRows.lean that lists a variable, with what it lists TIED to the program's text (the seventh form; the later family's looks); each row that meets fmt, with fmt's text TOLD by the authors' own Lean function (tested against real Go, not proved from fmt's source: count such statements apart). THE CARD IS WHAT COUNTS. Prove the row's statement (the work); the ties are given (YthaegbiblblccaaGreatDoorTie.lean); close each card by the builder's one call (the guide's Derived/Test/ToyasCard.lean, 'card_holds'). Laid BY PROGRAM, IN A SANDBOX (cutbox-door.mjs). By AI agents, Wed Nov 11 2026. No macro, syntax, notation, axiom, sorry.
-/
import Derived.Test.YthaegbiblblccaaGreatDoorRows
import GoSem.ClaimSeven
namespace Go.Proofs.YthaegbiblblccaaGreatDoor
namespace Rows

/-- THE TIED CARD OF 'postroomlaw5.EntryTells'. -/
def entryTellsCard : Claim7 := { stood := { row := entryTellsRow, standIns := [], harness := (true, "09dadc895c26f570cfa135d2e79ad902b1749cbf7db652e1cf351959f206cb24"), looks := false }, kinds := [], alts := [], laidByText := true, laidKinds := [.data, .pinned], laidTests := true, laidLooks := .later }
def EntryTellsCardSaid : Prop := Claim7.holds Tryz.pinned (.plain (OpenSpec.ofChange entryTellsSpec)) entryTellsCard

/-- THE TIED CARD OF 'postroomlaw5.EntryOnly'. -/
def entryOnlyCard : Claim7 := { stood := { row := entryOnlyRow, standIns := [], harness := (true, "09dadc895c26f570cfa135d2e79ad902b1749cbf7db652e1cf351959f206cb24"), looks := false }, kinds := [], alts := [], laidByText := true, laidKinds := [.data, .pinned], laidTests := true, laidLooks := .later }
def EntryOnlyCardSaid : Prop := Claim7.holds Tryz.pinned (.plain (OpenSpec.ofChange entryOnlySpec)) entryOnlyCard

/-- THE TIED CARD OF 'postroomlaw5.EntryParts'. -/
def entryPartsCard : Claim7 := { stood := { row := entryPartsRow, standIns := [], harness := (true, "09dadc895c26f570cfa135d2e79ad902b1749cbf7db652e1cf351959f206cb24"), looks := false }, kinds := [], alts := [], laidByText := true, laidKinds := [.data, .pinned], laidTests := true, laidLooks := .later }
def EntryPartsCardSaid : Prop := Claim7.holds Tryz.pinned (.plain (OpenSpec.ofChange entryPartsSpec)) entryPartsCard

/-- THE SECOND FORM's CARD OF 'postroomlaw5.EntryTells'. -/
def entryTellsUptoCard : Claim7 := { stood := { row := entryTellsUptoRow, standIns := [], harness := (true, "09dadc895c26f570cfa135d2e79ad902b1749cbf7db652e1cf351959f206cb24"), looks := false }, kinds := [], alts := [], laidByText := true, laidKinds := [.data, .pinned], laidTests := true, laidLooks := .later }
def EntryTellsUptoCardSaid : Prop := Claim7.holds Tryz.pinned (.plain (OpenSpec.upto entryTellsSpec)) entryTellsUptoCard

/-- THE SECOND FORM's CARD OF 'postroomlaw5.EntryOnly'. -/
def entryOnlyUptoCard : Claim7 := { stood := { row := entryOnlyUptoRow, standIns := [], harness := (true, "09dadc895c26f570cfa135d2e79ad902b1749cbf7db652e1cf351959f206cb24"), looks := false }, kinds := [], alts := [], laidByText := true, laidKinds := [.data, .pinned], laidTests := true, laidLooks := .later }
def EntryOnlyUptoCardSaid : Prop := Claim7.holds Tryz.pinned (.plain (OpenSpec.upto entryOnlySpec)) entryOnlyUptoCard

/-- THE SECOND FORM's CARD OF 'postroomlaw5.EntryParts'. -/
def entryPartsUptoCard : Claim7 := { stood := { row := entryPartsUptoRow, standIns := [], harness := (true, "09dadc895c26f570cfa135d2e79ad902b1749cbf7db652e1cf351959f206cb24"), looks := false }, kinds := [], alts := [], laidByText := true, laidKinds := [.data, .pinned], laidTests := true, laidLooks := .later }
def EntryPartsUptoCardSaid : Prop := Claim7.holds Tryz.pinned (.plain (OpenSpec.upto entryPartsSpec)) entryPartsUptoCard
end Rows
end Go.Proofs.YthaegbiblblccaaGreatDoor
