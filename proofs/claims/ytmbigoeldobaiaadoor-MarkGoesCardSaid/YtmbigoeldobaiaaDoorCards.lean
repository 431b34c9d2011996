/-
  DERIVED. GIVEN WITH THE SEED: THE CARDS: each row of YtmbigoeldobaiaaDoorRows.lean that lists a variable, with what it lists TIED to the program's text (the seventh form; the later family's looks); each row that meets fmt, with fmt's text TOLD by the authors' own Lean function (tested against real Go, not proved from fmt's source: count such statements apart). THE CARD IS WHAT COUNTS. Prove the row's statement (the work); the ties are given (YtmbigoeldobaiaaDoorTie.lean); close each card by the builder's one call (the guide's Derived/Test/ToyasCard.lean, 'card_holds'). Laid BY PROGRAM, IN A SANDBOX (cutbox-door.mjs). By AI agents, Wed Nov 11 2026. No macro, syntax, notation, axiom, sorry.
-/
import Derived.Test.YtmbigoeldobaiaaDoorRows
import GoSem.ClaimSeven
namespace Go.Proofs.YtmbigoeldobaiaaDoor
namespace Rows

/-- THE TIED CARD OF 'postroomlaw11.MarkTells'. -/
def markTellsCard : Claim7 := { stood := { row := markTellsRow, standIns := [], harness := (true, "17b761d6c85753bfeabe974f56cb9c919639f9b625d19d6e0ce0ccb85b4e5f4e"), looks := false }, kinds := [], alts := [], laidByText := true, laidKinds := [.data, .pinned], laidTests := true, laidLooks := .later }
def MarkTellsCardSaid : Prop := Claim7.holds Tryd.pinned (.plain (OpenSpec.ofChange markTellsSpec)) markTellsCard

/-- THE TIED CARD OF 'postroomlaw11.MarkBack'. -/
def markBackCard : Claim7 := { stood := { row := markBackRow, standIns := [], harness := (true, "17b761d6c85753bfeabe974f56cb9c919639f9b625d19d6e0ce0ccb85b4e5f4e"), looks := false }, kinds := [], alts := [], laidByText := true, laidKinds := [.data, .pinned], laidTests := true, laidLooks := .later }
def MarkBackCardSaid : Prop := Claim7.holds Tryd.pinned (.plain (OpenSpec.ofChange markBackSpec)) markBackCard

/-- THE TIED CARD OF 'postroomlaw11.MarkOne'. -/
def markOneCard : Claim7 := { stood := { row := markOneRow, standIns := [], harness := (true, "17b761d6c85753bfeabe974f56cb9c919639f9b625d19d6e0ce0ccb85b4e5f4e"), looks := false }, kinds := [], alts := [], laidByText := true, laidKinds := [.data, .pinned], laidTests := true, laidLooks := .later }
def MarkOneCardSaid : Prop := Claim7.holds Tryd.pinned (.plain (OpenSpec.ofChange markOneSpec)) markOneCard

/-- THE TIED CARD OF 'postroomlaw11.MarkGoes'. -/
def markGoesCard : Claim7 := { stood := { row := markGoesRow, standIns := [], harness := (true, "17b761d6c85753bfeabe974f56cb9c919639f9b625d19d6e0ce0ccb85b4e5f4e"), looks := false }, kinds := [], alts := [], laidByText := true, laidKinds := [.data, .pinned], laidTests := true, laidLooks := .later }
def MarkGoesCardSaid : Prop := Claim7.holds Tryd.pinned (.plain (OpenSpec.ofChange markGoesSpec)) markGoesCard

/-- THE TIED CARD OF 'postroomlaw11.MarkShort'. -/
def markShortCard : Claim7 := { stood := { row := markShortRow, standIns := [], harness := (true, "17b761d6c85753bfeabe974f56cb9c919639f9b625d19d6e0ce0ccb85b4e5f4e"), looks := false }, kinds := [], alts := [], laidByText := true, laidKinds := [.data, .pinned], laidTests := true, laidLooks := .later }
def MarkShortCardSaid : Prop := Claim7.holds Tryd.pinned (.plain (OpenSpec.ofChange markShortSpec)) markShortCard

/-- THE SECOND FORM's CARD OF 'postroomlaw11.MarkTells'. -/
def markTellsUptoCard : Claim7 := { stood := { row := markTellsUptoRow, standIns := [], harness := (true, "17b761d6c85753bfeabe974f56cb9c919639f9b625d19d6e0ce0ccb85b4e5f4e"), looks := false }, kinds := [], alts := [], laidByText := true, laidKinds := [.data, .pinned], laidTests := true, laidLooks := .later }
def MarkTellsUptoCardSaid : Prop := Claim7.holds Tryd.pinned (.plain (OpenSpec.upto markTellsSpec)) markTellsUptoCard

/-- THE SECOND FORM's CARD OF 'postroomlaw11.MarkBack'. -/
def markBackUptoCard : Claim7 := { stood := { row := markBackUptoRow, standIns := [], harness := (true, "17b761d6c85753bfeabe974f56cb9c919639f9b625d19d6e0ce0ccb85b4e5f4e"), looks := false }, kinds := [], alts := [], laidByText := true, laidKinds := [.data, .pinned], laidTests := true, laidLooks := .later }
def MarkBackUptoCardSaid : Prop := Claim7.holds Tryd.pinned (.plain (OpenSpec.upto markBackSpec)) markBackUptoCard

/-- THE SECOND FORM's CARD OF 'postroomlaw11.MarkOne'. -/
def markOneUptoCard : Claim7 := { stood := { row := markOneUptoRow, standIns := [], harness := (true, "17b761d6c85753bfeabe974f56cb9c919639f9b625d19d6e0ce0ccb85b4e5f4e"), looks := false }, kinds := [], alts := [], laidByText := true, laidKinds := [.data, .pinned], laidTests := true, laidLooks := .later }
def MarkOneUptoCardSaid : Prop := Claim7.holds Tryd.pinned (.plain (OpenSpec.upto markOneSpec)) markOneUptoCard

/-- THE SECOND FORM's CARD OF 'postroomlaw11.MarkGoes'. -/
def markGoesUptoCard : Claim7 := { stood := { row := markGoesUptoRow, standIns := [], harness := (true, "17b761d6c85753bfeabe974f56cb9c919639f9b625d19d6e0ce0ccb85b4e5f4e"), looks := false }, kinds := [], alts := [], laidByText := true, laidKinds := [.data, .pinned], laidTests := true, laidLooks := .later }
def MarkGoesUptoCardSaid : Prop := Claim7.holds Tryd.pinned (.plain (OpenSpec.upto markGoesSpec)) markGoesUptoCard

/-- THE SECOND FORM's CARD OF 'postroomlaw11.MarkShort'. -/
def markShortUptoCard : Claim7 := { stood := { row := markShortUptoRow, standIns := [], harness := (true, "17b761d6c85753bfeabe974f56cb9c919639f9b625d19d6e0ce0ccb85b4e5f4e"), looks := false }, kinds := [], alts := [], laidByText := true, laidKinds := [.data, .pinned], laidTests := true, laidLooks := .later }
def MarkShortUptoCardSaid : Prop := Claim7.holds Tryd.pinned (.plain (OpenSpec.upto markShortSpec)) markShortUptoCard
end Rows
end Go.Proofs.YtmbigoeldobaiaaDoor
