/-
  DERIVED. GIVEN WITH THE SEED: THE CARDS: each row of YtkgelkdaodcjcaaDoorRows.lean that lists a variable, with what it lists TIED to the program's text (the seventh form; the later family's looks); each row that meets fmt, with fmt's text TOLD by the authors' own Lean function (tested against real Go, not proved from fmt's source: count such statements apart). THE CARD IS WHAT COUNTS. Prove the row's statement (the work); the ties are given (YtkgelkdaodcjcaaDoorTie.lean); close each card by the builder's one call (the guide's Derived/Test/ToyasCard.lean, 'card_holds'). Laid BY PROGRAM, IN A SANDBOX (cutbox-door.mjs). By AI agents, Wed Nov 11 2026. No macro, syntax, notation, axiom, sorry.
-/
import Derived.Test.YtkgelkdaodcjcaaDoorRows
import GoSem.ClaimSeven
namespace Go.Proofs.YtkgelkdaodcjcaaDoor
namespace Rows

/-- THE TIED CARD OF 'postroomlaw3.LabelErrs'. -/
def labelErrsCard : Claim7 := { stood := { row := labelErrsRow, standIns := [], harness := (true, "eabcd6fb3edfa54a86b60fe2c5aa9d6b4899e67706f836723d999af36d6b2c42"), looks := false }, kinds := [], alts := [], laidByText := true, laidKinds := [.data, .pinned], laidTests := true, laidLooks := .later }
def LabelErrsCardSaid : Prop := Claim7.holds Tryd.pinned (.plain (OpenSpec.ofChange labelErrsSpec)) labelErrsCard

/-- THE TIED CARD OF 'postroomlaw3.LabelMatches'. -/
def labelMatchesCard : Claim7 := { stood := { row := labelMatchesRow, standIns := [], harness := (true, "eabcd6fb3edfa54a86b60fe2c5aa9d6b4899e67706f836723d999af36d6b2c42"), looks := false }, kinds := [], alts := [], laidByText := true, laidKinds := [.data, .pinned], laidTests := true, laidLooks := .later }
def LabelMatchesCardSaid : Prop := Claim7.holds Tryd.pinned (.plain (OpenSpec.ofChange labelMatchesSpec)) labelMatchesCard

/-- THE TIED CARD OF 'postroomlaw3.LabelNot'. -/
def labelNotCard : Claim7 := { stood := { row := labelNotRow, standIns := [], harness := (true, "eabcd6fb3edfa54a86b60fe2c5aa9d6b4899e67706f836723d999af36d6b2c42"), looks := false }, kinds := [], alts := [], laidByText := true, laidKinds := [.data, .pinned], laidTests := true, laidLooks := .later }
def LabelNotCardSaid : Prop := Claim7.holds Tryd.pinned (.plain (OpenSpec.ofChange labelNotSpec)) labelNotCard

/-- THE TIED CARD OF 'postroomlaw3.LabelOrder'. -/
def labelOrderCard : Claim7 := { stood := { row := labelOrderRow, standIns := [], harness := (true, "eabcd6fb3edfa54a86b60fe2c5aa9d6b4899e67706f836723d999af36d6b2c42"), looks := false }, kinds := [], alts := [], laidByText := true, laidKinds := [.data, .pinned], laidTests := true, laidLooks := .later }
def LabelOrderCardSaid : Prop := Claim7.holds Tryd.pinned (.plain (OpenSpec.ofChange labelOrderSpec)) labelOrderCard

/-- THE TIED CARD OF 'postroomlaw3.LabelTells'. -/
def labelTellsCard : Claim7 := { stood := { row := labelTellsRow, standIns := [], harness := (true, "eabcd6fb3edfa54a86b60fe2c5aa9d6b4899e67706f836723d999af36d6b2c42"), looks := false }, kinds := [], alts := [], laidByText := true, laidKinds := [.data, .pinned], laidTests := true, laidLooks := .later }
def LabelTellsCardSaid : Prop := Claim7.holds Tryd.pinned (.plain (OpenSpec.ofChange labelTellsSpec)) labelTellsCard

/-- THE TIED CARD OF 'postroomlaw3.LabelOne'. -/
def labelOneCard : Claim7 := { stood := { row := labelOneRow, standIns := [], harness := (true, "eabcd6fb3edfa54a86b60fe2c5aa9d6b4899e67706f836723d999af36d6b2c42"), looks := false }, kinds := [], alts := [], laidByText := true, laidKinds := [.data, .pinned], laidTests := true, laidLooks := .later }
def LabelOneCardSaid : Prop := Claim7.holds Tryd.pinned (.plain (OpenSpec.ofChange labelOneSpec)) labelOneCard

/-- THE TIED CARD OF 'postroomlaw3.LabelBack'. -/
def labelBackCard : Claim7 := { stood := { row := labelBackRow, standIns := [], harness := (true, "eabcd6fb3edfa54a86b60fe2c5aa9d6b4899e67706f836723d999af36d6b2c42"), looks := false }, kinds := [], alts := [], laidByText := true, laidKinds := [.data, .pinned], laidTests := true, laidLooks := .later }
def LabelBackCardSaid : Prop := Claim7.holds Tryd.pinned (.plain (OpenSpec.ofChange labelBackSpec)) labelBackCard

/-- THE SECOND FORM's CARD OF 'postroomlaw3.LabelErrs'. -/
def labelErrsUptoCard : Claim7 := { stood := { row := labelErrsUptoRow, standIns := [], harness := (true, "eabcd6fb3edfa54a86b60fe2c5aa9d6b4899e67706f836723d999af36d6b2c42"), looks := false }, kinds := [], alts := [], laidByText := true, laidKinds := [.data, .pinned], laidTests := true, laidLooks := .later }
def LabelErrsUptoCardSaid : Prop := Claim7.holds Tryd.pinned (.plain (OpenSpec.upto labelErrsSpec)) labelErrsUptoCard

/-- THE SECOND FORM's CARD OF 'postroomlaw3.LabelMatches'. -/
def labelMatchesUptoCard : Claim7 := { stood := { row := labelMatchesUptoRow, standIns := [], harness := (true, "eabcd6fb3edfa54a86b60fe2c5aa9d6b4899e67706f836723d999af36d6b2c42"), looks := false }, kinds := [], alts := [], laidByText := true, laidKinds := [.data, .pinned], laidTests := true, laidLooks := .later }
def LabelMatchesUptoCardSaid : Prop := Claim7.holds Tryd.pinned (.plain (OpenSpec.upto labelMatchesSpec)) labelMatchesUptoCard

/-- THE SECOND FORM's CARD OF 'postroomlaw3.LabelNot'. -/
def labelNotUptoCard : Claim7 := { stood := { row := labelNotUptoRow, standIns := [], harness := (true, "eabcd6fb3edfa54a86b60fe2c5aa9d6b4899e67706f836723d999af36d6b2c42"), looks := false }, kinds := [], alts := [], laidByText := true, laidKinds := [.data, .pinned], laidTests := true, laidLooks := .later }
def LabelNotUptoCardSaid : Prop := Claim7.holds Tryd.pinned (.plain (OpenSpec.upto labelNotSpec)) labelNotUptoCard

/-- THE SECOND FORM's CARD OF 'postroomlaw3.LabelOrder'. -/
def labelOrderUptoCard : Claim7 := { stood := { row := labelOrderUptoRow, standIns := [], harness := (true, "eabcd6fb3edfa54a86b60fe2c5aa9d6b4899e67706f836723d999af36d6b2c42"), looks := false }, kinds := [], alts := [], laidByText := true, laidKinds := [.data, .pinned], laidTests := true, laidLooks := .later }
def LabelOrderUptoCardSaid : Prop := Claim7.holds Tryd.pinned (.plain (OpenSpec.upto labelOrderSpec)) labelOrderUptoCard

/-- THE SECOND FORM's CARD OF 'postroomlaw3.LabelTells'. -/
def labelTellsUptoCard : Claim7 := { stood := { row := labelTellsUptoRow, standIns := [], harness := (true, "eabcd6fb3edfa54a86b60fe2c5aa9d6b4899e67706f836723d999af36d6b2c42"), looks := false }, kinds := [], alts := [], laidByText := true, laidKinds := [.data, .pinned], laidTests := true, laidLooks := .later }
def LabelTellsUptoCardSaid : Prop := Claim7.holds Tryd.pinned (.plain (OpenSpec.upto labelTellsSpec)) labelTellsUptoCard

/-- THE SECOND FORM's CARD OF 'postroomlaw3.LabelOne'. -/
def labelOneUptoCard : Claim7 := { stood := { row := labelOneUptoRow, standIns := [], harness := (true, "eabcd6fb3edfa54a86b60fe2c5aa9d6b4899e67706f836723d999af36d6b2c42"), looks := false }, kinds := [], alts := [], laidByText := true, laidKinds := [.data, .pinned], laidTests := true, laidLooks := .later }
def LabelOneUptoCardSaid : Prop := Claim7.holds Tryd.pinned (.plain (OpenSpec.upto labelOneSpec)) labelOneUptoCard

/-- THE SECOND FORM's CARD OF 'postroomlaw3.LabelBack'. -/
def labelBackUptoCard : Claim7 := { stood := { row := labelBackUptoRow, standIns := [], harness := (true, "eabcd6fb3edfa54a86b60fe2c5aa9d6b4899e67706f836723d999af36d6b2c42"), looks := false }, kinds := [], alts := [], laidByText := true, laidKinds := [.data, .pinned], laidTests := true, laidLooks := .later }
def LabelBackUptoCardSaid : Prop := Claim7.holds Tryd.pinned (.plain (OpenSpec.upto labelBackSpec)) labelBackUptoCard
end Rows
end Go.Proofs.YtkgelkdaodcjcaaDoor
