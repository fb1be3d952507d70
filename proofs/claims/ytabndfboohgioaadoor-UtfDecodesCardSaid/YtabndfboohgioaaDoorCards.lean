/-
  DERIVED. GIVEN WITH THE SEED: THE CARDS: each row of YtabndfboohgioaaDoorRows.lean that lists a variable, with what it lists TIED to the program's text (the seventh form; the later family's looks); each row that meets fmt, with fmt's text TOLD by the authors' own Lean function (tested against real Go, not proved from fmt's source: count such statements apart). THE CARD IS WHAT COUNTS. Prove the row's statement (the work); the ties are given (YtabndfboohgioaaDoorTie.lean); close each card by the builder's one call (the guide's Derived/Test/ToyasCard.lean, 'card_holds'). Laid BY PROGRAM, IN A SANDBOX (cutbox-door.mjs). By AI agents, Wed Nov 11 2026. No macro, syntax, notation, axiom, sorry.
-/
import Derived.Test.YtabndfboohgioaaDoorRows
import GoSem.ClaimSeven
namespace Go.Proofs.YtabndfboohgioaaDoor
namespace Rows

/-- THE TIED CARD OF 'rubricklaw04.UtfDecodes'. -/
def utfDecodesCard : Claim7 := { stood := { row := utfDecodesRow, standIns := [], harness := (true, "dd0076b23732cd51b8c502a8309303b9fd5cb9f139409ede438e84c4cbb34f2d"), looks := false }, kinds := [], alts := [], laidByText := true, laidKinds := [.data, .data], laidTests := true, laidLooks := .later }
def UtfDecodesCardSaid : Prop := Claim7.holds Tryd.pinned (.plain (OpenSpec.ofChange utfDecodesSpec)) utfDecodesCard

/-- THE TIED CARD OF 'rubricklaw04.UtfClasses'. -/
def utfClassesCard : Claim7 := { stood := { row := utfClassesRow, standIns := [], harness := (true, "dd0076b23732cd51b8c502a8309303b9fd5cb9f139409ede438e84c4cbb34f2d"), looks := false }, kinds := [], alts := [], laidByText := true, laidKinds := [.data, .data], laidTests := true, laidLooks := .later }
def UtfClassesCardSaid : Prop := Claim7.holds Tryd.pinned (.plain (OpenSpec.ofChange utfClassesSpec)) utfClassesCard

/-- THE TIED CARD OF 'rubricklaw04.UtfSmall'. -/
def utfSmallCard : Claim7 := { stood := { row := utfSmallRow, standIns := [], harness := (true, "dd0076b23732cd51b8c502a8309303b9fd5cb9f139409ede438e84c4cbb34f2d"), looks := false }, kinds := [], alts := [], laidByText := true, laidKinds := [.data, .data], laidTests := true, laidLooks := .later }
def UtfSmallCardSaid : Prop := Claim7.holds Tryd.pinned (.plain (OpenSpec.ofChange utfSmallSpec)) utfSmallCard

/-- THE TIED CARD OF 'rubricklaw04.UtfRows'. -/
def utfRowsCard : Claim7 := { stood := { row := utfRowsRow, standIns := [], harness := (true, "dd0076b23732cd51b8c502a8309303b9fd5cb9f139409ede438e84c4cbb34f2d"), looks := false }, kinds := [], alts := [], laidByText := true, laidKinds := [.data, .data], laidTests := true, laidLooks := .later }
def UtfRowsCardSaid : Prop := Claim7.holds Tryd.pinned (.plain (OpenSpec.ofChange utfRowsSpec)) utfRowsCard

/-- THE TIED CARD OF 'rubricklaw04.UtfEncodes'. -/
def utfEncodesCard : Claim7 := { stood := { row := utfEncodesRow, standIns := [], harness := (true, "dd0076b23732cd51b8c502a8309303b9fd5cb9f139409ede438e84c4cbb34f2d"), looks := false }, kinds := [], alts := [], laidByText := true, laidKinds := [.data, .data], laidTests := true, laidLooks := .later }
def UtfEncodesCardSaid : Prop := Claim7.holds Tryd.pinned (.plain (OpenSpec.ofChange utfEncodesSpec)) utfEncodesCard

/-- THE TIED CARD OF 'rubricklaw04.UtfBack'. -/
def utfBackCard : Claim7 := { stood := { row := utfBackRow, standIns := [], harness := (true, "dd0076b23732cd51b8c502a8309303b9fd5cb9f139409ede438e84c4cbb34f2d"), looks := false }, kinds := [], alts := [], laidByText := true, laidKinds := [.data, .data], laidTests := true, laidLooks := .later }
def UtfBackCardSaid : Prop := Claim7.holds Tryd.pinned (.plain (OpenSpec.ofChange utfBackSpec)) utfBackCard

/-- THE TIED CARD OF 'rubricklaw04.UtfOnly'. -/
def utfOnlyCard : Claim7 := { stood := { row := utfOnlyRow, standIns := [], harness := (true, "dd0076b23732cd51b8c502a8309303b9fd5cb9f139409ede438e84c4cbb34f2d"), looks := false }, kinds := [], alts := [], laidByText := true, laidKinds := [.data, .data], laidTests := true, laidLooks := .later }
def UtfOnlyCardSaid : Prop := Claim7.holds Tryd.pinned (.plain (OpenSpec.ofChange utfOnlySpec)) utfOnlyCard

/-- THE SECOND FORM's CARD OF 'rubricklaw04.UtfDecodes'. -/
def utfDecodesUptoCard : Claim7 := { stood := { row := utfDecodesUptoRow, standIns := [], harness := (true, "dd0076b23732cd51b8c502a8309303b9fd5cb9f139409ede438e84c4cbb34f2d"), looks := false }, kinds := [], alts := [], laidByText := true, laidKinds := [.data, .data], laidTests := true, laidLooks := .later }
def UtfDecodesUptoCardSaid : Prop := Claim7.holds Tryd.pinned (.plain (OpenSpec.upto utfDecodesSpec)) utfDecodesUptoCard

/-- THE SECOND FORM's CARD OF 'rubricklaw04.UtfClasses'. -/
def utfClassesUptoCard : Claim7 := { stood := { row := utfClassesUptoRow, standIns := [], harness := (true, "dd0076b23732cd51b8c502a8309303b9fd5cb9f139409ede438e84c4cbb34f2d"), looks := false }, kinds := [], alts := [], laidByText := true, laidKinds := [.data, .data], laidTests := true, laidLooks := .later }
def UtfClassesUptoCardSaid : Prop := Claim7.holds Tryd.pinned (.plain (OpenSpec.upto utfClassesSpec)) utfClassesUptoCard

/-- THE SECOND FORM's CARD OF 'rubricklaw04.UtfSmall'. -/
def utfSmallUptoCard : Claim7 := { stood := { row := utfSmallUptoRow, standIns := [], harness := (true, "dd0076b23732cd51b8c502a8309303b9fd5cb9f139409ede438e84c4cbb34f2d"), looks := false }, kinds := [], alts := [], laidByText := true, laidKinds := [.data, .data], laidTests := true, laidLooks := .later }
def UtfSmallUptoCardSaid : Prop := Claim7.holds Tryd.pinned (.plain (OpenSpec.upto utfSmallSpec)) utfSmallUptoCard

/-- THE SECOND FORM's CARD OF 'rubricklaw04.UtfRows'. -/
def utfRowsUptoCard : Claim7 := { stood := { row := utfRowsUptoRow, standIns := [], harness := (true, "dd0076b23732cd51b8c502a8309303b9fd5cb9f139409ede438e84c4cbb34f2d"), looks := false }, kinds := [], alts := [], laidByText := true, laidKinds := [.data, .data], laidTests := true, laidLooks := .later }
def UtfRowsUptoCardSaid : Prop := Claim7.holds Tryd.pinned (.plain (OpenSpec.upto utfRowsSpec)) utfRowsUptoCard

/-- THE SECOND FORM's CARD OF 'rubricklaw04.UtfEncodes'. -/
def utfEncodesUptoCard : Claim7 := { stood := { row := utfEncodesUptoRow, standIns := [], harness := (true, "dd0076b23732cd51b8c502a8309303b9fd5cb9f139409ede438e84c4cbb34f2d"), looks := false }, kinds := [], alts := [], laidByText := true, laidKinds := [.data, .data], laidTests := true, laidLooks := .later }
def UtfEncodesUptoCardSaid : Prop := Claim7.holds Tryd.pinned (.plain (OpenSpec.upto utfEncodesSpec)) utfEncodesUptoCard

/-- THE SECOND FORM's CARD OF 'rubricklaw04.UtfBack'. -/
def utfBackUptoCard : Claim7 := { stood := { row := utfBackUptoRow, standIns := [], harness := (true, "dd0076b23732cd51b8c502a8309303b9fd5cb9f139409ede438e84c4cbb34f2d"), looks := false }, kinds := [], alts := [], laidByText := true, laidKinds := [.data, .data], laidTests := true, laidLooks := .later }
def UtfBackUptoCardSaid : Prop := Claim7.holds Tryd.pinned (.plain (OpenSpec.upto utfBackSpec)) utfBackUptoCard

/-- THE SECOND FORM's CARD OF 'rubricklaw04.UtfOnly'. -/
def utfOnlyUptoCard : Claim7 := { stood := { row := utfOnlyUptoRow, standIns := [], harness := (true, "dd0076b23732cd51b8c502a8309303b9fd5cb9f139409ede438e84c4cbb34f2d"), looks := false }, kinds := [], alts := [], laidByText := true, laidKinds := [.data, .data], laidTests := true, laidLooks := .later }
def UtfOnlyUptoCardSaid : Prop := Claim7.holds Tryd.pinned (.plain (OpenSpec.upto utfOnlySpec)) utfOnlyUptoCard
end Rows
end Go.Proofs.YtabndfboohgioaaDoor
