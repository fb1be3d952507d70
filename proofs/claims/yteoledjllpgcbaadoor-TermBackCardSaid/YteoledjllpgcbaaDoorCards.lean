/-
  DERIVED. GIVEN WITH THE SEED: THE CARDS: each row of YteoledjllpgcbaaDoorRows.lean that lists a variable, with what it lists TIED to the program's text (the seventh form; the later family's looks); each row that meets fmt, with fmt's text TOLD by the authors' own Lean function (tested against real Go, not proved from fmt's source: count such statements apart). THE CARD IS WHAT COUNTS. Prove the row's statement (the work); the ties are given (YteoledjllpgcbaaDoorTie.lean); close each card by the builder's one call (the guide's Derived/Test/ToyasCard.lean, 'card_holds'). Laid BY PROGRAM, IN A SANDBOX (cutbox-door.mjs). By AI agents, Wed Nov 11 2026. No macro, syntax, notation, axiom, sorry.
-/
import Derived.Test.YteoledjllpgcbaaDoorRows
import GoSem.ClaimSeven
namespace Go.Proofs.YteoledjllpgcbaaDoor
namespace Rows

/-- THE TIED CARD OF 'rubricklaw11.TermBack'. -/
def termBackCard : Claim7 := { stood := { row := termBackRow, standIns := [], harness := (true, "d6ad92fbff1fc7c6a8ae55c09ab97ffed563789167a0a7e645a2d161e8dc17c5"), looks := false }, kinds := [], alts := [], laidByText := true, laidKinds := [.data, .data, .data, .data], laidTests := true, laidLooks := .later }
def TermBackCardSaid : Prop := Claim7.holds Tryd.pinned (.plain (OpenSpec.ofChange termBackSpec)) termBackCard

/-- THE SECOND FORM's CARD OF 'rubricklaw11.TermBack'. -/
def termBackUptoCard : Claim7 := { stood := { row := termBackUptoRow, standIns := [], harness := (true, "d6ad92fbff1fc7c6a8ae55c09ab97ffed563789167a0a7e645a2d161e8dc17c5"), looks := false }, kinds := [], alts := [], laidByText := true, laidKinds := [.data, .data, .data, .data], laidTests := true, laidLooks := .later }
def TermBackUptoCardSaid : Prop := Claim7.holds Tryd.pinned (.plain (OpenSpec.upto termBackSpec)) termBackUptoCard
end Rows
end Go.Proofs.YteoledjllpgcbaaDoor
