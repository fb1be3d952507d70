/-
  DERIVED. GIVEN WITH THE SEED: THE CARDS: each row of YtkkliblndglniaaDoorRows.lean that lists a variable, with what it lists TIED to the program's text (the seventh form; the later family's looks); each row that meets fmt, with fmt's text TOLD by the authors' own Lean function (tested against real Go, not proved from fmt's source: count such statements apart). THE CARD IS WHAT COUNTS. Prove the row's statement (the work); the ties are given (YtkkliblndglniaaDoorTie.lean); close each card by the builder's one call (the guide's Derived/Test/ToyasCard.lean, 'card_holds'). Laid BY PROGRAM, IN A SANDBOX (cutbox-door.mjs). By AI agents, Wed Nov 11 2026. No macro, syntax, notation, axiom, sorry.
-/
import Derived.Test.YtkkliblndglniaaDoorRows
import GoSem.ClaimSeven
namespace Go.Proofs.YtkkliblndglniaaDoor
namespace Rows

/-- THE TIED CARD OF 'rubricklaw09.PostWrites'. -/
def postWritesCard : Claim7 := { stood := { row := postWritesRow, standIns := [], harness := (true, "2867a87d93d526702f44e93acd2fa78a89a77501ade74444a91cc5900a9d37f9"), looks := false }, kinds := [], alts := [], laidByText := true, laidKinds := [.data, .data], laidTests := true, laidLooks := .later }
def PostWritesCardSaid : Prop := Claim7.holds Tryd.pinned (.plain (OpenSpec.ofChange postWritesSpec)) postWritesCard

/-- THE SECOND FORM's CARD OF 'rubricklaw09.PostWrites'. -/
def postWritesUptoCard : Claim7 := { stood := { row := postWritesUptoRow, standIns := [], harness := (true, "2867a87d93d526702f44e93acd2fa78a89a77501ade74444a91cc5900a9d37f9"), looks := false }, kinds := [], alts := [], laidByText := true, laidKinds := [.data, .data], laidTests := true, laidLooks := .later }
def PostWritesUptoCardSaid : Prop := Claim7.holds Tryd.pinned (.plain (OpenSpec.upto postWritesSpec)) postWritesUptoCard
end Rows
end Go.Proofs.YtkkliblndglniaaDoor
