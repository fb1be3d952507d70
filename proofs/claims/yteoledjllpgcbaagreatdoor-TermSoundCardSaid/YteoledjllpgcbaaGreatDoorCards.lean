/-
  DERIVED. GIVEN WITH THE SEED: THE CARDS: each row of YteoledjllpgcbaaGreatDoorRows.lean that lists a variable, with what it lists TIED to the program's text (the seventh form; the later family's looks); each row that meets fmt, with fmt's text TOLD by the authors' own Lean function (tested against real Go, not proved from fmt's source: count such statements apart). THE CARD IS WHAT COUNTS. Prove the row's statement (the work); the ties are given (YteoledjllpgcbaaGreatDoorTie.lean); close each card by the builder's one call (the guide's Derived/Test/ToyasCard.lean, 'card_holds'). Laid BY PROGRAM, IN A SANDBOX (cutbox-door.mjs). By AI agents, Wed Nov 11 2026. No macro, syntax, notation, axiom, sorry.
-/
import Derived.Test.YteoledjllpgcbaaGreatDoorRows
import GoSem.ClaimSeven
namespace Go.Proofs.YteoledjllpgcbaaGreatDoor
namespace Rows

/-- THE TIED CARD OF 'rubricklaw11.TermProves'. -/
def termProvesCard : Claim7 := { stood := { row := termProvesRow, standIns := [], harness := (true, "7bfe68dece6c79a6455347352bb9df52325277955a3e014e80af0ac3d92e2434"), looks := false }, kinds := [], alts := [], laidByText := true, laidKinds := [.data, .data, .data, .data], laidTests := true, laidLooks := .later }
def TermProvesCardSaid : Prop := Claim7.holds Tryz.pinned (.plain (OpenSpec.ofChange termProvesSpec)) termProvesCard

/-- THE TIED CARD OF 'rubricklaw11.TermChecks'. -/
def termChecksCard : Claim7 := { stood := { row := termChecksRow, standIns := [], harness := (true, "7bfe68dece6c79a6455347352bb9df52325277955a3e014e80af0ac3d92e2434"), looks := false }, kinds := [], alts := [], laidByText := true, laidKinds := [.data, .data, .data, .data], laidTests := true, laidLooks := .later }
def TermChecksCardSaid : Prop := Claim7.holds Tryz.pinned (.plain (OpenSpec.ofChange termChecksSpec)) termChecksCard

/-- THE TIED CARD OF 'rubricklaw11.TermClash'. -/
def termClashCard : Claim7 := { stood := { row := termClashRow, standIns := [], harness := (true, "7bfe68dece6c79a6455347352bb9df52325277955a3e014e80af0ac3d92e2434"), looks := false }, kinds := [], alts := [], laidByText := true, laidKinds := [.data, .data, .data, .data], laidTests := true, laidLooks := .later }
def TermClashCardSaid : Prop := Claim7.holds Tryz.pinned (.plain (OpenSpec.ofChange termClashSpec)) termClashCard

/-- THE TIED CARD OF 'rubricklaw11.TermSound'. -/
def termSoundCard : Claim7 := { stood := { row := termSoundRow, standIns := [], harness := (true, "7bfe68dece6c79a6455347352bb9df52325277955a3e014e80af0ac3d92e2434"), looks := false }, kinds := [], alts := [], laidByText := true, laidKinds := [.data, .data, .data, .data], laidTests := true, laidLooks := .later }
def TermSoundCardSaid : Prop := Claim7.holds Tryz.pinned (.plain (OpenSpec.ofChange termSoundSpec)) termSoundCard

/-- THE SECOND FORM's CARD OF 'rubricklaw11.TermProves'. -/
def termProvesUptoCard : Claim7 := { stood := { row := termProvesUptoRow, standIns := [], harness := (true, "7bfe68dece6c79a6455347352bb9df52325277955a3e014e80af0ac3d92e2434"), looks := false }, kinds := [], alts := [], laidByText := true, laidKinds := [.data, .data, .data, .data], laidTests := true, laidLooks := .later }
def TermProvesUptoCardSaid : Prop := Claim7.holds Tryz.pinned (.plain (OpenSpec.upto termProvesSpec)) termProvesUptoCard

/-- THE SECOND FORM's CARD OF 'rubricklaw11.TermChecks'. -/
def termChecksUptoCard : Claim7 := { stood := { row := termChecksUptoRow, standIns := [], harness := (true, "7bfe68dece6c79a6455347352bb9df52325277955a3e014e80af0ac3d92e2434"), looks := false }, kinds := [], alts := [], laidByText := true, laidKinds := [.data, .data, .data, .data], laidTests := true, laidLooks := .later }
def TermChecksUptoCardSaid : Prop := Claim7.holds Tryz.pinned (.plain (OpenSpec.upto termChecksSpec)) termChecksUptoCard

/-- THE SECOND FORM's CARD OF 'rubricklaw11.TermClash'. -/
def termClashUptoCard : Claim7 := { stood := { row := termClashUptoRow, standIns := [], harness := (true, "7bfe68dece6c79a6455347352bb9df52325277955a3e014e80af0ac3d92e2434"), looks := false }, kinds := [], alts := [], laidByText := true, laidKinds := [.data, .data, .data, .data], laidTests := true, laidLooks := .later }
def TermClashUptoCardSaid : Prop := Claim7.holds Tryz.pinned (.plain (OpenSpec.upto termClashSpec)) termClashUptoCard

/-- THE SECOND FORM's CARD OF 'rubricklaw11.TermSound'. -/
def termSoundUptoCard : Claim7 := { stood := { row := termSoundUptoRow, standIns := [], harness := (true, "7bfe68dece6c79a6455347352bb9df52325277955a3e014e80af0ac3d92e2434"), looks := false }, kinds := [], alts := [], laidByText := true, laidKinds := [.data, .data, .data, .data], laidTests := true, laidLooks := .later }
def TermSoundUptoCardSaid : Prop := Claim7.holds Tryz.pinned (.plain (OpenSpec.upto termSoundSpec)) termSoundUptoCard
end Rows
end Go.Proofs.YteoledjllpgcbaaGreatDoor
