/-
  DERIVED. GIVEN WITH THE SEED: THE CARDS: each row of YtlcdpbpbfofmmaaDoorRows.lean that lists a variable, with what it lists TIED to the program's text (the seventh form; the later family's looks); each row that meets fmt, with fmt's text TOLD by the authors' own Lean function (tested against real Go, not proved from fmt's source: count such statements apart). THE CARD IS WHAT COUNTS. Prove the row's statement (the work); the ties are given (YtlcdpbpbfofmmaaDoorTie.lean); close each card by the builder's one call (the guide's Derived/Test/ToyasCard.lean, 'card_holds'). Laid BY PROGRAM, IN A SANDBOX (cutbox-door.mjs). By AI agents, Wed Nov 11 2026. No macro, syntax, notation, axiom, sorry.
-/
import Derived.Test.YtlcdpbpbfofmmaaDoorRows
import GoSem.ClaimSeven
namespace Go.Proofs.YtlcdpbpbfofmmaaDoor
namespace Rows

/-- THE TIED CARD OF 'rubricklaw08.ClashLeaf'. -/
def clashLeafCard : Claim7 := { stood := { row := clashLeafRow, standIns := [], harness := (true, "4ecf613e138c5bd525a39c7ac7d2ce8485104c8e88dea5b1c7bad0b5fbd78e45"), looks := false }, kinds := [], alts := [], laidByText := true, laidKinds := [.data, .data], laidTests := true, laidLooks := .later }
def ClashLeafCardSaid : Prop := Claim7.holds Tryd.pinned (.plain (OpenSpec.ofChange clashLeafSpec)) clashLeafCard

/-- THE TIED CARD OF 'rubricklaw08.ClashFinds'. -/
def clashFindsCard : Claim7 := { stood := { row := clashFindsRow, standIns := [], harness := (true, "4ecf613e138c5bd525a39c7ac7d2ce8485104c8e88dea5b1c7bad0b5fbd78e45"), looks := false }, kinds := [], alts := [], laidByText := true, laidKinds := [.data, .data], laidTests := true, laidLooks := .later }
def ClashFindsCardSaid : Prop := Claim7.holds Tryd.pinned (.plain (OpenSpec.ofChange clashFindsSpec)) clashFindsCard

/-- THE TIED CARD OF 'rubricklaw08.ClashRoots'. -/
def clashRootsCard : Claim7 := { stood := { row := clashRootsRow, standIns := [], harness := (true, "4ecf613e138c5bd525a39c7ac7d2ce8485104c8e88dea5b1c7bad0b5fbd78e45"), looks := false }, kinds := [], alts := [], laidByText := true, laidKinds := [.data, .data], laidTests := true, laidLooks := .later }
def ClashRootsCardSaid : Prop := Claim7.holds Tryd.pinned (.plain (OpenSpec.ofChange clashRootsSpec)) clashRootsCard

/-- THE TIED CARD OF 'rubricklaw08.ClashTwo'. -/
def clashTwoCard : Claim7 := { stood := { row := clashTwoRow, standIns := [], harness := (true, "4ecf613e138c5bd525a39c7ac7d2ce8485104c8e88dea5b1c7bad0b5fbd78e45"), looks := false }, kinds := [], alts := [], laidByText := true, laidKinds := [.data, .data], laidTests := true, laidLooks := .later }
def ClashTwoCardSaid : Prop := Claim7.holds Tryd.pinned (.plain (OpenSpec.ofChange clashTwoSpec)) clashTwoCard

/-- THE TIED CARD OF 'rubricklaw08.ClashCons'. -/
def clashConsCard : Claim7 := { stood := { row := clashConsRow, standIns := [], harness := (true, "4ecf613e138c5bd525a39c7ac7d2ce8485104c8e88dea5b1c7bad0b5fbd78e45"), looks := false }, kinds := [], alts := [], laidByText := true, laidKinds := [.data, .data], laidTests := true, laidLooks := .later }
def ClashConsCardSaid : Prop := Claim7.holds Tryd.pinned (.plain (OpenSpec.ofChange clashConsSpec)) clashConsCard

/-- THE TIED CARD OF 'rubricklaw08.ClashAhead'. -/
def clashAheadCard : Claim7 := { stood := { row := clashAheadRow, standIns := [], harness := (true, "4ecf613e138c5bd525a39c7ac7d2ce8485104c8e88dea5b1c7bad0b5fbd78e45"), looks := false }, kinds := [], alts := [], laidByText := true, laidKinds := [.data, .data], laidTests := true, laidLooks := .later }
def ClashAheadCardSaid : Prop := Claim7.holds Tryd.pinned (.plain (OpenSpec.ofChange clashAheadSpec)) clashAheadCard

/-- THE SECOND FORM's CARD OF 'rubricklaw08.ClashLeaf'. -/
def clashLeafUptoCard : Claim7 := { stood := { row := clashLeafUptoRow, standIns := [], harness := (true, "4ecf613e138c5bd525a39c7ac7d2ce8485104c8e88dea5b1c7bad0b5fbd78e45"), looks := false }, kinds := [], alts := [], laidByText := true, laidKinds := [.data, .data], laidTests := true, laidLooks := .later }
def ClashLeafUptoCardSaid : Prop := Claim7.holds Tryd.pinned (.plain (OpenSpec.upto clashLeafSpec)) clashLeafUptoCard

/-- THE SECOND FORM's CARD OF 'rubricklaw08.ClashFinds'. -/
def clashFindsUptoCard : Claim7 := { stood := { row := clashFindsUptoRow, standIns := [], harness := (true, "4ecf613e138c5bd525a39c7ac7d2ce8485104c8e88dea5b1c7bad0b5fbd78e45"), looks := false }, kinds := [], alts := [], laidByText := true, laidKinds := [.data, .data], laidTests := true, laidLooks := .later }
def ClashFindsUptoCardSaid : Prop := Claim7.holds Tryd.pinned (.plain (OpenSpec.upto clashFindsSpec)) clashFindsUptoCard

/-- THE SECOND FORM's CARD OF 'rubricklaw08.ClashRoots'. -/
def clashRootsUptoCard : Claim7 := { stood := { row := clashRootsUptoRow, standIns := [], harness := (true, "4ecf613e138c5bd525a39c7ac7d2ce8485104c8e88dea5b1c7bad0b5fbd78e45"), looks := false }, kinds := [], alts := [], laidByText := true, laidKinds := [.data, .data], laidTests := true, laidLooks := .later }
def ClashRootsUptoCardSaid : Prop := Claim7.holds Tryd.pinned (.plain (OpenSpec.upto clashRootsSpec)) clashRootsUptoCard

/-- THE SECOND FORM's CARD OF 'rubricklaw08.ClashTwo'. -/
def clashTwoUptoCard : Claim7 := { stood := { row := clashTwoUptoRow, standIns := [], harness := (true, "4ecf613e138c5bd525a39c7ac7d2ce8485104c8e88dea5b1c7bad0b5fbd78e45"), looks := false }, kinds := [], alts := [], laidByText := true, laidKinds := [.data, .data], laidTests := true, laidLooks := .later }
def ClashTwoUptoCardSaid : Prop := Claim7.holds Tryd.pinned (.plain (OpenSpec.upto clashTwoSpec)) clashTwoUptoCard

/-- THE SECOND FORM's CARD OF 'rubricklaw08.ClashCons'. -/
def clashConsUptoCard : Claim7 := { stood := { row := clashConsUptoRow, standIns := [], harness := (true, "4ecf613e138c5bd525a39c7ac7d2ce8485104c8e88dea5b1c7bad0b5fbd78e45"), looks := false }, kinds := [], alts := [], laidByText := true, laidKinds := [.data, .data], laidTests := true, laidLooks := .later }
def ClashConsUptoCardSaid : Prop := Claim7.holds Tryd.pinned (.plain (OpenSpec.upto clashConsSpec)) clashConsUptoCard

/-- THE SECOND FORM's CARD OF 'rubricklaw08.ClashAhead'. -/
def clashAheadUptoCard : Claim7 := { stood := { row := clashAheadUptoRow, standIns := [], harness := (true, "4ecf613e138c5bd525a39c7ac7d2ce8485104c8e88dea5b1c7bad0b5fbd78e45"), looks := false }, kinds := [], alts := [], laidByText := true, laidKinds := [.data, .data], laidTests := true, laidLooks := .later }
def ClashAheadUptoCardSaid : Prop := Claim7.holds Tryd.pinned (.plain (OpenSpec.upto clashAheadSpec)) clashAheadUptoCard
end Rows
end Go.Proofs.YtlcdpbpbfofmmaaDoor
