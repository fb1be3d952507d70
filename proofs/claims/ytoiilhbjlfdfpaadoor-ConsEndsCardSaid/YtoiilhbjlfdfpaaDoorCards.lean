/-
  DERIVED. GIVEN WITH THE SEED: THE CARDS: each row of YtoiilhbjlfdfpaaDoorRows.lean that lists a variable, with what it lists TIED to the program's text (the seventh form; the later family's looks); each row that meets fmt, with fmt's text TOLD by the authors' own Lean function (tested against real Go, not proved from fmt's source: count such statements apart). THE CARD IS WHAT COUNTS. Prove the row's statement (the work); the ties are given (YtoiilhbjlfdfpaaDoorTie.lean); close each card by the builder's one call (the guide's Derived/Test/ToyasCard.lean, 'card_holds'). Laid BY PROGRAM, IN A SANDBOX (cutbox-door.mjs). By AI agents, Wed Nov 11 2026. No macro, syntax, notation, axiom, sorry.
-/
import Derived.Test.YtoiilhbjlfdfpaaDoorRows
import GoSem.ClaimSeven
namespace Go.Proofs.YtoiilhbjlfdfpaaDoor
namespace Rows

/-- THE TIED CARD OF 'rubricklaw06.TreePaths'. -/
def treePathsCard : Claim7 := { stood := { row := treePathsRow, standIns := [], harness := (true, "66618b8644c6e5e722542c88eb7877ac9c072ba4b006170f3c7d6148e6c01a98"), looks := false }, kinds := [], alts := [], laidByText := true, laidKinds := [.data, .data], laidTests := true, laidLooks := .later }
def TreePathsCardSaid : Prop := Claim7.holds Tryd.pinned (.plain (OpenSpec.ofChange treePathsSpec)) treePathsCard

/-- THE TIED CARD OF 'rubricklaw06.TreeClimbs'. -/
def treeClimbsCard : Claim7 := { stood := { row := treeClimbsRow, standIns := [], harness := (true, "66618b8644c6e5e722542c88eb7877ac9c072ba4b006170f3c7d6148e6c01a98"), looks := false }, kinds := [], alts := [], laidByText := true, laidKinds := [.data, .data], laidTests := true, laidLooks := .later }
def TreeClimbsCardSaid : Prop := Claim7.holds Tryd.pinned (.plain (OpenSpec.ofChange treeClimbsSpec)) treeClimbsCard

/-- THE TIED CARD OF 'rubricklaw06.TreeBack'. -/
def treeBackCard : Claim7 := { stood := { row := treeBackRow, standIns := [], harness := (true, "66618b8644c6e5e722542c88eb7877ac9c072ba4b006170f3c7d6148e6c01a98"), looks := false }, kinds := [], alts := [], laidByText := true, laidKinds := [.data, .data], laidTests := true, laidLooks := .later }
def TreeBackCardSaid : Prop := Claim7.holds Tryd.pinned (.plain (OpenSpec.ofChange treeBackSpec)) treeBackCard

/-- THE TIED CARD OF 'rubricklaw06.TreeRoots'. -/
def treeRootsCard : Claim7 := { stood := { row := treeRootsRow, standIns := [], harness := (true, "66618b8644c6e5e722542c88eb7877ac9c072ba4b006170f3c7d6148e6c01a98"), looks := false }, kinds := [], alts := [], laidByText := true, laidKinds := [.data, .data], laidTests := true, laidLooks := .later }
def TreeRootsCardSaid : Prop := Claim7.holds Tryd.pinned (.plain (OpenSpec.ofChange treeRootsSpec)) treeRootsCard

/-- THE TIED CARD OF 'rubricklaw06.TreeHalves'. -/
def treeHalvesCard : Claim7 := { stood := { row := treeHalvesRow, standIns := [], harness := (true, "66618b8644c6e5e722542c88eb7877ac9c072ba4b006170f3c7d6148e6c01a98"), looks := false }, kinds := [], alts := [], laidByText := true, laidKinds := [.data, .data], laidTests := true, laidLooks := .later }
def TreeHalvesCardSaid : Prop := Claim7.holds Tryd.pinned (.plain (OpenSpec.ofChange treeHalvesSpec)) treeHalvesCard

/-- THE TIED CARD OF 'rubricklaw06.TreeWhole'. -/
def treeWholeCard : Claim7 := { stood := { row := treeWholeRow, standIns := [], harness := (true, "66618b8644c6e5e722542c88eb7877ac9c072ba4b006170f3c7d6148e6c01a98"), looks := false }, kinds := [], alts := [], laidByText := true, laidKinds := [.data, .data], laidTests := true, laidLooks := .later }
def TreeWholeCardSaid : Prop := Claim7.holds Tryd.pinned (.plain (OpenSpec.ofChange treeWholeSpec)) treeWholeCard

/-- THE TIED CARD OF 'rubricklaw06.TreeBinds'. -/
def treeBindsCard : Claim7 := { stood := { row := treeBindsRow, standIns := [], harness := (true, "66618b8644c6e5e722542c88eb7877ac9c072ba4b006170f3c7d6148e6c01a98"), looks := false }, kinds := [], alts := [], laidByText := true, laidKinds := [.data, .data], laidTests := true, laidLooks := .later }
def TreeBindsCardSaid : Prop := Claim7.holds Tryd.pinned (.plain (OpenSpec.ofChange treeBindsSpec)) treeBindsCard

/-- THE TIED CARD OF 'rubricklaw07.ConsProves'. -/
def consProvesCard : Claim7 := { stood := { row := consProvesRow, standIns := [], harness := (true, "66618b8644c6e5e722542c88eb7877ac9c072ba4b006170f3c7d6148e6c01a98"), looks := false }, kinds := [], alts := [], laidByText := true, laidKinds := [.data, .data], laidTests := true, laidLooks := .later }
def ConsProvesCardSaid : Prop := Claim7.holds Tryd.pinned (.plain (OpenSpec.ofChange consProvesSpec)) consProvesCard

/-- THE TIED CARD OF 'rubricklaw07.ConsChecks'. -/
def consChecksCard : Claim7 := { stood := { row := consChecksRow, standIns := [], harness := (true, "66618b8644c6e5e722542c88eb7877ac9c072ba4b006170f3c7d6148e6c01a98"), looks := false }, kinds := [], alts := [], laidByText := true, laidKinds := [.data, .data], laidTests := true, laidLooks := .later }
def ConsChecksCardSaid : Prop := Claim7.holds Tryd.pinned (.plain (OpenSpec.ofChange consChecksSpec)) consChecksCard

/-- THE TIED CARD OF 'rubricklaw07.ConsBack'. -/
def consBackCard : Claim7 := { stood := { row := consBackRow, standIns := [], harness := (true, "66618b8644c6e5e722542c88eb7877ac9c072ba4b006170f3c7d6148e6c01a98"), looks := false }, kinds := [], alts := [], laidByText := true, laidKinds := [.data, .data], laidTests := true, laidLooks := .later }
def ConsBackCardSaid : Prop := Claim7.holds Tryd.pinned (.plain (OpenSpec.ofChange consBackSpec)) consBackCard

/-- THE TIED CARD OF 'rubricklaw07.ConsLength'. -/
def consLengthCard : Claim7 := { stood := { row := consLengthRow, standIns := [], harness := (true, "66618b8644c6e5e722542c88eb7877ac9c072ba4b006170f3c7d6148e6c01a98"), looks := false }, kinds := [], alts := [], laidByText := true, laidKinds := [.data, .data], laidTests := true, laidLooks := .later }
def ConsLengthCardSaid : Prop := Claim7.holds Tryd.pinned (.plain (OpenSpec.ofChange consLengthSpec)) consLengthCard

/-- THE TIED CARD OF 'rubricklaw07.ConsEnds'. -/
def consEndsCard : Claim7 := { stood := { row := consEndsRow, standIns := [], harness := (true, "66618b8644c6e5e722542c88eb7877ac9c072ba4b006170f3c7d6148e6c01a98"), looks := false }, kinds := [], alts := [], laidByText := true, laidKinds := [.data, .data], laidTests := true, laidLooks := .later }
def ConsEndsCardSaid : Prop := Claim7.holds Tryd.pinned (.plain (OpenSpec.ofChange consEndsSpec)) consEndsCard

/-- THE SECOND FORM's CARD OF 'rubricklaw06.TreePaths'. -/
def treePathsUptoCard : Claim7 := { stood := { row := treePathsUptoRow, standIns := [], harness := (true, "66618b8644c6e5e722542c88eb7877ac9c072ba4b006170f3c7d6148e6c01a98"), looks := false }, kinds := [], alts := [], laidByText := true, laidKinds := [.data, .data], laidTests := true, laidLooks := .later }
def TreePathsUptoCardSaid : Prop := Claim7.holds Tryd.pinned (.plain (OpenSpec.upto treePathsSpec)) treePathsUptoCard

/-- THE SECOND FORM's CARD OF 'rubricklaw06.TreeClimbs'. -/
def treeClimbsUptoCard : Claim7 := { stood := { row := treeClimbsUptoRow, standIns := [], harness := (true, "66618b8644c6e5e722542c88eb7877ac9c072ba4b006170f3c7d6148e6c01a98"), looks := false }, kinds := [], alts := [], laidByText := true, laidKinds := [.data, .data], laidTests := true, laidLooks := .later }
def TreeClimbsUptoCardSaid : Prop := Claim7.holds Tryd.pinned (.plain (OpenSpec.upto treeClimbsSpec)) treeClimbsUptoCard

/-- THE SECOND FORM's CARD OF 'rubricklaw06.TreeBack'. -/
def treeBackUptoCard : Claim7 := { stood := { row := treeBackUptoRow, standIns := [], harness := (true, "66618b8644c6e5e722542c88eb7877ac9c072ba4b006170f3c7d6148e6c01a98"), looks := false }, kinds := [], alts := [], laidByText := true, laidKinds := [.data, .data], laidTests := true, laidLooks := .later }
def TreeBackUptoCardSaid : Prop := Claim7.holds Tryd.pinned (.plain (OpenSpec.upto treeBackSpec)) treeBackUptoCard

/-- THE SECOND FORM's CARD OF 'rubricklaw06.TreeRoots'. -/
def treeRootsUptoCard : Claim7 := { stood := { row := treeRootsUptoRow, standIns := [], harness := (true, "66618b8644c6e5e722542c88eb7877ac9c072ba4b006170f3c7d6148e6c01a98"), looks := false }, kinds := [], alts := [], laidByText := true, laidKinds := [.data, .data], laidTests := true, laidLooks := .later }
def TreeRootsUptoCardSaid : Prop := Claim7.holds Tryd.pinned (.plain (OpenSpec.upto treeRootsSpec)) treeRootsUptoCard

/-- THE SECOND FORM's CARD OF 'rubricklaw06.TreeHalves'. -/
def treeHalvesUptoCard : Claim7 := { stood := { row := treeHalvesUptoRow, standIns := [], harness := (true, "66618b8644c6e5e722542c88eb7877ac9c072ba4b006170f3c7d6148e6c01a98"), looks := false }, kinds := [], alts := [], laidByText := true, laidKinds := [.data, .data], laidTests := true, laidLooks := .later }
def TreeHalvesUptoCardSaid : Prop := Claim7.holds Tryd.pinned (.plain (OpenSpec.upto treeHalvesSpec)) treeHalvesUptoCard

/-- THE SECOND FORM's CARD OF 'rubricklaw06.TreeWhole'. -/
def treeWholeUptoCard : Claim7 := { stood := { row := treeWholeUptoRow, standIns := [], harness := (true, "66618b8644c6e5e722542c88eb7877ac9c072ba4b006170f3c7d6148e6c01a98"), looks := false }, kinds := [], alts := [], laidByText := true, laidKinds := [.data, .data], laidTests := true, laidLooks := .later }
def TreeWholeUptoCardSaid : Prop := Claim7.holds Tryd.pinned (.plain (OpenSpec.upto treeWholeSpec)) treeWholeUptoCard

/-- THE SECOND FORM's CARD OF 'rubricklaw06.TreeBinds'. -/
def treeBindsUptoCard : Claim7 := { stood := { row := treeBindsUptoRow, standIns := [], harness := (true, "66618b8644c6e5e722542c88eb7877ac9c072ba4b006170f3c7d6148e6c01a98"), looks := false }, kinds := [], alts := [], laidByText := true, laidKinds := [.data, .data], laidTests := true, laidLooks := .later }
def TreeBindsUptoCardSaid : Prop := Claim7.holds Tryd.pinned (.plain (OpenSpec.upto treeBindsSpec)) treeBindsUptoCard

/-- THE SECOND FORM's CARD OF 'rubricklaw07.ConsProves'. -/
def consProvesUptoCard : Claim7 := { stood := { row := consProvesUptoRow, standIns := [], harness := (true, "66618b8644c6e5e722542c88eb7877ac9c072ba4b006170f3c7d6148e6c01a98"), looks := false }, kinds := [], alts := [], laidByText := true, laidKinds := [.data, .data], laidTests := true, laidLooks := .later }
def ConsProvesUptoCardSaid : Prop := Claim7.holds Tryd.pinned (.plain (OpenSpec.upto consProvesSpec)) consProvesUptoCard

/-- THE SECOND FORM's CARD OF 'rubricklaw07.ConsChecks'. -/
def consChecksUptoCard : Claim7 := { stood := { row := consChecksUptoRow, standIns := [], harness := (true, "66618b8644c6e5e722542c88eb7877ac9c072ba4b006170f3c7d6148e6c01a98"), looks := false }, kinds := [], alts := [], laidByText := true, laidKinds := [.data, .data], laidTests := true, laidLooks := .later }
def ConsChecksUptoCardSaid : Prop := Claim7.holds Tryd.pinned (.plain (OpenSpec.upto consChecksSpec)) consChecksUptoCard

/-- THE SECOND FORM's CARD OF 'rubricklaw07.ConsBack'. -/
def consBackUptoCard : Claim7 := { stood := { row := consBackUptoRow, standIns := [], harness := (true, "66618b8644c6e5e722542c88eb7877ac9c072ba4b006170f3c7d6148e6c01a98"), looks := false }, kinds := [], alts := [], laidByText := true, laidKinds := [.data, .data], laidTests := true, laidLooks := .later }
def ConsBackUptoCardSaid : Prop := Claim7.holds Tryd.pinned (.plain (OpenSpec.upto consBackSpec)) consBackUptoCard

/-- THE SECOND FORM's CARD OF 'rubricklaw07.ConsLength'. -/
def consLengthUptoCard : Claim7 := { stood := { row := consLengthUptoRow, standIns := [], harness := (true, "66618b8644c6e5e722542c88eb7877ac9c072ba4b006170f3c7d6148e6c01a98"), looks := false }, kinds := [], alts := [], laidByText := true, laidKinds := [.data, .data], laidTests := true, laidLooks := .later }
def ConsLengthUptoCardSaid : Prop := Claim7.holds Tryd.pinned (.plain (OpenSpec.upto consLengthSpec)) consLengthUptoCard

/-- THE SECOND FORM's CARD OF 'rubricklaw07.ConsEnds'. -/
def consEndsUptoCard : Claim7 := { stood := { row := consEndsUptoRow, standIns := [], harness := (true, "66618b8644c6e5e722542c88eb7877ac9c072ba4b006170f3c7d6148e6c01a98"), looks := false }, kinds := [], alts := [], laidByText := true, laidKinds := [.data, .data], laidTests := true, laidLooks := .later }
def ConsEndsUptoCardSaid : Prop := Claim7.holds Tryd.pinned (.plain (OpenSpec.upto consEndsSpec)) consEndsUptoCard
end Rows
end Go.Proofs.YtoiilhbjlfdfpaaDoor
