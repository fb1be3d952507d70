/-
  DERIVED. GIVEN WITH THE SEED: THE CARDS: each row of YtfgpaepdlmnhaaaDoorRows.lean that lists a variable, with what it lists TIED to the program's text (the seventh form; the later family's looks); each row that meets fmt, with fmt's text TOLD by the authors' own Lean function (tested against real Go, not proved from fmt's source: count such statements apart). THE CARD IS WHAT COUNTS. Prove the row's statement (the work); the ties are given (YtfgpaepdlmnhaaaDoorTie.lean); close each card by the builder's one call (the guide's Derived/Test/ToyasCard.lean, 'card_holds'). Laid BY PROGRAM, IN A SANDBOX (cutbox-door.mjs). By AI agents, Wed Nov 11 2026. No macro, syntax, notation, axiom, sorry.
-/
import Derived.Test.YtfgpaepdlmnhaaaDoorRows
import GoSem.ClaimSeven
namespace Go.Proofs.YtfgpaepdlmnhaaaDoor
namespace Rows

/-- THE TIED CARD OF 'rubricklaw18.ReplyAnswers'. -/
def replyAnswersCard : Claim7 := { stood := { row := replyAnswersRow, standIns := [], harness := (true, "a3c09875019618b8dcc9ad8e4b6dc415a59fcbbe31379b12495923870a2802d1"), looks := false }, kinds := [], alts := [], laidByText := true, laidKinds := [.data, .data], laidTests := true, laidLooks := .later }
def ReplyAnswersCardSaid : Prop := Claim7.holds Tryd.pinned (.plain (OpenSpec.ofChange replyAnswersSpec)) replyAnswersCard

/-- THE TIED CARD OF 'rubricklaw18.ReplyPages'. -/
def replyPagesCard : Claim7 := { stood := { row := replyPagesRow, standIns := [], harness := (true, "a3c09875019618b8dcc9ad8e4b6dc415a59fcbbe31379b12495923870a2802d1"), looks := false }, kinds := [], alts := [], laidByText := true, laidKinds := [.data, .data], laidTests := true, laidLooks := .later }
def ReplyPagesCardSaid : Prop := Claim7.holds Tryd.pinned (.plain (OpenSpec.ofChange replyPagesSpec)) replyPagesCard

/-- THE TIED CARD OF 'rubricklaw18.ReplySteps'. -/
def replyStepsCard : Claim7 := { stood := { row := replyStepsRow, standIns := [], harness := (true, "a3c09875019618b8dcc9ad8e4b6dc415a59fcbbe31379b12495923870a2802d1"), looks := false }, kinds := [], alts := [], laidByText := true, laidKinds := [.data, .data], laidTests := true, laidLooks := .later }
def ReplyStepsCardSaid : Prop := Claim7.holds Tryd.pinned (.plain (OpenSpec.ofChange replyStepsSpec)) replyStepsCard

/-- THE TIED CARD OF 'rubricklaw18.ReplyOnly'. -/
def replyOnlyCard : Claim7 := { stood := { row := replyOnlyRow, standIns := [], harness := (true, "a3c09875019618b8dcc9ad8e4b6dc415a59fcbbe31379b12495923870a2802d1"), looks := false }, kinds := [], alts := [], laidByText := true, laidKinds := [.data, .data], laidTests := true, laidLooks := .later }
def ReplyOnlyCardSaid : Prop := Claim7.holds Tryd.pinned (.plain (OpenSpec.ofChange replyOnlySpec)) replyOnlyCard

/-- THE TIED CARD OF 'rubricklaw11.TermBack'. -/
def termBackCard : Claim7 := { stood := { row := termBackRow, standIns := [], harness := (true, "a3c09875019618b8dcc9ad8e4b6dc415a59fcbbe31379b12495923870a2802d1"), looks := false }, kinds := [], alts := [], laidByText := true, laidKinds := [.data, .data, .data, .data], laidTests := true, laidLooks := .later }
def TermBackCardSaid : Prop := Claim7.holds Tryd.pinned (.plain (OpenSpec.ofChange termBackSpec)) termBackCard

/-- THE SECOND FORM's CARD OF 'rubricklaw18.ReplyAnswers'. -/
def replyAnswersUptoCard : Claim7 := { stood := { row := replyAnswersUptoRow, standIns := [], harness := (true, "a3c09875019618b8dcc9ad8e4b6dc415a59fcbbe31379b12495923870a2802d1"), looks := false }, kinds := [], alts := [], laidByText := true, laidKinds := [.data, .data], laidTests := true, laidLooks := .later }
def ReplyAnswersUptoCardSaid : Prop := Claim7.holds Tryd.pinned (.plain (OpenSpec.upto replyAnswersSpec)) replyAnswersUptoCard

/-- THE SECOND FORM's CARD OF 'rubricklaw18.ReplyPages'. -/
def replyPagesUptoCard : Claim7 := { stood := { row := replyPagesUptoRow, standIns := [], harness := (true, "a3c09875019618b8dcc9ad8e4b6dc415a59fcbbe31379b12495923870a2802d1"), looks := false }, kinds := [], alts := [], laidByText := true, laidKinds := [.data, .data], laidTests := true, laidLooks := .later }
def ReplyPagesUptoCardSaid : Prop := Claim7.holds Tryd.pinned (.plain (OpenSpec.upto replyPagesSpec)) replyPagesUptoCard

/-- THE SECOND FORM's CARD OF 'rubricklaw18.ReplySteps'. -/
def replyStepsUptoCard : Claim7 := { stood := { row := replyStepsUptoRow, standIns := [], harness := (true, "a3c09875019618b8dcc9ad8e4b6dc415a59fcbbe31379b12495923870a2802d1"), looks := false }, kinds := [], alts := [], laidByText := true, laidKinds := [.data, .data], laidTests := true, laidLooks := .later }
def ReplyStepsUptoCardSaid : Prop := Claim7.holds Tryd.pinned (.plain (OpenSpec.upto replyStepsSpec)) replyStepsUptoCard

/-- THE SECOND FORM's CARD OF 'rubricklaw18.ReplyOnly'. -/
def replyOnlyUptoCard : Claim7 := { stood := { row := replyOnlyUptoRow, standIns := [], harness := (true, "a3c09875019618b8dcc9ad8e4b6dc415a59fcbbe31379b12495923870a2802d1"), looks := false }, kinds := [], alts := [], laidByText := true, laidKinds := [.data, .data], laidTests := true, laidLooks := .later }
def ReplyOnlyUptoCardSaid : Prop := Claim7.holds Tryd.pinned (.plain (OpenSpec.upto replyOnlySpec)) replyOnlyUptoCard

/-- THE SECOND FORM's CARD OF 'rubricklaw11.TermBack'. -/
def termBackUptoCard : Claim7 := { stood := { row := termBackUptoRow, standIns := [], harness := (true, "a3c09875019618b8dcc9ad8e4b6dc415a59fcbbe31379b12495923870a2802d1"), looks := false }, kinds := [], alts := [], laidByText := true, laidKinds := [.data, .data, .data, .data], laidTests := true, laidLooks := .later }
def TermBackUptoCardSaid : Prop := Claim7.holds Tryd.pinned (.plain (OpenSpec.upto termBackSpec)) termBackUptoCard
end Rows
end Go.Proofs.YtfgpaepdlmnhaaaDoor
