/-
  No cell of these rows narrows 'for every input' (looked for: loops, veiled, ifaces, maps, wideKeys, modest, calm, conditions, laid).
  DERIVED. THE GIVEN ROWS OF THIS SEAT. 8 by the template 'for every input the law returns true; each argument reads behind the call as it read before'; 0 by the template 'total and deterministic' (their statements: YtkkliblndglniaaTotals.lean).
  GIVEN WITH THE SEED: the statements are not yours to turn. If you find one false, say at which input.
  Laid BY PROGRAM, IN A SANDBOX (cutbox-rows.mjs): the forced cells as the released guide's own fill.sh prints them over the translation 428af80cb5031ae1… (all of the seat's roots in one cut). By AI agents, Wed Nov 11 2026. No macro, syntax, notation, axiom, sorry.
-/
import Derived.Test.YtkkliblndglniaaChecked
import GoSem.Claim
import GoSem.ClaimJoined
import GoSem.ClaimMapViews
import Derived.JoinedTies
import Derived.KernelRfl
namespace Go.Proofs.Ytkkliblndglniaa
/- THE CELL 'sum', in the pinned program and in every row, IS THE sha256 OF THE DUMP (.gsa) THAT YtkkliblndglniaaProg.lean LOADS. Nothing in Lean hashes anything: it is a label: what it is worth is what the hold of that sum in a sandbox is worth. -/
noncomputable def Try.pinned : Pinned := { name := "ytkkliblndglniaa", sum := "428af80cb5031ae1d6cf95f45fe46fd607966114f19d1c6748129d064a80906d", checked := Try.checked }
namespace Rows
def none {H : Type} : Left H := { results := [], args := [] }

/-- 'rubricklaw02.CodeSizes': WHATEVER THE INPUT: true; the input reads as it did. -/
def codeSizesSpec : ChangeSpec := { name := "codeSizes", fn := fun _ => fun
  | [d1, d2] => { results := [.lit (.bool true)], args := [d1, d2] }
  | _ => none }
def codeSizesRow : OpenClaim := { program := "ytkkliblndglniaa", sum := "428af80cb5031ae1d6cf95f45fe46fd607966114f19d1c6748129d064a80906d", func := "rubrick/rubricklaw02.CodeSizes", spec := "codeSizes", apart := false }
def CodeSizesSaid : Prop := codeSizesRow.holds Try.pinned (OpenSpec.ofChange codeSizesSpec)

/-- ITS FALSE NEIGHBOUR: 'it returns false'. Refute it at one input. -/
def codeSizesWrong : ChangeSpec := { name := "codeSizes", fn := fun _ => fun
  | [d1, d2] => { results := [.lit (.bool false)], args := [d1, d2] }
  | _ => none }
def CodeSizesWrongFalsely : Prop := codeSizesRow.holds Try.pinned (OpenSpec.ofChange codeSizesWrong)

/-- 'rubricklaw02.CodeWrites': WHATEVER THE INPUT: true; the input reads as it did. -/
def codeWritesSpec : ChangeSpec := { name := "codeWrites", fn := fun _ => fun
  | [d1, d2, d3, d4] => { results := [.lit (.bool true)], args := [d1, d2, d3, d4] }
  | _ => none }
def codeWritesRow : OpenClaim := { program := "ytkkliblndglniaa", sum := "428af80cb5031ae1d6cf95f45fe46fd607966114f19d1c6748129d064a80906d", func := "rubrick/rubricklaw02.CodeWrites", spec := "codeWrites", recurses := true, apart := false }
def CodeWritesSaid : Prop := codeWritesRow.holds Try.pinned (OpenSpec.ofChange codeWritesSpec)

/-- ITS FALSE NEIGHBOUR: 'it returns false'. Refute it at one input. -/
def codeWritesWrong : ChangeSpec := { name := "codeWrites", fn := fun _ => fun
  | [d1, d2, d3, d4] => { results := [.lit (.bool false)], args := [d1, d2, d3, d4] }
  | _ => none }
def CodeWritesWrongFalsely : Prop := codeWritesRow.holds Try.pinned (OpenSpec.ofChange codeWritesWrong)

/-- 'rubricklaw02.CodeBack': WHATEVER THE INPUT: true; the input reads as it did. -/
def codeBackSpec : ChangeSpec := { name := "codeBack", fn := fun _ => fun
  | [d1, d2, d3, d4] => { results := [.lit (.bool true)], args := [d1, d2, d3, d4] }
  | _ => none }
def codeBackRow : OpenClaim := { program := "ytkkliblndglniaa", sum := "428af80cb5031ae1d6cf95f45fe46fd607966114f19d1c6748129d064a80906d", func := "rubrick/rubricklaw02.CodeBack", spec := "codeBack", apart := false }
def CodeBackSaid : Prop := codeBackRow.holds Try.pinned (OpenSpec.ofChange codeBackSpec)

/-- ITS FALSE NEIGHBOUR: 'it returns false'. Refute it at one input. -/
def codeBackWrong : ChangeSpec := { name := "codeBack", fn := fun _ => fun
  | [d1, d2, d3, d4] => { results := [.lit (.bool false)], args := [d1, d2, d3, d4] }
  | _ => none }
def CodeBackWrongFalsely : Prop := codeBackRow.holds Try.pinned (OpenSpec.ofChange codeBackWrong)

/-- 'rubricklaw02.CodeOnly': WHATEVER THE INPUT: true; the input reads as it did. -/
def codeOnlySpec : ChangeSpec := { name := "codeOnly", fn := fun _ => fun
  | [d1, d2] => { results := [.lit (.bool true)], args := [d1, d2] }
  | _ => none }
def codeOnlyRow : OpenClaim := { program := "ytkkliblndglniaa", sum := "428af80cb5031ae1d6cf95f45fe46fd607966114f19d1c6748129d064a80906d", func := "rubrick/rubricklaw02.CodeOnly", spec := "codeOnly", apart := false }
def CodeOnlySaid : Prop := codeOnlyRow.holds Try.pinned (OpenSpec.ofChange codeOnlySpec)

/-- ITS FALSE NEIGHBOUR: 'it returns false'. Refute it at one input. -/
def codeOnlyWrong : ChangeSpec := { name := "codeOnly", fn := fun _ => fun
  | [d1, d2] => { results := [.lit (.bool false)], args := [d1, d2] }
  | _ => none }
def CodeOnlyWrongFalsely : Prop := codeOnlyRow.holds Try.pinned (OpenSpec.ofChange codeOnlyWrong)

/-- 'rubricklaw09.PostBack': WHATEVER THE INPUT: true; the input reads as it did. -/
def postBackSpec : ChangeSpec := { name := "postBack", fn := fun _ => fun
  | [d1, d2] => { results := [.lit (.bool true)], args := [d1, d2] }
  | _ => none }
def postBackRow : OpenClaim := { program := "ytkkliblndglniaa", sum := "428af80cb5031ae1d6cf95f45fe46fd607966114f19d1c6748129d064a80906d", func := "rubrick/rubricklaw09.PostBack", spec := "postBack", unfollowed := true, recurses := true, apart := false }
def PostBackSaid : Prop := postBackRow.holds Try.pinned (OpenSpec.ofChange postBackSpec)

/-- ITS FALSE NEIGHBOUR: 'it returns false'. Refute it at one input. -/
def postBackWrong : ChangeSpec := { name := "postBack", fn := fun _ => fun
  | [d1, d2] => { results := [.lit (.bool false)], args := [d1, d2] }
  | _ => none }
def PostBackWrongFalsely : Prop := postBackRow.holds Try.pinned (OpenSpec.ofChange postBackWrong)

/-- 'rubricklaw09.PostSets': WHATEVER THE INPUT: true; the input reads as it did. -/
def postSetsSpec : ChangeSpec := { name := "postSets", fn := fun _ => fun
  | [d1, d2] => { results := [.lit (.bool true)], args := [d1, d2] }
  | _ => none }
def postSetsRow : OpenClaim := { program := "ytkkliblndglniaa", sum := "428af80cb5031ae1d6cf95f45fe46fd607966114f19d1c6748129d064a80906d", func := "rubrick/rubricklaw09.PostSets", spec := "postSets", unfollowed := true, recurses := true, apart := false }
def PostSetsSaid : Prop := postSetsRow.holds Try.pinned (OpenSpec.ofChange postSetsSpec)

/-- ITS FALSE NEIGHBOUR: 'it returns false'. Refute it at one input. -/
def postSetsWrong : ChangeSpec := { name := "postSets", fn := fun _ => fun
  | [d1, d2] => { results := [.lit (.bool false)], args := [d1, d2] }
  | _ => none }
def PostSetsWrongFalsely : Prop := postSetsRow.holds Try.pinned (OpenSpec.ofChange postSetsWrong)

/-- 'rubricklaw09.PostApart': WHATEVER THE INPUT: true; the input reads as it did. -/
def postApartSpec : ChangeSpec := { name := "postApart", fn := fun _ => fun
  | [d1, d2] => { results := [.lit (.bool true)], args := [d1, d2] }
  | _ => none }
def postApartRow : OpenClaim := { program := "ytkkliblndglniaa", sum := "428af80cb5031ae1d6cf95f45fe46fd607966114f19d1c6748129d064a80906d", func := "rubrick/rubricklaw09.PostApart", spec := "postApart", unfollowed := true, recurses := true, apart := false }
def PostApartSaid : Prop := postApartRow.holds Try.pinned (OpenSpec.ofChange postApartSpec)

/-- ITS FALSE NEIGHBOUR: 'it returns false'. Refute it at one input. -/
def postApartWrong : ChangeSpec := { name := "postApart", fn := fun _ => fun
  | [d1, d2] => { results := [.lit (.bool false)], args := [d1, d2] }
  | _ => none }
def PostApartWrongFalsely : Prop := postApartRow.holds Try.pinned (OpenSpec.ofChange postApartWrong)

/-- 'rubricklaw09.PostJoins': WHATEVER THE INPUT: true; the input reads as it did. -/
def postJoinsSpec : ChangeSpec := { name := "postJoins", fn := fun _ => fun
  | [d1, d2, d3] => { results := [.lit (.bool true)], args := [d1, d2, d3] }
  | _ => none }
def postJoinsRow : OpenClaim := { program := "ytkkliblndglniaa", sum := "428af80cb5031ae1d6cf95f45fe46fd607966114f19d1c6748129d064a80906d", func := "rubrick/rubricklaw09.PostJoins", spec := "postJoins", unfollowed := true, recurses := true, apart := false }
def PostJoinsSaid : Prop := postJoinsRow.holds Try.pinned (OpenSpec.ofChange postJoinsSpec)

/-- ITS FALSE NEIGHBOUR: 'it returns false'. Refute it at one input. -/
def postJoinsWrong : ChangeSpec := { name := "postJoins", fn := fun _ => fun
  | [d1, d2, d3] => { results := [.lit (.bool false)], args := [d1, d2, d3] }
  | _ => none }
def PostJoinsWrongFalsely : Prop := postJoinsRow.holds Try.pinned (OpenSpec.ofChange postJoinsWrong)

/- THE SECOND FORM. 'bulk': how many values and letters a reading holds, each counted each time it is reached (what is shared counts as often as it is met; a slice's spare places count too). A statement '..UptoSaid' is the law's where the arguments, and the package variables that the reading takes, are together of bulk at most 1048576: NARROWER than '..Said'. Prove '..Said' where nothing that the law and all that it calls make is longer than what came in: it says more and counts as full. Else prove '..UptoSaid'. A law counts once. -/
mutual
def uptoBulk {H : Type} : DataW H → Nat
  | .lit (.string bytes) => bytes.length + 1
  | .lit _ => 1
  | .nil => 1
  | .ptr d => uptoBulk d + 1
  | .slice elems spare => uptoBulkAll elems + uptoBulkAll spare + 1
  | .agg parts => uptoBulkAll parts + 1
  | .iface _ d => uptoBulk d + 1
  | .map entries => uptoBulkEntries entries + 1
  | .held _ => 1
def uptoBulkAll {H : Type} : List (DataW H) → Nat
  | [] => 0
  | d :: r => uptoBulk d + uptoBulkAll r
def uptoBulkEntries {H : Type} : List (Lit × DataW H) → Nat
  | [] => 0
  | x :: r => uptoBulkEntry x + uptoBulkEntries r
def uptoBulkEntry {H : Type} : Lit × DataW H → Nat
  | (.string bytes, d) => bytes.length + uptoBulk d + 1
  | (_, d) => uptoBulk d + 1
 end
def uptoSmall : (H : Type) → List (DataW H) → Bool := fun _ ds => decide (uptoBulkAll ds ≤ 1048576)
def OpenSpec.upto (s : _root_.Go.ChangeSpec) : _root_.Go.OpenSpec := { _root_.Go.OpenSpec.ofChange s with cond := some uptoSmall }

/-- 'rubricklaw02.CodeSizes', WHERE WHAT IT READS IS OF BULK AT MOST 1048576: true; the input reads as it did. -/
def codeSizesUptoRow : OpenClaim := { program := "ytkkliblndglniaa", sum := "428af80cb5031ae1d6cf95f45fe46fd607966114f19d1c6748129d064a80906d", func := "rubrick/rubricklaw02.CodeSizes", spec := "codeSizes", apart := false, narrowed := true }
def CodeSizesUptoSaid : Prop := codeSizesUptoRow.holds Try.pinned (OpenSpec.upto codeSizesSpec)

/-- 'rubricklaw02.CodeWrites', WHERE WHAT IT READS IS OF BULK AT MOST 1048576: true; the input reads as it did. -/
def codeWritesUptoRow : OpenClaim := { program := "ytkkliblndglniaa", sum := "428af80cb5031ae1d6cf95f45fe46fd607966114f19d1c6748129d064a80906d", func := "rubrick/rubricklaw02.CodeWrites", spec := "codeWrites", recurses := true, apart := false, narrowed := true }
def CodeWritesUptoSaid : Prop := codeWritesUptoRow.holds Try.pinned (OpenSpec.upto codeWritesSpec)

/-- 'rubricklaw02.CodeBack', WHERE WHAT IT READS IS OF BULK AT MOST 1048576: true; the input reads as it did. -/
def codeBackUptoRow : OpenClaim := { program := "ytkkliblndglniaa", sum := "428af80cb5031ae1d6cf95f45fe46fd607966114f19d1c6748129d064a80906d", func := "rubrick/rubricklaw02.CodeBack", spec := "codeBack", apart := false, narrowed := true }
def CodeBackUptoSaid : Prop := codeBackUptoRow.holds Try.pinned (OpenSpec.upto codeBackSpec)

/-- 'rubricklaw02.CodeOnly', WHERE WHAT IT READS IS OF BULK AT MOST 1048576: true; the input reads as it did. -/
def codeOnlyUptoRow : OpenClaim := { program := "ytkkliblndglniaa", sum := "428af80cb5031ae1d6cf95f45fe46fd607966114f19d1c6748129d064a80906d", func := "rubrick/rubricklaw02.CodeOnly", spec := "codeOnly", apart := false, narrowed := true }
def CodeOnlyUptoSaid : Prop := codeOnlyUptoRow.holds Try.pinned (OpenSpec.upto codeOnlySpec)

/-- 'rubricklaw09.PostBack', WHERE WHAT IT READS IS OF BULK AT MOST 1048576: true; the input reads as it did. -/
def postBackUptoRow : OpenClaim := { program := "ytkkliblndglniaa", sum := "428af80cb5031ae1d6cf95f45fe46fd607966114f19d1c6748129d064a80906d", func := "rubrick/rubricklaw09.PostBack", spec := "postBack", unfollowed := true, recurses := true, apart := false, narrowed := true }
def PostBackUptoSaid : Prop := postBackUptoRow.holds Try.pinned (OpenSpec.upto postBackSpec)

/-- 'rubricklaw09.PostSets', WHERE WHAT IT READS IS OF BULK AT MOST 1048576: true; the input reads as it did. -/
def postSetsUptoRow : OpenClaim := { program := "ytkkliblndglniaa", sum := "428af80cb5031ae1d6cf95f45fe46fd607966114f19d1c6748129d064a80906d", func := "rubrick/rubricklaw09.PostSets", spec := "postSets", unfollowed := true, recurses := true, apart := false, narrowed := true }
def PostSetsUptoSaid : Prop := postSetsUptoRow.holds Try.pinned (OpenSpec.upto postSetsSpec)

/-- 'rubricklaw09.PostApart', WHERE WHAT IT READS IS OF BULK AT MOST 1048576: true; the input reads as it did. -/
def postApartUptoRow : OpenClaim := { program := "ytkkliblndglniaa", sum := "428af80cb5031ae1d6cf95f45fe46fd607966114f19d1c6748129d064a80906d", func := "rubrick/rubricklaw09.PostApart", spec := "postApart", unfollowed := true, recurses := true, apart := false, narrowed := true }
def PostApartUptoSaid : Prop := postApartUptoRow.holds Try.pinned (OpenSpec.upto postApartSpec)

/-- 'rubricklaw09.PostJoins', WHERE WHAT IT READS IS OF BULK AT MOST 1048576: true; the input reads as it did. -/
def postJoinsUptoRow : OpenClaim := { program := "ytkkliblndglniaa", sum := "428af80cb5031ae1d6cf95f45fe46fd607966114f19d1c6748129d064a80906d", func := "rubrick/rubricklaw09.PostJoins", spec := "postJoins", unfollowed := true, recurses := true, apart := false, narrowed := true }
def PostJoinsUptoSaid : Prop := postJoinsUptoRow.holds Try.pinned (OpenSpec.upto postJoinsSpec)

end Rows
end Go.Proofs.Ytkkliblndglniaa
