/-
  NARROWER THAN 'FOR EVERY INPUT', by the rows' own cells (each row's printed sentence says how): UtfDecodes: laid · UtfClasses: laid · UtfSmall: laid · UtfRows: laid · UtfEncodes: laid · UtfBack: laid · UtfOnly: laid.
  DERIVED. THE GIVEN ROWS OF THIS SEAT. 7 by the template 'for every input the law returns true; each argument reads behind the call as it read before'; 0 by the template 'total and deterministic' (their statements: YtabndfboohgioaaDoorTotals.lean).
  GIVEN WITH THE SEED: the statements are not yours to turn. If you find one false, say at which input.
  Laid BY PROGRAM, IN A SANDBOX (cutbox-rows.mjs): the forced cells as the released guide's own fill.sh prints them over the translation 906a3975e25b65f9… (all of the seat's roots in one cut). By AI agents, Wed Nov 11 2026. No macro, syntax, notation, axiom, sorry.
-/
import Derived.Test.YtabndfboohgioaaDoorChecked
import GoSem.Claim
import GoSem.ClaimJoined
import GoSem.ClaimMapViews
import Derived.JoinedTies
import Derived.KernelRfl
namespace Go.Proofs.YtabndfboohgioaaDoor
/- THE CELL 'sum', in the pinned program and in every row, IS THE sha256 OF THE DUMP (.gsa) THAT YtabndfboohgioaaDoorProg.lean LOADS. Nothing in Lean hashes anything: it is a label: what it is worth is what the hold of that sum in a sandbox is worth. -/
noncomputable def Tryd.pinned : Pinned := { name := "ytabndfboohgioaadoor", sum := "906a3975e25b65f9bbeb8929c1148af59649a6331c7c7d828db53e8006802839", checked := Tryd.checked }
namespace Rows
def none {H : Type} : Left H := { results := [], args := [] }

/- WHAT THE LISTED PACKAGE-LEVEL VARIABLES READ AS WHEN THE CALL BEGINS. Each datum BY PROGRAM (the guide's laid-datum.mjs) off the statement by which the dump's own 'gosem.cut.vars' lays the variable. In a bare row this is a premise. The card (YtabndfboohgioaaDoorCards.lean) ties it to the program's text. -/
def laid_rubrick_utf_letters {H : Type} : DataW H := .agg [.agg [.lit (.int .i64 65), .lit (.int .i64 90)], .agg [.lit (.int .i64 97), .lit (.int .i64 122)], .agg [.lit (.int .i64 192), .lit (.int .i64 214)], .agg [.lit (.int .i64 216), .lit (.int .i64 246)], .agg [.lit (.int .i64 248), .lit (.int .i64 255)], .agg [.lit (.int .i64 913), .lit (.int .i64 929)], .agg [.lit (.int .i64 931), .lit (.int .i64 937)], .agg [.lit (.int .i64 945), .lit (.int .i64 969)], .agg [.lit (.int .i64 1024), .lit (.int .i64 1119)]]
def laid_rubrick_utf_shifts {H : Type} : DataW H := .agg [.agg [.lit (.int .i64 65), .lit (.int .i64 90), .lit (.int .i64 32)], .agg [.lit (.int .i64 192), .lit (.int .i64 214), .lit (.int .i64 32)], .agg [.lit (.int .i64 216), .lit (.int .i64 222), .lit (.int .i64 32)], .agg [.lit (.int .i64 913), .lit (.int .i64 929), .lit (.int .i64 32)], .agg [.lit (.int .i64 931), .lit (.int .i64 937), .lit (.int .i64 32)], .agg [.lit (.int .i64 1024), .lit (.int .i64 1039), .lit (.int .i64 80)], .agg [.lit (.int .i64 1040), .lit (.int .i64 1071), .lit (.int .i64 32)]]

/-- 'rubricklaw04.UtfDecodes': WHATEVER THE INPUT: true; the input reads as it did. -/
def utfDecodesSpec : ChangeSpec := { name := "utfDecodes", fn := fun _ => fun
  | [d] => { results := [.lit (.bool true)], args := [d] }
  | _ => none }
def utfDecodesRow : OpenClaim := { program := "ytabndfboohgioaadoor", sum := "906a3975e25b65f9bbeb8929c1148af59649a6331c7c7d828db53e8006802839", func := "rubrick/rubricklaw04.UtfDecodes", spec := "utfDecodes", named := ["rubrick/utf.shifts", "rubrick/utf.letters"], apart := false, laid := [("rubrick/utf.letters", laid_rubrick_utf_letters), ("rubrick/utf.shifts", laid_rubrick_utf_shifts)] }
def UtfDecodesSaid : Prop := utfDecodesRow.holds Tryd.pinned (OpenSpec.ofChange utfDecodesSpec)

/-- ITS FALSE NEIGHBOUR: 'it returns false'. Refute it at one input. -/
def utfDecodesWrong : ChangeSpec := { name := "utfDecodes", fn := fun _ => fun
  | [d] => { results := [.lit (.bool false)], args := [d] }
  | _ => none }
def UtfDecodesWrongFalsely : Prop := utfDecodesRow.holds Tryd.pinned (OpenSpec.ofChange utfDecodesWrong)

/-- 'rubricklaw04.UtfClasses': WHATEVER THE INPUT: true; the input reads as it did. -/
def utfClassesSpec : ChangeSpec := { name := "utfClasses", fn := fun _ => fun
  | [d] => { results := [.lit (.bool true)], args := [d] }
  | _ => none }
def utfClassesRow : OpenClaim := { program := "ytabndfboohgioaadoor", sum := "906a3975e25b65f9bbeb8929c1148af59649a6331c7c7d828db53e8006802839", func := "rubrick/rubricklaw04.UtfClasses", spec := "utfClasses", named := ["rubrick/utf.letters", "rubrick/utf.shifts"], apart := false, laid := [("rubrick/utf.letters", laid_rubrick_utf_letters), ("rubrick/utf.shifts", laid_rubrick_utf_shifts)] }
def UtfClassesSaid : Prop := utfClassesRow.holds Tryd.pinned (OpenSpec.ofChange utfClassesSpec)

/-- ITS FALSE NEIGHBOUR: 'it returns false'. Refute it at one input. -/
def utfClassesWrong : ChangeSpec := { name := "utfClasses", fn := fun _ => fun
  | [d] => { results := [.lit (.bool false)], args := [d] }
  | _ => none }
def UtfClassesWrongFalsely : Prop := utfClassesRow.holds Tryd.pinned (OpenSpec.ofChange utfClassesWrong)

/-- 'rubricklaw04.UtfSmall': WHATEVER THE INPUT: true; the input reads as it did. -/
def utfSmallSpec : ChangeSpec := { name := "utfSmall", fn := fun _ => fun
  | [d] => { results := [.lit (.bool true)], args := [d] }
  | _ => none }
def utfSmallRow : OpenClaim := { program := "ytabndfboohgioaadoor", sum := "906a3975e25b65f9bbeb8929c1148af59649a6331c7c7d828db53e8006802839", func := "rubrick/rubricklaw04.UtfSmall", spec := "utfSmall", named := ["rubrick/utf.shifts", "rubrick/utf.letters"], apart := false, laid := [("rubrick/utf.letters", laid_rubrick_utf_letters), ("rubrick/utf.shifts", laid_rubrick_utf_shifts)] }
def UtfSmallSaid : Prop := utfSmallRow.holds Tryd.pinned (OpenSpec.ofChange utfSmallSpec)

/-- ITS FALSE NEIGHBOUR: 'it returns false'. Refute it at one input. -/
def utfSmallWrong : ChangeSpec := { name := "utfSmall", fn := fun _ => fun
  | [d] => { results := [.lit (.bool false)], args := [d] }
  | _ => none }
def UtfSmallWrongFalsely : Prop := utfSmallRow.holds Tryd.pinned (OpenSpec.ofChange utfSmallWrong)

/-- 'rubricklaw04.UtfRows': WHATEVER THE INPUT: true; the input reads as it did. -/
def utfRowsSpec : ChangeSpec := { name := "utfRows", fn := fun _ => fun
  | [d1, d2, d3] => { results := [.lit (.bool true)], args := [d1, d2, d3] }
  | _ => none }
def utfRowsRow : OpenClaim := { program := "ytabndfboohgioaadoor", sum := "906a3975e25b65f9bbeb8929c1148af59649a6331c7c7d828db53e8006802839", func := "rubrick/rubricklaw04.UtfRows", spec := "utfRows", named := ["rubrick/utf.shifts", "rubrick/utf.letters"], apart := false, laid := [("rubrick/utf.letters", laid_rubrick_utf_letters), ("rubrick/utf.shifts", laid_rubrick_utf_shifts)] }
def UtfRowsSaid : Prop := utfRowsRow.holds Tryd.pinned (OpenSpec.ofChange utfRowsSpec)

/-- ITS FALSE NEIGHBOUR: 'it returns false'. Refute it at one input. -/
def utfRowsWrong : ChangeSpec := { name := "utfRows", fn := fun _ => fun
  | [d1, d2, d3] => { results := [.lit (.bool false)], args := [d1, d2, d3] }
  | _ => none }
def UtfRowsWrongFalsely : Prop := utfRowsRow.holds Tryd.pinned (OpenSpec.ofChange utfRowsWrong)

/-- 'rubricklaw04.UtfEncodes': WHATEVER THE INPUT: true; the input reads as it did. -/
def utfEncodesSpec : ChangeSpec := { name := "utfEncodes", fn := fun _ => fun
  | [d] => { results := [.lit (.bool true)], args := [d] }
  | _ => none }
def utfEncodesRow : OpenClaim := { program := "ytabndfboohgioaadoor", sum := "906a3975e25b65f9bbeb8929c1148af59649a6331c7c7d828db53e8006802839", func := "rubrick/rubricklaw04.UtfEncodes", spec := "utfEncodes", named := ["rubrick/utf.shifts", "rubrick/utf.letters"], apart := false, laid := [("rubrick/utf.letters", laid_rubrick_utf_letters), ("rubrick/utf.shifts", laid_rubrick_utf_shifts)] }
def UtfEncodesSaid : Prop := utfEncodesRow.holds Tryd.pinned (OpenSpec.ofChange utfEncodesSpec)

/-- ITS FALSE NEIGHBOUR: 'it returns false'. Refute it at one input. -/
def utfEncodesWrong : ChangeSpec := { name := "utfEncodes", fn := fun _ => fun
  | [d] => { results := [.lit (.bool false)], args := [d] }
  | _ => none }
def UtfEncodesWrongFalsely : Prop := utfEncodesRow.holds Tryd.pinned (OpenSpec.ofChange utfEncodesWrong)

/-- 'rubricklaw04.UtfBack': WHATEVER THE INPUT: true; the input reads as it did. -/
def utfBackSpec : ChangeSpec := { name := "utfBack", fn := fun _ => fun
  | [d] => { results := [.lit (.bool true)], args := [d] }
  | _ => none }
def utfBackRow : OpenClaim := { program := "ytabndfboohgioaadoor", sum := "906a3975e25b65f9bbeb8929c1148af59649a6331c7c7d828db53e8006802839", func := "rubrick/rubricklaw04.UtfBack", spec := "utfBack", named := ["rubrick/utf.shifts", "rubrick/utf.letters"], apart := false, laid := [("rubrick/utf.letters", laid_rubrick_utf_letters), ("rubrick/utf.shifts", laid_rubrick_utf_shifts)] }
def UtfBackSaid : Prop := utfBackRow.holds Tryd.pinned (OpenSpec.ofChange utfBackSpec)

/-- ITS FALSE NEIGHBOUR: 'it returns false'. Refute it at one input. -/
def utfBackWrong : ChangeSpec := { name := "utfBack", fn := fun _ => fun
  | [d] => { results := [.lit (.bool false)], args := [d] }
  | _ => none }
def UtfBackWrongFalsely : Prop := utfBackRow.holds Tryd.pinned (OpenSpec.ofChange utfBackWrong)

/-- 'rubricklaw04.UtfOnly': WHATEVER THE INPUT: true; the input reads as it did. -/
def utfOnlySpec : ChangeSpec := { name := "utfOnly", fn := fun _ => fun
  | [d] => { results := [.lit (.bool true)], args := [d] }
  | _ => none }
def utfOnlyRow : OpenClaim := { program := "ytabndfboohgioaadoor", sum := "906a3975e25b65f9bbeb8929c1148af59649a6331c7c7d828db53e8006802839", func := "rubrick/rubricklaw04.UtfOnly", spec := "utfOnly", named := ["rubrick/utf.shifts", "rubrick/utf.letters"], apart := false, laid := [("rubrick/utf.letters", laid_rubrick_utf_letters), ("rubrick/utf.shifts", laid_rubrick_utf_shifts)] }
def UtfOnlySaid : Prop := utfOnlyRow.holds Tryd.pinned (OpenSpec.ofChange utfOnlySpec)

/-- ITS FALSE NEIGHBOUR: 'it returns false'. Refute it at one input. -/
def utfOnlyWrong : ChangeSpec := { name := "utfOnly", fn := fun _ => fun
  | [d] => { results := [.lit (.bool false)], args := [d] }
  | _ => none }
def UtfOnlyWrongFalsely : Prop := utfOnlyRow.holds Tryd.pinned (OpenSpec.ofChange utfOnlyWrong)

/- THE SECOND FORM. 'bulk': how many values and letters a reading holds, each counted each time it is reached (what is shared counts as often as it is met; a slice's spare places count too). A statement '..UptoSaid' is the law's where the arguments, and the package variables that the reading takes, are together of bulk at most 1048576: NARROWER than '..Said'. Prove '..Said' where nothing that the law and all that it calls make is longer than what came in: it says more and counts as full. Else prove '..UptoSaid'. A law counts once. -/
mutual
def uptoBulk {H : Type} : DataW H → Nat
  | .lit (.string bytes) => bytes.length + 1
  | .lit _ => 1
  | .nil => 1
  | .ptr d => uptoBulk d + 1
  | .slice elems spare => uptoBulkAll elems + uptoBulkAll spare + 1
  | .agg parts => uptoBulkAll parts + 1
  | .iface _ d => uptoBulk d + 1
  | .map entries => uptoBulkEntries entries + 1
  | .held _ => 1
def uptoBulkAll {H : Type} : List (DataW H) → Nat
  | [] => 0
  | d :: r => uptoBulk d + uptoBulkAll r
def uptoBulkEntries {H : Type} : List (Lit × DataW H) → Nat
  | [] => 0
  | x :: r => uptoBulkEntry x + uptoBulkEntries r
def uptoBulkEntry {H : Type} : Lit × DataW H → Nat
  | (.string bytes, d) => bytes.length + uptoBulk d + 1
  | (_, d) => uptoBulk d + 1
 end
def uptoSmall : (H : Type) → List (DataW H) → Bool := fun _ ds => decide (uptoBulkAll ds ≤ 1048576)
def OpenSpec.upto (s : _root_.Go.ChangeSpec) : _root_.Go.OpenSpec := { _root_.Go.OpenSpec.ofChange s with cond := some uptoSmall }

/-- 'rubricklaw04.UtfDecodes', WHERE WHAT IT READS IS OF BULK AT MOST 1048576: true; the input reads as it did. -/
def utfDecodesUptoRow : OpenClaim := { program := "ytabndfboohgioaadoor", sum := "906a3975e25b65f9bbeb8929c1148af59649a6331c7c7d828db53e8006802839", func := "rubrick/rubricklaw04.UtfDecodes", spec := "utfDecodes", named := ["rubrick/utf.shifts", "rubrick/utf.letters"], apart := false, laid := [("rubrick/utf.letters", laid_rubrick_utf_letters), ("rubrick/utf.shifts", laid_rubrick_utf_shifts)], narrowed := true }
def UtfDecodesUptoSaid : Prop := utfDecodesUptoRow.holds Tryd.pinned (OpenSpec.upto utfDecodesSpec)

/-- 'rubricklaw04.UtfClasses', WHERE WHAT IT READS IS OF BULK AT MOST 1048576: true; the input reads as it did. -/
def utfClassesUptoRow : OpenClaim := { program := "ytabndfboohgioaadoor", sum := "906a3975e25b65f9bbeb8929c1148af59649a6331c7c7d828db53e8006802839", func := "rubrick/rubricklaw04.UtfClasses", spec := "utfClasses", named := ["rubrick/utf.letters", "rubrick/utf.shifts"], apart := false, laid := [("rubrick/utf.letters", laid_rubrick_utf_letters), ("rubrick/utf.shifts", laid_rubrick_utf_shifts)], narrowed := true }
def UtfClassesUptoSaid : Prop := utfClassesUptoRow.holds Tryd.pinned (OpenSpec.upto utfClassesSpec)

/-- 'rubricklaw04.UtfSmall', WHERE WHAT IT READS IS OF BULK AT MOST 1048576: true; the input reads as it did. -/
def utfSmallUptoRow : OpenClaim := { program := "ytabndfboohgioaadoor", sum := "906a3975e25b65f9bbeb8929c1148af59649a6331c7c7d828db53e8006802839", func := "rubrick/rubricklaw04.UtfSmall", spec := "utfSmall", named := ["rubrick/utf.shifts", "rubrick/utf.letters"], apart := false, laid := [("rubrick/utf.letters", laid_rubrick_utf_letters), ("rubrick/utf.shifts", laid_rubrick_utf_shifts)], narrowed := true }
def UtfSmallUptoSaid : Prop := utfSmallUptoRow.holds Tryd.pinned (OpenSpec.upto utfSmallSpec)

/-- 'rubricklaw04.UtfRows', WHERE WHAT IT READS IS OF BULK AT MOST 1048576: true; the input reads as it did. -/
def utfRowsUptoRow : OpenClaim := { program := "ytabndfboohgioaadoor", sum := "906a3975e25b65f9bbeb8929c1148af59649a6331c7c7d828db53e8006802839", func := "rubrick/rubricklaw04.UtfRows", spec := "utfRows", named := ["rubrick/utf.shifts", "rubrick/utf.letters"], apart := false, laid := [("rubrick/utf.letters", laid_rubrick_utf_letters), ("rubrick/utf.shifts", laid_rubrick_utf_shifts)], narrowed := true }
def UtfRowsUptoSaid : Prop := utfRowsUptoRow.holds Tryd.pinned (OpenSpec.upto utfRowsSpec)

/-- 'rubricklaw04.UtfEncodes', WHERE WHAT IT READS IS OF BULK AT MOST 1048576: true; the input reads as it did. -/
def utfEncodesUptoRow : OpenClaim := { program := "ytabndfboohgioaadoor", sum := "906a3975e25b65f9bbeb8929c1148af59649a6331c7c7d828db53e8006802839", func := "rubrick/rubricklaw04.UtfEncodes", spec := "utfEncodes", named := ["rubrick/utf.shifts", "rubrick/utf.letters"], apart := false, laid := [("rubrick/utf.letters", laid_rubrick_utf_letters), ("rubrick/utf.shifts", laid_rubrick_utf_shifts)], narrowed := true }
def UtfEncodesUptoSaid : Prop := utfEncodesUptoRow.holds Tryd.pinned (OpenSpec.upto utfEncodesSpec)

/-- 'rubricklaw04.UtfBack', WHERE WHAT IT READS IS OF BULK AT MOST 1048576: true; the input reads as it did. -/
def utfBackUptoRow : OpenClaim := { program := "ytabndfboohgioaadoor", sum := "906a3975e25b65f9bbeb8929c1148af59649a6331c7c7d828db53e8006802839", func := "rubrick/rubricklaw04.UtfBack", spec := "utfBack", named := ["rubrick/utf.shifts", "rubrick/utf.letters"], apart := false, laid := [("rubrick/utf.letters", laid_rubrick_utf_letters), ("rubrick/utf.shifts", laid_rubrick_utf_shifts)], narrowed := true }
def UtfBackUptoSaid : Prop := utfBackUptoRow.holds Tryd.pinned (OpenSpec.upto utfBackSpec)

/-- 'rubricklaw04.UtfOnly', WHERE WHAT IT READS IS OF BULK AT MOST 1048576: true; the input reads as it did. -/
def utfOnlyUptoRow : OpenClaim := { program := "ytabndfboohgioaadoor", sum := "906a3975e25b65f9bbeb8929c1148af59649a6331c7c7d828db53e8006802839", func := "rubrick/rubricklaw04.UtfOnly", spec := "utfOnly", named := ["rubrick/utf.shifts", "rubrick/utf.letters"], apart := false, laid := [("rubrick/utf.letters", laid_rubrick_utf_letters), ("rubrick/utf.shifts", laid_rubrick_utf_shifts)], narrowed := true }
def UtfOnlyUptoSaid : Prop := utfOnlyUptoRow.holds Tryd.pinned (OpenSpec.upto utfOnlySpec)

end Rows
end Go.Proofs.YtabndfboohgioaaDoor
