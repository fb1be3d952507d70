/-
  NARROWER THAN 'FOR EVERY INPUT', by the rows' own cells (each row's printed sentence says how): TreePaths: laid · TreeClimbs: laid · TreeBack: laid · TreeRoots: laid · TreeHalves: laid · TreeWhole: laid · TreeBinds: laid · ConsProves: laid · ConsChecks: laid · ConsBack: laid · ConsLength: laid · ConsEnds: laid.
  DERIVED. THE GIVEN ROWS OF THIS SEAT. 12 by the template 'for every input the law returns true; each argument reads behind the call as it read before'; 0 by the template 'total and deterministic' (their statements: YtoiilhbjlfdfpaaDoorTotals.lean).
  GIVEN WITH THE SEED: the statements are not yours to turn. If you find one false, say at which input.
  Laid BY PROGRAM, IN A SANDBOX (cutbox-rows.mjs): the forced cells as the released guide's own fill.sh prints them over the translation 023deb92d959d87b… (all of the seat's roots in one cut). By AI agents, Wed Nov 11 2026. No macro, syntax, notation, axiom, sorry.
-/
import Derived.Test.YtoiilhbjlfdfpaaDoorChecked
import GoSem.Claim
import GoSem.ClaimJoined
import GoSem.ClaimMapViews
import Derived.JoinedTies
import Derived.KernelRfl
namespace Go.Proofs.YtoiilhbjlfdfpaaDoor
/- THE CELL 'sum', in the pinned program and in every row, IS THE sha256 OF THE DUMP (.gsa) THAT YtoiilhbjlfdfpaaDoorProg.lean LOADS. Nothing in Lean hashes anything: it is a label: what it is worth is what the hold of that sum in a sandbox is worth. -/
noncomputable def Tryd.pinned : Pinned := { name := "ytoiilhbjlfdfpaadoor", sum := "023deb92d959d87b02459b0725cce064d649073f227c517845d935c5d50b08e5", checked := Tryd.checked }
namespace Rows
def none {H : Type} : Left H := { results := [], args := [] }

/- WHAT THE LISTED PACKAGE-LEVEL VARIABLES READ AS WHEN THE CALL BEGINS. Each datum BY PROGRAM (the guide's laid-datum.mjs) off the statement by which the dump's own 'gosem.cut.vars' lays the variable. In a bare row this is a premise. The card (YtoiilhbjlfdfpaaDoorCards.lean) ties it to the program's text. -/
def laid_rubrick_sha_begin {H : Type} : DataW H := .agg [.lit (.int .u32 1779033703), .lit (.int .u32 3144134277), .lit (.int .u32 1013904242), .lit (.int .u32 2773480762), .lit (.int .u32 1359893119), .lit (.int .u32 2600822924), .lit (.int .u32 528734635), .lit (.int .u32 1541459225)]
def laid_rubrick_sha_rounds {H : Type} : DataW H := .agg [.lit (.int .u32 1116352408), .lit (.int .u32 1899447441), .lit (.int .u32 3049323471), .lit (.int .u32 3921009573), .lit (.int .u32 961987163), .lit (.int .u32 1508970993), .lit (.int .u32 2453635748), .lit (.int .u32 2870763221), .lit (.int .u32 3624381080), .lit (.int .u32 310598401), .lit (.int .u32 607225278), .lit (.int .u32 1426881987), .lit (.int .u32 1925078388), .lit (.int .u32 2162078206), .lit (.int .u32 2614888103), .lit (.int .u32 3248222580), .lit (.int .u32 3835390401), .lit (.int .u32 4022224774), .lit (.int .u32 264347078), .lit (.int .u32 604807628), .lit (.int .u32 770255983), .lit (.int .u32 1249150122), .lit (.int .u32 1555081692), .lit (.int .u32 1996064986), .lit (.int .u32 2554220882), .lit (.int .u32 2821834349), .lit (.int .u32 2952996808), .lit (.int .u32 3210313671), .lit (.int .u32 3336571891), .lit (.int .u32 3584528711), .lit (.int .u32 113926993), .lit (.int .u32 338241895), .lit (.int .u32 666307205), .lit (.int .u32 773529912), .lit (.int .u32 1294757372), .lit (.int .u32 1396182291), .lit (.int .u32 1695183700), .lit (.int .u32 1986661051), .lit (.int .u32 2177026350), .lit (.int .u32 2456956037), .lit (.int .u32 2730485921), .lit (.int .u32 2820302411), .lit (.int .u32 3259730800), .lit (.int .u32 3345764771), .lit (.int .u32 3516065817), .lit (.int .u32 3600352804), .lit (.int .u32 4094571909), .lit (.int .u32 275423344), .lit (.int .u32 430227734), .lit (.int .u32 506948616), .lit (.int .u32 659060556), .lit (.int .u32 883997877), .lit (.int .u32 958139571), .lit (.int .u32 1322822218), .lit (.int .u32 1537002063), .lit (.int .u32 1747873779), .lit (.int .u32 1955562222), .lit (.int .u32 2024104815), .lit (.int .u32 2227730452), .lit (.int .u32 2361852424), .lit (.int .u32 2428436474), .lit (.int .u32 2756734187), .lit (.int .u32 3204031479), .lit (.int .u32 3329325298)]

/-- 'rubricklaw06.TreePaths': WHATEVER THE INPUT: true; the input reads as it did. -/
def treePathsSpec : ChangeSpec := { name := "treePaths", fn := fun _ => fun
  | [d1, d2] => { results := [.lit (.bool true)], args := [d1, d2] }
  | _ => none }
def treePathsRow : OpenClaim := { program := "ytoiilhbjlfdfpaadoor", sum := "023deb92d959d87b02459b0725cce064d649073f227c517845d935c5d50b08e5", func := "rubrick/rubricklaw06.TreePaths", spec := "treePaths", recurses := true, named := ["rubrick/sha.begin", "rubrick/sha.rounds"], apart := false, laid := [("rubrick/sha.begin", laid_rubrick_sha_begin), ("rubrick/sha.rounds", laid_rubrick_sha_rounds)] }
def TreePathsSaid : Prop := treePathsRow.holds Tryd.pinned (OpenSpec.ofChange treePathsSpec)

/-- ITS FALSE NEIGHBOUR: 'it returns false'. Refute it at one input. -/
def treePathsWrong : ChangeSpec := { name := "treePaths", fn := fun _ => fun
  | [d1, d2] => { results := [.lit (.bool false)], args := [d1, d2] }
  | _ => none }
def TreePathsWrongFalsely : Prop := treePathsRow.holds Tryd.pinned (OpenSpec.ofChange treePathsWrong)

/-- 'rubricklaw06.TreeClimbs': WHATEVER THE INPUT: true; the input reads as it did. -/
def treeClimbsSpec : ChangeSpec := { name := "treeClimbs", fn := fun _ => fun
  | [d1, d2, d3, d4] => { results := [.lit (.bool true)], args := [d1, d2, d3, d4] }
  | _ => none }
def treeClimbsRow : OpenClaim := { program := "ytoiilhbjlfdfpaadoor", sum := "023deb92d959d87b02459b0725cce064d649073f227c517845d935c5d50b08e5", func := "rubrick/rubricklaw06.TreeClimbs", spec := "treeClimbs", recurses := true, named := ["rubrick/sha.begin", "rubrick/sha.rounds"], apart := false, laid := [("rubrick/sha.begin", laid_rubrick_sha_begin), ("rubrick/sha.rounds", laid_rubrick_sha_rounds)] }
def TreeClimbsSaid : Prop := treeClimbsRow.holds Tryd.pinned (OpenSpec.ofChange treeClimbsSpec)

/-- ITS FALSE NEIGHBOUR: 'it returns false'. Refute it at one input. -/
def treeClimbsWrong : ChangeSpec := { name := "treeClimbs", fn := fun _ => fun
  | [d1, d2, d3, d4] => { results := [.lit (.bool false)], args := [d1, d2, d3, d4] }
  | _ => none }
def TreeClimbsWrongFalsely : Prop := treeClimbsRow.holds Tryd.pinned (OpenSpec.ofChange treeClimbsWrong)

/-- 'rubricklaw06.TreeBack': WHATEVER THE INPUT: true; the input reads as it did. -/
def treeBackSpec : ChangeSpec := { name := "treeBack", fn := fun _ => fun
  | [d1, d2] => { results := [.lit (.bool true)], args := [d1, d2] }
  | _ => none }
def treeBackRow : OpenClaim := { program := "ytoiilhbjlfdfpaadoor", sum := "023deb92d959d87b02459b0725cce064d649073f227c517845d935c5d50b08e5", func := "rubrick/rubricklaw06.TreeBack", spec := "treeBack", named := ["rubrick/sha.begin", "rubrick/sha.rounds"], apart := false, laid := [("rubrick/sha.begin", laid_rubrick_sha_begin), ("rubrick/sha.rounds", laid_rubrick_sha_rounds)] }
def TreeBackSaid : Prop := treeBackRow.holds Tryd.pinned (OpenSpec.ofChange treeBackSpec)

/-- ITS FALSE NEIGHBOUR: 'it returns false'. Refute it at one input. -/
def treeBackWrong : ChangeSpec := { name := "treeBack", fn := fun _ => fun
  | [d1, d2] => { results := [.lit (.bool false)], args := [d1, d2] }
  | _ => none }
def TreeBackWrongFalsely : Prop := treeBackRow.holds Tryd.pinned (OpenSpec.ofChange treeBackWrong)

/-- 'rubricklaw06.TreeRoots': WHATEVER THE INPUT: true; the input reads as it did. -/
def treeRootsSpec : ChangeSpec := { name := "treeRoots", fn := fun _ => fun
  | [d1, d2, d3, d4] => { results := [.lit (.bool true)], args := [d1, d2, d3, d4] }
  | _ => none }
def treeRootsRow : OpenClaim := { program := "ytoiilhbjlfdfpaadoor", sum := "023deb92d959d87b02459b0725cce064d649073f227c517845d935c5d50b08e5", func := "rubrick/rubricklaw06.TreeRoots", spec := "treeRoots", recurses := true, named := ["rubrick/sha.begin", "rubrick/sha.rounds"], apart := false, laid := [("rubrick/sha.begin", laid_rubrick_sha_begin), ("rubrick/sha.rounds", laid_rubrick_sha_rounds)] }
def TreeRootsSaid : Prop := treeRootsRow.holds Tryd.pinned (OpenSpec.ofChange treeRootsSpec)

/-- ITS FALSE NEIGHBOUR: 'it returns false'. Refute it at one input. -/
def treeRootsWrong : ChangeSpec := { name := "treeRoots", fn := fun _ => fun
  | [d1, d2, d3, d4] => { results := [.lit (.bool false)], args := [d1, d2, d3, d4] }
  | _ => none }
def TreeRootsWrongFalsely : Prop := treeRootsRow.holds Tryd.pinned (OpenSpec.ofChange treeRootsWrong)

/-- 'rubricklaw06.TreeHalves': WHATEVER THE INPUT: true; the input reads as it did. -/
def treeHalvesSpec : ChangeSpec := { name := "treeHalves", fn := fun _ => fun
  | [d] => { results := [.lit (.bool true)], args := [d] }
  | _ => none }
def treeHalvesRow : OpenClaim := { program := "ytoiilhbjlfdfpaadoor", sum := "023deb92d959d87b02459b0725cce064d649073f227c517845d935c5d50b08e5", func := "rubrick/rubricklaw06.TreeHalves", spec := "treeHalves", named := ["rubrick/sha.begin", "rubrick/sha.rounds"], apart := false, laid := [("rubrick/sha.begin", laid_rubrick_sha_begin), ("rubrick/sha.rounds", laid_rubrick_sha_rounds)] }
def TreeHalvesSaid : Prop := treeHalvesRow.holds Tryd.pinned (OpenSpec.ofChange treeHalvesSpec)

/-- ITS FALSE NEIGHBOUR: 'it returns false'. Refute it at one input. -/
def treeHalvesWrong : ChangeSpec := { name := "treeHalves", fn := fun _ => fun
  | [d] => { results := [.lit (.bool false)], args := [d] }
  | _ => none }
def TreeHalvesWrongFalsely : Prop := treeHalvesRow.holds Tryd.pinned (OpenSpec.ofChange treeHalvesWrong)

/-- 'rubricklaw06.TreeWhole': WHATEVER THE INPUT: true; the input reads as it did. -/
def treeWholeSpec : ChangeSpec := { name := "treeWhole", fn := fun _ => fun
  | [d] => { results := [.lit (.bool true)], args := [d] }
  | _ => none }
def treeWholeRow : OpenClaim := { program := "ytoiilhbjlfdfpaadoor", sum := "023deb92d959d87b02459b0725cce064d649073f227c517845d935c5d50b08e5", func := "rubrick/rubricklaw06.TreeWhole", spec := "treeWhole", recurses := true, named := ["rubrick/sha.begin", "rubrick/sha.rounds"], apart := false, laid := [("rubrick/sha.begin", laid_rubrick_sha_begin), ("rubrick/sha.rounds", laid_rubrick_sha_rounds)] }
def TreeWholeSaid : Prop := treeWholeRow.holds Tryd.pinned (OpenSpec.ofChange treeWholeSpec)

/-- ITS FALSE NEIGHBOUR: 'it returns false'. Refute it at one input. -/
def treeWholeWrong : ChangeSpec := { name := "treeWhole", fn := fun _ => fun
  | [d] => { results := [.lit (.bool false)], args := [d] }
  | _ => none }
def TreeWholeWrongFalsely : Prop := treeWholeRow.holds Tryd.pinned (OpenSpec.ofChange treeWholeWrong)

/-- 'rubricklaw06.TreeBinds': WHATEVER THE INPUT: true; the input reads as it did. -/
def treeBindsSpec : ChangeSpec := { name := "treeBinds", fn := fun _ => fun
  | [d1, d2, d3, d4, d5, d6] => { results := [.lit (.bool true)], args := [d1, d2, d3, d4, d5, d6] }
  | _ => none }
def treeBindsRow : OpenClaim := { program := "ytoiilhbjlfdfpaadoor", sum := "023deb92d959d87b02459b0725cce064d649073f227c517845d935c5d50b08e5", func := "rubrick/rubricklaw06.TreeBinds", spec := "treeBinds", recurses := true, named := ["rubrick/sha.begin", "rubrick/sha.rounds"], apart := false, laid := [("rubrick/sha.begin", laid_rubrick_sha_begin), ("rubrick/sha.rounds", laid_rubrick_sha_rounds)] }
def TreeBindsSaid : Prop := treeBindsRow.holds Tryd.pinned (OpenSpec.ofChange treeBindsSpec)

/-- ITS FALSE NEIGHBOUR: 'it returns false'. Refute it at one input. -/
def treeBindsWrong : ChangeSpec := { name := "treeBinds", fn := fun _ => fun
  | [d1, d2, d3, d4, d5, d6] => { results := [.lit (.bool false)], args := [d1, d2, d3, d4, d5, d6] }
  | _ => none }
def TreeBindsWrongFalsely : Prop := treeBindsRow.holds Tryd.pinned (OpenSpec.ofChange treeBindsWrong)

/-- 'rubricklaw07.ConsProves': WHATEVER THE INPUT: true; the input reads as it did. -/
def consProvesSpec : ChangeSpec := { name := "consProves", fn := fun _ => fun
  | [d1, d2] => { results := [.lit (.bool true)], args := [d1, d2] }
  | _ => none }
def consProvesRow : OpenClaim := { program := "ytoiilhbjlfdfpaadoor", sum := "023deb92d959d87b02459b0725cce064d649073f227c517845d935c5d50b08e5", func := "rubrick/rubricklaw07.ConsProves", spec := "consProves", recurses := true, named := ["rubrick/sha.begin", "rubrick/sha.rounds"], apart := false, laid := [("rubrick/sha.begin", laid_rubrick_sha_begin), ("rubrick/sha.rounds", laid_rubrick_sha_rounds)] }
def ConsProvesSaid : Prop := consProvesRow.holds Tryd.pinned (OpenSpec.ofChange consProvesSpec)

/-- ITS FALSE NEIGHBOUR: 'it returns false'. Refute it at one input. -/
def consProvesWrong : ChangeSpec := { name := "consProves", fn := fun _ => fun
  | [d1, d2] => { results := [.lit (.bool false)], args := [d1, d2] }
  | _ => none }
def ConsProvesWrongFalsely : Prop := consProvesRow.holds Tryd.pinned (OpenSpec.ofChange consProvesWrong)

/-- 'rubricklaw07.ConsChecks': WHATEVER THE INPUT: true; the input reads as it did. -/
def consChecksSpec : ChangeSpec := { name := "consChecks", fn := fun _ => fun
  | [d1, d2, d3, d4, d5] => { results := [.lit (.bool true)], args := [d1, d2, d3, d4, d5] }
  | _ => none }
def consChecksRow : OpenClaim := { program := "ytoiilhbjlfdfpaadoor", sum := "023deb92d959d87b02459b0725cce064d649073f227c517845d935c5d50b08e5", func := "rubrick/rubricklaw07.ConsChecks", spec := "consChecks", recurses := true, named := ["rubrick/sha.begin", "rubrick/sha.rounds"], apart := false, laid := [("rubrick/sha.begin", laid_rubrick_sha_begin), ("rubrick/sha.rounds", laid_rubrick_sha_rounds)] }
def ConsChecksSaid : Prop := consChecksRow.holds Tryd.pinned (OpenSpec.ofChange consChecksSpec)

/-- ITS FALSE NEIGHBOUR: 'it returns false'. Refute it at one input. -/
def consChecksWrong : ChangeSpec := { name := "consChecks", fn := fun _ => fun
  | [d1, d2, d3, d4, d5] => { results := [.lit (.bool false)], args := [d1, d2, d3, d4, d5] }
  | _ => none }
def ConsChecksWrongFalsely : Prop := consChecksRow.holds Tryd.pinned (OpenSpec.ofChange consChecksWrong)

/-- 'rubricklaw07.ConsBack': WHATEVER THE INPUT: true; the input reads as it did. -/
def consBackSpec : ChangeSpec := { name := "consBack", fn := fun _ => fun
  | [d1, d2] => { results := [.lit (.bool true)], args := [d1, d2] }
  | _ => none }
def consBackRow : OpenClaim := { program := "ytoiilhbjlfdfpaadoor", sum := "023deb92d959d87b02459b0725cce064d649073f227c517845d935c5d50b08e5", func := "rubrick/rubricklaw07.ConsBack", spec := "consBack", recurses := true, named := ["rubrick/sha.begin", "rubrick/sha.rounds"], apart := false, laid := [("rubrick/sha.begin", laid_rubrick_sha_begin), ("rubrick/sha.rounds", laid_rubrick_sha_rounds)] }
def ConsBackSaid : Prop := consBackRow.holds Tryd.pinned (OpenSpec.ofChange consBackSpec)

/-- ITS FALSE NEIGHBOUR: 'it returns false'. Refute it at one input. -/
def consBackWrong : ChangeSpec := { name := "consBack", fn := fun _ => fun
  | [d1, d2] => { results := [.lit (.bool false)], args := [d1, d2] }
  | _ => none }
def ConsBackWrongFalsely : Prop := consBackRow.holds Tryd.pinned (OpenSpec.ofChange consBackWrong)

/-- 'rubricklaw07.ConsLength': WHATEVER THE INPUT: true; the input reads as it did. -/
def consLengthSpec : ChangeSpec := { name := "consLength", fn := fun _ => fun
  | [d1, d2, d3, d4, d5, d6] => { results := [.lit (.bool true)], args := [d1, d2, d3, d4, d5, d6] }
  | _ => none }
def consLengthRow : OpenClaim := { program := "ytoiilhbjlfdfpaadoor", sum := "023deb92d959d87b02459b0725cce064d649073f227c517845d935c5d50b08e5", func := "rubrick/rubricklaw07.ConsLength", spec := "consLength", recurses := true, named := ["rubrick/sha.begin", "rubrick/sha.rounds"], apart := false, laid := [("rubrick/sha.begin", laid_rubrick_sha_begin), ("rubrick/sha.rounds", laid_rubrick_sha_rounds)] }
def ConsLengthSaid : Prop := consLengthRow.holds Tryd.pinned (OpenSpec.ofChange consLengthSpec)

/-- ITS FALSE NEIGHBOUR: 'it returns false'. Refute it at one input. -/
def consLengthWrong : ChangeSpec := { name := "consLength", fn := fun _ => fun
  | [d1, d2, d3, d4, d5, d6] => { results := [.lit (.bool false)], args := [d1, d2, d3, d4, d5, d6] }
  | _ => none }
def ConsLengthWrongFalsely : Prop := consLengthRow.holds Tryd.pinned (OpenSpec.ofChange consLengthWrong)

/-- 'rubricklaw07.ConsEnds': WHATEVER THE INPUT: true; the input reads as it did. -/
def consEndsSpec : ChangeSpec := { name := "consEnds", fn := fun _ => fun
  | [d1, d2] => { results := [.lit (.bool true)], args := [d1, d2] }
  | _ => none }
def consEndsRow : OpenClaim := { program := "ytoiilhbjlfdfpaadoor", sum := "023deb92d959d87b02459b0725cce064d649073f227c517845d935c5d50b08e5", func := "rubrick/rubricklaw07.ConsEnds", spec := "consEnds", recurses := true, named := ["rubrick/sha.begin", "rubrick/sha.rounds"], apart := false, laid := [("rubrick/sha.begin", laid_rubrick_sha_begin), ("rubrick/sha.rounds", laid_rubrick_sha_rounds)] }
def ConsEndsSaid : Prop := consEndsRow.holds Tryd.pinned (OpenSpec.ofChange consEndsSpec)

/-- ITS FALSE NEIGHBOUR: 'it returns false'. Refute it at one input. -/
def consEndsWrong : ChangeSpec := { name := "consEnds", fn := fun _ => fun
  | [d1, d2] => { results := [.lit (.bool false)], args := [d1, d2] }
  | _ => none }
def ConsEndsWrongFalsely : Prop := consEndsRow.holds Tryd.pinned (OpenSpec.ofChange consEndsWrong)

/- THE SECOND FORM. 'bulk': how many values and letters a reading holds, each counted each time it is reached (what is shared counts as often as it is met; a slice's spare places count too). A statement '..UptoSaid' is the law's where the arguments, and the package variables that the reading takes, are together of bulk at most 1048576: NARROWER than '..Said'. Prove '..Said' where nothing that the law and all that it calls make is longer than what came in: it says more and counts as full. Else prove '..UptoSaid'. A law counts once. -/
mutual
def uptoBulk {H : Type} : DataW H → Nat
  | .lit (.string bytes) => bytes.length + 1
  | .lit _ => 1
  | .nil => 1
  | .ptr d => uptoBulk d + 1
  | .slice elems spare => uptoBulkAll elems + uptoBulkAll spare + 1
  | .agg parts => uptoBulkAll parts + 1
  | .iface _ d => uptoBulk d + 1
  | .map entries => uptoBulkEntries entries + 1
  | .held _ => 1
def uptoBulkAll {H : Type} : List (DataW H) → Nat
  | [] => 0
  | d :: r => uptoBulk d + uptoBulkAll r
def uptoBulkEntries {H : Type} : List (Lit × DataW H) → Nat
  | [] => 0
  | x :: r => uptoBulkEntry x + uptoBulkEntries r
def uptoBulkEntry {H : Type} : Lit × DataW H → Nat
  | (.string bytes, d) => bytes.length + uptoBulk d + 1
  | (_, d) => uptoBulk d + 1
 end
def uptoSmall : (H : Type) → List (DataW H) → Bool := fun _ ds => decide (uptoBulkAll ds ≤ 1048576)
def OpenSpec.upto (s : _root_.Go.ChangeSpec) : _root_.Go.OpenSpec := { _root_.Go.OpenSpec.ofChange s with cond := some uptoSmall }

/-- 'rubricklaw06.TreePaths', WHERE WHAT IT READS IS OF BULK AT MOST 1048576: true; the input reads as it did. -/
def treePathsUptoRow : OpenClaim := { program := "ytoiilhbjlfdfpaadoor", sum := "023deb92d959d87b02459b0725cce064d649073f227c517845d935c5d50b08e5", func := "rubrick/rubricklaw06.TreePaths", spec := "treePaths", recurses := true, named := ["rubrick/sha.begin", "rubrick/sha.rounds"], apart := false, laid := [("rubrick/sha.begin", laid_rubrick_sha_begin), ("rubrick/sha.rounds", laid_rubrick_sha_rounds)], narrowed := true }
def TreePathsUptoSaid : Prop := treePathsUptoRow.holds Tryd.pinned (OpenSpec.upto treePathsSpec)

/-- 'rubricklaw06.TreeClimbs', WHERE WHAT IT READS IS OF BULK AT MOST 1048576: true; the input reads as it did. -/
def treeClimbsUptoRow : OpenClaim := { program := "ytoiilhbjlfdfpaadoor", sum := "023deb92d959d87b02459b0725cce064d649073f227c517845d935c5d50b08e5", func := "rubrick/rubricklaw06.TreeClimbs", spec := "treeClimbs", recurses := true, named := ["rubrick/sha.begin", "rubrick/sha.rounds"], apart := false, laid := [("rubrick/sha.begin", laid_rubrick_sha_begin), ("rubrick/sha.rounds", laid_rubrick_sha_rounds)], narrowed := true }
def TreeClimbsUptoSaid : Prop := treeClimbsUptoRow.holds Tryd.pinned (OpenSpec.upto treeClimbsSpec)

/-- 'rubricklaw06.TreeBack', WHERE WHAT IT READS IS OF BULK AT MOST 1048576: true; the input reads as it did. -/
def treeBackUptoRow : OpenClaim := { program := "ytoiilhbjlfdfpaadoor", sum := "023deb92d959d87b02459b0725cce064d649073f227c517845d935c5d50b08e5", func := "rubrick/rubricklaw06.TreeBack", spec := "treeBack", named := ["rubrick/sha.begin", "rubrick/sha.rounds"], apart := false, laid := [("rubrick/sha.begin", laid_rubrick_sha_begin), ("rubrick/sha.rounds", laid_rubrick_sha_rounds)], narrowed := true }
def TreeBackUptoSaid : Prop := treeBackUptoRow.holds Tryd.pinned (OpenSpec.upto treeBackSpec)

/-- 'rubricklaw06.TreeRoots', WHERE WHAT IT READS IS OF BULK AT MOST 1048576: true; the input reads as it did. -/
def treeRootsUptoRow : OpenClaim := { program := "ytoiilhbjlfdfpaadoor", sum := "023deb92d959d87b02459b0725cce064d649073f227c517845d935c5d50b08e5", func := "rubrick/rubricklaw06.TreeRoots", spec := "treeRoots", recurses := true, named := ["rubrick/sha.begin", "rubrick/sha.rounds"], apart := false, laid := [("rubrick/sha.begin", laid_rubrick_sha_begin), ("rubrick/sha.rounds", laid_rubrick_sha_rounds)], narrowed := true }
def TreeRootsUptoSaid : Prop := treeRootsUptoRow.holds Tryd.pinned (OpenSpec.upto treeRootsSpec)

/-- 'rubricklaw06.TreeHalves', WHERE WHAT IT READS IS OF BULK AT MOST 1048576: true; the input reads as it did. -/
def treeHalvesUptoRow : OpenClaim := { program := "ytoiilhbjlfdfpaadoor", sum := "023deb92d959d87b02459b0725cce064d649073f227c517845d935c5d50b08e5", func := "rubrick/rubricklaw06.TreeHalves", spec := "treeHalves", named := ["rubrick/sha.begin", "rubrick/sha.rounds"], apart := false, laid := [("rubrick/sha.begin", laid_rubrick_sha_begin), ("rubrick/sha.rounds", laid_rubrick_sha_rounds)], narrowed := true }
def TreeHalvesUptoSaid : Prop := treeHalvesUptoRow.holds Tryd.pinned (OpenSpec.upto treeHalvesSpec)

/-- 'rubricklaw06.TreeWhole', WHERE WHAT IT READS IS OF BULK AT MOST 1048576: true; the input reads as it did. -/
def treeWholeUptoRow : OpenClaim := { program := "ytoiilhbjlfdfpaadoor", sum := "023deb92d959d87b02459b0725cce064d649073f227c517845d935c5d50b08e5", func := "rubrick/rubricklaw06.TreeWhole", spec := "treeWhole", recurses := true, named := ["rubrick/sha.begin", "rubrick/sha.rounds"], apart := false, laid := [("rubrick/sha.begin", laid_rubrick_sha_begin), ("rubrick/sha.rounds", laid_rubrick_sha_rounds)], narrowed := true }
def TreeWholeUptoSaid : Prop := treeWholeUptoRow.holds Tryd.pinned (OpenSpec.upto treeWholeSpec)

/-- 'rubricklaw06.TreeBinds', WHERE WHAT IT READS IS OF BULK AT MOST 1048576: true; the input reads as it did. -/
def treeBindsUptoRow : OpenClaim := { program := "ytoiilhbjlfdfpaadoor", sum := "023deb92d959d87b02459b0725cce064d649073f227c517845d935c5d50b08e5", func := "rubrick/rubricklaw06.TreeBinds", spec := "treeBinds", recurses := true, named := ["rubrick/sha.begin", "rubrick/sha.rounds"], apart := false, laid := [("rubrick/sha.begin", laid_rubrick_sha_begin), ("rubrick/sha.rounds", laid_rubrick_sha_rounds)], narrowed := true }
def TreeBindsUptoSaid : Prop := treeBindsUptoRow.holds Tryd.pinned (OpenSpec.upto treeBindsSpec)

/-- 'rubricklaw07.ConsProves', WHERE WHAT IT READS IS OF BULK AT MOST 1048576: true; the input reads as it did. -/
def consProvesUptoRow : OpenClaim := { program := "ytoiilhbjlfdfpaadoor", sum := "023deb92d959d87b02459b0725cce064d649073f227c517845d935c5d50b08e5", func := "rubrick/rubricklaw07.ConsProves", spec := "consProves", recurses := true, named := ["rubrick/sha.begin", "rubrick/sha.rounds"], apart := false, laid := [("rubrick/sha.begin", laid_rubrick_sha_begin), ("rubrick/sha.rounds", laid_rubrick_sha_rounds)], narrowed := true }
def ConsProvesUptoSaid : Prop := consProvesUptoRow.holds Tryd.pinned (OpenSpec.upto consProvesSpec)

/-- 'rubricklaw07.ConsChecks', WHERE WHAT IT READS IS OF BULK AT MOST 1048576: true; the input reads as it did. -/
def consChecksUptoRow : OpenClaim := { program := "ytoiilhbjlfdfpaadoor", sum := "023deb92d959d87b02459b0725cce064d649073f227c517845d935c5d50b08e5", func := "rubrick/rubricklaw07.ConsChecks", spec := "consChecks", recurses := true, named := ["rubrick/sha.begin", "rubrick/sha.rounds"], apart := false, laid := [("rubrick/sha.begin", laid_rubrick_sha_begin), ("rubrick/sha.rounds", laid_rubrick_sha_rounds)], narrowed := true }
def ConsChecksUptoSaid : Prop := consChecksUptoRow.holds Tryd.pinned (OpenSpec.upto consChecksSpec)

/-- 'rubricklaw07.ConsBack', WHERE WHAT IT READS IS OF BULK AT MOST 1048576: true; the input reads as it did. -/
def consBackUptoRow : OpenClaim := { program := "ytoiilhbjlfdfpaadoor", sum := "023deb92d959d87b02459b0725cce064d649073f227c517845d935c5d50b08e5", func := "rubrick/rubricklaw07.ConsBack", spec := "consBack", recurses := true, named := ["rubrick/sha.begin", "rubrick/sha.rounds"], apart := false, laid := [("rubrick/sha.begin", laid_rubrick_sha_begin), ("rubrick/sha.rounds", laid_rubrick_sha_rounds)], narrowed := true }
def ConsBackUptoSaid : Prop := consBackUptoRow.holds Tryd.pinned (OpenSpec.upto consBackSpec)

/-- 'rubricklaw07.ConsLength', WHERE WHAT IT READS IS OF BULK AT MOST 1048576: true; the input reads as it did. -/
def consLengthUptoRow : OpenClaim := { program := "ytoiilhbjlfdfpaadoor", sum := "023deb92d959d87b02459b0725cce064d649073f227c517845d935c5d50b08e5", func := "rubrick/rubricklaw07.ConsLength", spec := "consLength", recurses := true, named := ["rubrick/sha.begin", "rubrick/sha.rounds"], apart := false, laid := [("rubrick/sha.begin", laid_rubrick_sha_begin), ("rubrick/sha.rounds", laid_rubrick_sha_rounds)], narrowed := true }
def ConsLengthUptoSaid : Prop := consLengthUptoRow.holds Tryd.pinned (OpenSpec.upto consLengthSpec)

/-- 'rubricklaw07.ConsEnds', WHERE WHAT IT READS IS OF BULK AT MOST 1048576: true; the input reads as it did. -/
def consEndsUptoRow : OpenClaim := { program := "ytoiilhbjlfdfpaadoor", sum := "023deb92d959d87b02459b0725cce064d649073f227c517845d935c5d50b08e5", func := "rubrick/rubricklaw07.ConsEnds", spec := "consEnds", recurses := true, named := ["rubrick/sha.begin", "rubrick/sha.rounds"], apart := false, laid := [("rubrick/sha.begin", laid_rubrick_sha_begin), ("rubrick/sha.rounds", laid_rubrick_sha_rounds)], narrowed := true }
def ConsEndsUptoSaid : Prop := consEndsUptoRow.holds Tryd.pinned (OpenSpec.upto consEndsSpec)

end Rows
end Go.Proofs.YtoiilhbjlfdfpaaDoor
