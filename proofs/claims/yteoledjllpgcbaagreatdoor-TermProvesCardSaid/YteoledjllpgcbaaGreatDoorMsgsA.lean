/- Arguments opened: links, proofs, answers. No statement of the seat is proved here. -/
import Derived.Test.YteoledjllpgcbaaGreatDoorMReplyE
import Derived.Test.YteoledjllpgcbaaGreatDoorMReplyD
namespace Go.Proofs.YteoledjllpgcbaaGreatDoor
set_option maxRecDepth 100000
set_option linter.unusedVariables false
open Go.ChangeShapes Go.WideShapes Go.ChangeAt Go.RowKit
section
variable {H : Type} {enc : TypeId × Value → H} {W : World} {base : Nat} {v : Value} {d : DataW H} {p : List MemPlace} {r : Reach}
end
end Go.Proofs.YteoledjllpgcbaaGreatDoor
