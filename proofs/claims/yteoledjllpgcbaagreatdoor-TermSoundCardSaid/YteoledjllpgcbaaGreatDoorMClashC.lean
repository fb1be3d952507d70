/- MClashC: several texts of this claim in one file. No statement of the seat is proved here. -/
import Derived.Test.YteoledjllpgcbaaGreatDoorMClashB
namespace Go.Proofs.YteoledjllpgcbaaGreatDoor
set_option maxRecDepth 100000
set_option maxHeartbeats 64000000
set_option linter.unusedVariables false
open Go.RowKit
section
variable {w : World} {B : Nat} {A : Option Addr} {n c : Nat} {xs : List Value}
end
end Go.Proofs.YteoledjllpgcbaaGreatDoor
