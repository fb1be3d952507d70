/- MClashB: several texts of this claim in one file. No statement of the seat is proved here. -/
import Derived.Test.YteoledjllpgcbaaGreatDoorMClashA
namespace Go.Proofs.YteoledjllpgcbaaGreatDoor
set_option maxRecDepth 100000
set_option linter.unusedVariables false
open Go.RowKit
end Go.Proofs.YteoledjllpgcbaaGreatDoor

namespace Go.Proofs.YteoledjllpgcbaaGreatDoor
set_option maxRecDepth 100000
set_option linter.unusedVariables false
open Go.RowKit
section
variable {ops : Array Oper} {rest : List Oper} {o : Oper} {a : Act} {Q : Exit → Act → World → Prop} {w : World}
end
end Go.Proofs.YteoledjllpgcbaaGreatDoor

namespace Go.Proofs.YteoledjllpgcbaaGreatDoor
set_option maxRecDepth 100000
set_option linter.unusedVariables false
open Go.RowKit
end Go.Proofs.YteoledjllpgcbaaGreatDoor

namespace Go.Proofs.YteoledjllpgcbaaGreatDoor
set_option maxRecDepth 100000
set_option linter.unusedVariables false
open Go.RowKit
end Go.Proofs.YteoledjllpgcbaaGreatDoor

namespace Go.Proofs.YteoledjllpgcbaaGreatDoor
set_option maxRecDepth 100000
set_option linter.unusedVariables false
open Go.RowKit
end Go.Proofs.YteoledjllpgcbaaGreatDoor
