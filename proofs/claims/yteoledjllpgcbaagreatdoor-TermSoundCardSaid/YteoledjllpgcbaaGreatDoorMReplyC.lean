/- MReplyC: several texts of this claim in one file. No statement of the seat is proved here. -/
import Derived.Test.YteoledjllpgcbaaGreatDoorMReplyB
import Derived.Test.YteoledjllpgcbaaGreatDoorMTreeA
namespace Go.Proofs.YteoledjllpgcbaaGreatDoor
set_option maxRecDepth 100000
set_option maxHeartbeats 64000000
set_option linter.unusedVariables false
open Go.RowKit
theorem size_alloc (w : World) (o : Obj) : (w.alloc o).heap.size = w.heap.size + 1 := by unfold World.alloc; simp
section
variable {w W W' : World} {z g1 g2 g3 n c : Nat} {c1 c2 c3 : Array Value} {A : Option Addr} {L : List Hd.Sg} {k : Nat}
end
namespace Hd
end Hd
end Go.Proofs.YteoledjllpgcbaaGreatDoor
