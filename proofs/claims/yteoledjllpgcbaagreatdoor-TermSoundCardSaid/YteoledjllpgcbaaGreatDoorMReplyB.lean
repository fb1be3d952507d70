/- MReplyB: several texts of this claim in one file. No statement of the seat is proved here. -/
import Derived.Test.YteoledjllpgcbaaGreatDoorMReplyA
namespace Go.Proofs.YteoledjllpgcbaaGreatDoor
set_option maxRecDepth 100000
set_option maxHeartbeats 64000000
set_option linter.unusedVariables false
open Go.RowKit
namespace Hd
end Hd
section
variable {w W W' : World} {B g n c : Nat} {A : Option Addr} {bad : Bool} {l : List UInt8} {k : Nat}
end
namespace Hd
end Hd
namespace Hd
end Hd
namespace Hd
end Hd
section
variable {w W W' : World} {B g gr gp : Nat} {l : List UInt8} {s s' : Hd.RS} {zs ps : Array Value} {t : TypeId}
end
theorem KeepTy.setF {S : List TypeId} {x : Nat} {t : TypeId} (ht : t ∈ S) : ∀ (vs : List Value) {w : World} {cs : Array Value} (k : Nat), Row w x cs t → KeepTy S w (setFrom x w k vs)
 | [], w, _, _, _ => KeepTy.refl w
 | v :: vs, w, cs, k, h => (KeepTy.set h ht k v).trans (KeepTy.setF ht vs (k + 1) (h.set k v))
end Go.Proofs.YteoledjllpgcbaaGreatDoor
