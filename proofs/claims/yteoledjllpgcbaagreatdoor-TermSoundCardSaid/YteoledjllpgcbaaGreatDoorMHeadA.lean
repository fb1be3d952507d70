/- MHeadA: several texts of this claim in one file. No statement of the seat is proved here. -/
import Derived.Test.YteoledjllpgcbaaGreatDoorMHeadP
import Derived.Deep.CutRange
import Derived.Test.YteoledjllpgcbaaGreatDoorMSealA
namespace Go.Proofs.YteoledjllpgcbaaGreatDoor
set_option maxRecDepth 100000
set_option maxHeartbeats 64000000
set_option linter.unusedVariables false
open Go.RowKit
theorem run_idxK {P : Program} {w : World} {k : Nat} (T : TypeId) {e : TypeId} (hu : P.underlying T = some (.slice e)) (he : (P.info? (P.elem T)).map (·.size) = some k) (b off n c i : Nat) (z : Int) (hz : z = (i : Int)) (hi : i < n) :
  (Instr.indexAt T (.slice (some ⟨b, off, none⟩) n c) (.int .i64 z)).run P w = .ok (.pointer (some ⟨b, off + i * k, none⟩)) w := by
 subst hz
 have hue : P.elem T = e := by simp [Program.elem, hu]
 rw [run_indexAt_slice w T _ n c .i64 _ (by rw [hue]; exact hu), if_pos ⟨by omega, by omega⟩, run_sizeOf_of _ k he, Result.andThen_ok, Int.toNat_natCast]
 by_cases h0 : i * k = 0
 · rw [h0]; simp [Addr.add]
 · simp [Addr.add, h0]
end Go.Proofs.YteoledjllpgcbaaGreatDoor
