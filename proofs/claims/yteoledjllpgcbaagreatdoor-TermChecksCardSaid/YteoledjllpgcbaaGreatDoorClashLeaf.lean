/- ClashLeaf: the walk of the law. -/
import Derived.Test.YteoledjllpgcbaaGreatDoorMClashC
namespace Go.Proofs.YteoledjllpgcbaaGreatDoor
set_option maxRecDepth 100000
set_option linter.unusedVariables false
open Go.RowKit
theorem all32_of {p : List (List UInt8)} (h : Tree.all32 p = true) : ∀ s ∈ p, s.length = 32 := by
  intro s hs
  unfold Tree.all32 at h
  have := List.all_eq_true.1 h s hs
  simpa using this
end Go.Proofs.YteoledjllpgcbaaGreatDoor
