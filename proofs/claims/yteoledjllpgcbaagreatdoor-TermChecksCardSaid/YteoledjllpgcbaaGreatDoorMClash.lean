/- MClash: several texts of this claim in one file. No statement of the seat is proved here. -/
import Derived.Test.YteoledjllpgcbaaGreatDoorMTreeC
namespace Go.Proofs.YteoledjllpgcbaaGreatDoor
set_option maxRecDepth 100000
set_option linter.unusedVariables false
namespace Cl
abbrev By := List UInt8
/-- The clash of two lists of bytes. -/
def btw (a b : By) : Option (By × By) := if clashB a b then some (a, b) else none
/-- The bytes of the node at the root of a list of digests. -/
def topB (ds : List By) : By := 1 :: (troot (ds.take (Tree.sp ds.length)) ++ troot (ds.drop (Tree.sp ds.length)))
/-- The bytes of a node on a path. -/
def nb (s : Bool) (x y : By) : By := if s then 1 :: (y ++ x) else 1 :: (x ++ y)
/-- The digests of leaves. -/
abbrev lv (l : List By) : List By := l.map (seal_ 0)
theorem lv_all (l : List By) : ∀ s ∈ lv l, s.length = 32 := fun s hs => by
  obtain ⟨x, _, rfl⟩ := List.mem_map.1 hs
  exact seal_len _ _
/-- The clash of a leaf that is claimed, from the root down. -/
def lf (leaf : By) : List Bool → List By → List By → Option (By × By)
  | [], l, _ => btw (0 :: leaf) (0 :: l.headD [])
  | s :: S, l, p => (btw (nb s (Tree.clb tnd tnil (seal_ 0 leaf) S p.dropLast) (p.getLastD tnil)) (topB (lv l))).or (lf leaf S (if s then l.drop (Tree.sp l.length) else l.take (Tree.sp l.length)) p.dropLast)
/-- The clash of two lists of as many leaves. -/
def tw : Nat → List By → List By → Option (By × By)
  | 0, _, _ => none
  | q + 1, a, b => if a.length < 2 then btw (0 :: a.headD []) (0 :: b.headD [])
    else (btw (topB (lv a)) (topB (lv b))).or ((tw q (a.take (Tree.sp a.length)) (b.take (Tree.sp a.length))).or (tw q (a.drop (Tree.sp a.length)) (b.drop (Tree.sp a.length))))
/-- Two lists of as many leaves. -/
def two (a b : List By) : Option (By × By) := tw a.length a b
end Cl
end Go.Proofs.YteoledjllpgcbaaGreatDoor

namespace Go.Proofs.YteoledjllpgcbaaGreatDoor
set_option maxRecDepth 100000
set_option linter.unusedVariables false
namespace Cl
/-- The search at place t of the way. -/
def at_ (d : By) (S : List Bool) (H p : List By) (t : Nat) : Option (By × By) :=
  btw (nb (S.getD t false) (Tree.clb tnd tnil d (S.drop (t + 1)) (p.take (S.length - 1 - t))) (p.getD (S.length - 1 - t) [])) (H.getD t [])
end Cl
end Go.Proofs.YteoledjllpgcbaaGreatDoor
