/- FromHex, of the package that sums. No statement of the seat is proved here. -/
import Derived.Test.YtoiilhbjlfdfpaaDoorShaHex
namespace Go.Proofs.YtoiilhbjlfdfpaaDoor
set_option linter.unusedVariables false
open Go.RowKit

def UnhexPost (s : List UInt8) (w : World) (e : Ending) (w' : World) : Prop :=
  (∃ l t : List UInt8, ∃ n : Int, (Hex.unhex s = some l ∧ t = l ∧ n = 0 ∨ Hex.unhex s = none ∧ t = [] ∧ n = 2) ∧ e = .returned (.tuple #[sv t, .int .i64 n])) ∧ Below w.heap.size w w'
theorem unhex_no {s : List UInt8} {w w' : World} (h : Hex.unhex s = none) (hb : Below w.heap.size w w') : UnhexPost s w (.returned (.tuple #[.string { data := #[] }, .int .i64 2])) w' :=
  ⟨⟨[], [], 2, .inr ⟨h, rfl, rfl⟩, rfl⟩, hb⟩
theorem unhex_yes {s l : List UInt8} {w w' : World} (h : Hex.unhex s = some l) (hb : Below w.heap.size w w') : UnhexPost s w (.returned (.tuple #[sv l, .int .i64 0])) w' :=
  ⟨⟨l, l, 0, .inl ⟨h, rfl, rfl⟩, rfl⟩, hb⟩
theorem unhex_step {s : List UInt8} {i : Nat} {a b : UInt8} (ha : s[i]? = some a) (hb : s[i + 1]? = some b) : Hex.unhex (s.drop i) = match Hex.val a, Hex.val b with
    | some x, some y => (Hex.unhex (s.drop (i + 2))).map (UInt8.ofNat (x * 16 + y) :: ·)
    | _, _ => none := by
  obtain ⟨h1, rfl⟩ := List.getElem?_eq_some_iff.1 ha
  obtain ⟨h2, rfl⟩ := List.getElem?_eq_some_iff.1 hb
  rw [List.drop_eq_getElem_cons h1, List.drop_eq_getElem_cons h2]
  rfl
theorem orShift (x y : Nat) (hx : x < 16) (hy : y < 16) : bits .or .u8 ((x : Int) * 16) (y : Int) = ((UInt8.ofNat (x * 16 + y)).toNat : Int) := by
  have key : ∀ x y : Fin 16, bits .or .u8 ((x.val : Int) * 16) (y.val : Int) = ((UInt8.ofNat (x.val * 16 + y.val)).toNat : Int) := by decide +kernel
  exact key ⟨x, hx⟩ ⟨y, hy⟩
end Go.Proofs.YtoiilhbjlfdfpaaDoor
