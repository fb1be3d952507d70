/- Numbers and texts are written: fresh, putNum, Num, putText, Text, and the reference's Num, Text. No statement of the seat is proved here. -/
import Derived.Test.YtoiilhbjlfdfpaaDoorMem
import Derived.Test.YtoiilhbjlfdfpaaDoorCodePlain
namespace Go.Proofs.YtoiilhbjlfdfpaaDoor
set_option linter.unusedVariables false
open Go.RowKit

/-- Where the writing of a number is. -/
structure PutRel (B : Nat) (l : List UInt8) (v : Nat) (w : World) (A' : Option Addr) (n' c' x : Nat) (l' : List UInt8) (wr : World) : Prop where
  own : Own8 wr B A' n' c' l'
  eq : l' ++ Code.num x = l ++ Code.num v
  below : Below B w wr
  le : x ≤ v
theorem or128 (x : Nat) (hx : x < 128) : bits .or .u8 (x : Int) 128 = (x : Int) + 128 := by
  rw [show (128 : Int) = ((128 : Nat) : Int) from rfl, u8_or_nat x 128 (by omega) (by omega), Nat.or_comm]
  have h := Nat.two_pow_add_eq_or_of_lt (i := 7) (b := x) (by omega) 1
  rw [show 2 ^ 7 * 1 = 128 from rfl] at h
  rw [← h]; push_cast; omega
def NumPost (l : List UInt8) (w : World) (e : Ending) (w' : World) : Prop := ∃ A n c, e = .returned (.tuple #[.slice A n c, .int .i64 0]) ∧ Own8 w' w.heap.size A n c l ∧ Below w.heap.size w w'
end Go.Proofs.YtoiilhbjlfdfpaaDoor
