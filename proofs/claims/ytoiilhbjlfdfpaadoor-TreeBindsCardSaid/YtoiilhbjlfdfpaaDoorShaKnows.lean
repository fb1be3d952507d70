/- The document's examples hold (knows); ShaSums. -/
import Derived.Test.YtoiilhbjlfdfpaaDoorShaUnhex
import Derived.Test.YtoiilhbjlfdfpaaDoorShaRef5
import Derived.Lib.SlBytesConst
namespace Go.Proofs.YtoiilhbjlfdfpaaDoor
set_option linter.unusedVariables false
open Go.RowKit

/-- What lies before the calls: the package's two tables. -/
structure Tabs (w : World) : Prop where
  r : RoundsLie w
  b : BeginLies w
theorem Tabs.below {w w' : World} (h : Tabs w) (hb : Below w.heap.size w w') : Tabs w' := ⟨h.r.below hb (Nat.le_refl _), h.b.below hb (Nat.le_refl _)⟩
def Yes (w : World) (e : Ending) (w' : World) : Prop := e = .returned (.bool true) ∧ Below w.heap.size w w'
theorem end_new_any (w : World) (ht : Tabs w) : Calls Tryd.prog 51 #[tv Sha.begin_ (.slice none 0 0) 0] w (SumPost [] w) := by
  refine (end_any Sha.begin_ none 0 0 [] 0 w Rd.nil rfl (Nat.le_refl _) (Nat.zero_le _) ht.r ht.b).mono ?_
  rintro e w' ⟨rfl, hb⟩
  refine ⟨?_, hb⟩
  have hv : vld 0 ([] : List UInt8).length = true := vld_of 0 (by omega)
  have e4 : endS Sha.begin_ 0 ([] : List UInt8).length = Sha.begin_ := by unfold endS; rw [hv]; rfl
  have e5 : endR [] 0 ([] : List UInt8).length = [] := by unfold endR; rw [hv]; rfl
  have e6 : endN 0 ([] : List UInt8).length = 0 := by unfold endN; rw [hv]; rfl
  rw [e4, e5, e6]
  exact congrArg (fun x => Ending.returned (sv x)) Hex.end_new
theorem sum_nil_any (w : World) (ht : Tabs w) : Calls Tryd.prog 31 #[.slice none 0 0] w (SumPost [] w) :=
  sum_any none 0 0 [] w Rd.nil rfl (Nat.le_refl _) (Nat.zero_le _) (by omega) ht.r ht.b
theorem abc_bytes : ([.int .u8 97, .int .u8 98, .int .u8 99] : List Value) = List.map bv [97, 98, 99] := rfl
theorem eq_refl_str (T : TypeId) (l : List UInt8) (w : World) : (binOp .eql T (sv l) (sv l)).run Tryd.prog w = .ok (.bool true) w := by
  rw [run_eql_str]; simp
theorem nil_same : ((str Hex.nilHex).toList == [101, 51, 98, 48, 99, 52, 52, 50, 57, 56, 102, 99, 49, 99, 49, 52, 57, 97, 102, 98, 102, 52, 99, 56, 57, 57, 54, 102, 98, 57, 50, 52, 50, 55, 97, 101, 52, 49, 101, 52, 54, 52, 57, 98, 57, 51, 52, 99, 97, 52, 57, 53, 57, 57, 49, 98, 55, 56, 53, 50, 98, 56, 53, 53]) = true := by
  rw [str_toList]; decide
end Go.Proofs.YtoiilhbjlfdfpaaDoor
