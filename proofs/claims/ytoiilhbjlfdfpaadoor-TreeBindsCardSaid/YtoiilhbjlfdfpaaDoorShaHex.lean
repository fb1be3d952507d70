/- digit, value, Hex and FromHex, of the package that sums. No statement of the seat is proved here. -/
import Derived.Test.YtoiilhbjlfdfpaaDoorHexPlain
import Derived.Test.YtoiilhbjlfdfpaaDoorShaEnd
import Derived.Test.YtoiilhbjlfdfpaaDoorFree
import Derived.Test.YtoiilhbjlfdfpaaDoorBits
namespace Go.Proofs.YtoiilhbjlfdfpaaDoor
set_option linter.unusedVariables false
open Go.RowKit

theorem one_bv' (l : List UInt8) : ∀ u ∈ l.map bv, u.oneCell' = true := fun u hu => by
  obtain ⟨x, _, rfl⟩ := List.mem_map.1 hu
  rfl
theorem str_get {l : List UInt8} {i : Nat} {b : UInt8} (h : l[i]? = some b) : (str l)[i]? = some b := by
  obtain ⟨hi, hb⟩ := List.getElem?_eq_some_iff.1 h
  have hs : i < (str l).size := by simpa [str, ByteArray.size] using hi
  rw [getElem?_pos (str l) i hs]
  congr 1
theorem run_idx_str {P : Program} {w : World} {T : TypeId} (l : List UInt8) (i : Nat) (b : UInt8) (h : l[i]? = some b) (hu : P.underlying T = some .string) : (Instr.index T (.string (str l)) (.int .i64 (i : Int))).run P w = .ok (.int .u8 (b.toNat : Int)) w := by
  obtain ⟨hi, hb⟩ := List.getElem?_eq_some_iff.1 h
  have h2 : (str l)[i]? = some b := by
    have hs : i < (str l).size := by simpa [str, ByteArray.size] using hi
    rw [getElem?_pos (str l) i hs]
    congr 1
  have hs : i < (str l).size := by simpa [str, ByteArray.size] using hi
  have h3 : (str l)[i] = b := by
    rw [getElem?_pos (str l) i hs] at h2
    injection h2
  rw [run_index_string w T (str l) .i64 (i : Int) hu]
  simp [hs, h3]
theorem str_size (l : List UInt8) : (str l).size = l.length := by simp [str, ByteArray.size]

theorem and15 (n : Nat) (h : n < 256) : bits .and .u8 (n : Int) 15 = (n : Int) % 16 := Bit.mask8 4 _ _ _ (by omega) (by omega) (by omega) (by decide) (by decide)
def ValPost (c : UInt8) (w : World) (e : Ending) (w' : World) : Prop := (∃ v : Nat, v = (Hex.val c).getD 0 ∧ e = .returned (.tuple #[.int .u8 (v : Int), .bool (Hex.val c).isSome])) ∧ w = w'
theorem val_mk {c : UInt8} {w : World} {o : Option Nat} (h : Hex.val c = o) {x : Int} {b : Bool} (hx : x = ((o.getD 0 : Nat) : Int)) (hb : b = o.isSome) : ValPost c w (.returned (.tuple #[.int .u8 x, .bool b])) w :=
  ⟨⟨_, rfl, by rw [h, hx, hb]⟩, rfl⟩
def HexPost (l : List UInt8) (w : World) (e : Ending) (w' : World) : Prop := e = .returned (sv (Hex.hex l)) ∧ Below w.heap.size w w'
end Go.Proofs.YtoiilhbjlfdfpaaDoor
