/- Numbers and texts are read: inside, start, getNum, getText. No statement of the seat is proved here. -/
import Derived.Test.YtoiilhbjlfdfpaaDoorCode1
import Derived.WalkMore
namespace Go.Proofs.YtoiilhbjlfdfpaaDoor
set_option linter.unusedVariables false
open Go.RowKit

/-- A reader, as a value. -/
abbrev rv (A : Option Addr) (n c : Nat) (at_ e : Int) : Value := .agg #[.slice A n c, .int .i64 at_, .int .i64 e]
def GetNumRet (at_ : Nat) (e : Ending) : Except Nat (Nat × Nat) → Prop
  | .ok (v, k) => e = .returned (.tuple #[.int .i64 (v : Int), .int .i64 ((at_ + k : Nat) : Int), .int .i64 0])
  | .error x => e = .returned (.tuple #[.int .i64 0, .int .i64 0, .int .i64 (x : Int)])
def GetNumPost (l : List UInt8) (at_ : Nat) (w : World) (e : Ending) (w' : World) : Prop := GetNumRet at_ e (Code.getNum (l.drop at_)) ∧ w = w'
theorem or_acc (acc y k : Nat) (ha : acc < 128 ^ k) (hy : y < 128) (hk : k ≤ 8) : bits .or .i64 (acc : Int) ((y * 128 ^ k : Nat) : Int) = ((acc + y * 128 ^ k : Nat) : Int) := by
  have e : (128 : Nat) ^ k = 2 ^ (7 * k) := by rw [Nat.pow_mul]
  have h8 : (128 : Nat) ^ k ≤ 128 ^ 8 := Nat.pow_le_pow_right (by omega) hk
  have h9 : y * 128 ^ k ≤ 127 * 128 ^ 8 := Nat.mul_le_mul (by omega) h8
  rw [Bit.i64_or _ _ (by omega) (by omega)]
  congr 1
  rw [Nat.or_comm, Nat.mul_comm, e]
  rw [e] at ha
  rw [← Nat.two_pow_add_eq_or_of_lt ha]
  omega
theorem shl_acc (y k : Nat) (hy : y < 128) (hk : k ≤ 8) : IntKind.i64.wrap ((y : Int) * 2 ^ (7 * k)) = ((y * 128 ^ k : Nat) : Int) := by
  have e : (128 : Nat) ^ k = 2 ^ (7 * k) := by rw [Nat.pow_mul]
  have h8 : (128 : Nat) ^ k ≤ 128 ^ 8 := Nat.pow_le_pow_right (by omega) hk
  have h9 : y * 128 ^ k ≤ 127 * 128 ^ 8 := Nat.mul_le_mul (by omega) h8
  have e2 : (y : Int) * 2 ^ (7 * k) = ((y * 128 ^ k : Nat) : Int) := by rw [e]; push_cast; rfl
  rw [e2]
  exact wrap_id _ (by omega) (by omega)
/-- Where the reading of a number is. -/
structure ScanRel (l : List UInt8) (at_ k acc : Nat) : Prop where
  eq : Code.scan (l.drop at_) 0 0 = Code.scan (l.drop (at_ + k)) k acc
  lt : acc < 128 ^ k
  le : k ≤ 9
theorem ScanRel.step {l : List UInt8} {at_ k acc : Nat} {b : UInt8} (h : ScanRel l at_ k acc) (hb : l[at_ + k]? = some b) (hk : k < 9) (hge : ¬ b.toNat < 128) : ScanRel l at_ (k + 1) (acc + b.toNat % 128 * 128 ^ k) := by
  obtain ⟨hlt, hbb⟩ := List.getElem?_eq_some_iff.1 hb
  refine ⟨?_, ?_, by omega⟩
  · rw [h.eq, List.drop_eq_getElem_cons hlt, hbb, Code.scan, if_neg (by omega), if_neg hge, Nat.add_assoc]
  · have h1 := h.lt
    rw [Nat.pow_succ]
    have h2 : b.toNat % 128 ≤ 127 := by omega
    have h3 : b.toNat % 128 * 128 ^ k ≤ 127 * 128 ^ k := Nat.mul_le_mul_right _ h2
    omega
theorem ScanRel.last {l : List UInt8} {at_ k acc : Nat} {b : UInt8} (h : ScanRel l at_ k acc) (hb : l[at_ + k]? = some b) (hk : k < 9) (hlt : b.toNat < 128) : Code.getNum (l.drop at_) = Code.fin (.ok (acc + b.toNat * 128 ^ k, k + 1, b)) := by
  obtain ⟨hl, hbb⟩ := List.getElem?_eq_some_iff.1 hb
  unfold Code.getNum
  rw [h.eq, List.drop_eq_getElem_cons hl, hbb, Code.scan, if_neg (by omega), if_pos hlt]
theorem ScanRel.full {l : List UInt8} {at_ acc : Nat} (h : ScanRel l at_ 9 acc) : Code.getNum (l.drop at_) = .error 2 := by
  unfold Code.getNum
  rw [h.eq]
  cases l.drop (at_ + 9) <;> rfl
theorem ScanRel.none {l : List UInt8} {at_ k acc : Nat} (h : ScanRel l at_ k acc) (hk : k < 9) (hl : l.length ≤ at_ + k) : Code.getNum (l.drop at_) = .error 4 := by
  unfold Code.getNum
  rw [h.eq, List.drop_eq_nil_of_le hl, Code.scan, if_neg (by omega)]
  rfl
theorem getNum_ret {l : List UInt8} {at_ : Nat} {w : World} {e : Ending} {r : Except Nat (Nat × Nat)} (h : Code.getNum (l.drop at_) = r) (he : GetNumRet at_ e r) : GetNumPost l at_ w e w := ⟨by rw [h]; exact he, rfl⟩
end Go.Proofs.YtoiilhbjlfdfpaaDoor
