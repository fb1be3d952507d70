/- MFirst: several texts of this claim in one file. No statement of the seat is proved here. -/
import Derived.Test.YteoledjllpgcbaaGreatDoorMCode
import Derived.Test.YteoledjllpgcbaaGreatDoorMPostA
import Derived.Test.YteoledjllpgcbaaGreatDoorMSealA
import Derived.Test.YteoledjllpgcbaaGreatDoorMHeadD
import Derived.Test.YteoledjllpgcbaaGreatDoorMTreeA
import Derived.Test.YteoledjllpgcbaaGreatDoorMReplyE
namespace Go.Proofs.YteoledjllpgcbaaGreatDoor.Code
set_option maxRecDepth 100000
set_option maxHeartbeats 64000000
set_option linter.unusedVariables false
def lead : List UInt8 → Nat
 | [] => 0
 | c :: t => if c.toNat < 128 then 0 else lead t + 1
def vals : List UInt8 → Nat
 | [] => 0
 | c :: t => c.toNat % 128 + 128 * vals t
theorem scan_hit : ∀ (b : List UInt8) (n v : Nat), n + lead b < 9 → lead b < b.length → ∃ c, scan b n v = .ok (v + vals (b.take (lead b + 1)) * 128 ^ n, n + lead b + 1, c)
 | [], n, v, _, h => by simp at h
 | c :: t, n, v, h, h2 => by
  by_cases hc : c.toNat < 128
  ·
   refine ⟨c, ?_⟩
   rw [scan, if_neg (by omega), if_pos hc, lead, if_pos hc]
   simp only [Nat.zero_add, List.take_succ_cons, List.take_zero, vals, Nat.mul_zero, Nat.add_zero]
   rw [Nat.mod_eq_of_lt hc]
  ·
   rw [lead, if_neg hc] at h h2
   obtain ⟨d, hd⟩ := scan_hit t (n + 1) (v + c.toNat % 128 * 128 ^ n) (by omega) (by simpa using h2)
   refine ⟨d, ?_⟩
   rw [scan, if_neg (by omega), if_neg hc, hd, lead, if_neg hc, List.take_succ_cons, vals]
   congr 2
   ·
    rw [Nat.pow_succ, Nat.add_mul, Nat.add_assoc]
    congr 2
    rw [Nat.mul_comm 128, Nat.mul_assoc, Nat.mul_comm 128]
   · congr 1; omega
theorem first_hit {b : List UInt8} (h : lead b < 9) (h2 : lead b < b.length) : (getNum b = .error 2 ∧ (4611686018427387904 < vals (b.take (lead b + 1)) ∨ num (vals (b.take (lead b + 1))) ≠ b.take (lead b + 1))) ∨
  (getNum b = .ok (vals (b.take (lead b + 1)), lead b + 1) ∧ vals (b.take (lead b + 1)) ≤ 4611686018427387904 ∧ num (vals (b.take (lead b + 1))) = b.take (lead b + 1)) := by
 obtain ⟨c, hc⟩ := scan_hit b 0 0 (by omega) h2
 have he : getNum b = if (1 < lead b + 1 ∧ c = 0) ∨ 4611686018427387904 < vals (b.take (lead b + 1)) then .error 2 else .ok (vals (b.take (lead b + 1)), lead b + 1) := by
  unfold getNum fin
  rw [hc]
  simp
 by_cases hbad : (1 < lead b + 1 ∧ c = 0) ∨ 4611686018427387904 < vals (b.take (lead b + 1))
 ·
  rw [if_pos hbad] at he
  refine .inl ⟨he, ?_⟩
  refine Classical.byContradiction fun hno => ?_
  have h3 : vals (b.take (lead b + 1)) ≤ 4611686018427387904 := by
   refine Classical.byContradiction fun h => hno (.inl (by omega))
  have h4 : num (vals (b.take (lead b + 1))) = b.take (lead b + 1) := Classical.byContradiction fun h => hno (.inr h)
  have h5 := getNum_num (vals (b.take (lead b + 1))) (b.drop (lead b + 1)) h3
  rw [h4, List.take_append_drop, he] at h5
  cases h5
 ·
  rw [if_neg hbad] at he
  have := getNum_ok he
  exact .inr ⟨he, this.2.1, this.1.symm⟩
end Go.Proofs.YteoledjllpgcbaaGreatDoor.Code
namespace Go.Proofs.YteoledjllpgcbaaGreatDoor
set_option maxRecDepth 100000
set_option maxHeartbeats 64000000
set_option linter.unusedVariables false
open Go.RowKit
section
variable {w : World} {A : Option Addr} {n c : Nat} {l : List UInt8}
end
def FirstV : Except Nat (Nat × Nat) → Value
 | .ok (v, k) => .tuple #[.int .i64 (v : Int), .int .i64 (k : Int), .int .i64 0]
 | .error x => .tuple #[.int .i64 0, .int .i64 0, .int .i64 (x : Int)]
def FirstPost (r : Except Nat (Nat × Nat)) (w : World) (e : Ending) (w' : World) : Prop := e = .returned (FirstV r) ∧ Below w.heap.size w w'
section
variable {ops : Array Oper} {rest : List Oper} {o : Oper} {a : Act} {Q : Exit → Act → World → Prop} {w : World} {A : Option Addr} {n c : Nat} {l : List UInt8}
end
end Go.Proofs.YteoledjllpgcbaaGreatDoor
