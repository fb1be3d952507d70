/- MFirst: several texts of this claim in one file. No statement of the seat is proved here. -/
import Derived.Test.YteoledjllpgcbaaDoorMCode
import Derived.Test.YteoledjllpgcbaaDoorMPostA
import Derived.Test.YteoledjllpgcbaaDoorMSealA
import Derived.Test.YteoledjllpgcbaaDoorMHeadD
import Derived.Test.YteoledjllpgcbaaDoorMTreeA
import Derived.Test.YteoledjllpgcbaaDoorMReplyE
namespace Go.Proofs.YteoledjllpgcbaaDoor.Code
set_option maxRecDepth 100000
set_option maxHeartbeats 64000000
set_option linter.unusedVariables false
def lead : List UInt8 → Nat
 | [] => 0
 | c :: t => if c.toNat < 128 then 0 else lead t + 1
def vals : List UInt8 → Nat
 | [] => 0
 | c :: t => c.toNat % 128 + 128 * vals t
theorem lead_le : ∀ b : List UInt8, lead b ≤ b.length
 | [] => Nat.le_refl _
 | c :: t => by
  have := lead_le t
  rw [lead]
  split <;> simp <;> omega
theorem lead_at : ∀ (b : List UInt8) (k : Nat) (c : UInt8), b[k]? = some c → k ≤ lead b → (c.toNat < 128 ↔ lead b = k)
 | [], k, c, h, _ => by simp at h
 | d :: t, 0, c, h, _ => by
  simp only [List.getElem?_cons_zero, Option.some.injEq] at h
  subst h
  rw [lead]
  split <;> simp_all
 | d :: t, k + 1, c, h, hk => by
  rw [List.getElem?_cons_succ] at h
  rw [lead] at hk ⊢
  split at hk
  · omega
  ·
   rename_i hd
   rw [if_neg hd]
   have := lead_at t k c h (by omega)
   rw [this]
   omega
theorem vals_lt : ∀ l : List UInt8, vals l < 128 ^ l.length
 | [] => by simp [vals]
 | c :: t => by
  have := vals_lt t
  rw [vals, List.length_cons, Nat.pow_succ]
  have : c.toNat % 128 < 128 := Nat.mod_lt _ (by omega)
  omega
theorem vals_le {l : List UInt8} {k : Nat} (h : l.length ≤ k) : vals l < 128 ^ k := Nat.lt_of_lt_of_le (vals_lt l) (Nat.pow_le_pow_right (by omega) h)
theorem scan_far : ∀ (b : List UInt8) (n v : Nat), n ≤ 9 → 9 ≤ n + lead b → scan b n v = .error 2
 | [], n, v, h, h2 => by
  have : n = 9 := by simp [lead] at h2; omega
  rw [scan, if_pos this]
 | c :: t, n, v, h, h2 => by
  rw [scan]
  split
  · rfl
  ·
   rw [lead] at h2
   split at h2
   · omega
   ·
    rename_i hc
    rw [if_neg hc]
    exact scan_far t (n + 1) _ (by omega) (by omega)
theorem scan_end : ∀ (b : List UInt8) (n v : Nat), n + lead b < 9 → lead b = b.length → scan b n v = .error 4
 | [], n, v, h, _ => by rw [scan, if_neg (by simp [lead] at h; omega)]
 | c :: t, n, v, h, h2 => by
  rw [lead] at h h2
  split at h2
  · simp at h2
  ·
   rename_i hc
   rw [if_neg hc] at h
   rw [scan, if_neg (by omega), if_neg hc]
   exact scan_end t (n + 1) _ (by omega) (by simpa using h2)
theorem scan_hit : ∀ (b : List UInt8) (n v : Nat), n + lead b < 9 → lead b < b.length → ∃ c, scan b n v = .ok (v + vals (b.take (lead b + 1)) * 128 ^ n, n + lead b + 1, c)
 | [], n, v, _, h => by simp at h
 | c :: t, n, v, h, h2 => by
  by_cases hc : c.toNat < 128
  ·
   refine ⟨c, ?_⟩
   rw [scan, if_neg (by omega), if_pos hc, lead, if_pos hc]
   simp only [Nat.zero_add, List.take_succ_cons, List.take_zero, vals, Nat.mul_zero, Nat.add_zero]
   rw [Nat.mod_eq_of_lt hc]
  ·
   rw [lead, if_neg hc] at h h2
   obtain ⟨d, hd⟩ := scan_hit t (n + 1) (v + c.toNat % 128 * 128 ^ n) (by omega) (by simpa using h2)
   refine ⟨d, ?_⟩
   rw [scan, if_neg (by omega), if_neg hc, hd, lead, if_neg hc, List.take_succ_cons, vals]
   congr 2
   ·
    rw [Nat.pow_succ, Nat.add_mul, Nat.add_assoc]
    congr 2
    rw [Nat.mul_comm 128, Nat.mul_assoc, Nat.mul_comm 128]
   · congr 1; omega
theorem first_far {b : List UInt8} (h : 9 ≤ lead b) : getNum b = .error 2 := by
 unfold getNum
 rw [scan_far b 0 0 (by omega) (by omega)]
 rfl
theorem first_end {b : List UInt8} (h : lead b < 9) (h2 : lead b = b.length) : getNum b = .error 4 := by
 unfold getNum
 rw [scan_end b 0 0 (by omega) h2]
 rfl
theorem first_hit {b : List UInt8} (h : lead b < 9) (h2 : lead b < b.length) : (getNum b = .error 2 ∧ (4611686018427387904 < vals (b.take (lead b + 1)) ∨ num (vals (b.take (lead b + 1))) ≠ b.take (lead b + 1))) ∨
  (getNum b = .ok (vals (b.take (lead b + 1)), lead b + 1) ∧ vals (b.take (lead b + 1)) ≤ 4611686018427387904 ∧ num (vals (b.take (lead b + 1))) = b.take (lead b + 1)) := by
 obtain ⟨c, hc⟩ := scan_hit b 0 0 (by omega) h2
 have he : getNum b = if (1 < lead b + 1 ∧ c = 0) ∨ 4611686018427387904 < vals (b.take (lead b + 1)) then .error 2 else .ok (vals (b.take (lead b + 1)), lead b + 1) := by
  unfold getNum fin
  rw [hc]
  simp
 by_cases hbad : (1 < lead b + 1 ∧ c = 0) ∨ 4611686018427387904 < vals (b.take (lead b + 1))
 ·
  rw [if_pos hbad] at he
  refine .inl ⟨he, ?_⟩
  refine Classical.byContradiction fun hno => ?_
  have h3 : vals (b.take (lead b + 1)) ≤ 4611686018427387904 := by
   refine Classical.byContradiction fun h => hno (.inl (by omega))
  have h4 : num (vals (b.take (lead b + 1))) = b.take (lead b + 1) := Classical.byContradiction fun h => hno (.inr h)
  have h5 := getNum_num (vals (b.take (lead b + 1))) (b.drop (lead b + 1)) h3
  rw [h4, List.take_append_drop, he] at h5
  cases h5
 ·
  rw [if_neg hbad] at he
  have := getNum_ok he
  exact .inr ⟨he, this.2.1, this.1.symm⟩
theorem vals_step {b : List UInt8} {j : Nat} {c : UInt8} {m : Nat} (h : b[j]? = some c) (hj : j < m) : vals ((b.take m).drop j) = c.toNat % 128 + 128 * vals ((b.take m).drop (j + 1)) := by
 have h1 : (b.take m)[j]? = some c := by rw [List.getElem?_take_of_lt hj]; exact h
 obtain ⟨hl, he⟩ := List.getElem?_eq_some_iff.1 h1
 rw [List.drop_eq_getElem_cons hl, he, vals]
end Go.Proofs.YteoledjllpgcbaaDoor.Code
namespace Go.Proofs.YteoledjllpgcbaaDoor
set_option maxRecDepth 100000
set_option maxHeartbeats 64000000
set_option linter.unusedVariables false
open Go.RowKit
theorem Bs.at {w : World} {A : Option Addr} {n c : Nat} {l : List UInt8} (h : Bs w A n c l) {k : Nat} (hk : k < n) : ∃ b off x, A = some ⟨b, off, none⟩ ∧ b < w.heap.size ∧ l[k]? = some x ∧ ∀ W, Below w.heap.size w W → W.cell? ⟨b, off + k, none⟩ = some (.int .u8 (x.toNat : Int)) := by
 have hk' : k < l.length := by rw [h.len]; exact hk
 obtain ⟨b, off, e, hb, hc⟩ := h.rd (by intro e; (have : l = [] := by simpa using e); rw [this] at hk'; simp at hk')
 refine ⟨b, off, l[k], e, hb, List.getElem?_eq_getElem hk', fun W hW => ?_⟩
 rw [hW.cell (p := ⟨b, off + k, none⟩) hb]
 exact hc k _ (by rw [List.getElem?_map, List.getElem?_eq_getElem hk']; rfl)
section
variable {w : World} {A : Option Addr} {n c : Nat} {l : List UInt8}
theorem run_cut8_hi (h : Bs w A n c l) (k : Nat) (hk : k ≤ n) :
  ∃ A', (Instr.sliceAt 28 (.slice A n c) none (some (.int .i64 (k : Int))) none).run Tryd.prog w = .ok (.slice A' k c) w ∧ Bs w A' k c (l.take k) := by
 have hu' : Tryd.prog.underlying 28 = some (.slice (Tryd.prog.elem 28)) := by kernel_rfl
 have hr1 := run_slice_h (P := Tryd.prog) w 28 A n c hu' .i64 (k : Int) (by omega) (by have := h.cap; omega)
 rw [show Tryd.prog.elem 28 = 5 by kernel_rfl, run_sizeOf_of 5 1 (by kernel_rfl), Result.andThen_ok] at hr1
 refine ⟨_, by rw [run_sliceAt_slice w 28 _ _ _ _ hu', hr1]; simp only [Int.toNat_natCast]; rfl, ?_, by rw [List.length_take, h.len]; omega, Nat.le_trans hk h.cap, h.max⟩
 rw [List.map_take]
 split
 · exact h.rd.take _
 ·
  have := (h.rd.take k).drop 0
  simpa using this
theorem run_cut8_lo (h : Bs w A n c l) (k : Nat) (hk : k ≤ n) :
  ∃ A', (Instr.sliceAt 28 (.slice A n c) (some (.int .i64 (k : Int))) none none).run Tryd.prog w = .ok (.slice A' (n - k) (c - k)) w ∧ Bs w A' (n - k) (c - k) (l.drop k) := by
 have hu' : Tryd.prog.underlying 28 = some (.slice (Tryd.prog.elem 28)) := by kernel_rfl
 have hcut := rd_cut (i := k) h.rd (by rw [List.length_map]; exact h.len) h.cap
 have hr1 := run_slice_l (P := Tryd.prog) w 28 A n c hu' .i64 (k : Int) (by omega) (by omega)
 rw [show Tryd.prog.elem 28 = 5 by kernel_rfl, run_sizeOf_of 5 1 (by kernel_rfl), Result.andThen_ok] at hr1
 refine ⟨_, by rw [run_sliceAt_slice w 28 _ _ _ _ hu', hr1]; simp only [Int.toNat_natCast]; rfl, ?_, by rw [List.length_drop, h.len], by have := h.cap; omega, by have := h.max; omega⟩
 rw [List.map_drop]
 exact hcut
theorem run_cut8_lh (h : Bs w A n c l) (i j : Nat) (hi : i ≤ j) (hj : j ≤ n) :
  ∃ A', (Instr.sliceAt 28 (.slice A n c) (some (.int .i64 (i : Int))) (some (.int .i64 (j : Int))) none).run Tryd.prog w = .ok (.slice A' (j - i) (c - i)) w ∧ Bs w A' (j - i) (c - i) ((l.take j).drop i) := by
 have hu' : Tryd.prog.underlying 28 = some (.slice (Tryd.prog.elem 28)) := by kernel_rfl
 have hcut := rd_cut (i := i) (h.rd.take j) (n := j) (by rw [List.length_take, List.length_map, h.len]; omega) (by have := h.cap; omega : j ≤ c)
 have hr1 := run_slice_lh (P := Tryd.prog) w 28 A n c hu' .i64 .i64 (i : Int) (j : Int) (by omega) (by omega) (by have := h.cap; omega)
 rw [show Tryd.prog.elem 28 = 5 by kernel_rfl, run_sizeOf_of 5 1 (by kernel_rfl), Result.andThen_ok] at hr1
 refine ⟨_, by rw [run_sliceAt_slice w 28 _ _ _ _ hu', hr1]; simp only [Int.toNat_natCast]; rfl, ?_, by rw [List.length_drop, List.length_take, h.len]; omega, by have := h.cap; omega, by have := h.max; omega⟩
 rw [List.map_drop, List.map_take]
 exact hcut
end
def FirstV : Except Nat (Nat × Nat) → Value
 | .ok (v, k) => .tuple #[.int .i64 (v : Int), .int .i64 (k : Int), .int .i64 0]
 | .error x => .tuple #[.int .i64 0, .int .i64 0, .int .i64 (x : Int)]
def FirstPost (r : Except Nat (Nat × Nat)) (w : World) (e : Ending) (w' : World) : Prop := e = .returned (FirstV r) ∧ Below w.heap.size w w'
section
variable {ops : Array Oper} {rest : List Oper} {o : Oper} {a : Act} {Q : Exit → Act → World → Prop} {w : World} {A : Option Addr} {n c : Nat} {l : List UInt8}
theorem wl_cut8_lo (hgd : o.guard = none) (x lo : Operand) (ho : o.op = .slice 28 x (some lo) none none) (hx : a.eval x = .slice A n c) (h1 : Bs w A n c l) (k : Nat) (hlo : a.eval lo = .int .i64 (k : Int)) (hk : k ≤ n)
  (h : ∀ A', Bs w A' (n - k) (c - k) (l.drop k) → wpList Tryd.prog ops Q rest (a.put o.dst (.slice A' (n - k) (c - k))) w) : wpList Tryd.prog ops Q (o :: rest) a w := by
 obtain ⟨A', hr, hs⟩ := run_cut8_lo h1 k hk
 exact wl_sl hgd _ x (some lo) none ho hx (congrArg some hlo) rfl hr (h A' hs)
theorem wl_cut8_lh (hgd : o.guard = none) (x lo hi : Operand) (ho : o.op = .slice 28 x (some lo) (some hi) none) (hx : a.eval x = .slice A n c) (h1 : Bs w A n c l) (i j : Nat) (hlo : a.eval lo = .int .i64 (i : Int)) (hhi : a.eval hi = .int .i64 (j : Int)) (hi' : i ≤ j) (hj : j ≤ n)
  (h : ∀ A', Bs w A' (j - i) (c - i) ((l.take j).drop i) → wpList Tryd.prog ops Q rest (a.put o.dst (.slice A' (j - i) (c - i))) w) : wpList Tryd.prog ops Q (o :: rest) a w := by
 obtain ⟨A', hr, hs⟩ := run_cut8_lh h1 i j hi' hj
 exact wl_sl hgd _ x (some lo) (some hi) ho hx (congrArg some hlo) (congrArg some hhi) hr (h A' hs)
end
def FtPost (s : List UInt8) (k : Nat) (w : World) (e : Ending) (w' : World) : Prop := e = .returned (.tuple #[sv s, .int .i64 (k : Int), .int .i64 0]) ∧ Below w.heap.size w w'
def RdLkPost (k : Hd.Lk) (w : World) (e : Ending) (w' : World) : Prop := e = .returned (.tuple #[.agg #[sv k.term, sv k.next, sv k.posts], .int .i64 0]) ∧ Below w.heap.size w w'
end Go.Proofs.YteoledjllpgcbaaDoor
