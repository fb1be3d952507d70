/- MClashC: several texts of this claim in one file. No statement of the seat is proved here. -/
import Derived.Test.YteoledjllpgcbaaDoorMClashB
namespace Go.Proofs.YteoledjllpgcbaaDoor
set_option maxRecDepth 100000
set_option maxHeartbeats 64000000
set_option linter.unusedVariables false
open Go.RowKit
theorem leafBytes8 (A : Option Addr) (n c : Nat) (l : List UInt8) (w : World) (h : Bs w A n c l) (hn : n ≤ 1000000) :
  Calls Tryd.prog 57 #[.slice A n c] w (Ret8 w.heap.size (0 :: l) w) := by
 exact (leafBytes_any A n c l w h.rd h.len h.cap h.max hn).mono fun e w2 h => h.ret8
structure Box5 (w w5 : World) (va vb vx vy : Value) : Prop where
 eq : ((((w.alloc (.cells #[va] 49)).alloc (.cells #[vb] 49)).alloc (.cells #[vx] 27)).alloc (.cells #[vy] 27)).alloc (.cells #[.slice none 0 0, .slice none 0 0] 41) = w5
 bel : Below w.heap.size w w5
 size : w5.heap.size = w.heap.size + 5
 a : Row w5 w.heap.size #[va] 49
 b : Row w5 (w.heap.size + 1) #[vb] 49
 x : Row w5 (w.heap.size + 1 + 1) #[vx] 27
 y : Row w5 (w.heap.size + 1 + 1 + 1) #[vy] 27
 res : Row w5 (w.heap.size + 1 + 1 + 1 + 1) #[.slice none 0 0, .slice none 0 0] 41
theorem alloc_size (w : World) (o : Obj) : (w.alloc o).heap.size = w.heap.size + 1 := by unfold World.alloc; simp
theorem box5 (w : World) (va vb vx vy : Value) : ∃ w5, Box5 w w5 va vb vx vy := by
 refine ⟨_, rfl, ?_, ?_, ?_, ?_, ?_, ?_, ?_⟩
 · exact (((((Below.refl _ w).alloc (Nat.le_refl _) _).alloc (by simp only [alloc_size]; omega) _).alloc (by simp only [alloc_size]; omega) _).alloc (by simp only [alloc_size]; omega) _).alloc (by simp only [alloc_size]; omega) _
 · simp
 · exact ((((row_new w #[va] 49).alloc _).alloc _).alloc _).alloc _
 ·
  have h := row_new (w.alloc (.cells #[va] 49)) #[vb] 49
  rw [alloc_size] at h
  exact ((h.alloc _).alloc _).alloc _
 ·
  have h := row_new ((w.alloc (.cells #[va] 49)).alloc (.cells #[vb] 49)) #[vx] 27
  rw [alloc_size, alloc_size] at h
  exact (h.alloc _).alloc _
 ·
  have h := row_new (((w.alloc (.cells #[va] 49)).alloc (.cells #[vb] 49)).alloc (.cells #[vx] 27)) #[vy] 27
  rw [alloc_size, alloc_size, alloc_size] at h
  exact h.alloc _
 ·
  have h := row_new ((((w.alloc (.cells #[va] 49)).alloc (.cells #[vb] 49)).alloc (.cells #[vx] 27)).alloc (.cells #[vy] 27)) #[.slice none 0 0, .slice none 0 0] 41
  rw [alloc_size, alloc_size, alloc_size, alloc_size] at h
  exact h
theorem arg4c {ρ : Operand → Value} {x y z u : Operand} {c d e f : Value} (h : ρ x = c) (h2 : ρ y = d) (h3 : ρ z = e) (h4 : ρ u = f) : (#[x, y, z, u] : Array Operand).map ρ = #[c, d, e, f] := by simp [h, h2, h3, h4]
section
variable {w : World} {B : Nat} {A : Option Addr} {n c : Nat} {xs : List Value}
theorem run_cutR_hi (h : Rd w B A xs) (hl : xs.length = n) (hc : n ≤ c) (k : Nat) (hk : k ≤ n) :
  ∃ A', (Instr.sliceAt 49 (.slice A n c) none (some (.int .i64 (k : Int))) none).run Tryd.prog w = .ok (.slice A' k c) w ∧ Rd w B A' (xs.take k) := by
 have hu' : Tryd.prog.underlying 49 = some (.slice (Tryd.prog.elem 49)) := by kernel_rfl
 have hr1 := run_slice_h (P := Tryd.prog) w 49 A n c hu' .i64 (k : Int) (by omega) (by omega)
 rw [show Tryd.prog.elem 49 = 28 by kernel_rfl, run_sizeOf_of 28 1 (by kernel_rfl), Result.andThen_ok] at hr1
 refine ⟨_, by rw [run_sliceAt_slice w 49 _ _ _ _ hu', hr1]; simp only [Int.toNat_natCast]; rfl, ?_⟩
 split
 · exact h.take _
 ·
  have := (h.take k).drop 0
  simpa using this
theorem run_cutR_lo (h : Rd w B A xs) (hl : xs.length = n) (hc : n ≤ c) (k : Nat) (hk : k ≤ n) :
  ∃ A', (Instr.sliceAt 49 (.slice A n c) (some (.int .i64 (k : Int))) none none).run Tryd.prog w = .ok (.slice A' (n - k) (c - k)) w ∧ Rd w B A' (xs.drop k) := by
 have hu' : Tryd.prog.underlying 49 = some (.slice (Tryd.prog.elem 49)) := by kernel_rfl
 have hcut := rd_cut (i := k) h hl hc
 have hr1 := run_slice_l (P := Tryd.prog) w 49 A n c hu' .i64 (k : Int) (by omega) (by omega)
 rw [show Tryd.prog.elem 49 = 28 by kernel_rfl, run_sizeOf_of 28 1 (by kernel_rfl), Result.andThen_ok] at hr1
 exact ⟨_, by rw [run_sliceAt_slice w 49 _ _ _ _ hu', hr1]; simp only [Int.toNat_natCast]; rfl, hcut⟩
end
theorem parts3 {ρ : Operand → Value} {x y z : Operand} {c d e : Value} (h : ρ x = c) (h2 : ρ y = d) (h3 : ρ z = e) : ((#[(0, x), (1, y), (2, z)] : Array (Nat × Operand)).map fun (i, x) => (i, ρ x)) = #[(0, c), (1, d), (2, e)] := by simp [h, h2, h3]
theorem caps5 {ρ : Operand → Value} {x y z u t : Operand} {c d e f g : Value} (h : ρ x = c) (h2 : ρ y = d) (h3 : ρ z = e) (h4 : ρ u = f) (h5 : ρ t = g) : (#[x, y, z, u, t] : Array Operand).map ρ = #[c, d, e, f, g] := by simp [h, h2, h3, h4, h5]
theorem d_makeFn {P : Program} {ρ : Operand → Value} {V : Value → World → Prop} {w : World} {o : Oper} {f : FuncId} {xs : Array Operand} {caps : Array Value} (ho : o.op = .makeFunc (.func f) #[] xs) (hx : xs.map ρ = caps) (hV : V (.func (.func f) #[] caps) w) : Free.Does P V w ρ o := by
 unfold Free.Does; simp [execOp, ho, hx, Instr.makeFunc]; exact ⟨hV, Below.refl _ _⟩
def Tries (w : World) (v : Value) (rs : List (Option (List UInt8 × List UInt8))) : Prop := ∃ A n c vs, v = .slice A n c ∧ Rd w w.heap.size A vs ∧ vs.length = n ∧ rs.length = n ∧ n ≤ c ∧ c ≤ maxLen ∧ ∀ (i : Nat) v r, vs[i]? = some v → rs[i]? = some r → Try w v r
theorem Tries.keep {w w' : World} {v : Value} {rs : List (Option (List UInt8 × List UInt8))} (h : Tries w v rs) (hb : Below w.heap.size w w') : Tries w' v rs := by
 obtain ⟨A, n, c, vs, e, h1, h2, h3, h4, h5, h6⟩ := h
 exact ⟨A, n, c, vs, e, (h1.below' hb (Nat.le_refl _)).more hb.size, h2, h3, h4, h5, fun i v r a b => (h6 i v r a b).keep hb⟩
theorem Tries.of3 {w : World} {v0 v1 v2 : Value} {r0 r1 r2 : Option (List UInt8 × List UInt8)} (h0 : Try w v0 r0) (h1 : Try w v1 r1) (h2 : Try w v2 r2) : Tries (w.alloc (.cells ([v0, v1, v2] : List Value).toArray 102)) (.slice (some ⟨w.heap.size, 0, none⟩) 3 3) [r0, r1, r2] := by
 have hb : Below w.heap.size w (w.alloc (.cells ([v0, v1, v2] : List Value).toArray 102)) := (Below.refl _ w).alloc (Nat.le_refl _) _
 refine ⟨_, _, _, [v0, v1, v2], rfl, (rd_new w [v0, v1, v2] _ (0, 0)).more (by rw [alloc_size]; exact Nat.le_refl _), rfl, rfl, Nat.le_refl _, by rw [maxLen_eq]; omega, fun i v r a b => ?_⟩
 match i, a, b with
 | 0, a, b => injection a with a; injection b with b; rw [← a, ← b]; exact h0.keep hb
 | 1, a, b => injection a with a; injection b with b; rw [← a, ← b]; exact h1.keep hb
 | 2, a, b => injection a with a; injection b with b; rw [← a, ← b]; exact h2.keep hb
 | i + 3, a, b => simp at a
def Free.kT (r : Option (List UInt8 × List UInt8)) : Free.SV := ⟨fun v w => ∃ v', v = v' ∧ Try w v' r, fun v w w' ⟨v', h1, h2⟩ g => ⟨v', h1, h2.keep g⟩⟩
def Free.kY (rs : List (Option (List UInt8 × List UInt8))) : Free.SV := ⟨fun v w => ∃ v', v = v' ∧ Tries w v' rs, fun v w w' ⟨v', h1, h2⟩ g => ⟨v', h1, h2.keep g⟩⟩
theorem rows_two8 (w : World) : RowsAt (((w.alloc (.cells #[.int .u8 1] 5)).alloc (.cells #[.int .u8 2] 5)).alloc (.cells #[.slice (some ⟨w.heap.size, 0, none⟩) 1 1, .slice (some ⟨w.heap.size + 1, 0, none⟩) 1 1] 28)) (some ⟨w.heap.size + 1 + 1, 0, none⟩) 2 (pieceAt3 w.heap.size) := fun _ => by
 have s1 : (w.alloc (.cells #[.int .u8 1] 5)).heap.size = w.heap.size + 1 := by unfold World.alloc; simp
 obtain ⟨w1, h1⟩ : ∃ w1, w.alloc (.cells #[.int .u8 1] 5) = w1 := ⟨_, rfl⟩
 have p0 : Rd w1 (w.heap.size + 1) (some ⟨w.heap.size, 0, none⟩) [bv 1] := by rw [← h1]; exact rd_new w [bv 1] 5 (0, 0)
 rw [h1] at s1 ⊢
 have s2 : (w1.alloc (.cells #[.int .u8 2] 5)).heap.size = w1.heap.size + 1 := by unfold World.alloc; simp
 obtain ⟨w2, h2⟩ : ∃ w2, w1.alloc (.cells #[.int .u8 2] 5) = w2 := ⟨_, rfl⟩
 have p1 : Rd w2 (w1.heap.size + 1) (some ⟨w1.heap.size, 0, none⟩) [bv 2] := by rw [← h2]; exact rd_new w1 [bv 2] 5 (0, 0)
 replace p0 : Rd w2 (w.heap.size + 1) (some ⟨w.heap.size, 0, none⟩) [bv 1] := by rw [← h2]; exact p0.alloc (by omega) _
 rw [h2] at s2 ⊢
 have e1 : w1.heap.size = w.heap.size + 1 := s1
 have e2 : w2.heap.size = w.heap.size + 1 + 1 := by omega
 rw [e1] at p1
 refine ⟨w.heap.size + 1 + 1, 0, rfl, by unfold World.alloc; simp [e2], fun i hi => ?_⟩
 have hrow := row_new w2 #[.slice (some ⟨w.heap.size, 0, none⟩) 1 1, .slice (some ⟨w.heap.size + 1, 0, none⟩) 1 1] 28
 rw [e2] at hrow
 rcases (show i = 0 ∨ i = 1 by omega) with rfl | rfl
 · exact ⟨hrow.cellQ 0 _ rfl, ⟨(p0.alloc (by omega) _).more (by unfold World.alloc; simp; omega), rfl, Nat.le_refl _, (show 1 ≤ maxLen by decide)⟩⟩
 · exact ⟨hrow.cellQ 1 _ rfl, ⟨(p1.alloc (by omega) _).more (by unfold World.alloc; simp; omega), rfl, Nat.le_refl _, (show 1 ≤ maxLen by decide)⟩⟩
end Go.Proofs.YteoledjllpgcbaaDoor
