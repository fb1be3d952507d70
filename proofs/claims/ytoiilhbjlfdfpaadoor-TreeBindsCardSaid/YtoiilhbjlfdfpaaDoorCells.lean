/- Rows of cells that are written whole; make; element types. No statement of the seat is proved here. -/
import Derived.Test.YtoiilhbjlfdfpaaDoorGen
import Derived.OwnWalk
namespace Go.Proofs.YtoiilhbjlfdfpaaDoor
set_option linter.unusedVariables false
open Go.RowKit

theorem info_u8 : (Tryd.prog.info? 5).map (fun i => (i.zero, i.size, i.bytes)) = some (some (.int .u8 0), 1, 1) := by kernel_rfl
theorem size_u8 : (Tryd.prog.info? 5).map (·.size) = some 1 := by kernel_rfl
theorem bytesT : ElemT Tryd.prog 50 5 1 1 := ElemT.mk' Tryd.underlying50 info_u8 rfl (by omega)

/-- A block of cells, of no element's own. -/
def Row (w : World) (b : Nat) (cs : Array Value) (t : TypeId) : Prop := w.heap[b]? = some (.cells cs t (0, 0))
section
variable {w w' : World} {b B : Nat} {cs : Array Value} {t : TypeId}
theorem Row.cell (h : Row w b cs t) (j : Nat) (hj : j < cs.size) : w.cell? ⟨b, j, none⟩ = some cs[j] := by
  unfold Row at h
  simp [World.cell?, h, hj]
theorem Row.cellQ (h : Row w b cs t) (j : Nat) (v : Value) (hj : cs[j]? = some v) : w.cell? ⟨b, j, none⟩ = some v := by
  unfold Row at h
  simp [World.cell?, h, hj]
theorem Row.frozen (h : Row w b cs t) (j : Nat) : w.frozen? ⟨b, j, none⟩ = false := by
  unfold Row at h
  simp [World.frozen?, h]
theorem Row.lt (h : Row w b cs t) : b < w.heap.size := by
  rcases Nat.lt_or_ge b w.heap.size with hlt | hge
  · exact hlt
  · unfold Row at h
    rw [Array.getElem?_eq_none hge] at h; cases h
theorem Row.below (h : Row w b cs t) (hb : Below B w w') (hB : b < B) : Row w' b cs t := by
  unfold Row at *
  rw [hb.block b hB]; exact h
theorem Row.belowS (h : Row w b cs t) (hb : Below B w w') (hB : w.heap.size ≤ B) : Row w' b cs t := h.below hb (Nat.lt_of_lt_of_le h.lt hB)
theorem Row.set (h : Row w b cs t) (j : Nat) (u : Value) : Row (w.setCell ⟨b, j, none⟩ u) b (cs.setIfInBounds j u) t := by
  unfold Row at *
  simp [World.setCell, Array.getElem?_modify, h]
theorem Row.far (h : Row w b cs t) (c j : Nat) (u : Value) (hc : b ≠ c) : Row (w.setCell ⟨c, j, none⟩ u) b cs t := by
  unfold Row at *
  rw [Below.heap_setCell _ _ _ _ hc]; exact h
theorem Row.drew (h : Row w b cs t) : Row w.drew b cs t := h
theorem Row.alloc (h : Row w b cs t) (o : Obj) : Row (w.alloc o) b cs t := by
  unfold Row at *
  rw [Below.heap_alloc _ _ _ (Row.lt h)]; exact h
theorem Row.grown (h : Row w b cs t) {row : Option Nat} (hg : w.grownBy w' row) (hr : row ≠ some b) : Row w' b cs t := by
  unfold Row at *
  rw [hg.block b (Row.lt h) (fun e => hr e.symm)]; exact h
end
theorem row_new (w : World) (cs : Array Value) (t : TypeId) : Row (w.alloc (.cells cs t)) w.heap.size cs t := by
  show (w.heap.push _)[w.heap.size]? = _
  simp
theorem wrap_id (x : Int) (h0 : -9223372036854775808 ≤ x) (h1 : x < 9223372036854775808) : IntKind.i64.wrap x = x := by
  rw [IntKind.wrap_i64]; omega
theorem own_nil (w : World) (B : Nat) (e : TypeId) (size : Nat) : w.ownsRow B e size (.slice none 0 0) 0 [] := ⟨by simp, .inl ⟨rfl, rfl⟩⟩
/-- Cells written one behind the other. -/
def setFrom (b : Nat) : World → Nat → List Value → World
  | w, _, [] => w
  | w, k, v :: vs => setFrom b (w.setCell ⟨b, k, none⟩ v) (k + 1) vs
def arrSet : Array Value → Nat → List Value → Array Value
  | a, _, [] => a
  | a, k, v :: vs => arrSet (a.setIfInBounds k v) (k + 1) vs
theorem Row.setFrom_at {b : Nat} {t : TypeId} : ∀ (vs : List Value) {w : World} {cs : Array Value} (k : Nat), Row w b cs t → Row (setFrom b w k vs) b (arrSet cs k vs) t
  | [], _, _, _, h => h
  | v :: vs, _, _, k, h => Row.setFrom_at vs (k + 1) (h.set k v)
theorem arrSet_get : ∀ (vs : List Value) (a : Array Value) (k j : Nat), k + vs.length ≤ a.size → (arrSet a k vs).size = a.size ∧ (arrSet a k vs)[j]? = if k ≤ j ∧ j < k + vs.length then vs[j - k]? else a[j]?
  | [], a, k, j, h => ⟨rfl, by rw [if_neg (by simp)]; rfl⟩
  | v :: vs, a, k, j, h => by
    simp only [List.length_cons] at h
    obtain ⟨h1, h2⟩ := arrSet_get vs (a.setIfInBounds k v) (k + 1) j (by simp; omega)
    refine ⟨by rw [arrSet, h1]; simp, ?_⟩
    rw [arrSet, h2]
    by_cases e : j = k
    · subst e
      rw [if_neg (by omega), if_pos (by simp)]
      simp [show j < a.size by omega]
    · by_cases h3 : k ≤ j ∧ j < k + (vs.length + 1)
      · rw [if_pos (by omega), if_pos (by simpa using h3)]
        obtain ⟨q, hq⟩ : ∃ q, j - k = q + 1 := ⟨j - k - 1, by omega⟩
        rw [hq, List.getElem?_cons_succ]
        congr 1; omega
      · rw [if_neg (by omega), if_neg (by simpa using h3)]
        rw [Array.getElem?_setIfInBounds, if_neg (fun e' => e e'.symm)]
theorem arrSet_all (vs : List Value) (a : Array Value) (h : a.size = vs.length) : arrSet a 0 vs = vs.toArray := by
  apply Array.ext_getElem?
  intro j
  obtain ⟨h1, h2⟩ := arrSet_get vs a 0 j (by omega)
  rw [h2]
  by_cases hj : j < vs.length
  · rw [if_pos (by omega)]; simp
  · rw [if_neg (by omega), Array.getElem?_eq_none (by omega), Array.getElem?_eq_none (by simpa using Nat.le_of_not_lt hj)]
theorem Row.all {w : World} {b : Nat} {cs : Array Value} {t : TypeId} (h : Row w b cs t) (vs : List Value) (hl : cs.size = vs.length) : Row (setFrom b w 0 vs) b vs.toArray t := by
  have := h.setFrom_at vs 0
  rw [arrSet_all vs cs hl] at this
  exact this
theorem below_setFrom {B : Nat} {v : World} {b : Nat} (hB : B ≤ b) : ∀ (vs : List Value) {w : World} (k : Nat), Below B v w → Below B v (setFrom b w k vs)
  | [], _, _, h => h
  | _ :: vs, _, k, h => below_setFrom hB vs (k + 1) (h.setCell hB _)
theorem size_setFrom (b : Nat) : ∀ (vs : List Value) (w : World) (k : Nat), (setFrom b w k vs).heap.size = w.heap.size
  | [], _, _ => rfl
  | v :: vs, w, k => by rw [setFrom, size_setFrom b vs, World.size_setCell]
theorem Row.far_setFrom {b c : Nat} {cs : Array Value} {t : TypeId} (hc : b ≠ c) : ∀ (vs : List Value) {w : World} (k : Nat), Row w b cs t → Row (setFrom c w k vs) b cs t
  | [], _, _, h => h
  | v :: vs, _, k, h => Row.far_setFrom hc vs (k + 1) (h.far c k v hc)
theorem heap_setFrom {b g : Nat} (hg : g ≠ b) : ∀ (vs : List Value) (w : World) (k : Nat), (setFrom b w k vs).heap[g]? = w.heap[g]?
  | [], _, _ => rfl
  | v :: vs, w, k => by rw [setFrom, heap_setFrom hg vs, Below.heap_setCell _ _ _ _ hg]
theorem own_setFrom {w : World} {B : Nat} {e : TypeId} {size : Nat} {v : Value} {n : Nat} {xs : List Value} (h : w.ownsRow B e size v n xs) {b : Nat} (hb : b < B) (vs : List Value) (k : Nat) : (setFrom b w k vs).ownsRow B e size v n xs := by
  refine ⟨h.1, ?_⟩
  rcases h.2 with ⟨rfl, rfl⟩ | ⟨g, cap, cur, rfl, h1, h2, h3⟩
  · exact .inl ⟨rfl, rfl⟩
  · refine .inr ⟨g, cap, cur, rfl, h1, ?_, h3⟩
    rw [heap_setFrom (by omega)]; exact h2
section
variable {P : Program} {ops : Array Oper} {rest : List Oper} {o : Oper} {a : Act} {Q : Exit → Act → World → Prop} {w : World}
/-- make([]T, 0, n). -/
theorem wl_make (hg : o.guard = none) (l c : Operand) (t : TypeId) (hop : o.op = Op.makeSlice t l c)
    (base : Nat) (e : TypeId) (size bytes : Nat) (hT : ElemT P t e size bytes)
    (kl kc : IntKind) (C : Int) (n : Nat) (hl : a.eval l = .int kl 0) (hc : a.eval c = .int kc C) (hC : C = (n : Int)) (b2 : bytes * n ≤ 281474976710656) (b3 : n ≤ maxLen) (b4 : base ≤ w.heap.size)
    (hK : ∀ w', w'.ownsRow base e size (.slice (some ⟨w.heap.size, 0, none⟩) 0 n) 0 [] → Below w.heap.size w w' → wpList P ops Q rest (a.put o.dst (.slice (some ⟨w.heap.size, 0, none⟩) 0 n)) w') :
    wpList P ops Q (o :: rest) a w := by
  obtain ⟨ht, ⟨i, z, hi, hz, h1, h2, h3⟩, hp⟩ := hT
  exact wpList_make_own w hg l c t hop base e i z size ht hi hz h1 kl kc C n hl hc hC (by rw [h2]; exact b2) b3 b4 fun w' h4 h5 => hK w' h4 (Below.grown (Below.refl _ _) h5 (Nat.le_refl _) (fun k hk => by cases hk))
/-- a[i] of an array value. -/
theorem wl_index (hgd : o.guard = none) (T : TypeId) (x y : Operand) (ho : o.op = .index T x y) (cs : Array Value) (i : Int) (v : Value) (hx : a.eval x = .agg cs) (hy : a.eval y = .int .i64 i)
    (hr : (Instr.index T (.agg cs) (.int .i64 i)).run P w = .ok v w) (h : wpList P ops Q rest (a.put o.dst v) w) : wpList P ops Q (o :: rest) a w := by
  refine wpList_plain hgd fun K hK => ?_
  unfold Oper.wp execOp
  simp only [ho, Sem.run_bind, Sem.run_pure, hx, hy, hr, Result.andThen_ok]
  exact hK _ _ h
end
end Go.Proofs.YtoiilhbjlfdfpaaDoor
