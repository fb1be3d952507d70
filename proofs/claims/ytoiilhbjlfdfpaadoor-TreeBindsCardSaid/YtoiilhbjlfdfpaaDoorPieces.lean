/- A slice of slices of bytes, opened. No statement of the seat is proved here. -/
import Derived.Test.YtoiilhbjlfdfpaaDoorOpen
import Derived.Deep.Slices
namespace Go.Proofs.YtoiilhbjlfdfpaaDoor
set_option linter.unusedVariables false
open Go.ChangeShapes Go.WideShapes Go.ChangeAt Go.RowKit

/-- A slice of bytes that is read. -/
structure Piece where
  a : Option Addr
  n : Nat
  c : Nat
  l : List UInt8
structure PieceAt (w : World) (x : Piece) : Prop where
  rd : Rd w w.heap.size x.a (x.l.map bv)
  len : x.l.length = x.n
  cap : x.n ≤ x.c
  max : x.c ≤ maxLen
/-- n slices of bytes lie in a row from the address on. -/
def RowsAt (w : World) (A : Option Addr) (n : Nat) (f : Nat → Piece) : Prop :=
  0 < n → ∃ b off, A = some ⟨b, off, none⟩ ∧ b < w.heap.size ∧ ∀ i, i < n → w.cell? ⟨b, off + i, none⟩ = some (.slice (f i).a (f i).n (f i).c) ∧ PieceAt w (f i)
section
variable {H : Type} {enc : TypeId × Value → H} {W : World} {base : Nat} {v : Value} {d : DataW H} {p : List MemPlace} {r : Reach}
theorem one_cell {W : World} {x : Addr} {cs : List Value} (h : W.cells? 0 x 1 = some cs) : ∃ c, cs = [c] ∧ W.cell? x = some c := by
  unfold World.cells? at h
  simp only [Nat.zero_le, if_true] at h
  have e : (List.range 1).mapM (fun i => W.cell? (x.add i)) = (W.cell? (x.add 0)).bind fun c => some [c] := by
    show (do let a ← W.cell? (x.add 0); let b ← (List.mapM (fun i => W.cell? (x.add i)) []); pure (a :: b)) = _
    cases W.cell? (x.add 0) <;> rfl
  rw [e] at h
  have hx : x.add 0 = x := by simp [Addr.add]
  rw [hx] at h
  cases hc : W.cell? x with
  | none => rw [hc] at h; cases h
  | some c =>
    rw [hc] at h
    injection h with h
    exact ⟨c, h.symm, rfl⟩
theorem open_piece {fuel : Nat} {cs : List Value} {x : DataW H × List MemPlace} (h : DataW.trod enc Tryd.prog W 0 (fun _ => true) true fuel 50 cs = some x) :
    ∃ q : Piece, cs = [.slice q.a q.n q.c] ∧ PieceAt W q := by
  rcases open_ints Tryd.underlying50 Tryd.underlying5 (by kernel_rfl) h with ⟨hcs, _⟩ | ⟨x, l, c, zs, hcs, _, hl, hm, hz, hx, hcell, hwz⟩
  · exact ⟨⟨none, 0, 0, []⟩, hcs, Rd.nil, rfl, Nat.le_refl _, Nat.zero_le _⟩
  · have hz' : zs.length = c := by simpa using hz
    have e : ((zs.take l).map fun z => UInt8.ofNat z.toNat).map bv = (zs.take l).map (Value.int .u8) := by
      rw [List.map_map]
      exact List.map_congr_left fun z hzm => bv_back (hwz z (List.mem_of_mem_take hzm))
    refine ⟨⟨some x, l, c, (zs.take l).map fun z => UInt8.ofNat z.toNat⟩, hcs, ?_, by show _ = l; rw [List.length_map, List.length_take]; omega, hl, hm⟩
    show Rd W W.heap.size (some x) (((zs.take l).map fun z => UInt8.ofNat z.toNat).map bv)
    rw [e]
    by_cases hn : zs.take l = []
    · rw [hn]; exact Rd.nil
    · have hlen : 0 < (zs.take l).length := List.length_pos_iff.2 hn
      rw [List.length_take] at hlen
      have hc0 := hcell 0 (by omega)
      have hb : x.block < W.heap.size := by
        have := World.block_lt_of_cell? W _ hc0
        obtain ⟨b, off, spot⟩ := x
        simpa [Addr.add] using this
      refine rd_of_addr hb fun i v hv => ?_
      rw [List.getElem?_map, List.getElem?_take] at hv
      split at hv
      · rename_i hi
        have := hcell i (by omega)
        rw [this]
        have hz2 : zs[i]? = some (zs[i]'(by omega)) := List.getElem?_eq_getElem (by omega)
        rw [hz2] at hv
        simp only [Option.map_some, Option.some.injEq] at hv
        rw [← hv, List.getD, hz2]; rfl
      · simp at hv
theorem open_rowsL (hv : Value.okWide Tryd.prog W r base 36 v) (h : DataW.Trod enc Tryd.prog W 0 (fun _ => true) true 36 v d p) :
    ∃ (A : Option Addr) (n c : Nat) (f : Nat → Piece), v = .slice A n c ∧ RowsAt W A n f ∧ True ∧ n ≤ c ∧ c ≤ maxLen ∧ True := by
  obtain ⟨a0, len0, cap0, rfl⟩ := okWide_slice Tryd.underlying36 hv
  obtain ⟨fuel, hf⟩ := h
  have hE : Tryd.prog.cellsOf 50 = 1 := by kernel_rfl
  rcases Go.Deep.open_slice Tryd.underlying36 hf with ⟨hcs, _⟩ | ⟨a, len, cap, m, n, D, Pl, hcs, _, hl, hm, hmm, _, hel⟩
  · simp [Value.cells] at hcs
    obtain ⟨rfl, rfl, rfl⟩ := hcs
    exact ⟨none, 0, 0, fun _ => ⟨none, 0, 0, []⟩, rfl, fun h => absurd h (by omega), trivial, Nat.le_refl _, Nat.zero_le _, trivial⟩
  · simp [Value.cells] at hcs
    obtain ⟨rfl, rfl, rfl⟩ := hcs
    have key : ∀ i, ∃ q : Piece, i < len0 → W.cell? (a.add i) = some (.slice q.a q.n q.c) ∧ PieceAt W q := fun i => by
      by_cases hi : i < len0
      · obtain ⟨cs', h1, h2⟩ := hel i (by rw [hmm]; simp; omega)
        rw [hE, Nat.mul_one] at h1
        obtain ⟨c, rfl, h3⟩ := one_cell h1
        obtain ⟨q, h4, h5⟩ := open_piece h2
        injection h4 with h4
        exact ⟨q, fun _ => ⟨by rw [h3, h4], h5⟩⟩
      · exact ⟨⟨none, 0, 0, []⟩, fun h => absurd h hi⟩
    obtain ⟨f, hff⟩ := Classical.axiomOfChoice key
    refine ⟨some a, len0, cap0, f, rfl, fun hp => ?_, trivial, hl, hm, trivial⟩
    have h0 := (hff 0 hp).1
    obtain ⟨b, off, spot⟩ := a
    have hspot : spot = none := by simpa [Addr.add] using World.cell?_spot h0
    subst hspot
    have hb := World.block_lt_of_cell? W _ h0
    refine ⟨b, off, rfl, by simpa [Addr.add] using hb, fun i hi => ?_⟩
    have h1 := hff i hi
    refine ⟨?_, h1.2⟩
    have h2 := h1.1
    by_cases hz : i = 0
    · subst hz; simpa [Addr.add] using h2
    · simpa [Addr.add, hz] using h2
end
end Go.Proofs.YtoiilhbjlfdfpaaDoor
