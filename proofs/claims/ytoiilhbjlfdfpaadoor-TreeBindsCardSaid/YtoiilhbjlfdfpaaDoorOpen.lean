/- Arguments opened: slices of bytes, of ints; strings. -/
import Derived.Test.YtoiilhbjlfdfpaaDoorGen
import Derived.ProofKit
import Derived.OpenShut
import Derived.ShutString
namespace Go.Proofs.YtoiilhbjlfdfpaaDoor
set_option linter.unusedVariables false
open Go.ChangeShapes Go.WideShapes Go.ChangeAt Go.RowKit

theorem wf_u8 {n : Int} (h : (Lit.int .u8 n).wf = true) : 0 ≤ n ∧ n < 256 := by
  have := bounds_u8 h
  omega
theorem bv_back {n : Int} (h : (Lit.int .u8 n).wf = true) : bv (UInt8.ofNat n.toNat) = .int .u8 n := by
  have := wf_u8 h
  unfold bv
  rw [UInt8.toNat_ofNat']
  congr 1
  omega
theorem str_of (s : ByteArray) (h : s.size ≤ maxLen) : ∃ l, s = str l ∧ l.length ≤ maxLen := ⟨s.data.toList, by simp [str], by simpa using h⟩

section
variable {H : Type} {enc : TypeId × Value → H} {W : World} {base : Nat} {v : Value} {d : DataW H} {p : List MemPlace} {r : Reach}
theorem rd_of_addr {w : World} {x : Addr} {B : Nat} {xs : List Value} (hb : x.block < B) (hc : ∀ i v, xs[i]? = some v → w.cell? (x.add i) = some v) : Rd w B (some x) xs := fun hn => by
  obtain ⟨b, off, spot⟩ := x
  cases xs with
  | nil => exact absurd rfl hn
  | cons v0 t =>
    have h0 := hc 0 v0 rfl
    have hspot : spot = none := by simpa [Addr.add] using World.cell?_spot h0
    subst hspot
    refine ⟨b, off, rfl, hb, fun j v hv => ?_⟩
    have := hc j v hv
    by_cases hj : j = 0
    · subst hj; simpa [Addr.add] using this
    · simpa [Addr.add, hj] using this
/-- What a slice of one-cell integers of kind k is. -/
theorem open_nums {T E : TypeId} {k : IntKind} (hT : Tryd.prog.underlying T = some (.slice E)) (hE : Tryd.prog.underlying E = some (.int k)) (hC : Tryd.prog.cellsOf E = 1)
    (hv : Value.okWide Tryd.prog W r base T v) (h : DataW.Trod enc Tryd.prog W 0 (fun _ => true) true T v d p) :
    ∃ (A : Option Addr) (n c : Nat) (zs : List Int), v = .slice A n c ∧ Rd W W.heap.size A (zs.map (Value.int k)) ∧ zs.length = n ∧ n ≤ c ∧ c ≤ maxLen ∧ ∀ z ∈ zs, (Lit.int k z).wf = true := by
  obtain ⟨a0, len0, cap0, rfl⟩ := okWide_slice hT hv
  have lt0 : ∀ x ∈ p, x.block < W.heap.size := by obtain ⟨m, hm⟩ := h; exact DataW.trod_lt m _ _ _ hm
  obtain ⟨fuel, hf⟩ := h
  rcases open_ints hT hE hC hf with ⟨hcs, _⟩ | ⟨x, l, c, zs, hcs, _, hl, hm, hz, hx, hcell, hwz⟩
  · simp [Value.cells] at hcs
    obtain ⟨rfl, rfl, rfl⟩ := hcs
    exact ⟨none, 0, 0, [], rfl, Rd.nil, rfl, Nat.le_refl _, Nat.zero_le _, by simp⟩
  · simp [Value.cells] at hcs
    obtain ⟨rfl, rfl, rfl⟩ := hcs
    have hz' : zs.length = cap0 := by simpa using hz
    refine ⟨some x, len0, cap0, zs.take len0, rfl, ?_, by rw [List.length_take]; omega, hl, hm, fun z hzm => hwz z (List.mem_of_mem_take hzm)⟩
    by_cases hn : zs.take len0 = []
    · rw [hn]; exact Rd.nil
    · have hlen : 0 < (zs.take len0).length := List.length_pos_iff.2 hn
      rw [List.length_take] at hlen
      have hc0 := hcell 0 (by omega)
      have hb : x.block < W.heap.size := by
        have := World.block_lt_of_cell? W _ hc0
        obtain ⟨b, off, spot⟩ := x
        simpa [Addr.add] using this
      refine rd_of_addr hb fun i v hv => ?_
      rw [List.getElem?_map, List.getElem?_take] at hv
      split at hv
      · rename_i hi
        have := hcell i (by omega)
        rw [this]
        have hz2 : zs[i]? = some (zs[i]'(by omega)) := List.getElem?_eq_getElem (by omega)
        rw [hz2] at hv
        simp only [Option.map_some, Option.some.injEq] at hv
        rw [← hv, List.getD, hz2]; rfl
      · simp at hv
end
theorem own : ownKnob Tryd.prog.godebug = none := by kernel_rfl
theorem laidOut : laidOutB Tryd.prog = true := by kernel_rfl
end Go.Proofs.YtoiilhbjlfdfpaaDoor
