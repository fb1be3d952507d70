/- Arguments opened: slices of texts. No statement of the seat is proved here. -/
import Derived.Test.YtoiilhbjlfdfpaaDoorOpen
import Derived.SliceStrings
namespace Go.Proofs.YtoiilhbjlfdfpaaDoor
set_option linter.unusedVariables false
open Go.ChangeShapes Go.WideShapes Go.ChangeAt Go.RowKit

section
variable {H : Type} {enc : TypeId × Value → H} {W : World} {base : Nat} {v : Value} {d : DataW H} {p : List MemPlace} {r : Reach}
theorem open_strsL (hv : Value.okWide Tryd.prog W r base 22 v) (h : DataW.Trod enc Tryd.prog W 0 (fun _ => true) true 22 v d p) :
    ∃ (A : Option Addr) (n c : Nat) (l : List (List UInt8)), v = .slice A n c ∧ Rd W W.heap.size A (l.map sv) ∧ l.length = n ∧ n ≤ c ∧ c ≤ maxLen ∧ ∀ s ∈ l, s.length ≤ maxLen := by
  obtain ⟨a0, len0, cap0, rfl⟩ := okWide_slice Tryd.underlying22 hv
  obtain ⟨fuel, hf⟩ := h
  rcases open_strings Tryd.underlying22 Tryd.underlying9 (by kernel_rfl) hf with ⟨hcs, _⟩ | ⟨x, l, c, ss, hcs, _, hl, hm, hz, hx, hcell, hwz⟩
  · simp [Value.cells] at hcs
    obtain ⟨rfl, rfl, rfl⟩ := hcs
    exact ⟨none, 0, 0, [], rfl, Rd.nil, rfl, Nat.le_refl _, Nat.zero_le _, by simp⟩
  · simp [Value.cells] at hcs
    obtain ⟨rfl, rfl, rfl⟩ := hcs
    have hz' : ss.length = cap0 := by simpa using hz
    refine ⟨some x, len0, cap0, (ss.take len0).map fun s => s.data.toList, rfl, ?_, by rw [List.length_map, List.length_take]; omega, hl, hm, fun s hs => ?_⟩
    · by_cases hn : ss.take len0 = []
      · rw [hn]; exact Rd.nil
      · have hlen : 0 < (ss.take len0).length := List.length_pos_iff.2 hn
        rw [List.length_take] at hlen
        have hc0 := hcell 0 (by omega)
        have hb : x.block < W.heap.size := by
          have := World.block_lt_of_cell? W _ hc0
          obtain ⟨b, off, spot⟩ := x
          simpa [Addr.add] using this
        refine rd_of_addr hb fun i v hv => ?_
        rw [List.getElem?_map, List.getElem?_map, List.getElem?_take] at hv
        split at hv
        · rename_i hi
          have := hcell i (by omega)
          rw [this]
          have hz2 : ss[i]? = some (ss[i]'(by omega)) := List.getElem?_eq_getElem (by omega)
          rw [hz2] at hv
          simp only [Option.map_some, Option.some.injEq] at hv
          rw [← hv, List.getD, hz2]
          simp [str]
        · simp at hv
    · obtain ⟨t, ht, rfl⟩ := List.mem_map.1 hs
      have := hwz t (List.mem_of_mem_take ht)
      rw [Array.length_toList]; exact this
end
end Go.Proofs.YtoiilhbjlfdfpaaDoor
