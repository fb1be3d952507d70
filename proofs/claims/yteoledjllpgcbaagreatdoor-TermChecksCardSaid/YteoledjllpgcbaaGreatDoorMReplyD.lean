/- MReplyD: several texts of this claim in one file. No statement of the seat is proved here. -/
import Derived.Test.YteoledjllpgcbaaGreatDoorMReplyC
import Derived.BigQuiet
import Derived.Test.YteoledjllpgcbaaGreatDoorMBase
import Derived.ChangeArms
import Derived.DataReads
import Derived.SliceStrings
import Derived.ChangeSame
import Derived.Deep.Strs
import Derived.Lib.SmallJoins
namespace Go.Proofs.YteoledjllpgcbaaGreatDoor
set_option maxRecDepth 100000
set_option linter.unusedVariables false
open Go.RowKit
theorem bel_drewN (B : Nat) (w : World) (n : Nat) : Below B w (w.drewN n) := ⟨rfl, rfl, rfl, Nat.le_refl _, fun _ _ => rfl⟩
end Go.Proofs.YteoledjllpgcbaaGreatDoor

namespace Go.Proofs.YteoledjllpgcbaaGreatDoor
set_option maxRecDepth 100000
set_option linter.unusedVariables false
open Go.ChangeShapes Go.WideShapes Go.ChangeAt Go.RowKit
theorem list3 {α : Type} {l : List α} (h : l.length = 3) : ∃ c0 c1 c2, l = [c0, c1, c2] := by
  match l, h with
  | [c0, c1, c2], _ => exact ⟨c0, c1, c2, rfl⟩
theorem list6 {α : Type} {l : List α} (h : l.length = 6) : ∃ c0 c1 c2 c3 c4 c5, l = [c0, c1, c2, c3, c4, c5] := by
  match l, h with
  | [c0, c1, c2, c3, c4, c5], _ => exact ⟨c0, c1, c2, c3, c4, c5, rfl⟩
section
variable {H : Type} {enc : TypeId × Value → H} {W : World} {base : Nat} {v : Value} {d : DataW H} {p : List MemPlace} {r : Reach}
set_option maxRecDepth 100000 in
theorem open_strsT {a0 : Option Addr} {len0 cap0 : Nat} (h : DataW.Trod enc Tryz.prog W 0 (fun _ => true) true 27 (.slice a0 len0 cap0) d p) :
    ∃ (A : Option Addr) (n c : Nat) (l : List (List UInt8)), (Value.slice a0 len0 cap0 : Value) = .slice A n c ∧ Rd W W.heap.size A (l.map sv) ∧ l.length = n ∧ n ≤ c ∧ c ≤ maxLen ∧ ∀ s ∈ l, s.length ≤ maxLen := by
  obtain ⟨fuel, hf⟩ := h
  rcases open_strings Tryz.underlying27 Tryz.underlying9 (by kernel_rfl) hf with ⟨hcs, _⟩ | ⟨x, l, c, ss, hcs, _, hl, hm, hz, hx, hcell, hwz⟩
  · simp [Value.cells] at hcs
    obtain ⟨rfl, rfl, rfl⟩ := hcs
    exact ⟨none, 0, 0, [], rfl, Rd.nil, rfl, Nat.le_refl _, Nat.zero_le _, by simp⟩
  · simp [Value.cells] at hcs
    obtain ⟨rfl, rfl, rfl⟩ := hcs
    have hz' : ss.length = cap0 := by simpa using hz
    refine ⟨some x, len0, cap0, (ss.take len0).map fun s => s.data.toList, rfl, ?_, by rw [List.length_map, List.length_take]; omega, hl, hm, fun s hs => ?_⟩
    · by_cases hn : ss.take len0 = []
      · rw [hn]; exact Rd.nil
      · have hlen : 0 < (ss.take len0).length := List.length_pos_iff.2 hn
        rw [List.length_take] at hlen
        have hc0 := hcell 0 (by omega)
        have hb : x.block < W.heap.size := by
          have := World.block_lt_of_cell? W _ hc0
          obtain ⟨b, off, spot⟩ := x
          simpa [Addr.add] using this
        refine rd_of_addr hb fun i v hv => ?_
        rw [List.getElem?_map, List.getElem?_map, List.getElem?_take] at hv
        split at hv
        · rename_i hi
          have := hcell i (by omega)
          rw [this]
          have hz2 : ss[i]? = some (ss[i]'(by omega)) := List.getElem?_eq_getElem (by omega)
          rw [hz2] at hv
          simp only [Option.map_some, Option.some.injEq] at hv
          rw [← hv, List.getD, hz2]
          simp [str]
        · simp at hv
    · obtain ⟨t, ht, rfl⟩ := List.mem_map.1 hs
      have := hwz t (List.mem_of_mem_take ht)
      rw [Array.length_toList]; exact this
set_option maxRecDepth 100000 in
theorem open_bytesC {fuel : Nat} {cs : List Value} {x : DataW H × List MemPlace} (h : DataW.trod enc Tryz.prog W 0 (fun _ => true) true fuel 28 cs = some x) : ∃ (A : Option Addr) (n c : Nat) (l : List UInt8), cs = [.slice A n c] ∧ Bs W A n c l := by
  obtain ⟨q, e, h1⟩ := open_piece h
  exact ⟨q.a, q.n, q.c, q.l, e, h1.rd, h1.len, h1.cap, h1.max⟩
set_option maxRecDepth 100000 in
theorem open_strsC {fuel : Nat} {cs : List Value} {x : DataW H × List MemPlace} (h : DataW.trod enc Tryz.prog W 0 (fun _ => true) true fuel 27 cs = some x) : ∃ (A : Option Addr) (n c : Nat) (l : List (List UInt8)), cs = [.slice A n c] ∧ Ss W A n c l ∧ ∀ s ∈ l, s.length ≤ maxLen := by
  obtain ⟨A, n, c, e⟩ : ∃ A n c, cs = [.slice A n c] := by
    rcases Go.Deep.open_slice Tryz.underlying27 h with ⟨hcs, _⟩ | ⟨a, len, cap, m, n, D, Pl, hcs, _⟩
    · exact ⟨none, 0, 0, hcs⟩
    · exact ⟨some a, len, cap, hcs⟩
  subst e
  have hk : DataW.Trod enc Tryz.prog W 0 (fun _ => true) true 27 (.slice A n c) x.1 x.2 := ⟨fuel, by simpa [Value.cells] using h⟩
  obtain ⟨A2, n2, c2, l, e, h1, h2, h3, h4, h5⟩ := open_strsT hk
  exact ⟨A2, n2, c2, l, by rw [e], ⟨h1, h2, h3, h4⟩, h5⟩
end
end Go.Proofs.YteoledjllpgcbaaGreatDoor

namespace Go.Proofs.YteoledjllpgcbaaGreatDoor
set_option maxRecDepth 100000
set_option linter.unusedVariables false
namespace Hd
theorem drop_add {l x r : By} {a : Nat} (h : l.drop a = x ++ r) : l.drop (a + x.length) = r := by rw [← List.drop_drop, h, List.drop_left]
theorem stText_of {l r s : By} {a : Nat} {most : Int} (h : l.drop a = Code.text s ++ r) (hs : (s.length : Int) ≤ most) (h2 : s.length ≤ 4611686018427387904) : stText l most ⟨a, 0⟩ = (⟨a + (Code.text s).length, 0⟩, s) := by
  unfold stText
  simp only [if_true]
  rw [h, Code.getText_text most s r hs h2]
theorem stDig_of {l r d : By} {a : Nat} (h : l.drop a = d ++ r) (hd : d.length = 32) : stDig l ⟨a, 0⟩ = (⟨a + 32, 0⟩, d) := by
  have h1 : (l.drop a).length = 32 + r.length := by rw [h, List.length_append, hd]
  rw [List.length_drop] at h1
  unfold stDig
  simp only [if_true]
  rw [if_neg (by omega), List.drop_take, show a + 32 - a = 32 by omega, h, ← hd, List.take_left]
def begF (a : Int) (l : List Sg) : Nat → Int
  | 0 => a
  | k + 1 => match l[k]? with
    | some s => s.to
    | none => 0
end Hd
end Go.Proofs.YteoledjllpgcbaaGreatDoor

namespace Go.Proofs.YteoledjllpgcbaaGreatDoor
set_option maxRecDepth 100000
set_option linter.unusedVariables false
namespace Hd
theorem text_le {s : By} {m : Nat} (h : s.length ≤ m) (hm : m ≤ 1000000) : (Code.text s).length ≤ m + 9 := by
  have := text_len s (by omega)
  omega
end Hd
end Go.Proofs.YteoledjllpgcbaaGreatDoor
