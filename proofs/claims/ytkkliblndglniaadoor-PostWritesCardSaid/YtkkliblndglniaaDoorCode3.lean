/- Lists of texts are written: List, the reference's List and Same; great. No statement of the seat is proved here. -/
import Derived.Test.YtkkliblndglniaaDoorCode1
namespace Go.Proofs.YtkkliblndglniaaDoor
set_option linter.unusedVariables false
open Go.RowKit

/-- A slice of texts that reads as a list. -/
structure Ss (w : World) (A : Option Addr) (n c : Nat) (l : List (List UInt8)) : Prop where
  rd : Rd w w.heap.size A (l.map sv)
  len : l.length = n
  cap : n ≤ c
  max : c ≤ maxLen
theorem Ss.keep {w w' : World} {A : Option Addr} {n c : Nat} {l : List (List UInt8)} (h : Ss w A n c l) (hb : Below w.heap.size w w') : Ss w' A n c l := ⟨(h.rd.below' hb (Nat.le_refl _)).more hb.size, h.len, h.cap, h.max⟩
theorem Ss.at {w : World} {A : Option Addr} {n c : Nat} {l : List (List UInt8)} (h : Ss w A n c l) {k : Nat} (hk : k < n) : ∃ b off, A = some ⟨b, off, none⟩ ∧ b < w.heap.size ∧ (∀ j s, l[j]? = some s → w.cell? ⟨b, off + j, none⟩ = some (sv s)) ∧ ∃ s, l[k]? = some s := by
  obtain ⟨b, off, hA, hb, hc⟩ := h.rd (fun e => by
    have h2 := h.len
    have h3 : l = [] := by simpa using e
    rw [h3] at h2
    simp at h2; omega)
  exact ⟨b, off, hA, hb, fun j s hj => hc j (sv s) (by rw [List.getElem?_map, hj]; rfl), _, List.getElem?_eq_getElem (by have := h.len; omega)⟩
theorem text_len (s : List UInt8) (h : s.length ≤ 4611686018427387904) : (Code.text s).length ≤ s.length + 9 := by
  unfold Code.text
  have := Code.num_len9 s.length h
  rw [List.length_append]; omega
theorem take_flat {l : List (List UInt8)} {k : Nat} {s : List UInt8} (h : l[k]? = some s) : (l.take (k + 1)).flatMap Code.text = (l.take k).flatMap Code.text ++ Code.text s := by
  rw [List.take_add_one, h, Option.toList_some, List.flatMap_append, List.flatMap_singleton]
theorem mem_at {l : List (List UInt8)} {k : Nat} {s : List UInt8} (h : l[k]? = some s) : s ∈ l := List.mem_of_getElem? h
/-- Where the writing of a list is. -/
structure ListRel (B : Nat) (l0 : List UInt8) (ls : List (List UInt8)) (n : Nat) (w : World) (A' : Option Addr) (n' c' k : Nat) (wr : World) : Prop where
  own : Own8 wr B A' n' c' (l0 ++ (ls.take k).flatMap Code.text)
  below : Below w.heap.size w wr
  small : n' ≤ n + 20000 * k
theorem dec_nat (a k : Nat) : decide ((a : Int) < (k : Int)) = decide (a < k) := by
  by_cases h : a < k
  · rw [decide_eq_true h, decide_eq_true (by omega)]
  · rw [decide_eq_false h, decide_eq_false (by omega)]
/-- More than is looked at? -/
def greatS (ls : List (List UInt8)) : Bool := ls.any (fun s => decide (1000 < s.length)) || decide (50 < ls.length)
theorem run_neq_str' {P : Program} {w : World} (T : TypeId) (a b : List UInt8) : (binOp .neq T (.string (str a)) (.string (str b))).run P w = .ok (.bool (!decide (a = b))) w := by
  rw [binOp_string_neq, str_toList, str_toList, Sem.run_pure]
  congr 3
  by_cases h : a = b <;> simp [h]
theorem take_next {α : Type} {a b : List α} {k : Nat} {x y : α} (h : a.take k = b.take k) (ha : a[k]? = some x) (hb : b[k]? = some y) (he : x = y) : a.take (k + 1) = b.take (k + 1) := by
  rw [List.take_add_one, List.take_add_one, h, ha, hb, he]
end Go.Proofs.YtkkliblndglniaaDoor
