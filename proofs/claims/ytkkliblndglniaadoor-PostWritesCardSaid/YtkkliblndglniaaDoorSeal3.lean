/- NodeBytes and Node, bytes.Equal, of the package seal. No statement of the seat is proved here. -/
import Derived.Test.YtkkliblndglniaaDoorSeal2
import Derived.Laws.IdiomStrings
namespace Go.Proofs.YtkkliblndglniaaDoor
set_option linter.unusedVariables false
open Go.RowKit

section
variable {P : Program} {ops : Array Oper} {rest : List Oper} {o : Oper} {a : Act} {Q : Exit → Act → World → Prop} {w : World}
/-- []byte(s): a new row that reads as the string's bytes. -/
theorem wl_bytes (hgd : o.guard = none) (src dst : TypeId) (x : Operand) (ho : o.op = .convert src dst x) (e : TypeId) (hs : P.underlying src = some .string) (hd : P.underlying dst = some (.slice e)) (he : P.underlying e = some (.int .u8))
    (l : List UInt8) (hx : a.eval x = .string (str l)) (hl : l.length ≤ maxLen)
    (h : ∀ A c w', Rd w' w'.heap.size A (l.map bv) → l.length ≤ c → c ≤ maxLen → Below w.heap.size w w' → wpList P ops Q rest (a.put o.dst (.slice A l.length c)) w') : wpList P ops Q (o :: rest) a w := by
  refine wpList_plain hgd fun K hK => ?_
  have hrun := run_bytes_of_string (P := P) w src dst e (str l) hs hd he
  unfold Oper.wp execOp
  simp only [ho, Sem.run_bind, Sem.run_pure, hx, hrun, Result.andThen_ok]
  refine hK _ _ ?_
  have hge := grownCap_ge w (str l).size 0 e
  have hle := grownCap_le_maxLen w (str l).size 0 e (by rw [str_size]; exact hl)
  generalize grownCap w (str l).size 0 e = cap at hge hle ⊢
  rw [str_size] at hge ⊢
  refine h _ _ _ (fun _ => ⟨w.heap.size, 0, rfl, by unfold World.alloc World.drew; simp, fun j v hv => ?_⟩) hge hle ((Below.refl _ w).drew.alloc (Nat.le_refl _) _)
  rw [List.getElem?_map] at hv
  have hj : j < l.length := by
    rcases Nat.lt_or_ge j l.length with h1 | h1
    · exact h1
    · rw [List.getElem?_eq_none h1] at hv; cases hv
  have hb := bytesRow_at (str l) cap j (by simpa [str] using hj)
  rw [Nat.zero_add]
  show (w.drew.alloc _).cell? ⟨w.drew.heap.size, j, none⟩ = _
  rw [cell_of_row _ _ _ _ _ _ (heap_alloc_new w.drew _), hb]
  rw [List.getElem?_eq_getElem hj] at hv
  injection hv with hv
  rw [← hv]
  rfl
end
theorem rows_two (w : World) (A : Option Addr) (n c : Nat) (l : List UInt8) (B : Option Addr) (m k : Nat) (r : List UInt8) (t : TypeId) (hA : Rd w w.heap.size A (l.map bv)) (hl : l.length = n) (hc : n ≤ c) (hm : c ≤ maxLen) (hB : Rd w w.heap.size B (r.map bv)) (hr : r.length = m) (hk : m ≤ k) (hk2 : k ≤ maxLen) :
    RowsAt (w.alloc (.cells #[.slice A n c, .slice B m k] t)) (some ⟨w.heap.size, 0, none⟩) 2 (fun i => if i = 0 then ⟨A, n, c, l⟩ else ⟨B, m, k, r⟩) := fun _ => by
  refine ⟨w.heap.size, 0, rfl, by unfold World.alloc; simp, fun i hi => ?_⟩
  rcases (show i = 0 ∨ i = 1 by omega) with rfl | rfl
  · exact ⟨(row_new w _ _).cellQ 0 _ rfl, ⟨(hA.alloc (Nat.le_refl _) _).more (by unfold World.alloc; simp), hl, hc, hm⟩⟩
  · exact ⟨(row_new w _ _).cellQ 1 _ rfl, ⟨(hB.alloc (Nat.le_refl _) _).more (by unfold World.alloc; simp), hr, hk, hk2⟩⟩
theorem flat_two (x y : Piece) : flatP (fun i => if i = 0 then x else y) 2 = x.l ++ y.l := by simp [flatP, List.range_succ]
def NodePost (l r : List UInt8) (w : World) (e : Ending) (w' : World) : Prop := e = .returned (.tuple #[sv (seal_ 1 (l ++ r)), .int .i64 0]) ∧ Below w.heap.size w w'
end Go.Proofs.YtkkliblndglniaaDoor
