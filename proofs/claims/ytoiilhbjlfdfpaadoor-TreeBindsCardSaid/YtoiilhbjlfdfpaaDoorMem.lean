/- Bytes and texts in memory: what a call reads, and what is its own; appends in these words. No statement of the seat is proved here. -/
import Derived.Test.YtoiilhbjlfdfpaaDoorGen
import Derived.Test.YtoiilhbjlfdfpaaDoorCells
import Derived.Test.YtoiilhbjlfdfpaaDoorBits
import Derived.Test.YtoiilhbjlfdfpaaDoorFree
import Derived.Laws.IdiomStrings
namespace Go.Proofs.YtoiilhbjlfdfpaaDoor
set_option linter.unusedVariables false
open Go.RowKit

/-- A slice of bytes that reads as a list. -/
structure Bs (w : World) (A : Option Addr) (n c : Nat) (l : List UInt8) : Prop where
  rd : Rd w w.heap.size A (l.map bv)
  len : l.length = n
  cap : n ≤ c
  max : c ≤ maxLen
/-- A slice of bytes that is the call's own: blocks from B on. -/
structure Own8 (w : World) (B : Nat) (A : Option Addr) (n c : Nat) (l : List UInt8) : Prop where
  own : w.ownsRow B 5 1 (.slice A n c) n (l.map bv)
  len : l.length = n
  cap : n ≤ c
  max : c ≤ maxLen
section
variable {w w' : World} {B B' n c : Nat} {A : Option Addr} {l : List UInt8}
theorem Bs.keep (h : Bs w A n c l) (hb : Below w.heap.size w w') : Bs w' A n c l := ⟨(h.rd.below' hb (Nat.le_refl _)).more hb.size, h.len, h.cap, h.max⟩
theorem Bs.drew (h : Bs w A n c l) : Bs w.drew A n c l := ⟨h.rd, h.len, h.cap, h.max⟩
theorem Own8.keep (h : Own8 w B A n c l) (hb : Below w.heap.size w w') : Own8 w' B A n c l := ⟨own_keep h.own hb (Nat.le_refl _), h.len, h.cap, h.max⟩
theorem Own8.base (h : Own8 w B A n c l) (hB : B' ≤ B) : Own8 w B' A n c l := ⟨own_base h.own hB, h.len, h.cap, h.max⟩
theorem Own8.bs (h : Own8 w B A n c l) : Bs w A n c l := ⟨Rd.of_own h.own, h.len, h.cap, h.max⟩
theorem Own8.nil (w : World) (B : Nat) : Own8 w B none 0 0 [] := ⟨own_nil _ _ _ _, rfl, Nat.le_refl _, Nat.zero_le _⟩
theorem Own8.empty (w : World) (hB : B ≤ w.heap.size) : Own8 (w.alloc (.cells #[] 5)) B (some ⟨w.heap.size, 0, none⟩) 0 0 [] := ⟨own_empty w _ _ hB, rfl, Nat.le_refl _, Nat.zero_le _⟩
theorem Own8.new (w : World) (l : List UInt8) (cs : List Value) (hB : B ≤ w.heap.size) (hc : cs = l.map bv) (hl : l.length = n) (hn : n ≤ maxLen) : Own8 (w.alloc (.cells cs.toArray 5)) B (some ⟨w.heap.size, 0, none⟩) n n l := by
  subst hc
  exact ⟨own_new w (l.map bv) 5 1 n (by simpa using hl) hn hB, hl, Nat.le_refl _, hn⟩
theorem Bs.nil (w : World) : Bs w none 0 0 [] := ⟨Rd.nil, rfl, Nat.le_refl _, Nat.zero_le _⟩
theorem Bs.of_block {b : Nat} {xs : List Value} (h : Own8 w B A n c l) : Bs w A n c l := h.bs
theorem one_b (l : List UInt8) : ∀ u ∈ l.map bv, u.oneCell' = true := fun u hu => by
  obtain ⟨x, _, rfl⟩ := List.mem_map.1 hu
  rfl
theorem strLen (l : List UInt8) : (str l).size = l.length := by simp [str, ByteArray.size]
theorem strApp (a b : List UInt8) : str a ++ str b = str (a ++ b) := by
  apply ByteArray.ext
  simp [str, ByteArray.data_append]
theorem strEq (a b : List UInt8) : ((str a).toList == (str b).toList) = decide (a = b) := by
  rw [str_toList, str_toList]
  by_cases h : a = b <;> simp [h]
theorem strCells_str (l : List UInt8) : Lib.strCells (str l) = l.map bv := by simp [Lib.strCells, str, bv]
end
/-- What a call tells: bytes of its own. -/
def Ret8 (B : Nat) (l : List UInt8) (w : World) (e : Ending) (w' : World) : Prop := ∃ A n c, e = .returned (.slice A n c) ∧ Own8 w' B A n c l ∧ Below B w w'
/-- What a call tells: a truth; nothing that was there has turned. -/
def RetB (v : Bool) (w : World) (e : Ending) (w' : World) : Prop := e = .returned (.bool v) ∧ Below w.heap.size w w'
section
variable {ops : Array Oper} {rest : List Oper} {o : Oper} {a : Act} {Q : Exit → Act → World → Prop} {w : World}
/-- append(v, x...): both of bytes. -/
theorem wl_app8 (hgd : o.guard = none) (s x : Operand) (ho : o.op = .call { callee := .builtin .append, args := #[s, x], argTypes := #[50, 50] })
    {B : Nat} {A : Option Addr} {n c : Nat} {l : List UInt8} (hs : a.eval s = .slice A n c) (h1 : Own8 w B A n c l)
    {A2 : Option Addr} {m c2 : Nat} {l2 : List UInt8} (hx : a.eval x = .slice A2 m c2) (h2 : Bs w A2 m c2 l2) (hsz : n + m ≤ 140737488355328) (hB : B ≤ w.heap.size)
    (h : ∀ A' n' c' w', Own8 w' B A' n' c' (l ++ l2) → Below B w w' → w.grownBy w' (Value.slice A n c).ownBlock → wpList Tryd.prog ops Q rest (a.put o.dst (.slice A' n' c')) w') : wpList Tryd.prog ops Q (o :: rest) a w :=
  wl_app hgd s x 50 ho B 5 1 1 bytesT _ n _ hs h1.own w.heap.size A2 m c2 (l2.map bv) hx h2.rd (by simpa using h2.len) (one_b _) (by rw [maxLen_eq]; omega) (by omega) hB fun A' c' w' g1 g2 _ g4 g5 g6 =>
    h A' (n + m) c' w' ⟨by rw [← List.map_append] at g1; exact g1, by rw [List.length_append, h1.len, h2.len], g5, g6⟩ g4 g2
/-- append(v, s...): s a string. -/
theorem wl_appS (hgd : o.guard = none) (s x : Operand) (ho : o.op = .call { callee := .builtin .append, args := #[s, x], argTypes := #[50, 9] })
    {B : Nat} {A : Option Addr} {n c : Nat} {l : List UInt8} (hs : a.eval s = .slice A n c) (h1 : Own8 w B A n c l)
    {l2 : List UInt8} (hx : a.eval x = .string (str l2)) (hsz : n + l2.length ≤ 140737488355328) (hB : B ≤ w.heap.size)
    (h : ∀ A' n' c' w', Own8 w' B A' n' c' (l ++ l2) → Below B w w' → w.grownBy w' (Value.slice A n c).ownBlock → wpList Tryd.prog ops Q rest (a.put o.dst (.slice A' n' c')) w') : wpList Tryd.prog ops Q (o :: rest) a w := by
  obtain ⟨ht, ⟨i, z, hi, hz, h4, h5, h6⟩, hp⟩ := bytesT
  have hz2 : z = .int .u8 0 := by
    have e := info_u8
    rw [hi] at e
    simp only [Option.map_some, Option.some.injEq, Prod.mk.injEq] at e
    rw [hz] at e
    exact Option.some.inj e.1
  subst hz2
  refine Lib.wpList_append_own_string w hgd s x 50 9 ho B 5 i ht Tryd.underlying9 hi hz h4 h5 _ n _ hs h1.own (str l2) hx (by rw [strLen, maxLen_eq]; omega) (by rw [strLen]; exact hsz) hB fun v' w' g1 g2 _ => ?_
  rw [strCells_str, ← List.map_append, strLen] at g1
  obtain ⟨A', c', rfl, g3, g4⟩ := own_form g1
  exact h A' _ c' w' ⟨g1, by rw [List.length_append, h1.len], g3, g4⟩ (own_below h1.own g2 hB) g2
/-- append(v, x): one byte. -/
theorem wl_app1 (hgd : o.guard = none) (s x : Operand) (ho : o.op = .call { callee := .builtin .append, args := #[s, x], argTypes := #[50, 50] })
    {w0 : World} {y : Int} {B : Nat} {A : Option Addr} {n c : Nat} {l : List UInt8} (hs : a.eval s = .slice A n c) (h1 : Own8 w0 B A n c l)
    (hx : a.eval x = .slice (some ⟨w0.heap.size, 0, none⟩) 1 1) (b : UInt8) (hy : y = (b.toNat : Int)) (hsz : n ≤ 140737488355000) (hB : B ≤ w0.heap.size)
    (h : ∀ A' n' c' w', Own8 w' B A' n' c' (l ++ [b]) → Below B w0 w' → wpList Tryd.prog ops Q rest (a.put o.dst (.slice A' n' c')) w') : wpList Tryd.prog ops Q (o :: rest) a (w0.alloc (.cells #[.int .u8 y] 5)) := by
  subst hy
  have hb0 : Below w0.heap.size w0 (w0.alloc (.cells #[.int .u8 (b.toNat : Int)] 5)) := (Below.refl _ w0).alloc (Nat.le_refl _) _
  refine wl_app8 hgd s x ho hs (h1.keep hb0) (l2 := [b]) hx (Own8.new w0 [b] [bv b] (Nat.le_refl _) rfl (n := 1) rfl (by decide)).bs (by omega) (Nat.le_trans hB hb0.size) fun A' n' c' w' g1 g2 _ => h A' n' c' w' g1 ((hb0.mono hB).trans g2)
end
end Go.Proofs.YtoiilhbjlfdfpaaDoor
