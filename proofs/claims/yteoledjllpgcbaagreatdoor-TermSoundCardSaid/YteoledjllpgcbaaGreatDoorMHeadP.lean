/- MHeadP: several texts of this claim in one file. No statement of the seat is proved here. -/
import Derived.Test.YteoledjllpgcbaaGreatDoorMBase
import Derived.Test.YteoledjllpgcbaaGreatDoorMCode
namespace Go.Proofs.YteoledjllpgcbaaGreatDoor
set_option maxRecDepth 100000
set_option maxHeartbeats 64000000
set_option linter.unusedVariables false
open Go.RowKit
section
variable {α : Type} {cs : α → List Value} {k : Nat}
theorem flat_at (hk : ∀ a, (cs a).length = k) : ∀ (l : List α) (t j : Nat) (a : α), l[t]? = some a → j < k → (l.flatMap cs)[t * k + j]? = (cs a)[j]?
 | [], t, j, a, h, hj => by simp at h
 | a0 :: l, t, j, a, h, hj => by
  rw [List.flatMap_cons]
  cases t with
  | zero =>
   simp only [List.getElem?_cons_zero, Option.some.injEq] at h
   subst h
   rw [List.getElem?_append_left (by rw [hk]; omega)]
   simp
  | succ t =>
   rw [List.getElem?_cons_succ] at h
   rw [List.getElem?_append_right (by rw [hk, Nat.succ_mul]; omega), hk, show (t + 1) * k + j - k = t * k + j by rw [Nat.succ_mul]; omega]
   exact flat_at hk l t j a h hj
theorem flat_len (hk : ∀ a, (cs a).length = k) (l : List α) : (l.flatMap cs).length = l.length * k := by
 induction l with
 | nil => simp
 | cons a l ih => rw [List.flatMap_cons, List.length_append, ih, hk, List.length_cons, Nat.succ_mul]; omega
structure Sq (cs : α → List Value) (k : Nat) (w : World) (A : Option Addr) (n c : Nat) (l : List α) : Prop where
 rd : Rd w w.heap.size A (l.flatMap cs)
 len : l.length = n
 cap : n ≤ c
 max : c ≤ maxLen
variable {w w' : World} {A : Option Addr} {n c : Nat} {l : List α}
theorem Sq.keep (h : Sq cs k w A n c l) (hb : Below w.heap.size w w') : Sq cs k w' A n c l := ⟨(h.rd.below' hb (Nat.le_refl _)).more hb.size, h.len, h.cap, h.max⟩
theorem Sq.nil (w : World) : Sq cs k w none 0 0 [] := ⟨Rd.nil, rfl, Nat.le_refl _, Nat.zero_le _⟩
theorem Sq.at (h : Sq cs k w A n c l) (hk : ∀ a, (cs a).length = k) (k0 : 0 < k) {t : Nat} (ht : t < n) : ∃ b off a, A = some ⟨b, off, none⟩ ∧ b < w.heap.size ∧ l[t]? = some a ∧ ∀ (W : World), Below w.heap.size w W → ∀ j v, (cs a)[j]? = some v → W.cell? ⟨b, off + t * k + j, none⟩ = some v := by
 have ht' : t < l.length := by rw [h.len]; exact ht
 have hne : l.flatMap cs ≠ [] := fun e => by
  have h1 := flat_len hk l
  rw [e, List.length_nil] at h1
  have : 0 < l.length * k := Nat.mul_pos (by omega) k0
  omega
 obtain ⟨b, off, e, hb, hc⟩ := h.rd hne
 refine ⟨b, off, l[t], e, hb, List.getElem?_eq_getElem ht', fun W hW j v hv => ?_⟩
 have hj : j < k := by have := (List.getElem?_eq_some_iff.1 hv).1; rw [hk] at this; exact this
 rw [Nat.add_assoc, hW.cell (p := ⟨b, off + (t * k + j), none⟩) hb]
 exact hc _ v (by rw [flat_at hk l t j l[t] (List.getElem?_eq_getElem ht') hj]; exact hv)
structure OwnQ (cs : α → List Value) (k : Nat) (e : TypeId) (w : World) (B : Nat) (A : Option Addr) (n c : Nat) (l : List α) : Prop where
 own : w.ownsRow B e k (.slice A n c) n (l.flatMap cs)
 len : l.length = n
 cap : n ≤ c
 max : c ≤ maxLen
variable {e : TypeId} {B B' : Nat}
theorem OwnQ.keep (h : OwnQ cs k e w B A n c l) (hb : Below w.heap.size w w') : OwnQ cs k e w' B A n c l := ⟨own_keep h.own hb (Nat.le_refl _), h.len, h.cap, h.max⟩
theorem OwnQ.nil (w : World) (B : Nat) : OwnQ cs k e w B none 0 0 [] := ⟨own_nil _ _ _ _, rfl, Nat.le_refl _, Nat.zero_le _⟩
theorem OwnQ.sq (h : OwnQ cs k e w B A n c l) : Sq cs k w A n c l := ⟨Rd.of_own h.own, h.len, h.cap, h.max⟩
end
namespace Hd
abbrev By := List UInt8
structure Sg where
 fr : Int
 to : Int
 lk : Int
 rt : By
def w3 (fr to : Int) : Bool := decide (0 ≤ fr) && (decide (fr < to) && decide (to ≤ 1000))
def Sg.ok (s : Sg) : Bool := w3 s.fr s.to && (decide (1 ≤ s.lk) && (decide (s.lk ≤ 1099511627776) && decide (s.rt.length = 32)))
def rowFrom : List Sg → Int → Int → Bool
 | [], a, size => decide (a = size)
 | s :: l, a, size => decide (s.fr = a) && (s.ok && rowFrom l s.to size)
def row (l : List Sg) (size : Int) : Bool := decide (l.length ≤ 64) && rowFrom l 0 size
structure H where
 size : Int
 log : By
 segs : List Sg
end Hd
end Go.Proofs.YteoledjllpgcbaaGreatDoor
