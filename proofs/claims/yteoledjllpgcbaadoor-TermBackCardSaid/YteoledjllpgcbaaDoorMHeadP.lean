/- MHeadP: several texts of this claim in one file. No statement of the seat is proved here. -/
import Derived.Test.YteoledjllpgcbaaDoorMBase
import Derived.Test.YteoledjllpgcbaaDoorMCode
namespace Go.Proofs.YteoledjllpgcbaaDoor
set_option maxRecDepth 100000
set_option maxHeartbeats 64000000
set_option linter.unusedVariables false
open Go.RowKit
section
variable {α : Type} {cs : α → List Value} {k : Nat}
theorem flat_at (hk : ∀ a, (cs a).length = k) : ∀ (l : List α) (t j : Nat) (a : α), l[t]? = some a → j < k → (l.flatMap cs)[t * k + j]? = (cs a)[j]?
 | [], t, j, a, h, hj => by simp at h
 | a0 :: l, t, j, a, h, hj => by
  rw [List.flatMap_cons]
  cases t with
  | zero =>
   simp only [List.getElem?_cons_zero, Option.some.injEq] at h
   subst h
   rw [List.getElem?_append_left (by rw [hk]; omega)]
   simp
  | succ t =>
   rw [List.getElem?_cons_succ] at h
   rw [List.getElem?_append_right (by rw [hk, Nat.succ_mul]; omega), hk, show (t + 1) * k + j - k = t * k + j by rw [Nat.succ_mul]; omega]
   exact flat_at hk l t j a h hj
theorem flat_len (hk : ∀ a, (cs a).length = k) (l : List α) : (l.flatMap cs).length = l.length * k := by
 induction l with
 | nil => simp
 | cons a l ih => rw [List.flatMap_cons, List.length_append, ih, hk, List.length_cons, Nat.succ_mul]; omega
structure Sq (cs : α → List Value) (k : Nat) (w : World) (A : Option Addr) (n c : Nat) (l : List α) : Prop where
 rd : Rd w w.heap.size A (l.flatMap cs)
 len : l.length = n
 cap : n ≤ c
 max : c ≤ maxLen
variable {w w' : World} {A : Option Addr} {n c : Nat} {l : List α}
theorem Sq.keep (h : Sq cs k w A n c l) (hb : Below w.heap.size w w') : Sq cs k w' A n c l := ⟨(h.rd.below' hb (Nat.le_refl _)).more hb.size, h.len, h.cap, h.max⟩
theorem Sq.nil (w : World) : Sq cs k w none 0 0 [] := ⟨Rd.nil, rfl, Nat.le_refl _, Nat.zero_le _⟩
theorem Sq.at (h : Sq cs k w A n c l) (hk : ∀ a, (cs a).length = k) (k0 : 0 < k) {t : Nat} (ht : t < n) : ∃ b off a, A = some ⟨b, off, none⟩ ∧ b < w.heap.size ∧ l[t]? = some a ∧ ∀ (W : World), Below w.heap.size w W → ∀ j v, (cs a)[j]? = some v → W.cell? ⟨b, off + t * k + j, none⟩ = some v := by
 have ht' : t < l.length := by rw [h.len]; exact ht
 have hne : l.flatMap cs ≠ [] := fun e => by
  have h1 := flat_len hk l
  rw [e, List.length_nil] at h1
  have : 0 < l.length * k := Nat.mul_pos (by omega) k0
  omega
 obtain ⟨b, off, e, hb, hc⟩ := h.rd hne
 refine ⟨b, off, l[t], e, hb, List.getElem?_eq_getElem ht', fun W hW j v hv => ?_⟩
 have hj : j < k := by have := (List.getElem?_eq_some_iff.1 hv).1; rw [hk] at this; exact this
 rw [Nat.add_assoc, hW.cell (p := ⟨b, off + (t * k + j), none⟩) hb]
 exact hc _ v (by rw [flat_at hk l t j l[t] (List.getElem?_eq_getElem ht') hj]; exact hv)
structure OwnQ (cs : α → List Value) (k : Nat) (e : TypeId) (w : World) (B : Nat) (A : Option Addr) (n c : Nat) (l : List α) : Prop where
 own : w.ownsRow B e k (.slice A n c) n (l.flatMap cs)
 len : l.length = n
 cap : n ≤ c
 max : c ≤ maxLen
variable {e : TypeId} {B B' : Nat}
theorem OwnQ.keep (h : OwnQ cs k e w B A n c l) (hb : Below w.heap.size w w') : OwnQ cs k e w' B A n c l := ⟨own_keep h.own hb (Nat.le_refl _), h.len, h.cap, h.max⟩
theorem OwnQ.base (h : OwnQ cs k e w B A n c l) (hB : B' ≤ B) : OwnQ cs k e w B' A n c l := ⟨own_base h.own hB, h.len, h.cap, h.max⟩
theorem OwnQ.nil (w : World) (B : Nat) : OwnQ cs k e w B none 0 0 [] := ⟨own_nil _ _ _ _, rfl, Nat.le_refl _, Nat.zero_le _⟩
theorem OwnQ.sq (h : OwnQ cs k e w B A n c l) : Sq cs k w A n c l := ⟨Rd.of_own h.own, h.len, h.cap, h.max⟩
end
namespace Hd
abbrev By := List UInt8
structure Sg where
 fr : Int
 to : Int
 lk : Int
 rt : By
def w3 (fr to : Int) : Bool := decide (0 ≤ fr) && (decide (fr < to) && decide (to ≤ 1000))
def Sg.ok (s : Sg) : Bool := w3 s.fr s.to && (decide (1 ≤ s.lk) && (decide (s.lk ≤ 1099511627776) && decide (s.rt.length = 32)))
def rowFrom : List Sg → Int → Int → Bool
 | [], a, size => decide (a = size)
 | s :: l, a, size => decide (s.fr = a) && (s.ok && rowFrom l s.to size)
def row (l : List Sg) (size : Int) : Bool := decide (l.length ≤ 64) && rowFrom l 0 size
structure H where
 size : Int
 log : By
 segs : List Sg
def H.ok (h : H) : Bool := decide (0 ≤ h.size) && (decide (h.size ≤ 1000) && (decide (h.log.length = 32) && row h.segs h.size))
def Sg.bytes (s : Sg) : By := Code.num s.to.toNat ++ (Code.num s.lk.toNat ++ s.rt)
def H.bytes (h : H) : By := Code.num h.size.toNat ++ (h.log ++ (Code.num h.segs.length ++ h.segs.flatMap Sg.bytes))
def rdNum (b : By) : Except Nat (Nat × By) := match Code.getNum b with
 | .error e => .error e
 | .ok (v, k) => .ok (v, b.drop k)
def rdDig (b : By) : Except Nat (By × By) := if b.length < 32 then .error 4 else .ok (b.take 32, b.drop 32)
def rdSg (fr : Int) (b : By) : Except Nat (Sg × By) := match rdNum b with
 | .error e => .error e
 | .ok (to, b) => match rdNum b with
  | .error e => .error e
  | .ok (lk, b) => match rdDig b with
   | .error e => .error e
   | .ok (rt, b) => .ok (⟨fr, to, lk, rt⟩, b)
def rdSgs : Nat → Int → By → Except Nat (List Sg × By)
 | 0, _, b => .ok ([], b)
 | n + 1, fr, b => match rdSg fr b with
  | .error e => .error e
  | .ok (s, b) => match rdSgs n s.to b with
   | .error e => .error e
   | .ok (l, b) => .ok (s :: l, b)
def rdH (b : By) : Except Nat H := match rdNum b with
 | .error e => .error e
 | .ok (size, b) => match rdDig b with
  | .error e => .error e
  | .ok (log, b) => match rdNum b with
   | .error e => .error e
   | .ok (many, b) => if 64 < many then .error 2 else match rdSgs many 0 b with
    | .error e => .error e
    | .ok (l, b) => if b = [] ∧ H.ok ⟨size, log, l⟩ = true then .ok ⟨size, log, l⟩ else .error 2
theorem rdDig_app {d rest : By} (h : d.length = 32) : rdDig (d ++ rest) = .ok (d, rest) := by
 unfold rdDig
 rw [if_neg (by rw [List.length_append]; omega), ← h, List.take_left, List.drop_left]
theorem rdDig_of {b d r : By} (h : rdDig b = .ok (d, r)) : b = d ++ r ∧ d.length = 32 := by
 unfold rdDig at h
 split at h
 · cases h
 ·
  injection h with h
  injection h with h1 h2
  rw [← h1, ← h2, List.take_append_drop, List.length_take]
  exact ⟨rfl, by omega⟩
end Hd
def sgc (s : Hd.Sg) : List Value := [.int .i64 s.fr, .int .i64 s.to, .int .i64 s.lk, sv s.rt]
def sgv (s : Hd.Sg) : Value := .agg #[.int .i64 s.fr, .int .i64 s.to, .int .i64 s.lk, sv s.rt]
theorem sgc_len (s : Hd.Sg) : (sgc s).length = 4 := rfl
end Go.Proofs.YteoledjllpgcbaaDoor
