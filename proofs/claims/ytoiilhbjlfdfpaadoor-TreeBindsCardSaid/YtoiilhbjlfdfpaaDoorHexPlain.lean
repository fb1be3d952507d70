/- Hexadecimal digits, in plain Lean: no program. -/
import Derived.Test.YtoiilhbjlfdfpaaDoorShaPlain
namespace Go.Proofs.YtoiilhbjlfdfpaaDoor.Hex
set_option linter.unusedVariables false

/-- The digit of a number below 16. -/
def dg (v : Nat) : UInt8 := UInt8.ofNat (if v < 10 then 48 + v else 87 + v)
def hex (l : List UInt8) : List UInt8 := l.flatMap fun b => [dg (b.toNat / 16), dg (b.toNat % 16)]
/-- The number of a digit. -/
def val (c : UInt8) : Option Nat := if 48 ≤ c.toNat ∧ c.toNat ≤ 57 then some (c.toNat - 48) else if 97 ≤ c.toNat ∧ c.toNat ≤ 102 then some (c.toNat - 87) else none
def unhex : List UInt8 → Option (List UInt8)
  | [] => some []
  | [_] => none
  | a :: b :: t => match val a, val b with
    | some x, some y => (unhex t).map (UInt8.ofNat (x * 16 + y) :: ·)
    | _, _ => none
theorem val_lt {c : UInt8} {v : Nat} (h : val c = some v) : v < 16 := by
  unfold val at h
  split at h
  · injection h with h; omega
  · split at h
    · injection h with h; omega
    · cases h
theorem val_dg (v : Nat) (h : v < 16) : val (dg v) = some v := by
  have key : ∀ v : Fin 16, val (dg v.val) = some v.val := by decide
  exact key ⟨v, h⟩
theorem dg_val {c : UInt8} {v : Nat} (h : val c = some v) : dg v = c := by
  have hc := c.toNat_lt
  have e : ∀ n : Nat, n = c.toNat → UInt8.ofNat n = c := fun n hn => by subst hn; simp
  unfold val at h
  split at h
  · injection h with h
    subst h
    unfold dg
    rw [if_pos (by omega)]
    exact e _ (by omega)
  · split at h
    · injection h with h
      subst h
      unfold dg
      rw [if_neg (by omega)]
      exact e _ (by omega)
    · cases h
theorem hex_length (l : List UInt8) : (hex l).length = 2 * l.length := by
  induction l with
  | nil => rfl
  | cons b l ih =>
    show ([_, _] ++ hex l).length = _
    rw [List.length_append, ih]
    simp; omega
theorem hex_append (a b : List UInt8) : hex (a ++ b) = hex a ++ hex b := by simp [hex]
theorem unhex_hex (l : List UInt8) : unhex (hex l) = some l := by
  induction l with
  | nil => rfl
  | cons b l ih =>
    have hb := b.toNat_lt
    show unhex (dg (b.toNat / 16) :: dg (b.toNat % 16) :: hex l) = _
    rw [unhex, val_dg _ (by omega), val_dg _ (by omega), ih]
    show some (UInt8.ofNat (b.toNat / 16 * 16 + b.toNat % 16) :: l) = _
    rw [show b.toNat / 16 * 16 + b.toNat % 16 = b.toNat by omega]
    simp
theorem hex_unhex : ∀ (n : Nat) (s l : List UInt8), s.length ≤ n → unhex s = some l → hex l = s := by
  intro n
  induction n with
  | zero =>
    intro s l hs h
    have : s = [] := List.eq_nil_of_length_eq_zero (by omega)
    subst this
    injection h with h
    subst h; rfl
  | succ n ih =>
    intro s l hs h
    match s, h with
    | [], h => injection h with h; subst h; rfl
    | [_], h => cases h
    | a :: b :: t, h =>
      rw [unhex] at h
      cases ha : val a with
      | none => rw [ha] at h; cases h
      | some x =>
        cases hb : val b with
        | none => rw [ha, hb] at h; cases h
        | some y =>
          rw [ha, hb] at h
          cases ht : unhex t with
          | none => rw [ht] at h; cases h
          | some r =>
            rw [ht] at h
            injection h with h
            subst h
            have hx := val_lt ha
            have hy := val_lt hb
            show dg _ :: dg _ :: hex r = _
            have e : (UInt8.ofNat (x * 16 + y)).toNat = x * 16 + y := by
              rw [UInt8.toNat_ofNat']; omega
            rw [e, show (x * 16 + y) / 16 = x by omega, show (x * 16 + y) % 16 = y by omega, dg_val ha, dg_val hb, ih t r (by simp at hs; omega) ht]
theorem unhex_odd : ∀ (n : Nat) (s : List UInt8), s.length ≤ n → s.length % 2 = 1 → unhex s = none := by
  intro n
  induction n with
  | zero => intro s h1 h2; omega
  | succ n ih =>
    intro s h1 h2
    match s with
    | [] => cases h2
    | [_] => rfl
    | a :: b :: t =>
      rw [unhex, ih t (by simp at h1; omega) (by simp at h2; omega)]
      cases val a <;> cases val b <;> rfl
theorem unhex_length : ∀ (n : Nat) (s l : List UInt8), s.length ≤ n → unhex s = some l → s.length = 2 * l.length := fun n s l h1 h2 => by
  rw [← hex_unhex n s l h1 h2, hex_length]
/-- "ba78..": the sum of "abc". -/
def abcHex : List UInt8 := [98, 97, 55, 56, 49, 54, 98, 102, 56, 102, 48, 49, 99, 102, 101, 97, 52, 49, 52, 49, 52, 48, 100, 101, 53, 100, 97, 101, 50, 50, 50, 51, 98, 48, 48, 51, 54, 49, 97, 51, 57, 54, 49, 55, 55, 97, 57, 99, 98, 52, 49, 48, 102, 102, 54, 49, 102, 50, 48, 48, 49, 53, 97, 100]
def nilHex : List UInt8 := [101, 51, 98, 48, 99, 52, 52, 50, 57, 56, 102, 99, 49, 99, 49, 52, 57, 97, 102, 98, 102, 52, 99, 56, 57, 57, 54, 102, 98, 57, 50, 52, 50, 55, 97, 101, 52, 49, 101, 52, 54, 52, 57, 98, 57, 51, 52, 99, 97, 52, 57, 53, 57, 57, 49, 98, 55, 56, 53, 50, 98, 56, 53, 53]
theorem abc_sum : unhex abcHex = some (Sha.sum [97, 98, 99]) := by decide +kernel
theorem nil_sum : hex (Sha.sum []) = nilHex := by decide +kernel
theorem end_new : Sha.end_ Sha.begin_ [] 0 = Sha.sum [] := by
  unfold Sha.sum
  rw [Sha.proc_short _ _ (by decide)]
  rfl
end Go.Proofs.YtoiilhbjlfdfpaaDoor.Hex
