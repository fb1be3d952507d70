/- The reference's way to read a character: of the numbers that one to four bytes would begin with, the one whose bytes are just these. -/
import Derived.Test.YtabndfboohgioaaDoorUtfPlain2
namespace Go.Proofs.YtabndfboohgioaaDoor.Utf
set_option linter.unusedVariables false

def lead (n : Nat) : Int := if n = 2 then 192 else if n = 3 then 224 else if n = 4 then 240 else 0
def begF : List UInt8 → Int → Int
  | [], c => c
  | x :: t, c => begF t (c * 64 + (x.toNat : Int) - 128)
/-- The number that n bytes would begin with; -1 if they are fewer. -/
def beg (l : List UInt8) (n : Nat) : Int :=
  match l with
  | [] => -1
  | b :: t => if t.length + 1 < n then -1 else begF (t.take (n - 1)) ((b.toNat : Int) - lead n)
theorem beg_cons (b : UInt8) (t : List UInt8) (n : Nat) : beg (b :: t) n = if t.length + 1 < n then -1 else begF (t.take (n - 1)) ((b.toNat : Int) - lead n) := rfl
theorem beg_enc (c : Int) (t : List UInt8) (h : right c = true) : beg (enc c ++ t) (enc c).length = c := by
  obtain ⟨h0, h1, h2⟩ := (right_iff c).1 h
  unfold enc
  by_cases k1 : c < 128
  · rw [if_pos k1]
    show beg (u8 c :: t) 1 = c
    rw [beg_cons, if_neg (by omega), u8_val c h0 (by omega)]
    show c - lead 1 = c
    simp [lead]
  rw [if_neg k1]
  by_cases k2 : c < 2048
  · rw [if_pos k2]
    show beg (u8 (192 + c / 64) :: u8 (128 + c % 64) :: t) 2 = c
    rw [beg_cons, if_neg (by simp), u8_val _ (by omega) (by omega)]
    show (192 + c / 64 - lead 2) * 64 + ((u8 (128 + c % 64)).toNat : Int) - 128 = c
    rw [u8_val _ (by omega) (by omega)]
    simp only [lead, if_true]
    omega
  rw [if_neg k2]
  by_cases k3 : c < 65536
  · rw [if_pos k3]
    show beg (u8 (224 + c / 4096) :: u8 (128 + c / 64 % 64) :: u8 (128 + c % 64) :: t) 3 = c
    rw [beg_cons, if_neg (by simp), u8_val _ (by omega) (by omega)]
    show ((224 + c / 4096 - lead 3) * 64 + ((u8 (128 + c / 64 % 64)).toNat : Int) - 128) * 64 + ((u8 (128 + c % 64)).toNat : Int) - 128 = c
    rw [u8_val _ (by omega) (by omega), u8_val _ (by omega) (by omega), show lead 3 = 224 by decide]
    omega
  · rw [if_neg k3]
    show beg (u8 (240 + c / 262144) :: u8 (128 + c / 4096 % 64) :: u8 (128 + c / 64 % 64) :: u8 (128 + c % 64) :: t) 4 = c
    rw [beg_cons, if_neg (by simp), u8_val _ (by omega) (by omega)]
    show (((240 + c / 262144 - lead 4) * 64 + ((u8 (128 + c / 4096 % 64)).toNat : Int) - 128) * 64 + ((u8 (128 + c / 64 % 64)).toNat : Int) - 128) * 64 + ((u8 (128 + c % 64)).toNat : Int) - 128 = c
    rw [u8_val _ (by omega) (by omega), u8_val _ (by omega) (by omega), u8_val _ (by omega) (by omega), show lead 4 = 240 by decide]
    omega

/-- Is the number that k bytes would begin with just theirs? -/
def hit (l : List UInt8) (k : Nat) : Prop := right (beg l k) = true ∧ enc (beg l k) = l.take k
theorem beg_short (l : List UInt8) (k : Nat) (h : l.length < k) : beg l k = -1 := by
  cases l with
  | nil => rfl
  | cons b t => rw [beg_cons, if_pos (by simpa using h)]
theorem right_long (l : List UInt8) (k : Nat) (h : right (beg l k) = true) : k ≤ l.length := by
  rcases Nat.lt_or_ge l.length k with h' | h'
  · rw [beg_short l k h'] at h
    exact absurd h (by decide)
  · exact h'
theorem hit_first (l : List UInt8) (k : Nat) (h : hit l k) : first l = (beg l k, k) := by
  have hk := right_long l k h.1
  have h1 := first_enc (beg l k) (l.drop k) h.1
  rw [h.2, List.take_append_drop] at h1
  rw [h1, List.length_take]
  congr 1; omega
theorem first_hit (l : List UInt8) (hl : l ≠ []) (hg : right (first l).1 = true) (ht : l.take (first l).2 = enc (first l).1) : hit l (first l).2 := by
  have h1 := beg_enc (first l).1 (l.drop (first l).2) hg
  have hlen : (enc (first l).1).length = (first l).2 := by
    rw [← ht, List.length_take]
    have := first_le l hl
    omega
  rw [← ht, List.take_append_drop] at h1
  rw [ht, hlen] at h1
  exact ⟨by rw [h1]; exact hg, by rw [h1, ht]⟩
/-- What is held behind the tries 1 .. k-1. -/
def Best (l : List UInt8) (k : Nat) (c : Int) (n : Nat) : Prop := (∃ j, j < k ∧ hit l j ∧ c = beg l j ∧ n = j) ∨ ((∀ j, j < k → 0 < j → ¬ hit l j) ∧ c = bad ∧ n = 1)
theorem best_start (l : List UInt8) : Best l 1 bad 1 := .inr ⟨fun j h1 h2 => by omega, rfl, rfl⟩
theorem best_hit {l : List UInt8} {k : Nat} {c : Int} {n : Nat} (h : Best l k c n) (hh : hit l k) : Best l (k + 1) (beg l k) k := .inl ⟨k, by omega, hh, rfl, rfl⟩
theorem best_miss {l : List UInt8} {k : Nat} {c : Int} {n : Nat} (h : Best l k c n) (hh : ¬ hit l k) : Best l (k + 1) c n := by
  rcases h with ⟨j, h1, h2, h3, h4⟩ | ⟨h1, h2, h3⟩
  · exact .inl ⟨j, by omega, h2, h3, h4⟩
  · refine .inr ⟨fun j hj h0 => ?_, h2, h3⟩
    rcases Nat.lt_or_ge j k with h' | h'
    · exact h1 j h' h0
    · obtain rfl : j = k := by omega
      exact hh
theorem best_end {l : List UInt8} (hl : l ≠ []) {c : Int} {n : Nat} (h : Best l 5 c n) : first l = (c, n) := by
  rcases h with ⟨j, h1, h2, h3, h4⟩ | ⟨h1, h2, h3⟩
  · rw [hit_first l j h2, h3, h4]
  · rcases first_good l hl with hg | ⟨g1, g2, g3⟩
    · rw [hg, h2, h3]
    · have hh := first_hit l hl g1 g3
      have h5 := first_pos l
      have h6 := size_range (first l).1
      have h7 := enc_length (first l).1
      exact absurd hh (h1 _ (by omega) h5)
theorem hit_iff {l : List UInt8} {k : Nat} {x : Int} (h : beg l k = x) (hr : right x = true) : hit l k ↔ enc x = l.take k := by
  unfold hit
  rw [h]
  exact ⟨fun h => h.2, fun h => ⟨hr, h⟩⟩
theorem hit_no {l : List UInt8} {k : Nat} {x : Int} (h : beg l k = x) (hr : right x = false) : ¬ hit l k := by
  unfold hit
  rw [h, hr]
  exact fun h => by cases h.1
/-- Rounds of the sum over the further bytes. -/
theorem begF_step (T : List UInt8) (k : Nat) (hk : k < T.length) (c : Int) : begF (T.drop k) c = begF (T.drop (k + 1)) (c * 64 + (T[k].toNat : Int) - 128) := by
  rw [List.drop_eq_getElem_cons hk]
  rfl
end Go.Proofs.YtabndfboohgioaaDoor.Utf
