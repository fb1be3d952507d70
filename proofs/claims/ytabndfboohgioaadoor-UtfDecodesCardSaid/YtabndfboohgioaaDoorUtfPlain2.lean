/- Laws of the characters of bytes, in plain Lean: what enc writes, first reads; what first reads, enc writes; a byte below 128 parts. -/
import Derived.Test.YtabndfboohgioaaDoorUtfPlain
namespace Go.Proofs.YtabndfboohgioaaDoor.Utf
set_option linter.unusedVariables false

theorem u8_val (n : Int) (h0 : 0 ≤ n) (h1 : n < 256) : ((u8 n).toNat : Int) = n := by
  unfold u8
  rw [UInt8.toNat_ofNat']
  omega
theorem u8_of (b : UInt8) (n : Int) (h : (b.toNat : Int) = n) : u8 n = b := by
  subst h
  unfold u8
  simp
theorem right_iff (c : Int) : right c = true ↔ (0 ≤ c ∧ c ≤ 1114111 ∧ (c < 55296 ∨ 57343 < c)) := by
  unfold right
  simp [and_assoc]
theorem whole_some {n : Nat} {c : Int} (h1 : right c = true) (h2 : size c = n) : whole n (some c) = (c, n) := by
  show (if _ then _ else _) = _
  rw [if_pos ⟨h1, h2⟩]
theorem tails_cons (x : UInt8) (t : List UInt8) (c : Int) : tails (x :: t) c = if (x.toNat : Int) / 64 = 2 then tails t (c * 64 + (x.toNat : Int) % 64) else none := rfl
theorem try_len (n : Nat) (c : Int) (t : List UInt8) (h : n ≤ t.length + 1) : try_ n c t = whole n (tails (t.take (n - 1)) c) := by
  unfold try_; rw [if_neg (by omega)]

/-- What is written is read, whatever stands behind. -/
theorem first_enc (c : Int) (t : List UInt8) (h : right c = true) : first (enc c ++ t) = (c, (enc c).length) := by
  obtain ⟨h0, h1, h2⟩ := (right_iff c).1 h
  have hlen := enc_length c
  unfold enc at hlen ⊢
  by_cases k1 : c < 128
  · rw [if_pos k1]
    rw [List.cons_append, first_cons, u8_val c h0 (by omega), if_pos k1]
    rfl
  rw [if_neg k1] at hlen ⊢
  by_cases k2 : c < 2048
  · rw [if_pos k2] at hlen ⊢
    rw [List.cons_append, first_cons, u8_val _ (by omega) (by omega), if_neg (by omega), if_pos (by omega), try_len _ _ _ (by simp)]
    show whole 2 (tails [u8 (128 + c % 64)] _) = (c, 2)
    rw [tails_cons, u8_val _ (by omega) (by omega), if_pos (by omega)]
    show whole 2 (some _) = _
    rw [show (192 + c / 64) % 32 * 64 + (128 + c % 64) % 64 = c by omega]
    exact whole_some h (by rw [← hlen]; rfl)
  rw [if_neg k2] at hlen ⊢
  by_cases k3 : c < 65536
  · rw [if_pos k3] at hlen ⊢
    rw [List.cons_append, first_cons, u8_val _ (by omega) (by omega), if_neg (by omega), if_neg (by omega), if_pos (by omega), try_len _ _ _ (by simp)]
    show whole 3 (tails [u8 (128 + c / 64 % 64), u8 (128 + c % 64)] _) = (c, 3)
    rw [tails_cons, u8_val _ (by omega) (by omega), if_pos (by omega), tails_cons, u8_val _ (by omega) (by omega), if_pos (by omega)]
    show whole 3 (some _) = _
    rw [show ((224 + c / 4096) % 16 * 64 + (128 + c / 64 % 64) % 64) * 64 + (128 + c % 64) % 64 = c by omega]
    exact whole_some h (by rw [← hlen]; rfl)
  · rw [if_neg k3] at hlen ⊢
    rw [List.cons_append, first_cons, u8_val _ (by omega) (by omega), if_neg (by omega), if_neg (by omega), if_neg (by omega), if_pos (by omega), try_len _ _ _ (by simp)]
    show whole 4 (tails [u8 (128 + c / 4096 % 64), u8 (128 + c / 64 % 64), u8 (128 + c % 64)] _) = (c, 4)
    rw [tails_cons, u8_val _ (by omega) (by omega), if_pos (by omega), tails_cons, u8_val _ (by omega) (by omega), if_pos (by omega), tails_cons, u8_val _ (by omega) (by omega), if_pos (by omega)]
    show whole 4 (some _) = _
    rw [show (((240 + c / 262144) % 8 * 64 + (128 + c / 4096 % 64) % 64) * 64 + (128 + c / 64 % 64) % 64) * 64 + (128 + c % 64) % 64 = c by omega]
    exact whole_some h (by rw [← hlen]; rfl)

/-- What is read, and is not the mark of a fault, was written so. -/
def Good (l : List UInt8) (r : Int × Nat) : Prop := r = (bad, 1) ∨ (right r.1 = true ∧ (enc r.1).length = r.2 ∧ l.take r.2 = enc r.1)
theorem whole_cases (n : Nat) (o : Option Int) : whole n o = (bad, 1) ∨ ∃ c, o = some c ∧ right c = true ∧ size c = n ∧ whole n o = (c, n) := by
  cases o with
  | none => exact .inl rfl
  | some c =>
    by_cases h : right c = true ∧ size c = (n : Int)
    · exact .inr ⟨c, rfl, h.1, h.2, whole_some h.1 h.2⟩
    · left
      show (if _ then _ else _) = _
      rw [if_neg h]
theorem tails_some (x : UInt8) (t : List UInt8) (a c : Int) (h : tails (x :: t) a = some c) : (x.toNat : Int) / 64 = 2 ∧ tails t (a * 64 + (x.toNat : Int) % 64) = some c := by
  rw [tails_cons] at h
  by_cases hx : (x.toNat : Int) / 64 = 2
  · rw [if_pos hx] at h; exact ⟨hx, h⟩
  · rw [if_neg hx] at h; cases h
theorem first_good (l : List UInt8) (hl : l ≠ []) : Good l (first l) := by
  cases l with
  | nil => exact absurd rfl hl
  | cons b t =>
    have hb := b.toNat_lt
    rw [first_cons]
    obtain ⟨x, hx⟩ : ∃ x : Int, (b.toNat : Int) = x := ⟨_, rfl⟩
    rw [hx]
    by_cases k1 : x < 128
    · rw [if_pos k1]
      have e : enc x = [b] := by unfold enc; rw [if_pos k1, u8_of b x hx]
      exact .inr ⟨(right_iff x).2 (by omega), by rw [e]; rfl, by rw [e]; rfl⟩
    rw [if_neg k1]
    by_cases k2 : x / 32 = 6
    · rw [if_pos k2]
      by_cases hs : t.length + 1 < 2
      · left; unfold try_; rw [if_pos hs]
      rw [try_len _ _ _ (by omega)]
      rcases whole_cases 2 (tails (t.take (2 - 1)) (x % 32)) with h | ⟨c, hc, hr, hz, hw⟩
      · exact .inl h
      match t, hs with
      | y :: t', _ =>
      rw [hw]
      obtain ⟨g1, g2⟩ := tails_some y [] _ _ hc
      have hy := y.toNat_lt
      have g3 : x % 32 * 64 + (y.toNat : Int) % 64 = c := by injection g2
      have hz' : ¬ c < 128 ∧ c < 2048 := by unfold size at hz; split at hz <;> (try split at hz) <;> (try split at hz) <;> omega
      have e : enc c = [b, y] := by
        unfold enc; rw [if_neg hz'.1, if_pos hz'.2, u8_of b _ (by omega), u8_of y _ (by omega)]
      exact .inr ⟨hr, by rw [e]; rfl, by rw [e]; rfl⟩
    rw [if_neg k2]
    by_cases k3 : x / 16 = 14
    · rw [if_pos k3]
      by_cases hs : t.length + 1 < 3
      · left; unfold try_; rw [if_pos hs]
      rw [try_len _ _ _ (by omega)]
      rcases whole_cases 3 (tails (t.take (3 - 1)) (x % 16)) with h | ⟨c, hc, hr, hz, hw⟩
      · exact .inl h
      match t, hs with
      | [_], hs => exact absurd (by simp) hs
      | y :: z :: t', _ =>
      rw [hw]
      obtain ⟨g1, g2⟩ := tails_some y [z] _ _ hc
      obtain ⟨g4, g5⟩ := tails_some z [] _ _ g2
      have hy := y.toNat_lt
      have hzz := z.toNat_lt
      have g3 : (x % 16 * 64 + (y.toNat : Int) % 64) * 64 + (z.toNat : Int) % 64 = c := by injection g5
      have hz' : ¬ c < 128 ∧ ¬ c < 2048 ∧ c < 65536 := by unfold size at hz; split at hz <;> (try split at hz) <;> (try split at hz) <;> omega
      have e : enc c = [b, y, z] := by
        unfold enc; rw [if_neg hz'.1, if_neg hz'.2.1, if_pos hz'.2.2, u8_of b _ (by omega), u8_of y _ (by omega), u8_of z _ (by omega)]
      exact .inr ⟨hr, by rw [e]; rfl, by rw [e]; rfl⟩
    rw [if_neg k3]
    by_cases k4 : x / 8 = 30
    · rw [if_pos k4]
      by_cases hs : t.length + 1 < 4
      · left; unfold try_; rw [if_pos hs]
      rw [try_len _ _ _ (by omega)]
      rcases whole_cases 4 (tails (t.take (4 - 1)) (x % 8)) with h | ⟨c, hc, hr, hz, hw⟩
      · exact .inl h
      match t, hs with
      | [_], hs => exact absurd (by simp) hs
      | [_, _], hs => exact absurd (by simp) hs
      | y :: z :: v :: t', _ =>
      rw [hw]
      obtain ⟨g1, g2⟩ := tails_some y [z, v] _ _ hc
      obtain ⟨g4, g5⟩ := tails_some z [v] _ _ g2
      obtain ⟨g6, g7⟩ := tails_some v [] _ _ g5
      have hy := y.toNat_lt
      have hzz := z.toNat_lt
      have hv := v.toNat_lt
      have g3 : ((x % 8 * 64 + (y.toNat : Int) % 64) * 64 + (z.toNat : Int) % 64) * 64 + (v.toNat : Int) % 64 = c := by injection g7
      have hz' : ¬ c < 128 ∧ ¬ c < 2048 ∧ ¬ c < 65536 := by unfold size at hz; split at hz <;> (try split at hz) <;> (try split at hz) <;> omega
      have e : enc c = [b, y, z, v] := by
        unfold enc; rw [if_neg hz'.1, if_neg hz'.2.1, if_neg hz'.2.2, u8_of b _ (by omega), u8_of y _ (by omega), u8_of z _ (by omega), u8_of v _ (by omega)]
      exact .inr ⟨hr, by rw [e]; rfl, by rw [e]; rfl⟩
    · rw [if_neg k4]; exact .inl rfl

theorem enc_ne (c : Int) : enc c ≠ [] := by
  intro h
  have := enc_length c
  rw [h] at this
  have := size_range c
  simp at *
  omega
/-- A strong induction over the bytes. -/
theorem byChar {P : List UInt8 → Prop} (h0 : P []) (hs : ∀ l, l ≠ [] → P (l.drop (first l).2) → P l) : ∀ l, P l := by
  have key : ∀ (n : Nat) (l : List UInt8), l.length ≤ n → P l := by
    intro n
    induction n with
    | zero =>
      intro l hl
      have : l = [] := List.eq_nil_of_length_eq_zero (by omega)
      subst this; exact h0
    | succ n ih =>
      intro l hl
      by_cases h : l = []
      · subst h; exact h0
      · refine hs l h (ih _ ?_)
        have := first_pos l
        have := List.length_pos_iff.2 h
        rw [List.length_drop]; omega
  exact fun l => key l.length l (Nat.le_refl _)
/-- Each character told is one. -/
theorem dec_right (l : List UInt8) : ∀ c ∈ dec l, right c = true := by
  refine byChar (P := fun l => ∀ c ∈ dec l, right c = true) (by intro c hc; simp [dec_nil] at hc) (fun l hl ih => ?_) l
  intro c hc
  rw [dec_step l hl, List.mem_cons] at hc
  rcases hc with rfl | hc
  · rcases first_good l hl with h | h
    · rw [h]; decide +kernel
    · exact h.1
  · exact ih c hc
/-- Bytes without the mark of a fault are their characters' bytes. -/
theorem dec_only (l : List UInt8) (h : bad ∉ dec l) : (dec l).flatMap enc = l := by
  revert h
  refine byChar (P := fun l => bad ∉ dec l → (dec l).flatMap enc = l) (fun _ => rfl) (fun l hl ih => ?_) l
  intro h
  rw [dec_step l hl] at h ⊢
  rw [List.mem_cons, not_or] at h
  rw [List.flatMap_cons, ih h.2]
  rcases first_good l hl with hg | hg
  · rw [hg] at h; exact absurd rfl h.1
  · rw [← hg.2.2, List.take_append_drop]
/-- What characters' bytes are decoded to. -/
theorem dec_enc (cs : List Int) (h : ∀ c ∈ cs, right c = true) : dec (cs.flatMap enc) = cs := by
  induction cs with
  | nil => rfl
  | cons c cs ih =>
    rw [List.flatMap_cons]
    have hne : enc c ++ cs.flatMap enc ≠ [] := by simp [enc_ne c]
    rw [dec_step _ hne, first_enc c _ (h c (by simp))]
    simp only [List.drop_left]
    rw [ih fun c hc => h c (by simp [hc])]
/-- The reading of a first character does not look past a byte below 128. -/
theorem tails_mark (m : UInt8) (hm : m.toNat < 128) (T : List UInt8) : ∀ (t : List UInt8) (a : Int), tails (t ++ m :: T) a = none
  | [], a => by
    rw [List.nil_append, tails_cons, if_neg (by omega)]
  | x :: t, a => by
    rw [List.cons_append, tails_cons]
    split
    · exact tails_mark m hm T t _
    · rfl
theorem try_mark (m : UInt8) (hm : m.toNat < 128) (n : Nat) (hn : 0 < n) (a : Int) (t T : List UInt8) : try_ n a (t ++ m :: T) = try_ n a t := by
  by_cases h : t.length + 1 < n
  · have e : try_ n a t = (bad, 1) := by unfold try_; rw [if_pos h]
    rw [e]
    by_cases h2 : (t ++ m :: T).length + 1 < n
    · unfold try_; rw [if_pos h2]
    · rw [try_len _ _ _ (by omega)]
      have e2 : (t ++ m :: T).take (n - 1) = t ++ m :: T.take (n - 1 - t.length - 1) := by
        rw [List.take_append, List.take_of_length_le (by omega)]
        congr 1
        rw [show n - 1 - t.length = (n - 1 - t.length - 1) + 1 by omega, List.take_succ_cons]
        simp
      rw [e2, tails_mark m hm]
      rfl
  · have hl : n ≤ (t ++ m :: T).length + 1 := by simp; omega
    rw [try_len _ _ _ hl, try_len _ _ _ (by omega), List.take_append_of_le_length (by omega)]
theorem first_mark (m : UInt8) (hm : m.toNat < 128) (l T : List UInt8) (hl : l ≠ []) : first (l ++ m :: T) = first l := by
  cases l with
  | nil => exact absurd rfl hl
  | cons b t =>
    rw [List.cons_append, first_cons, first_cons, try_mark m hm 2 (by omega), try_mark m hm 3 (by omega), try_mark m hm 4 (by omega)]
theorem dec_mark (m : UInt8) (hm : m.toNat < 128) (T : List UInt8) (l : List UInt8) : dec (l ++ m :: T) = dec l ++ (m.toNat : Int) :: dec T := by
  refine byChar (P := fun l => dec (l ++ m :: T) = dec l ++ (m.toNat : Int) :: dec T) ?_ (fun l hl ih => ?_) l
  · rw [List.nil_append, dec_nil, List.nil_append, dec_step _ (by simp), first_cons, if_pos (by omega)]
    rfl
  · have hle := first_le l hl
    rw [dec_step _ (by simp), first_mark m hm l T hl, List.drop_append_of_le_length hle, ih, dec_step l hl]
    rfl
end Go.Proofs.YtabndfboohgioaaDoor.Utf
