/- MUtfA: several texts of this claim in one file. No statement of the seat is proved here. -/

namespace Go.Proofs.YteoledjllpgcbaaGreatDoor.Utf
set_option maxRecDepth 100000
set_option maxHeartbeats 64000000
set_option linter.unusedVariables false
def u8 (n : Int) : UInt8 := UInt8.ofNat n.toNat
def right (c : Int) : Bool := decide (0 ≤ c) && decide (c ≤ 1114111) && (decide (c < 55296) || decide (57343 < c))
def size (c : Int) : Int := if c < 128 then 1 else if c < 2048 then 2 else if c < 65536 then 3 else 4
def enc (c : Int) : List UInt8 :=
 if c < 128 then [u8 c]
 else if c < 2048 then [u8 (192 + c / 64), u8 (128 + c % 64)]
 else if c < 65536 then [u8 (224 + c / 4096), u8 (128 + c / 64 % 64), u8 (128 + c % 64)]
 else [u8 (240 + c / 262144), u8 (128 + c / 4096 % 64), u8 (128 + c / 64 % 64), u8 (128 + c % 64)]
def bad : Int := 65533
def tails : List UInt8 → Int → Option Int
 | [], c => some c
 | x :: t, c => if (x.toNat : Int) / 64 = 2 then tails t (c * 64 + (x.toNat : Int) % 64) else none
def whole (n : Nat) : Option Int → Int × Nat
 | some c => if right c = true ∧ size c = (n : Int) then (c, n) else (bad, 1)
 | none => (bad, 1)
def try_ (n : Nat) (c : Int) (t : List UInt8) : Int × Nat := if t.length + 1 < n then (bad, 1) else whole n (tails (t.take (n - 1)) c)
def first : List UInt8 → Int × Nat
 | [] => (bad, 1)
 | b :: t =>
  let x : Int := b.toNat
  if x < 128 then (x, 1) else if x / 32 = 6 then try_ 2 (x % 32) t else if x / 16 = 14 then try_ 3 (x % 16) t else if x / 8 = 30 then try_ 4 (x % 8) t else (bad, 1)
def decN : Nat → List UInt8 → List Int
 | 0, _ => []
 | _ + 1, [] => []
 | k + 1, b :: t => (first (b :: t)).1 :: decN k ((b :: t).drop (first (b :: t)).2)
def dec (l : List UInt8) : List Int := decN l.length l
def tabL : List (Int × Int) := [(65, 90), (97, 122), (192, 214), (216, 246), (248, 255), (913, 929), (931, 937), (945, 969), (1024, 1119)]
def letter (c : Int) : Bool := tabL.any fun p => decide (p.1 ≤ c) && decide (c ≤ p.2)
def tabS : List (Int × Int × Int) := [(65, 90, 32), (192, 214, 32), (216, 222, 32), (913, 929, 32), (931, 937, 32), (1024, 1039, 80), (1040, 1071, 32)]
def smallIn : List (Int × Int × Int) → Int → Int
 | [], c => c
 | p :: t, c => if p.1 ≤ c ∧ c ≤ p.2.1 then c + p.2.2 else smallIn t c
def small (c : Int) : Int := smallIn tabS c
def digit (c : Int) : Bool := decide (48 ≤ c) && decide (c ≤ 57)
theorem size_range (c : Int) : 1 ≤ size c ∧ size c ≤ 4 := by unfold size; split <;> (try split) <;> (try split) <;> omega
theorem enc_length (c : Int) : ((enc c).length : Int) = size c := by unfold enc size; split <;> (try split) <;> (try split) <;> rfl
theorem whole_pos (n : Nat) (hn : 0 < n) (o : Option Int) : 0 < (whole n o).2 ∧ (whole n o).2 ≤ max n 1 := by
 cases o with
 | none => show 0 < 1 ∧ 1 ≤ max n 1; omega
 | some c =>
  simp only [whole]
  split
  · show 0 < n ∧ n ≤ max n 1; omega
  · show 0 < 1 ∧ 1 ≤ max n 1; omega
theorem try_pos (n : Nat) (hn : 0 < n) (c : Int) (t : List UInt8) : 0 < (try_ n c t).2 ∧ (try_ n c t).2 ≤ t.length + 1 := by
 unfold try_
 by_cases h : t.length + 1 < n
 · rw [if_pos h]; exact ⟨Nat.one_pos, Nat.le_add_left 1 _⟩
 ·
  rw [if_neg h]
  have := whole_pos n hn (tails (t.take (n - 1)) c)
  exact ⟨this.1, by omega⟩
theorem first_cons (b : UInt8) (t : List UInt8) : first (b :: t) = if (b.toNat : Int) < 128 then ((b.toNat : Int), 1) else if (b.toNat : Int) / 32 = 6 then try_ 2 ((b.toNat : Int) % 32) t
  else if (b.toNat : Int) / 16 = 14 then try_ 3 ((b.toNat : Int) % 16) t else if (b.toNat : Int) / 8 = 30 then try_ 4 ((b.toNat : Int) % 8) t else (bad, 1) := rfl
theorem first_both (b : UInt8) (t : List UInt8) : 0 < (first (b :: t)).2 ∧ (first (b :: t)).2 ≤ t.length + 1 := by
 rw [first_cons]
 by_cases h1 : (b.toNat : Int) < 128
 · rw [if_pos h1]; exact ⟨Nat.one_pos, Nat.le_add_left 1 _⟩
 rw [if_neg h1]
 by_cases h2 : (b.toNat : Int) / 32 = 6
 · rw [if_pos h2]; exact try_pos 2 (by omega) _ _
 rw [if_neg h2]
 by_cases h3 : (b.toNat : Int) / 16 = 14
 · rw [if_pos h3]; exact try_pos 3 (by omega) _ _
 rw [if_neg h3]
 by_cases h4 : (b.toNat : Int) / 8 = 30
 · rw [if_pos h4]; exact try_pos 4 (by omega) _ _
 · rw [if_neg h4]; exact ⟨Nat.one_pos, Nat.le_add_left 1 _⟩
theorem first_pos (l : List UInt8) : 0 < (first l).2 := by
 cases l with
 | nil => exact Nat.one_pos
 | cons b t => exact (first_both b t).1
theorem first_le (l : List UInt8) (h : l ≠ []) : (first l).2 ≤ l.length := by
 cases l with
 | nil => exact absurd rfl h
 | cons b t => exact (first_both b t).2
theorem decN_nil (k : Nat) : decN k [] = [] := by cases k <;> rfl
theorem decN_more (l : List UInt8) : ∀ k, l.length ≤ k → decN k l = dec l := by
 have key : ∀ (n : Nat) (l : List UInt8), l.length ≤ n → ∀ k j, l.length ≤ k → l.length ≤ j → decN k l = decN j l := by
  intro n
  induction n with
  | zero =>
   intro l hl k j _ _
   have : l = [] := List.eq_nil_of_length_eq_zero (by omega)
   subst this
   rw [decN_nil, decN_nil]
  | succ n ih =>
   intro l hl k j hk hj
   cases l with
   | nil => rw [decN_nil, decN_nil]
   | cons b t =>
    simp only [List.length_cons] at hk hj hl
    obtain ⟨k, rfl⟩ : ∃ k', k = k' + 1 := ⟨k - 1, by omega⟩
    obtain ⟨j, rfl⟩ : ∃ j', j = j' + 1 := ⟨j - 1, by omega⟩
    simp only [decN]
    have hp := first_pos (b :: t)
    have hd : ((b :: t).drop (first (b :: t)).2).length ≤ t.length := by simp only [List.length_drop, List.length_cons]; omega
    congr 1
    exact ih _ (by omega) _ _ (by omega) (by omega)
 intro k hk
 exact key l.length l (Nat.le_refl _) k l.length hk (Nat.le_refl _)
theorem dec_nil : dec [] = [] := rfl
theorem dec_step (l : List UInt8) (h : l ≠ []) : dec l = (first l).1 :: dec (l.drop (first l).2) := by
 cases l with
 | nil => exact absurd rfl h
 | cons b t =>
  have hp := first_pos (b :: t)
  show decN (t.length + 1) (b :: t) = _
  simp only [decN]
  rw [decN_more _ _ (by simp only [List.length_drop, List.length_cons]; omega)]
theorem dec_length (l : List UInt8) : (dec l).length ≤ l.length := by
 have key : ∀ (n : Nat) (l : List UInt8), l.length ≤ n → (dec l).length ≤ l.length := by
  intro n
  induction n with
  | zero =>
   intro l hl
   have : l = [] := List.eq_nil_of_length_eq_zero (by omega)
   subst this; exact Nat.le_refl _
  | succ n ih =>
   intro l hl
   by_cases h : l = []
   · subst h; exact Nat.le_refl _
   ·
    rw [dec_step l h]
    have hp := first_pos l
    have hl0 := List.length_pos_iff.2 h
    have := ih (l.drop (first l).2) (by rw [List.length_drop]; omega)
    rw [List.length_drop] at this
    simp only [List.length_cons]; omega
 exact key l.length l (Nat.le_refl _)
end Go.Proofs.YteoledjllpgcbaaGreatDoor.Utf
namespace Go.Proofs.YteoledjllpgcbaaGreatDoor.Utf
set_option maxRecDepth 100000
set_option maxHeartbeats 64000000
set_option linter.unusedVariables false
theorem u8_val (n : Int) (h0 : 0 ≤ n) (h1 : n < 256) : ((u8 n).toNat : Int) = n := by
 unfold u8
 rw [UInt8.toNat_ofNat']
 omega
theorem u8_of (b : UInt8) (n : Int) (h : (b.toNat : Int) = n) : u8 n = b := by
 subst h
 unfold u8
 simp
theorem right_iff (c : Int) : right c = true ↔ (0 ≤ c ∧ c ≤ 1114111 ∧ (c < 55296 ∨ 57343 < c)) := by
 unfold right
 simp [and_assoc]
theorem whole_some {n : Nat} {c : Int} (h1 : right c = true) (h2 : size c = n) : whole n (some c) = (c, n) := by
 show (if _ then _ else _) = _
 rw [if_pos ⟨h1, h2⟩]
theorem tails_cons (x : UInt8) (t : List UInt8) (c : Int) : tails (x :: t) c = if (x.toNat : Int) / 64 = 2 then tails t (c * 64 + (x.toNat : Int) % 64) else none := rfl
theorem try_len (n : Nat) (c : Int) (t : List UInt8) (h : n ≤ t.length + 1) : try_ n c t = whole n (tails (t.take (n - 1)) c) := by
 unfold try_; rw [if_neg (by omega)]
theorem first_enc (c : Int) (t : List UInt8) (h : right c = true) : first (enc c ++ t) = (c, (enc c).length) := by
 obtain ⟨h0, h1, h2⟩ := (right_iff c).1 h
 have hlen := enc_length c
 unfold enc at hlen ⊢
 by_cases k1 : c < 128
 ·
  rw [if_pos k1]
  rw [List.cons_append, first_cons, u8_val c h0 (by omega), if_pos k1]
  rfl
 rw [if_neg k1] at hlen ⊢
 by_cases k2 : c < 2048
 ·
  rw [if_pos k2] at hlen ⊢
  rw [List.cons_append, first_cons, u8_val _ (by omega) (by omega), if_neg (by omega), if_pos (by omega), try_len _ _ _ (by simp)]
  show whole 2 (tails [u8 (128 + c % 64)] _) = (c, 2)
  rw [tails_cons, u8_val _ (by omega) (by omega), if_pos (by omega)]
  show whole 2 (some _) = _
  rw [show (192 + c / 64) % 32 * 64 + (128 + c % 64) % 64 = c by omega]
  exact whole_some h (by rw [← hlen]; rfl)
 rw [if_neg k2] at hlen ⊢
 by_cases k3 : c < 65536
 ·
  rw [if_pos k3] at hlen ⊢
  rw [List.cons_append, first_cons, u8_val _ (by omega) (by omega), if_neg (by omega), if_neg (by omega), if_pos (by omega), try_len _ _ _ (by simp)]
  show whole 3 (tails [u8 (128 + c / 64 % 64), u8 (128 + c % 64)] _) = (c, 3)
  rw [tails_cons, u8_val _ (by omega) (by omega), if_pos (by omega), tails_cons, u8_val _ (by omega) (by omega), if_pos (by omega)]
  show whole 3 (some _) = _
  rw [show ((224 + c / 4096) % 16 * 64 + (128 + c / 64 % 64) % 64) * 64 + (128 + c % 64) % 64 = c by omega]
  exact whole_some h (by rw [← hlen]; rfl)
 ·
  rw [if_neg k3] at hlen ⊢
  rw [List.cons_append, first_cons, u8_val _ (by omega) (by omega), if_neg (by omega), if_neg (by omega), if_neg (by omega), if_pos (by omega), try_len _ _ _ (by simp)]
  show whole 4 (tails [u8 (128 + c / 4096 % 64), u8 (128 + c / 64 % 64), u8 (128 + c % 64)] _) = (c, 4)
  rw [tails_cons, u8_val _ (by omega) (by omega), if_pos (by omega), tails_cons, u8_val _ (by omega) (by omega), if_pos (by omega), tails_cons, u8_val _ (by omega) (by omega), if_pos (by omega)]
  show whole 4 (some _) = _
  rw [show (((240 + c / 262144) % 8 * 64 + (128 + c / 4096 % 64) % 64) * 64 + (128 + c / 64 % 64) % 64) * 64 + (128 + c % 64) % 64 = c by omega]
  exact whole_some h (by rw [← hlen]; rfl)
def Good (l : List UInt8) (r : Int × Nat) : Prop := r = (bad, 1) ∨ (right r.1 = true ∧ (enc r.1).length = r.2 ∧ l.take r.2 = enc r.1)
theorem whole_cases (n : Nat) (o : Option Int) : whole n o = (bad, 1) ∨ ∃ c, o = some c ∧ right c = true ∧ size c = n ∧ whole n o = (c, n) := by
 cases o with
 | none => exact .inl rfl
 | some c =>
  by_cases h : right c = true ∧ size c = (n : Int)
  · exact .inr ⟨c, rfl, h.1, h.2, whole_some h.1 h.2⟩
  ·
   left
   show (if _ then _ else _) = _
   rw [if_neg h]
theorem tails_some (x : UInt8) (t : List UInt8) (a c : Int) (h : tails (x :: t) a = some c) : (x.toNat : Int) / 64 = 2 ∧ tails t (a * 64 + (x.toNat : Int) % 64) = some c := by
 rw [tails_cons] at h
 by_cases hx : (x.toNat : Int) / 64 = 2
 · rw [if_pos hx] at h; exact ⟨hx, h⟩
 · rw [if_neg hx] at h; cases h
theorem first_good (l : List UInt8) (hl : l ≠ []) : Good l (first l) := by
 cases l with
 | nil => exact absurd rfl hl
 | cons b t =>
  have hb := b.toNat_lt
  rw [first_cons]
  obtain ⟨x, hx⟩ : ∃ x : Int, (b.toNat : Int) = x := ⟨_, rfl⟩
  rw [hx]
  by_cases k1 : x < 128
  ·
   rw [if_pos k1]
   have e : enc x = [b] := by unfold enc; rw [if_pos k1, u8_of b x hx]
   exact .inr ⟨(right_iff x).2 (by omega), by rw [e]; rfl, by rw [e]; rfl⟩
  rw [if_neg k1]
  by_cases k2 : x / 32 = 6
  ·
   rw [if_pos k2]
   by_cases hs : t.length + 1 < 2
   · left; unfold try_; rw [if_pos hs]
   rw [try_len _ _ _ (by omega)]
   rcases whole_cases 2 (tails (t.take (2 - 1)) (x % 32)) with h | ⟨c, hc, hr, hz, hw⟩
   · exact .inl h
   match t, hs with
   | y :: t', _ =>
   rw [hw]
   obtain ⟨g1, g2⟩ := tails_some y [] _ _ hc
   have hy := y.toNat_lt
   have g3 : x % 32 * 64 + (y.toNat : Int) % 64 = c := by injection g2
   have hz' : ¬ c < 128 ∧ c < 2048 := by unfold size at hz; split at hz <;> (try split at hz) <;> (try split at hz) <;> omega
   have e : enc c = [b, y] := by
    unfold enc; rw [if_neg hz'.1, if_pos hz'.2, u8_of b _ (by omega), u8_of y _ (by omega)]
   exact .inr ⟨hr, by rw [e]; rfl, by rw [e]; rfl⟩
  rw [if_neg k2]
  by_cases k3 : x / 16 = 14
  ·
   rw [if_pos k3]
   by_cases hs : t.length + 1 < 3
   · left; unfold try_; rw [if_pos hs]
   rw [try_len _ _ _ (by omega)]
   rcases whole_cases 3 (tails (t.take (3 - 1)) (x % 16)) with h | ⟨c, hc, hr, hz, hw⟩
   · exact .inl h
   match t, hs with
   | [_], hs => exact absurd (by simp) hs
   | y :: z :: t', _ =>
   rw [hw]
   obtain ⟨g1, g2⟩ := tails_some y [z] _ _ hc
   obtain ⟨g4, g5⟩ := tails_some z [] _ _ g2
   have hy := y.toNat_lt
   have hzz := z.toNat_lt
   have g3 : (x % 16 * 64 + (y.toNat : Int) % 64) * 64 + (z.toNat : Int) % 64 = c := by injection g5
   have hz' : ¬ c < 128 ∧ ¬ c < 2048 ∧ c < 65536 := by unfold size at hz; split at hz <;> (try split at hz) <;> (try split at hz) <;> omega
   have e : enc c = [b, y, z] := by
    unfold enc; rw [if_neg hz'.1, if_neg hz'.2.1, if_pos hz'.2.2, u8_of b _ (by omega), u8_of y _ (by omega), u8_of z _ (by omega)]
   exact .inr ⟨hr, by rw [e]; rfl, by rw [e]; rfl⟩
  rw [if_neg k3]
  by_cases k4 : x / 8 = 30
  ·
   rw [if_pos k4]
   by_cases hs : t.length + 1 < 4
   · left; unfold try_; rw [if_pos hs]
   rw [try_len _ _ _ (by omega)]
   rcases whole_cases 4 (tails (t.take (4 - 1)) (x % 8)) with h | ⟨c, hc, hr, hz, hw⟩
   · exact .inl h
   match t, hs with
   | [_], hs => exact absurd (by simp) hs
   | [_, _], hs => exact absurd (by simp) hs
   | y :: z :: v :: t', _ =>
   rw [hw]
   obtain ⟨g1, g2⟩ := tails_some y [z, v] _ _ hc
   obtain ⟨g4, g5⟩ := tails_some z [v] _ _ g2
   obtain ⟨g6, g7⟩ := tails_some v [] _ _ g5
   have hy := y.toNat_lt
   have hzz := z.toNat_lt
   have hv := v.toNat_lt
   have g3 : ((x % 8 * 64 + (y.toNat : Int) % 64) * 64 + (z.toNat : Int) % 64) * 64 + (v.toNat : Int) % 64 = c := by injection g7
   have hz' : ¬ c < 128 ∧ ¬ c < 2048 ∧ ¬ c < 65536 := by unfold size at hz; split at hz <;> (try split at hz) <;> (try split at hz) <;> omega
   have e : enc c = [b, y, z, v] := by
    unfold enc; rw [if_neg hz'.1, if_neg hz'.2.1, if_neg hz'.2.2, u8_of b _ (by omega), u8_of y _ (by omega), u8_of z _ (by omega), u8_of v _ (by omega)]
   exact .inr ⟨hr, by rw [e]; rfl, by rw [e]; rfl⟩
  · rw [if_neg k4]; exact .inl rfl
theorem enc_ne (c : Int) : enc c ≠ [] := by
 intro h
 have := enc_length c
 rw [h] at this
 have := size_range c
 simp at *
 omega
theorem byChar {P : List UInt8 → Prop} (h0 : P []) (hs : ∀ l, l ≠ [] → P (l.drop (first l).2) → P l) : ∀ l, P l := by
 have key : ∀ (n : Nat) (l : List UInt8), l.length ≤ n → P l := by
  intro n
  induction n with
  | zero =>
   intro l hl
   have : l = [] := List.eq_nil_of_length_eq_zero (by omega)
   subst this; exact h0
  | succ n ih =>
   intro l hl
   by_cases h : l = []
   · subst h; exact h0
   ·
    refine hs l h (ih _ ?_)
    have := first_pos l
    have := List.length_pos_iff.2 h
    rw [List.length_drop]; omega
 exact fun l => key l.length l (Nat.le_refl _)
theorem dec_right (l : List UInt8) : ∀ c ∈ dec l, right c = true := by
 refine byChar (P := fun l => ∀ c ∈ dec l, right c = true) (by intro c hc; simp [dec_nil] at hc) (fun l hl ih => ?_) l
 intro c hc
 rw [dec_step l hl, List.mem_cons] at hc
 rcases hc with rfl | hc
 ·
  rcases first_good l hl with h | h
  · rw [h]; decide +kernel
  · exact h.1
 · exact ih c hc
theorem dec_only (l : List UInt8) (h : bad ∉ dec l) : (dec l).flatMap enc = l := by
 revert h
 refine byChar (P := fun l => bad ∉ dec l → (dec l).flatMap enc = l) (fun _ => rfl) (fun l hl ih => ?_) l
 intro h
 rw [dec_step l hl] at h ⊢
 rw [List.mem_cons, not_or] at h
 rw [List.flatMap_cons, ih h.2]
 rcases first_good l hl with hg | hg
 · rw [hg] at h; exact absurd rfl h.1
 · rw [← hg.2.2, List.take_append_drop]
theorem dec_enc (cs : List Int) (h : ∀ c ∈ cs, right c = true) : dec (cs.flatMap enc) = cs := by
 induction cs with
 | nil => rfl
 | cons c cs ih =>
  rw [List.flatMap_cons]
  have hne : enc c ++ cs.flatMap enc ≠ [] := by simp [enc_ne c]
  rw [dec_step _ hne, first_enc c _ (h c (by simp))]
  simp only [List.drop_left]
  rw [ih fun c hc => h c (by simp [hc])]
end Go.Proofs.YteoledjllpgcbaaGreatDoor.Utf
namespace Go.Proofs.YteoledjllpgcbaaGreatDoor.Utf
set_option maxRecDepth 100000
set_option maxHeartbeats 64000000
set_option linter.unusedVariables false
def lead (n : Nat) : Int := if n = 2 then 192 else if n = 3 then 224 else if n = 4 then 240 else 0
def begF : List UInt8 → Int → Int
 | [], c => c
 | x :: t, c => begF t (c * 64 + (x.toNat : Int) - 128)
def beg (l : List UInt8) (n : Nat) : Int :=
 match l with
 | [] => -1
 | b :: t => if t.length + 1 < n then -1 else begF (t.take (n - 1)) ((b.toNat : Int) - lead n)
theorem beg_cons (b : UInt8) (t : List UInt8) (n : Nat) : beg (b :: t) n = if t.length + 1 < n then -1 else begF (t.take (n - 1)) ((b.toNat : Int) - lead n) := rfl
theorem beg_enc (c : Int) (t : List UInt8) (h : right c = true) : beg (enc c ++ t) (enc c).length = c := by
 obtain ⟨h0, h1, h2⟩ := (right_iff c).1 h
 unfold enc
 by_cases k1 : c < 128
 ·
  rw [if_pos k1]
  show beg (u8 c :: t) 1 = c
  rw [beg_cons, if_neg (by omega), u8_val c h0 (by omega)]
  show c - lead 1 = c
  simp [lead]
 rw [if_neg k1]
 by_cases k2 : c < 2048
 ·
  rw [if_pos k2]
  show beg (u8 (192 + c / 64) :: u8 (128 + c % 64) :: t) 2 = c
  rw [beg_cons, if_neg (by simp), u8_val _ (by omega) (by omega)]
  show (192 + c / 64 - lead 2) * 64 + ((u8 (128 + c % 64)).toNat : Int) - 128 = c
  rw [u8_val _ (by omega) (by omega)]
  simp only [lead, if_true]
  omega
 rw [if_neg k2]
 by_cases k3 : c < 65536
 ·
  rw [if_pos k3]
  show beg (u8 (224 + c / 4096) :: u8 (128 + c / 64 % 64) :: u8 (128 + c % 64) :: t) 3 = c
  rw [beg_cons, if_neg (by simp), u8_val _ (by omega) (by omega)]
  show ((224 + c / 4096 - lead 3) * 64 + ((u8 (128 + c / 64 % 64)).toNat : Int) - 128) * 64 + ((u8 (128 + c % 64)).toNat : Int) - 128 = c
  rw [u8_val _ (by omega) (by omega), u8_val _ (by omega) (by omega), show lead 3 = 224 by decide]
  omega
 ·
  rw [if_neg k3]
  show beg (u8 (240 + c / 262144) :: u8 (128 + c / 4096 % 64) :: u8 (128 + c / 64 % 64) :: u8 (128 + c % 64) :: t) 4 = c
  rw [beg_cons, if_neg (by simp), u8_val _ (by omega) (by omega)]
  show (((240 + c / 262144 - lead 4) * 64 + ((u8 (128 + c / 4096 % 64)).toNat : Int) - 128) * 64 + ((u8 (128 + c / 64 % 64)).toNat : Int) - 128) * 64 + ((u8 (128 + c % 64)).toNat : Int) - 128 = c
  rw [u8_val _ (by omega) (by omega), u8_val _ (by omega) (by omega), u8_val _ (by omega) (by omega), show lead 4 = 240 by decide]
  omega
def hit (l : List UInt8) (k : Nat) : Prop := right (beg l k) = true ∧ enc (beg l k) = l.take k
theorem beg_short (l : List UInt8) (k : Nat) (h : l.length < k) : beg l k = -1 := by
 cases l with
 | nil => rfl
 | cons b t => rw [beg_cons, if_pos (by simpa using h)]
theorem right_long (l : List UInt8) (k : Nat) (h : right (beg l k) = true) : k ≤ l.length := by
 rcases Nat.lt_or_ge l.length k with h' | h'
 ·
  rw [beg_short l k h'] at h
  exact absurd h (by decide)
 · exact h'
theorem hit_first (l : List UInt8) (k : Nat) (h : hit l k) : first l = (beg l k, k) := by
 have hk := right_long l k h.1
 have h1 := first_enc (beg l k) (l.drop k) h.1
 rw [h.2, List.take_append_drop] at h1
 rw [h1, List.length_take]
 congr 1; omega
theorem first_hit (l : List UInt8) (hl : l ≠ []) (hg : right (first l).1 = true) (ht : l.take (first l).2 = enc (first l).1) : hit l (first l).2 := by
 have h1 := beg_enc (first l).1 (l.drop (first l).2) hg
 have hlen : (enc (first l).1).length = (first l).2 := by
  rw [← ht, List.length_take]
  have := first_le l hl
  omega
 rw [← ht, List.take_append_drop] at h1
 rw [ht, hlen] at h1
 exact ⟨by rw [h1]; exact hg, by rw [h1, ht]⟩
def Best (l : List UInt8) (k : Nat) (c : Int) (n : Nat) : Prop := (∃ j, j < k ∧ hit l j ∧ c = beg l j ∧ n = j) ∨ ((∀ j, j < k → 0 < j → ¬ hit l j) ∧ c = bad ∧ n = 1)
theorem best_start (l : List UInt8) : Best l 1 bad 1 := .inr ⟨fun j h1 h2 => by omega, rfl, rfl⟩
theorem best_hit {l : List UInt8} {k : Nat} {c : Int} {n : Nat} (h : Best l k c n) (hh : hit l k) : Best l (k + 1) (beg l k) k := .inl ⟨k, by omega, hh, rfl, rfl⟩
theorem best_miss {l : List UInt8} {k : Nat} {c : Int} {n : Nat} (h : Best l k c n) (hh : ¬ hit l k) : Best l (k + 1) c n := by
 rcases h with ⟨j, h1, h2, h3, h4⟩ | ⟨h1, h2, h3⟩
 · exact .inl ⟨j, by omega, h2, h3, h4⟩
 ·
  refine .inr ⟨fun j hj h0 => ?_, h2, h3⟩
  rcases Nat.lt_or_ge j k with h' | h'
  · exact h1 j h' h0
  ·
   obtain rfl : j = k := by omega
   exact hh
theorem best_end {l : List UInt8} (hl : l ≠ []) {c : Int} {n : Nat} (h : Best l 5 c n) : first l = (c, n) := by
 rcases h with ⟨j, h1, h2, h3, h4⟩ | ⟨h1, h2, h3⟩
 · rw [hit_first l j h2, h3, h4]
 ·
  rcases first_good l hl with hg | ⟨g1, g2, g3⟩
  · rw [hg, h2, h3]
  ·
   have hh := first_hit l hl g1 g3
   have h5 := first_pos l
   have h6 := size_range (first l).1
   have h7 := enc_length (first l).1
   exact absurd hh (h1 _ (by omega) h5)
theorem hit_iff {l : List UInt8} {k : Nat} {x : Int} (h : beg l k = x) (hr : right x = true) : hit l k ↔ enc x = l.take k := by
 unfold hit
 rw [h]
 exact ⟨fun h => h.2, fun h => ⟨hr, h⟩⟩
theorem hit_no {l : List UInt8} {k : Nat} {x : Int} (h : beg l k = x) (hr : right x = false) : ¬ hit l k := by
 unfold hit
 rw [h, hr]
 exact fun h => by cases h.1
theorem begF_step (T : List UInt8) (k : Nat) (hk : k < T.length) (c : Int) : begF (T.drop k) c = begF (T.drop (k + 1)) (c * 64 + (T[k].toNat : Int) - 128) := by
 rw [List.drop_eq_getElem_cons hk]
 rfl
end Go.Proofs.YteoledjllpgcbaaGreatDoor.Utf
