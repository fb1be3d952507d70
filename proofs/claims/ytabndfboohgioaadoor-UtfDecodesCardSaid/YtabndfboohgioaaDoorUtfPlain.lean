/- The characters of bytes, letters and small letters, in plain Lean: no program. -/
namespace Go.Proofs.YtabndfboohgioaaDoor.Utf
set_option linter.unusedVariables false

def u8 (n : Int) : UInt8 := UInt8.ofNat n.toNat
def right (c : Int) : Bool := decide (0 ≤ c) && decide (c ≤ 1114111) && (decide (c < 55296) || decide (57343 < c))
def size (c : Int) : Int := if c < 128 then 1 else if c < 2048 then 2 else if c < 65536 then 3 else 4
def enc (c : Int) : List UInt8 :=
  if c < 128 then [u8 c]
  else if c < 2048 then [u8 (192 + c / 64), u8 (128 + c % 64)]
  else if c < 65536 then [u8 (224 + c / 4096), u8 (128 + c / 64 % 64), u8 (128 + c % 64)]
  else [u8 (240 + c / 262144), u8 (128 + c / 4096 % 64), u8 (128 + c / 64 % 64), u8 (128 + c % 64)]
def bad : Int := 65533
/-- The further bytes of a character, the first of them behind c. -/
def tails : List UInt8 → Int → Option Int
  | [], c => some c
  | x :: t, c => if (x.toNat : Int) / 64 = 2 then tails t (c * 64 + (x.toNat : Int) % 64) else none
def whole (n : Nat) : Option Int → Int × Nat
  | some c => if right c = true ∧ size c = (n : Int) then (c, n) else (bad, 1)
  | none => (bad, 1)
def try_ (n : Nat) (c : Int) (t : List UInt8) : Int × Nat := if t.length + 1 < n then (bad, 1) else whole n (tails (t.take (n - 1)) c)
def first : List UInt8 → Int × Nat
  | [] => (bad, 1)
  | b :: t =>
    let x : Int := b.toNat
    if x < 128 then (x, 1) else if x / 32 = 6 then try_ 2 (x % 32) t else if x / 16 = 14 then try_ 3 (x % 16) t else if x / 8 = 30 then try_ 4 (x % 8) t else (bad, 1)
def decN : Nat → List UInt8 → List Int
  | 0, _ => []
  | _ + 1, [] => []
  | k + 1, b :: t => (first (b :: t)).1 :: decN k ((b :: t).drop (first (b :: t)).2)
def dec (l : List UInt8) : List Int := decN l.length l

def tabL : List (Int × Int) := [(65, 90), (97, 122), (192, 214), (216, 246), (248, 255), (913, 929), (931, 937), (945, 969), (1024, 1119)]
def letter (c : Int) : Bool := tabL.any fun p => decide (p.1 ≤ c) && decide (c ≤ p.2)
def tabS : List (Int × Int × Int) := [(65, 90, 32), (192, 214, 32), (216, 222, 32), (913, 929, 32), (931, 937, 32), (1024, 1039, 80), (1040, 1071, 32)]
def smallIn : List (Int × Int × Int) → Int → Int
  | [], c => c
  | p :: t, c => if p.1 ≤ c ∧ c ≤ p.2.1 then c + p.2.2 else smallIn t c
def small (c : Int) : Int := smallIn tabS c
def digit (c : Int) : Bool := decide (48 ≤ c) && decide (c ≤ 57)

theorem size_range (c : Int) : 1 ≤ size c ∧ size c ≤ 4 := by unfold size; split <;> (try split) <;> (try split) <;> omega
theorem enc_length (c : Int) : ((enc c).length : Int) = size c := by unfold enc size; split <;> (try split) <;> (try split) <;> rfl

theorem whole_pos (n : Nat) (hn : 0 < n) (o : Option Int) : 0 < (whole n o).2 ∧ (whole n o).2 ≤ max n 1 := by
  cases o with
  | none => show 0 < 1 ∧ 1 ≤ max n 1; omega
  | some c =>
    simp only [whole]
    split
    · show 0 < n ∧ n ≤ max n 1; omega
    · show 0 < 1 ∧ 1 ≤ max n 1; omega
theorem try_pos (n : Nat) (hn : 0 < n) (c : Int) (t : List UInt8) : 0 < (try_ n c t).2 ∧ (try_ n c t).2 ≤ t.length + 1 := by
  unfold try_
  by_cases h : t.length + 1 < n
  · rw [if_pos h]; exact ⟨Nat.one_pos, Nat.le_add_left 1 _⟩
  · rw [if_neg h]
    have := whole_pos n hn (tails (t.take (n - 1)) c)
    exact ⟨this.1, by omega⟩
theorem first_cons (b : UInt8) (t : List UInt8) : first (b :: t) = if (b.toNat : Int) < 128 then ((b.toNat : Int), 1) else if (b.toNat : Int) / 32 = 6 then try_ 2 ((b.toNat : Int) % 32) t
    else if (b.toNat : Int) / 16 = 14 then try_ 3 ((b.toNat : Int) % 16) t else if (b.toNat : Int) / 8 = 30 then try_ 4 ((b.toNat : Int) % 8) t else (bad, 1) := rfl
theorem first_both (b : UInt8) (t : List UInt8) : 0 < (first (b :: t)).2 ∧ (first (b :: t)).2 ≤ t.length + 1 := by
  rw [first_cons]
  by_cases h1 : (b.toNat : Int) < 128
  · rw [if_pos h1]; exact ⟨Nat.one_pos, Nat.le_add_left 1 _⟩
  rw [if_neg h1]
  by_cases h2 : (b.toNat : Int) / 32 = 6
  · rw [if_pos h2]; exact try_pos 2 (by omega) _ _
  rw [if_neg h2]
  by_cases h3 : (b.toNat : Int) / 16 = 14
  · rw [if_pos h3]; exact try_pos 3 (by omega) _ _
  rw [if_neg h3]
  by_cases h4 : (b.toNat : Int) / 8 = 30
  · rw [if_pos h4]; exact try_pos 4 (by omega) _ _
  · rw [if_neg h4]; exact ⟨Nat.one_pos, Nat.le_add_left 1 _⟩
theorem first_pos (l : List UInt8) : 0 < (first l).2 := by
  cases l with
  | nil => exact Nat.one_pos
  | cons b t => exact (first_both b t).1
theorem first_le (l : List UInt8) (h : l ≠ []) : (first l).2 ≤ l.length := by
  cases l with
  | nil => exact absurd rfl h
  | cons b t => exact (first_both b t).2
theorem decN_nil (k : Nat) : decN k [] = [] := by cases k <;> rfl
theorem decN_more (l : List UInt8) : ∀ k, l.length ≤ k → decN k l = dec l := by
  have key : ∀ (n : Nat) (l : List UInt8), l.length ≤ n → ∀ k j, l.length ≤ k → l.length ≤ j → decN k l = decN j l := by
    intro n
    induction n with
    | zero =>
      intro l hl k j _ _
      have : l = [] := List.eq_nil_of_length_eq_zero (by omega)
      subst this
      rw [decN_nil, decN_nil]
    | succ n ih =>
      intro l hl k j hk hj
      cases l with
      | nil => rw [decN_nil, decN_nil]
      | cons b t =>
        simp only [List.length_cons] at hk hj hl
        obtain ⟨k, rfl⟩ : ∃ k', k = k' + 1 := ⟨k - 1, by omega⟩
        obtain ⟨j, rfl⟩ : ∃ j', j = j' + 1 := ⟨j - 1, by omega⟩
        simp only [decN]
        have hp := first_pos (b :: t)
        have hd : ((b :: t).drop (first (b :: t)).2).length ≤ t.length := by simp only [List.length_drop, List.length_cons]; omega
        congr 1
        exact ih _ (by omega) _ _ (by omega) (by omega)
  intro k hk
  exact key l.length l (Nat.le_refl _) k l.length hk (Nat.le_refl _)
theorem dec_nil : dec [] = [] := rfl
theorem dec_step (l : List UInt8) (h : l ≠ []) : dec l = (first l).1 :: dec (l.drop (first l).2) := by
  cases l with
  | nil => exact absurd rfl h
  | cons b t =>
    have hp := first_pos (b :: t)
    show decN (t.length + 1) (b :: t) = _
    simp only [decN]
    rw [decN_more _ _ (by simp only [List.length_drop, List.length_cons]; omega)]
theorem dec_length (l : List UInt8) : (dec l).length ≤ l.length := by
  have key : ∀ (n : Nat) (l : List UInt8), l.length ≤ n → (dec l).length ≤ l.length := by
    intro n
    induction n with
    | zero =>
      intro l hl
      have : l = [] := List.eq_nil_of_length_eq_zero (by omega)
      subst this; exact Nat.le_refl _
    | succ n ih =>
      intro l hl
      by_cases h : l = []
      · subst h; exact Nat.le_refl _
      · rw [dec_step l h]
        have hp := first_pos l
        have hl0 := List.length_pos_iff.2 h
        have := ih (l.drop (first l).2) (by rw [List.length_drop]; omega)
        rw [List.length_drop] at this
        simp only [List.length_cons]; omega
  exact key l.length l (Nat.le_refl _)
end Go.Proofs.YtabndfboohgioaaDoor.Utf
