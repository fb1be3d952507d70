/- Numbers, texts and lists as bytes: plain functions and laws. No program, no statement of the seat. -/
import Derived.Test.YtoiilhbjlfdfpaaDoorRows
namespace Go.Proofs.YtoiilhbjlfdfpaaDoor.Code
set_option linter.unusedVariables false

/-- The bytes of a number. -/
def num (v : Nat) : List UInt8 := if v < 128 then [UInt8.ofNat v] else UInt8.ofNat (v % 128 + 128) :: num (v / 128)
termination_by v
decreasing_by omega
theorem num_lt {v : Nat} (h : v < 128) : num v = [UInt8.ofNat v] := by rw [num, if_pos h]
theorem num_ge {v : Nat} (h : 128 ≤ v) : num v = UInt8.ofNat (v % 128 + 128) :: num (v / 128) := by rw [num, if_neg (by omega)]
theorem num_pos (v : Nat) : 1 ≤ (num v).length := by
  by_cases h : v < 128
  · rw [num_lt h]; simp
  · rw [num_ge (by omega)]; simp
theorem num_len : ∀ (k v : Nat), v < 128 ^ (k + 1) → (num v).length ≤ k + 1
  | 0, v, h => by rw [num_lt (by simpa using h)]; simp
  | k + 1, v, h => by
    by_cases hv : v < 128
    · rw [num_lt hv]; simp
    · rw [num_ge (by omega)]
      have := num_len k (v / 128) (by rw [Nat.div_lt_iff_lt_mul (by omega)]; rw [Nat.pow_succ] at h; omega)
      simp only [List.length_cons]; omega
theorem num_len9 (v : Nat) (h : v ≤ 4611686018427387904) : (num v).length ≤ 9 := num_len 8 v (by omega)
theorem num_mono : ∀ (n v w : Nat), w ≤ n → v ≤ w → (num v).length ≤ (num w).length
  | 0, v, w, h, h2 => by obtain rfl : w = 0 := by omega
                         obtain rfl : v = 0 := by omega
                         exact Nat.le_refl _
  | n + 1, v, w, h, h2 => by
    by_cases hv : v < 128
    · rw [num_lt hv]; exact num_pos w
    · rw [num_ge (v := v) (by omega), num_ge (v := w) (by omega)]
      have := num_mono n (v / 128) (w / 128) (by omega) (Nat.div_le_div_right h2)
      simpa using this
/-- How many groups of seven bits. -/
def groups (v : Nat) : Nat := (num v).length
theorem groups_lt {v : Nat} (h : v < 128) : groups v = 1 := by unfold groups; rw [num_lt h]; rfl
theorem groups_ge {v : Nat} (h : 128 ≤ v) : groups v = groups (v / 128) + 1 := by unfold groups; rw [num_ge h]; rfl

def text (s : List UInt8) : List UInt8 := num s.length ++ s
def list (l : List (List UInt8)) : List UInt8 := num l.length ++ l.flatMap text

/-- What stands behind the first bytes: the sum so far, and how many were read; the last one. -/
def scan : List UInt8 → Nat → Nat → Except Nat (Nat × Nat × UInt8)
  | [], n, v => if n = 9 then .error 2 else .error 4
  | c :: t, n, v => if n = 9 then .error 2 else if c.toNat < 128 then .ok (v + c.toNat * 128 ^ n, n + 1, c) else scan t (n + 1) (v + c.toNat % 128 * 128 ^ n)
/-- A number at the beginning of bytes: it, and how many bytes it has; or the error. -/
def fin (x : Except Nat (Nat × Nat × UInt8)) : Except Nat (Nat × Nat) :=
  match x with
  | .error e => .error e
  | .ok (v, n, c) => if (1 < n ∧ c = 0) ∨ 4611686018427387904 < v then .error 2 else .ok (v, n)
def getNum (b : List UInt8) : Except Nat (Nat × Nat) := fin (scan b 0 0)
/-- A text. -/
def getText (most : Int) (b : List UInt8) : Except Nat (List UInt8 × Nat) :=
  match getNum b with
  | .error e => .error e
  | .ok (n, k) => if most < n then .error 2 else if b.length < k + n then .error 4 else .ok ((b.drop k).take n, k + n)
/-- So many texts, one behind the other. -/
def items (most : Int) : Nat → List UInt8 → Except Nat (List (List UInt8) × Nat)
  | 0, _ => .ok ([], 0)
  | n + 1, b =>
    match getText most b with
    | .error e => .error e
    | .ok (s, k) =>
      match items most n (b.drop k) with
      | .error e => .error e
      | .ok (ss, m) => .ok (s :: ss, k + m)
def getList (many most : Int) (b : List UInt8) : Except Nat (List (List UInt8) × Nat) :=
  match getNum b with
  | .error e => .error e
  | .ok (n, k) => if many < n then .error 2 else
    match items most n (b.drop k) with
    | .error e => .error e
    | .ok (ss, m) => .ok (ss, k + m)

theorem ofNat_toNat {v : Nat} (h : v < 256) : (UInt8.ofNat v).toNat = v := by
  rw [UInt8.toNat_ofNat']; omega
/-! ### What was written is read -/
theorem scan_num : ∀ (m v n acc : Nat) (rest : List UInt8), v ≤ m → n + (num v).length ≤ 9 →
    ∃ c, scan (num v ++ rest) n acc = .ok (acc + v * 128 ^ n, n + (num v).length, c) ∧ (c = 0 → v = 0)
  | m, v, n, acc, rest, hm, h => by
    have hp := num_pos v
    by_cases hv : v < 128
    · rw [num_lt hv]
      have e := ofNat_toNat (v := v) (by omega)
      refine ⟨UInt8.ofNat v, ?_, fun h0 => ?_⟩
      · rw [List.singleton_append, scan, if_neg (by omega), e, if_pos hv]
        simp
      · rw [h0] at e; simpa using e.symm
    · have e := ofNat_toNat (v := v % 128 + 128) (by omega)
      rw [num_ge (by omega)] at h ⊢
      simp only [List.length_cons] at h ⊢
      rw [List.cons_append, scan, if_neg (by omega), e, if_neg (by omega)]
      match m, hm with
      | 0, hm => omega
      | m + 1, hm =>
        obtain ⟨c, h1, h2⟩ := scan_num m (v / 128) (n + 1) (acc + (v % 128 + 128) % 128 * 128 ^ n) rest (by omega) (by omega)
        refine ⟨c, ?_, fun h0 => by have := h2 h0; omega⟩
        rw [h1]
        congr 2
        · rw [Nat.pow_succ, Nat.add_assoc]
          congr 1
          rw [show (v % 128 + 128) % 128 = v % 128 by omega]
          have : v = v % 128 + 128 * (v / 128) := by omega
          conv => rhs; rw [this, Nat.add_mul]
          rw [Nat.mul_comm 128 (v / 128), Nat.mul_assoc, Nat.mul_comm (128 ^ n) 128]
        · congr 1; omega
theorem getNum_num (v : Nat) (rest : List UInt8) (h : v ≤ 4611686018427387904) : getNum (num v ++ rest) = .ok (v, (num v).length) := by
  have hl := num_len9 v h
  obtain ⟨c, h1, h2⟩ := scan_num v v 0 0 rest (Nat.le_refl _) (by omega)
  unfold getNum fin
  rw [h1]
  simp only [Nat.zero_add, Nat.pow_zero, Nat.mul_one]
  rw [if_neg]
  rintro (⟨h3, h4⟩ | h3)
  · have := h2 h4
    subst this
    rw [num_lt (by omega)] at h3
    simp at h3
  · omega
theorem getText_text (most : Int) (s rest : List UInt8) (h : (s.length : Int) ≤ most) (h2 : s.length ≤ 4611686018427387904) : getText most (text s ++ rest) = .ok (s, (text s).length) := by
  unfold getText text
  rw [List.append_assoc, getNum_num _ _ h2]
  simp only
  rw [if_neg (by omega), if_neg (by simp only [List.length_append]; omega)]
  rw [List.drop_left, List.take_left]
  simp
theorem items_text (most : Int) : ∀ (l : List (List UInt8)) (rest : List UInt8), (∀ s ∈ l, (s.length : Int) ≤ most ∧ s.length ≤ 4611686018427387904) →
    items most l.length (l.flatMap text ++ rest) = .ok (l, (l.flatMap text).length)
  | [], rest, _ => rfl
  | s :: l, rest, h => by
    have hs := h s (by simp)
    rw [List.length_cons, items, List.flatMap_cons, List.append_assoc, getText_text most s _ hs.1 hs.2]
    simp only
    rw [List.drop_left, items_text most l rest (fun x hx => h x (by simp [hx]))]
    simp
theorem getList_list (many most : Int) (l : List (List UInt8)) (rest : List UInt8) (hm : (l.length : Int) ≤ many) (hl : l.length ≤ 4611686018427387904) (h : ∀ s ∈ l, (s.length : Int) ≤ most ∧ s.length ≤ 4611686018427387904) :
    getList many most (list l ++ rest) = .ok (l, (list l).length) := by
  unfold getList list
  rw [List.append_assoc, getNum_num _ _ hl]
  simp only
  rw [if_neg (by omega), List.drop_left, items_text most l rest h]
  simp
/-! ### What is read was written -/
theorem scan_ok : ∀ (b : List UInt8) (n acc v m : Nat) (c : UInt8), n ≤ 9 → scan b n acc = .ok (v, m, c) →
    ∃ x, v = acc + x * 128 ^ n ∧ n < m ∧ m ≤ 9 ∧ m - n ≤ b.length ∧ (c ≠ 0 ∨ m = n + 1 → num x = b.take (m - n)) ∧ (c ≠ 0 → 1 ≤ x)
  | [], n, acc, v, m, c, h9, h => by
    unfold scan at h
    split at h <;> cases h
  | d :: t, n, acc, v, m, c, hn9, h => by
    rw [scan] at h
    split at h
    · cases h
    · rename_i hn
      have hd := d.toNat_lt
      split at h
      · rename_i hlt
        injection h with h
        simp only [Prod.mk.injEq] at h
        obtain ⟨rfl, rfl, rfl⟩ := h
        refine ⟨d.toNat, rfl, by omega, by omega, by simp, fun _ => ?_, fun h0 => ?_⟩
        · rw [num_lt hlt, show n + 1 - n = 1 by omega]
          simp
        · rcases Nat.eq_zero_or_pos d.toNat with h1 | h1
          · exact absurd (UInt8.toNat_inj.mp (by rw [h1]; rfl)) h0
          · exact h1
      · rename_i hge
        obtain ⟨x, h1, h2, h3, h4, h5, h6⟩ := scan_ok t (n + 1) _ v m c (by omega) h
        have hmn : m - n = (m - (n + 1)) + 1 := by omega
        refine ⟨d.toNat % 128 + 128 * x, ?_, by omega, h3, by rw [List.length_cons]; omega, fun h7 => ?_, fun h7 => by have := h6 h7; omega⟩
        · rw [h1, Nat.pow_succ, Nat.add_mul, Nat.add_assoc]
          congr 2
          rw [Nat.mul_comm 128 x, Nat.mul_assoc, Nat.mul_comm 128]
        · have h8 : c ≠ 0 := by
            rcases h7 with h7 | h7
            · exact h7
            · omega
          have h9 := h6 h8
          rw [num_ge (by omega), hmn, List.take_succ_cons, ← h5 (.inl h8)]
          congr 1
          · rw [show (d.toNat % 128 + 128 * x) % 128 + 128 = d.toNat by omega]
            simp
          · congr 1; omega
theorem scan_cut : ∀ (b : List UInt8) (n acc v m : Nat) (c : UInt8), n ≤ 9 → scan b n acc = .ok (v, m, c) → ∀ k, n + k < m → scan (b.take k) n acc = .error 4
  | [], n, acc, v, m, c, h9, h => by
    unfold scan at h
    split at h <;> cases h
  | d :: t, n, acc, v, m, c, hn9, h => by
    intro k hk
    have hm := scan_ok (d :: t) n acc v m c hn9 h
    obtain ⟨_, _, _, hm9, _⟩ := hm
    rw [scan] at h
    split at h
    · cases h
    · rename_i hn
      match k, hk with
      | 0, hk => rw [List.take_zero, scan, if_neg hn]
      | k + 1, hk =>
        rw [List.take_succ_cons, scan, if_neg hn]
        split at h
        · injection h with h
          simp only [Prod.mk.injEq] at h
          omega
        · rename_i hge
          rw [if_neg hge]
          exact scan_cut t (n + 1) _ v m c (by omega) h k (by omega)
theorem getNum_ok {b : List UInt8} {v k : Nat} (h : getNum b = .ok (v, k)) : b.take k = num v ∧ v ≤ 4611686018427387904 ∧ 1 ≤ k ∧ k ≤ b.length ∧ ∀ j, j < k → getNum (b.take j) = .error 4 := by
  unfold getNum fin at h
  generalize hs : scan b 0 0 = r at h
  rcases r with e | ⟨v', m, c⟩
  · cases h
  · simp only at h
    split at h
    · cases h
    · rename_i hc
      injection h with h
      simp only [Prod.mk.injEq] at h
      obtain ⟨rfl, rfl⟩ := h
      obtain ⟨x, h1, h2, h3, h4, h5, h6⟩ := scan_ok b 0 0 v' m c (by omega) hs
      simp only [Nat.zero_add, Nat.pow_zero, Nat.mul_one, Nat.sub_zero] at h1 h4 h5
      subst h1
      have h7 : c ≠ 0 ∨ m = 1 := by
        by_cases hz : c = 0
        · right
          by_cases h1m : 1 < m
          · exact absurd (.inl ⟨h1m, hz⟩) hc
          · omega
        · exact .inl hz
      refine ⟨(h5 h7).symm, by omega, h2, h4, fun j hj => ?_⟩
      unfold getNum fin
      rw [scan_cut b 0 0 _ m c (by omega) hs j (by omega)]
theorem getText_ok {most : Int} {b s : List UInt8} {k : Nat} (h : getText most b = .ok (s, k)) : b.take k = text s ∧ 1 ≤ k ∧ k ≤ b.length ∧ (s.length : Int) ≤ most ∧ s.length ≤ 4611686018427387904 ∧ ∀ j, j < k → getText most (b.take j) = .error 4 := by
  unfold getText at h
  generalize hs : getNum b = r at h
  rcases r with e | ⟨n, m⟩
  · cases h
  · simp only at h
    obtain ⟨h1, h2, h3, h4, h5⟩ := getNum_ok hs
    split at h
    · cases h
    · rename_i hmost
      split at h
      · cases h
      · rename_i hlen
        injection h with h
        simp only [Prod.mk.injEq] at h
        obtain ⟨rfl, rfl⟩ := h
        have hl : ((b.drop m).take n).length = n := by rw [List.length_take, List.length_drop]; omega
        refine ⟨?_, by omega, by omega, by rw [hl]; omega, by rw [hl]; exact h2, fun j hj => ?_⟩
        · unfold text
          rw [hl, ← h1, List.take_add]
        · unfold getText
          by_cases hjm : j < m
          · rw [h5 j hjm]
          · have e : b.take j = num n ++ (b.drop m).take (j - m) := by
              rw [← h1]
              rw [show j = m + (j - m) by omega, List.take_add]
              congr 2; omega
            rw [e, getNum_num _ _ h2]
            have hml : (num n).length = m := by rw [← h1, List.length_take]; omega
            simp only
            rw [if_neg hmost, if_pos (by rw [← e, List.length_take, hml]; omega)]
theorem items_ok (most : Int) : ∀ (n : Nat) (b : List UInt8) (l : List (List UInt8)) (k : Nat), items most n b = .ok (l, k) →
    b.take k = l.flatMap text ∧ k ≤ b.length ∧ l.length = n ∧ (∀ s ∈ l, (s.length : Int) ≤ most ∧ s.length ≤ 4611686018427387904) ∧ ∀ j, j < k → items most n (b.take j) = .error 4
  | 0, b, l, k, h => by
    unfold items at h
    injection h with h
    simp only [Prod.mk.injEq] at h
    obtain ⟨rfl, rfl⟩ := h
    exact ⟨by simp, Nat.zero_le _, rfl, by simp, fun j hj => by omega⟩
  | n + 1, b, l, k, h => by
    rw [items] at h
    generalize hs : getText most b = r at h
    rcases r with e | ⟨s, m⟩
    · cases h
    · simp only at h
      obtain ⟨h1, h2, h3, h4, h5, h6⟩ := getText_ok hs
      generalize ht : items most n (b.drop m) = q at h
      rcases q with e | ⟨ss, p⟩
      · cases h
      · injection h with h
        simp only [Prod.mk.injEq] at h
        obtain ⟨rfl, rfl⟩ := h
        obtain ⟨g1, g2, g3, g4, g5⟩ := items_ok most n _ ss p ht
        rw [List.length_drop] at g2
        refine ⟨by rw [List.take_add, h1, g1, List.flatMap_cons], by omega, by simp [g3], ?_, fun j hj => ?_⟩
        · intro x hx
          rcases List.mem_cons.1 hx with rfl | hx
          · exact ⟨h4, h5⟩
          · exact g4 x hx
        · rw [items]
          by_cases hjm : j < m
          · rw [h6 j hjm]
          · have e : b.take j = text s ++ (b.drop m).take (j - m) := by
              rw [← h1]
              rw [show j = m + (j - m) by omega, List.take_add]
              congr 2; omega
            rw [e, getText_text most s _ h4 h5]
            have hml : (text s).length = m := by rw [← h1, List.length_take]; omega
            simp only
            rw [← e, hml, List.drop_take, g5 (j - m) (by omega)]
theorem getList_ok {many most : Int} {b : List UInt8} {l : List (List UInt8)} {k : Nat} (h : getList many most b = .ok (l, k)) :
    b.take k = list l ∧ 1 ≤ k ∧ k ≤ b.length ∧ (l.length : Int) ≤ many ∧ l.length ≤ 4611686018427387904 ∧ (∀ s ∈ l, (s.length : Int) ≤ most ∧ s.length ≤ 4611686018427387904) ∧ ∀ j, j < k → getList many most (b.take j) = .error 4 := by
  unfold getList at h
  generalize hs : getNum b = r at h
  rcases r with e | ⟨n, m⟩
  · cases h
  · simp only at h
    obtain ⟨h1, h2, h3, h4, h5⟩ := getNum_ok hs
    split at h
    · cases h
    · rename_i hmany
      generalize ht : items most n (b.drop m) = q at h
      rcases q with e | ⟨ss, p⟩
      · cases h
      · injection h with h
        simp only [Prod.mk.injEq] at h
        obtain ⟨rfl, rfl⟩ := h
        obtain ⟨g1, g2, g3, g4, g5⟩ := items_ok most n _ ss p ht
        rw [List.length_drop] at g2
        refine ⟨by rw [List.take_add, h1, g1, list, g3], by omega, by omega, by rw [g3]; omega, by rw [g3]; exact h2, g4, fun j hj => ?_⟩
        unfold getList
        by_cases hjm : j < m
        · rw [h5 j hjm]
        · have e : b.take j = num n ++ (b.drop m).take (j - m) := by
            rw [← h1]
            rw [show j = m + (j - m) by omega, List.take_add]
            congr 2; omega
          rw [e, getNum_num _ _ h2]
          have hml : (num n).length = m := by rw [← h1, List.length_take]; omega
          simp only
          rw [if_neg hmany, ← e, hml, List.drop_take, g5 (j - m) (by omega)]
end Go.Proofs.YtoiilhbjlfdfpaaDoor.Code
