/- Postings, as bytes and as sets: plain functions and laws. No program, no statement of the seat. -/
import Derived.Test.YtkkliblndglniaaDoorCodePlain
namespace Go.Proofs.YtkkliblndglniaaDoor.Post
set_option linter.unusedVariables false
open Go.Proofs.YtkkliblndglniaaDoor.Code (num getNum getNum_num getNum_ok num_len9 num_pos)

/-- Rising numbers behind p, below 1000. -/
def rightFrom (p : Int) : List Int → Bool
  | [] => true
  | x :: t => decide (p < x) && decide (x < 1000) && rightFrom x t
def right (l : List Int) : Bool := rightFrom (-1) l
theorem rightFrom_iff : ∀ (l : List Int) (p : Int), rightFrom p l = true ↔ (∀ x ∈ l, p < x ∧ x < 1000) ∧ l.Pairwise (· < ·)
  | [], p => by simp [rightFrom]
  | x :: t, p => by
    rw [rightFrom, Bool.and_eq_true, Bool.and_eq_true, decide_eq_true_eq, decide_eq_true_eq, rightFrom_iff t x, List.pairwise_cons]
    constructor
    · rintro ⟨⟨h1, h2⟩, h3, h4⟩
      refine ⟨fun y hy => ?_, fun y hy => (h3 y hy).1, h4⟩
      rcases List.mem_cons.1 hy with rfl | hy
      · exact ⟨h1, h2⟩
      · have := h3 y hy; omega
    · rintro ⟨h1, h2, h3⟩
      have hx := h1 x (by simp)
      exact ⟨hx, fun y hy => ⟨h2 y hy, (h1 y (by simp [hy])).2⟩, h3⟩
theorem right_iff (l : List Int) : right l = true ↔ (∀ x ∈ l, 0 ≤ x ∧ x < 1000) ∧ l.Pairwise (· < ·) := by
  unfold right
  rw [rightFrom_iff]
  constructor
  · rintro ⟨h1, h2⟩; exact ⟨fun x hx => by have := h1 x hx; omega, h2⟩
  · rintro ⟨h1, h2⟩; exact ⟨fun x hx => by have := h1 x hx; omega, h2⟩
theorem rightFrom_len : ∀ (l : List Int) (p : Int), rightFrom p l = true → -1 ≤ p → p ≤ 999 → l.length ≤ (999 - p).toNat
  | [], p, _, _, _ => by simp
  | x :: t, p, h, h0, h1 => by
    rw [rightFrom, Bool.and_eq_true, Bool.and_eq_true, decide_eq_true_eq, decide_eq_true_eq] at h
    have := rightFrom_len t x h.2 (by omega) (by omega)
    rw [List.length_cons]; omega
theorem right_len {l : List Int} (h : right l = true) : l.length ≤ 1000 := by
  have := rightFrom_len l (-1) h (by omega) (by omega)
  omega
def gapsFrom (p : Int) : List Int → List UInt8
  | [] => []
  | x :: t => num (x - p - 1).toNat ++ gapsFrom x t
def write (l : List Int) : List UInt8 := num l.length ++ gapsFrom (-1) l
def readItems : Nat → Int → List UInt8 → Except Nat (List Int × Nat)
  | 0, _, _ => .ok ([], 0)
  | n + 1, p, b =>
    match getNum b with
    | .error e => .error e
    | .ok (g, k) => if 998 - p < (g : Int) then .error 2 else
      match readItems n (p + g + 1) (b.drop k) with
      | .error e => .error e
      | .ok (l, m) => .ok ((p + g + 1) :: l, k + m)
def parse (b : List UInt8) : Except Nat (List Int × Nat) :=
  match getNum b with
  | .error e => .error e
  | .ok (many, k) => if 1000 < many then .error 2 else
    match readItems many (-1) (b.drop k) with
    | .error e => .error e
    | .ok (l, m) => .ok (l, k + m)
def read (b : List UInt8) : Except Nat (List Int) :=
  match parse b with
  | .error e => .error e
  | .ok (l, n) => if n < b.length then .error 2 else .ok l
theorem items_gaps : ∀ (l : List Int) (p : Int) (rest : List UInt8), rightFrom p l = true → -1 ≤ p → readItems l.length p (gapsFrom p l ++ rest) = .ok (l, (gapsFrom p l).length)
  | [], p, rest, _, _ => rfl
  | x :: t, p, rest, h, hp => by
    rw [rightFrom, Bool.and_eq_true, Bool.and_eq_true, decide_eq_true_eq, decide_eq_true_eq] at h
    obtain ⟨⟨h1, h2⟩, h3⟩ := h
    rw [List.length_cons, readItems, gapsFrom, List.append_assoc, getNum_num _ _ (by omega)]
    simp only
    have e : p + ((x - p - 1).toNat : Int) + 1 = x := by omega
    rw [if_neg (by omega), List.drop_left, e, items_gaps t x rest h3 (by omega)]
    simp
theorem parse_write {l : List Int} (h : right l = true) (rest : List UInt8) : parse (write l ++ rest) = .ok (l, (write l).length) := by
  have hl := right_len h
  unfold parse write
  rw [List.append_assoc, getNum_num _ _ (by omega)]
  simp only
  rw [if_neg (by omega), List.drop_left, items_gaps l (-1) rest h (by omega)]
  simp
theorem read_write {l : List Int} (h : right l = true) : read (write l) = .ok l := by
  have := parse_write h []
  rw [List.append_nil] at this
  unfold read
  rw [this]
  simp
theorem items_ok : ∀ (n : Nat) (p : Int) (b : List UInt8) (l : List Int) (m : Nat), -1 ≤ p → readItems n p b = .ok (l, m) → rightFrom p l = true ∧ b.take m = gapsFrom p l ∧ m ≤ b.length ∧ l.length = n
  | 0, p, b, l, m, _, h => by
    unfold readItems at h
    injection h with h
    simp only [Prod.mk.injEq] at h
    obtain ⟨rfl, rfl⟩ := h
    exact ⟨rfl, by simp [gapsFrom], Nat.zero_le _, rfl⟩
  | n + 1, p, b, l, m, hp, h => by
    rw [readItems] at h
    generalize hs : getNum b = r at h
    rcases r with e | ⟨g, k⟩
    · cases h
    · simp only at h
      obtain ⟨h1, h2, h3, h4, _⟩ := getNum_ok hs
      split at h
      · cases h
      · rename_i hg
        generalize ht : readItems n (p + g + 1) (b.drop k) = q at h
        rcases q with e | ⟨t, j⟩
        · cases h
        · injection h with h
          simp only [Prod.mk.injEq] at h
          obtain ⟨rfl, rfl⟩ := h
          obtain ⟨g1, g2, g3, g4⟩ := items_ok n _ _ t j (by omega) ht
          rw [List.length_drop] at g3
          refine ⟨?_, ?_, by omega, by rw [List.length_cons, g4]⟩
          · rw [rightFrom, g1, decide_eq_true (by omega : p < p + (g : Int) + 1), decide_eq_true (by omega : p + (g : Int) + 1 < 1000)]; rfl
          · rw [List.take_add, h1, g2, gapsFrom, show (p + (g : Int) + 1 - p - 1).toNat = g by omega]
theorem parse_ok {b : List UInt8} {l : List Int} {n : Nat} (h : parse b = .ok (l, n)) : right l = true ∧ b.take n = write l ∧ n ≤ b.length := by
  unfold parse at h
  generalize hs : getNum b = r at h
  rcases r with e | ⟨g, k⟩
  · cases h
  · simp only at h
    obtain ⟨h1, h2, h3, h4, _⟩ := getNum_ok hs
    split at h
    · cases h
    · generalize ht : readItems g (-1) (b.drop k) = q at h
      rcases q with e | ⟨t, j⟩
      · cases h
      · injection h with h
        simp only [Prod.mk.injEq] at h
        obtain ⟨rfl, rfl⟩ := h
        obtain ⟨g1, g2, g3, g4⟩ := items_ok g _ _ t j (by omega) ht
        rw [List.length_drop] at g3
        exact ⟨g1, by rw [List.take_add, h1, g2, write, g4], by omega⟩
theorem read_ok {b : List UInt8} {l : List Int} (h : read b = .ok l) : right l = true ∧ write l = b := by
  unfold read at h
  generalize hs : parse b = r at h
  rcases r with e | ⟨t, n⟩
  · cases h
  · simp only at h
    split at h
    · cases h
    · injection h with h
      subst h
      obtain ⟨h1, h2, h3⟩ := parse_ok hs
      exact ⟨h1, by rw [← h2, List.take_of_length_le (by omega)]⟩
theorem write_pos (l : List Int) : 1 ≤ (write l).length := by
  unfold write; rw [List.length_append]; have := num_pos l.length; omega
theorem gaps_len : ∀ (l : List Int) (p : Int), rightFrom p l = true → -1 ≤ p → (gapsFrom p l).length ≤ 9 * l.length
  | [], p, _, _ => by simp [gapsFrom]
  | x :: t, p, h, hp => by
    rw [rightFrom, Bool.and_eq_true, Bool.and_eq_true, decide_eq_true_eq, decide_eq_true_eq] at h
    have h1 := gaps_len t x h.2 (by omega)
    have h2 := num_len9 (x - p - 1).toNat (by omega)
    rw [gapsFrom, List.length_append, List.length_cons]; omega
theorem write_len {l : List Int} (h : right l = true) : (write l).length ≤ 9009 := by
  have h1 := gaps_len l (-1) h (by omega)
  have h2 := right_len h
  have h3 := num_len9 l.length (by omega)
  unfold write; rw [List.length_append]; omega
/-- One's bytes at the beginning of the other's: the postings are alike. -/
theorem apart {a b : List Int} (ha : right a = true) (hb : right b = true) : ((write a).length ≤ (write b).length ∧ write a = (write b).take (write a).length) ↔ a = b := by
  constructor
  · rintro ⟨h1, h2⟩
    have h3 := parse_write ha ((write b).drop (write a).length)
    have h4 := parse_write hb []
    have e : write a ++ (write b).drop (write a).length = write b := by
      conv => lhs; arg 1; rw [h2]
      exact List.take_append_drop _ _
    rw [e] at h3
    rw [List.append_nil, h3] at h4
    injection h4 with h4
    simp only [Prod.mk.injEq] at h4
    exact h4.1
  · rintro rfl
    exact ⟨Nat.le_refl _, by rw [List.take_length]⟩
/-! ### Sets -/
def ifs (c : Bool) (x : Int) (l : List Int) : List Int := if c then x :: l else l
def pickM (keep : Int → Bool → Bool → Bool) (a b : List Int) : List Int :=
  match a, b with
  | [], [] => []
  | x :: s, [] => ifs (keep x true false) x (pickM keep s [])
  | [], y :: t => ifs (keep y false true) y (pickM keep [] t)
  | x :: s, y :: t =>
    if x < y then ifs (keep x true false) x (pickM keep s (y :: t))
    else if y < x then ifs (keep y false true) y (pickM keep (x :: s) t)
    else ifs (keep x true true) x (pickM keep s t)
termination_by a.length + b.length
decreasing_by all_goals simp <;> omega
theorem mem_ifs {c : Bool} {x n : Int} {l : List Int} : n ∈ ifs c x l ↔ (n = x ∧ c = true) ∨ n ∈ l := by
  unfold ifs
  cases c <;> simp
theorem pw_ifs {c : Bool} {x : Int} {l : List Int} (h : l.Pairwise (· < ·)) (hx : ∀ y ∈ l, x < y) : (ifs c x l).Pairwise (· < ·) := by
  unfold ifs
  cases c
  · exact h
  · exact List.pairwise_cons.2 ⟨hx, h⟩
theorem pick_spec (keep : Int → Bool → Bool → Bool) : ∀ (k : Nat) (a b : List Int), a.length + b.length ≤ k → a.Pairwise (· < ·) → b.Pairwise (· < ·) →
    (∀ n, n ∈ pickM keep a b ↔ (n ∈ a ∨ n ∈ b) ∧ keep n (decide (n ∈ a)) (decide (n ∈ b)) = true) ∧ (pickM keep a b).Pairwise (· < ·)
  | _, [], [], _, _, _ => by rw [pickM]; simp
  | 0, x :: s, [], h, _, _ => by simp at h
  | k + 1, x :: s, [], h, ha, hb => by
    obtain ⟨h1, h2⟩ := pick_spec keep k s [] (by simp at h ⊢; omega) (List.pairwise_cons.1 ha).2 hb
    have hlt := (List.pairwise_cons.1 ha).1
    rw [pickM]
    refine ⟨fun n => ?_, pw_ifs h2 fun y hy => hlt y (by have := ((h1 y).1 hy).1; simpa using this)⟩
    rw [mem_ifs, h1]
    by_cases hn : n = x
    · subst hn
      have : ¬ n ∈ s := fun hm => by have := hlt n hm; omega
      simp [this]
    · simp [hn]
  | 0, [], y :: t, h, _, _ => by simp at h
  | k + 1, [], y :: t, h, ha, hb => by
    obtain ⟨h1, h2⟩ := pick_spec keep k [] t (by simp at h ⊢; omega) ha (List.pairwise_cons.1 hb).2
    have hlt := (List.pairwise_cons.1 hb).1
    rw [pickM]
    refine ⟨fun n => ?_, pw_ifs h2 fun z hz => hlt z (by have := ((h1 z).1 hz).1; simpa using this)⟩
    rw [mem_ifs, h1]
    by_cases hn : n = y
    · subst hn
      have : ¬ n ∈ t := fun hm => by have := hlt n hm; omega
      simp [this]
    · simp [hn]
  | 0, x :: s, y :: t, h, _, _ => by simp at h
  | k + 1, x :: s, y :: t, h, ha, hb => by
    have hlx := (List.pairwise_cons.1 ha).1
    have hly := (List.pairwise_cons.1 hb).1
    rw [pickM]
    by_cases hxy : x < y
    · rw [if_pos hxy]
      obtain ⟨h1, h2⟩ := pick_spec keep k s (y :: t) (by simp at h ⊢; omega) (List.pairwise_cons.1 ha).2 hb
      have hall : ∀ z ∈ y :: t, x < z := fun z hz => by
        rcases List.mem_cons.1 hz with rfl | hz
        · exact hxy
        · have := hly z hz; omega
      refine ⟨fun n => ?_, pw_ifs h2 fun z hz => ?_⟩
      · rw [mem_ifs, h1]
        by_cases hn : n = x
        · subst hn
          have n1 : ¬ n ∈ s := fun hm => by have := hlx n hm; omega
          have n2 : ¬ n ∈ y :: t := fun hm => by have := hall n hm; omega
          simp only [n1, n2, or_self, false_and, or_false, List.mem_cons_self, true_and, decide_true, decide_false]
        · have : (n ∈ x :: s) ↔ n ∈ s := by simp [hn]
          simp only [hn, false_and, false_or, this]
      · rcases ((h1 z).1 hz).1 with h3 | h3
        · exact hlx z h3
        · exact hall z h3
    · rw [if_neg hxy]
      by_cases hyx : y < x
      · rw [if_pos hyx]
        obtain ⟨h1, h2⟩ := pick_spec keep k (x :: s) t (by simp at h ⊢; omega) ha (List.pairwise_cons.1 hb).2
        have hall : ∀ z ∈ x :: s, y < z := fun z hz => by
          rcases List.mem_cons.1 hz with rfl | hz
          · exact hyx
          · have := hlx z hz; omega
        refine ⟨fun n => ?_, pw_ifs h2 fun z hz => ?_⟩
        · rw [mem_ifs, h1]
          by_cases hn : n = y
          · subst hn
            have n1 : ¬ n ∈ t := fun hm => by have := hly n hm; omega
            have n2 : ¬ n ∈ x :: s := fun hm => by have := hall n hm; omega
            simp only [n1, n2, or_self, false_and, or_false, List.mem_cons_self, true_and, or_true, decide_true, decide_false]
          · have : (n ∈ y :: t) ↔ n ∈ t := by simp [hn]
            simp only [hn, false_and, false_or, this]
        · rcases ((h1 z).1 hz).1 with h3 | h3
          · exact hall z h3
          · exact hly z h3
      · rw [if_neg hyx]
        obtain rfl : x = y := by omega
        obtain ⟨h1, h2⟩ := pick_spec keep k s t (by simp at h ⊢; omega) (List.pairwise_cons.1 ha).2 (List.pairwise_cons.1 hb).2
        refine ⟨fun n => ?_, pw_ifs h2 fun z hz => ?_⟩
        · rw [mem_ifs, h1]
          by_cases hn : n = x
          · subst hn
            have n1 : ¬ n ∈ s := fun hm => by have := hlx n hm; omega
            have n2 : ¬ n ∈ t := fun hm => by have := hly n hm; omega
            simp only [n1, n2, or_self, false_and, or_false, List.mem_cons_self, true_and, decide_true]
          · have e1 : (n ∈ x :: s) ↔ n ∈ s := by simp [hn]
            have e2 : (n ∈ x :: t) ↔ n ∈ t := by simp [hn]
            simp only [hn, false_and, false_or, e1, e2]
        · rcases ((h1 z).1 hz).1 with h3 | h3
          · exact hlx z h3
          · exact hly z h3
theorem sorted_ext : ∀ (a b : List Int), a.Pairwise (· < ·) → b.Pairwise (· < ·) → (∀ n, n ∈ a ↔ n ∈ b) → a = b
  | [], [], _, _, _ => rfl
  | [], y :: t, _, _, h => by have := (h y).2 (by simp); simp at this
  | x :: s, [], _, _, h => by have := (h x).1 (by simp); simp at this
  | x :: s, y :: t, ha, hb, h => by
    have hlx := (List.pairwise_cons.1 ha).1
    have hly := (List.pairwise_cons.1 hb).1
    have e : x = y := by
      have h1 := (h x).1 (by simp)
      have h2 := (h y).2 (by simp)
      rcases List.mem_cons.1 h1 with rfl | h1
      · rfl
      · rcases List.mem_cons.1 h2 with h2 | h2
        · exact h2.symm
        · have := hly x h1; have := hlx y h2; omega
    subst e
    congr 1
    refine sorted_ext s t (List.pairwise_cons.1 ha).2 (List.pairwise_cons.1 hb).2 fun n => ?_
    have hn := h n
    constructor
    · intro hs
      have h1 := hn.1 (by simp [hs])
      rcases List.mem_cons.1 h1 with rfl | h1
      · have := hlx n hs; omega
      · exact h1
    · intro ht
      have h1 := hn.2 (by simp [ht])
      rcases List.mem_cons.1 h1 with rfl | h1
      · have := hly n ht; omega
      · exact h1
/-- Postings, or none. -/
def good (l : List Int) : List Int := if right l then l else []
theorem good_right (l : List Int) : right (good l) = true := by
  unfold good
  split
  · assumption
  · rfl
theorem good_pw (l : List Int) : (good l).Pairwise (· < ·) := ((right_iff _).1 (good_right l)).2
theorem good_of {l : List Int} (h : right l = true) : good l = l := by unfold good; rw [if_pos h]
def pick (keep : Int → Bool → Bool → Bool) (a b : List Int) : List Int := pickM keep (good a) (good b)
theorem mem_pick (keep : Int → Bool → Bool → Bool) (a b : List Int) (n : Int) : n ∈ pick keep a b ↔ (n ∈ good a ∨ n ∈ good b) ∧ keep n (decide (n ∈ good a)) (decide (n ∈ good b)) = true :=
  (pick_spec keep _ _ _ (Nat.le_refl _) (good_pw a) (good_pw b)).1 n
theorem pick_pw (keep : Int → Bool → Bool → Bool) (a b : List Int) : (pick keep a b).Pairwise (· < ·) := (pick_spec keep _ _ _ (Nat.le_refl _) (good_pw a) (good_pw b)).2
theorem pick_right (keep : Int → Bool → Bool → Bool) (a b : List Int) : right (pick keep a b) = true := by
  rw [right_iff]
  refine ⟨fun x hx => ?_, pick_pw keep a b⟩
  rcases ((mem_pick keep a b x).1 hx).1 with h | h
  · exact ((right_iff _).1 (good_right a)).1 x h
  · exact ((right_iff _).1 (good_right b)).1 x h
def kBoth : Int → Bool → Bool → Bool := fun _ x y => x && y
def kEither : Int → Bool → Bool → Bool := fun _ x y => x || y
def kBut : Int → Bool → Bool → Bool := fun _ x y => x && !y
def kIn (f t : Int) : Int → Bool → Bool → Bool := fun n _ _ => decide (f ≤ n) && decide (n < t)
theorem mem_both (a b : List Int) (n : Int) : n ∈ pick kBoth a b ↔ n ∈ good a ∧ n ∈ good b := by
  rw [mem_pick]; simp only [kBoth, Bool.and_eq_true, decide_eq_true_eq]
  constructor
  · rintro ⟨_, h⟩; exact h
  · intro h; exact ⟨.inl h.1, h⟩
theorem mem_either (a b : List Int) (n : Int) : n ∈ pick kEither a b ↔ n ∈ good a ∨ n ∈ good b := by
  rw [mem_pick]; simp only [kEither, Bool.or_eq_true, decide_eq_true_eq, and_self]
theorem mem_but (a b : List Int) (n : Int) : n ∈ pick kBut a b ↔ n ∈ good a ∧ ¬ n ∈ good b := by
  rw [mem_pick]; simp only [kBut, Bool.and_eq_true, decide_eq_true_eq, Bool.not_eq_true', decide_eq_false_iff_not]
  constructor
  · rintro ⟨_, h⟩; exact h
  · intro h; exact ⟨.inl h.1, h⟩
theorem both_comm (a b : List Int) : pick kBoth a b = pick kBoth b a := sorted_ext _ _ (pick_pw _ _ _) (pick_pw _ _ _) fun n => by rw [mem_both, mem_both, and_comm]
theorem either_comm (a b : List Int) : pick kEither a b = pick kEither b a := sorted_ext _ _ (pick_pw _ _ _) (pick_pw _ _ _) fun n => by rw [mem_either, mem_either, or_comm]
theorem both_but (a b : List Int) : pick kBoth (pick kBoth a b) (pick kBut a b) = [] := by
  refine sorted_ext _ _ (pick_pw _ _ _) List.Pairwise.nil fun n => ?_
  rw [mem_both, good_of (pick_right _ _ _), good_of (pick_right _ _ _), mem_both, mem_but]
  simp only [List.not_mem_nil, iff_false]
  rintro ⟨h1, h2⟩
  exact h2.2 h1.2
theorem either_back {a : List Int} (b : List Int) (ha : right a = true) : pick kEither (pick kBoth a b) (pick kBut a b) = a := by
  refine sorted_ext _ _ (pick_pw _ _ _) ((right_iff _).1 ha).2 fun n => ?_
  rw [mem_either, good_of (pick_right _ _ _), good_of (pick_right _ _ _), mem_both, mem_but, good_of ha]
  constructor
  · rintro (h | h)
    · exact h.1
    · exact h.1
  · intro h
    by_cases hb : n ∈ good b
    · exact .inl ⟨h, hb⟩
    · exact .inr ⟨h, hb⟩
theorem pick_len (keep : Int → Bool → Bool → Bool) (a b : List Int) : (pick keep a b).length ≤ 1000 := right_len (pick_right keep a b)
end Go.Proofs.YtkkliblndglniaaDoor.Post
