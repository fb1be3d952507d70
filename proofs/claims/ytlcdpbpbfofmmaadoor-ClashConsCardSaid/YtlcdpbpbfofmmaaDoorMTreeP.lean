/- MTreeP: several texts of this claim in one file. No statement of the seat is proved here. -/
import Derived.Test.YtlcdpbpbfofmmaaDoorMBase
namespace Go.Proofs.YtlcdpbpbfofmmaaDoor
set_option maxRecDepth 100000
namespace Tree
/-- The greatest power of two below n: doubled from k, f times at most. -/
def sf : Nat → Nat → Nat → Nat
  | 0, k, _ => k
  | f + 1, k, n => if 2 * k < n then sf f (2 * k) n else k
def sp (n : Nat) : Nat := if n < 2 then 0 else sf n 1 n
theorem sf_spec : ∀ (f k n : Nat), 1 ≤ k → k < n → n ≤ k + f → ∃ i, sf f k n = k * 2 ^ i ∧ sf f k n < n ∧ n ≤ 2 * sf f k n
  | 0, k, n, _, h2, h3 => by omega
  | f + 1, k, n, h1, h2, h3 => by
    unfold sf
    by_cases h : 2 * k < n
    · rw [if_pos h]
      obtain ⟨i, a, b, c⟩ := sf_spec f (2 * k) n (by omega) h (by omega)
      exact ⟨i + 1, by rw [a, Nat.pow_succ]; rw [Nat.mul_comm 2 k, Nat.mul_assoc, Nat.mul_comm 2 (2 ^ i)], b, c⟩
    · rw [if_neg h]
      exact ⟨0, by simp, h2, by omega⟩
theorem sp_spec {n : Nat} (h : 2 ≤ n) : ∃ i, sp n = 2 ^ i ∧ sp n < n ∧ n ≤ 2 * sp n := by
  unfold sp
  rw [if_neg (by omega)]
  obtain ⟨i, a, b, c⟩ := sf_spec n 1 n (Nat.le_refl _) (by omega) (by omega)
  exact ⟨i, by rw [a, Nat.one_mul], b, c⟩
theorem sp_lt {n : Nat} (h : 2 ≤ n) : sp n < n := by obtain ⟨i, a, b, c⟩ := sp_spec h; exact b
theorem sp_pos {n : Nat} (h : 2 ≤ n) : 1 ≤ sp n := by obtain ⟨i, a, b, c⟩ := sp_spec h; omega
theorem sp_half {n : Nat} (h : 2 ≤ n) : n ≤ 2 * sp n := by obtain ⟨i, a, b, c⟩ := sp_spec h; exact c
theorem sp_of {n t : Nat} (h1 : 2 ^ t < n) (h2 : n ≤ 2 ^ (t + 1)) : sp n = 2 ^ t := by
  have hp : 1 ≤ 2 ^ t := Nat.one_le_two_pow
  obtain ⟨i, a, b, c⟩ := sp_spec (n := n) (by omega)
  rw [a] at b c ⊢
  have e1 : i < t + 1 := (Nat.pow_lt_pow_iff_right (by omega : 1 < 2)).1 (by omega)
  have e2 : t < i + 1 := (Nat.pow_lt_pow_iff_right (by omega : 1 < 2)).1 (by rw [Nat.pow_succ 2 i]; omega)
  rw [show i = t by omega]
section
variable {α : Type} (nd : α → α → α) (e : α)
/-- The root of a list of digests. -/
def root (l : List α) : α :=
  match l with
  | [] => e
  | [x] => x
  | x :: y :: r => nd (root ((x :: y :: r).take (sp (x :: y :: r).length))) (root ((x :: y :: r).drop (sp (x :: y :: r).length)))
termination_by l.length
decreasing_by
  · have h := sp_lt (n := (x :: y :: r).length) (by simp)
    rw [List.length_take]; omega
  · have h := sp_pos (n := (x :: y :: r).length) (by simp)
    rw [List.length_drop]; simp only [List.length_cons] at h ⊢; omega
theorem root_nil : root nd e [] = e := by rw [root]
theorem root_one (x : α) : root nd e [x] = x := by rw [root]
theorem root_two {l : List α} (h : 2 ≤ l.length) : root nd e l = nd (root nd e (l.take (sp l.length))) (root nd e (l.drop (sp l.length))) := by
  match l, h with
  | [], h => simp at h
  | [x], h => simp at h
  | x :: y :: r, h => rw [root]
theorem root_len1 {l : List α} {x : α} (h : l.length = 1) (hx : l[0]? = some x) : root nd e l = x := by
  match l, h with
  | [y], _ => simp at hx; rw [root_one, hx]
/-- The root of a part. -/
def R (l : List α) (s m : Nat) : α := root nd e ((l.drop s).take m)
theorem R_two {l : List α} {s t m : Nat} (hm : 0 < m) (hmt : m ≤ 2 ^ t) (hl : s + (2 ^ t + m) ≤ l.length) : R nd e l s (2 ^ t + m) = nd (R nd e l s (2 ^ t)) (R nd e l (s + 2 ^ t) m) := by
  have hp : 1 ≤ 2 ^ t := Nat.one_le_two_pow
  have hlen : ((l.drop s).take (2 ^ t + m)).length = 2 ^ t + m := by rw [List.length_take, List.length_drop]; omega
  unfold R
  rw [root_two nd e (l := (l.drop s).take (2 ^ t + m)) (by omega), hlen, sp_of (t := t) (by omega) (by rw [Nat.pow_succ]; omega)]
  rw [List.take_take, Nat.min_eq_left (by omega), List.drop_take, List.drop_drop, Nat.add_sub_cancel_left]
theorem R_all (l : List α) : R nd e l 0 l.length = root nd e l := by unfold R; rw [List.drop_zero, List.take_length]
theorem R_one {l : List α} {s : Nat} {x : α} (h : l[s]? = some x) : R nd e l s 1 = x := by
  unfold R
  obtain ⟨hs, hx⟩ := List.getElem?_eq_some_iff.1 h
  rw [List.drop_eq_getElem_cons hs, hx, List.take_succ_cons, List.take_zero, root_one]
/-- The roots of complete parts, of the sizes of the powers of two in j, 2^t times. -/
def P (l : List α) (j t : Nat) : List α :=
  if j = 0 then [] else if j % 2 = 1 then P l (j / 2) (t + 1) ++ [R nd e l ((j - 1) * 2 ^ t) (2 ^ t)] else P l (j / 2) (t + 1)
termination_by j
theorem P_zero (l : List α) (t : Nat) : P nd e l 0 t = [] := by rw [P, if_pos rfl]
theorem P_odd (l : List α) (j t : Nat) (h : j % 2 = 1) : P nd e l j t = P nd e l (j / 2) (t + 1) ++ [R nd e l ((j - 1) * 2 ^ t) (2 ^ t)] := by
  rw [P, if_neg (by omega), if_pos h]
theorem P_even (l : List α) (j t : Nat) (h : j % 2 = 0) : P nd e l j t = P nd e l (j / 2) (t + 1) := by
  by_cases h0 : j = 0
  · subst h0; rw [P_zero, P_zero]
  · rw [P, if_neg h0, if_neg (by omega)]
theorem P_up (l : List α) : ∀ (t m s : Nat), P nd e l (m * 2 ^ t) s = P nd e l m (s + t)
  | 0, m, s => by rw [Nat.pow_zero, Nat.mul_one, Nat.add_zero]
  | t + 1, m, s => by
    rw [P_even nd e l _ s (by rw [Nat.pow_succ, ← Nat.mul_assoc]; omega), show m * 2 ^ (t + 1) / 2 = m * 2 ^ t by rw [Nat.pow_succ, ← Nat.mul_assoc, Nat.mul_div_cancel _ (by omega)], P_up l t m (s + 1), show s + 1 + t = s + (t + 1) by omega]
/-- The stack within the round of place i: j is what is left of i, t are the steps. -/
structure Stk (l : List α) (i j t : Nat) (st : List α) : Prop where
  st : st = P nd e l j t ++ [R nd e l (j * 2 ^ t) (2 ^ t)]
  i : i + 1 = (j + 1) * 2 ^ t
theorem Stk.start {l : List α} {i : Nat} {x : α} (hx : l[i]? = some x) : Stk nd e l i i 0 (P nd e l i 0 ++ [x]) :=
  ⟨by rw [Nat.pow_zero, Nat.mul_one, R_one nd e hx], by simp⟩
theorem Stk.step {l : List α} {i j t : Nat} {st : List α} (h : Stk nd e l i j t st) (hi : i < l.length) (hj : j % 2 = 1) :
    ∃ S a b, st = S ++ [a, b] ∧ Stk nd e l i (j / 2) (t + 1) (S ++ [nd a b]) := by
  refine ⟨P nd e l (j / 2) (t + 1), R nd e l ((j - 1) * 2 ^ t) (2 ^ t), R nd e l (j * 2 ^ t) (2 ^ t), ?_, ?_, ?_⟩
  · rw [h.st, P_odd nd e l j t hj, List.append_assoc]; rfl
  · have hp : 1 ≤ 2 ^ t := Nat.one_le_two_pow
    obtain ⟨q, hq⟩ : ∃ q, j = 2 * q + 1 := ⟨j / 2, by omega⟩
    have hi' := h.i
    subst hq
    have e1 : (2 * q + 1 - 1) * 2 ^ t = (2 * q + 1) / 2 * 2 ^ (t + 1) := by rw [Nat.pow_succ, show (2 * q + 1) / 2 = q by omega, show 2 * q + 1 - 1 = 2 * q by omega, Nat.mul_comm 2 q, Nat.mul_assoc, Nat.mul_comm 2]
    have e2 : (2 * q + 1) * 2 ^ t = (2 * q + 1 - 1) * 2 ^ t + 2 ^ t := by rw [show 2 * q + 1 - 1 = 2 * q by omega, Nat.add_mul, Nat.one_mul]
    have e3 : (2 * q + 1 + 1) * 2 ^ t = (2 * q + 1 - 1) * 2 ^ t + (2 ^ t + 2 ^ t) := by rw [show 2 * q + 1 - 1 = 2 * q by omega, show 2 * q + 1 + 1 = 2 * q + 2 by omega, Nat.add_mul, Nat.two_mul (2 ^ t)]
    rw [e2, ← R_two nd e (l := l) (s := (2 * q + 1 - 1) * 2 ^ t) (t := t) (m := 2 ^ t) (by omega) (Nat.le_refl _) (by omega), e1, show 2 ^ t + 2 ^ t = 2 ^ (t + 1) by rw [Nat.pow_succ]; omega]
  · rw [h.i, Nat.pow_succ, Nat.mul_comm (2 ^ t) 2, ← Nat.mul_assoc]; congr 1; omega
theorem Stk.done {l : List α} {i j t : Nat} {st : List α} (h : Stk nd e l i j t st) (hj : j % 2 = 0) : st = P nd e l (i + 1) 0 := by
  rw [h.i, P_up nd e l t (j + 1) 0, Nat.zero_add, P_odd nd e l (j + 1) t (by omega), show (j + 1) / 2 = j / 2 by omega, Nat.add_sub_cancel, h.st, P_even nd e l j t hj]
/-- The stack folded from its upper end. -/
def fr : List α → α
  | [] => e
  | [x] => x
  | x :: y :: r => nd x (fr (y :: r))
theorem fr_step : ∀ (S : List α) (a b : α), fr nd e (S ++ [a, b]) = fr nd e (S ++ [nd a b])
  | [], a, b => rfl
  | [x], a, b => rfl
  | x :: y :: r, a, b => by
    have := fr_step (y :: r) a b
    simp only [List.cons_append, fr] at this ⊢
    rw [this]
theorem fr_P (l : List α) : ∀ (k j t m : Nat), j ≤ k → 0 < m → m ≤ 2 ^ t → j * 2 ^ t + m ≤ l.length → fr nd e (P nd e l j t ++ [R nd e l (j * 2 ^ t) m]) = R nd e l 0 (j * 2 ^ t + m)
  | 0, j, t, m, hj, _, _, _ => by
    obtain rfl : j = 0 := by omega
    rw [P_zero, Nat.zero_mul, Nat.zero_add]; rfl
  | k + 1, j, t, m, hj, h0, h1, h2 => by
    by_cases hj0 : j = 0
    · subst hj0
      rw [P_zero, Nat.zero_mul, Nat.zero_add]; rfl
    · by_cases ho : j % 2 = 1
      · obtain ⟨q, rfl⟩ : ∃ q, j = 2 * q + 1 := ⟨j / 2, by omega⟩
        have e1 : (2 * q + 1 - 1) * 2 ^ t = q * 2 ^ (t + 1) := by rw [Nat.pow_succ, show 2 * q + 1 - 1 = 2 * q by omega, Nat.mul_comm 2 q, Nat.mul_assoc, Nat.mul_comm 2]
        have e2 : (2 * q + 1) * 2 ^ t = q * 2 ^ (t + 1) + 2 ^ t := by rw [← e1, show 2 * q + 1 - 1 = 2 * q by omega, Nat.add_mul, Nat.one_mul]
        rw [P_odd nd e l _ t ho, List.append_assoc]
        rw [show ([R nd e l ((2 * q + 1 - 1) * 2 ^ t) (2 ^ t)] ++ [R nd e l ((2 * q + 1) * 2 ^ t) m] : List α) = [R nd e l ((2 * q + 1 - 1) * 2 ^ t) (2 ^ t), R nd e l ((2 * q + 1) * 2 ^ t) m] from rfl, fr_step, e1, e2, ← R_two nd e h0 h1 (by omega), show (2 * q + 1) / 2 = q by omega, fr_P l k q (t + 1) (2 ^ t + m) (by omega) (by omega) (by rw [Nat.pow_succ]; omega) (by omega), Nat.add_assoc]
      · obtain ⟨q, rfl⟩ : ∃ q, j = 2 * q := ⟨j / 2, by omega⟩
        have e1 : (2 * q) * 2 ^ t = q * 2 ^ (t + 1) := by rw [Nat.pow_succ, Nat.mul_comm 2 q, Nat.mul_assoc, Nat.mul_comm 2]
        rw [P_even nd e l _ t (by omega), e1, show 2 * q / 2 = q by omega, fr_P l k q (t + 1) m (by omega) h0 (by rw [Nat.pow_succ]; omega) (by rw [← e1]; exact h2)]
theorem P_last (l : List α) : ∀ (k j t : Nat), j ≤ k → 0 < j → ∃ q s m, P nd e l j t = P nd e l q s ++ [R nd e l (q * 2 ^ s) m] ∧ 0 < m ∧ m ≤ 2 ^ s ∧ q * 2 ^ s + m = j * 2 ^ t
  | 0, j, t, h, h0 => by omega
  | k + 1, j, t, h, h0 => by
    by_cases ho : j % 2 = 1
    · obtain ⟨q, rfl⟩ : ∃ q, j = 2 * q + 1 := ⟨j / 2, by omega⟩
      have e1 : (2 * q + 1 - 1) * 2 ^ t = q * 2 ^ (t + 1) := by rw [Nat.pow_succ, show 2 * q + 1 - 1 = 2 * q by omega, Nat.mul_comm 2 q, Nat.mul_assoc, Nat.mul_comm 2]
      have e2 : (2 * q + 1) * 2 ^ t = q * 2 ^ (t + 1) + 2 ^ t := by rw [← e1, show 2 * q + 1 - 1 = 2 * q by omega, Nat.add_mul, Nat.one_mul]
      exact ⟨q, t + 1, 2 ^ t, by rw [P_odd nd e l _ t ho, show (2 * q + 1) / 2 = q by omega, e1], Nat.two_pow_pos t, by rw [Nat.pow_succ]; omega, e2.symm⟩
    · obtain ⟨q, rfl⟩ : ∃ q, j = 2 * q := ⟨j / 2, by omega⟩
      have e1 : (2 * q) * 2 ^ t = q * 2 ^ (t + 1) := by rw [Nat.pow_succ, Nat.mul_comm 2 q, Nat.mul_assoc, Nat.mul_comm 2]
      obtain ⟨q', s, m, a, b, c, d⟩ := P_last l k q (t + 1) (by omega) (by omega)
      exact ⟨q', s, m, by rw [P_even nd e l _ t (by omega), show 2 * q / 2 = q by omega, a], b, c, by rw [e1]; exact d⟩
/-- The stack of a whole list folds to its root. -/
theorem fr_root (l : List α) (h : 0 < l.length) : fr nd e (P nd e l l.length 0) = root nd e l := by
  obtain ⟨q, s, m, a, b, c, d⟩ := P_last nd e l _ l.length 0 (Nat.le_refl _) h
  rw [Nat.pow_zero, Nat.mul_one] at d
  rw [a, fr_P nd e l q q s m (Nat.le_refl _) b c (by omega), d, R_all]
theorem P_ne (l : List α) (j t : Nat) (h : 0 < j) : P nd e l j t ≠ [] := by
  obtain ⟨q, s, m, a, _⟩ := P_last nd e l j j t (Nat.le_refl _) h
  rw [a]; simp
end
end Tree
end Go.Proofs.YtlcdpbpbfofmmaaDoor

namespace Go.Proofs.YtlcdpbpbfofmmaaDoor
set_option maxRecDepth 100000
set_option linter.unusedVariables false
namespace Tree
section
variable {α : Type} (nd : α → α → α) (e : α)
/-- The path of a place. -/
def path (l : List α) (i : Nat) : List α :=
  if h : l.length < 2 then [] else
  if i < sp l.length then path (l.take (sp l.length)) i ++ [root nd e (l.drop (sp l.length))]
  else path (l.drop (sp l.length)) (i - sp l.length) ++ [root nd e (l.take (sp l.length))]
termination_by l.length
decreasing_by
  · have := sp_lt (n := l.length) (by omega)
    rw [List.length_take]; omega
  · have := sp_pos (n := l.length) (by omega)
    rw [List.length_drop]; omega
theorem path_small {l : List α} {i : Nat} (h : l.length < 2) : path nd e l i = [] := by rw [path, dif_pos h]
theorem path_left {l : List α} {i : Nat} (h : 2 ≤ l.length) (hi : i < sp l.length) : path nd e l i = path nd e (l.take (sp l.length)) i ++ [root nd e (l.drop (sp l.length))] := by
  rw [path, dif_neg (by omega), if_pos hi]
theorem path_right {l : List α} {i : Nat} (h : 2 ≤ l.length) (hi : ¬ i < sp l.length) : path nd e l i = path nd e (l.drop (sp l.length)) (i - sp l.length) ++ [root nd e (l.take (sp l.length))] := by
  rw [path, dif_neg (by omega), if_neg hi]
/-- From the root downwards: is the place in the second part? -/
def sides (i n : Nat) : List Bool :=
  if h : n < 2 then [] else
  if i < sp n then false :: sides i (sp n) else true :: sides (i - sp n) (n - sp n)
termination_by n
decreasing_by
  · exact sp_lt (by omega)
  · have := sp_pos (n := n) (by omega); omega
theorem sides_small {i n : Nat} (h : n < 2) : sides i n = [] := by rw [sides, dif_pos h]
theorem sides_left {i n : Nat} (h : 2 ≤ n) (hi : i < sp n) : sides i n = false :: sides i (sp n) := by rw [sides, dif_neg (by omega), if_pos hi]
theorem sides_right {i n : Nat} (h : 2 ≤ n) (hi : ¬ i < sp n) : sides i n = true :: sides (i - sp n) (n - sp n) := by rw [sides, dif_neg (by omega), if_neg hi]
/-- Up from a leaf, by the sides from the root downwards and the path from the leaf upwards. -/
def clb (leaf : α) : List Bool → List α → α
  | [], _ => leaf
  | s :: ss, p => if s then nd (p.getLastD e) (clb leaf ss p.dropLast) else nd (clb leaf ss p.dropLast) (p.getLastD e)
theorem clb_snoc (leaf : α) (s : Bool) (ss : List Bool) (p : List α) (x : α) : clb nd e leaf (s :: ss) (p ++ [x]) = if s then nd x (clb nd e leaf ss p) else nd (clb nd e leaf ss p) x := by
  have h1 : (p ++ [x]).dropLast = p := List.dropLast_concat
  have h2 : (p ++ [x]).getLastD e = x := by simp
  rw [clb, h1, h2]
theorem clb_next (leaf : α) {S : List Bool} {p : List α} {j : Nat} {s : Bool} {x : α} (hl : S.length = p.length) (hj : j < p.length) (hs : S[S.length - 1 - j]? = some s) (hx : p[j]? = some x) :
    clb nd e leaf (S.drop (S.length - (j + 1))) (p.take (j + 1)) = if s then nd x (clb nd e leaf (S.drop (S.length - j)) (p.take j)) else nd (clb nd e leaf (S.drop (S.length - j)) (p.take j)) x := by
  obtain ⟨h1, h2⟩ := List.getElem?_eq_some_iff.1 hs
  have e1 : S.drop (S.length - (j + 1)) = s :: S.drop (S.length - j) := by
    rw [show S.length - (j + 1) = S.length - 1 - j by omega, List.drop_eq_getElem_cons h1, h2, show S.length - 1 - j + 1 = S.length - j by omega]
  rw [e1, List.take_add_one, hx, Option.toList_some, clb_snoc]
theorem path_len : ∀ (k : Nat) (l : List α) (i : Nat), l.length ≤ k → i < l.length → (path nd e l i).length = (sides i l.length).length
  | 0, l, i, h, hi => by omega
  | k + 1, l, i, h, hi => by
    by_cases h2 : l.length < 2
    · rw [path_small nd e h2, sides_small h2]; rfl
    · have a := sp_lt (n := l.length) (by omega)
      have b := sp_pos (n := l.length) (by omega)
      by_cases hs : i < sp l.length
      · have e1 : (l.take (sp l.length)).length = sp l.length := by rw [List.length_take]; omega
        have ih := path_len k (l.take (sp l.length)) i (by omega) (by omega)
        rw [path_left nd e (by omega) hs, sides_left (by omega) hs, List.length_append, ih, e1]; rfl
      · have e1 : (l.drop (sp l.length)).length = l.length - sp l.length := List.length_drop
        have ih := path_len k (l.drop (sp l.length)) (i - sp l.length) (by omega) (by omega)
        rw [path_right nd e (by omega) hs, sides_right (by omega) hs, List.length_append, ih, e1]; rfl
theorem path_all (q : α → Prop) (hq : ∀ l : List α, (∀ s ∈ l, q s) → q (root nd e l)) : ∀ (k : Nat) (l : List α) (i : Nat), l.length ≤ k → (∀ s ∈ l, q s) → ∀ s ∈ path nd e l i, q s
  | 0, l, i, h, _, s, hs => by rw [path_small nd e (by omega)] at hs; simp at hs
  | k + 1, l, i, h, hl, s, hs => by
    by_cases h2 : l.length < 2
    · rw [path_small nd e h2] at hs; simp at hs
    · have a := sp_lt (n := l.length) (by omega)
      have b := sp_pos (n := l.length) (by omega)
      by_cases hc : i < sp l.length
      · rw [path_left nd e (by omega) hc, List.mem_append, List.mem_singleton] at hs
        rcases hs with hs | rfl
        · exact path_all q hq k _ i (by rw [List.length_take]; omega) (fun s hs => hl s (List.mem_of_mem_take hs)) s hs
        · exact hq _ fun s hs => hl s (List.mem_of_mem_drop hs)
      · rw [path_right nd e (by omega) hc, List.mem_append, List.mem_singleton] at hs
        rcases hs with hs | rfl
        · exact path_all q hq k _ _ (by rw [List.length_drop]; omega) (fun s hs => hl s (List.mem_of_mem_drop hs)) s hs
        · exact hq _ fun s hs => hl s (List.mem_of_mem_take hs)
theorem climb_path : ∀ (k : Nat) (l : List α) (i : Nat) (x : α), l.length ≤ k → l[i]? = some x → clb nd e x (sides i l.length) (path nd e l i) = root nd e l
  | 0, l, i, x, h, hx => by have := (List.getElem?_eq_some_iff.1 hx).1; omega
  | k + 1, l, i, x, h, hx => by
    have hi := (List.getElem?_eq_some_iff.1 hx).1
    by_cases h2 : l.length < 2
    · rw [sides_small h2]
      obtain rfl : i = 0 := by omega
      exact (root_len1 nd e (by omega) hx).symm
    · have a := sp_lt (n := l.length) (by omega)
      have b := sp_pos (n := l.length) (by omega)
      by_cases hc : i < sp l.length
      · have e1 : (l.take (sp l.length)).length = sp l.length := by rw [List.length_take]; omega
        have ih := climb_path k (l.take (sp l.length)) i x (by omega) (by rw [List.getElem?_take, if_pos hc]; exact hx)
        rw [e1] at ih
        rw [path_left nd e (by omega) hc, sides_left (by omega) hc, clb_snoc, if_neg (by decide), ih, root_two nd e (l := l) (by omega)]
      · have e1 : (l.drop (sp l.length)).length = l.length - sp l.length := List.length_drop
        have ih := climb_path k (l.drop (sp l.length)) (i - sp l.length) x (by omega) (by rw [List.getElem?_drop, show sp l.length + (i - sp l.length) = i by omega]; exact hx)
        rw [e1] at ih
        rw [path_right nd e (by omega) hc, sides_right (by omega) hc, clb_snoc, if_pos rfl, ih, root_two nd e (l := l) (by omega)]
end
theorem sides_len : ∀ (k i n : Nat), n ≤ k → i < n → (sides i n).length ≤ 2 * n
  | 0, i, n, h, hi => by omega
  | k + 1, i, n, h, hi => by
    by_cases h2 : n < 2
    · rw [sides_small h2]; simp
    · have a := sp_lt (n := n) (by omega)
      have b := sp_pos (n := n) (by omega)
      by_cases hc : i < sp n
      · rw [sides_left (by omega) hc, List.length_cons]
        have := sides_len k i (sp n) (by omega) hc
        omega
      · rw [sides_right (by omega) hc, List.length_cons]
        have := sides_len k (i - sp n) (n - sp n) (by omega) (by omega)
        omega
/-- A place of at most 2^t leaves has t sides at most. -/
theorem sides_log : ∀ (t i n : Nat), n ≤ 2 ^ t → i < n → (sides i n).length ≤ t
  | 0, i, n, h, hi => by
    rw [Nat.pow_zero] at h
    rw [sides_small (by omega)]; simp
  | t + 1, i, n, h, hi => by
    by_cases h2 : n < 2
    · rw [sides_small h2]; simp
    · obtain ⟨q, a, b, c⟩ := sp_spec (n := n) (by omega)
      have hq : q ≤ t := by
        have : 2 ^ q < 2 ^ (t + 1) := by omega
        have := (Nat.pow_lt_pow_iff_right (by omega : 1 < 2)).1 this
        omega
      have hle : sp n ≤ 2 ^ t := by rw [a]; exact Nat.pow_le_pow_right (by omega) hq
      by_cases hc : i < sp n
      · rw [sides_left (by omega) hc, List.length_cons]
        have := sides_log t i (sp n) hle hc
        omega
      · rw [sides_right (by omega) hc, List.length_cons]
        have := sides_log t (i - sp n) (n - sp n) (by omega) (by omega)
        omega
end Tree
end Go.Proofs.YtlcdpbpbfofmmaaDoor

namespace Go.Proofs.YtlcdpbpbfofmmaaDoor
set_option maxRecDepth 100000
set_option linter.unusedVariables false
namespace Cons
open Tree
/-- The sides, from the root downwards, of the place where the first m of n end. -/
def ss (m n : Nat) : List Bool :=
  if h : n < 2 ∨ m = n then [] else if m ≤ sp n then false :: ss m (sp n) else true :: ss (m - sp n) (n - sp n)
termination_by n
decreasing_by
  · exact sp_lt (by omega)
  · have := sp_pos (n := n) (by omega); omega
theorem ss_end {n : Nat} : ss n n = [] := by rw [ss, dif_pos (.inr rfl)]
theorem ss_left {m n : Nat} (h : 2 ≤ n) (hm : m ≠ n) (hk : m ≤ sp n) : ss m n = false :: ss m (sp n) := by rw [ss, dif_neg (by omega), if_pos hk]
theorem ss_right {m n : Nat} (h : 2 ≤ n) (hm : m ≠ n) (hk : ¬ m ≤ sp n) : ss m n = true :: ss (m - sp n) (n - sp n) := by rw [ss, dif_neg (by omega), if_neg hk]
/-- The sides from two indices upwards. -/
def ev (i j : Nat) : List Bool :=
  if h : j = 0 then [] else if i % 2 = 1 then true :: ev (i / 2) (j / 2) else if i = j then ev (i / 2) (j / 2) else false :: ev (i / 2) (j / 2)
termination_by j
decreasing_by all_goals omega
theorem ev_zero (i : Nat) : ev i 0 = [] := by rw [ev, dif_pos rfl]
theorem ev_odd {i j : Nat} (h : j ≠ 0) (ho : i % 2 = 1) : ev i j = true :: ev (i / 2) (j / 2) := by rw [ev, dif_neg h, if_pos ho]
theorem ev_same {i : Nat} (h : i ≠ 0) (ho : i % 2 = 0) : ev i i = ev (i / 2) (i / 2) := by rw [ev, dif_neg h, if_neg (by omega), if_pos rfl]
theorem ev_even {i j : Nat} (h : j ≠ 0) (ho : i % 2 = 0) (hne : i ≠ j) : ev i j = false :: ev (i / 2) (j / 2) := by rw [ev, dif_neg h, if_neg (by omega), if_neg hne]
theorem two_up (t : Nat) : 2 ^ (t + 1) = 2 * 2 ^ t := by rw [Nat.pow_succ]; omega
theorem ev_left : ∀ (t i j : Nat), i < 2 ^ t → 2 ^ t ≤ j → j < 2 ^ (t + 1) → ev i j = ev i (2 ^ t - 1) ++ [false]
  | 0, i, j, h1, h2, h3 => by
    rw [Nat.pow_zero] at h1 h2
    rw [Nat.pow_succ, Nat.pow_zero] at h3
    obtain rfl : i = 0 := by omega
    obtain rfl : j = 1 := by omega
    rw [ev_even (by omega) (by omega) (by omega)]; simp [ev_zero]
  | t + 1, i, j, h1, h2, h3 => by
    have e1 := two_up t
    have e2 := two_up (t + 1)
    have hp : 1 ≤ 2 ^ t := Nat.one_le_two_pow
    have ih := ev_left t (i / 2) (j / 2) (by omega) (by omega) (by omega)
    have e3 : (2 ^ (t + 1) - 1) / 2 = 2 ^ t - 1 := by omega
    by_cases ho : i % 2 = 1
    · rw [ev_odd (by omega) ho, ev_odd (by omega) ho, ih, e3]; rfl
    · rw [ev_even (by omega) (by omega) (by omega), ev_even (j := 2 ^ (t + 1) - 1) (by omega) (by omega) (by omega), ih, e3]; rfl
theorem ev_right : ∀ (t i j : Nat), 2 ^ t ≤ i → i ≤ j → j < 2 ^ (t + 1) → ev i j = ev (i - 2 ^ t) (j - 2 ^ t) ++ [true]
  | 0, i, j, h1, h2, h3 => by
    rw [Nat.pow_zero] at h1 ⊢
    rw [Nat.pow_succ, Nat.pow_zero] at h3
    obtain rfl : i = 1 := by omega
    obtain rfl : j = 1 := by omega
    rw [ev_odd (by omega) (by omega)]; simp [ev_zero]
  | t + 1, i, j, h1, h2, h3 => by
    have e1 := two_up t
    have e2 := two_up (t + 1)
    have hp : 1 ≤ 2 ^ t := Nat.one_le_two_pow
    have ih := ev_right t (i / 2) (j / 2) (by omega) (by omega) (by omega)
    have e3 : (i - 2 ^ (t + 1)) / 2 = i / 2 - 2 ^ t := by omega
    have e4 : (j - 2 ^ (t + 1)) / 2 = j / 2 - 2 ^ t := by omega
    by_cases ho : i % 2 = 1
    · rw [ev_odd (by omega) ho, ev_odd (i := i - 2 ^ (t + 1)) (by omega) (by omega), ih, e3, e4]; rfl
    · by_cases he : i = j
      · subst he
        rw [ev_same (by omega) (by omega), ih]
        by_cases hz : i - 2 ^ (t + 1) = 0
        · rw [hz, show i / 2 - 2 ^ t = 0 by omega]
        · rw [ev_same hz (by omega), e3]
      · rw [ev_even (by omega) (by omega) he, ev_even (i := i - 2 ^ (t + 1)) (by omega) (by omega) (by omega), ih, e3, e4]; rfl
/-- The same, behind the ones at the end of the lesser index. -/
def U (i j : Nat) : List Bool := if h : i % 2 = 1 then U (i / 2) (j / 2) else ev i j
termination_by i
decreasing_by omega
theorem U_odd {i j : Nat} (h : i % 2 = 1) : U i j = U (i / 2) (j / 2) := by rw [U, dif_pos h]
theorem U_even {i j : Nat} (h : i % 2 = 0) : U i j = ev i j := by rw [U, dif_neg (by omega)]
theorem U_left : ∀ (t i j : Nat), i < 2 ^ t → 2 ^ t ≤ j → j < 2 ^ (t + 1) → U i j = U i (2 ^ t - 1) ++ [false]
  | t, i, j, h1, h2, h3 => by
    by_cases ho : i % 2 = 1
    · match t, h1, h2, h3 with
      | 0, h1, h2, h3 => rw [Nat.pow_zero] at h1; omega
      | t + 1, h1, h2, h3 =>
        have e1 := two_up t
        have e2 := two_up (t + 1)
        rw [U_odd ho, U_odd (j := 2 ^ (t + 1) - 1) ho, U_left t (i / 2) (j / 2) (by omega) (by omega) (by omega), show (2 ^ (t + 1) - 1) / 2 = 2 ^ t - 1 by omega]
    · rw [U_even (by omega), U_even (by omega), ev_left t i j h1 h2 h3]
theorem U_right : ∀ (t i j : Nat), 2 ^ t ≤ i → i ≤ j → j < 2 ^ (t + 1) → i ≠ 2 ^ (t + 1) - 1 → U i j = U (i - 2 ^ t) (j - 2 ^ t) ++ [true]
  | t, i, j, h1, h2, h3, h4 => by
    by_cases ho : i % 2 = 1
    · match t, h1, h2, h3, h4 with
      | 0, h1, h2, h3, h4 => rw [Nat.pow_succ, Nat.pow_zero] at h4; rw [Nat.pow_succ, Nat.pow_zero] at h3; omega
      | t + 1, h1, h2, h3, h4 =>
        have e1 := two_up t
        have e2 := two_up (t + 1)
        rw [U_odd ho, U_odd (i := i - 2 ^ (t + 1)) (by omega), U_right t (i / 2) (j / 2) (by omega) (by omega) (by omega) (by omega), show (i - 2 ^ (t + 1)) / 2 = i / 2 - 2 ^ t by omega, show (j - 2 ^ (t + 1)) / 2 = j / 2 - 2 ^ t by omega]
    · match t, h1, h2, h3, h4 with
      | 0, h1, h2, h3, h4 => rw [Nat.pow_zero] at h1; rw [Nat.pow_succ, Nat.pow_zero] at h3; omega
      | t + 1, h1, h2, h3, h4 =>
        have e1 := two_up t
        rw [U_even (by omega), U_even (i := i - 2 ^ (t + 1)) (by omega), ev_right (t + 1) i j h1 h2 h3]
theorem U_ones : ∀ (t : Nat), U (2 ^ t - 1) (2 ^ t - 1) = []
  | 0 => by rw [Nat.pow_zero, U_even (by omega), ev_zero]
  | t + 1 => by
    have e1 := two_up t
    have hp : 1 ≤ 2 ^ t := Nat.one_le_two_pow
    rw [U_odd (by omega), show (2 ^ (t + 1) - 1) / 2 = 2 ^ t - 1 by omega, U_ones t]
theorem U_ss : ∀ (k m n : Nat), n ≤ k → 1 ≤ m → m ≤ n → (m < n ∨ ∃ t, n = 2 ^ t) → U (m - 1) (n - 1) = (ss m n).reverse
  | 0, m, n, h, h1, h2, _ => by omega
  | k + 1, m, n, h, h1, h2, h3 => by
    by_cases he : m = n
    · subst he
      obtain ⟨t, rfl⟩ : ∃ t, m = 2 ^ t := by rcases h3 with h3 | h3; omega; exact h3
      rw [ss_end, U_ones]; rfl
    · have hn : 2 ≤ n := by omega
      obtain ⟨t, a, b, c⟩ := sp_spec hn
      have e1 := two_up t
      by_cases hk : m ≤ sp n
      · rw [ss_left hn he hk, List.reverse_cons, ← U_ss k m (sp n) (by omega) h1 hk (.inr ⟨t, a⟩), a]
        rw [a] at b c hk
        exact U_left t (m - 1) (n - 1) (by omega) (by omega) (by omega)
      · rw [ss_right hn he hk, List.reverse_cons, ← U_ss k (m - sp n) (n - sp n) (by omega) (by omega) (by omega) (.inl (by omega)), a]
        rw [a] at b c hk
        rw [U_right t (m - 1) (n - 1) (by omega) (by omega) (by omega) (by omega), show m - 1 - 2 ^ t = m - 2 ^ t - 1 by omega, show n - 1 - 2 ^ t = n - 2 ^ t - 1 by omega]
/-- Is each side the first one? -/
def allL (l : List Bool) : Bool := l.all (fun b => !b)
theorem allL_pow : ∀ (k m n : Nat), n ≤ k → 1 ≤ m → m < n → (allL (ss m n) = true ↔ ∃ t, m = 2 ^ t)
  | 0, m, n, h, h1, h2 => by omega
  | k + 1, m, n, h, h1, h2 => by
    have hn : 2 ≤ n := by omega
    obtain ⟨t, a, b, c⟩ := sp_spec hn
    by_cases hk : m ≤ sp n
    · rw [ss_left hn (by omega) hk]
      by_cases he : m = sp n
      · rw [← he, ss_end]
        exact ⟨fun _ => ⟨t, by rw [he, a]⟩, fun _ => rfl⟩
      · have := allL_pow k m (sp n) (by omega) h1 (by omega)
        rw [← this]
        simp [allL]
    · rw [ss_right hn (by omega) hk]
      refine ⟨fun h => by simp [allL] at h, fun ⟨s, hs⟩ => ?_⟩
      rw [a] at hk c
      have e1 : t < s := (Nat.pow_lt_pow_iff_right (by omega : 1 < 2)).1 (by omega)
      have e2 : s < t + 1 := (Nat.pow_lt_pow_iff_right (by omega : 1 < 2)).1 (by have := two_up t; omega)
      omega
theorem and_even (q : Nat) (h : 1 ≤ q) : (2 * q) &&& (2 * q - 1) = 2 * (q &&& (q - 1)) := by
  apply Nat.eq_of_testBit_eq
  intro i
  cases i with
  | zero => simp [Nat.testBit_zero, Nat.and_mod_two_eq_one]
  | succ i =>
    rw [Nat.testBit_and, Nat.testBit_succ, Nat.testBit_succ, Nat.testBit_succ, show 2 * q / 2 = q by omega, show (2 * q - 1) / 2 = q - 1 by omega, show 2 * (q &&& (q - 1)) / 2 = q &&& (q - 1) by omega, Nat.testBit_and]
theorem and_odd (q : Nat) : (2 * q + 1) &&& (2 * q + 1 - 1) = 2 * q := by
  apply Nat.eq_of_testBit_eq
  intro i
  rw [Nat.add_sub_cancel]
  cases i with
  | zero => simp [Nat.testBit_zero]
  | succ i =>
    rw [Nat.testBit_and, Nat.testBit_succ, Nat.testBit_succ, show (2 * q + 1) / 2 = q by omega, show 2 * q / 2 = q by omega, Bool.and_self]
theorem and_pow : ∀ (k m : Nat), m ≤ k → 1 ≤ m → (m &&& (m - 1) = 0 ↔ ∃ t, m = 2 ^ t)
  | 0, m, h, h1 => by omega
  | k + 1, m, h, h1 => by
    by_cases ho : m % 2 = 1
    · obtain ⟨q, rfl⟩ : ∃ q, m = 2 * q + 1 := ⟨m / 2, by omega⟩
      rw [and_odd]
      refine ⟨fun h => ⟨0, by rw [Nat.pow_zero]; omega⟩, fun ⟨t, ht⟩ => ?_⟩
      cases t with
      | zero => rw [Nat.pow_zero] at ht; omega
      | succ t => have := two_up t; omega
    · obtain ⟨q, rfl⟩ : ∃ q, m = 2 * q := ⟨m / 2, by omega⟩
      rw [and_even q (by omega)]
      have ih := and_pow k q (by omega) (by omega)
      refine ⟨fun h => ?_, fun ⟨t, ht⟩ => ?_⟩
      · obtain ⟨t, ht⟩ := ih.1 (by omega)
        exact ⟨t + 1, by rw [two_up, ht]⟩
      · cases t with
        | zero => rw [Nat.pow_zero] at ht; omega
        | succ t => have := two_up t; rw [ih.2 ⟨t, by omega⟩]
section
variable {α : Type} (nd : α → α → α) (e : α)
/-- Upwards: both roots, from the sides and the digests. -/
def run (a b : α) : List Bool → List α → Option (α × α)
  | [], [] => some (a, b)
  | false :: es, d :: ds => run a (nd b d) es ds
  | true :: es, d :: ds => run (nd d a) (nd d b) es ds
  | [], _ :: _ => none
  | _ :: _, [] => none
theorem run_none (a b : α) (es : List Bool) (h : es ≠ []) : run nd a b es [] = none := by
  cases es with
  | nil => exact absurd rfl h
  | cons x es => cases x <;> rfl
theorem run_none' (a b : α) (ds : List α) (h : ds ≠ []) : run nd a b [] ds = none := by
  cases ds with
  | nil => exact absurd rfl h
  | cons x ds => rfl
theorem run_snoc : ∀ (es : List Bool) (ds : List α) (a b : α) (s : Bool) (d : α), run nd a b (es ++ [s]) (ds ++ [d]) = (run nd a b es ds).map fun r => if s then (nd d r.1, nd d r.2) else (r.1, nd r.2 d)
  | [], [], a, b, s, d => by cases s <;> rfl
  | [], x :: ds, a, b, s, d => by cases s <;> exact run_none' nd _ _ _ (by simp)
  | s' :: es, [], a, b, s, d => by cases s' <;> exact run_none nd _ _ _ (by simp)
  | s' :: es, x :: ds, a, b, s, d => by cases s' <;> exact run_snoc es ds _ _ s d
theorem run_len : ∀ (es : List Bool) (ds : List α) (a b : α) (r : α × α), run nd a b es ds = some r → ds.length = es.length
  | [], [], a, b, r, h => rfl
  | [], x :: ds, a, b, r, h => by cases h
  | s' :: es, [], a, b, r, h => by cases s' <;> cases h
  | s' :: es, x :: ds, a, b, r, h => by cases s' <;> exact congrArg (· + 1) (run_len es ds _ _ r h)
/-- Both roots by the document. -/
def roots (m n : Nat) (whole : Bool) (one : α) (p : List α) : α × α × Bool :=
  if m = n then (if whole then (one, one, decide (p.length = 0)) else if p.length = 1 then (p.getLastD e, p.getLastD e, true) else (e, e, false))
  else if p.length = 0 then (e, e, false) else if h : n < 2 then (e, e, false)
  else if m ≤ sp n then
    ((roots m (sp n) whole one p.dropLast).1, nd (roots m (sp n) whole one p.dropLast).2.1 (p.getLastD e), (roots m (sp n) whole one p.dropLast).2.2)
  else (nd (p.getLastD e) (roots (m - sp n) (n - sp n) false one p.dropLast).1, nd (p.getLastD e) (roots (m - sp n) (n - sp n) false one p.dropLast).2.1, (roots (m - sp n) (n - sp n) false one p.dropLast).2.2)
termination_by n
decreasing_by
  all_goals
    have a := sp_lt (n := n) (by omega)
    have b := sp_pos (n := n) (by omega)
    omega
theorem roots_whole (n : Nat) (one : α) (p : List α) : roots nd e n n true one p = (one, one, decide (p.length = 0)) := by rw [roots, if_pos rfl, if_pos rfl]
theorem roots_one (n : Nat) (one x : α) : roots nd e n n false one [x] = (x, x, true) := by rw [roots, if_pos rfl, if_neg (by decide), if_pos (by rfl)]; rfl
theorem roots_bad (n : Nat) (one : α) (p : List α) (h : p.length ≠ 1) : roots nd e n n false one p = (e, e, false) := by rw [roots, if_pos rfl, if_neg (by decide), if_neg h]
theorem roots_nil {m n : Nat} (hm : m ≠ n) (whole : Bool) (one : α) : roots nd e m n whole one [] = (e, e, false) := by rw [roots, if_neg hm, if_pos (by rfl)]
theorem roots_left {m n : Nat} (h : 2 ≤ n) (hm : m ≠ n) (hk : m ≤ sp n) (whole : Bool) (one : α) (q : List α) (d : α) :
    roots nd e m n whole one (q ++ [d]) = ((roots nd e m (sp n) whole one q).1, nd (roots nd e m (sp n) whole one q).2.1 d, (roots nd e m (sp n) whole one q).2.2) := by
  have h1 : (q ++ [d]).dropLast = q := List.dropLast_concat
  have h2 : (q ++ [d]).getLastD e = d := by simp
  rw [roots, if_neg hm, if_neg (by simp), dif_neg (by omega), if_pos hk, h1, h2]
theorem roots_right {m n : Nat} (h : 2 ≤ n) (hm : m ≠ n) (hk : ¬ m ≤ sp n) (whole : Bool) (one : α) (q : List α) (d : α) :
    roots nd e m n whole one (q ++ [d]) = (nd d (roots nd e (m - sp n) (n - sp n) false one q).1, nd d (roots nd e (m - sp n) (n - sp n) false one q).2.1, (roots nd e (m - sp n) (n - sp n) false one q).2.2) := by
  have h1 : (q ++ [d]).dropLast = q := List.dropLast_concat
  have h2 : (q ++ [d]).getLastD e = d := by simp
  rw [roots, if_neg hm, if_neg (by simp), dif_neg (by omega), if_neg hk, h1, h2]
/-- Upwards from the first of the digests. -/
def up (es : List Bool) : List α → Option (α × α)
  | [] => none
  | x :: xs => run nd x x es xs
theorem up_snoc (es : List Bool) (s : Bool) (q : List α) (d : α) : up nd (es ++ [s]) (q ++ [d]) = (up nd es q).map fun r => if s then (nd d r.1, nd d r.2) else (r.1, nd r.2 d) := by
  cases q with
  | nil => exact run_none nd _ _ _ (by simp)
  | cons x xs => exact run_snoc nd es xs x x s d
theorem roots_up : ∀ (k m n : Nat) (whole : Bool) (one : α) (p : List α), n ≤ k → 1 ≤ m → m ≤ n →
    up nd (ss m n).reverse (if whole && allL (ss m n) then one :: p else p) = if (roots nd e m n whole one p).2.2 then some ((roots nd e m n whole one p).1, (roots nd e m n whole one p).2.1) else none
  | 0, m, n, whole, one, p, h, h1, h2 => by omega
  | k + 1, m, n, whole, one, p, h, h1, h2 => by
    by_cases he : m = n
    · subst he
      rw [ss_end]
      cases whole with
      | true =>
        rw [roots_whole]
        cases p <;> rfl
      | false =>
        match p with
        | [] => rw [roots_bad nd e _ _ _ (by simp)]; rfl
        | [x] => rw [roots_one]; rfl
        | x :: y :: r => rw [roots_bad nd e _ _ _ (by simp)]; rfl
    · have hn : 2 ≤ n := by omega
      have a := sp_lt hn
      have b := sp_pos hn
      rcases List.eq_nil_or_concat p with rfl | ⟨q, d, rfl⟩
      · rw [roots_nil nd e he]
        by_cases hk : m ≤ sp n
        · rw [ss_left hn he hk, List.reverse_cons]
          split
          · exact run_none nd _ _ _ (by simp)
          · rfl
        · rw [ss_right hn he hk, List.reverse_cons]
          split
          · exact run_none nd _ _ _ (by simp)
          · rfl
      · by_cases hk : m ≤ sp n
        · have ih := roots_up k m (sp n) whole one q (by omega) h1 hk
          rw [ss_left hn he hk, List.reverse_cons, List.concat_eq_append, roots_left nd e hn he hk]
          rw [show (whole && allL (false :: ss m (sp n))) = (whole && allL (ss m (sp n))) by simp [allL]]
          rw [show (if (whole && allL (ss m (sp n))) = true then one :: (q ++ [d]) else q ++ [d]) = (if (whole && allL (ss m (sp n))) = true then one :: q else q) ++ [d] by split <;> rfl]
          rw [up_snoc, ih]
          cases (roots nd e m (sp n) whole one q).2.2 <;> rfl
        · have ih := roots_up k (m - sp n) (n - sp n) false one q (by omega) (by omega) (by omega)
          rw [ss_right hn he hk, List.reverse_cons, List.concat_eq_append, roots_right nd e hn he hk]
          rw [show (whole && allL (true :: ss (m - sp n) (n - sp n))) = false by simp [allL]]
          rw [if_neg (by decide), up_snoc]
          rw [Bool.false_and, if_neg (by decide)] at ih
          rw [ih]
          cases (roots nd e (m - sp n) (n - sp n) false one q).2.2 <;> rfl
/-- A proof for the first m of a list. -/
def part (l : List α) (m : Nat) (whole : Bool) : List α :=
  if m = l.length then (if whole then [] else [root nd e l])
  else if h : l.length < 2 then [] else if m ≤ sp l.length then part (l.take (sp l.length)) m whole ++ [root nd e (l.drop (sp l.length))]
  else part (l.drop (sp l.length)) (m - sp l.length) false ++ [root nd e (l.take (sp l.length))]
termination_by l.length
decreasing_by
  · have := sp_lt (n := l.length) (by omega)
    rw [List.length_take]; omega
  · have := sp_pos (n := l.length) (by omega)
    rw [List.length_drop]; omega
theorem part_end (l : List α) (whole : Bool) : part nd e l l.length whole = if whole then [] else [root nd e l] := by rw [part, if_pos rfl]
theorem part_left {l : List α} {m : Nat} (h : 2 ≤ l.length) (hm : m ≠ l.length) (hk : m ≤ sp l.length) (whole : Bool) : part nd e l m whole = part nd e (l.take (sp l.length)) m whole ++ [root nd e (l.drop (sp l.length))] := by
  rw [part, if_neg hm, dif_neg (by omega), if_pos hk]
theorem part_right {l : List α} {m : Nat} (h : 2 ≤ l.length) (hm : m ≠ l.length) (hk : ¬ m ≤ sp l.length) (whole : Bool) : part nd e l m whole = part nd e (l.drop (sp l.length)) (m - sp l.length) false ++ [root nd e (l.take (sp l.length))] := by
  rw [part, if_neg hm, dif_neg (by omega), if_neg hk]
theorem part_all (q : α → Prop) (hq : ∀ l : List α, (∀ s ∈ l, q s) → q (root nd e l)) : ∀ (k : Nat) (l : List α) (m : Nat) (whole : Bool), l.length ≤ k → 1 ≤ m → m ≤ l.length → (∀ s ∈ l, q s) → ∀ s ∈ part nd e l m whole, q s
  | 0, l, m, whole, h, h1, h2, _ => by omega
  | k + 1, l, m, whole, h, h1, h2, hl => by
    by_cases he : m = l.length
    · subst he
      rw [part_end]
      intro s hs
      split at hs
      · cases hs
      · rw [List.mem_singleton] at hs; subst hs; exact hq l hl
    · have a := sp_lt (n := l.length) (by omega)
      have b := sp_pos (n := l.length) (by omega)
      intro s hs
      by_cases hk : m ≤ sp l.length
      · rw [part_left nd e (by omega) he hk, List.mem_append, List.mem_singleton] at hs
        rcases hs with hs | rfl
        · exact part_all q hq k _ m whole (by rw [List.length_take]; omega) h1 (by rw [List.length_take]; omega) (fun s hs => hl s (List.mem_of_mem_take hs)) s hs
        · exact hq _ fun s hs => hl s (List.mem_of_mem_drop hs)
      · rw [part_right nd e (by omega) he hk, List.mem_append, List.mem_singleton] at hs
        rcases hs with hs | rfl
        · exact part_all q hq k _ (m - sp l.length) false (by rw [List.length_drop]; omega) (by omega) (by rw [List.length_drop]; omega) (fun s hs => hl s (List.mem_of_mem_drop hs)) s hs
        · exact hq _ fun s hs => hl s (List.mem_of_mem_take hs)
theorem part_len : ∀ (k : Nat) (l : List α) (m : Nat) (whole : Bool), l.length ≤ k → 1 ≤ m → m ≤ l.length → (part nd e l m whole).length ≤ l.length
  | 0, l, m, whole, h, h1, h2 => by omega
  | k + 1, l, m, whole, h, h1, h2 => by
    by_cases he : m = l.length
    · subst he
      rw [part_end]
      split <;> simp <;> omega
    · have a := sp_lt (n := l.length) (by omega)
      have b := sp_pos (n := l.length) (by omega)
      by_cases hk : m ≤ sp l.length
      · have := part_len k (l.take (sp l.length)) m whole (by rw [List.length_take]; omega) h1 (by rw [List.length_take]; omega)
        rw [List.length_take] at this
        rw [part_left nd e (by omega) he hk, List.length_append, List.length_singleton]; omega
      · have := part_len k (l.drop (sp l.length)) (m - sp l.length) false (by rw [List.length_drop]; omega) (by omega) (by rw [List.length_drop]; omega)
        rw [List.length_drop] at this
        rw [part_right nd e (by omega) he hk, List.length_append, List.length_singleton]; omega
/-- An honest proof leads to both roots. -/
theorem roots_part : ∀ (k : Nat) (l : List α) (m : Nat) (whole : Bool) (one : α), l.length ≤ k → 1 ≤ m → m ≤ l.length → (whole = true → one = root nd e (l.take m)) →
    roots nd e m l.length whole one (part nd e l m whole) = (root nd e (l.take m), root nd e l, true)
  | 0, l, m, whole, one, h, h1, h2, _ => by omega
  | k + 1, l, m, whole, one, h, h1, h2, h3 => by
    by_cases he : m = l.length
    · subst he
      rw [part_end, List.take_length]
      cases whole with
      | true => rw [roots_whole, h3 rfl, List.take_length]; rfl
      | false => exact roots_one nd e _ _ _
    · have hn : 2 ≤ l.length := by omega
      have a := sp_lt hn
      have b := sp_pos hn
      by_cases hk : m ≤ sp l.length
      · have hl : (l.take (sp l.length)).length = sp l.length := by rw [List.length_take]; omega
        have ht : (l.take (sp l.length)).take m = l.take m := by rw [List.take_take, Nat.min_eq_left hk]
        have ih := roots_part k (l.take (sp l.length)) m whole one (by omega) h1 (by omega) (by rw [ht]; exact h3)
        rw [hl, ht] at ih
        rw [part_left nd e hn he hk, roots_left nd e hn he hk, ih, root_two nd e hn]
      · have hl : (l.drop (sp l.length)).length = l.length - sp l.length := List.length_drop
        have ih := roots_part k (l.drop (sp l.length)) (m - sp l.length) false one (by omega) (by omega) (by omega) (by intro h; cases h)
        rw [hl] at ih
        rw [part_right nd e hn he hk, roots_right nd e hn he hk, ih, ← root_two nd e hn]
        obtain ⟨t, p1, p2, p3⟩ := sp_spec hn
        have hm2 : (l.take m).length = m := by rw [List.length_take]; omega
        have hsp : sp m = sp l.length := by
          rw [p1]
          rw [p1] at hk p2 p3
          exact sp_of (by omega) (by rw [Nat.pow_succ]; omega)
        rw [root_two nd e (l := l.take m) (by omega), hm2, hsp, List.take_take, Nat.min_eq_left (by omega), List.drop_take]
end
end Cons
end Go.Proofs.YtlcdpbpbfofmmaaDoor
