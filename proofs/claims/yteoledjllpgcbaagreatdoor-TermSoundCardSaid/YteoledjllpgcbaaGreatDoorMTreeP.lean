/- MTreeP: several texts of this claim in one file. No statement of the seat is proved here. -/
import Derived.Test.YteoledjllpgcbaaGreatDoorMBase
namespace Go.Proofs.YteoledjllpgcbaaGreatDoor
set_option maxRecDepth 100000
set_option maxHeartbeats 64000000
namespace Tree
def sf : Nat → Nat → Nat → Nat
 | 0, k, _ => k
 | f + 1, k, n => if 2 * k < n then sf f (2 * k) n else k
def sp (n : Nat) : Nat := if n < 2 then 0 else sf n 1 n
theorem sf_spec : ∀ (f k n : Nat), 1 ≤ k → k < n → n ≤ k + f → ∃ i, sf f k n = k * 2 ^ i ∧ sf f k n < n ∧ n ≤ 2 * sf f k n
 | 0, k, n, _, h2, h3 => by omega
 | f + 1, k, n, h1, h2, h3 => by
  unfold sf
  by_cases h : 2 * k < n
  ·
   rw [if_pos h]
   obtain ⟨i, a, b, c⟩ := sf_spec f (2 * k) n (by omega) h (by omega)
   exact ⟨i + 1, by rw [a, Nat.pow_succ]; rw [Nat.mul_comm 2 k, Nat.mul_assoc, Nat.mul_comm 2 (2 ^ i)], b, c⟩
  ·
   rw [if_neg h]
   exact ⟨0, by simp, h2, by omega⟩
theorem sp_spec {n : Nat} (h : 2 ≤ n) : ∃ i, sp n = 2 ^ i ∧ sp n < n ∧ n ≤ 2 * sp n := by
 unfold sp
 rw [if_neg (by omega)]
 obtain ⟨i, a, b, c⟩ := sf_spec n 1 n (Nat.le_refl _) (by omega) (by omega)
 exact ⟨i, by rw [a, Nat.one_mul], b, c⟩
theorem sp_lt {n : Nat} (h : 2 ≤ n) : sp n < n := by obtain ⟨i, a, b, c⟩ := sp_spec h; exact b
theorem sp_pos {n : Nat} (h : 2 ≤ n) : 1 ≤ sp n := by obtain ⟨i, a, b, c⟩ := sp_spec h; omega
theorem sp_of {n t : Nat} (h1 : 2 ^ t < n) (h2 : n ≤ 2 ^ (t + 1)) : sp n = 2 ^ t := by
 have hp : 1 ≤ 2 ^ t := Nat.one_le_two_pow
 obtain ⟨i, a, b, c⟩ := sp_spec (n := n) (by omega)
 rw [a] at b c ⊢
 have e1 : i < t + 1 := (Nat.pow_lt_pow_iff_right (by omega : 1 < 2)).1 (by omega)
 have e2 : t < i + 1 := (Nat.pow_lt_pow_iff_right (by omega : 1 < 2)).1 (by rw [Nat.pow_succ 2 i]; omega)
 rw [show i = t by omega]
section
variable {α : Type} (nd : α → α → α) (e : α)
def root (l : List α) : α :=
 match l with
 | [] => e
 | [x] => x
 | x :: y :: r => nd (root ((x :: y :: r).take (sp (x :: y :: r).length))) (root ((x :: y :: r).drop (sp (x :: y :: r).length)))
termination_by l.length
decreasing_by
 ·
  have h := sp_lt (n := (x :: y :: r).length) (by simp)
  rw [List.length_take]; omega
 ·
  have h := sp_pos (n := (x :: y :: r).length) (by simp)
  rw [List.length_drop]; simp only [List.length_cons] at h ⊢; omega
theorem root_nil : root nd e [] = e := by rw [root]
theorem root_one (x : α) : root nd e [x] = x := by rw [root]
theorem root_two {l : List α} (h : 2 ≤ l.length) : root nd e l = nd (root nd e (l.take (sp l.length))) (root nd e (l.drop (sp l.length))) := by
 match l, h with
 | [], h => simp at h
 | [x], h => simp at h
 | x :: y :: r, h => rw [root]
theorem root_len1 {l : List α} {x : α} (h : l.length = 1) (hx : l[0]? = some x) : root nd e l = x := by
 match l, h with
 | [y], _ => simp at hx; rw [root_one, hx]
def R (l : List α) (s m : Nat) : α := root nd e ((l.drop s).take m)
theorem R_two {l : List α} {s t m : Nat} (hm : 0 < m) (hmt : m ≤ 2 ^ t) (hl : s + (2 ^ t + m) ≤ l.length) : R nd e l s (2 ^ t + m) = nd (R nd e l s (2 ^ t)) (R nd e l (s + 2 ^ t) m) := by
 have hp : 1 ≤ 2 ^ t := Nat.one_le_two_pow
 have hlen : ((l.drop s).take (2 ^ t + m)).length = 2 ^ t + m := by rw [List.length_take, List.length_drop]; omega
 unfold R
 rw [root_two nd e (l := (l.drop s).take (2 ^ t + m)) (by omega), hlen, sp_of (t := t) (by omega) (by rw [Nat.pow_succ]; omega)]
 rw [List.take_take, Nat.min_eq_left (by omega), List.drop_take, List.drop_drop, Nat.add_sub_cancel_left]
theorem R_all (l : List α) : R nd e l 0 l.length = root nd e l := by unfold R; rw [List.drop_zero, List.take_length]
theorem R_one {l : List α} {s : Nat} {x : α} (h : l[s]? = some x) : R nd e l s 1 = x := by
 unfold R
 obtain ⟨hs, hx⟩ := List.getElem?_eq_some_iff.1 h
 rw [List.drop_eq_getElem_cons hs, hx, List.take_succ_cons, List.take_zero, root_one]
def P (l : List α) (j t : Nat) : List α :=
 if j = 0 then [] else if j % 2 = 1 then P l (j / 2) (t + 1) ++ [R nd e l ((j - 1) * 2 ^ t) (2 ^ t)] else P l (j / 2) (t + 1)
termination_by j
theorem P_zero (l : List α) (t : Nat) : P nd e l 0 t = [] := by rw [P, if_pos rfl]
theorem P_odd (l : List α) (j t : Nat) (h : j % 2 = 1) : P nd e l j t = P nd e l (j / 2) (t + 1) ++ [R nd e l ((j - 1) * 2 ^ t) (2 ^ t)] := by
 rw [P, if_neg (by omega), if_pos h]
theorem P_even (l : List α) (j t : Nat) (h : j % 2 = 0) : P nd e l j t = P nd e l (j / 2) (t + 1) := by
 by_cases h0 : j = 0
 · subst h0; rw [P_zero, P_zero]
 · rw [P, if_neg h0, if_neg (by omega)]
theorem P_up (l : List α) : ∀ (t m s : Nat), P nd e l (m * 2 ^ t) s = P nd e l m (s + t)
 | 0, m, s => by rw [Nat.pow_zero, Nat.mul_one, Nat.add_zero]
 | t + 1, m, s => by
  rw [P_even nd e l _ s (by rw [Nat.pow_succ, ← Nat.mul_assoc]; omega), show m * 2 ^ (t + 1) / 2 = m * 2 ^ t by rw [Nat.pow_succ, ← Nat.mul_assoc, Nat.mul_div_cancel _ (by omega)], P_up l t m (s + 1), show s + 1 + t = s + (t + 1) by omega]
structure Stk (l : List α) (i j t : Nat) (st : List α) : Prop where
 st : st = P nd e l j t ++ [R nd e l (j * 2 ^ t) (2 ^ t)]
 i : i + 1 = (j + 1) * 2 ^ t
theorem Stk.start {l : List α} {i : Nat} {x : α} (hx : l[i]? = some x) : Stk nd e l i i 0 (P nd e l i 0 ++ [x]) :=
 ⟨by rw [Nat.pow_zero, Nat.mul_one, R_one nd e hx], by simp⟩
theorem Stk.step {l : List α} {i j t : Nat} {st : List α} (h : Stk nd e l i j t st) (hi : i < l.length) (hj : j % 2 = 1) :
  ∃ S a b, st = S ++ [a, b] ∧ Stk nd e l i (j / 2) (t + 1) (S ++ [nd a b]) := by
 refine ⟨P nd e l (j / 2) (t + 1), R nd e l ((j - 1) * 2 ^ t) (2 ^ t), R nd e l (j * 2 ^ t) (2 ^ t), ?_, ?_, ?_⟩
 · rw [h.st, P_odd nd e l j t hj, List.append_assoc]; rfl
 ·
  have hp : 1 ≤ 2 ^ t := Nat.one_le_two_pow
  obtain ⟨q, hq⟩ : ∃ q, j = 2 * q + 1 := ⟨j / 2, by omega⟩
  have hi' := h.i
  subst hq
  have e1 : (2 * q + 1 - 1) * 2 ^ t = (2 * q + 1) / 2 * 2 ^ (t + 1) := by rw [Nat.pow_succ, show (2 * q + 1) / 2 = q by omega, show 2 * q + 1 - 1 = 2 * q by omega, Nat.mul_comm 2 q, Nat.mul_assoc, Nat.mul_comm 2]
  have e2 : (2 * q + 1) * 2 ^ t = (2 * q + 1 - 1) * 2 ^ t + 2 ^ t := by rw [show 2 * q + 1 - 1 = 2 * q by omega, Nat.add_mul, Nat.one_mul]
  have e3 : (2 * q + 1 + 1) * 2 ^ t = (2 * q + 1 - 1) * 2 ^ t + (2 ^ t + 2 ^ t) := by rw [show 2 * q + 1 - 1 = 2 * q by omega, show 2 * q + 1 + 1 = 2 * q + 2 by omega, Nat.add_mul, Nat.two_mul (2 ^ t)]
  rw [e2, ← R_two nd e (l := l) (s := (2 * q + 1 - 1) * 2 ^ t) (t := t) (m := 2 ^ t) (by omega) (Nat.le_refl _) (by omega), e1, show 2 ^ t + 2 ^ t = 2 ^ (t + 1) by rw [Nat.pow_succ]; omega]
 · rw [h.i, Nat.pow_succ, Nat.mul_comm (2 ^ t) 2, ← Nat.mul_assoc]; congr 1; omega
theorem Stk.done {l : List α} {i j t : Nat} {st : List α} (h : Stk nd e l i j t st) (hj : j % 2 = 0) : st = P nd e l (i + 1) 0 := by
 rw [h.i, P_up nd e l t (j + 1) 0, Nat.zero_add, P_odd nd e l (j + 1) t (by omega), show (j + 1) / 2 = j / 2 by omega, Nat.add_sub_cancel, h.st, P_even nd e l j t hj]
def fr : List α → α
 | [] => e
 | [x] => x
 | x :: y :: r => nd x (fr (y :: r))
theorem fr_step : ∀ (S : List α) (a b : α), fr nd e (S ++ [a, b]) = fr nd e (S ++ [nd a b])
 | [], a, b => rfl
 | [x], a, b => rfl
 | x :: y :: r, a, b => by
  have := fr_step (y :: r) a b
  simp only [List.cons_append, fr] at this ⊢
  rw [this]
theorem fr_P (l : List α) : ∀ (k j t m : Nat), j ≤ k → 0 < m → m ≤ 2 ^ t → j * 2 ^ t + m ≤ l.length → fr nd e (P nd e l j t ++ [R nd e l (j * 2 ^ t) m]) = R nd e l 0 (j * 2 ^ t + m)
 | 0, j, t, m, hj, _, _, _ => by
  obtain rfl : j = 0 := by omega
  rw [P_zero, Nat.zero_mul, Nat.zero_add]; rfl
 | k + 1, j, t, m, hj, h0, h1, h2 => by
  by_cases hj0 : j = 0
  ·
   subst hj0
   rw [P_zero, Nat.zero_mul, Nat.zero_add]; rfl
  ·
   by_cases ho : j % 2 = 1
   ·
    obtain ⟨q, rfl⟩ : ∃ q, j = 2 * q + 1 := ⟨j / 2, by omega⟩
    have e1 : (2 * q + 1 - 1) * 2 ^ t = q * 2 ^ (t + 1) := by rw [Nat.pow_succ, show 2 * q + 1 - 1 = 2 * q by omega, Nat.mul_comm 2 q, Nat.mul_assoc, Nat.mul_comm 2]
    have e2 : (2 * q + 1) * 2 ^ t = q * 2 ^ (t + 1) + 2 ^ t := by rw [← e1, show 2 * q + 1 - 1 = 2 * q by omega, Nat.add_mul, Nat.one_mul]
    rw [P_odd nd e l _ t ho, List.append_assoc]
    rw [show ([R nd e l ((2 * q + 1 - 1) * 2 ^ t) (2 ^ t)] ++ [R nd e l ((2 * q + 1) * 2 ^ t) m] : List α) = [R nd e l ((2 * q + 1 - 1) * 2 ^ t) (2 ^ t), R nd e l ((2 * q + 1) * 2 ^ t) m] from rfl, fr_step, e1, e2, ← R_two nd e h0 h1 (by omega), show (2 * q + 1) / 2 = q by omega, fr_P l k q (t + 1) (2 ^ t + m) (by omega) (by omega) (by rw [Nat.pow_succ]; omega) (by omega), Nat.add_assoc]
   ·
    obtain ⟨q, rfl⟩ : ∃ q, j = 2 * q := ⟨j / 2, by omega⟩
    have e1 : (2 * q) * 2 ^ t = q * 2 ^ (t + 1) := by rw [Nat.pow_succ, Nat.mul_comm 2 q, Nat.mul_assoc, Nat.mul_comm 2]
    rw [P_even nd e l _ t (by omega), e1, show 2 * q / 2 = q by omega, fr_P l k q (t + 1) m (by omega) h0 (by rw [Nat.pow_succ]; omega) (by rw [← e1]; exact h2)]
theorem P_last (l : List α) : ∀ (k j t : Nat), j ≤ k → 0 < j → ∃ q s m, P nd e l j t = P nd e l q s ++ [R nd e l (q * 2 ^ s) m] ∧ 0 < m ∧ m ≤ 2 ^ s ∧ q * 2 ^ s + m = j * 2 ^ t
 | 0, j, t, h, h0 => by omega
 | k + 1, j, t, h, h0 => by
  by_cases ho : j % 2 = 1
  ·
   obtain ⟨q, rfl⟩ : ∃ q, j = 2 * q + 1 := ⟨j / 2, by omega⟩
   have e1 : (2 * q + 1 - 1) * 2 ^ t = q * 2 ^ (t + 1) := by rw [Nat.pow_succ, show 2 * q + 1 - 1 = 2 * q by omega, Nat.mul_comm 2 q, Nat.mul_assoc, Nat.mul_comm 2]
   have e2 : (2 * q + 1) * 2 ^ t = q * 2 ^ (t + 1) + 2 ^ t := by rw [← e1, show 2 * q + 1 - 1 = 2 * q by omega, Nat.add_mul, Nat.one_mul]
   exact ⟨q, t + 1, 2 ^ t, by rw [P_odd nd e l _ t ho, show (2 * q + 1) / 2 = q by omega, e1], Nat.two_pow_pos t, by rw [Nat.pow_succ]; omega, e2.symm⟩
  ·
   obtain ⟨q, rfl⟩ : ∃ q, j = 2 * q := ⟨j / 2, by omega⟩
   have e1 : (2 * q) * 2 ^ t = q * 2 ^ (t + 1) := by rw [Nat.pow_succ, Nat.mul_comm 2 q, Nat.mul_assoc, Nat.mul_comm 2]
   obtain ⟨q', s, m, a, b, c, d⟩ := P_last l k q (t + 1) (by omega) (by omega)
   exact ⟨q', s, m, by rw [P_even nd e l _ t (by omega), show 2 * q / 2 = q by omega, a], b, c, by rw [e1]; exact d⟩
theorem fr_root (l : List α) (h : 0 < l.length) : fr nd e (P nd e l l.length 0) = root nd e l := by
 obtain ⟨q, s, m, a, b, c, d⟩ := P_last nd e l _ l.length 0 (Nat.le_refl _) h
 rw [Nat.pow_zero, Nat.mul_one] at d
 rw [a, fr_P nd e l q q s m (Nat.le_refl _) b c (by omega), d, R_all]
theorem P_ne (l : List α) (j t : Nat) (h : 0 < j) : P nd e l j t ≠ [] := by
 obtain ⟨q, s, m, a, _⟩ := P_last nd e l j j t (Nat.le_refl _) h
 rw [a]; simp
end
end Tree
set_option linter.unusedVariables false
namespace Tree
section
variable {α : Type} (nd : α → α → α) (e : α)
def path (l : List α) (i : Nat) : List α :=
 if h : l.length < 2 then [] else
 if i < sp l.length then path (l.take (sp l.length)) i ++ [root nd e (l.drop (sp l.length))]
 else path (l.drop (sp l.length)) (i - sp l.length) ++ [root nd e (l.take (sp l.length))]
termination_by l.length
decreasing_by
 ·
  have := sp_lt (n := l.length) (by omega)
  rw [List.length_take]; omega
 ·
  have := sp_pos (n := l.length) (by omega)
  rw [List.length_drop]; omega
theorem path_small {l : List α} {i : Nat} (h : l.length < 2) : path nd e l i = [] := by rw [path, dif_pos h]
theorem path_left {l : List α} {i : Nat} (h : 2 ≤ l.length) (hi : i < sp l.length) : path nd e l i = path nd e (l.take (sp l.length)) i ++ [root nd e (l.drop (sp l.length))] := by
 rw [path, dif_neg (by omega), if_pos hi]
theorem path_right {l : List α} {i : Nat} (h : 2 ≤ l.length) (hi : ¬ i < sp l.length) : path nd e l i = path nd e (l.drop (sp l.length)) (i - sp l.length) ++ [root nd e (l.take (sp l.length))] := by
 rw [path, dif_neg (by omega), if_neg hi]
def sides (i n : Nat) : List Bool :=
 if h : n < 2 then [] else
 if i < sp n then false :: sides i (sp n) else true :: sides (i - sp n) (n - sp n)
termination_by n
decreasing_by
 · exact sp_lt (by omega)
 · have := sp_pos (n := n) (by omega); omega
theorem sides_small {i n : Nat} (h : n < 2) : sides i n = [] := by rw [sides, dif_pos h]
theorem sides_left {i n : Nat} (h : 2 ≤ n) (hi : i < sp n) : sides i n = false :: sides i (sp n) := by rw [sides, dif_neg (by omega), if_pos hi]
theorem sides_right {i n : Nat} (h : 2 ≤ n) (hi : ¬ i < sp n) : sides i n = true :: sides (i - sp n) (n - sp n) := by rw [sides, dif_neg (by omega), if_neg hi]
def clb (leaf : α) : List Bool → List α → α
 | [], _ => leaf
 | s :: ss, p => if s then nd (p.getLastD e) (clb leaf ss p.dropLast) else nd (clb leaf ss p.dropLast) (p.getLastD e)
theorem clb_snoc (leaf : α) (s : Bool) (ss : List Bool) (p : List α) (x : α) : clb nd e leaf (s :: ss) (p ++ [x]) = if s then nd x (clb nd e leaf ss p) else nd (clb nd e leaf ss p) x := by
 have h1 : (p ++ [x]).dropLast = p := List.dropLast_concat
 have h2 : (p ++ [x]).getLastD e = x := by simp
 rw [clb, h1, h2]
theorem clb_next (leaf : α) {S : List Bool} {p : List α} {j : Nat} {s : Bool} {x : α} (hl : S.length = p.length) (hj : j < p.length) (hs : S[S.length - 1 - j]? = some s) (hx : p[j]? = some x) :
  clb nd e leaf (S.drop (S.length - (j + 1))) (p.take (j + 1)) = if s then nd x (clb nd e leaf (S.drop (S.length - j)) (p.take j)) else nd (clb nd e leaf (S.drop (S.length - j)) (p.take j)) x := by
 obtain ⟨h1, h2⟩ := List.getElem?_eq_some_iff.1 hs
 have e1 : S.drop (S.length - (j + 1)) = s :: S.drop (S.length - j) := by
  rw [show S.length - (j + 1) = S.length - 1 - j by omega, List.drop_eq_getElem_cons h1, h2, show S.length - 1 - j + 1 = S.length - j by omega]
 rw [e1, List.take_add_one, hx, Option.toList_some, clb_snoc]
theorem path_len : ∀ (k : Nat) (l : List α) (i : Nat), l.length ≤ k → i < l.length → (path nd e l i).length = (sides i l.length).length
 | 0, l, i, h, hi => by omega
 | k + 1, l, i, h, hi => by
  by_cases h2 : l.length < 2
  · rw [path_small nd e h2, sides_small h2]; rfl
  ·
   have a := sp_lt (n := l.length) (by omega)
   have b := sp_pos (n := l.length) (by omega)
   by_cases hs : i < sp l.length
   ·
    have e1 : (l.take (sp l.length)).length = sp l.length := by rw [List.length_take]; omega
    have ih := path_len k (l.take (sp l.length)) i (by omega) (by omega)
    rw [path_left nd e (by omega) hs, sides_left (by omega) hs, List.length_append, ih, e1]; rfl
   ·
    have e1 : (l.drop (sp l.length)).length = l.length - sp l.length := List.length_drop
    have ih := path_len k (l.drop (sp l.length)) (i - sp l.length) (by omega) (by omega)
    rw [path_right nd e (by omega) hs, sides_right (by omega) hs, List.length_append, ih, e1]; rfl
theorem path_all (q : α → Prop) (hq : ∀ l : List α, (∀ s ∈ l, q s) → q (root nd e l)) : ∀ (k : Nat) (l : List α) (i : Nat), l.length ≤ k → (∀ s ∈ l, q s) → ∀ s ∈ path nd e l i, q s
 | 0, l, i, h, _, s, hs => by rw [path_small nd e (by omega)] at hs; simp at hs
 | k + 1, l, i, h, hl, s, hs => by
  by_cases h2 : l.length < 2
  · rw [path_small nd e h2] at hs; simp at hs
  ·
   have a := sp_lt (n := l.length) (by omega)
   have b := sp_pos (n := l.length) (by omega)
   by_cases hc : i < sp l.length
   ·
    rw [path_left nd e (by omega) hc, List.mem_append, List.mem_singleton] at hs
    rcases hs with hs | rfl
    · exact path_all q hq k _ i (by rw [List.length_take]; omega) (fun s hs => hl s (List.mem_of_mem_take hs)) s hs
    · exact hq _ fun s hs => hl s (List.mem_of_mem_drop hs)
   ·
    rw [path_right nd e (by omega) hc, List.mem_append, List.mem_singleton] at hs
    rcases hs with hs | rfl
    · exact path_all q hq k _ _ (by rw [List.length_drop]; omega) (fun s hs => hl s (List.mem_of_mem_drop hs)) s hs
    · exact hq _ fun s hs => hl s (List.mem_of_mem_take hs)
theorem climb_path : ∀ (k : Nat) (l : List α) (i : Nat) (x : α), l.length ≤ k → l[i]? = some x → clb nd e x (sides i l.length) (path nd e l i) = root nd e l
 | 0, l, i, x, h, hx => by have := (List.getElem?_eq_some_iff.1 hx).1; omega
 | k + 1, l, i, x, h, hx => by
  have hi := (List.getElem?_eq_some_iff.1 hx).1
  by_cases h2 : l.length < 2
  ·
   rw [sides_small h2]
   obtain rfl : i = 0 := by omega
   exact (root_len1 nd e (by omega) hx).symm
  ·
   have a := sp_lt (n := l.length) (by omega)
   have b := sp_pos (n := l.length) (by omega)
   by_cases hc : i < sp l.length
   ·
    have e1 : (l.take (sp l.length)).length = sp l.length := by rw [List.length_take]; omega
    have ih := climb_path k (l.take (sp l.length)) i x (by omega) (by rw [List.getElem?_take, if_pos hc]; exact hx)
    rw [e1] at ih
    rw [path_left nd e (by omega) hc, sides_left (by omega) hc, clb_snoc, if_neg (by decide), ih, root_two nd e (l := l) (by omega)]
   ·
    have e1 : (l.drop (sp l.length)).length = l.length - sp l.length := List.length_drop
    have ih := climb_path k (l.drop (sp l.length)) (i - sp l.length) x (by omega) (by rw [List.getElem?_drop, show sp l.length + (i - sp l.length) = i by omega]; exact hx)
    rw [e1] at ih
    rw [path_right nd e (by omega) hc, sides_right (by omega) hc, clb_snoc, if_pos rfl, ih, root_two nd e (l := l) (by omega)]
end
theorem sides_len : ∀ (k i n : Nat), n ≤ k → i < n → (sides i n).length ≤ 2 * n
 | 0, i, n, h, hi => by omega
 | k + 1, i, n, h, hi => by
  by_cases h2 : n < 2
  · rw [sides_small h2]; simp
  ·
   have a := sp_lt (n := n) (by omega)
   have b := sp_pos (n := n) (by omega)
   by_cases hc : i < sp n
   ·
    rw [sides_left (by omega) hc, List.length_cons]
    have := sides_len k i (sp n) (by omega) hc
    omega
   ·
    rw [sides_right (by omega) hc, List.length_cons]
    have := sides_len k (i - sp n) (n - sp n) (by omega) (by omega)
    omega
theorem sides_log : ∀ (t i n : Nat), n ≤ 2 ^ t → i < n → (sides i n).length ≤ t
 | 0, i, n, h, hi => by
  rw [Nat.pow_zero] at h
  rw [sides_small (by omega)]; simp
 | t + 1, i, n, h, hi => by
  by_cases h2 : n < 2
  · rw [sides_small h2]; simp
  ·
   obtain ⟨q, a, b, c⟩ := sp_spec (n := n) (by omega)
   have hq : q ≤ t := by
    have : 2 ^ q < 2 ^ (t + 1) := by omega
    have := (Nat.pow_lt_pow_iff_right (by omega : 1 < 2)).1 this
    omega
   have hle : sp n ≤ 2 ^ t := by rw [a]; exact Nat.pow_le_pow_right (by omega) hq
   by_cases hc : i < sp n
   ·
    rw [sides_left (by omega) hc, List.length_cons]
    have := sides_log t i (sp n) hle hc
    omega
   ·
    rw [sides_right (by omega) hc, List.length_cons]
    have := sides_log t (i - sp n) (n - sp n) (by omega) (by omega)
    omega
end Tree
end Go.Proofs.YteoledjllpgcbaaGreatDoor
