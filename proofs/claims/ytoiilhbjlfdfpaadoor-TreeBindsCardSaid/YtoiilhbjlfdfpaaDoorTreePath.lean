/- Paths, sides and climbing, in plain words. No program in sight. -/
import Derived.Test.YtoiilhbjlfdfpaaDoorTreePlain
namespace Go.Proofs.YtoiilhbjlfdfpaaDoor
set_option linter.unusedVariables false
namespace Tree
section
variable {α : Type} (nd : α → α → α) (e : α)
/-- The path of a place. -/
def path (l : List α) (i : Nat) : List α :=
  if h : l.length < 2 then [] else
  if i < sp l.length then path (l.take (sp l.length)) i ++ [root nd e (l.drop (sp l.length))]
  else path (l.drop (sp l.length)) (i - sp l.length) ++ [root nd e (l.take (sp l.length))]
termination_by l.length
decreasing_by
  · have := sp_lt (n := l.length) (by omega)
    rw [List.length_take]; omega
  · have := sp_pos (n := l.length) (by omega)
    rw [List.length_drop]; omega
theorem path_small {l : List α} {i : Nat} (h : l.length < 2) : path nd e l i = [] := by rw [path, dif_pos h]
theorem path_left {l : List α} {i : Nat} (h : 2 ≤ l.length) (hi : i < sp l.length) : path nd e l i = path nd e (l.take (sp l.length)) i ++ [root nd e (l.drop (sp l.length))] := by
  rw [path, dif_neg (by omega), if_pos hi]
theorem path_right {l : List α} {i : Nat} (h : 2 ≤ l.length) (hi : ¬ i < sp l.length) : path nd e l i = path nd e (l.drop (sp l.length)) (i - sp l.length) ++ [root nd e (l.take (sp l.length))] := by
  rw [path, dif_neg (by omega), if_neg hi]
/-- From the root downwards: is the place in the second part? -/
def sides (i n : Nat) : List Bool :=
  if h : n < 2 then [] else
  if i < sp n then false :: sides i (sp n) else true :: sides (i - sp n) (n - sp n)
termination_by n
decreasing_by
  · exact sp_lt (by omega)
  · have := sp_pos (n := n) (by omega); omega
theorem sides_small {i n : Nat} (h : n < 2) : sides i n = [] := by rw [sides, dif_pos h]
theorem sides_left {i n : Nat} (h : 2 ≤ n) (hi : i < sp n) : sides i n = false :: sides i (sp n) := by rw [sides, dif_neg (by omega), if_pos hi]
theorem sides_right {i n : Nat} (h : 2 ≤ n) (hi : ¬ i < sp n) : sides i n = true :: sides (i - sp n) (n - sp n) := by rw [sides, dif_neg (by omega), if_neg hi]
/-- Up from a leaf, by the sides from the root downwards and the path from the leaf upwards. -/
def clb (leaf : α) : List Bool → List α → α
  | [], _ => leaf
  | s :: ss, p => if s then nd (p.getLastD e) (clb leaf ss p.dropLast) else nd (clb leaf ss p.dropLast) (p.getLastD e)
theorem clb_snoc (leaf : α) (s : Bool) (ss : List Bool) (p : List α) (x : α) : clb nd e leaf (s :: ss) (p ++ [x]) = if s then nd x (clb nd e leaf ss p) else nd (clb nd e leaf ss p) x := by
  have h1 : (p ++ [x]).dropLast = p := List.dropLast_concat
  have h2 : (p ++ [x]).getLastD e = x := by simp
  rw [clb, h1, h2]
theorem clb_next (leaf : α) {S : List Bool} {p : List α} {j : Nat} {s : Bool} {x : α} (hl : S.length = p.length) (hj : j < p.length) (hs : S[S.length - 1 - j]? = some s) (hx : p[j]? = some x) :
    clb nd e leaf (S.drop (S.length - (j + 1))) (p.take (j + 1)) = if s then nd x (clb nd e leaf (S.drop (S.length - j)) (p.take j)) else nd (clb nd e leaf (S.drop (S.length - j)) (p.take j)) x := by
  obtain ⟨h1, h2⟩ := List.getElem?_eq_some_iff.1 hs
  have e1 : S.drop (S.length - (j + 1)) = s :: S.drop (S.length - j) := by
    rw [show S.length - (j + 1) = S.length - 1 - j by omega, List.drop_eq_getElem_cons h1, h2, show S.length - 1 - j + 1 = S.length - j by omega]
  rw [e1, List.take_add_one, hx, Option.toList_some, clb_snoc]
theorem path_len : ∀ (k : Nat) (l : List α) (i : Nat), l.length ≤ k → i < l.length → (path nd e l i).length = (sides i l.length).length
  | 0, l, i, h, hi => by omega
  | k + 1, l, i, h, hi => by
    by_cases h2 : l.length < 2
    · rw [path_small nd e h2, sides_small h2]; rfl
    · have a := sp_lt (n := l.length) (by omega)
      have b := sp_pos (n := l.length) (by omega)
      by_cases hs : i < sp l.length
      · have e1 : (l.take (sp l.length)).length = sp l.length := by rw [List.length_take]; omega
        have ih := path_len k (l.take (sp l.length)) i (by omega) (by omega)
        rw [path_left nd e (by omega) hs, sides_left (by omega) hs, List.length_append, ih, e1]; rfl
      · have e1 : (l.drop (sp l.length)).length = l.length - sp l.length := List.length_drop
        have ih := path_len k (l.drop (sp l.length)) (i - sp l.length) (by omega) (by omega)
        rw [path_right nd e (by omega) hs, sides_right (by omega) hs, List.length_append, ih, e1]; rfl
theorem path_all (q : α → Prop) (hq : ∀ l : List α, (∀ s ∈ l, q s) → q (root nd e l)) : ∀ (k : Nat) (l : List α) (i : Nat), l.length ≤ k → (∀ s ∈ l, q s) → ∀ s ∈ path nd e l i, q s
  | 0, l, i, h, _, s, hs => by rw [path_small nd e (by omega)] at hs; simp at hs
  | k + 1, l, i, h, hl, s, hs => by
    by_cases h2 : l.length < 2
    · rw [path_small nd e h2] at hs; simp at hs
    · have a := sp_lt (n := l.length) (by omega)
      have b := sp_pos (n := l.length) (by omega)
      by_cases hc : i < sp l.length
      · rw [path_left nd e (by omega) hc, List.mem_append, List.mem_singleton] at hs
        rcases hs with hs | rfl
        · exact path_all q hq k _ i (by rw [List.length_take]; omega) (fun s hs => hl s (List.mem_of_mem_take hs)) s hs
        · exact hq _ fun s hs => hl s (List.mem_of_mem_drop hs)
      · rw [path_right nd e (by omega) hc, List.mem_append, List.mem_singleton] at hs
        rcases hs with hs | rfl
        · exact path_all q hq k _ _ (by rw [List.length_drop]; omega) (fun s hs => hl s (List.mem_of_mem_drop hs)) s hs
        · exact hq _ fun s hs => hl s (List.mem_of_mem_take hs)
theorem climb_path : ∀ (k : Nat) (l : List α) (i : Nat) (x : α), l.length ≤ k → l[i]? = some x → clb nd e x (sides i l.length) (path nd e l i) = root nd e l
  | 0, l, i, x, h, hx => by have := (List.getElem?_eq_some_iff.1 hx).1; omega
  | k + 1, l, i, x, h, hx => by
    have hi := (List.getElem?_eq_some_iff.1 hx).1
    by_cases h2 : l.length < 2
    · rw [sides_small h2]
      obtain rfl : i = 0 := by omega
      exact (root_len1 nd e (by omega) hx).symm
    · have a := sp_lt (n := l.length) (by omega)
      have b := sp_pos (n := l.length) (by omega)
      by_cases hc : i < sp l.length
      · have e1 : (l.take (sp l.length)).length = sp l.length := by rw [List.length_take]; omega
        have ih := climb_path k (l.take (sp l.length)) i x (by omega) (by rw [List.getElem?_take, if_pos hc]; exact hx)
        rw [e1] at ih
        rw [path_left nd e (by omega) hc, sides_left (by omega) hc, clb_snoc, if_neg (by decide), ih, root_two nd e (l := l) (by omega)]
      · have e1 : (l.drop (sp l.length)).length = l.length - sp l.length := List.length_drop
        have ih := climb_path k (l.drop (sp l.length)) (i - sp l.length) x (by omega) (by rw [List.getElem?_drop, show sp l.length + (i - sp l.length) = i by omega]; exact hx)
        rw [e1] at ih
        rw [path_right nd e (by omega) hc, sides_right (by omega) hc, clb_snoc, if_pos rfl, ih, root_two nd e (l := l) (by omega)]
end
theorem sides_len : ∀ (k i n : Nat), n ≤ k → i < n → (sides i n).length ≤ 2 * n
  | 0, i, n, h, hi => by omega
  | k + 1, i, n, h, hi => by
    by_cases h2 : n < 2
    · rw [sides_small h2]; simp
    · have a := sp_lt (n := n) (by omega)
      have b := sp_pos (n := n) (by omega)
      by_cases hc : i < sp n
      · rw [sides_left (by omega) hc, List.length_cons]
        have := sides_len k i (sp n) (by omega) hc
        omega
      · rw [sides_right (by omega) hc, List.length_cons]
        have := sides_len k (i - sp n) (n - sp n) (by omega) (by omega)
        omega
/-- A place of at most 2^t leaves has t sides at most. -/
theorem sides_log : ∀ (t i n : Nat), n ≤ 2 ^ t → i < n → (sides i n).length ≤ t
  | 0, i, n, h, hi => by
    rw [Nat.pow_zero] at h
    rw [sides_small (by omega)]; simp
  | t + 1, i, n, h, hi => by
    by_cases h2 : n < 2
    · rw [sides_small h2]; simp
    · obtain ⟨q, a, b, c⟩ := sp_spec (n := n) (by omega)
      have hq : q ≤ t := by
        have : 2 ^ q < 2 ^ (t + 1) := by omega
        have := (Nat.pow_lt_pow_iff_right (by omega : 1 < 2)).1 this
        omega
      have hle : sp n ≤ 2 ^ t := by rw [a]; exact Nat.pow_le_pow_right (by omega) hq
      by_cases hc : i < sp n
      · rw [sides_left (by omega) hc, List.length_cons]
        have := sides_log t i (sp n) hle hc
        omega
      · rw [sides_right (by omega) hc, List.length_cons]
        have := sides_log t (i - sp n) (n - sp n) (by omega) (by omega)
        omega
end Tree
end Go.Proofs.YtoiilhbjlfdfpaaDoor
