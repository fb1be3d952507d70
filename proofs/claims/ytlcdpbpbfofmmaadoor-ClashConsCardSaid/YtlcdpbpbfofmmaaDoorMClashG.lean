/- MClashG: several texts of this claim in one file. No statement of the seat is proved here. -/
import Derived.Test.YtlcdpbpbfofmmaaDoorMClashD
import Derived.Test.YtlcdpbpbfofmmaaDoorMClash
import Derived.Test.YtlcdpbpbfofmmaaDoorClashTwo
import Derived.Test.YtlcdpbpbfofmmaaDoorMConsB
namespace Go.Proofs.YtlcdpbpbfofmmaaDoor
set_option maxRecDepth 100000
set_option linter.unusedVariables false
namespace Cl
open Tree (sp sp_lt sp_pos)
/-- A step of a proof, from the root down. -/
structure St where
  fr : Nat
  m : Nat
  n : Nat
  k : Nat
  rt : Bool
/-- The steps, and where what is left begins. -/
def dsc : Nat → Nat → Nat → Nat → List St × Nat
  | 0, f, _, _ => ([], f)
  | q + 1, f, m, n => if m < n then
      (if sp n < m then (⟨f, m, n, sp n, true⟩ :: (dsc q (f + sp n) (m - sp n) (n - sp n)).1, (dsc q (f + sp n) (m - sp n) (n - sp n)).2)
       else (⟨f, m, n, sp n, false⟩ :: (dsc q f m (sp n)).1, (dsc q f m (sp n)).2))
    else ([], f)
theorem dsc_done {q f m n : Nat} (h : ¬ m < n) : dsc q f m n = ([], f) := by
  cases q with
  | zero => rfl
  | succ q => rw [dsc, if_neg h]
theorem dsc_left {q f m n : Nat} (h : m < n) (hk : ¬ sp n < m) : dsc (q + 1) f m n = (⟨f, m, n, sp n, false⟩ :: (dsc q f m (sp n)).1, (dsc q f m (sp n)).2) := by rw [dsc, if_pos h, if_neg hk]
theorem dsc_right {q f m n : Nat} (h : m < n) (hk : sp n < m) : dsc (q + 1) f m n = (⟨f, m, n, sp n, true⟩ :: (dsc q (f + sp n) (m - sp n) (n - sp n)).1, (dsc q (f + sp n) (m - sp n) (n - sp n)).2) := by rw [dsc, if_pos h, if_pos hk]
theorem dsc_enough : ∀ (q q' f m n : Nat), n ≤ q → n ≤ q' → 1 ≤ m → dsc q f m n = dsc q' f m n
  | 0, q', f, m, n, h, h2, h1 => by rw [dsc_done (by omega), dsc_done (by omega)]
  | q + 1, 0, f, m, n, h, h2, h1 => by rw [dsc_done (by omega), dsc_done (by omega)]
  | q + 1, q' + 1, f, m, n, h, h2, h1 => by
    by_cases hl : m < n
    · have a := sp_lt (n := n) (by omega)
      have b := sp_pos (n := n) (by omega)
      by_cases hk : sp n < m
      · rw [dsc_right hl hk, dsc_right hl hk, dsc_enough q q' (f + sp n) (m - sp n) (n - sp n) (by omega) (by omega) (by omega)]
      · rw [dsc_left hl hk, dsc_left hl hk, dsc_enough q q' f m (sp n) (by omega) (by omega) h1]
    · rw [dsc_done hl, dsc_done hl]
theorem dsc_len : ∀ (q f m n : Nat), n ≤ q → 1 ≤ m → (dsc q f m n).1.length + 1 ≤ n ∨ n ≤ m
  | 0, f, m, n, h, h1 => .inr (by omega)
  | q + 1, f, m, n, h, h1 => by
    by_cases hl : m < n
    · left
      have a := sp_lt (n := n) (by omega)
      have b := sp_pos (n := n) (by omega)
      by_cases hk : sp n < m
      · rw [dsc_right hl hk]
        rcases dsc_len q (f + sp n) (m - sp n) (n - sp n) (by omega) (by omega) with h | h
        · show (dsc _ _ _ _).1.length + 1 + 1 ≤ n; omega
        · rw [dsc_done (by omega)]; show 0 + 1 + 1 ≤ n; omega
      · rw [dsc_left hl hk]
        rcases dsc_len q f m (sp n) (by omega) h1 with h | h
        · show (dsc _ _ _ _).1.length + 1 + 1 ≤ n; omega
        · rw [dsc_done (by omega)]; show 0 + 1 + 1 ≤ n; omega
    · exact .inr (by omega)
/-- Where the steps lie: each within the lists. -/
structure StOk (na nb : Nat) (s : St) : Prop where
  m1 : 2 ≤ s.n
  n1 : 1 ≤ s.m
  a : s.fr + s.m = na
  b : s.fr + s.n ≤ nb
  k0 : 1 ≤ s.k
  kn : s.k < s.n
  km : s.rt = true → s.k < s.m
theorem dsc_ok : ∀ (q f m n na nb : Nat), n ≤ q → 1 ≤ m → f + m = na → f + n ≤ nb → m ≤ n → (∀ s ∈ (dsc q f m n).1, StOk na nb s) ∧ (dsc q f m n).2 + 1 ≤ na ∧ f ≤ (dsc q f m n).2
  | 0, f, m, n, na, nb, h, h1, ha, hb, hmn => by omega
  | q + 1, f, m, n, na, nb, h, h1, ha, hb, hmn => by
    by_cases hl : m < n
    · have a := sp_lt (n := n) (by omega)
      have b := sp_pos (n := n) (by omega)
      by_cases hk : sp n < m
      · rw [dsc_right hl hk]
        have ih := dsc_ok q (f + sp n) (m - sp n) (n - sp n) na nb (by omega) (by omega) (by omega) (by omega) (by omega)
        refine ⟨fun s hs => ?_, ih.2.1, by have := ih.2.2; show f ≤ (dsc _ _ _ _).2; omega⟩
        rcases List.mem_cons.1 hs with rfl | hs
        · exact ⟨show 2 ≤ n by omega, h1, ha, hb, b, a, fun _ => hk⟩
        · exact ih.1 s hs
      · rw [dsc_left hl hk]
        have ih := dsc_ok q f m (sp n) na nb (by omega) h1 ha (by omega) (by omega)
        refine ⟨fun s hs => ?_, ih.2.1, ih.2.2⟩
        rcases List.mem_cons.1 hs with rfl | hs
        · exact ⟨show 2 ≤ n by omega, h1, ha, hb, b, a, fun e => by cases e⟩
        · exact ih.1 s hs
    · rw [dsc_done hl]
      exact ⟨fun s hs => (by cases hs), (by show f + 1 ≤ na; omega), Nat.le_refl _⟩
/-- The two digests behind the steps from a place on. -/
def ons (one0 : By) : List St → List By → By × By
  | [], _ => (one0, one0)
  | s :: S, p => if s.rt then (tnd (p.getLastD []) (ons one0 S p.dropLast).1, tnd (p.getLastD []) (ons one0 S p.dropLast).2) else ((ons one0 S p.dropLast).1, tnd (ons one0 S p.dropLast).2 (p.getLastD []))
theorem ons_snoc (one0 : By) (s : St) (S : List St) (p : List By) (d : By) : ons one0 (s :: S) (p ++ [d]) = if s.rt then (tnd d (ons one0 S p).1, tnd d (ons one0 S p).2) else ((ons one0 S p).1, tnd (ons one0 S p).2 d) := by
  have h1 : (p ++ [d]).dropLast = p := List.dropLast_concat
  have h2 : (p ++ [d]).getLastD [] = d := by simp
  rw [ons, h1, h2]
theorem ons_len (one0 : By) (h0 : one0.length = 32) : ∀ (S : List St) (p : List By), (ons one0 S p).1.length = 32 ∧ (ons one0 S p).2.length = 32
  | [], p => ⟨h0, h0⟩
  | s :: S, p => by
    rw [ons]
    have := ons_len one0 h0 S p.dropLast
    split
    · exact ⟨tnd_len _ _, tnd_len _ _⟩
    · exact ⟨this.1, tnd_len _ _⟩
/-- What a proof that fits looks like: one digest ahead, unless all of the first list is the beginning; then one a step. -/
theorem roots_dec (one : By) : ∀ (q f m n : Nat) (wh : Bool) (p : List By), n ≤ q → 1 ≤ m → m ≤ n → (Cons.roots tnd [] m n wh one p).2.2 = true →
    ∃ (one0 : By) (hd p' : List By), p = hd ++ p' ∧ p'.length = (dsc q f m n).1.length ∧ ((dsc q f m n).2 = f ∧ wh = true ∧ hd = [] ∧ one0 = one ∨ (wh = false ∨ (dsc q f m n).2 ≠ f) ∧ hd = [one0]) ∧ Cons.roots tnd [] m n wh one p = ((ons one0 (dsc q f m n).1 p').1, (ons one0 (dsc q f m n).1 p').2, true)
  | 0, f, m, n, wh, p, h, h1, h2, hr => by omega
  | q + 1, f, m, n, wh, p, h, h1, h2, hr => by
    by_cases he : m = n
    · subst he
      rw [dsc_done (by omega)]
      cases wh with
      | true =>
        rw [Cons.roots_whole] at hr ⊢
        have hp : p = [] := List.length_eq_zero_iff.1 (of_decide_eq_true hr)
        subst hp
        exact ⟨one, [], [], rfl, rfl, .inl ⟨rfl, rfl, rfl, rfl⟩, rfl⟩
      | false =>
        match p, hr with
        | [], hr => rw [Cons.roots_bad _ _ _ _ _ (by simp)] at hr; cases hr
        | [x], hr => exact ⟨x, [x], [], rfl, rfl, .inr ⟨.inl rfl, rfl⟩, by rw [Cons.roots_one]; rfl⟩
        | x :: y :: r, hr => rw [Cons.roots_bad _ _ _ _ _ (by simp)] at hr; cases hr
    · have hl : m < n := by omega
      rcases List.eq_nil_or_concat p with rfl | ⟨r, d, rfl⟩
      · rw [Cons.roots_nil _ _ he] at hr; cases hr
      · rw [List.concat_eq_append] at hr ⊢
        have a := sp_lt (n := n) (by omega)
        have b := sp_pos (n := n) (by omega)
        by_cases hk : m ≤ sp n
        · rw [Cons.roots_left _ _ (by omega) he hk] at hr ⊢
          rw [dsc_left hl (by omega)]
          obtain ⟨one0, hd, p', hp, hpl, hh, hro⟩ := roots_dec one q f m (sp n) wh r (by omega) h1 hk hr
          refine ⟨one0, hd, p' ++ [d], by rw [hp, List.append_assoc], by rw [List.length_append, hpl]; rfl, hh, ?_⟩
          rw [hro, ons_snoc]
          rfl
        · rw [Cons.roots_right _ _ (by omega) he hk] at hr ⊢
          rw [dsc_right hl (by omega)]
          obtain ⟨one0, hd, p', hp, hpl, hh, hro⟩ := roots_dec one q (f + sp n) (m - sp n) (n - sp n) false r (by omega) (by omega) (by omega) hr
          have hge := (dsc_ok q (f + sp n) (m - sp n) (n - sp n) (f + m) (f + n) (by omega) (by omega) (by omega) (by omega) (by omega)).2.2
          refine ⟨one0, hd, p' ++ [d], by rw [hp, List.append_assoc], by rw [List.length_append, hpl]; rfl, .inr ⟨.inr (by show (dsc _ _ _ _).2 ≠ f; omega), ?_⟩, ?_⟩
          · rcases hh with hh | hh
            · cases hh.2.1
            · exact hh.2
          · rw [hro, ons_snoc]
            rfl
/-- The searches of the nodes for the one root; for the other one; of the parts. -/
def befL (x : List By) (one0 : By) : List St → List By → List (Option (By × By))
  | [], _ => []
  | s :: S, p => (if s.rt then btw (1 :: (p.getLastD [] ++ (ons one0 S p.dropLast).1)) (topB ((x.drop s.fr).take s.m)) else none) :: befL x one0 S p.dropLast
def aftL (y : List By) (one0 : By) : List St → List By → List (Option (By × By))
  | [], _ => []
  | s :: S, p => btw (if s.rt then 1 :: (p.getLastD [] ++ (ons one0 S p.dropLast).2) else 1 :: ((ons one0 S p.dropLast).2 ++ p.getLastD [])) (topB ((y.drop s.fr).take s.n)) :: aftL y one0 S p.dropLast
def cutL (l : List By) (i j : Nat) : List By := (l.take j).drop i
def prtL (a b : List By) : List St → Nat → List (Option (By × By))
  | [], f => [two (cutL a f a.length) (cutL b f a.length)]
  | s :: S, f => if s.rt then two (cutL a s.fr (s.fr + s.k)) (cutL b s.fr (s.fr + s.k)) :: prtL a b S f else prtL a b S f
theorem befL_len (x : List By) (one0 : By) : ∀ (S : List St) (p : List By), (befL x one0 S p).length = S.length
  | [], _ => rfl
  | s :: S, p => by rw [befL, List.length_cons, befL_len x one0 S, List.length_cons]
theorem aftL_len (y : List By) (one0 : By) : ∀ (S : List St) (p : List By), (aftL y one0 S p).length = S.length
  | [], _ => rfl
  | s :: S, p => by rw [aftL, List.length_cons, aftL_len y one0 S, List.length_cons]
/-- The search at place t. -/
def bef1 (x : List By) (s : St) (d : By) (q : By × By) : Option (By × By) := if s.rt then btw (1 :: (d ++ q.1)) (topB ((x.drop s.fr).take s.m)) else none
def aft1 (y : List By) (s : St) (d : By) (q : By × By) : Option (By × By) := btw (if s.rt then 1 :: (d ++ q.2) else 1 :: (q.2 ++ d)) (topB ((y.drop s.fr).take s.n))
theorem list_at (one0 : By) (g : St → By → By × By → Option (By × By)) (F : List St → List By → List (Option (By × By))) (hn : ∀ p, F [] p = []) (hc : ∀ s S p d, F (s :: S) (p ++ [d]) = g s d (ons one0 S p) :: F S p) :
    ∀ (S : List St) (p : List By), p.length = S.length → ∀ (t : Nat) (s : St), S[t]? = some s → (F S p)[t]? = some (g s (p.getD (S.length - 1 - t) []) (ons one0 (S.drop (t + 1)) (p.take (S.length - 1 - t))))
  | [], p, hp, t, s, hs => by simp at hs
  | s0 :: S, p, hp, t, s, hs => by
    rcases List.eq_nil_or_concat p with rfl | ⟨p', d, rfl⟩
    · simp at hp
    rw [List.concat_eq_append] at hp ⊢
    have hp' : p'.length = S.length := by simpa using hp
    rw [hc]
    cases t with
    | zero =>
      simp only [List.getElem?_cons_zero, Option.some.injEq] at hs ⊢
      subst hs
      simp [← hp']
    | succ t =>
      rw [List.getElem?_cons_succ] at hs ⊢
      have ht : t < S.length := (List.getElem?_eq_some_iff.1 hs).1
      rw [list_at one0 g F hn hc S p' hp' t s hs]
      rw [List.length_cons, show S.length + 1 - 1 - (t + 1) = S.length - 1 - t by omega, List.take_append_of_le_length (by omega), List.getD_eq_getElem?_getD, List.getD_eq_getElem?_getD, List.getElem?_append_left (by omega), List.drop_succ_cons]
theorem befL_at (x : List By) (one0 : By) (S : List St) (p : List By) (hp : p.length = S.length) (t : Nat) (s : St) (hs : S[t]? = some s) : (befL x one0 S p)[t]? = some (bef1 x s (p.getD (S.length - 1 - t) []) (ons one0 (S.drop (t + 1)) (p.take (S.length - 1 - t)))) :=
  list_at one0 (bef1 x) (befL x one0) (fun _ => rfl) (fun s S p d => by
    have h1 : (p ++ [d]).dropLast = p := List.dropLast_concat
    have h2 : (p ++ [d]).getLastD [] = d := by simp
    rw [befL, h1, h2]; rfl) S p hp t s hs
theorem aftL_at (y : List By) (one0 : By) (S : List St) (p : List By) (hp : p.length = S.length) (t : Nat) (s : St) (hs : S[t]? = some s) : (aftL y one0 S p)[t]? = some (aft1 y s (p.getD (S.length - 1 - t) []) (ons one0 (S.drop (t + 1)) (p.take (S.length - 1 - t)))) :=
  list_at one0 (aft1 y) (aftL y one0) (fun _ => rfl) (fun s S p d => by
    have h1 : (p ++ [d]).dropLast = p := List.dropLast_concat
    have h2 : (p ++ [d]).getLastD [] = d := by simp
    rw [aftL, h1, h2]; rfl) S p hp t s hs
theorem first_app (a b : List (Option (By × By))) : first' (a ++ b) = (first' a).or (first' b) := by
  induction a with
  | nil => exact (Option.none_or).symm
  | cons x a ih =>
    show x.or (first' (a ++ b)) = (x.or (first' a)).or (first' b)
    rw [ih, Option.or_assoc]
theorem pa_first (a b : List By) : ∀ (q f m n : Nat), n ≤ q → 1 ≤ m → m ≤ n → f + m = a.length → pa q m n (a.drop f) (b.drop f) = first' (prtL a b (dsc q f m n).1 (dsc q f m n).2)
  | 0, f, m, n, h, h1, h2, ha => by omega
  | q + 1, f, m, n, h, h1, h2, ha => by
    by_cases he : m = n
    · subst he
      rw [dsc_done (by omega), pa, if_pos rfl]
      show two _ _ = (two _ _).or none
      rw [Option.or_none]
      show two _ _ = two (cutL a f a.length) (cutL b f a.length)
      unfold cutL
      rw [List.drop_take, List.drop_take, ← ha, Nat.add_sub_cancel_left]
    · have hl : m < n := by omega
      have x := sp_lt (n := n) (by omega)
      have y := sp_pos (n := n) (by omega)
      by_cases hk : m ≤ sp n
      · rw [dsc_left hl (by omega), pa, if_neg he, if_pos hk]
        show _ = first' (prtL a b (_ :: _) _)
        rw [prtL]
        exact pa_first a b q f m (sp n) (by omega) h1 hk ha
      · rw [dsc_right hl (by omega), pa, if_neg he, if_neg hk]
        show _ = first' (prtL a b (_ :: _) _)
        rw [prtL]
        show _ = (two _ _).or (first' _)
        rw [List.drop_drop, List.drop_drop, pa_first a b q (f + sp n) (m - sp n) (n - sp n) (by omega) (by omega) (by omega) (by omega)]
        show _ = (two (cutL a f (f + sp n)) (cutL b f (f + sp n))).or (first' (prtL a b _ (dsc q (f + sp n) (m - sp n) (n - sp n)).2))
        unfold cutL
        rw [List.drop_take, List.drop_take, Nat.add_sub_cancel_left]
theorem cofr_first (one : By) (x y : List By) : ∀ (q f m n : Nat) (wh : Bool) (one0 : By) (hd p' : List By), n ≤ q → 1 ≤ m → m ≤ n → f + m = x.length → f + n ≤ y.length → p'.length = (dsc q f m n).1.length →
    ((dsc q f m n).2 = f ∧ wh = true ∧ hd = [] ∧ one0 = one ∨ (wh = false ∨ (dsc q f m n).2 ≠ f) ∧ hd = [one0]) →
    co one q m n wh (x.drop f) (hd ++ p') = first' (befL x one0 (dsc q f m n).1 p') ∧ fr one q m n wh ((y.drop f).take n) (hd ++ p') = first' (aftL y one0 (dsc q f m n).1 p') ∧
      Cons.roots tnd [] m n wh one (hd ++ p') = ((ons one0 (dsc q f m n).1 p').1, (ons one0 (dsc q f m n).1 p').2, true)
  | 0, f, m, n, wh, one0, hd, p', h, h1, h2, hx, hy, hpl, hh => by omega
  | q + 1, f, m, n, wh, one0, hd, p', h, h1, h2, hx, hy, hpl, hh => by
    by_cases he : m = n
    · subst he
      rw [dsc_done (by omega)] at hpl hh ⊢
      rw [co, fr, if_pos rfl, if_pos rfl]
      obtain rfl : p' = [] := List.length_eq_zero_iff.1 hpl
      refine ⟨rfl, rfl, ?_⟩
      rcases hh with ⟨_, rfl, rfl, rfl⟩ | ⟨h3, rfl⟩
      · rw [List.append_nil, Cons.roots_whole]; rfl
      · have : wh = false := by
          rcases h3 with h3 | h3
          · exact h3
          · exact absurd rfl h3
        subst this
        rw [List.append_nil, Cons.roots_one]; rfl
    · have hl : m < n := by omega
      have a := sp_lt (n := n) (by omega)
      have b := sp_pos (n := n) (by omega)
      by_cases hk : m ≤ sp n
      · rw [dsc_left hl (by omega)] at hpl hh ⊢
        rcases List.eq_nil_or_concat p' with rfl | ⟨r, d, rfl⟩
        · simp at hpl
        rw [List.concat_eq_append] at hpl ⊢
        have hr : r.length = (dsc q f m (sp n)).1.length := by simpa using hpl
        obtain ⟨i1, i2, i3⟩ := cofr_first one x y q f m (sp n) wh one0 hd r (by omega) h1 hk hx (by omega) hr hh
        have e1 : (hd ++ (r ++ [d])).dropLast = hd ++ r := by rw [← List.append_assoc]; exact List.dropLast_concat
        have e2 : (hd ++ (r ++ [d])).getLastD [] = d := by rw [← List.append_assoc]; simp
        have e3 : (r ++ [d]).dropLast = r := List.dropLast_concat
        have e4 : (r ++ [d]).getLastD [] = d := by simp
        refine ⟨?_, ?_, ?_⟩
        · rw [co, if_neg he, if_pos hk, e1, i1]
          show _ = first' (befL x one0 (_ :: _) _)
          rw [befL, e3]
          show _ = Option.or none (first' (befL x one0 (dsc q f m (sp n)).1 r))
          rw [Option.none_or]
        · rw [fr, if_neg he, if_pos hk, e1, e2, i3, List.take_take, Nat.min_eq_left (by omega), i2]
          show _ = first' (aftL y one0 (_ :: _) _)
          rw [aftL, e3, e4]
          rfl
        · rw [← List.append_assoc, Cons.roots_left _ _ (by omega) he hk, i3, ons_snoc]
          rfl
      · rw [dsc_right hl (by omega)] at hpl hh ⊢
        rcases List.eq_nil_or_concat p' with rfl | ⟨r, d, rfl⟩
        · simp at hpl
        rw [List.concat_eq_append] at hpl ⊢
        have hr : r.length = (dsc q (f + sp n) (m - sp n) (n - sp n)).1.length := by simpa using hpl
        have hge := (dsc_ok q (f + sp n) (m - sp n) (n - sp n) (f + m) (f + n) (by omega) (by omega) (by omega) (by omega) (by omega)).2.2
        have hh' : hd = [one0] := by
          rcases hh with hh | hh
          · exfalso
            have h9 := hh.1
            simp only at h9
            omega
          · exact hh.2
        obtain ⟨i1, i2, i3⟩ := cofr_first one x y q (f + sp n) (m - sp n) (n - sp n) false one0 hd r (by omega) (by omega) (by omega) (by omega) (by omega) hr (.inr ⟨.inl rfl, hh'⟩)
        have e1 : (hd ++ (r ++ [d])).dropLast = hd ++ r := by rw [← List.append_assoc]; exact List.dropLast_concat
        have e2 : (hd ++ (r ++ [d])).getLastD [] = d := by rw [← List.append_assoc]; simp
        have e3 : (r ++ [d]).dropLast = r := List.dropLast_concat
        have e4 : (r ++ [d]).getLastD [] = d := by simp
        refine ⟨?_, ?_, ?_⟩
        · rw [co, if_neg he, if_neg hk, e1, e2, i3, List.drop_drop, i1]
          show _ = first' (befL x one0 (_ :: _) _)
          rw [befL, e3, e4]
          show _ = (btw _ _).or _
          have : (x.drop f).take m = x.drop f := List.take_of_length_le (by rw [List.length_drop]; omega)
          show _ = (btw (1 :: (d ++ (ons one0 (dsc q (f + sp n) (m - sp n) (n - sp n)).1 r).1)) (topB ((x.drop f).take m))).or (first' _)
          rw [this]
        · have e5 : ((y.drop f).take n).drop (sp n) = (y.drop (f + sp n)).take (n - sp n) := by rw [List.drop_take, List.drop_drop]
          rw [fr, if_neg he, if_neg hk, e1, e2, i3, e5, i2]
          show _ = first' (aftL y one0 (_ :: _) _)
          rw [aftL, e3, e4]
          rfl
        · rw [← List.append_assoc, Cons.roots_right _ _ (by omega) he hk, i3, ons_snoc]
          rfl
end Cl
end Go.Proofs.YtlcdpbpbfofmmaaDoor

namespace Go.Proofs.YtlcdpbpbfofmmaaDoor
set_option maxRecDepth 100000
set_option linter.unusedVariables false
open Go.RowKit
/-- Nothing has turned but rows of searches. -/
structure KeepT (w w' : World) : Prop where
  size : w.heap.size ≤ w'.heap.size
  block : ∀ (b : Nat) (o : Obj), w.heap[b]? = some o → (∀ cs fr, o ≠ .cells cs 63 fr) → w'.heap[b]? = some o
theorem KeepT.refl (w : World) : KeepT w w := ⟨Nat.le_refl _, fun _ _ h _ => h⟩
theorem KeepT.trans {w w' w2 : World} (h : KeepT w w') (k : KeepT w' w2) : KeepT w w2 := ⟨Nat.le_trans h.size k.size, fun b o h1 h2 => k.block b o (h.block b o h1 h2) h2⟩
theorem heap_lt' {w : World} {b : Nat} {o : Obj} (h : w.heap[b]? = some o) : b < w.heap.size := (Array.getElem?_eq_some_iff.1 h).1
theorem KeepT.of {w w' : World} (h : Below w.heap.size w w') : KeepT w w' := ⟨h.size, fun b o h1 _ => by rw [h.block b (heap_lt' h1)]; exact h1⟩
theorem KeepT.set {w : World} {x : Nat} {cs : Array Value} (h : Row w x cs 63) (j : Nat) (u : Value) : KeepT w (w.setCell ⟨x, j, none⟩ u) := by
  refine ⟨by rw [World.size_setCell]; exact Nat.le_refl _, fun b o h1 h2 => ?_⟩
  have hne : b ≠ x := fun e => by
    subst e
    unfold Row at h
    rw [h] at h1
    injection h1 with h1
    exact h2 _ _ h1.symm
  rw [Below.heap_setCell _ _ _ _ hne]; exact h1
theorem KeepT.grown {w w' : World} {B n : Nat} {v : Value} {xs : List Value} (h : w.ownsRow B 63 1 v n xs) (hg : w.grownBy w' v.ownBlock) (hs : w.heap.size ≤ w'.heap.size) : KeepT w w' := by
  refine ⟨hs, fun b o h1 h2 => ?_⟩
  rw [hg.block b (heap_lt' h1) (fun e => ?_)]
  · exact h1
  · rcases h.2 with ⟨rfl, _⟩ | ⟨g, cap, cur, rfl, _, hh, _⟩
    · cases e
    · simp only [Value.ownBlock, Option.some.injEq] at e
      rw [← e, h1] at hh
      injection hh with hh
      exact h2 _ _ hh
theorem Row.keepT {w w' : World} {b : Nat} {cs : Array Value} {t : TypeId} (h : Row w b cs t) (ht : t ≠ 63) (k : KeepT w w') : Row w' b cs t := k.block b _ h fun cs' fr e => ht (by injection e)
theorem own_keepT {w w' : World} {B : Nat} {e : TypeId} {size : Nat} {v : Value} {n : Nat} {xs : List Value} (h : w.ownsRow B e size v n xs) (he : e ≠ 63) (k : KeepT w w') : w'.ownsRow B e size v n xs := by
  refine ⟨h.1, ?_⟩
  rcases h.2 with ⟨rfl, rfl⟩ | ⟨g, cap, cur, rfl, h1, h2, h3⟩
  · exact .inl ⟨rfl, rfl⟩
  · exact .inr ⟨g, cap, cur, rfl, h1, k.block g _ h2 (fun cs' fr e2 => he (by injection e2)), h3⟩
theorem Own8.keepT {w w' : World} {B n c : Nat} {A : Option Addr} {l : List UInt8} (h : Own8 w B A n c l) (k : KeepT w w') : Own8 w' B A n c l := ⟨own_keepT h.own (by decide) k, h.len, h.cap, h.max⟩
/-- The lists that parts are cut from. -/
structure Lists where
  Aa : Option Addr
  na : Nat
  ca : Nat
  f : Nat → Piece
  Ab : Option Addr
  nb : Nat
  cb : Nat
  g : Nat → Piece
/-- A search that waits. -/
def Wait (E : Lists) (w : World) (v : Value) (r : Option (List UInt8 × List UInt8)) : Prop :=
  (v = .func (.func 65) #[] #[] ∧ r = none) ∨
  (∃ (g1 g2 : Nat) (A : Option Addr) (n c : Nat) (B : Option Addr) (m k : Nat) (a b : List UInt8), v = .func (.func 74) #[] #[.pointer (some ⟨g1, 0, none⟩), .pointer (some ⟨g2, 0, none⟩)] ∧ Row w g1 #[.slice A n c] 23 ∧ Row w g2 #[.slice B m k] 23 ∧ Own8 w 0 A n c a ∧ Own8 w 0 B m k b ∧ a.length ≤ 1000000 ∧ b.length ≤ 1000000 ∧ r = Cl.btw a b) ∨
  (∃ (g1 g2 g3 g4 i j : Nat), v = .func (.func 86) #[] #[.pointer (some ⟨g1, 0, none⟩), .pointer (some ⟨g2, 0, none⟩), .pointer (some ⟨g3, 0, none⟩), .pointer (some ⟨g4, 0, none⟩)] ∧ Row w g1 #[.slice E.Aa E.na E.ca] 22 ∧ Row w g2 #[.int .i64 (i : Int)] 3 ∧ Row w g3 #[.int .i64 (j : Int)] 3 ∧ Row w g4 #[.slice E.Ab E.nb E.cb] 22 ∧
    i < j ∧ j ≤ E.na ∧ j ≤ E.nb ∧ r = Cl.two (Cl.cutL (raws E.f E.na) i j) (Cl.cutL (raws E.g E.nb) i j))
theorem Wait.keepT {E : Lists} {w w' : World} {v : Value} {r : Option (List UInt8 × List UInt8)} (h : Wait E w v r) (k : KeepT w w') : Wait E w' v r := by
  rcases h with h | ⟨g1, g2, A, n, c, B, m, k', a, b, e, h1, h2, h3, h4, h5⟩ | ⟨g1, g2, g3, g4, i, j, e, h1, h2, h3, h4, h5⟩
  · exact .inl h
  · exact .inr (.inl ⟨g1, g2, A, n, c, B, m, k', a, b, e, h1.keepT (by decide) k, h2.keepT (by decide) k, h3.keepT k, h4.keepT k, h5⟩)
  · exact .inr (.inr ⟨g1, g2, g3, g4, i, j, e, h1.keepT (by decide) k, h2.keepT (by decide) k, h3.keepT (by decide) k, h4.keepT (by decide) k, h5⟩)
theorem Wait.keep {E : Lists} {w w' : World} {v : Value} {r : Option (List UInt8 × List UInt8)} (h : Wait E w v r) (k : Below w.heap.size w w') : Wait E w' v r := h.keepT (KeepT.of k)
theorem Wait.form {E : Lists} {w : World} {v : Value} {r : Option (List UInt8 × List UInt8)} (h : Wait E w v r) : ∃ (f : FuncId) (caps : Array Value), v = .func (.func f) #[] caps := by
  rcases h with h | ⟨g1, g2, A, n, c, B, m, k', a, b, e, h⟩ | ⟨g1, g2, g3, g4, i, j, e, h⟩
  · exact ⟨_, _, h.1⟩
  · exact ⟨_, _, e⟩
  · exact ⟨_, _, e⟩
/-- What a drawn operation leaves: a search that waits. -/
def Free.kW (E : Lists) (r : Option (List UInt8 × List UInt8)) : Free.SV := ⟨fun v w => ∃ v', v = v' ∧ Wait E w v' r, fun v w w' ⟨v', h1, h2⟩ g => ⟨v', h1, h2.keep g⟩⟩
set_option maxHeartbeats 4000000 in
theorem none_any (w : World) : Calls Tryd.prog 65 #[] w (ResPost w.heap.size none w) := by
  have hrow := row_new w #[.slice none 0 0, .slice none 0 0] 29
  have HB0 := Lib.hid (show Below w.heap.size w (w.alloc (.cells #[.slice none 0 0, .slice none 0 0] 29)) from (Below.refl _ w).alloc (Nat.le_refl _) _)
  have x0 := hrow.cellQ 0 _ rfl
  have x1 := hrow.cellQ 1 _ rfl
  have f0 := hrow.frozen 0
  have f1 := hrow.frozen 1
  have HROW := Lib.hid (show ∀ u v, Row (setFrom w.heap.size (w.alloc (.cells #[.slice none 0 0, .slice none 0 0] 29)) 0 [u, v]) w.heap.size #[u, v] 29 from fun u v => hrow.all [u, v] rfl)
  clear hrow
  go_enter Tryd.func65, Tryd.ntmps65
  go_wp2
  refine bodyPost_ret (v := .tuple #[.agg #[.slice none 0 0, .slice none 0 0], .bool false]) (by simp [results, Tryd.results65, go_sem, x0, x1]) rfl ?_
  exact ⟨none, 0, 0, none, 0, 0, rfl, Fr.nil _ _, Fr.nil _ _, HB0.out⟩
section
variable {w : World} {B : Nat} {A : Option Addr} {n c : Nat} {xs : List Value}
theorem run_cutR_lh (h : Rd w B A xs) (hl : xs.length = n) (hc : n ≤ c) (i j : Nat) (hi : i ≤ j) (hj : j ≤ n) :
    ∃ A', (Instr.sliceAt 22 (.slice A n c) (some (.int .i64 (i : Int))) (some (.int .i64 (j : Int))) none).run Tryd.prog w = .ok (.slice A' (j - i) (c - i)) w ∧ Rd w B A' ((xs.take j).drop i) := by
  have hu' : Tryd.prog.underlying 22 = some (.slice (Tryd.prog.elem 22)) := by kernel_rfl
  have hcut := rd_cut (i := i) (h.take j) (n := j) (by rw [List.length_take]; omega) (by omega : j ≤ c)
  have hr1 := run_slice_lh (P := Tryd.prog) w 22 A n c hu' .i64 .i64 (i : Int) (j : Int) (by omega) (by omega) (by omega)
  rw [show Tryd.prog.elem 22 = 23 by kernel_rfl, run_sizeOf_of 23 1 (by kernel_rfl), Result.andThen_ok] at hr1
  exact ⟨_, by rw [run_sliceAt_slice w 22 _ _ _ _ hu', hr1]; simp only [Int.toNat_natCast]; rfl, hcut⟩
end
theorem raws_cut (f : Nat → Piece) (n i j : Nat) (hi : i ≤ j) (hj : j ≤ n) : Cl.cutL (raws f n) i j = raws (fun t => f (i + t)) (j - i) := by
  unfold Cl.cutL
  rw [raws_take f n j hj, raws_drop]
set_option maxHeartbeats 16000000 in
theorem part1_any (g1 g2 g3 g4 i j : Nat) (Aa : Option Addr) (na ca : Nat) (f : Nat → Piece) (Ab : Option Addr) (nb cb : Nat) (g : Nat → Piece) (r : Option (List UInt8 × List UInt8)) (w : World)
    (b1 : g1 < w.heap.size ∧ g2 < w.heap.size ∧ g3 < w.heap.size ∧ g4 < w.heap.size) (y1 : w.cell? ⟨g1, 0, none⟩ = some (.slice Aa na ca)) (y2 : w.cell? ⟨g2, 0, none⟩ = some (.int .i64 (i : Int))) (y3 : w.cell? ⟨g3, 0, none⟩ = some (.int .i64 (j : Int))) (y4 : w.cell? ⟨g4, 0, none⟩ = some (.slice Ab nb cb))
    (hij : i ≤ j ∧ j ≤ na ∧ j ≤ nb) (hn : na ≤ 300) (hra : RowsAt w Aa na f) (hca : na ≤ ca ∧ ca ≤ maxLen) (hrb : RowsAt w Ab nb g) (hcb : nb ≤ cb ∧ cb ≤ maxLen) (hsf : ∀ t, t < na → (f t).n ≤ 1000) (hsg : ∀ t, t < nb → (g t).n ≤ 1000) (ht : Tabs w) (hij1 : i < j)
    (hr : r = Cl.two (Cl.cutL (raws f na) i j) (Cl.cutL (raws g nb) i j)) :
    Calls Tryd.prog 86 #[.pointer (some ⟨g1, 0, none⟩), .pointer (some ⟨g2, 0, none⟩), .pointer (some ⟨g3, 0, none⟩), .pointer (some ⟨g4, 0, none⟩)] w (ResPost w.heap.size r w) := by
  obtain ⟨w1, hw1⟩ : ∃ w1, w.alloc (.cells #[.slice none 0 0, .slice none 0 0] 29) = w1 := ⟨_, rfl⟩
  have hb1 : Below w.heap.size w w1 := by rw [← hw1]; exact (Below.refl _ w).alloc (Nat.le_refl _) _
  have hrow := row_new w #[.slice none 0 0, .slice none 0 0] 29
  rw [hw1] at hrow
  have HROW0 := Lib.hid hrow
  have HB1 := Lib.hid hb1
  have HW1 := Lib.hid hw1
  have CA := Lib.hid (show ∀ W, Below w1.heap.size w1 W → W.cell? ⟨g1, 0, none⟩ = some (.slice Aa na ca) from fun W hW => ((bt hb1 hW).cell (p := ⟨g1, 0, none⟩) b1.1).trans y1)
  have CI := Lib.hid (show ∀ W, Below w1.heap.size w1 W → W.cell? ⟨g2, 0, none⟩ = some (.int .i64 (i : Int)) from fun W hW => ((bt hb1 hW).cell (p := ⟨g2, 0, none⟩) b1.2.1).trans y2)
  have CJ := Lib.hid (show ∀ W, Below w1.heap.size w1 W → W.cell? ⟨g3, 0, none⟩ = some (.int .i64 (j : Int)) from fun W hW => ((bt hb1 hW).cell (p := ⟨g3, 0, none⟩) b1.2.2.1).trans y3)
  have CB := Lib.hid (show ∀ W, Below w1.heap.size w1 W → W.cell? ⟨g4, 0, none⟩ = some (.slice Ab nb cb) from fun W hW => ((bt hb1 hW).cell (p := ⟨g4, 0, none⟩) b1.2.2.2).trans y4)
  have HRA := Lib.hid (show ∀ W, Below w1.heap.size w1 W → RowsAt W Aa na f from fun W hW => hra.keep (bt hb1 hW))
  have HRB := Lib.hid (show ∀ W, Below w1.heap.size w1 W → RowsAt W Ab nb g from fun W hW => hrb.keep (bt hb1 hW))
  have HIJ := Lib.hid hij
  have HKA := Lib.hid (show na ≤ ca ∧ j - i ≤ ca - i ∧ ca - i ≤ maxLen from ⟨hca.1, by omega, by omega⟩)
  have HKB := Lib.hid (show nb ≤ cb ∧ j - i ≤ cb - i ∧ cb - i ≤ maxLen from ⟨hcb.1, by omega, by omega⟩)
  have CT := Lib.hid (show ∀ (A' : Option Addr) (c' : Nat) (B' : Option Addr) (k' : Nat) (W : World), Below w1.heap.size w1 W → RowsAt W A' (j - i) (fun t => f (i + t)) → (j - i ≤ c' ∧ c' ≤ maxLen) → RowsAt W B' (j - i) (fun t => g (i + t)) → (j - i ≤ k' ∧ k' ≤ maxLen) →
      Calls Tryd.prog 22 #[.slice A' (j - i) c', .slice B' (j - i) k'] W (ResPost W.heap.size r W) from fun A' c' B' k' W hW h1 h2 h3 h4 => by
    have := cTwo_yes A' (j - i) c' (fun t => f (i + t)) B' k' (fun t => g (i + t)) W (by omega) (by omega) h1 h2 h3 h4 (fun t ht => hsf _ (by omega)) (fun t ht => hsg _ (by omega)) (ht.below (bt hb1 hW))
    rw [hr, raws_cut f na i j hij.1 hij.2.1, raws_cut g nb i j hij.1 hij.2.2]
    exact this)
  have hsz := alloc_size w (.cells #[.slice none 0 0, .slice none 0 0] 29)
  rw [hw1] at hsz
  have HSZ := Lib.hid hsz
  obtain ⟨hi1, hi2, hi3⟩ := hij
  clear hsz hrow hb1 hw1 y1 y2 y3 y4 b1 hra hrb hca hcb hsf hsg ht hr
  go_enter Tryd.func86, Tryd.ntmps86
  go_upto_region 1 with fail
  rw [HW1.out]
  refine Free.wp_free_l 11 (fun W => Below w1.heap.size w1 W) [Free.kc (.slice Aa na ca), Free.kc (.int .i64 (i : Int)), Free.kc (.int .i64 (j : Int)), Free.kr (j - i) ((((List.range na).map fun i => pv (f i)).take j).drop i), Free.kc (.slice Ab nb cb), Free.kc (.int .i64 (i : Int)), Free.kc (.int .i64 (j : Int)), Free.kr (j - i) ((((List.range nb).map fun i => pv (g i)).take j).drop i), Free.kR (w1.heap.size) (r), Free.kG (w1.heap.size) (r), Free.kc (.bool r.isSome)] (by kernel_rfl) (by kernel_rfl) (by decide) (Below.refl _ _).drew (fun w w' h g => bt h g) ?_ ?_
  · refine Free.forall_succ (Free.forall_succ (Free.forall_succ (Free.forall_succ (Free.forall_succ (Free.forall_succ (Free.forall_succ (Free.forall_succ (Free.forall_succ (Free.forall_succ (Free.forall_succ (Free.forall_zero) ?_) ?_) ?_) ?_) ?_) ?_) ?_) ?_) ?_) ?_) ?_
    · exact Free.ob_plain _ rfl rfl fun vals wq hC hd => (by exact Free.d_load rfl (show _ = (Value.pointer (some ⟨g1, 0, none⟩)) from by kernel_rfl) (by have hcc := CA.out wq hC; go_simp) rfl)
    · exact Free.ob_plain _ rfl rfl fun vals wq hC hd => (by exact Free.d_load rfl (show _ = (Value.pointer (some ⟨g2, 0, none⟩)) from by kernel_rfl) (by have hcc := CI.out wq hC; go_simp) rfl)
    · exact Free.ob_plain _ rfl rfl fun vals wq hC hd => (by exact Free.d_load rfl (show _ = (Value.pointer (some ⟨g3, 0, none⟩)) from by kernel_rfl) (by have hcc := CJ.out wq hC; go_simp) rfl)
    · exact Free.ob_plain _ rfl rfl fun vals wq hC hd => (by exact (by obtain ⟨A', hrun, hss⟩ := run_cutR_lh (rows_rd (HRA.out wq hC)) (by simp) HKA.out.1 i j HIJ.out.1 HIJ.out.2.1; exact Free.d_slice rfl (Eq.trans (b := vals 0) (by kernel_rfl) (hd 0 (by kernel_rfl))) (show _ = some (Value.int .i64 (i : Int)) from congrArg some (Eq.trans (b := vals 1) (by kernel_rfl) (hd 1 (by kernel_rfl)))) (show _ = some (Value.int .i64 (j : Int)) from congrArg some (Eq.trans (b := vals 2) (by kernel_rfl) (hd 2 (by kernel_rfl)))) rfl hrun ⟨A', _, rfl, hss, HKA.out.2.1, HKA.out.2.2⟩))
    · exact Free.ob_plain _ rfl rfl fun vals wq hC hd => (by exact Free.d_load rfl (show _ = (Value.pointer (some ⟨g4, 0, none⟩)) from by kernel_rfl) (by have hcc := CB.out wq hC; go_simp) rfl)
    · exact Free.ob_plain _ rfl rfl fun vals wq hC hd => (by exact Free.d_load rfl (show _ = (Value.pointer (some ⟨g2, 0, none⟩)) from by kernel_rfl) (by have hcc := CI.out wq hC; go_simp) rfl)
    · exact Free.ob_plain _ rfl rfl fun vals wq hC hd => (by exact Free.d_load rfl (show _ = (Value.pointer (some ⟨g3, 0, none⟩)) from by kernel_rfl) (by have hcc := CJ.out wq hC; go_simp) rfl)
    · exact Free.ob_plain _ rfl rfl fun vals wq hC hd => (by exact (by obtain ⟨A', hrun, hss⟩ := run_cutR_lh (rows_rd (HRB.out wq hC)) (by simp) HKB.out.1 i j HIJ.out.1 HIJ.out.2.2; exact Free.d_slice rfl (Eq.trans (b := vals 4) (by kernel_rfl) (hd 4 (by kernel_rfl))) (show _ = some (Value.int .i64 (i : Int)) from congrArg some (Eq.trans (b := vals 5) (by kernel_rfl) (hd 5 (by kernel_rfl)))) (show _ = some (Value.int .i64 (j : Int)) from congrArg some (Eq.trans (b := vals 6) (by kernel_rfl) (hd 6 (by kernel_rfl)))) rfl hrun ⟨A', _, rfl, hss, HKB.out.2.1, HKB.out.2.2⟩))
    · exact Free.ob_plain _ rfl rfl fun vals wq hC hd => (by obtain ⟨A3, k3, e3, rd3, le3, mx3⟩ := hd 3 (by kernel_rfl); obtain ⟨A7, k7, e7, rd7, le7, mx7⟩ := hd 7 (by kernel_rfl); exact Free.d_call Tryd.func22 (by kernel_rfl) (by kernel_rfl) rfl rfl (Free.arg2 (Eq.trans (b := vals 3) (by kernel_rfl) e3) (Eq.trans (b := vals 7) (by kernel_rfl) e7)) ((CT.out A3 k3 A7 k7 wq hC (rd_rows rd3 (fun t ht => by rw [List.getElem?_drop, List.getElem?_take_of_lt (by omega), List.getElem?_map, List.getElem?_range (by omega)]; rfl) (fun t ht => rows_pc (HRA.out wq hC) (by omega))) ⟨le3, mx3⟩ (rd_rows rd7 (fun t ht => by rw [List.getElem?_drop, List.getElem?_take_of_lt (by omega), List.getElem?_map, List.getElem?_range (by omega)]; rfl) (fun t ht => rows_pc (HRB.out wq hC) (by omega))) ⟨le7, mx7⟩).mono fun e w2 h => (by obtain ⟨A7, n7, c7, B7, m7, k7, he, h1, h2, hb⟩ := h; exact ⟨_, he, ⟨_, rfl, ⟨A7, n7, c7, B7, m7, k7, rfl, h1.base hC.size, h2.base hC.size⟩⟩, hb⟩)))
    · exact Free.ob_plain _ rfl rfl fun vals wq hC hd => (by obtain ⟨v8, e8, pd8⟩ := hd 8 (by kernel_rfl); exact (by obtain ⟨A7, n7, c7, B7, m7, k7, he7, h1, h2⟩ := pd8; exact Free.d_extract rfl (Eq.trans (Eq.trans (b := vals 8) (by kernel_rfl) e8) he7) (by first | rfl | (go_simp; done)) ⟨_, rfl, ⟨A7, n7, c7, B7, m7, k7, rfl, h1, h2⟩⟩))
    · exact Free.ob_plain _ rfl rfl fun vals wq hC hd => (by obtain ⟨v8, e8, pd8⟩ := hd 8 (by kernel_rfl); exact (by obtain ⟨A7, n7, c7, B7, m7, k7, he7, h1, h2⟩ := pd8; exact Free.d_extract rfl (Eq.trans (Eq.trans (b := vals 8) (by kernel_rfl) e8) he7) (by first | rfl | (go_simp; done)) rfl))
  · intro vals wq hC hd
    have e0 : vals 0 = (.slice Aa na ca) := hd 0 (by decide)
    have e1 : vals 1 = (.int .i64 (i : Int)) := hd 1 (by decide)
    have e2 : vals 2 = (.int .i64 (j : Int)) := hd 2 (by decide)
    obtain ⟨A3, k3, e3, rd3, le3, mx3⟩ := hd 3 (by decide)
    have e4 : vals 4 = (.slice Ab nb cb) := hd 4 (by decide)
    have e5 : vals 5 = (.int .i64 (i : Int)) := hd 5 (by decide)
    have e6 : vals 6 = (.int .i64 (j : Int)) := hd 6 (by decide)
    obtain ⟨A7, k7, e7, rd7, le7, mx7⟩ := hd 7 (by decide)
    obtain ⟨v8, e8, pd8⟩ := hd 8 (by decide)
    obtain ⟨v9, e9, pd9⟩ := hd 9 (by decide)
    have e10 : vals 10 = (.bool r.isSome) := hd 10 (by decide)
    simp only [Free.frameOf, List.range, List.range.loop, List.foldl, Free.dstOf, List.getElem?_toArray, List.getElem?_cons_zero, List.getElem?_cons_succ, Option.bind_some, Act.put, List.setIfInBounds_toArray, List.set_cons_zero, List.set_cons_succ, e0, e1, e2, e3, e4, e5, e6, e7, e8, e9, e10]
    clear hd e0 e1 e2 e3 e4 e5 e6 e7 e8 e9 e10
    obtain ⟨A7, n7, c7, B7, m7, k7, rfl, hf1, hf2⟩ := pd9
    have HB4 := Lib.hid (bt HB1.out hC)
    have hres := Row.belowS HROW0.out hC (Nat.le_refl _)
    have x0 := hres.cellQ 0 _ rfl
    have x1 := hres.cellQ 1 _ rfl
    have f0 := hres.frozen 0
    have f1 := hres.frozen 1
    have HROW := Lib.hid (show ∀ u v, Row (setFrom w.heap.size wq 0 [u, v]) w.heap.size #[u, v] 29 from fun u v => hres.all [u, v] rfl)
    have HF := Lib.hid (And.intro hf1 hf2)
    have HL := Lib.hid (show w.heap.size < w1.heap.size by rw [HSZ.out]; omega)
    clear hres hf1 hf2 hC pd8 rd3 le3 mx3 rd7 le7 mx7
    go_wp2
    generalize hwd : World.setCell (World.setCell wq _ _) _ _ = wd
    have hsf : setFrom w.heap.size wq 0 [.slice A7 n7 c7, .slice B7 m7 k7] = wd := by rw [← hwd]; rfl
    have r0 : wd.cell? ⟨w.heap.size, 0, none⟩ = some (.slice A7 n7 c7) := by rw [← hsf]; exact (HROW.out _ _).cellQ 0 _ rfl
    have r1 : wd.cell? ⟨w.heap.size, 1, none⟩ = some (.slice B7 m7 k7) := by rw [← hsf]; exact (HROW.out _ _).cellQ 1 _ rfl
    refine bodyPost_ret (v := .tuple #[.agg #[.slice A7 n7 c7, .slice B7 m7 k7], .bool r.isSome]) (by simp [results, Tryd.results86, go_sem, r0, r1]) rfl ?_
    exact ⟨A7, n7, c7, B7, m7, k7, rfl, by rw [← hsf]; exact (HF.out.1.set HL.out _ 0).base (Nat.le_of_lt HL.out), by rw [← hsf]; exact (HF.out.2.set HL.out _ 0).base (Nat.le_of_lt HL.out), by rw [← hsf]; exact below_setFrom (Nat.le_refl _) _ 0 HB4.out⟩
/-- A search that waits is one. -/
theorem Wait.try {E : Lists} {w : World} {v : Value} {r : Option (List UInt8 × List UInt8)} (h : Wait E w v r) (ht : Tabs w) (hn : E.na ≤ 300) (hra : RowsAt w E.Aa E.na E.f) (hca : E.na ≤ E.ca ∧ E.ca ≤ maxLen) (hrb : RowsAt w E.Ab E.nb E.g) (hcb : E.nb ≤ E.cb ∧ E.cb ≤ maxLen) (hsf : ∀ t, t < E.na → (E.f t).n ≤ 1000) (hsg : ∀ t, t < E.nb → (E.g t).n ≤ 1000) : Try w v r := by
  rcases h with ⟨e, rfl⟩ | ⟨g1, g2, A, n, c, B, m, k', a, b, e, h1, h2, h3, h4, h5, h6, rfl⟩ | ⟨g1, g2, g3, g4, i, j, e, h1, h2, h3, h4, h5, h6, h7, h8⟩
  · exact ⟨_, _, _, e, Tryd.func65, by kernel_rfl, by kernel_rfl, fun W hW => none_any W⟩
  · exact ⟨_, _, _, e, Tryd.func74, by kernel_rfl, by kernel_rfl, fun W hW => pair1_any g1 g2 A n c B m k' a b W (Nat.lt_of_lt_of_le h1.lt hW.size) (Nat.lt_of_lt_of_le h2.lt hW.size)
      ((h1.keep hW).cellQ 0 _ rfl) ((h2.keep hW).cellQ 0 _ rfl) ((Fr.of8 h3).bs.keep hW) (by rw [← h3.len]; exact h5) ((Fr.of8 h4).bs.keep hW) (by rw [← h4.len]; exact h6) (ht.below hW)⟩
  · exact ⟨_, _, _, e, Tryd.func86, by kernel_rfl, by kernel_rfl, fun W hW => part1_any g1 g2 g3 g4 i j E.Aa E.na E.ca E.f E.Ab E.nb E.cb E.g r W
      ⟨Nat.lt_of_lt_of_le h1.lt hW.size, Nat.lt_of_lt_of_le h2.lt hW.size, Nat.lt_of_lt_of_le h3.lt hW.size, Nat.lt_of_lt_of_le h4.lt hW.size⟩
      ((h1.keep hW).cellQ 0 _ rfl) ((h2.keep hW).cellQ 0 _ rfl) ((h3.keep hW).cellQ 0 _ rfl) ((h4.keep hW).cellQ 0 _ rfl) ⟨by omega, h6, h7⟩ hn (hra.keep hW) hca (hrb.keep hW) hcb hsf hsg (ht.below hW) h5 h8⟩
set_option maxHeartbeats 4000000 in
theorem part_any' (E : Lists) (i j : Nat) (w : World) (hij : i < j ∧ j ≤ E.na ∧ j ≤ E.nb) :
    Calls Tryd.prog 66 #[.slice E.Aa E.na E.ca, .slice E.Ab E.nb E.cb, .int .i64 (i : Int), .int .i64 (j : Int)] w fun e w' => ∃ v, e = .returned v ∧ Wait E w' v (Cl.two (Cl.cutL (raws E.f E.na) i j) (Cl.cutL (raws E.g E.nb) i j)) ∧ Below w.heap.size w w' := by
  obtain ⟨Aa, na, ca, f, Ab, nb, cb, g⟩ := E
  obtain ⟨h1, h2, h3⟩ := hij
  have HB := Lib.hid (show Below w.heap.size w ((((w.alloc (.cells #[.slice Aa na ca] 22)).alloc (.cells #[.slice Ab nb cb] 22)).alloc (.cells #[.int .i64 (i : Int)] 3)).alloc (.cells #[.int .i64 (j : Int)] 3)) from ((((Below.refl _ w).alloc (Nat.le_refl _) _).alloc (by simp only [alloc_size]; omega) _).alloc (by simp only [alloc_size]; omega) _).alloc (by simp only [alloc_size]; omega) _)
  have r1 := (((row_new w #[.slice Aa na ca] 22).alloc (.cells #[.slice Ab nb cb] 22)).alloc (.cells #[.int .i64 (i : Int)] 3)).alloc (.cells #[.int .i64 (j : Int)] 3)
  have r2 := ((row_new (w.alloc (.cells #[.slice Aa na ca] 22)) #[.slice Ab nb cb] 22).alloc (.cells #[.int .i64 (i : Int)] 3)).alloc (.cells #[.int .i64 (j : Int)] 3)
  have r3 := (row_new ((w.alloc (.cells #[.slice Aa na ca] 22)).alloc (.cells #[.slice Ab nb cb] 22)) #[.int .i64 (i : Int)] 3).alloc (.cells #[.int .i64 (j : Int)] 3)
  have r4 := row_new (((w.alloc (.cells #[.slice Aa na ca] 22)).alloc (.cells #[.slice Ab nb cb] 22)).alloc (.cells #[.int .i64 (i : Int)] 3)) #[.int .i64 (j : Int)] 3
  rw [alloc_size] at r2
  rw [alloc_size, alloc_size] at r3
  rw [alloc_size, alloc_size, alloc_size] at r4
  have HR := Lib.hid (And.intro r1 (And.intro r2 (And.intro r3 r4)))
  clear r1 r2 r3 r4
  go_enter Tryd.func66, Tryd.ntmps66
  go_wp2
  go_ret
  exact ⟨_, rfl, .inr (.inr ⟨_, _, _, _, i, j, rfl, HR.out.1, HR.out.2.2.1, HR.out.2.2.2, HR.out.2.1, h1, h2, h3, rfl⟩), HB.out⟩
/-- A step's cells. -/
def stc (s : Cl.St) : List Value := [.int .i64 (s.fr : Int), .int .i64 (s.m : Int), .int .i64 (s.n : Int), .int .i64 (s.k : Int), .bool s.rt]
theorem stepT : ElemT Tryd.prog 76 80 5 40 := ElemT.mk' (z := .agg #[.int .i64 0, .int .i64 0, .int .i64 0, .int .i64 0, .bool false]) Tryd.underlying76 (by kernel_rfl) rfl (by omega)
/-- A row of steps that is the call's own. -/
structure OwnT (w : World) (B : Nat) (A : Option Addr) (n c : Nat) (ss : List Cl.St) : Prop where
  own : w.ownsRow B 80 5 (.slice A n c) n (ss.flatMap stc)
  len : ss.length = n
  cap : n ≤ c
  max : c ≤ maxLen
theorem OwnT.keep {w w' : World} {B n c : Nat} {A : Option Addr} {ss : List Cl.St} (h : OwnT w B A n c ss) (hb : Below w.heap.size w w') : OwnT w' B A n c ss := ⟨own_keep h.own hb (Nat.le_refl _), h.len, h.cap, h.max⟩
theorem OwnT.keepT {w w' : World} {B n c : Nat} {A : Option Addr} {ss : List Cl.St} (h : OwnT w B A n c ss) (k : KeepT w w') : OwnT w' B A n c ss := ⟨own_keepT h.own (by decide) k, h.len, h.cap, h.max⟩
theorem OwnT.base {w : World} {B B' n c : Nat} {A : Option Addr} {ss : List Cl.St} (h : OwnT w B A n c ss) (hB : B' ≤ B) : OwnT w B' A n c ss := ⟨own_base h.own hB, h.len, h.cap, h.max⟩
theorem OwnT.nil (w : World) (B : Nat) : OwnT w B none 0 0 [] := ⟨own_nil _ _ _ _, rfl, Nat.le_refl _, Nat.zero_le _⟩
theorem stc_at : ∀ (ss : List Cl.St) (t j : Nat) (s : Cl.St), ss[t]? = some s → j < 5 → (ss.flatMap stc)[t * 5 + j]? = (stc s)[j]?
  | [], t, j, s, h, hj => by simp at h
  | s0 :: ss, t, j, s, h, hj => by
    rw [List.flatMap_cons]
    cases t with
    | zero =>
      simp only [List.getElem?_cons_zero, Option.some.injEq] at h
      subst h
      rw [List.getElem?_append_left (by show 0 * 5 + j < 5; omega)]
      simp
    | succ t =>
      rw [List.getElem?_cons_succ] at h
      have e : (stc s0).length = 5 := rfl
      rw [List.getElem?_append_right (by omega), e, show (t + 1) * 5 + j - 5 = t * 5 + j by omega]
      exact stc_at ss t j s h hj
theorem stc_len (ss : List Cl.St) : (ss.flatMap stc).length = ss.length * 5 := by
  induction ss with
  | nil => rfl
  | cons s ss ih =>
    rw [List.flatMap_cons, List.length_append, ih, List.length_cons]
    show 5 + ss.length * 5 = _
    omega
theorem OwnT.at {w : World} {B n c : Nat} {A : Option Addr} {ss : List Cl.St} (h : OwnT w B A n c ss) (hn : 0 < n) : ∃ g, A = some ⟨g, 0, none⟩ ∧ B ≤ g ∧ g < w.heap.size ∧ ∀ t s, ss[t]? = some s → ∀ j v, (stc s)[j]? = some v → w.cell? ⟨g, t * 5 + j, none⟩ = some v := by
  rcases h.own.2 with ⟨hv, h0⟩ | ⟨g, cap, cur, hv, h1, h2, _⟩
  · have := h.own.1; omega
  · simp only [Value.slice.injEq, true_and] at hv
    refine ⟨g, hv.1, h1, heap_lt' h2, fun t s ht j v hj => ?_⟩
    have hj5 : j < 5 := (List.getElem?_eq_some_iff.1 hj).1
    have e := stc_at ss t j s ht hj5
    rw [hj] at e
    have hrd := Rd.of_own h.own
    obtain ⟨b, off, he, _, hc⟩ := hrd (fun e2 => by rw [e2] at e; simp at e)
    rw [hv.1] at he
    injection he with he
    injection he with hb ho
    have := hc (t * 5 + j) v e
    rw [← hb, ← ho, Nat.zero_add] at this
    exact this
end Go.Proofs.YtlcdpbpbfofmmaaDoor

namespace Go.Proofs.YtlcdpbpbfofmmaaDoor
set_option maxRecDepth 100000
set_option linter.unusedVariables false
open Go.RowKit
section
variable {ops : Array Oper} {rest : List Oper} {o : Oper} {a : Act} {Q : Exit → Act → World → Prop} {w0 : World}
/-- append(steps, s). -/
theorem wl_appT (hgd : o.guard = none) (v x : Operand) (ho : o.op = .call { callee := .builtin .append, args := #[v, x], argTypes := #[76, 76] }) {B : Nat} {A : Option Addr} {n c : Nat} {ss : List Cl.St} (hs : a.eval v = .slice A n c) (h1 : OwnT w0 B A n c ss)
    (hx : a.eval x = .slice (some ⟨w0.heap.size, 0, none⟩) 1 1) (s : Cl.St) (hsz : n ≤ 1000000) (hB : B ≤ w0.heap.size)
    (h : ∀ A' c' w', OwnT w' B A' (n + 1) c' (ss ++ [s]) → Below B w0 w' → (w0.alloc (.cells (stc s).toArray 80)).grownBy w' (Value.slice A n c).ownBlock → wpList Tryd.prog ops Q rest (a.put o.dst (.slice A' (n + 1) c')) w') :
    wpList Tryd.prog ops Q (o :: rest) a (w0.alloc (.cells #[.int .i64 (s.fr : Int), .int .i64 (s.m : Int), .int .i64 (s.n : Int), .int .i64 (s.k : Int), .bool s.rt] 80)) := by
  have hb0 : Below w0.heap.size w0 (w0.alloc (.cells (stc s).toArray 80)) := (Below.refl _ w0).alloc (Nat.le_refl _) _
  show wpList Tryd.prog ops Q (o :: rest) a (w0.alloc (.cells (stc s).toArray 80))
  refine wl_app hgd v x 76 ho B 80 5 40 stepT _ n _ hs (own_keep h1.own hb0 (Nat.le_refl _)) (w0.heap.size + 1) (some ⟨w0.heap.size, 0, none⟩) 1 1 (stc s) hx (rd_new w0 (stc s) 80 (0, 0)) rfl (by intro u hu; unfold stc at hu; simp only [List.mem_cons, List.not_mem_nil, or_false] at hu; rcases hu with rfl | rfl | rfl | rfl | rfl <;> rfl) (by rw [maxLen_eq]; omega) (by omega) (Nat.le_trans hB hb0.size) fun A' c' w' g1 g2 _ g4 g5 g6 => h A' c' w' ⟨?_, by rw [List.length_append, h1.len]; rfl, g5, g6⟩ ((hb0.mono hB).trans g4) g2
  rw [List.flatMap_append]
  simpa using g1
end
def StepsPost (w : World) (r : List Cl.St × Nat) (e : Ending) (w' : World) : Prop := ∃ A n c, e = .returned (.tuple #[.slice A n c, .int .i64 (r.2 : Int)]) ∧ OwnT w' w.heap.size A n c r.1 ∧ Below w.heap.size w w'
set_option maxHeartbeats 16000000 in
theorem descend8_any (m n : Nat) (w : World) (h1 : 1 ≤ m) (hmn : m ≤ n) (hn : n ≤ 1000) : Calls Tryd.prog 64 #[.int .i64 (m : Int), .int .i64 (n : Int)] w (StepsPost w (Cl.dsc n 0 m n)) := by
  obtain ⟨R, hR⟩ : ∃ R, Cl.dsc n 0 m n = R := ⟨_, rfl⟩
  have HR := Lib.hid hR
  rw [hR]
  go_enter Tryd.func64, Tryd.ntmps64
  go_wp2
  go_loopw [0, 1, 6, 7] (fun vm vn vs vf wr => ∃ (m1 n1 f1 : Nat) (A : Option Addr) (k c : Nat) (ss : List Cl.St), vm = .int .i64 (m1 : Int) ∧ vn = .int .i64 (n1 : Int) ∧ vs = .slice A k c ∧ vf = .int .i64 (f1 : Int) ∧ 1 ≤ m1 ∧ m1 ≤ n1 ∧ k + n1 ≤ 1000 ∧ f1 + n1 ≤ 1000 ∧ Hid (OwnT wr w.heap.size A k c ss ∧ Below w.heap.size w wr ∧ R = (ss ++ (Cl.dsc n1 f1 m1 n1).1, (Cl.dsc n1 f1 m1 n1).2))) (fun _ vn _ _ _ => (intOf vn).toNat)
  case atStart => exact ⟨m, n, 0, none, 0, 0, [], rfl, rfl, rfl, rfl, h1, hmn, by omega, by omega, Lib.hid ⟨OwnT.nil _ _, Below.refl _ _, HR.out.symm⟩⟩
  case round =>
    obtain ⟨m1, n1, f1, A, k, c, ss, rfl, rfl, rfl, rfl, hm1, hmn1, hkn, hfn, H⟩ := hrel
    by_cases hlt : m1 < n1
    · obtain ⟨k0, hk⟩ : ∃ k0, Tree.sp n1 = k0 := ⟨_, rfl⟩
      have kp := Tree.sp_pos (n := n1) (by omega)
      have kl := Tree.sp_lt (n := n1) (by omega)
      rw [hk] at kp kl
      have HSP := Lib.hid (show Tree.spz (n1 : Int) = k0 by rw [Tree.spz_in (by omega) (by omega), hk])
      have HK := Lib.hid hk
      clear hk
      have hcap := H.out.1.cap
      have hmax := H.out.1.max
      rw [maxLen_eq] at hmax
      go_wp2_with fail
      refine (split_any (n1 : Int) wr (by omega) (by omega)).mono ?_
      rintro e wz ⟨rfl, rfl⟩
      rw [HSP.out]
      by_cases hr : k0 < m1
      · have hd := Lib.hid (show decide (k0 < m1) = true from decide_eq_true hr)
        have hrz : (k0 : Int) < (m1 : Int) := by omega
        have hbox : Below wr.heap.size wr (wr.alloc (.cells #[.int .i64 (f1 : Int), .int .i64 (m1 : Int), .int .i64 (n1 : Int), .int .i64 (k0 : Int), .bool true] 80)) := (Below.refl _ wr).alloc (Nat.le_refl _) _
        have HBX := Lib.hid hbox
        have hrow := row_new wr #[.int .i64 (f1 : Int), .int .i64 (m1 : Int), .int .i64 (n1 : Int), .int .i64 (k0 : Int), .bool true] 80
        obtain ⟨wy, hwy⟩ : ∃ wy, wr.alloc (.cells #[.int .i64 (f1 : Int), .int .i64 (m1 : Int), .int .i64 (n1 : Int), .int .i64 (k0 : Int), .bool true] 80) = wy := ⟨_, rfl⟩
        rw [hwy] at HBX hrow
        have HWY := Lib.hid hwy
        have y0 := hrow.cellQ 0 _ rfl
        have y1 := hrow.cellQ 1 _ rfl
        have y2 := hrow.cellQ 2 _ rfl
        have y3 := hrow.cellQ 3 _ rfl
        have y4 := hrow.cellQ 4 _ rfl
        have HO := Lib.hid (H.out.1.keep HBX.out)
        have HBW := Lib.hid (bt H.out.2.1 HBX.out)
        have HE := Lib.hid (show R = ((ss ++ [⟨f1, m1, n1, k0, true⟩]) ++ (Cl.dsc (n1 - k0) (f1 + k0) (m1 - k0) (n1 - k0)).1, (Cl.dsc (n1 - k0) (f1 + k0) (m1 - k0) (n1 - k0)).2) by
          obtain ⟨q, hq⟩ : ∃ q, n1 = q + 1 := ⟨n1 - 1, by omega⟩
          have e1 : Cl.dsc n1 f1 m1 n1 = (⟨f1, m1, n1, k0, true⟩ :: (Cl.dsc (n1 - k0) (f1 + k0) (m1 - k0) (n1 - k0)).1, (Cl.dsc (n1 - k0) (f1 + k0) (m1 - k0) (n1 - k0)).2) := by
            rw [Cl.dsc_enough n1 (q + 1) f1 m1 n1 (Nat.le_refl _) (by omega) hm1, Cl.dsc_right hlt (by rw [HK.out]; exact hr), HK.out, Cl.dsc_enough q (n1 - k0) (f1 + k0) (m1 - k0) (n1 - k0) (by omega) (Nat.le_refl _) (by omega)]
          rw [H.out.2.2, e1, List.append_assoc]; rfl)
        have HRB := Lib.hid hrow
        clear hbox hrow hwy
        go_upto_region 6 with fail
        first | rw [HWY.out] | rw [hd.out, HWY.out]
        go_wp2_with (at_builtin; refine wl_appT rfl (.tmp 23) (.tmp 25) rfl rfl HO.out rfl ⟨f1, m1, n1, k0, true⟩ (by omega) HBW.out.size ?_; intro A4 c4 w4 ho4 hb4 hg4; have hrow4 : Row w4 wr.heap.size #[.int .i64 (f1 : Int), .int .i64 (m1 : Int), .int .i64 (n1 : Int), .int .i64 (k0 : Int), .bool true] 80 := ((HRB.out).alloc _).grown hg4 (fun e => by have := (H.out.1.own.lt _ e).2; omega); have z4 := hrow4.cellQ 4 _ rfl; have HO4 := Lib.hid ho4; have HB4 := Lib.hid (HBW.out.trans hb4); clear hrow4 ho4 hb4 hg4)
        go_roundw
        case rel => exact ⟨(m1 - k0), (n1 - k0), (f1 + k0), A4, k + 1, c4, ss ++ [⟨f1, m1, n1, k0, true⟩], by go_num, by go_num, rfl, by go_num, by omega, by omega, by omega, by omega, Lib.hid ⟨HO4.out, HB4.out, HE.out⟩⟩
        case measure => simp [intOf]; omega
      · have hd := Lib.hid (show decide (k0 < m1) = false from decide_eq_false hr)
        have hrz : ¬ (k0 : Int) < (m1 : Int) := by omega
        have hbox : Below wr.heap.size wr (wr.alloc (.cells #[.int .i64 (f1 : Int), .int .i64 (m1 : Int), .int .i64 (n1 : Int), .int .i64 (k0 : Int), .bool false] 80)) := (Below.refl _ wr).alloc (Nat.le_refl _) _
        have HBX := Lib.hid hbox
        have hrow := row_new wr #[.int .i64 (f1 : Int), .int .i64 (m1 : Int), .int .i64 (n1 : Int), .int .i64 (k0 : Int), .bool false] 80
        obtain ⟨wy, hwy⟩ : ∃ wy, wr.alloc (.cells #[.int .i64 (f1 : Int), .int .i64 (m1 : Int), .int .i64 (n1 : Int), .int .i64 (k0 : Int), .bool false] 80) = wy := ⟨_, rfl⟩
        rw [hwy] at HBX hrow
        have HWY := Lib.hid hwy
        have y0 := hrow.cellQ 0 _ rfl
        have y1 := hrow.cellQ 1 _ rfl
        have y2 := hrow.cellQ 2 _ rfl
        have y3 := hrow.cellQ 3 _ rfl
        have y4 := hrow.cellQ 4 _ rfl
        have HO := Lib.hid (H.out.1.keep HBX.out)
        have HBW := Lib.hid (bt H.out.2.1 HBX.out)
        have HE := Lib.hid (show R = ((ss ++ [⟨f1, m1, n1, k0, false⟩]) ++ (Cl.dsc k0 f1 m1 k0).1, (Cl.dsc k0 f1 m1 k0).2) by
          obtain ⟨q, hq⟩ : ∃ q, n1 = q + 1 := ⟨n1 - 1, by omega⟩
          have e1 : Cl.dsc n1 f1 m1 n1 = (⟨f1, m1, n1, k0, false⟩ :: (Cl.dsc k0 f1 m1 k0).1, (Cl.dsc k0 f1 m1 k0).2) := by
            rw [Cl.dsc_enough n1 (q + 1) f1 m1 n1 (Nat.le_refl _) (by omega) hm1, Cl.dsc_left hlt (by rw [HK.out]; exact hr), HK.out, Cl.dsc_enough q k0 f1 m1 k0 (by omega) (Nat.le_refl _) (by omega)]
          rw [H.out.2.2, e1, List.append_assoc]; rfl)
        have HRB := Lib.hid hrow
        clear hbox hrow hwy
        go_upto_region 6 with fail
        first | rw [HWY.out] | rw [hd.out, HWY.out]
        go_wp2_with (at_builtin; refine wl_appT rfl (.tmp 23) (.tmp 25) rfl rfl HO.out rfl ⟨f1, m1, n1, k0, false⟩ (by omega) HBW.out.size ?_; intro A4 c4 w4 ho4 hb4 hg4; have hrow4 : Row w4 wr.heap.size #[.int .i64 (f1 : Int), .int .i64 (m1 : Int), .int .i64 (n1 : Int), .int .i64 (k0 : Int), .bool false] 80 := ((HRB.out).alloc _).grown hg4 (fun e => by have := (H.out.1.own.lt _ e).2; omega); have z4 := hrow4.cellQ 4 _ rfl; have HO4 := Lib.hid ho4; have HB4 := Lib.hid (HBW.out.trans hb4); clear hrow4 ho4 hb4 hg4)
        go_roundw
        case rel => exact ⟨m1, k0, f1, A4, k + 1, c4, ss ++ [⟨f1, m1, n1, k0, false⟩], rfl, rfl, rfl, rfl, by omega, by omega, by omega, by omega, Lib.hid ⟨HO4.out, HB4.out, HE.out⟩⟩
        case measure => simp [intOf]; omega
    · obtain rfl : m1 = n1 := by omega
      have HE := Lib.hid (show R = (ss, f1) by rw [H.out.2.2, Cl.dsc_done (by omega), List.append_nil])
      go_wp2
      go_ret2
      exact ⟨A, k, c, by rw [HE.out]; rfl, by rw [HE.out]; exact H.out.1, H.out.2.1⟩
end Go.Proofs.YtlcdpbpbfofmmaaDoor

namespace Go.Proofs.YtlcdpbpbfofmmaaDoor
set_option maxRecDepth 100000
set_option linter.unusedVariables false
open Go.RowKit
/-- The two rows of searches, filled from their ends. -/
structure LC (E : Lists) (wm wr : World) (tb ta K lb la : Nat) (cb ca : Array Value) (rb ra : Nat → Option (List UInt8 × List UInt8)) : Prop where
  rowB : Row wr tb cb 63
  rowA : Row wr ta ca 63
  szB : cb.size = K
  szA : ca.size = K
  keep : KeepT wm wr
  wb : ∀ t, lb ≤ t → t < K → ∃ v, cb[t]? = some v ∧ Wait E wr v (rb t)
  wa : ∀ t, la ≤ t → t < K → ∃ v, ca[t]? = some v ∧ Wait E wr v (ra t)
section
variable {E : Lists} {wm wr w' : World} {tb ta K lb la : Nat} {cb ca : Array Value} {rb ra : Nat → Option (List UInt8 × List UInt8)}
theorem LC.step (h : LC E wm wr tb ta K lb la cb ca rb ra) (hb : Below wr.heap.size wr w') : LC E wm w' tb ta K lb la cb ca rb ra :=
  ⟨h.rowB.keep hb, h.rowA.keep hb, h.szB, h.szA, h.keep.trans (KeepT.of hb), fun t h1 h2 => by obtain ⟨v, e, hp⟩ := h.wb t h1 h2; exact ⟨v, e, hp.keep hb⟩, fun t h1 h2 => by obtain ⟨v, e, hp⟩ := h.wa t h1 h2; exact ⟨v, e, hp.keep hb⟩⟩
theorem LC.setB (h : LC E wm wr tb ta K lb la cb ca rb ra) (hne : tb ≠ ta) {t : Nat} (ht : t + 1 = lb) (htK : t < K) {v : Value} (hv : Wait E wr v (rb t)) : LC E wm (wr.setCell ⟨tb, t, none⟩ v) tb ta K t la (cb.setIfInBounds t v) ca rb ra := by
  have hk := KeepT.set h.rowB t v
  exact ⟨h.rowB.set t v, h.rowA.far _ _ _ hne.symm, by rw [Array.size_setIfInBounds]; exact h.szB, h.szA, h.keep.trans hk, fun k h1 h2 => by
    by_cases e : k = t
    · subst e
      exact ⟨v, by rw [Array.getElem?_setIfInBounds_self_of_lt (by rw [h.szB]; exact htK)], hv.keepT hk⟩
    · obtain ⟨u, e2, hp⟩ := h.wb k (by omega) h2
      exact ⟨u, by rw [Array.getElem?_setIfInBounds_ne (by omega)]; exact e2, hp.keepT hk⟩, fun k h1 h2 => by obtain ⟨u, e2, hp⟩ := h.wa k h1 h2; exact ⟨u, e2, hp.keepT hk⟩⟩
theorem LC.junkB (h : LC E wm wr tb ta K lb la cb ca rb ra) (hne : tb ≠ ta) {t : Nat} (ht : t < lb) (v : Value) : LC E wm (wr.setCell ⟨tb, t, none⟩ v) tb ta K lb la (cb.setIfInBounds t v) ca rb ra := by
  have hk := KeepT.set h.rowB t v
  exact ⟨h.rowB.set t v, h.rowA.far _ _ _ hne.symm, by rw [Array.size_setIfInBounds]; exact h.szB, h.szA, h.keep.trans hk, fun k h1 h2 => by
    by_cases e : k = t
    · subst e
      omega
    · obtain ⟨u, e2, hp⟩ := h.wb k (by omega) h2
      exact ⟨u, by rw [Array.getElem?_setIfInBounds_ne (by omega)]; exact e2, hp.keepT hk⟩, fun k h1 h2 => by obtain ⟨u, e2, hp⟩ := h.wa k h1 h2; exact ⟨u, e2, hp.keepT hk⟩⟩
theorem LC.setA (h : LC E wm wr tb ta K lb la cb ca rb ra) (hne : tb ≠ ta) {t : Nat} (ht : t + 1 = la) (htK : t < K) {v : Value} (hv : Wait E wr v (ra t)) : LC E wm (wr.setCell ⟨ta, t, none⟩ v) tb ta K lb t cb (ca.setIfInBounds t v) rb ra := by
  have hk := KeepT.set h.rowA t v
  exact ⟨h.rowB.far _ _ _ hne, h.rowA.set t v, h.szB, by rw [Array.size_setIfInBounds]; exact h.szA, h.keep.trans hk, fun k h1 h2 => by obtain ⟨u, e2, hp⟩ := h.wb k h1 h2; exact ⟨u, e2, hp.keepT hk⟩, fun k h1 h2 => by
    by_cases e : k = t
    · subst e
      exact ⟨v, by rw [Array.getElem?_setIfInBounds_self_of_lt (by rw [h.szA]; exact htK)], hv.keepT hk⟩
    · obtain ⟨u, e2, hp⟩ := h.wa k (by omega) h2
      exact ⟨u, by rw [Array.getElem?_setIfInBounds_ne (by omega)]; exact e2, hp.keepT hk⟩⟩
theorem LC.junkA (h : LC E wm wr tb ta K lb la cb ca rb ra) (hne : tb ≠ ta) {t : Nat} (ht : t < la) (v : Value) : LC E wm (wr.setCell ⟨ta, t, none⟩ v) tb ta K lb la cb (ca.setIfInBounds t v) rb ra := by
  have hk := KeepT.set h.rowA t v
  exact ⟨h.rowB.far _ _ _ hne, h.rowA.set t v, h.szB, by rw [Array.size_setIfInBounds]; exact h.szA, h.keep.trans hk, fun k h1 h2 => by obtain ⟨u, e2, hp⟩ := h.wb k h1 h2; exact ⟨u, e2, hp.keepT hk⟩, fun k h1 h2 => by
    by_cases e : k = t
    · subst e
      omega
    · obtain ⟨u, e2, hp⟩ := h.wa k (by omega) h2
      exact ⟨u, by rw [Array.getElem?_setIfInBounds_ne (by omega)]; exact e2, hp.keepT hk⟩⟩
end
theorem OwnS.keepT {w w' : World} {B n c : Nat} {A : Option Addr} {l : List (List UInt8)} (h : OwnS w B A n c l) (k : KeepT w w') : OwnS w' B A n c l := ⟨own_keepT h.own (by decide) k, h.len, h.cap, h.max⟩
theorem tryT : ElemT Tryd.prog 61 63 1 8 := ElemT.mk' Tryd.underlying61 info_try rfl (by omega)
/-- A row of searches that is the call's own. -/
structure TA (E : Lists) (w : World) (B : Nat) (A : Option Addr) (n c : Nat) (rs : List (Option (List UInt8 × List UInt8))) : Prop where
  ex : ∃ vs : List Value, w.ownsRow B 63 1 (.slice A n c) n vs ∧ vs.length = n ∧ ∀ (i : Nat) v r, vs[i]? = some v → rs[i]? = some r → Wait E w v r
  len : rs.length = n
  cap : n ≤ c
  max : c ≤ maxLen
theorem TA.keep {E : Lists} {w w' : World} {B n c : Nat} {A : Option Addr} {rs : List (Option (List UInt8 × List UInt8))} (h : TA E w B A n c rs) (hb : Below w.heap.size w w') : TA E w' B A n c rs := by
  obtain ⟨vs, h1, h2, h3⟩ := h.ex
  exact ⟨⟨vs, own_keep h1 hb (Nat.le_refl _), h2, fun i v r hv hr => (h3 i v r hv hr).keep hb⟩, h.len, h.cap, h.max⟩
theorem Wait.one {E : Lists} {w : World} {v : Value} {r : Option (List UInt8 × List UInt8)} (h : Wait E w v r) : v.oneCell' = true := by
  obtain ⟨f, caps, rfl⟩ := h.form
  rfl
theorem own_of_row {w : World} {B g : Nat} {cs : Array Value} {e : TypeId} {n : Nat} (h : Row w g cs e) (hn : cs.size = n) (hm : n ≤ maxLen) (hB : B ≤ g) : w.ownsRow B e 1 (.slice (some ⟨g, 0, none⟩) n n) n cs.toList := by
  refine ⟨by rw [Array.length_toList, hn]; omega, .inr ⟨g, n, cs, rfl, hB, h, Nat.le_refl _, hm, by simp [hn], ?_⟩⟩
  rw [← hn]
  simp
  exact List.take_of_length_le (by simp)
set_option maxHeartbeats 8000000 in
theorem cCons_no (A : Option Addr) (n c : Nat) (f : Nat → Piece) (B : Option Addr) (m k : Nat) (g : Nat → Piece) (Ap : Option Addr) (np cp : Nat) (p : List (List UInt8)) (w : World) (hn : n ≤ 300) (hn2 : m ≤ 300) (hra : RowsAt w A n f) (hca : n ≤ c ∧ c ≤ maxLen) (hrb : RowsAt w B m g) (hcb : m ≤ k ∧ k ≤ maxLen)
    (hsf : ∀ i, i < n → (f i).n ≤ 1000) (hsg : ∀ i, i < m → (g i).n ≤ 1000) (hp : Ss w Ap np cp p) (hwf : ∀ s ∈ p, s.length ≤ maxLen) (hnp : np ≤ 900) (ht : Tabs w)
    (hbad : n = 0 ∨ m < n ∨ (n ≤ m ∧ (Tree.all32 p && tcheck n m (troot (tleaves f n)) (troot (tleaves g m)) p) = false)) :
    Calls Tryd.prog 29 #[.slice A n c, .slice B m k, .slice Ap np cp] w (ResPost w.heap.size none w) := by
  have hrow := row_new w #[.slice none 0 0, .slice none 0 0] 29
  have hb0 : Below w.heap.size w (w.alloc (.cells #[.slice none 0 0, .slice none 0 0] 29)) := (Below.refl _ w).alloc (Nat.le_refl _) _
  have hlt0 : w.heap.size < (w.alloc (.cells #[.slice none 0 0, .slice none 0 0] 29)).heap.size := by rw [alloc_size]; omega
  obtain ⟨w1, hw1⟩ : ∃ w1, (w.alloc (.cells #[.slice none 0 0, .slice none 0 0] 29)) = w1 := ⟨_, rfl⟩
  rw [hw1] at hrow hb0 hlt0
  have HW1 := Lib.hid hw1
  have HB0 := Lib.hid hb0
  have HROW0 := Lib.hid hrow
  obtain ⟨X, hX⟩ : ∃ X, tleaves f n = X := ⟨_, rfl⟩
  obtain ⟨Y, hY⟩ : ∃ X, tleaves g m = X := ⟨_, rfl⟩
  have hX32 : ∀ s ∈ X, s.length = 32 := by rw [← hX, raws_lv]; exact Cl.lv_all _
  have hY32 : ∀ s ∈ Y, s.length = 32 := by rw [← hY, raws_lv]; exact Cl.lv_all _
  have hXl : X.length = n := by rw [← hX]; simp [tleaves]
  have hYl : Y.length = m := by rw [← hY]; simp [tleaves]
  have CX := Lib.hid (show ∀ W, Below w.heap.size w W → Calls Tryd.prog 33 #[.slice A n c] W (OwnSPost W.heap.size X W) from fun W hW => by rw [← hX]; exact leaves_any A n c f W (hra.keep hW) hca.1 hca.2 (by omega) (fun i hi => by have := hsf i hi; omega) (ht.below hW))
  have CY := Lib.hid (show ∀ W, Below w.heap.size w W → Calls Tryd.prog 33 #[.slice B m k] W (OwnSPost W.heap.size Y W) from fun W hW => by rw [← hY]; exact leaves_any B m k g W (hrb.keep hW) hcb.1 hcb.2 (by omega) (fun i hi => by have := hsg i hi; omega) (ht.below hW))
  unfold OwnSPost at CX CY
  rw [hX, hY] at hbad
  obtain ⟨RX, hRX⟩ : ∃ R, troot X = R := ⟨_, rfl⟩
  obtain ⟨RY, hRY⟩ : ∃ R, troot Y = R := ⟨_, rfl⟩
  rw [hRX, hRY] at hbad
  have CRX := Lib.hid (show ∀ (L : Nat) (A' : Option Addr) (n' c' : Nat) (W : World), Below w.heap.size w W → OwnS W L A' n' c' X → Calls Tryd.prog 63 #[.slice A' n' c'] W (StrPost RX W) from fun L A' n' c' W hW h => by
    rw [← hRX]; exact xroot_any A' n' c' X W h.ss hX32 (by have := h.len; omega) (ht.below hW))
  have CRY := Lib.hid (show ∀ (L : Nat) (A' : Option Addr) (n' c' : Nat) (W : World), Below w.heap.size w W → OwnS W L A' n' c' Y → Calls Tryd.prog 63 #[.slice A' n' c'] W (StrPost RY W) from fun L A' n' c' W hW h => by
    rw [← hRY]; exact xroot_any A' n' c' Y W h.ss hY32 (by have := h.len; omega) (ht.below hW))
  unfold StrPost at CRX CRY
  have hRXl : RX.length = 32 := by rw [← hRX]; exact troot_len hX32
  have hRYl : RY.length = 32 := by rw [← hRY]; exact troot_len hY32
  have CK := Lib.hid (show ∀ W, Below w.heap.size w W → n ≤ m → (Tree.all32 p && tcheck n m RX RY p) = false → Calls Tryd.prog 31 #[.int .i64 (n : Int), .int .i64 (m : Int), sv RX, sv RY, .slice Ap np cp] W (RetI 6 W) from fun W hW hnm hV => by
    by_cases ha : Tree.all32 p = true
    · rw [ha, Bool.true_and] at hV
      exact ccheck_all n m RX RY Ap np cp p W (hp.keep hW) (all32_of ha) hnm (by omega) hnp hRXl hRYl (ht.below hW) false hV 6 rfl
    · exact ccheck_proof n m RX RY Ap np cp p W (hp.keep hW) hwf hnm (by omega) hRXl hRYl (by simpa using ha))
  unfold RetI at CK
  obtain ⟨hc1, hm1⟩ := hca
  obtain ⟨hc2, hm2⟩ := hcb
  have hc3 := hp.cap
  have hm3 := hp.max
  rw [maxLen_eq] at hm1 hm2 hm3
  clear hra hrb hsf hsg hp hwf ht hX hY hX32 hY32 hXl hYl hRX hRY hRXl hRYl hw1 hrow hb0 hlt0
  by_cases h0 : n = 0
  · subst h0
    clear hbad CK
    go_enter Tryd.func29, Tryd.ntmps29
    go_wp2_with fail
    rw [HW1.out]
    refine (CX.out w1 HB0.out).mono ?_
    rintro e w3 ⟨AX, nX, cX, rfl, ho3, hb3⟩
    have HB3 := Lib.hid (bt HB0.out hb3)
    have HR3 := Lib.hid (HROW0.out.keep hb3)
    have HX3 := Lib.hid ho3
    clear hb3 ho3
    go_wp2_with fail
    refine (CY.out w3 HB3.out).mono ?_
    rintro e w4 ⟨AY, nY, cY, rfl, ho4, hb4⟩
    have HB4 := Lib.hid (bt HB3.out hb4)
    have HR4 := Lib.hid (HR3.out.keep hb4)
    have HX4 := Lib.hid (HX3.out.keep hb4)
    have HY4 := Lib.hid ho4
    clear hb4 ho4
    have x0 := HR4.out.cellQ 0 _ rfl
    have x1 := HR4.out.cellQ 1 _ rfl
    have f0 := HR4.out.frozen 0
    have f1 := HR4.out.frozen 1
    have HROW := Lib.hid (show ∀ u v, Row (setFrom w.heap.size w4 0 [u, v]) w.heap.size #[u, v] 29 from fun u v => HR4.out.all [u, v] rfl)
    go_wp2
    generalize hwd : World.setCell (World.setCell w4 _ _) _ _ = wd
    have hsf : setFrom w.heap.size w4 0 [.slice none 0 0, .slice none 0 0] = wd := by rw [← hwd]; rfl
    have r0 : wd.cell? ⟨w.heap.size, 0, none⟩ = some (.slice none 0 0) := by rw [← hsf]; exact (HROW.out _ _).cellQ 0 _ rfl
    have r1 : wd.cell? ⟨w.heap.size, 1, none⟩ = some (.slice none 0 0) := by rw [← hsf]; exact (HROW.out _ _).cellQ 1 _ rfl
    refine bodyPost_ret (v := .tuple #[.agg #[.slice none 0 0, .slice none 0 0], .bool false]) (by simp [results, Tryd.results29, go_sem, r0, r1]) rfl ?_
    exact ⟨none, 0, 0, none, 0, 0, rfl, Fr.nil _ _, Fr.nil _ _, by rw [← hsf]; exact below_setFrom (Nat.le_refl _) _ 0 HB4.out⟩
  by_cases h1 : m < n
  · have g1 : ((n : Int) == 0) = false := beq_eq_false_iff_ne.2 (by omega)
    clear hbad CK
    go_enter Tryd.func29, Tryd.ntmps29
    go_wp2_with fail
    rw [HW1.out]
    refine (CX.out w1 HB0.out).mono ?_
    rintro e w3 ⟨AX, nX, cX, rfl, ho3, hb3⟩
    have HB3 := Lib.hid (bt HB0.out hb3)
    have HR3 := Lib.hid (HROW0.out.keep hb3)
    have HX3 := Lib.hid ho3
    clear hb3 ho3
    go_wp2_with fail
    refine (CY.out w3 HB3.out).mono ?_
    rintro e w4 ⟨AY, nY, cY, rfl, ho4, hb4⟩
    have HB4 := Lib.hid (bt HB3.out hb4)
    have HR4 := Lib.hid (HR3.out.keep hb4)
    have HX4 := Lib.hid (HX3.out.keep hb4)
    have HY4 := Lib.hid ho4
    clear hb4 ho4
    have x0 := HR4.out.cellQ 0 _ rfl
    have x1 := HR4.out.cellQ 1 _ rfl
    have f0 := HR4.out.frozen 0
    have f1 := HR4.out.frozen 1
    have HROW := Lib.hid (show ∀ u v, Row (setFrom w.heap.size w4 0 [u, v]) w.heap.size #[u, v] 29 from fun u v => HR4.out.all [u, v] rfl)
    go_wp2
    generalize hwd : World.setCell (World.setCell w4 _ _) _ _ = wd
    have hsf : setFrom w.heap.size w4 0 [.slice none 0 0, .slice none 0 0] = wd := by rw [← hwd]; rfl
    have r0 : wd.cell? ⟨w.heap.size, 0, none⟩ = some (.slice none 0 0) := by rw [← hsf]; exact (HROW.out _ _).cellQ 0 _ rfl
    have r1 : wd.cell? ⟨w.heap.size, 1, none⟩ = some (.slice none 0 0) := by rw [← hsf]; exact (HROW.out _ _).cellQ 1 _ rfl
    refine bodyPost_ret (v := .tuple #[.agg #[.slice none 0 0, .slice none 0 0], .bool false]) (by simp [results, Tryd.results29, go_sem, r0, r1]) rfl ?_
    exact ⟨none, 0, 0, none, 0, 0, rfl, Fr.nil _ _, Fr.nil _ _, by rw [← hsf]; exact below_setFrom (Nat.le_refl _) _ 0 HB4.out⟩
  have hbad2 : (Tree.all32 p && tcheck n m RX RY p) = false := by
    rcases hbad with h | h | h
    · exact absurd h h0
    · exact absurd h h1
    · exact h.2
  have hnm : n ≤ m := by omega
  have CK2 := Lib.hid (fun (W : World) (hW : Below w.heap.size w W) => CK.out W hW hnm hbad2)
  have g1 : ((n : Int) == 0) = false := beq_eq_false_iff_ne.2 (by omega)
  clear hbad hbad2 CK
  go_enter Tryd.func29, Tryd.ntmps29
  go_wp2_with fail
  rw [HW1.out]
  refine (CX.out w1 HB0.out).mono ?_
  rintro e w3 ⟨AX, nX, cX, rfl, ho3, hb3⟩
  have HB3 := Lib.hid (bt HB0.out hb3)
  have HR3 := Lib.hid (HROW0.out.keep hb3)
  have HX3 := Lib.hid ho3
  clear hb3 ho3
  go_wp2_with fail
  refine (CY.out w3 HB3.out).mono ?_
  rintro e w4 ⟨AY, nY, cY, rfl, ho4, hb4⟩
  have HB4 := Lib.hid (bt HB3.out hb4)
  have HR4 := Lib.hid (HR3.out.keep hb4)
  have HX4 := Lib.hid (HX3.out.keep hb4)
  have HY4 := Lib.hid ho4
  clear hb4 ho4
  go_wp2_with fail
  refine (CRX.out _ AX nX cX w4 HB4.out HX4.out).mono ?_
  rintro e w5 ⟨rfl, hb5⟩
  have HB5 := Lib.hid (bt HB4.out hb5)
  have HR5 := Lib.hid (HR4.out.keep hb5)
  have HX5 := Lib.hid (HX4.out.keep hb5)
  have HY5 := Lib.hid (HY4.out.keep hb5)
  clear hb5
  go_wp2_with fail
  refine (CRY.out _ AY nY cY w5 HB5.out HY5.out).mono ?_
  rintro e w6 ⟨rfl, hb6⟩
  have HB6 := Lib.hid (bt HB5.out hb6)
  have HR6 := Lib.hid (HR5.out.keep hb6)
  have HX6 := Lib.hid (HX5.out.keep hb6)
  have HY6 := Lib.hid (HY5.out.keep hb6)
  clear hb6
  go_wp2_with fail
  refine (CK2.out w6 HB6.out).mono ?_
  rintro e w7 ⟨rfl, hb7⟩
  have HB7 := Lib.hid (bt HB6.out hb7)
  have HR7 := Lib.hid (HR6.out.keep hb7)
  have HX7 := Lib.hid (HX6.out.keep hb7)
  have HY7 := Lib.hid (HY6.out.keep hb7)
  clear hb7
  have x0 := HR7.out.cellQ 0 _ rfl
  have x1 := HR7.out.cellQ 1 _ rfl
  have f0 := HR7.out.frozen 0
  have f1 := HR7.out.frozen 1
  have HROW := Lib.hid (show ∀ u v, Row (setFrom w.heap.size w7 0 [u, v]) w.heap.size #[u, v] 29 from fun u v => HR7.out.all [u, v] rfl)
  go_wp2
  generalize hwd : World.setCell (World.setCell w7 _ _) _ _ = wd
  have hsf : setFrom w.heap.size w7 0 [.slice none 0 0, .slice none 0 0] = wd := by rw [← hwd]; rfl
  have r0 : wd.cell? ⟨w.heap.size, 0, none⟩ = some (.slice none 0 0) := by rw [← hsf]; exact (HROW.out _ _).cellQ 0 _ rfl
  have r1 : wd.cell? ⟨w.heap.size, 1, none⟩ = some (.slice none 0 0) := by rw [← hsf]; exact (HROW.out _ _).cellQ 1 _ rfl
  refine bodyPost_ret (v := .tuple #[.agg #[.slice none 0 0, .slice none 0 0], .bool false]) (by simp [results, Tryd.results29, go_sem, r0, r1]) rfl ?_
  exact ⟨none, 0, 0, none, 0, 0, rfl, Fr.nil _ _, Fr.nil _ _, by rw [← hsf]; exact below_setFrom (Nat.le_refl _) _ 0 HB7.out⟩
end Go.Proofs.YtlcdpbpbfofmmaaDoor
