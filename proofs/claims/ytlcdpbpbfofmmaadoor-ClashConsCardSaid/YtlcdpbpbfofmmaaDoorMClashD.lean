/- Clashes of a proof that one list is the beginning of another, in plain words. No program in sight. -/
import Derived.Test.YtlcdpbpbfofmmaaDoorMClash
import Derived.Test.YtlcdpbpbfofmmaaDoorMConsA
namespace Go.Proofs.YtlcdpbpbfofmmaaDoor
set_option maxRecDepth 100000
set_option linter.unusedVariables false
namespace Cl
open Tree (sp sp_lt sp_pos sp_half sp_of sp_spec)
/-- The clash of the nodes for the one root, from the root down. -/
def co (one : By) : Nat → Nat → Nat → Bool → List By → List By → Option (By × By)
  | 0, _, _, _, _, _ => none
  | q + 1, m, n, wh, ds, p => if m = n then none else if m ≤ sp n then co one q m (sp n) wh ds p.dropLast
    else (btw (1 :: (p.getLastD [] ++ (Cons.roots tnd [] (m - sp n) (n - sp n) false one p.dropLast).1)) (topB ds)).or (co one q (m - sp n) (n - sp n) false (ds.drop (sp n)) p.dropLast)
/-- That of the nodes for the other root. -/
def fr (one : By) : Nat → Nat → Nat → Bool → List By → List By → Option (By × By)
  | 0, _, _, _, _, _ => none
  | q + 1, m, n, wh, ds, p => if m = n then none else if m ≤ sp n then
      (btw (1 :: ((Cons.roots tnd [] m (sp n) wh one p.dropLast).2.1 ++ p.getLastD [])) (topB ds)).or (fr one q m (sp n) wh (ds.take (sp n)) p.dropLast)
    else (btw (1 :: (p.getLastD [] ++ (Cons.roots tnd [] (m - sp n) (n - sp n) false one p.dropLast).2.1)) (topB ds)).or (fr one q (m - sp n) (n - sp n) false (ds.drop (sp n)) p.dropLast)
/-- The clash of the parts that a proof tells of. -/
def pa : Nat → Nat → Nat → List By → List By → Option (By × By)
  | 0, _, _, _, _ => none
  | q + 1, m, n, a, b => if m = n then two (a.take m) (b.take m) else if m ≤ sp n then pa q m (sp n) a b
    else (two (a.take (sp n)) (b.take (sp n))).or (pa q (m - sp n) (n - sp n) (a.drop (sp n)) (b.drop (sp n)))
theorem two_some {a b : List By} {r : By × By} (h : two a b = some r) : clashB r.1 r.2 = true := tw_some _ _ _ _ h
theorem co_some (one : By) : ∀ (q m n : Nat) (wh : Bool) (ds p : List By) (r : By × By), co one q m n wh ds p = some r → clashB r.1 r.2 = true
  | 0, m, n, wh, ds, p, r, h => by cases h
  | q + 1, m, n, wh, ds, p, r, h => by
    rw [co] at h
    split at h
    · cases h
    · split at h
      · exact co_some one q _ _ _ _ _ r h
      · rcases or_some h with h | ⟨_, h⟩
        · exact btw_some h
        · exact co_some one q _ _ _ _ _ r h
theorem fr_some (one : By) : ∀ (q m n : Nat) (wh : Bool) (ds p : List By) (r : By × By), fr one q m n wh ds p = some r → clashB r.1 r.2 = true
  | 0, m, n, wh, ds, p, r, h => by cases h
  | q + 1, m, n, wh, ds, p, r, h => by
    rw [fr] at h
    split at h
    · cases h
    · split at h
      · rcases or_some h with h | ⟨_, h⟩
        · exact btw_some h
        · exact fr_some one q _ _ _ _ _ r h
      · rcases or_some h with h | ⟨_, h⟩
        · exact btw_some h
        · exact fr_some one q _ _ _ _ _ r h
theorem pa_some : ∀ (q m n : Nat) (a b : List By) (r : By × By), pa q m n a b = some r → clashB r.1 r.2 = true
  | 0, m, n, a, b, r, h => by cases h
  | q + 1, m, n, a, b, r, h => by
    rw [pa] at h
    split at h
    · exact two_some h
    · split at h
      · exact pa_some q _ _ _ _ r h
      · rcases or_some h with h | ⟨_, h⟩
        · exact two_some h
        · exact pa_some q _ _ _ _ r h
theorem or_none' {α : Type} {x y : Option α} (h : x.or y = none) : x = none ∧ y = none := by
  cases x with
  | none => exact ⟨rfl, h⟩
  | some a => cases h
theorem lv_len (l : List By) : (lv l).length = l.length := by simp [lv]
theorem two_eq {a b : List By} (h1 : 1 ≤ a.length) (hl : a.length = b.length) (hr : troot (lv a) = troot (lv b)) (hn : two a b = none) : a = b :=
  Decidable.byContradiction fun hne => by
    obtain ⟨r, hr⟩ := tw_finds a.length a b (Nat.le_refl _) h1 hl hr hne
    rw [show two a b = some r from hr] at hn
    cases hn
theorem pa_take : ∀ (q m n k : Nat) (a b : List By), 1 ≤ m → m ≤ n → n ≤ k → pa q m n a (b.take k) = pa q m n a b
  | 0, m, n, k, a, b, _, _, _ => rfl
  | q + 1, m, n, k, a, b, h1, h2, h3 => by
    rw [pa, pa]
    split
    · rw [List.take_take, Nat.min_eq_left (by omega)]
    · rename_i hne
      have x := sp_lt (n := n) (by omega)
      have y := sp_pos (n := n) (by omega)
      split
      · exact pa_take q m (sp n) k a b h1 (by assumption) (by omega)
      · rw [List.take_take, Nat.min_eq_left (by omega), List.drop_take]
        rw [pa_take q (m - sp n) (n - sp n) (k - sp n) (a.drop (sp n)) (b.drop (sp n)) (by omega) (by omega) (by omega)]
theorem sp_same {m n : Nat} (h2 : 2 ≤ n) (hk : ¬ m ≤ sp n) (hm : m ≤ n) : sp m = sp n := by
  obtain ⟨t, p1, p2, p3⟩ := sp_spec h2
  rw [p1]
  rw [p1] at hk p2 p3
  exact sp_of (by omega) (by rw [Nat.pow_succ]; omega)
theorem cons_finds : ∀ (q : Nat) (la lb : List By) (wh : Bool) (one : By) (p : List By), lb.length ≤ q → 1 ≤ la.length → la.length ≤ lb.length → (∀ s ∈ p, s.length = 32) →
    Cons.roots tnd [] la.length lb.length wh one p = (troot (lv la), troot (lv lb), true) → co one q la.length lb.length wh (lv la) p = none → fr one q la.length lb.length wh (lv lb) p = none → pa q la.length lb.length la lb = none → la = lb.take la.length
  | 0, la, lb, wh, one, p, h, h1, h2, _, _, _, _, _ => by omega
  | q + 1, la, lb, wh, one, p, h, h1, h2, h32, hr, hco, hfr, hpa => by
    by_cases he : la.length = lb.length
    · rw [pa, if_pos he, List.take_length, he, List.take_length] at hpa
      rw [he, List.take_length]
      refine two_eq h1 he ?_ hpa
      rw [he] at hr
      cases wh with
      | true =>
        rw [Cons.roots_whole] at hr
        simp only [Prod.mk.injEq] at hr
        rw [← hr.1, ← hr.2.1]
      | false =>
        have hb : p.length = 1 := Decidable.byContradiction fun hne => by
          rw [Cons.roots_bad _ _ _ _ _ hne] at hr
          have := congrArg (fun r => r.2.2) hr
          cases this
        obtain ⟨x, rfl⟩ := List.length_eq_one_iff.1 hb
        rw [Cons.roots_one] at hr
        simp only [Prod.mk.injEq] at hr
        rw [← hr.1, ← hr.2.1]
    · have hn : 2 ≤ lb.length := by omega
      have kl := sp_lt hn
      have kp := sp_pos hn
      rcases List.eq_nil_or_concat p with rfl | ⟨r, d, rfl⟩
      · rw [Cons.roots_nil _ _ he] at hr
        have := congrArg (fun r => r.2.2) hr
        cases this
      rw [List.concat_eq_append] at h32 hr hco hfr
      have hd : d.length = 32 := h32 d (by simp)
      have hr32 : ∀ s ∈ r, s.length = 32 := fun s hs => h32 s (List.mem_append.2 (.inl hs))
      have g1 : (r ++ [d]).dropLast = r := List.dropLast_concat
      have g2 : (r ++ [d]).getLastD [] = d := by simp
      by_cases hk : la.length ≤ sp lb.length
      · rw [Cons.roots_left _ _ hn he hk] at hr
        simp only [Prod.mk.injEq] at hr
        rw [co, if_neg he, if_pos hk, g1] at hco
        rw [fr, if_neg he, if_pos hk, g1, g2] at hfr
        rw [pa, if_neg he, if_pos hk] at hpa
        obtain ⟨hf1, hf2⟩ := or_none' hfr
        have hs : Sha.sum (1 :: ((Cons.roots tnd [] la.length (sp lb.length) wh one r).2.1 ++ d)) = Sha.sum (topB (lv lb)) := by
          rw [topB_sum (by rw [lv_len]; exact hn), ← hr.2.1]; rfl
        have heq := btw_none hf1 hs
        unfold topB at heq
        have heq := List.tail_eq_of_cons_eq heq
        rw [lv_len, lv_take, lv_drop] at heq
        have hin := List.append_inj' heq (by rw [hd, troot_len (lv_all _)])
        have hlt : (lb.take (sp lb.length)).length = sp lb.length := by rw [List.length_take]; omega
        have ih := cons_finds q la (lb.take (sp lb.length)) wh one r (by omega) h1 (by omega) hr32
        rw [hlt] at ih
        have := ih (by rw [← hr.1, ← hin.1, ← hr.2.2]) hco (by rw [← lv_take]; exact hf2) (by rw [pa_take q _ _ _ la lb h1 hk (Nat.le_refl _)]; exact hpa)
        rw [List.take_take, Nat.min_eq_left hk] at this
        exact this
      · have hsp := sp_same hn hk h2
        rw [Cons.roots_right _ _ hn he hk] at hr
        simp only [Prod.mk.injEq] at hr
        rw [co, if_neg he, if_neg hk, g1, g2] at hco
        rw [fr, if_neg he, if_neg hk, g1, g2] at hfr
        rw [pa, if_neg he, if_neg hk] at hpa
        obtain ⟨hf1, hf2⟩ := or_none' hfr
        obtain ⟨hc1, hc2⟩ := or_none' hco
        obtain ⟨hp1, hp2⟩ := or_none' hpa
        have hsa : Sha.sum (1 :: (d ++ (Cons.roots tnd [] (la.length - sp lb.length) (lb.length - sp lb.length) false one r).1)) = Sha.sum (topB (lv la)) := by
          rw [topB_sum (by rw [lv_len]; omega), ← hr.1]; rfl
        have hsb : Sha.sum (1 :: (d ++ (Cons.roots tnd [] (la.length - sp lb.length) (lb.length - sp lb.length) false one r).2.1)) = Sha.sum (topB (lv lb)) := by
          rw [topB_sum (by rw [lv_len]; exact hn), ← hr.2.1]; rfl
        have ea := btw_none hc1 hsa
        have eb := btw_none hf1 hsb
        unfold topB at ea eb
        have ea := List.tail_eq_of_cons_eq ea
        have eb := List.tail_eq_of_cons_eq eb
        rw [lv_len, lv_take, lv_drop, hsp] at ea
        rw [lv_len, lv_take, lv_drop] at eb
        have ia := List.append_inj ea (by rw [hd, troot_len (lv_all _)])
        have ib := List.append_inj eb (by rw [hd, troot_len (lv_all _)])
        have hla : (la.take (sp lb.length)).length = sp lb.length := by rw [List.length_take]; omega
        have hlb : (lb.take (sp lb.length)).length = sp lb.length := by rw [List.length_take]; omega
        have htk := two_eq (by rw [hla]; exact kp) (by rw [hla, hlb]) (ia.1.symm.trans ib.1) hp1
        have ih := cons_finds q (la.drop (sp lb.length)) (lb.drop (sp lb.length)) false one r (by rw [List.length_drop]; omega) (by rw [List.length_drop]; omega) (by rw [List.length_drop, List.length_drop]; omega) hr32
        rw [List.length_drop, List.length_drop] at ih
        have hdr := ih (by rw [← ia.2, ← ib.2, ← hr.2.2]) (by rw [← lv_drop]; exact hc2) (by rw [← lv_drop]; exact hf2) hp2
        have e1 : lb.take la.length = lb.take (sp lb.length) ++ (lb.drop (sp lb.length)).take (la.length - sp lb.length) := by
          conv => lhs; rw [show la.length = sp lb.length + (la.length - sp lb.length) by omega, List.take_add]
        rw [e1, ← hdr, ← htk, List.take_append_drop]
/-- What stands for nothing is not told where the proof is of the right length. -/
theorem roots_e0 (e e' : List UInt8) : ∀ (q m n : Nat) (wh : Bool) (one : List UInt8) (p : List (List UInt8)), n ≤ q → (Cons.roots tnd e' m n wh one p).2.2 = true → Cons.roots tnd e m n wh one p = Cons.roots tnd e' m n wh one p := by
  intro q
  induction q with
  | zero =>
    intro m n wh one p hn h
    by_cases he : m = n
    · subst he
      cases wh with
      | true => rw [Cons.roots_whole, Cons.roots_whole]
      | false =>
        match p, h with
        | [], h => rw [Cons.roots_bad _ _ _ _ _ (by simp)] at h; cases h
        | [x], h => rw [Cons.roots_one, Cons.roots_one]
        | x :: y :: r, h => rw [Cons.roots_bad _ _ _ _ _ (by simp)] at h; cases h
    · rcases List.eq_nil_or_concat p with rfl | ⟨r, d, rfl⟩
      · rw [Cons.roots_nil _ _ he] at h; cases h
      · rw [Cons.roots, if_neg he, if_neg (by simp), dif_pos (by omega)] at h; cases h
  | succ q ih =>
    intro m n wh one p hn h
    by_cases he : m = n
    · subst he
      cases wh with
      | true => rw [Cons.roots_whole, Cons.roots_whole]
      | false =>
        match p, h with
        | [], h => rw [Cons.roots_bad _ _ _ _ _ (by simp)] at h; cases h
        | [x], h => rw [Cons.roots_one, Cons.roots_one]
        | x :: y :: r, h => rw [Cons.roots_bad _ _ _ _ _ (by simp)] at h; cases h
    · rcases List.eq_nil_or_concat p with rfl | ⟨r, d, rfl⟩
      · rw [Cons.roots_nil _ _ he] at h; cases h
      · by_cases h2 : n < 2
        · rw [Cons.roots, if_neg he, if_neg (by simp), dif_pos h2] at h; cases h
        · rw [List.concat_eq_append] at h ⊢
          by_cases hk : m ≤ Tree.sp n
          · have kl := Tree.sp_lt (n := n) (by omega)
            rw [Cons.roots_left _ _ (by omega) he hk] at h ⊢
            rw [Cons.roots_left _ _ (by omega) he hk, ih m (Tree.sp n) wh one r (by omega) h]
          · have kp := Tree.sp_pos (n := n) (by omega)
            rw [Cons.roots_right _ _ (by omega) he hk] at h ⊢
            rw [Cons.roots_right _ _ (by omega) he hk, ih (m - Tree.sp n) (n - Tree.sp n) false one r (by omega) h]
theorem pa_own : ∀ (q m n : Nat) (lb : List By), 1 ≤ m → m ≤ n → pa q m n (lb.take m) lb = none
  | 0, m, n, lb, _, _ => rfl
  | q + 1, m, n, lb, h1, h2 => by
    rw [pa]
    split
    · rw [List.take_take, Nat.min_self]; exact two_self _
    · rename_i hne
      have x := sp_lt (n := n) (by omega)
      have y := sp_pos (n := n) (by omega)
      split
      · exact pa_own q m (sp n) lb h1 (by assumption)
      · rename_i hk
        rw [List.take_take, Nat.min_eq_left (by omega), two_self, Option.none_or, List.drop_take]
        exact pa_own q (m - sp n) (n - sp n) (lb.drop (sp n)) (by omega) (by omega)
theorem cons_own (one : By) : ∀ (q : Nat) (lb : List By) (m : Nat) (wh : Bool), lb.length ≤ q → 1 ≤ m → m ≤ lb.length → (wh = true → one = troot (lv (lb.take m))) →
    co one q m lb.length wh (lv (lb.take m)) (tpart (lv lb) m wh) = none ∧ fr one q m lb.length wh (lv lb) (tpart (lv lb) m wh) = none
  | 0, lb, m, wh, h, h1, h2, _ => by omega
  | q + 1, lb, m, wh, h, h1, h2, h3 => by
    by_cases he : m = lb.length
    · rw [co, fr, if_pos he, if_pos he]; exact ⟨rfl, rfl⟩
    · have hn : 2 ≤ lb.length := by omega
      have kl := sp_lt hn
      have kp := sp_pos hn
      have hne : m ≠ (lv lb).length := by rw [lv_len]; exact he
      by_cases hk : m ≤ sp lb.length
      · have hlt : (lb.take (sp lb.length)).length = sp lb.length := by rw [List.length_take]; omega
        have htt : (lb.take (sp lb.length)).take m = lb.take m := by rw [List.take_take, Nat.min_eq_left hk]
        have hp := Cons.part_left tnd tnil (l := lv lb) (m := m) (by rw [lv_len]; exact hn) hne (by rw [lv_len]; exact hk) wh
        rw [lv_len, lv_take, lv_drop] at hp
        have hR := Cons.roots_part tnd tnil _ (lv (lb.take (sp lb.length))) m wh one (Nat.le_refl _) h1 (by rw [lv_len, hlt]; exact hk) (by rw [lv_take, htt]; exact h3)
        rw [lv_len, hlt] at hR
        have hR' := roots_e0 [] tnil (sp lb.length) m (sp lb.length) wh one _ (Nat.le_refl _) (by rw [hR])
        rw [hR] at hR'
        have ih := cons_own one q (lb.take (sp lb.length)) m wh (by omega) h1 (by omega) (by rw [htt]; exact h3)
        rw [hlt, htt] at ih
        have g1 : (tpart (lv lb) m wh).dropLast = tpart (lv (lb.take (sp lb.length))) m wh := by show (Cons.part _ _ _ _ _).dropLast = _; rw [hp]; exact List.dropLast_concat
        have g2 : (tpart (lv lb) m wh).getLastD [] = troot (lv (lb.drop (sp lb.length))) := by show (Cons.part _ _ _ _ _).getLastD [] = _; rw [hp]; simp
        rw [co, fr, if_neg he, if_neg he, if_pos hk, if_pos hk, g1, g2]
        refine ⟨ih.1, ?_⟩
        have hb : (1 :: ((Cons.roots tnd [] m (sp lb.length) wh one (tpart (lv (lb.take (sp lb.length))) m wh)).2.1 ++ troot (lv (lb.drop (sp lb.length)))) : By) = topB (lv lb) := by
          rw [show Cons.roots tnd [] m (sp lb.length) wh one (tpart (lv (lb.take (sp lb.length))) m wh) = _ from hR']
          show (1 :: (troot (lv (lb.take (sp lb.length))) ++ troot (lv (lb.drop (sp lb.length)))) : By) = _
          unfold topB
          rw [lv_len, lv_take, lv_drop]
        rw [hb, btw_same, Option.none_or, lv_take]
        exact ih.2
      · have hsp := sp_same hn hk h2
        have hlt : (lb.drop (sp lb.length)).length = lb.length - sp lb.length := List.length_drop
        have htt : (lb.take m).drop (sp lb.length) = (lb.drop (sp lb.length)).take (m - sp lb.length) := List.drop_take
        have hmt : (lb.take m).length = m := by rw [List.length_take]; omega
        have hp := Cons.part_right tnd tnil (l := lv lb) (m := m) (by rw [lv_len]; exact hn) hne (by rw [lv_len]; exact hk) wh
        rw [lv_len, lv_take, lv_drop] at hp
        have hR := Cons.roots_part tnd tnil _ (lv (lb.drop (sp lb.length))) (m - sp lb.length) false one (Nat.le_refl _) (by omega) (by rw [lv_len, hlt]; omega) (by intro h; cases h)
        rw [lv_len, hlt, lv_take] at hR
        have hR' := roots_e0 [] tnil _ (m - sp lb.length) (lb.length - sp lb.length) false one _ (Nat.le_refl _) (by rw [hR])
        rw [hR] at hR'
        have ih := cons_own one q (lb.drop (sp lb.length)) (m - sp lb.length) false (by omega) (by omega) (by omega) (by intro h; cases h)
        rw [hlt] at ih
        have g1 : (tpart (lv lb) m wh).dropLast = tpart (lv (lb.drop (sp lb.length))) (m - sp lb.length) false := by show (Cons.part _ _ _ _ _).dropLast = _; rw [hp]; exact List.dropLast_concat
        have g2 : (tpart (lv lb) m wh).getLastD [] = troot (lv (lb.take (sp lb.length))) := by show (Cons.part _ _ _ _ _).getLastD [] = _; rw [hp]; simp
        rw [co, fr, if_neg he, if_neg he, if_neg hk, if_neg hk, g1, g2]
        rw [show Cons.roots tnd [] (m - sp lb.length) (lb.length - sp lb.length) false one (tpart (lv (lb.drop (sp lb.length))) (m - sp lb.length) false) = _ from hR']
        have hb1 : (1 :: (troot (lv (lb.take (sp lb.length))) ++ troot (lv ((lb.drop (sp lb.length)).take (m - sp lb.length)))) : By) = topB (lv (lb.take m)) := by
          unfold topB
          rw [lv_len, hmt, hsp, lv_take, lv_drop, List.take_take, Nat.min_eq_left (by omega), htt]
        have hb2 : (1 :: (troot (lv (lb.take (sp lb.length))) ++ troot (lv (lb.drop (sp lb.length)))) : By) = topB (lv lb) := by
          unfold topB
          rw [lv_len, lv_take, lv_drop]
        refine ⟨?_, ?_⟩
        · show (btw (1 :: (troot (lv (lb.take (sp lb.length))) ++ troot (lv ((lb.drop (sp lb.length)).take (m - sp lb.length))))) _).or _ = none
          rw [hb1, btw_same, Option.none_or, lv_drop, htt]
          exact ih.1
        · show (btw (1 :: (troot (lv (lb.take (sp lb.length))) ++ troot (lv (lb.drop (sp lb.length))))) _).or _ = none
          rw [hb2, btw_same, Option.none_or, lv_drop]
          exact ih.2
end Cl
end Go.Proofs.YtlcdpbpbfofmmaaDoor
