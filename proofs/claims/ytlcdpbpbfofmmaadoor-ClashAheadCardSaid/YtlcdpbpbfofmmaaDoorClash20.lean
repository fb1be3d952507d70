/- What the clash of a proof is worth. No statement of the seat is proved here. -/
import Derived.Test.YtlcdpbpbfofmmaaDoorClash19
namespace Go.Proofs.YtlcdpbpbfofmmaaDoor
set_option maxRecDepth 100000
set_option linter.unusedVariables false
open Go.RowKit
theorem firstOf_mem : ∀ {rs : List (Option (List UInt8 × List UInt8))} {r : List UInt8 × List UInt8}, firstOf rs = some r → some r ∈ rs
  | [], r, h => by cases h
  | x :: rs, r, h => by
    have h : x.or (firstOf rs) = some r := h
    cases x with
    | none =>
      rw [Option.none_or] at h
      exact List.mem_cons_of_mem _ (firstOf_mem h)
    | some y => 
      have h : some y = some r := h
      rw [h]; exact List.mem_cons_self
theorem prtL_mem (a b : List (List UInt8)) : ∀ (S : List Cl.St) (fe : Nat) (r : Option (List UInt8 × List UInt8)), r ∈ Cl.prtL a b S fe → ∃ i j, r = Cl.two (Cl.cutL a i j) (Cl.cutL b i j)
  | [], fe, r, h => by
    rw [Cl.prtL, List.mem_singleton] at h
    exact ⟨_, _, h⟩
  | s :: S, fe, r, h => by
    rw [Cl.prtL] at h
    split at h
    · rcases List.mem_cons.1 h with h | h
      · exact ⟨_, _, h⟩
      · exact prtL_mem a b S fe r h
    · exact prtL_mem a b S fe r h
theorem consR_small {f : Nat → Piece} {n : Nat} {g : Nat → Piece} {m : Nat} {p : List (List UInt8)} {S : List Cl.St} {fe : Nat} {one0 : List UInt8} {p' : List (List UInt8)} {Rb Ra : Nat → Option (List UInt8 × List UInt8)} {ps : List (Option (List UInt8 × List UInt8))} (PL : Plan f n g m p S fe one0 p' Rb Ra ps)
    (h32 : ∀ s ∈ p, s.length = 32) (ha : ∀ x ∈ raws f n, x.length ≤ 1000) (hb : ∀ x ∈ raws g m, x.length ≤ 1000) : CSmall (consR f n g m p) := by
  have hX32 : ∀ s ∈ tleaves f n, s.length = 32 := by rw [raws_lv]; exact Cl.lv_all _
  have hY32 : ∀ s ∈ tleaves g m, s.length = 32 := by rw [raws_lv]; exact Cl.lv_all _
  have hp' : ∀ i, (p'.getD i []).length ≤ 32 := fun i => by
    rw [List.getD_eq_getElem?_getD]
    cases hi : p'[i]? with
    | none => exact Nat.zero_le _
    | some d =>
      have hm := List.mem_of_getElem? hi
      have : d ∈ p := by
        rcases PL.hd with h | h
        · rw [h.2.1]; exact hm
        · rw [h.2]; exact List.mem_cons_of_mem _ hm
      show d.length ≤ 32
      rw [h32 d this]; exact Nat.le_refl _
  have tb : ∀ (l : List (List UInt8)) (i j : Nat), (∀ s ∈ l, s.length = 32) → (Cl.topB ((l.drop i).take j)).length ≤ 1000000 := fun l i j h => Nat.le_trans (topB_le (all_take (all_drop h i) j)) (by omega)
  intro r hr
  rw [PL.res] at hr
  have hm := firstOf_mem hr
  rcases List.mem_append.1 hm with hm | hm
  · obtain ⟨t, ht, he⟩ := List.mem_map.1 hm
    obtain ⟨s, hs⟩ : ∃ s, S[t]? = some s := ⟨_, List.getElem?_eq_getElem (List.mem_range.1 ht)⟩
    rw [PL.b t s hs] at he
    unfold Cl.bef1 at he
    split at he
    · have ho := (Cl.ons_len one0 PL.l32 (S.drop (t + 1)) (p'.take (S.length - 1 - t))).1
      have hd := hp' (S.length - 1 - t)
      exact btw_small (by rw [List.length_cons, List.length_append]; omega) (tb _ _ _ hX32) r he
    · cases he
  · rcases List.mem_append.1 hm with hm | hm
    · obtain ⟨t, ht, he⟩ := List.mem_map.1 hm
      obtain ⟨s, hs⟩ : ∃ s, S[t]? = some s := ⟨_, List.getElem?_eq_getElem (List.mem_range.1 ht)⟩
      rw [PL.a t s hs] at he
      unfold Cl.aft1 at he
      have ho := (Cl.ons_len one0 PL.l32 (S.drop (t + 1)) (p'.take (S.length - 1 - t))).2
      have hd := hp' (S.length - 1 - t)
      exact btw_small (by split <;> (rw [List.length_cons, List.length_append]; omega)) (tb _ _ _ hY32) r he
    · rw [PL.parts] at hm
      obtain ⟨i, j, he⟩ := prtL_mem _ _ S fe _ hm
      exact two_small (fun x hx => ha x (List.mem_of_mem_take (List.mem_of_mem_drop hx))) (fun x hx => hb x (List.mem_of_mem_take (List.mem_of_mem_drop hx))) r he.symm
theorem tcheck_roots {n m : Nat} {one two : List UInt8} {p : List (List UInt8)} (h1 : 1 ≤ n) (h : tcheck n m one two p = true) : Cons.roots tnd [] n m true one p = (one, two, true) := by
  unfold tcheck at h
  rw [if_neg (by omega), Bool.and_eq_true, Bool.and_eq_true, decide_eq_true_eq, decide_eq_true_eq] at h
  obtain ⟨⟨h2, h3⟩, h4⟩ := h
  exact Prod.ext h3 (Prod.ext h4 h2)
theorem consB_small {f : Nat → Piece} {n : Nat} {g : Nat → Piece} {m : Nat} {p : List (List UInt8)} (ha : ∀ x ∈ raws f n, x.length ≤ 1000) (hb : ∀ x ∈ raws g m, x.length ≤ 1000) : CSmall (consB f n g m p) := by
  unfold consB
  split
  · rename_i h
    obtain ⟨h1, h2, h3⟩ := h
    rw [Bool.and_eq_true] at h3
    obtain ⟨S, fe, one0, p', Rb, Ra, ps, PL⟩ := plan_of h1 h2 (all32_of h3.1) (by rw [tcheck_roots h1 h3.2])
    exact consR_small PL (all32_of h3.1) ha hb
  · exact CSmall.none
theorem consB_finds {f : Nat → Piece} {n : Nat} {g : Nat → Piece} {m : Nat} {p : List (List UInt8)} (hnm : n ≤ m) (hV : (Tree.all32 p && tcheck n m (troot (tleaves f n)) (troot (tleaves g m)) p) = true) (hne : ¬ raws f n = raws g n) : (consB f n g m p).isSome = true := by
  have h1 : 1 ≤ n := by
    rcases Nat.eq_zero_or_pos n with h0 | h0
    · subst h0; exact absurd rfl hne
    · exact h0
  unfold consB
  rw [if_pos ⟨h1, hnm, hV⟩]
  rw [Bool.and_eq_true] at hV
  cases hR : consR f n g m p with
  | some r => rfl
  | none =>
    exfalso
    unfold consR at hR
    rw [Option.or_eq_none_iff, Option.or_eq_none_iff] at hR
    have := Cl.cons_finds m (raws f n) (raws g m) true (troot (tleaves f n)) p (by rw [raws_len]; exact Nat.le_refl _) (by rw [raws_len]; exact h1) (by rw [raws_len, raws_len]; exact hnm) (all32_of hV.1)
      (by rw [raws_len, raws_len, ← raws_lv, ← raws_lv]; exact tcheck_roots h1 hV.2) (by rw [raws_len, raws_len, ← raws_lv]; exact hR.1) (by rw [raws_len, raws_len, ← raws_lv]; exact hR.2.1) (by rw [raws_len, raws_len]; exact hR.2.2)
    rw [raws_len, raws_take g m n hnm] at this
    exact hne this
theorem consB_own {n : Nat} {g : Nat → Piece} {m : Nat} (hnm : n ≤ m) : consB g n g m (tprove (tleaves g m) n) = none := by
  unfold consB
  split
  · rename_i h
    have h1 := h.1
    rw [tprove_pos _ (by omega)]
    unfold consR
    have e1 := Cl.cons_own (troot (tleaves g n)) m (raws g m) n true (by rw [raws_len]; exact Nat.le_refl _) h1 (by rw [raws_len]; exact hnm) (fun _ => by rw [raws_take g m n hnm, ← raws_lv])
    have e2 := Cl.pa_own m n m (raws g m) h1 hnm
    rw [raws_len, raws_take g m n hnm, ← raws_lv, ← raws_lv] at e1
    rw [raws_take g m n hnm] at e2
    rw [e1.1, e1.2, e2]; rfl
  · rfl
section
variable {ops : Array Oper} {rest : List Oper} {o : Oper} {a : Act} {Q : Exit → Act → World → Prop} {w : World}
/-- x[:k], guarded by what holds. -/
theorem wl_cutR_hig (hw : Region.wanted o (yielded ops a.tmps) = true) (x hi : Operand) (ho : o.op = .slice 22 x none (some hi) none) {A : Option Addr} {n c : Nat} {f : Nat → Piece} (hx : a.eval x = .slice A n c) (h1 : RowsAt w A n f) (hc : n ≤ c) (k : Nat) (hhi : a.eval hi = .int .i64 (k : Int)) (hk : k ≤ n)
    (h : ∀ A', RowsAt w A' k f → wpList Tryd.prog ops Q rest (a.put o.dst (.slice A' k c)) w) : wpList Tryd.prog ops Q (o :: rest) a w := by
  obtain ⟨A', hr, hs⟩ := run_cutR_hi (rows_rd h1) (by simp) hc k hk
  refine wl_of hw fun _ hK => ?_
  unfold Oper.wp execOp
  simp only [ho, Sem.run_bind, Sem.run_pure, Option.map_none, Option.map_some, hx, hhi, hr, Result.andThen_ok]
  exact hK _ _ (h A' (rd_rows hs (fun i hi => by rw [List.getElem?_take_of_lt hi, List.getElem?_map, List.getElem?_range (by omega)]; rfl) (fun i hi => rows_pc h1 (by omega))))
end
end Go.Proofs.YtlcdpbpbfofmmaaDoor
