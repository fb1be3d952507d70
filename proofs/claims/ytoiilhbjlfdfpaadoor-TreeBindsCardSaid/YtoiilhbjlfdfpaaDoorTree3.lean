/- root, Root, Range, of the tree. No statement of the seat is proved here. -/
import Derived.Test.YtoiilhbjlfdfpaaDoorTree2
namespace Go.Proofs.YtoiilhbjlfdfpaaDoor
set_option linter.unusedVariables false
open Go.RowKit

/-- The sum of no bytes. -/
abbrev tnil : List UInt8 := Sha.sum []
/-- The root of a list of digests. -/
abbrev troot (l : List (List UInt8)) : List UInt8 := Tree.root tnd tnil l
theorem tnd_len (a b : List UInt8) : (tnd a b).length = 32 := Sha.sum_length _
theorem troot_len {l : List (List UInt8)} (h : ∀ s ∈ l, s.length = 32) : (troot l).length = 32 := by
  match l with
  | [] => unfold troot; rw [Tree.root_nil]; exact Sha.sum_length _
  | [x] => unfold troot; rw [Tree.root_one]; exact h x (by simp)
  | x :: y :: r => unfold troot; rw [Tree.root_two tnd tnil (l := x :: y :: r) (by simp)]; exact tnd_len _ _
theorem R_len {l : List (List UInt8)} (h : ∀ s ∈ l, s.length = 32) (i m : Nat) : (Tree.R tnd tnil l i m).length = 32 := troot_len fun s hs => h s (List.mem_of_mem_drop (List.mem_of_mem_take hs))
theorem P_len32 {l : List (List UInt8)} (h : ∀ s ∈ l, s.length = 32) : ∀ (k j t : Nat), j ≤ k → ∀ s ∈ Tree.P tnd tnil l j t, s.length = 32
  | 0, j, t, hj, s, hs => by obtain rfl : j = 0 := by omega
                             rw [Tree.P_zero] at hs; simp at hs
  | k + 1, j, t, hj, s, hs => by
    by_cases h0 : j = 0
    · subst h0; rw [Tree.P_zero] at hs; simp at hs
    · by_cases ho : j % 2 = 1
      · rw [Tree.P_odd tnd tnil l j t ho, List.mem_append, List.mem_singleton] at hs
        rcases hs with hs | rfl
        · exact P_len32 h k (j / 2) (t + 1) (by omega) s hs
        · exact R_len h _ _
      · rw [Tree.P_even tnd tnil l j t (by omega)] at hs
        exact P_len32 h k (j / 2) (t + 1) (by omega) s hs
theorem P_count {l : List (List UInt8)} : ∀ (k j t : Nat), j ≤ k → (Tree.P tnd tnil l j t).length ≤ j
  | 0, j, t, hj => by obtain rfl : j = 0 := by omega
                      rw [Tree.P_zero]; simp
  | k + 1, j, t, hj => by
    by_cases h0 : j = 0
    · subst h0; rw [Tree.P_zero]; simp
    · by_cases ho : j % 2 = 1
      · rw [Tree.P_odd tnd tnil l j t ho, List.length_append]
        have := P_count (l := l) k (j / 2) (t + 1) (by omega)
        simp only [List.length_singleton]; omega
      · rw [Tree.P_even tnd tnil l j t (by omega)]
        have := P_count (l := l) k (j / 2) (t + 1) (by omega)
        omega
/-- What the inner loop knows: the stack's digests, and where they stand. -/
structure InRel (l : List (List UInt8)) (i j : Nat) (st : List (List UInt8)) : Prop where
  stk : ∃ t, Tree.Stk tnd tnil l i j t st
  all : ∀ s ∈ st, s.length = 32
theorem InRel.start {l : List (List UInt8)} (h32 : ∀ s ∈ l, s.length = 32) {i : Nat} {x : List UInt8} (hx : l[i]? = some x) : InRel l i i (Tree.P tnd tnil l i 0 ++ [x]) :=
  ⟨⟨0, Tree.Stk.start tnd tnil hx⟩, fun s hs => by
    rw [List.mem_append, List.mem_singleton] at hs
    rcases hs with hs | rfl
    · exact P_len32 h32 i i 0 (Nat.le_refl _) s hs
    · exact h32 _ (List.mem_of_getElem? hx)⟩
theorem InRel.step {l : List (List UInt8)} {i j : Nat} {st : List (List UInt8)} (h : InRel l i j st) (hi : i < l.length) (hj : j % 2 = 1) :
    ∃ S a b, st = S ++ [a, b] ∧ a.length = 32 ∧ b.length = 32 ∧ InRel l i (j / 2) (S ++ [tnd a b]) := by
  obtain ⟨t, ht⟩ := h.stk
  obtain ⟨S, a, b, rfl, h2⟩ := ht.step tnd tnil hi hj
  exact ⟨S, a, b, rfl, h.all a (by simp), h.all b (by simp), ⟨_, h2⟩, fun s hs => by
    rw [List.mem_append, List.mem_singleton] at hs
    rcases hs with hs | rfl
    · exact h.all s (by simp [hs])
    · exact tnd_len _ _⟩
theorem InRel.done {l : List (List UInt8)} {i j : Nat} {st : List (List UInt8)} (h : InRel l i j st) (hj : j % 2 = 0) : st = Tree.P tnd tnil l (i + 1) 0 := by
  obtain ⟨t, ht⟩ := h.stk
  exact ht.done tnd tnil hj
/-- What the last loop knows. -/
structure FoldRel (l st : List (List UInt8)) : Prop where
  eq : Tree.fr tnd tnil st = troot l
  ne : st ≠ []
  all : ∀ s ∈ st, s.length = 32
theorem FoldRel.start {l : List (List UInt8)} (h32 : ∀ s ∈ l, s.length = 32) (h0 : 0 < l.length) : FoldRel l (Tree.P tnd tnil l l.length 0) :=
  ⟨Tree.fr_root tnd tnil l h0, Tree.P_ne tnd tnil l _ _ h0, P_len32 h32 _ _ _ (Nat.le_refl _)⟩
theorem FoldRel.step {l st : List (List UInt8)} (h : FoldRel l st) (h2 : 2 ≤ st.length) : ∃ S a b, st = S ++ [a, b] ∧ a.length = 32 ∧ b.length = 32 ∧ FoldRel l (S ++ [tnd a b]) := by
  obtain ⟨S, a, b, rfl⟩ : ∃ S a b, st = S ++ [a, b] := by
    refine ⟨st.take (st.length - 2), st[st.length - 2]'(by omega), st[st.length - 1]'(by omega), ?_⟩
    have e1 : st.drop (st.length - 2) = [st[st.length - 2]'(by omega), st[st.length - 1]'(by omega)] := by
      rw [List.drop_eq_getElem_cons (by omega), List.drop_eq_getElem_cons (by omega), List.drop_eq_nil_of_le (by omega)]
      congr 2
      congr 1
      omega
    rw [← e1, List.take_append_drop]
  exact ⟨S, a, b, rfl, h.all a (by simp), h.all b (by simp), by rw [← Tree.fr_step]; exact h.eq, by simp, fun s hs => by
    rw [List.mem_append, List.mem_singleton] at hs
    rcases hs with hs | rfl
    · exact h.all s (by simp [hs])
    · exact tnd_len _ _⟩
theorem FoldRel.end {l st : List (List UInt8)} (h : FoldRel l st) (h2 : st.length ≤ 1) : st = [troot l] := by
  match st, h, h2 with
  | [], h, _ => exact absurd rfl h.ne
  | [x], h, _ => have := h.eq; unfold Tree.fr at this; rw [this]
theorem and1 (j : Nat) (hj : j < 9223372036854775808) : bits .and .i64 (j : Int) 1 = (j : Int) % 2 := Bit.mask 1 j 1 2 (by omega) (by omega) (by omega) rfl rfl
set_option maxRecDepth 100000 in
set_option maxHeartbeats 16000000 in
theorem root_any (A : Option Addr) (n c : Nat) (l : List (List UInt8)) (w : World) (h : Ss w A n c l) (h32 : ∀ s ∈ l, s.length = 32) (hn : n ≤ 1000000) (ht : Tabs w) :
    Calls Tryd.prog 43 #[.slice A n c] w (StrPost (troot l) w) := by
  have hm := h.max
  have hcap := h.cap
  rw [maxLen_eq] at hm
  have HT := Lib.hid ht
  have H32 := Lib.hid h32
  have HLN := Lib.hid h.len
  clear ht h32
  by_cases h0 : n = 0
  · subst h0
    have HE := Lib.hid (show troot l = tnil by
      have : l = [] := List.length_eq_zero_iff.1 HLN.out
      rw [this]; exact Tree.root_nil _ _)
    clear h
    go_enter Tryd.func43, Tryd.ntmps43
    go_wp2_with fail
    refine (sum_any none 0 0 [] w Rd.nil rfl (Nat.le_refl _) (by decide) (by omega) HT.out.r HT.out.b).mono ?_
    rintro e w1 ⟨rfl, hb1⟩
    go_wp2
    go_ret
    exact ⟨by rw [HE.out]; rfl, hb1⟩
  · have b0 : ((n : Int) == 0) = false := beq_eq_false_iff_ne.2 (by omega)
    go_enter Tryd.func43, Tryd.ntmps43
    go_wp2
    go_loopw [3, 12] (fun vs vi wr => ∃ (A' : Option Addr) (n' c' i : Nat), i ≤ n ∧ vs = .slice A' n' c' ∧ vi = .int .i64 i ∧ OwnS wr w.heap.size A' n' c' (Tree.P tnd tnil l i 0) ∧ Below w.heap.size w wr) (fun _ vi _ => n - (intOf vi).toNat)
    case atStart => exact ⟨none, 0, 0, 0, by omega, rfl, rfl, by rw [Tree.P_zero]; exact OwnS.nil _ _, Below.refl _ _⟩
    case round =>
      obtain ⟨A', n', c', i, hi, rfl, rfl, hown, hbel⟩ := hrel
      have hn' : n' ≤ i := by rw [← hown.len]; exact P_count i i 0 (Nat.le_refl _)
      by_cases hlt : i < n
      · obtain ⟨b, off, rfl, hbb, hcell, x, hx⟩ := h.at hlt
        have x0 := (hbel.cell (p := ⟨b, off + i, none⟩) hbb).trans (hcell i x hx)
        have HX := Lib.hid (InRel.start H32.out hx)
        have hci : (i : Int) < (n : Int) := by omega
        clear hcell hx
        go_wp2_with (at_builtin; refine wl_appS1 rfl (.tmp 15) (.tmp 20) rfl rfl hown rfl x (by omega) hbel.size ?_; intro A1 n1 c1 w1 ho1 hb1)
        have hn1 : n1 ≤ i + 1 := by have := ho1.len; rw [List.length_append, hown.len] at this; simp at this; omega
        have HB1 := Lib.hid (hbel.trans hb1)
        clear hown hbel hb1 x0
        go_loopw [3, 5] (fun vs vj wr => ∃ (A2 : Option Addr) (n2 c2 j : Nat) (st : List (List UInt8)), vs = .slice A2 n2 c2 ∧ vj = .int .i64 j ∧ j ≤ i ∧ n2 ≤ i + 1 ∧ OwnS wr w.heap.size A2 n2 c2 st ∧ InRel l i j st ∧ Below w.heap.size w wr) (fun _ vj _ => (intOf vj).toNat)
        case atStart => exact ⟨A1, n1, c1, i, _, rfl, rfl, Nat.le_refl _, hn1, ho1, HX.out, HB1.out⟩
        case round =>
          obtain ⟨A2, n2, c2, j, st, rfl, rfl, hji, hn2, ho2, hin, hb2⟩ := hrel
          have f1 := and1 j (by omega)
          by_cases hodd : j % 2 = 1
          · have c1 : (j : Int) % 2 = 1 := by omega
            obtain ⟨S, p, q, rfl, hp, hq, hin2⟩ := hin.step (by rw [HLN.out]; exact hlt) hodd
            have HC := Lib.hid (combine_any w.heap.size A2 n2 c2 S p q wr ho2 hb2.size hp hq (HT.out.below hb2))
            have HIN := Lib.hid hin2
            have HB2 := Lib.hid hb2
            have hl2 := ho2.len
            rw [List.length_append] at hl2
            simp only [List.length_cons, List.length_nil] at hl2
            clear hin hin2 ho2 hb2 hp hq
            go_wp2_with fail
            refine HC.out.mono ?_
            rintro e w3 ⟨A3, n3, c3, rfl, ho3, hb3⟩
            have hn3 : n3 ≤ i + 1 := by have := ho3.len; rw [List.length_append] at this; simp at this; omega
            have HB3 := Lib.hid (HB2.out.trans hb3)
            clear hb3
            go_wp2
            go_roundw
            case rel => exact ⟨A3, n3, c3, j / 2, _, rfl, by go_num, by omega, hn3, ho3, HIN.out, HB3.out⟩
            case measure => simp [intOf]; omega
          · have c1 : (j : Int) % 2 = 0 := by omega
            have hdone := hin.done (by omega)
            subst hdone
            have HB2 := Lib.hid hb2
            clear hin hb2
            go_wp2
            go_roundw
            case rel => exact ⟨A2, n2, c2, i + 1, by omega, rfl, by go_num, ho2, HB2.out⟩
            case measure => simp [intOf]; omega
      · obtain rfl : i = n := by omega
        have hfr : FoldRel l (Tree.P tnd tnil l i 0) := by
          have := FoldRel.start H32.out (by rw [HLN.out]; omega)
          rw [HLN.out] at this
          exact this
        have HFR := Lib.hid hfr
        have HBL := Lib.hid hbel
        clear hfr hbel
        go_wp2
        go_loopw [3] (fun vs wr => ∃ (A2 : Option Addr) (n2 c2 : Nat) (st : List (List UInt8)), vs = .slice A2 n2 c2 ∧ n2 ≤ i ∧ OwnS wr w.heap.size A2 n2 c2 st ∧ FoldRel l st ∧ Below w.heap.size w wr) (fun vs _ => match vs with | .slice _ n _ => n | _ => 0)
        case atStart => exact ⟨A', n', c', _, rfl, hn', hown, HFR.out, HBL.out⟩
        case round =>
          obtain ⟨A2, n2, c2, st, rfl, hn2, ho2, hfr, hb2⟩ := hrel
          by_cases h1 : 1 < n2
          · obtain ⟨S, p, q, rfl, hp, hq, hin2⟩ := hfr.step (by rw [ho2.len]; exact h1)
            have HC := Lib.hid (combine_any w.heap.size A2 n2 c2 S p q wr ho2 hb2.size hp hq (HT.out.below hb2))
            have HIN := Lib.hid hin2
            have HB2 := Lib.hid hb2
            have hl2 := ho2.len
            rw [List.length_append] at hl2
            simp only [List.length_cons, List.length_nil] at hl2
            clear hfr hin2 ho2 hb2 hp hq
            go_wp2_with fail
            refine HC.out.mono ?_
            rintro e w3 ⟨A3, n3, c3, rfl, ho3, hb3⟩
            have hn3 : S.length + 1 = n3 := by have := ho3.len; rw [List.length_append] at this; simp at this; omega
            have HB3 := Lib.hid (HB2.out.trans hb3)
            clear hb3
            go_wp2
            go_roundw
            case rel => exact ⟨A3, n3, c3, _, rfl, by omega, ho3, HIN.out, HB3.out⟩
            case measure => simp; omega
          · have hst := hfr.end (by rw [ho2.len]; omega)
            subst hst
            have hn2 : n2 = 1 := ho2.len.symm
            subst hn2
            obtain ⟨g, rfl, hg1, hg2⟩ := ho2.form (by omega)
            have x0 : wr.cell? ⟨g, 0, none⟩ = some (sv (troot l)) := ho2.cell rfl
            have HB2 := Lib.hid hb2
            clear hfr hb2
            go_wp2
            go_ret
            exact ⟨rfl, HB2.out⟩
end Go.Proofs.YtoiilhbjlfdfpaaDoor
