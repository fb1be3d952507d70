/- MClashH: several texts of this claim in one file. No statement of the seat is proved here. -/
import Derived.Test.YtlcdpbpbfofmmaaDoorMClashG
namespace Go.Proofs.YtlcdpbpbfofmmaaDoor
set_option maxRecDepth 100000
set_option linter.unusedVariables false
open Go.RowKit
/-- What is told of a proof. -/
def consR (f : Nat → Piece) (n : Nat) (g : Nat → Piece) (m : Nat) (p : List (List UInt8)) : Option (List UInt8 × List UInt8) :=
  (Cl.co (troot (tleaves f n)) m n m true (tleaves f n) p).or ((Cl.fr (troot (tleaves f n)) m n m true (tleaves g m) p).or (Cl.pa m n m (raws f n) (raws g m)))
theorem drop_at {α : Type} {l : List α} {t : Nat} {x : α} (h : l[t]? = some x) : l.drop t = x :: l.drop (t + 1) := by
  obtain ⟨h1, h2⟩ := List.getElem?_eq_some_iff.1 h
  rw [List.drop_eq_getElem_cons h1, h2]
theorem cut_eq {α : Type} (l : List α) (a b : Nat) : (l.take (a + b)).drop a = (l.drop a).take b := by rw [List.drop_take, Nat.add_sub_cancel_left]
theorem rd_of_row {w : World} {g : Nat} {cs : Array Value} {e : TypeId} (h : Row w g cs e) : Rd w w.heap.size (some ⟨g, 0, none⟩) cs.toList := fun _ => ⟨g, 0, rfl, h.lt, fun j v hv => by rw [Nat.zero_add]; exact h.cellQ j v (by rw [← Array.getElem?_toList]; exact hv)⟩
theorem TA.app {E : Lists} {w0 w' : World} {B n c c' : Nat} {A A' : Option Addr} {vs : List Value} {rs : List (Option (List UInt8 × List UInt8))} {v : Value} {r : Option (List UInt8 × List UInt8)} (hB : B ≤ w0.heap.size) (ho : w0.ownsRow B 63 1 (.slice A n c) n vs) (hvl : vs.length = n) (hw : ∀ (i : Nat) v r, vs[i]? = some v → rs[i]? = some r → Wait E w0 v r) (hl : rs.length = n) (hv : Wait E w0 v r)
    (g1 : w'.ownsRow B 63 1 (.slice A' (n + 1) c') (n + 1) (vs ++ [v])) (g2 : (w0.alloc (.cells #[v] 63)).grownBy w' (Value.slice A n c).ownBlock) (g5 : n + 1 ≤ c') (g6 : c' ≤ maxLen) : TA E w' B A' (n + 1) c' (rs ++ [r]) ∧ KeepT w0 w' := by
  have hb0 : Below w0.heap.size w0 (w0.alloc (.cells #[v] 63)) := (Below.refl _ w0).alloc (Nat.le_refl _) _
  have ho2 := own_keep ho hb0 (Nat.le_refl _)
  have hk : KeepT w0 w' := (KeepT.of hb0).trans (KeepT.grown ho2 g2 (own_below ho2 g2 (Nat.le_trans hB hb0.size)).size)
  refine ⟨⟨⟨vs ++ [v], g1, by rw [List.length_append, hvl]; rfl, fun i u q hu hq => ?_⟩, by rw [List.length_append, hl]; rfl, g5, g6⟩, hk⟩
  rcases Nat.lt_or_ge i n with h | h
  · rw [List.getElem?_append_left (by omega)] at hu hq
    exact (hw i u q hu hq).keepT hk
  · rw [List.getElem?_append_right (by omega)] at hu hq
    have e1 : i = n := by
      rcases Nat.eq_or_lt_of_le h with e | e
      · exact e.symm
      · rw [List.getElem?_eq_none (by rw [List.length_singleton]; omega)] at hu; cases hu
    subst e1
    rw [hvl, Nat.sub_self] at hu
    rw [hl, Nat.sub_self] at hq
    injection hu with hu
    injection hq with hq
    rw [← hu, ← hq]
    exact hv.keepT hk
theorem TA.two {E : Lists} {wm w w' : World} {B tb ta K c' : Nat} {A' : Option Addr} {cb ca : Array Value} {Rb Ra : Nat → Option (List UInt8 × List UInt8)} (hB : B ≤ w.heap.size) (h : LC E wm w tb ta K 0 0 cb ca Rb Ra) (ho : w.ownsRow B 63 1 (.slice (some ⟨tb, 0, none⟩) K K) K cb.toList)
    (g1 : w'.ownsRow B 63 1 (.slice A' (K + K) c') (K + K) (cb.toList ++ ca.toList)) (g2 : w.grownBy w' (Value.slice (some ⟨tb, 0, none⟩) K K).ownBlock) (g5 : K + K ≤ c') (g6 : c' ≤ maxLen) : TA E w' B A' (K + K) c' ((List.range K).map Rb ++ (List.range K).map Ra) ∧ KeepT wm w' := by
  have hk : KeepT w w' := KeepT.grown ho g2 (own_below ho g2 hB).size
  refine ⟨⟨⟨cb.toList ++ ca.toList, g1, by rw [List.length_append, Array.length_toList, Array.length_toList, h.szB, h.szA], fun i u q hu hq => ?_⟩, by simp, g5, g6⟩, h.keep.trans hk⟩
  have lb : cb.toList.length = K := by rw [Array.length_toList, h.szB]
  rcases Nat.lt_or_ge i K with h1 | h1
  · rw [List.getElem?_append_left (by omega), Array.getElem?_toList] at hu
    rw [List.getElem?_append_left (by simpa using h1), List.getElem?_map, List.getElem?_range h1] at hq
    obtain ⟨v, e, hv⟩ := h.wb i (Nat.zero_le _) h1
    rw [e] at hu
    injection hu with hu
    injection hq with hq
    rw [← hu, ← hq]; exact hv.keepT hk
  · rw [List.getElem?_append_right (by omega), Array.getElem?_toList, lb] at hu
    have h2 : i - K < K := by
      rcases Nat.lt_or_ge (i - K) K with h3 | h3
      · exact h3
      · rw [Array.getElem?_eq_none (by rw [h.szA]; exact h3)] at hu; cases hu
    rw [List.getElem?_append_right (by simpa using h1), List.getElem?_map, List.length_map, List.length_range, List.getElem?_range h2] at hq
    obtain ⟨v, e, hv⟩ := h.wa (i - K) (Nat.zero_le _) h2
    rw [e] at hu
    injection hu with hu
    injection hq with hq
    rw [← hu, ← hq]; exact hv.keepT hk
/-- The searches, one by one. -/
structure Plan (f : Nat → Piece) (n : Nat) (g : Nat → Piece) (m : Nat) (p : List (List UInt8)) (S : List Cl.St) (fe : Nat) (one0 : List UInt8) (p' : List (List UInt8)) (Rb Ra : Nat → Option (List UInt8 × List UInt8)) (ps : List (Option (List UInt8 × List UInt8))) : Prop where
  dsc : Cl.dsc m 0 n m = (S, fe)
  res : consR f n g m p = firstOf ((List.range S.length).map Rb ++ ((List.range S.length).map Ra ++ ps))
  parts : ps = Cl.prtL (raws f n) (raws g m) S fe
  len : p'.length = S.length
  hd : (fe = 0 ∧ p = p' ∧ one0 = troot (tleaves f n)) ∨ (fe ≠ 0 ∧ p = one0 :: p')
  ok : ∀ s ∈ S, Cl.StOk n m s
  fe1 : fe + 1 ≤ n
  l32 : one0.length = 32
  b : ∀ t s, S[t]? = some s → Rb t = Cl.bef1 (tleaves f n) s (p'.getD (S.length - 1 - t) []) (Cl.ons one0 (S.drop (t + 1)) (p'.take (S.length - 1 - t)))
  a : ∀ t s, S[t]? = some s → Ra t = Cl.aft1 (tleaves g m) s (p'.getD (S.length - 1 - t) []) (Cl.ons one0 (S.drop (t + 1)) (p'.take (S.length - 1 - t)))
  small : S.length + 1 ≤ m ∨ S = []
theorem list_range {α : Type} (l : List (Option α)) : l = (List.range l.length).map fun t => (l[t]?).getD none := by
  apply List.ext_getElem?
  intro i
  rw [List.getElem?_map]
  by_cases h : i < l.length
  · rw [List.getElem?_range h, List.getElem?_eq_getElem h]; show some _ = some ((l[i]?).getD none); rw [List.getElem?_eq_getElem h]; rfl
  · rw [List.getElem?_eq_none (by omega), List.getElem?_eq_none (by rw [List.length_range]; omega)]; rfl
theorem plan_of {f : Nat → Piece} {n : Nat} {g : Nat → Piece} {m : Nat} {p : List (List UInt8)} (h1 : 1 ≤ n) (hnm : n ≤ m) (h32 : ∀ s ∈ p, s.length = 32) (hr : (Cons.roots tnd [] n m true (troot (tleaves f n)) p).2.2 = true) :
    ∃ S fe one0 p' Rb Ra ps, Plan f n g m p S fe one0 p' Rb Ra ps := by
  have hX : (tleaves f n).length = n := by simp [tleaves]
  have hY : (tleaves g m).length = m := by simp [tleaves]
  have hX32 : ∀ s ∈ tleaves f n, s.length = 32 := by rw [raws_lv]; exact Cl.lv_all _
  obtain ⟨one0, hd, p', hp, hpl, hh, hro⟩ := Cl.roots_dec (troot (tleaves f n)) m 0 n m true p (Nat.le_refl _) h1 hnm hr
  have hc := Cl.cofr_first (troot (tleaves f n)) (tleaves f n) (tleaves g m) m 0 n m true one0 hd p' (Nat.le_refl _) h1 hnm (by rw [hX]; omega) (by rw [hY]; omega) hpl hh
  have hpa := Cl.pa_first (raws f n) (raws g m) m 0 n m (Nat.le_refl _) h1 hnm (by rw [raws_len]; omega)
  have hok := Cl.dsc_ok m 0 n m n m (Nat.le_refl _) h1 (by omega) (by omega) hnm
  have hln := Cl.dsc_len m 0 n m (Nat.le_refl _) h1
  rw [List.drop_zero, List.drop_zero, List.take_of_length_le (by rw [hY]; exact Nat.le_refl _), ← hp] at hc
  rw [List.drop_zero, List.drop_zero] at hpa
  have hsm : (Cl.dsc m 0 n m).1.length + 1 ≤ m ∨ (Cl.dsc m 0 n m).1 = [] := by
    rcases hln with h | h
    · exact .inl h
    · right; rw [Cl.dsc_done (by omega)]
  obtain ⟨S, hS⟩ : ∃ S, (Cl.dsc m 0 n m).1 = S := ⟨_, rfl⟩
  obtain ⟨fe, hfe⟩ : ∃ S, (Cl.dsc m 0 n m).2 = S := ⟨_, rfl⟩
  have hdp : Cl.dsc m 0 n m = (S, fe) := by rw [← hS, ← hfe]
  rw [hS, hfe] at hok hpa
  rw [hfe] at hh
  rw [hS] at hpl hc hsm
  refine ⟨S, fe, one0, p', fun t => ((Cl.befL (tleaves f n) one0 S p')[t]?).getD none, fun t => ((Cl.aftL (tleaves g m) one0 S p')[t]?).getD none, Cl.prtL (raws f n) (raws g m) S fe, hdp, ?_, rfl, hpl, ?_, hok.1, hok.2.1, ?_, ?_, ?_, hsm⟩
  · unfold consR
    rw [hc.1, hc.2.1, hpa]
    have e1 := list_range (Cl.befL (tleaves f n) one0 S p')
    have e2 := list_range (Cl.aftL (tleaves g m) one0 S p')
    rw [Cl.befL_len] at e1
    rw [Cl.aftL_len] at e2
    rw [← e1, ← e2]
    show _ = Cl.first' _
    rw [Cl.first_app, Cl.first_app]
  · rcases hh with ⟨h3, _, h4, h5⟩ | ⟨h3, h4⟩
    · exact .inl ⟨h3, by rw [hp, h4]; rfl, h5⟩
    · rcases h3 with h3 | h3
      · cases h3
      · exact .inr ⟨h3, by rw [hp, h4]; rfl⟩
  · rcases hh with ⟨h3, _, h4, h5⟩ | ⟨h3, h4⟩
    · rw [h5]; exact troot_len hX32
    · exact h32 one0 (by rw [hp, h4]; simp)
  · intro t s hs
    show ((Cl.befL _ _ _ _)[t]?).getD none = _
    rw [Cl.befL_at _ _ S p' hpl t s hs]; rfl
  · intro t s hs
    show ((Cl.aftL _ _ _ _)[t]?).getD none = _
    rw [Cl.aftL_at _ _ S p' hpl t s hs]; rfl
set_option maxHeartbeats 64000000 in
theorem cCons_zero (A : Option Addr) (n c : Nat) (f : Nat → Piece) (B : Option Addr) (m k : Nat) (g : Nat → Piece) (Ap : Option Addr) (np cp : Nat) (p : List (List UInt8)) (w : World) (h1 : 1 ≤ n) (hnm : n ≤ m) (hn2 : m ≤ 300) (hra : RowsAt w A n f) (hca : n ≤ c ∧ c ≤ maxLen) (hrb : RowsAt w B m g) (hcb : m ≤ k ∧ k ≤ maxLen)
    (hsf : ∀ i, i < n → (f i).n ≤ 1000) (hsg : ∀ i, i < m → (g i).n ≤ 1000) (hp : Ss w Ap np cp p) (hnp : np ≤ 900) (ht : Tabs w) (ha32 : Tree.all32 p = true) (htc : tcheck n m (troot (tleaves f n)) (troot (tleaves g m)) p = true)
    {S : List Cl.St} {fe : Nat} {one0 : List UInt8} {p' : List (List UInt8)} {Rb Ra : Nat → Option (List UInt8 × List UInt8)} {ps : List (Option (List UInt8 × List UInt8))} (PL : Plan f n g m p S fe one0 p' Rb Ra ps) (hfe : fe = 0) :
    Calls Tryd.prog 29 #[.slice A n c, .slice B m k, .slice Ap np cp] w (ResPost w.heap.size (consR f n g m p) w) := by
  rw [PL.res]
  obtain ⟨K, hK⟩ : ∃ K, S.length = K := ⟨_, rfl⟩
  have hK300 : K ≤ 300 := by
    rcases PL.small with h | h
    · omega
    · rw [h] at hK; have : K = 0 := hK.symm; omega
  have hb0 : Below w.heap.size w (w.alloc (.cells #[.slice none 0 0, .slice none 0 0] 29)) := (Below.refl _ w).alloc (Nat.le_refl _) _
  have hlt0 : w.heap.size < (w.alloc (.cells #[.slice none 0 0, .slice none 0 0] 29)).heap.size := by rw [alloc_size]; omega
  have HROW0 := Lib.hid (row_new w #[.slice none 0 0, .slice none 0 0] 29)
  obtain ⟨w1, hw1⟩ : ∃ w1, (w.alloc (.cells #[.slice none 0 0, .slice none 0 0] 29)) = w1 := ⟨_, rfl⟩
  rw [hw1] at HROW0 hb0 hlt0
  have HW1 := Lib.hid hw1
  have HB0 := Lib.hid hb0
  have HLT := Lib.hid hlt0
  obtain ⟨X, hX⟩ : ∃ X, tleaves f n = X := ⟨_, rfl⟩
  obtain ⟨Y, hY⟩ : ∃ X, tleaves g m = X := ⟨_, rfl⟩
  have hX32 : ∀ s ∈ X, s.length = 32 := by rw [← hX, raws_lv]; exact Cl.lv_all _
  have hY32 : ∀ s ∈ Y, s.length = 32 := by rw [← hY, raws_lv]; exact Cl.lv_all _
  have hXl : X.length = n := by rw [← hX]; simp [tleaves]
  have hYl : Y.length = m := by rw [← hY]; simp [tleaves]
  have CX := Lib.hid (show ∀ W, Below w.heap.size w W → Calls Tryd.prog 33 #[.slice A n c] W (OwnSPost W.heap.size X W) from fun W hW => by rw [← hX]; exact leaves_any A n c f W (hra.keep hW) hca.1 hca.2 (by omega) (fun i hi => by have := hsf i hi; omega) (ht.below hW))
  have CY := Lib.hid (show ∀ W, Below w.heap.size w W → Calls Tryd.prog 33 #[.slice B m k] W (OwnSPost W.heap.size Y W) from fun W hW => by rw [← hY]; exact leaves_any B m k g W (hrb.keep hW) hcb.1 hcb.2 (by omega) (fun i hi => by have := hsg i hi; omega) (ht.below hW))
  unfold OwnSPost at CX CY
  rw [hX, hY] at htc
  have hdone := PL.hd
  rw [hX] at hdone
  obtain ⟨RX, hRX⟩ : ∃ R, troot X = R := ⟨_, rfl⟩
  obtain ⟨RY, hRY⟩ : ∃ R, troot Y = R := ⟨_, rfl⟩
  rw [hRX, hRY] at htc
  rw [hRX] at hdone
  have CRX := Lib.hid (show ∀ (L : Nat) (A' : Option Addr) (n' c' : Nat) (W : World), Below w.heap.size w W → OwnS W L A' n' c' X → Calls Tryd.prog 63 #[.slice A' n' c'] W (StrPost RX W) from fun L A' n' c' W hW h => by
    rw [← hRX]; exact xroot_any A' n' c' X W h.ss hX32 (by have := h.len; omega) (ht.below hW))
  have CRY := Lib.hid (show ∀ (L : Nat) (A' : Option Addr) (n' c' : Nat) (W : World), Below w.heap.size w W → OwnS W L A' n' c' Y → Calls Tryd.prog 63 #[.slice A' n' c'] W (StrPost RY W) from fun L A' n' c' W hW h => by
    rw [← hRY]; exact xroot_any A' n' c' Y W h.ss hY32 (by have := h.len; omega) (ht.below hW))
  unfold StrPost at CRX CRY
  have hRXl : RX.length = 32 := by rw [← hRX]; exact troot_len hX32
  have hRYl : RY.length = 32 := by rw [← hRY]; exact troot_len hY32
  have CK2 := Lib.hid (show ∀ W, Below w.heap.size w W → Calls Tryd.prog 31 #[.int .i64 (n : Int), .int .i64 (m : Int), sv RX, sv RY, .slice Ap np cp] W (RetI 0 W) from fun W hW =>
    ccheck_all n m RX RY Ap np cp p W (hp.keep hW) (all32_of ha32) hnm (by omega) hnp hRXl hRYl (ht.below hW) true htc 0 rfl)
  unfold RetI at CK2
  have CD := Lib.hid (show ∀ W, Calls Tryd.prog 64 #[.int .i64 (n : Int), .int .i64 (m : Int)] W (StepsPost W (S, fe)) from fun W => by
    rw [← PL.dsc]; exact descend8_any n m W h1 hnm (by omega))
  unfold StepsPost at CD
  have CTX := Lib.hid (show ∀ (A' : Option Addr) (n' c' i j : Nat) (W : World), Below w.heap.size w W → Ss W A' n' c' ((X.take j).drop i) → 2 ≤ n' → n' ≤ 1000 → Calls Tryd.prog 35 #[.slice A' n' c'] W (Ret8 W.heap.size (Cl.topB ((X.take j).drop i)) W) from fun A' n' c' i j W hW h h2 h3 =>
    ctop_any A' n' c' _ W h (all_drop (all_take hX32 j) i) h2 h3 (ht.below hW))
  have CTY := Lib.hid (show ∀ (A' : Option Addr) (n' c' i j : Nat) (W : World), Below w.heap.size w W → Ss W A' n' c' ((Y.take j).drop i) → 2 ≤ n' → n' ≤ 1000 → Calls Tryd.prog 35 #[.slice A' n' c'] W (Ret8 W.heap.size (Cl.topB ((Y.take j).drop i)) W) from fun A' n' c' i j W hW h h2 h3 =>
    ctop_any A' n' c' _ W h (all_drop (all_take hY32 j) i) h2 h3 (ht.below hW))
  unfold Ret8 at CTX CTY
  have HTP := Lib.hid (show (∀ i j, (Cl.topB ((X.take j).drop i)).length ≤ 1000) ∧ ∀ i j, (Cl.topB ((Y.take j).drop i)).length ≤ 1000 from ⟨fun i j => topB_le (all_drop (all_take hX32 j) i), fun i j => topB_le (all_drop (all_take hY32 j) i)⟩)
  have HXL := Lib.hid (And.intro hXl hYl)
  have HXY := Lib.hid (And.intro hX hY)
  have HPL := Lib.hid PL
  have HKS := Lib.hid hK
  have HRXY := Lib.hid (And.intro hra hrb)
  have HCAB := Lib.hid (And.intro hca hcb)
  have HSML := Lib.hid (And.intro hsf hsg)
  have HT := Lib.hid ht
  have H32 := Lib.hid (all32_of ha32)
  have HPS := Lib.hid hp
  have g1 : ((n : Int) == 0) = false := beq_eq_false_iff_ne.2 (by omega)
  have hpc := hp.cap
  have hpm := hp.max
  have hplen := hp.len
  obtain ⟨hc1, hm1⟩ := hca
  obtain ⟨hc2, hm2⟩ := hcb
  rw [maxLen_eq] at hm1 hm2 hpm
  obtain ⟨h3, h4, h5⟩ : fe = 0 ∧ p = p' ∧ one0 = RX := by
    rcases hdone with h | h
    · exact h
    · exact absurd hfe h.1
  subst h3
  have hq : np = K := by rw [← hplen, h4, PL.len, hK]
  subst hq
  have HQ := Lib.hid (show ∀ W, Below w.heap.size w W → Ss W Ap np cp p' from fun W hW => by rw [← h4]; exact hp.keep hW)
  have HONE := Lib.hid h5
  clear PL hdone hfe hK hra hrb hsf hsg ht ha32 htc hX hY hX32 hY32 hXl hYl hRX hRY hRXl hRYl hw1 hb0 hlt0 hp h4 h5 hplen
  go_enter Tryd.func29, Tryd.ntmps29
  go_wp2_with fail
  rw [HW1.out]
  refine (CX.out w1 HB0.out).mono ?_
  rintro e w3 ⟨AX, nX, cX, rfl, ho3, hb3⟩
  have HB3 := Lib.hid (bt HB0.out hb3)
  have HR3 := Lib.hid (HROW0.out.keep hb3)
  have HX3 := Lib.hid ho3
  clear hb3 ho3
  go_wp2_with fail
  refine (CY.out w3 HB3.out).mono ?_
  rintro e w4 ⟨AY, nY, cY, rfl, ho4, hb4⟩
  have HB4 := Lib.hid (bt HB3.out hb4)
  have HR4 := Lib.hid (HR3.out.keep hb4)
  have HX4 := Lib.hid (HX3.out.keep hb4)
  have HY4 := Lib.hid ho4
  clear hb4 ho4
  go_wp2_with fail
  refine (CRX.out _ AX nX cX w4 HB4.out HX4.out).mono ?_
  rintro e w5 ⟨rfl, hb5⟩
  have HB5 := Lib.hid (bt HB4.out hb5)
  have HR5 := Lib.hid (HR4.out.keep hb5)
  have HX5 := Lib.hid (HX4.out.keep hb5)
  have HY5 := Lib.hid (HY4.out.keep hb5)
  clear hb5
  go_wp2_with fail
  refine (CRY.out _ AY nY cY w5 HB5.out HY5.out).mono ?_
  rintro e w6 ⟨rfl, hb6⟩
  have HB6 := Lib.hid (bt HB5.out hb6)
  have HR6 := Lib.hid (HR5.out.keep hb6)
  have HX6 := Lib.hid (HX5.out.keep hb6)
  have HY6 := Lib.hid (HY5.out.keep hb6)
  clear hb6
  go_wp2_with fail
  refine (CK2.out w6 HB6.out).mono ?_
  rintro e w7 ⟨rfl, hb7⟩
  have HB7 := Lib.hid (bt HB6.out hb7)
  have HR7 := Lib.hid (HR6.out.keep hb7)
  have HX7 := Lib.hid (HX6.out.keep hb7)
  have HY7 := Lib.hid (HY6.out.keep hb7)
  clear hb7
  go_wp2_with fail
  refine (CD.out w7).mono ?_
  rintro e w8 ⟨AS, nS, cS, rfl, ho8, hb8⟩
  obtain rfl : np = nS := by rw [← ho8.len]; exact HKS.out.symm
  have hcS := ho8.cap
  have hmS := ho8.max
  rw [maxLen_eq] at hmS
  obtain rfl : n = nX := by rw [← HX7.out.len]; exact HXL.out.1.symm
  obtain rfl : m = nY := by rw [← HY7.out.len]; exact HXL.out.2.symm
  have HB8 := Lib.hid (bt HB7.out hb8)
  have HR8 := Lib.hid (HR7.out.keep hb8)
  have HX8 := Lib.hid (HX7.out.keep hb8)
  have HY8 := Lib.hid (HY7.out.keep hb8)
  have HS8 := Lib.hid ho8
  clear hb8 ho8
  go_wp2_with fail
  refine (CRX.out _ AX n cX w8 HB8.out HX8.out).mono ?_
  rintro e w9 ⟨rfl, hb9⟩
  have HB9 := Lib.hid (bt HB8.out hb9)
  have HR9 := Lib.hid (HR8.out.keep hb9)
  have HX9 := Lib.hid (HX8.out.keep hb9)
  have HY9 := Lib.hid (HY8.out.keep hb9)
  have HS9 := Lib.hid (HS8.out.keep hb9)
  clear hb9
  go_upto_region 10 with (at_make; refine wl_makeT rfl _ _ rfl np (by go_num) (by go_num) (by omega) ?_; intro cb0 wB hcb0 hrB0 hbB0; have HRB0 := Lib.hid hrB0; have HCB0 := Lib.hid hcb0; have HBB0 := Lib.hid hbB0; clear hrB0 hbB0 hcb0)
  go_upto_region 12 with (at_make; refine wl_makeT rfl _ _ rfl np (by go_num) (by go_num) (by omega) ?_; intro ca0 wm hca0 hrA0 hbA0; have HRA0 := Lib.hid hrA0; have HCA0 := Lib.hid hca0; have HBA0 := Lib.hid hbA0; clear hrA0 hbA0 hca0)
  have hbm0 := bt HBB0.out HBA0.out
  have HB0M := Lib.hid hbm0
  have HBM := Lib.hid (bt HB9.out hbm0)
  have HRM := Lib.hid (HR9.out.keep hbm0)
  have HXM := Lib.hid (HX9.out.keep hbm0)
  have HYM := Lib.hid (HY9.out.keep hbm0)
  have HSM := Lib.hid (HS9.out.keep hbm0)
  have hqm := HQ.out wm HBM.out
  have hcq := hqm.cap
  have hmq := hqm.max
  rw [maxLen_eq] at hmq
  have HQM := Lib.hid hqm
  obtain ⟨tb, htb⟩ : ∃ t, w9.heap.size = t := ⟨_, rfl⟩
  obtain ⟨ta, hta⟩ : ∃ t, wB.heap.size = t := ⟨_, rfl⟩
  have htr := HRB0.out
  have htr2 := HRA0.out
  rw [htb] at htr ⊢
  rw [hta] at htr2 ⊢
  have htlt := htr.lt
  rw [hta] at htlt
  have HNE := Lib.hid (show tb ≠ ta ∧ w9.heap.size ≤ tb ∧ w9.heap.size ≤ ta by omega)
  have HTBW := Lib.hid (show w.heap.size < tb by rw [← htb]; exact HR9.out.lt)
  have HLC0 := Lib.hid (show LC ⟨A, n, c, f, B, m, k, g⟩ wm wm tb ta np np np cb0 ca0 Rb Ra from ⟨htr.keep (by have := HBA0.out; exact this), htr2, HCB0.out, HCA0.out, KeepT.refl _, fun t h1 h2 => by omega, fun t h1 h2 => by omega⟩)
  clear hbm0 hqm htb hta htr htr2 htlt
  go_loopw [12, 13, 78] (fun v1 v2 vi wr => ∃ (j : Nat) (cb ca : Array Value) (o1 o2 : List UInt8), v1 = sv o1 ∧ v2 = sv o2 ∧ vi = .int .i64 (j : Int) ∧ j ≤ np ∧ o1.length = 32 ∧ o2.length = 32 ∧ Hid ((o1, o2) = Cl.ons one0 (S.drop (np - j)) (p'.take j) ∧ LC ⟨A, n, c, f, B, m, k, g⟩ wm wr tb ta np (np - j) (np - j) cb ca Rb Ra ∧ Below w9.heap.size w9 wr)) (fun _ _ vi _ => np - (intOf vi).toNat)
  case atStart => exact ⟨0, cb0, ca0, RX, RX, rfl, rfl, rfl, by omega, by rw [← HONE.out]; exact HPL.out.l32, by rw [← HONE.out]; exact HPL.out.l32, Lib.hid ⟨by rw [Nat.sub_zero, List.drop_of_length_le (by rw [HKS.out]; exact Nat.le_refl _), ← HONE.out]; rfl, by rw [Nat.sub_zero]; exact HLC0.out, HB0M.out⟩⟩
  case round =>
    obtain ⟨j, cb, ca, o1, o2, rfl, rfl, rfl, hj, ho1, ho2, H⟩ := hrel
    have HBW := Lib.hid (bt HB9.out H.out.2.2)
    by_cases hlt : j < np
    · obtain ⟨t, htd⟩ : ∃ t, np - 1 - j = t := ⟨_, rfl⟩
      have htK : t < np := by omega
      obtain ⟨s, hs⟩ : ∃ s, S[t]? = some s := ⟨_, List.getElem?_eq_getElem (by rw [HKS.out]; exact htK)⟩
      have HOK := Lib.hid (HPL.out.ok s (List.mem_of_getElem? hs))
      obtain ⟨bq, oq, hAq, hbq, hcq', d, hd⟩ := (HQ.out wr HBW.out).at (k := j) hlt
      have x0 := hcq' j d hd
      have HD := Lib.hid hd
      have hd32 : d.length = 32 := H32.out d (by
        have hm := List.mem_of_getElem? hd
        rcases HPL.out.hd with h | h
        · rw [h.2.1]; exact hm
        · rw [h.2]; exact List.mem_cons_of_mem _ hm)
      obtain ⟨gs, hgs, _, _, hcs⟩ := (HSM.out.keepT H.out.2.1.keep).at (by omega)
      have s0 := hcs t s hs 0 _ rfl
      rw [Nat.add_zero] at s0
      have s1 := hcs t s hs 1 _ rfl
      have s2 := hcs t s hs 2 _ rfl
      have s3 := hcs t s hs 3 _ rfl
      have s4 := hcs t s hs 4 _ rfl
      have HST := Lib.hid hs
      have HTD := Lib.hid htd
      have hz : (np : Int) - 1 - (j : Int) = (t : Int) := by omega
      have HBT := Lib.hid (HPL.out.b t s hs)
      have HAT := Lib.hid (HPL.out.a t s hs)
      have HXT := Lib.hid (show S.length - 1 - t = j ∧ p'.getD j [] = d ∧ S.drop t = s :: S.drop (t + 1) ∧ p'.take (j + 1) = p'.take j ++ [d] ∧ np - j = t + 1 from ⟨by rw [HKS.out]; omega, by rw [List.getD_eq_getElem?_getD, hd]; rfl, drop_at hs, by rw [List.take_add_one, hd]; rfl, by omega⟩)
      have HON := Lib.hid (show Cl.ons one0 (S.drop (t + 1)) (p'.take j) = (o1, o2) by rw [← HXT.out.2.2.2.2]; exact H.out.1.symm)
      have HON2 := Lib.hid (show Cl.ons one0 (S.drop t) (p'.take (j + 1)) = if s.rt then (tnd d o1, tnd d o2) else (o1, tnd o2 d) by rw [HXT.out.2.2.1, HXT.out.2.2.2.1, Cl.ons_snoc, HON.out])
      have hfn := HOK.out.b
      have hfm := HOK.out.a
      have hn2' := HOK.out.m1
      clear hcs hcq' hd hs htd
      subst hAq hgs
      cases hrt : s.rt with
      | true =>
        rw [hrt] at s4
        have HRT := Lib.hid hrt
        have HAE := Lib.hid (show Ra t = Cl.btw (1 :: (d ++ o2)) (Cl.topB ((Y.take (s.fr + s.n)).drop s.fr)) by
          rw [HAT.out, HXT.out.1, HXT.out.2.1, HON.out, HXY.out.2, cut_eq]
          unfold Cl.aft1
          rw [HRT.out]
          rfl)
        have HRBE := Lib.hid (show Rb t = Cl.btw (1 :: (d ++ o1)) (Cl.topB ((X.take (s.fr + s.m)).drop s.fr)) by
          rw [HBT.out, HXT.out.1, HXT.out.2.1, HON.out, HXY.out.1]
          unfold Cl.bef1
          rw [HRT.out]
          rw [cut_eq]; rfl)
        have HON3 := Lib.hid (show Cl.ons one0 (S.drop t) (p'.take (j + 1)) = (tnd d o1, tnd d o2) by rw [HON2.out, HRT.out]; rfl)
        go_upto_region 16 with fail
        have hbx : Below wr.heap.size wr (wr.alloc (.cells #[.int .i64 (s.fr : Int), .int .i64 (s.m : Int), .int .i64 (s.n : Int), .int .i64 (s.k : Int), .bool true] 80)) := (Below.refl _ wr).alloc (Nat.le_refl _) _
        have hrx := row_new wr #[.int .i64 (s.fr : Int), .int .i64 (s.m : Int), .int .i64 (s.n : Int), .int .i64 (s.k : Int), .bool true] 80
        obtain ⟨wy, hwy⟩ : ∃ wy, wr.alloc (.cells #[.int .i64 (s.fr : Int), .int .i64 (s.m : Int), .int .i64 (s.n : Int), .int .i64 (s.k : Int), .bool true] 80) = wy := ⟨_, rfl⟩
        rw [hwy] at hbx hrx ⊢
        have HLY := Lib.hid (H.out.2.1.step hbx)
        have HBY := Lib.hid (bt H.out.2.2 hbx)
        have HRX := Lib.hid hrx
        have HNB := Lib.hid (show wr.heap.size ≠ tb from fun e => by have := H.out.2.1.rowB.lt; omega)
        have y0 := hrx.cellQ 0 _ rfl
        have y1 := hrx.cellQ 1 _ rfl
        have y2 := hrx.cellQ 2 _ rfl
        have HYY := Lib.hid (HYM.out.keepT HLY.out.keep)
        clear hbx hrx hwy s0 s1 s2 s3 s4 x0 hrt
        go_wp2_with (refine wl_cutS_lh rfl (.tmp 92) (.tmp 94) (.tmp 99) rfl rfl HYY.out.ss s.fr (s.fr + s.n) rfl (by go_num) (by omega) (by omega) ?_; intro AW hW; rw [Nat.add_sub_cancel_left] at hW; have HW := Lib.hid hW; clear hW)
        (with_reducible refine (CTY.out AW s.n (cY - s.fr) s.fr (s.fr + s.n) wy (bt HB9.out HBY.out) HW.out (by omega) (by omega)).mono ?_)
        rintro e w10 ⟨AT, nT, cT, rfl, hoT, hbT⟩
        have HL10 := Lib.hid (HLY.out.step hbT)
        have HB10 := Lib.hid (bt HBY.out hbT)
        have HR10 := Lib.hid (HRX.out.keep hbT)
        have HT10 := Lib.hid hoT
        obtain ⟨ob, hob⟩ : ∃ v, cb[t]? = some v := ⟨_, Array.getElem?_eq_getElem (by rw [HL10.out.szB]; exact htK)⟩
        have z0 := HL10.out.rowB.cellQ t _ hob
        have z1 := HL10.out.rowB.frozen t
        clear hbT hoT hob y0 y1 y2
        go_upto_region 18 with fail
        obtain ⟨w11, hw11⟩ : ∃ w11, w10.setCell ⟨tb, t, none⟩ (.func (.func 65) #[] #[]) = w11 := ⟨_, rfl⟩
        rw [hw11]
        have HL11 := Lib.hid (show LC ⟨A, n, c, f, B, m, k, g⟩ wm w11 tb ta np (np - j) (np - j) (cb.setIfInBounds t (.func (.func 65) #[] #[])) ca Rb Ra by rw [← hw11]; exact HL10.out.junkB HNE.out.1 (by omega) _)
        have HB11 := Lib.hid (show Below w9.heap.size w9 w11 by rw [← hw11]; exact HB10.out.setCell HNE.out.2.1 _)
        have HR11 := Lib.hid (show Row w11 wr.heap.size #[.int .i64 (s.fr : Int), .int .i64 (s.m : Int), .int .i64 (s.n : Int), .int .i64 (s.k : Int), .bool true] 80 by rw [← hw11]; exact HR10.out.far tb t _ HNB.out)
        have HT11 := Lib.hid (show Own8 w11 wy.heap.size AT nT cT (Cl.topB ((Y.take (s.fr + s.n)).drop s.fr)) by rw [← hw11]; exact HT10.out.keepT (KeepT.set HL10.out.rowB t _))
        have y4 := HR11.out.cellQ 4 _ rfl
        clear z0 z1 hw11
        have HKM := Lib.hid (show s.k < s.m ∧ 1 ≤ s.k from ⟨HOK.out.km HRT.out, HOK.out.k0⟩)
        have QB := Lib.hid (show ∀ W, Calls Tryd.prog 38 #[sv d, sv o1] W (Ret8 W.heap.size (1 :: (d ++ o1)) W) from fun W => (nodeBytes_any _ _ W (by omega) (by omega)).mono fun e w2 h => h.ret8)
        unfold Ret8 at QB
        have HXq := Lib.hid (show ∀ W, Below w11.heap.size w11 W → Ss W AX n cX X from fun W hW => ((HXM.out.keepT HL11.out.keep).keep hW).ss)
        have HLX := Lib.hid (show ((X.take (s.fr + s.m)).drop s.fr).length = s.fr + s.m - s.fr by rw [List.length_drop, List.length_take, HXL.out.1]; omega)
        have HLN := Lib.hid (show (1 :: (d ++ o1) : List UInt8).length ≤ 1000000 ∧ (Cl.topB ((X.take (s.fr + s.m)).drop s.fr)).length ≤ 1000000 from ⟨by rw [List.length_cons, List.length_append]; omega, Nat.le_trans (HTP.out.1 _ _) (by omega)⟩)
        have HY0 := Lib.hid (show ∀ W, Below w11.heap.size w11 W → W.cell? ⟨wr.heap.size, 0, none⟩ = some (.int .i64 (s.fr : Int)) from fun W hW => (HR11.out.keep hW).cellQ 0 _ rfl)
        have HY1 := Lib.hid (show ∀ W, Below w11.heap.size w11 W → W.cell? ⟨wr.heap.size, 1, none⟩ = some (.int .i64 (s.m : Int)) from fun W hW => (HR11.out.keep hW).cellQ 1 _ rfl)
        go_wp2_with fail
        clear y4
        refine Free.wp_free_l 17 (fun W => Below w11.heap.size w11 W) [Free.kc (.slice (some ⟨tb, 0, none⟩) np np), Free.kc (.int .i64 (t : Int)), Free.kc (sv d), Free.kc (sv o1), Free.kB (w11.heap.size) (1 :: (d ++ o1)), Free.kc (.slice AX n cX), Free.kc (.pointer (some ⟨wr.heap.size, 0, none⟩)), Free.kc (.int .i64 (s.fr : Int)), Free.kc (.pointer (some ⟨wr.heap.size, 0, none⟩)), Free.kc (.int .i64 (s.fr : Int)), Free.kc (.pointer (some ⟨wr.heap.size, 1, none⟩)), Free.kc (.int .i64 (s.m : Int)), Free.kc (.int .i64 ((s.fr + s.m : Nat) : Int)), Free.kr (s.fr + s.m - s.fr) (((X.take (s.fr + s.m)).drop s.fr).map sv), Free.kB (w11.heap.size) (Cl.topB ((X.take (s.fr + s.m)).drop s.fr)), Free.kW (⟨A, n, c, f, B, m, k, g⟩) (Rb t), Free.kc (.pointer (some ⟨tb, t, none⟩))] (by kernel_rfl) (by kernel_rfl) (by decide) (Below.refl _ _).drew (fun w w' h g => bt h g) ?_ ?_
        · refine Free.forall_succ (Free.forall_succ (Free.forall_succ (Free.forall_succ (Free.forall_succ (Free.forall_succ (Free.forall_succ (Free.forall_succ (Free.forall_succ (Free.forall_succ (Free.forall_succ (Free.forall_succ (Free.forall_succ (Free.forall_succ (Free.forall_succ (Free.forall_succ (Free.forall_succ (Free.forall_zero) ?_) ?_) ?_) ?_) ?_) ?_) ?_) ?_) ?_) ?_) ?_) ?_) ?_) ?_) ?_) ?_) ?_
          · exact Free.ob_plain _ rfl rfl fun vals wv hC hd => (by exact Free.d_move rfl (by kernel_rfl) rfl)
          · exact Free.ob_plain _ rfl rfl fun vals wv hC hd => (by exact Free.d_move rfl (by kernel_rfl) rfl)
          · exact Free.ob_plain _ rfl rfl fun vals wv hC hd => (by exact Free.d_move rfl (by kernel_rfl) rfl)
          · exact Free.ob_plain _ rfl rfl fun vals wv hC hd => (by exact Free.d_move rfl (by kernel_rfl) rfl)
          · exact Free.ob_plain _ rfl rfl fun vals wv hC hd => (by exact Free.d_call Tryd.func38 (by kernel_rfl) (by kernel_rfl) rfl rfl (Free.arg2 (Eq.trans (b := vals 2) (by kernel_rfl) (hd 2 (by kernel_rfl))) (Eq.trans (b := vals 3) (by kernel_rfl) (hd 3 (by kernel_rfl)))) ((QB.out wv).mono fun e w2 h => (by obtain ⟨A1, n1, c1, he, ho, hb⟩ := h; exact ⟨_, he, ⟨A1, n1, c1, rfl, ho.base hC.size⟩, hb⟩)))
          · exact Free.ob_plain _ rfl rfl fun vals wv hC hd => (by exact Free.d_move rfl (by kernel_rfl) rfl)
          · exact Free.ob_plain _ rfl rfl fun vals wv hC hd => (by exact d_field (cx := .pointer (some ⟨wr.heap.size, 0, none⟩)) rfl (by kernel_rfl) (by go_simp) rfl)
          · exact Free.ob_plain _ rfl rfl fun vals wv hC hd => (by exact Free.d_load rfl (Eq.trans (b := vals 6) (by kernel_rfl) (hd 6 (by kernel_rfl))) (by have hcc := HY0.out wv hC; go_simp) rfl)
          · exact Free.ob_plain _ rfl rfl fun vals wv hC hd => (by exact d_field (cx := .pointer (some ⟨wr.heap.size, 0, none⟩)) rfl (by kernel_rfl) (by go_simp) rfl)
          · exact Free.ob_plain _ rfl rfl fun vals wv hC hd => (by exact Free.d_load rfl (Eq.trans (b := vals 8) (by kernel_rfl) (hd 8 (by kernel_rfl))) (by have hcc := HY0.out wv hC; go_simp) rfl)
          · exact Free.ob_plain _ rfl rfl fun vals wv hC hd => (by exact d_field (cx := .pointer (some ⟨wr.heap.size, 0, none⟩)) rfl (by kernel_rfl) (by go_simp) rfl)
          · exact Free.ob_plain _ rfl rfl fun vals wv hC hd => (by exact Free.d_load rfl (Eq.trans (b := vals 10) (by kernel_rfl) (hd 10 (by kernel_rfl))) (by have hcc := HY1.out wv hC; go_simp) rfl)
          · exact Free.ob_plain _ rfl rfl fun vals wv hC hd => (by exact Free.d_bin rfl (Eq.trans (b := vals 9) (by kernel_rfl) (hd 9 (by kernel_rfl))) (Eq.trans (b := vals 11) (by kernel_rfl) (hd 11 (by kernel_rfl))) (by go_simp) (by go_simp; rw [IntWalk.i64_in _ (by omega)]; first | rfl | omega) rfl)
          · exact Free.ob_plain _ rfl rfl fun vals wv hC hd => (by exact (by obtain ⟨A', hrun, hss⟩ := run_cutS_lh (HXq.out wv hC) s.fr (s.fr + s.m) (by omega) (by omega); exact Free.d_slice rfl (Eq.trans (b := vals 5) (by kernel_rfl) (hd 5 (by kernel_rfl))) (show _ = some (Value.int .i64 (s.fr : Int)) from congrArg some (Eq.trans (b := vals 7) (by kernel_rfl) (hd 7 (by kernel_rfl)))) (show _ = some (Value.int .i64 ((s.fr + s.m : Nat) : Int)) from congrArg some (Eq.trans (b := vals 12) (by kernel_rfl) (hd 12 (by kernel_rfl)))) rfl hrun ⟨A', _, rfl, hss.rd, hss.cap, hss.max⟩))
          · exact Free.ob_plain _ rfl rfl fun vals wv hC hd => (by obtain ⟨A13, k13, e13, rd13, le13, mx13⟩ := hd 13 (by kernel_rfl); exact Free.d_call Tryd.func35 (by kernel_rfl) (by kernel_rfl) rfl rfl (Free.arg1 (Eq.trans (b := vals 13) (by kernel_rfl) e13)) ((CTX.out A13 (s.fr + s.m - s.fr) k13 s.fr (s.fr + s.m) wv (bt (bt HB9.out HB11.out) hC) ⟨rd13, HLX.out, le13, mx13⟩ (by have := HKM.out; omega) (by omega)).mono fun e w2 h => (by obtain ⟨A1, n1, c1, he, ho, hb⟩ := h; exact ⟨_, he, ⟨A1, n1, c1, rfl, ho.base hC.size⟩, hb⟩)))
          · exact Free.ob_plain _ rfl rfl fun vals wv hC hd => (by obtain ⟨A4, n4, k4, e4, ow4⟩ := hd 4 (by kernel_rfl); obtain ⟨A14, n14, k14, e14, ow14⟩ := hd 14 (by kernel_rfl); exact Free.d_call Tryd.func37 (by kernel_rfl) (by kernel_rfl) rfl rfl (Free.arg2 (Eq.trans (b := vals 4) (by kernel_rfl) e4) (Eq.trans (b := vals 14) (by kernel_rfl) e14)) ((pair_raw _ _ _ _ _ _ wv).mono fun e w2 h => (by obtain ⟨g1, g2, he, hg1, hg2, r1, r2, hb⟩ := h; exact ⟨_, he, ⟨_, rfl, .inr (.inl ⟨g1, g2, _, _, _, _, _, _, _, _, rfl, r1, r2, (ow4.base (Nat.zero_le _)).keep hb, (ow14.base (Nat.zero_le _)).keep hb, HLN.out.1, HLN.out.2, HRBE.out⟩)⟩, hb⟩)))
          · exact Free.ob_plain _ rfl rfl fun vals wv hC hd => (by exact Free.d_indexAddr rfl (Eq.trans (b := vals 0) (by kernel_rfl) (hd 0 (by kernel_rfl))) (Eq.trans (b := vals 1) (by kernel_rfl) (hd 1 (by kernel_rfl))) (run_idx0 61 Tryd.underlying61 (by kernel_rfl) tb np np t _ (by omega) (by omega)) rfl)
        · intro vals wv hC hd
          have e0 : vals 0 = (.slice (some ⟨tb, 0, none⟩) np np) := hd 0 (by decide)
          have e1 : vals 1 = (.int .i64 (t : Int)) := hd 1 (by decide)
          have e2 : vals 2 = (sv d) := hd 2 (by decide)
          have e3 : vals 3 = (sv o1) := hd 3 (by decide)
          obtain ⟨A4, n4, k4, e4, ow4⟩ := hd 4 (by decide)
          have e5 : vals 5 = (.slice AX n cX) := hd 5 (by decide)
          have e6 : vals 6 = (.pointer (some ⟨wr.heap.size, 0, none⟩)) := hd 6 (by decide)
          have e7 : vals 7 = (.int .i64 (s.fr : Int)) := hd 7 (by decide)
          have e8 : vals 8 = (.pointer (some ⟨wr.heap.size, 0, none⟩)) := hd 8 (by decide)
          have e9 : vals 9 = (.int .i64 (s.fr : Int)) := hd 9 (by decide)
          have e10 : vals 10 = (.pointer (some ⟨wr.heap.size, 1, none⟩)) := hd 10 (by decide)
          have e11 : vals 11 = (.int .i64 (s.m : Int)) := hd 11 (by decide)
          have e12 : vals 12 = (.int .i64 ((s.fr + s.m : Nat) : Int)) := hd 12 (by decide)
          obtain ⟨A13, k13, e13, rd13, le13, mx13⟩ := hd 13 (by decide)
          obtain ⟨A14, n14, k14, e14, ow14⟩ := hd 14 (by decide)
          obtain ⟨v15, e15, pd15⟩ := hd 15 (by decide)
          have e16 : vals 16 = (.pointer (some ⟨tb, t, none⟩)) := hd 16 (by decide)
          simp only [Free.frameOf, List.range, List.range.loop, List.foldl, Free.dstOf, List.getElem?_toArray, List.getElem?_cons_zero, List.getElem?_cons_succ, Option.bind_some, Act.put, List.setIfInBounds_toArray, List.set_cons_zero, List.set_cons_succ, e0, e1, e2, e3, e4, e5, e6, e7, e8, e9, e10, e11, e12, e13, e14, e15, e16]
          clear hd e0 e1 e2 e3 e4 e5 e6 e7 e8 e9 e10 e11 e12 e13 e14 e15 e16
          obtain ⟨fid, caps, rfl⟩ := pd15.form
          have hl2 := HL11.out.step hC
          obtain ⟨old, hold⟩ : ∃ v, (cb.setIfInBounds t (.func (.func 65) #[] #[]))[t]? = some v := ⟨_, Array.getElem?_eq_getElem (by rw [hl2.szB]; exact htK)⟩
          have z0 := hl2.rowB.cellQ t _ hold
          have z1 := hl2.rowB.frozen t
          have hl3 := hl2.setB HNE.out.1 (by omega) htK pd15
          have hb3 := (bt HB11.out hC).setCell (p := ⟨tb, t, none⟩) HNE.out.2.1 (.func (.func fid) #[] caps)
          have ht3 := (HT11.out.keep hC).keepT (KeepT.set hl2.rowB t (.func (.func fid) #[] caps))
          have HL3 := Lib.hid hl3
          have HB3x := Lib.hid hb3
          have HT3 := Lib.hid ht3
          clear hl2 hold hl3 hb3 ht3 hC pd15 ow4 ow14 rd13 le13 mx13
          go_upto_region 20 with fail
          obtain ⟨w12, hw12⟩ : ∃ w, wv.setCell ⟨tb, t, none⟩ (.func (.func fid) #[] caps) = w := ⟨_, rfl⟩
          rw [hw12] at HL3 HB3x HT3 ⊢
          clear z0 z1 hw12
          have QA := Lib.hid (show ∀ W, Calls Tryd.prog 38 #[sv d, sv o2] W (Ret8 W.heap.size (1 :: (d ++ o2)) W) from fun W => (nodeBytes_any _ _ W (by omega) (by omega)).mono fun e w2 h => h.ret8)
          unfold Ret8 at QA
          go_wp2_with fail
          (with_reducible refine (QA.out w12).mono ?_)
          rintro e w13 ⟨AN, nN, cN, rfl, hoN, hbN⟩
          have HL13 := Lib.hid (HL3.out.step hbN)
          have HB13 := Lib.hid (bt HB3x.out hbN)
          have HT13 := Lib.hid (HT3.out.keep hbN)
          have HN13 := Lib.hid hoN
          clear hbN hoN
          go_wp2_with fail
          (with_reducible refine (pair_raw AN nN cN AT nT cT w13).mono ?_)
          rintro e w14 ⟨q1, q2, rfl, hq1, hq2, r1, r2, hbP⟩
          have hwt : Wait ⟨A, n, c, f, B, m, k, g⟩ w14 (.func (.func 74) #[] #[.pointer (some ⟨q1, 0, none⟩), .pointer (some ⟨q2, 0, none⟩)]) (Ra t) := .inr (.inl ⟨q1, q2, _, _, _, _, _, _, _, _, rfl, r1, r2, (HN13.out.base (Nat.zero_le _)).keep hbP, (HT13.out.base (Nat.zero_le _)).keep hbP, by rw [List.length_cons, List.length_append]; omega, Nat.le_trans (HTP.out.2 _ _) (by omega), HAE.out⟩)
          have hl5 := HL13.out.step hbP
          obtain ⟨old2, hold2⟩ : ∃ v, ca[t]? = some v := ⟨_, Array.getElem?_eq_getElem (by rw [hl5.szA]; exact htK)⟩
          have z0 := hl5.rowA.cellQ t _ hold2
          have z1 := hl5.rowA.frozen t
          have hl6 := hl5.setA HNE.out.1 (by omega) htK hwt
          have hb6 := (bt HB13.out hbP).setCell (p := ⟨ta, t, none⟩) HNE.out.2.2 (.func (.func 74) #[] #[.pointer (some ⟨q1, 0, none⟩), .pointer (some ⟨q2, 0, none⟩)])
          have HL15 := Lib.hid hl6
          have HB15 := Lib.hid hb6
          clear hl5 hl6 hb6 hold2 hwt hbP r1 r2
          go_upto_region 21 with fail
          obtain ⟨w15, hw15⟩ : ∃ w, w14.setCell ⟨ta, t, none⟩ (.func (.func 74) #[] #[.pointer (some ⟨q1, 0, none⟩), .pointer (some ⟨q2, 0, none⟩)]) = w := ⟨_, rfl⟩
          rw [hw15] at HL15 HB15 ⊢
          clear z0 z1 hw15
          go_wp2_with fail
          (with_reducible refine (xnode_any d o1 w15 hd32 ho1 (HT.out.below (bt HB9.out HB15.out))).mono ?_)
          rintro e w16 ⟨rfl, hb16⟩
          have HL16 := Lib.hid (HL15.out.step hb16)
          have HB16 := Lib.hid (bt HB15.out hb16)
          clear hb16
          go_wp2_with fail
          (with_reducible refine (xnode_any d o2 w16 hd32 ho2 (HT.out.below (bt HB9.out HB16.out))).mono ?_)
          rintro e w17 ⟨rfl, hb17⟩
          have HL17 := Lib.hid (HL16.out.step hb17)
          have HB17 := Lib.hid (bt HB16.out hb17)
          clear hb17
          go_wp2
          go_roundw
          case rel => exact ⟨j + 1, _, _, tnd d o1, tnd d o2, rfl, rfl, by go_num, by omega, tnd_len _ _, tnd_len _ _, Lib.hid ⟨by rw [show np - (j + 1) = t by omega]; exact HON3.out.symm, by rw [show np - (j + 1) = t by omega]; exact HL17.out, HB17.out⟩⟩
          case measure => simp [intOf]; omega
      | false =>
        rw [hrt] at s4
        have HRT := Lib.hid hrt
        have HAE := Lib.hid (show Ra t = Cl.btw (1 :: (o2 ++ d)) (Cl.topB ((Y.take (s.fr + s.n)).drop s.fr)) by
          rw [HAT.out, HXT.out.1, HXT.out.2.1, HON.out, HXY.out.2, cut_eq]
          unfold Cl.aft1
          rw [HRT.out]
          rfl)
        have HRBE := Lib.hid (show Rb t = none by
          rw [HBT.out, HXT.out.1, HXT.out.2.1, HON.out, HXY.out.1]
          unfold Cl.bef1
          rw [HRT.out]
          rfl)
        have HON3 := Lib.hid (show Cl.ons one0 (S.drop t) (p'.take (j + 1)) = (o1, tnd o2 d) by rw [HON2.out, HRT.out]; rfl)
        go_upto_region 16 with fail
        have hbx : Below wr.heap.size wr (wr.alloc (.cells #[.int .i64 (s.fr : Int), .int .i64 (s.m : Int), .int .i64 (s.n : Int), .int .i64 (s.k : Int), .bool false] 80)) := (Below.refl _ wr).alloc (Nat.le_refl _) _
        have hrx := row_new wr #[.int .i64 (s.fr : Int), .int .i64 (s.m : Int), .int .i64 (s.n : Int), .int .i64 (s.k : Int), .bool false] 80
        obtain ⟨wy, hwy⟩ : ∃ wy, wr.alloc (.cells #[.int .i64 (s.fr : Int), .int .i64 (s.m : Int), .int .i64 (s.n : Int), .int .i64 (s.k : Int), .bool false] 80) = wy := ⟨_, rfl⟩
        rw [hwy] at hbx hrx ⊢
        have HLY := Lib.hid (H.out.2.1.step hbx)
        have HBY := Lib.hid (bt H.out.2.2 hbx)
        have HRX := Lib.hid hrx
        have HNB := Lib.hid (show wr.heap.size ≠ tb from fun e => by have := H.out.2.1.rowB.lt; omega)
        have y0 := hrx.cellQ 0 _ rfl
        have y1 := hrx.cellQ 1 _ rfl
        have y2 := hrx.cellQ 2 _ rfl
        have HYY := Lib.hid (HYM.out.keepT HLY.out.keep)
        clear hbx hrx hwy s0 s1 s2 s3 s4 x0 hrt
        go_wp2_with (refine wl_cutS_lh rfl (.tmp 92) (.tmp 94) (.tmp 99) rfl rfl HYY.out.ss s.fr (s.fr + s.n) rfl (by go_num) (by omega) (by omega) ?_; intro AW hW; rw [Nat.add_sub_cancel_left] at hW; have HW := Lib.hid hW; clear hW)
        (with_reducible refine (CTY.out AW s.n (cY - s.fr) s.fr (s.fr + s.n) wy (bt HB9.out HBY.out) HW.out (by omega) (by omega)).mono ?_)
        rintro e w10 ⟨AT, nT, cT, rfl, hoT, hbT⟩
        have HL10 := Lib.hid (HLY.out.step hbT)
        have HB10 := Lib.hid (bt HBY.out hbT)
        have HR10 := Lib.hid (HRX.out.keep hbT)
        have HT10 := Lib.hid hoT
        obtain ⟨ob, hob⟩ : ∃ v, cb[t]? = some v := ⟨_, Array.getElem?_eq_getElem (by rw [HL10.out.szB]; exact htK)⟩
        have z0 := HL10.out.rowB.cellQ t _ hob
        have z1 := HL10.out.rowB.frozen t
        clear hbT hoT hob y0 y1 y2
        go_upto_region 18 with fail
        obtain ⟨w11, hw11⟩ : ∃ w11, w10.setCell ⟨tb, t, none⟩ (.func (.func 65) #[] #[]) = w11 := ⟨_, rfl⟩
        rw [hw11]
        have HL11 := Lib.hid (show LC ⟨A, n, c, f, B, m, k, g⟩ wm w11 tb ta np t (np - j) (cb.setIfInBounds t (.func (.func 65) #[] #[])) ca Rb Ra by rw [← hw11]; exact HL10.out.setB HNE.out.1 (by omega) htK (.inl ⟨rfl, HRBE.out⟩))
        have HB11 := Lib.hid (show Below w9.heap.size w9 w11 by rw [← hw11]; exact HB10.out.setCell HNE.out.2.1 _)
        have HR11 := Lib.hid (show Row w11 wr.heap.size #[.int .i64 (s.fr : Int), .int .i64 (s.m : Int), .int .i64 (s.n : Int), .int .i64 (s.k : Int), .bool false] 80 by rw [← hw11]; exact HR10.out.far tb t _ HNB.out)
        have HT11 := Lib.hid (show Own8 w11 wy.heap.size AT nT cT (Cl.topB ((Y.take (s.fr + s.n)).drop s.fr)) by rw [← hw11]; exact HT10.out.keepT (KeepT.set HL10.out.rowB t _))
        have y4 := HR11.out.cellQ 4 _ rfl
        clear z0 z1 hw11
        have QA := Lib.hid (show ∀ W, Calls Tryd.prog 38 #[sv o2, sv d] W (Ret8 W.heap.size (1 :: (o2 ++ d)) W) from fun W => (nodeBytes_any _ _ W (by omega) (by omega)).mono fun e w2 h => h.ret8)
        unfold Ret8 at QA
        go_wp2_with fail
        (with_reducible refine (QA.out w11).mono ?_)
        rintro e w13 ⟨AN, nN, cN, rfl, hoN, hbN⟩
        have HL13 := Lib.hid (HL11.out.step hbN)
        have HB13 := Lib.hid (bt HB11.out hbN)
        have HT13 := Lib.hid (HT11.out.keep hbN)
        have HN13 := Lib.hid hoN
        clear hbN hoN y4
        go_wp2_with fail
        (with_reducible refine (pair_raw AN nN cN AT nT cT w13).mono ?_)
        rintro e w14 ⟨q1, q2, rfl, hq1, hq2, r1, r2, hbP⟩
        have hwt : Wait ⟨A, n, c, f, B, m, k, g⟩ w14 (.func (.func 74) #[] #[.pointer (some ⟨q1, 0, none⟩), .pointer (some ⟨q2, 0, none⟩)]) (Ra t) := .inr (.inl ⟨q1, q2, _, _, _, _, _, _, _, _, rfl, r1, r2, (HN13.out.base (Nat.zero_le _)).keep hbP, (HT13.out.base (Nat.zero_le _)).keep hbP, by rw [List.length_cons, List.length_append]; omega, Nat.le_trans (HTP.out.2 _ _) (by omega), HAE.out⟩)
        have hl5 := HL13.out.step hbP
        obtain ⟨old2, hold2⟩ : ∃ v, ca[t]? = some v := ⟨_, Array.getElem?_eq_getElem (by rw [hl5.szA]; exact htK)⟩
        have z0 := hl5.rowA.cellQ t _ hold2
        have z1 := hl5.rowA.frozen t
        have hl6 := hl5.setA HNE.out.1 (by omega) htK hwt
        have hb6 := (bt HB13.out hbP).setCell (p := ⟨ta, t, none⟩) HNE.out.2.2 (.func (.func 74) #[] #[.pointer (some ⟨q1, 0, none⟩), .pointer (some ⟨q2, 0, none⟩)])
        have HL15 := Lib.hid hl6
        have HB15 := Lib.hid hb6
        clear hl5 hl6 hb6 hold2 hwt hbP r1 r2
        go_upto_region 23 with fail
        obtain ⟨w15, hw15⟩ : ∃ w, w14.setCell ⟨ta, t, none⟩ (.func (.func 74) #[] #[.pointer (some ⟨q1, 0, none⟩), .pointer (some ⟨q2, 0, none⟩)]) = w := ⟨_, rfl⟩
        rw [hw15] at HL15 HB15 ⊢
        clear z0 z1 hw15
        go_wp2_with fail
        (with_reducible refine (xnode_any o2 d w15 ho2 hd32 (HT.out.below (bt HB9.out HB15.out))).mono ?_)
        rintro e w17 ⟨rfl, hb17⟩
        have HL17 := Lib.hid (HL15.out.step hb17)
        have HB17 := Lib.hid (bt HB15.out hb17)
        clear hb17
        go_wp2
        go_roundw
        case rel => exact ⟨j + 1, _, _, o1, tnd o2 d, rfl, rfl, by go_num, by omega, ho1, tnd_len _ _, Lib.hid ⟨by rw [show np - (j + 1) = t by omega]; exact HON3.out.symm, by rw [show np - (j + 1) = t by omega]; exact HL17.out, HB17.out⟩⟩
        case measure => simp [intOf]; omega
    · obtain rfl : np = j := by omega
      have hl := H.out.2.1
      rw [Nat.sub_self] at hl
      have hown := own_of_row (B := w9.heap.size) hl.rowB hl.szB (by rw [maxLen_eq]; omega) HNE.out.2.1
      have hrd := rd_of_row hl.rowA
      have hone : ∀ u ∈ ca.toList, u.oneCell' = true := fun u hu => by
        obtain ⟨i, hi⟩ := List.getElem?_of_mem hu
        rw [Array.getElem?_toList] at hi
        have hlt : i < np := by rw [← hl.szA]; exact (Array.getElem?_eq_some_iff.1 hi).1
        obtain ⟨v, e, hv⟩ := hl.wa i (Nat.zero_le _) hlt
        rw [e] at hi
        injection hi with hi
        rw [← hi]; exact hv.one
      have HLF := Lib.hid hl
      have HOW := Lib.hid hown
      have HBE := Lib.hid H.out.2.2
      clear hl hown
      go_upto_region 27 with (at_builtin; refine wl_app rfl (.tmp 150) (.tmp 151) 61 rfl w9.heap.size 63 1 8 tryT _ np cb.toList rfl HOW.out wr.heap.size (some ⟨ta, 0, none⟩) np np ca.toList rfl hrd (by rw [Array.length_toList, HLF.out.szA, Nat.mul_one]) hone (by rw [maxLen_eq]; omega) (by omega) HBE.out.size ?_; intro A6 c6 w6 g1 g2 g3 g4 g5 g6; have HTA := Lib.hid (TA.two HBE.out.size HLF.out HOW.out g1 g2 g5 g6); have HB6x := Lib.hid (HBE.out.trans g4); clear g1 g2 g3 g4 g5 g6 hrd hone)
      go_loopw [21, 155] (fun vt vi wr => ∃ (t : Nat) (A7 : Option Addr) (n7 c7 : Nat) (rs : List (Option (List UInt8 × List UInt8))), vt = .slice A7 n7 c7 ∧ vi = .int .i64 (t : Int) ∧ t ≤ np ∧ n7 ≤ np + np + t ∧ Hid (TA ⟨A, n, c, f, B, m, k, g⟩ wr w9.heap.size A7 n7 c7 rs ∧ Below w9.heap.size w9 wr ∧ KeepT wm wr ∧ rs ++ Cl.prtL (raws f n) (raws g m) (S.drop t) 0 = (List.range S.length).map Rb ++ ((List.range S.length).map Ra ++ ps))) (fun _ vi _ => np - (intOf vi).toNat)
      case atStart => exact ⟨0, A6, np + np, c6, _, rfl, rfl, by omega, by omega, Lib.hid ⟨HTA.out.1, HB6x.out, HTA.out.2, by rw [HKS.out, HPL.out.parts, List.append_assoc]; rfl⟩⟩
      case round =>
        obtain ⟨t, A7, n7, c7, rs, rfl, rfl, ht, hn7, G⟩ := hrel
        have hcap7 := G.out.1.cap
        have hmax7 := G.out.1.max
        rw [maxLen_eq] at hmax7
        by_cases hlt2 : t < np
        · obtain ⟨s, hs⟩ : ∃ s, S[t]? = some s := ⟨_, List.getElem?_eq_getElem (by rw [HKS.out]; exact hlt2)⟩
          have HOK := Lib.hid (HPL.out.ok s (List.mem_of_getElem? hs))
          obtain ⟨gs, hgs, _, _, hcs⟩ := (HSM.out.keepT G.out.2.2.1).at (by omega)
          have s0 := hcs t s hs 0 _ rfl
          rw [Nat.add_zero] at s0
          have s1 := hcs t s hs 1 _ rfl
          have s2 := hcs t s hs 2 _ rfl
          have s3 := hcs t s hs 3 _ rfl
          have s4 := hcs t s hs 4 _ rfl
          have HDR := Lib.hid (drop_at hs)
          have hk1 := HOK.out.kn
          have hk2 := HOK.out.b
          have hk3 := HOK.out.k0
          clear hcs hs
          subst hgs
          cases hrt : s.rt with
          | true =>
            rw [hrt] at s4
            have hk4 := HOK.out.km hrt
            have hk5 := HOK.out.a
            have hk6 : s.fr + s.k ≤ n := by omega
            have HPQ := Lib.hid (show Cl.prtL (raws f n) (raws g m) (S.drop t) 0 = Cl.two (Cl.cutL (raws f n) s.fr (s.fr + s.k)) (Cl.cutL (raws g m) s.fr (s.fr + s.k)) :: Cl.prtL (raws f n) (raws g m) (S.drop (t + 1)) 0 by rw [HDR.out, Cl.prtL, hrt]; rfl)
            have CP := Lib.hid (show ∀ W, Calls Tryd.prog 66 #[.slice A n c, .slice B m k, .int .i64 (s.fr : Int), .int .i64 ((s.fr : Int) + (s.k : Int))] W fun e w' => ∃ v, e = .returned v ∧ Wait ⟨A, n, c, f, B, m, k, g⟩ w' v (Cl.two (Cl.cutL (raws f n) s.fr (s.fr + s.k)) (Cl.cutL (raws g m) s.fr (s.fr + s.k))) ∧ Below W.heap.size W w' from fun W =>
              part_any' ⟨A, n, c, f, B, m, k, g⟩ s.fr (s.fr + s.k) W ⟨by omega, hk6, by show s.fr + s.k ≤ m; omega⟩)
            go_upto_region 29 with fail
            have hbx : Below wr.heap.size wr (wr.alloc (.cells #[.int .i64 (s.fr : Int), .int .i64 (s.m : Int), .int .i64 (s.n : Int), .int .i64 (s.k : Int), .bool true] 80)) := (Below.refl _ wr).alloc (Nat.le_refl _) _
            have hrx := row_new wr #[.int .i64 (s.fr : Int), .int .i64 (s.m : Int), .int .i64 (s.n : Int), .int .i64 (s.k : Int), .bool true] 80
            obtain ⟨wy, hwy⟩ : ∃ wy, wr.alloc (.cells #[.int .i64 (s.fr : Int), .int .i64 (s.m : Int), .int .i64 (s.n : Int), .int .i64 (s.k : Int), .bool true] 80) = wy := ⟨_, rfl⟩
            rw [hwy] at hbx hrx ⊢
            have HG1 := Lib.hid (G.out.1.keep hbx)
            have HG2 := Lib.hid (bt G.out.2.1 hbx)
            have HG3 := Lib.hid (G.out.2.2.1.trans (KeepT.of hbx))
            have y0 := hrx.cellQ 0 _ rfl
            have y3 := hrx.cellQ 3 _ rfl
            have y4 := hrx.cellQ 4 _ rfl
            clear hbx hrx hwy s0 s1 s2 s3 s4 hrt hk5
            go_wp2_with fail
            (with_reducible refine (CP.out wy).mono ?_)
            rintro e w7x ⟨v, rfl, hwt, hbP⟩
            obtain ⟨fid, caps, rfl⟩ := hwt.form
            have hta := HG1.out.keep hbP
            obtain ⟨vs, ho, hvl, hvw⟩ := hta.ex
            have HO := Lib.hid (And.intro ho (And.intro hvl (And.intro hvw (And.intro hta.len hwt))))
            have HG4 := Lib.hid (bt HG2.out hbP)
            have HG5 := Lib.hid (HG3.out.trans (KeepT.of hbP))
            clear hta ho hvl hvw hwt hbP y0 y3 y4
            go_wp2_with (at_builtin; refine wl_app1g tryT (by omega) rfl (.tmp 161) (.tmp 172) rfl rfl HO.out.1 rfl (.func (.func fid) #[] caps) rfl (by omega) HG4.out.size ?_; intro A8 c8 w8x g1 g2 g4 g5 g6; have HQ8 := Lib.hid (TA.app HG4.out.size HO.out.1 HO.out.2.1 HO.out.2.2.1 HO.out.2.2.2.1 HO.out.2.2.2.2 g1 g2 g5 g6); have HQ9 := Lib.hid (HG4.out.trans g4); clear g1 g2 g4 g5 g6)
            go_roundw
            case rel => exact ⟨t + 1, A8, n7 + 1, c8, _, rfl, by go_num, by omega, by omega, Lib.hid ⟨HQ8.out.1, HQ9.out, HG5.out.trans HQ8.out.2, by rw [← G.out.2.2.2, HPQ.out, List.append_assoc]; rfl⟩⟩
            case measure => simp [intOf]; omega
          | false =>
            rw [hrt] at s4
            have HPQ := Lib.hid (show Cl.prtL (raws f n) (raws g m) (S.drop t) 0 = Cl.prtL (raws f n) (raws g m) (S.drop (t + 1)) 0 by rw [HDR.out, Cl.prtL, hrt]; rfl)
            go_upto_region 29 with fail
            have hbx : Below wr.heap.size wr (wr.alloc (.cells #[.int .i64 (s.fr : Int), .int .i64 (s.m : Int), .int .i64 (s.n : Int), .int .i64 (s.k : Int), .bool false] 80)) := (Below.refl _ wr).alloc (Nat.le_refl _) _
            have hrx := row_new wr #[.int .i64 (s.fr : Int), .int .i64 (s.m : Int), .int .i64 (s.n : Int), .int .i64 (s.k : Int), .bool false] 80
            obtain ⟨wy, hwy⟩ : ∃ wy, wr.alloc (.cells #[.int .i64 (s.fr : Int), .int .i64 (s.m : Int), .int .i64 (s.n : Int), .int .i64 (s.k : Int), .bool false] 80) = wy := ⟨_, rfl⟩
            rw [hwy] at hbx hrx ⊢
            have HG1 := Lib.hid (G.out.1.keep hbx)
            have HG2 := Lib.hid (bt G.out.2.1 hbx)
            have HG3 := Lib.hid (G.out.2.2.1.trans (KeepT.of hbx))
            have y4 := hrx.cellQ 4 _ rfl
            clear hbx hrx hwy s0 s1 s2 s3 s4 hrt
            go_wp2
            go_roundw
            case rel => exact ⟨t + 1, A7, n7, c7, rs, rfl, by go_num, by omega, by omega, Lib.hid ⟨HG1.out, HG2.out, HG3.out, by rw [← G.out.2.2.2, HPQ.out]⟩⟩
            case measure => simp [intOf]; omega
        · obtain rfl : np = t := by omega
          have HFIN := Lib.hid (show rs ++ [Cl.two (Cl.cutL (raws f n) 0 n) (Cl.cutL (raws g m) 0 n)] = (List.range S.length).map Rb ++ ((List.range S.length).map Ra ++ ps) by
            have h := G.out.2.2.2
            rw [List.drop_of_length_le (by rw [HKS.out]; exact Nat.le_refl _), Cl.prtL, raws_len] at h
            exact h)
          have CPF := Lib.hid (show ∀ W, Calls Tryd.prog 66 #[.slice A n c, .slice B m k, .int .i64 0, .int .i64 (n : Int)] W fun e w' => ∃ v, e = .returned v ∧ Wait ⟨A, n, c, f, B, m, k, g⟩ w' v (Cl.two (Cl.cutL (raws f n) 0 n) (Cl.cutL (raws g m) 0 n)) ∧ Below W.heap.size W w' from fun W =>
            part_any' ⟨A, n, c, f, B, m, k, g⟩ 0 n W ⟨by have := HPL.out.fe1; omega, Nat.le_refl _, hnm⟩)
          go_wp2_with fail
          (with_reducible refine (CPF.out wr).mono ?_)
          rintro e w7x ⟨v, rfl, hwt, hbP⟩
          obtain ⟨fid, caps, rfl⟩ := hwt.form
          have hta := G.out.1.keep hbP
          obtain ⟨vs, ho, hvl, hvw⟩ := hta.ex
          have HO := Lib.hid (And.intro ho (And.intro hvl (And.intro hvw (And.intro hta.len hwt))))
          have HG4 := Lib.hid (bt G.out.2.1 hbP)
          clear hta ho hvl hvw hwt hbP
          go_wp2_with (at_builtin; refine wl_app1g tryT (by omega) rfl (.tmp 175) (.tmp 182) rfl rfl HO.out.1 rfl (.func (.func fid) #[] caps) rfl (by omega) HG4.out.size ?_; intro A8 c8 w8x g1 g2 g4 g5 g6; have HQ8 := Lib.hid (TA.app HG4.out.size HO.out.1 HO.out.2.1 HO.out.2.2.1 HO.out.2.2.2.1 HO.out.2.2.2.2 g1 g2 g5 g6); have HQ9 := Lib.hid (HG4.out.trans g4); clear g1 g2 g4 g5 g6)
          obtain ⟨vs2, ho2, hvl2, hvw2⟩ := HQ8.out.1.ex
          have hbig := bt HB9.out HQ9.out
          have hfirst := first_any A8 (n7 + 1) c8 vs2 _ w8x (Rd.of_own ho2) hvl2 HQ8.out.1.len HQ8.out.1.cap HQ8.out.1.max (fun i v r hv hr => (hvw2 i v r hv hr).try (HT.out.below hbig) (show n ≤ 300 by omega) (HRXY.out.1.keep hbig) HCAB.out.1 (HRXY.out.2.keep hbig) HCAB.out.2 HSML.out.1 HSML.out.2)
          rw [HFIN.out] at hfirst
          (with_reducible refine hfirst.mono ?_)
          rintro e w9x ⟨A9, n9, c9, B9, m9, k9, rfl, hf1, hf2, hb9x⟩
          have hlt9 : w.heap.size < w8x.heap.size := Nat.lt_of_lt_of_le HR9.out.lt HQ9.out.size
          have hres := (HR9.out.below HQ9.out HR9.out.lt).keep hb9x
          have HBZ := Lib.hid (bt hbig hb9x)
          have HF := Lib.hid (And.intro hf1 (And.intro hf2 hlt9))
          have x0 := hres.cellQ 0 _ rfl
          have x1 := hres.cellQ 1 _ rfl
          have f0 := hres.frozen 0
          have f1 := hres.frozen 1
          have HROW := Lib.hid (show ∀ u v, Row (setFrom w.heap.size w9x 0 [u, v]) w.heap.size #[u, v] 29 from fun u v => hres.all [u, v] rfl)
          obtain ⟨rz, hrz⟩ : ∃ r, firstOf ((List.range S.length).map Rb ++ ((List.range S.length).map Ra ++ ps)) = r := ⟨_, rfl⟩
          rw [hrz] at HF ⊢
          have HRZ := Lib.hid hrz
          clear hres hf1 hf2 hb9x hbig hfirst ho2 hvl2 hvw2 hlt9 hrz
          go_wp2
          generalize hwd : World.setCell (World.setCell w9x _ _) _ _ = wd
          have hsf : setFrom w.heap.size w9x 0 [.slice A9 n9 c9, .slice B9 m9 k9] = wd := by rw [← hwd]; rfl
          have r0 : wd.cell? ⟨w.heap.size, 0, none⟩ = some (.slice A9 n9 c9) := by rw [← hsf]; exact (HROW.out _ _).cellQ 0 _ rfl
          have r1 : wd.cell? ⟨w.heap.size, 1, none⟩ = some (.slice B9 m9 k9) := by rw [← hsf]; exact (HROW.out _ _).cellQ 1 _ rfl
          refine bodyPost_ret (v := .tuple #[.agg #[.slice A9 n9 c9, .slice B9 m9 k9], .bool rz.isSome]) (by simp [results, Tryd.results29, go_sem, r0, r1]) rfl ?_
          rw [HRZ.out]
          exact ⟨A9, n9, c9, B9, m9, k9, rfl, by rw [← hsf]; exact (HF.out.1.set HF.out.2.2 _ 0).base (Nat.le_of_lt HF.out.2.2), by rw [← hsf]; exact (HF.out.2.1.set HF.out.2.2 _ 0).base (Nat.le_of_lt HF.out.2.2), by rw [← hsf]; exact below_setFrom (Nat.le_refl _) _ 0 HBZ.out⟩
set_option maxHeartbeats 64000000 in
theorem cCons_some (A : Option Addr) (n c : Nat) (f : Nat → Piece) (B : Option Addr) (m k : Nat) (g : Nat → Piece) (Ap : Option Addr) (np cp : Nat) (p : List (List UInt8)) (w : World) (h1 : 1 ≤ n) (hnm : n ≤ m) (hn2 : m ≤ 300) (hra : RowsAt w A n f) (hca : n ≤ c ∧ c ≤ maxLen) (hrb : RowsAt w B m g) (hcb : m ≤ k ∧ k ≤ maxLen)
    (hsf : ∀ i, i < n → (f i).n ≤ 1000) (hsg : ∀ i, i < m → (g i).n ≤ 1000) (hp : Ss w Ap np cp p) (hnp : np ≤ 900) (ht : Tabs w) (ha32 : Tree.all32 p = true) (htc : tcheck n m (troot (tleaves f n)) (troot (tleaves g m)) p = true)
    {S : List Cl.St} {fe : Nat} {one0 : List UInt8} {p' : List (List UInt8)} {Rb Ra : Nat → Option (List UInt8 × List UInt8)} {ps : List (Option (List UInt8 × List UInt8))} (PL : Plan f n g m p S fe one0 p' Rb Ra ps) (hfe : fe ≠ 0) :
    Calls Tryd.prog 29 #[.slice A n c, .slice B m k, .slice Ap np cp] w (ResPost w.heap.size (consR f n g m p) w) := by
  rw [PL.res]
  obtain ⟨K, hK⟩ : ∃ K, S.length = K := ⟨_, rfl⟩
  have hK300 : K ≤ 300 := by
    rcases PL.small with h | h
    · omega
    · rw [h] at hK; have : K = 0 := hK.symm; omega
  have hb0 : Below w.heap.size w (w.alloc (.cells #[.slice none 0 0, .slice none 0 0] 29)) := (Below.refl _ w).alloc (Nat.le_refl _) _
  have hlt0 : w.heap.size < (w.alloc (.cells #[.slice none 0 0, .slice none 0 0] 29)).heap.size := by rw [alloc_size]; omega
  have HROW0 := Lib.hid (row_new w #[.slice none 0 0, .slice none 0 0] 29)
  obtain ⟨w1, hw1⟩ : ∃ w1, (w.alloc (.cells #[.slice none 0 0, .slice none 0 0] 29)) = w1 := ⟨_, rfl⟩
  rw [hw1] at HROW0 hb0 hlt0
  have HW1 := Lib.hid hw1
  have HB0 := Lib.hid hb0
  have HLT := Lib.hid hlt0
  obtain ⟨X, hX⟩ : ∃ X, tleaves f n = X := ⟨_, rfl⟩
  obtain ⟨Y, hY⟩ : ∃ X, tleaves g m = X := ⟨_, rfl⟩
  have hX32 : ∀ s ∈ X, s.length = 32 := by rw [← hX, raws_lv]; exact Cl.lv_all _
  have hY32 : ∀ s ∈ Y, s.length = 32 := by rw [← hY, raws_lv]; exact Cl.lv_all _
  have hXl : X.length = n := by rw [← hX]; simp [tleaves]
  have hYl : Y.length = m := by rw [← hY]; simp [tleaves]
  have CX := Lib.hid (show ∀ W, Below w.heap.size w W → Calls Tryd.prog 33 #[.slice A n c] W (OwnSPost W.heap.size X W) from fun W hW => by rw [← hX]; exact leaves_any A n c f W (hra.keep hW) hca.1 hca.2 (by omega) (fun i hi => by have := hsf i hi; omega) (ht.below hW))
  have CY := Lib.hid (show ∀ W, Below w.heap.size w W → Calls Tryd.prog 33 #[.slice B m k] W (OwnSPost W.heap.size Y W) from fun W hW => by rw [← hY]; exact leaves_any B m k g W (hrb.keep hW) hcb.1 hcb.2 (by omega) (fun i hi => by have := hsg i hi; omega) (ht.below hW))
  unfold OwnSPost at CX CY
  rw [hX, hY] at htc
  have hdone := PL.hd
  rw [hX] at hdone
  obtain ⟨RX, hRX⟩ : ∃ R, troot X = R := ⟨_, rfl⟩
  obtain ⟨RY, hRY⟩ : ∃ R, troot Y = R := ⟨_, rfl⟩
  rw [hRX, hRY] at htc
  rw [hRX] at hdone
  have CRX := Lib.hid (show ∀ (L : Nat) (A' : Option Addr) (n' c' : Nat) (W : World), Below w.heap.size w W → OwnS W L A' n' c' X → Calls Tryd.prog 63 #[.slice A' n' c'] W (StrPost RX W) from fun L A' n' c' W hW h => by
    rw [← hRX]; exact xroot_any A' n' c' X W h.ss hX32 (by have := h.len; omega) (ht.below hW))
  have CRY := Lib.hid (show ∀ (L : Nat) (A' : Option Addr) (n' c' : Nat) (W : World), Below w.heap.size w W → OwnS W L A' n' c' Y → Calls Tryd.prog 63 #[.slice A' n' c'] W (StrPost RY W) from fun L A' n' c' W hW h => by
    rw [← hRY]; exact xroot_any A' n' c' Y W h.ss hY32 (by have := h.len; omega) (ht.below hW))
  unfold StrPost at CRX CRY
  have hRXl : RX.length = 32 := by rw [← hRX]; exact troot_len hX32
  have hRYl : RY.length = 32 := by rw [← hRY]; exact troot_len hY32
  have CK2 := Lib.hid (show ∀ W, Below w.heap.size w W → Calls Tryd.prog 31 #[.int .i64 (n : Int), .int .i64 (m : Int), sv RX, sv RY, .slice Ap np cp] W (RetI 0 W) from fun W hW =>
    ccheck_all n m RX RY Ap np cp p W (hp.keep hW) (all32_of ha32) hnm (by omega) hnp hRXl hRYl (ht.below hW) true htc 0 rfl)
  unfold RetI at CK2
  have CD := Lib.hid (show ∀ W, Calls Tryd.prog 64 #[.int .i64 (n : Int), .int .i64 (m : Int)] W (StepsPost W (S, fe)) from fun W => by
    rw [← PL.dsc]; exact descend8_any n m W h1 hnm (by omega))
  unfold StepsPost at CD
  have CTX := Lib.hid (show ∀ (A' : Option Addr) (n' c' i j : Nat) (W : World), Below w.heap.size w W → Ss W A' n' c' ((X.take j).drop i) → 2 ≤ n' → n' ≤ 1000 → Calls Tryd.prog 35 #[.slice A' n' c'] W (Ret8 W.heap.size (Cl.topB ((X.take j).drop i)) W) from fun A' n' c' i j W hW h h2 h3 =>
    ctop_any A' n' c' _ W h (all_drop (all_take hX32 j) i) h2 h3 (ht.below hW))
  have CTY := Lib.hid (show ∀ (A' : Option Addr) (n' c' i j : Nat) (W : World), Below w.heap.size w W → Ss W A' n' c' ((Y.take j).drop i) → 2 ≤ n' → n' ≤ 1000 → Calls Tryd.prog 35 #[.slice A' n' c'] W (Ret8 W.heap.size (Cl.topB ((Y.take j).drop i)) W) from fun A' n' c' i j W hW h h2 h3 =>
    ctop_any A' n' c' _ W h (all_drop (all_take hY32 j) i) h2 h3 (ht.below hW))
  unfold Ret8 at CTX CTY
  have HTP := Lib.hid (show (∀ i j, (Cl.topB ((X.take j).drop i)).length ≤ 1000) ∧ ∀ i j, (Cl.topB ((Y.take j).drop i)).length ≤ 1000 from ⟨fun i j => topB_le (all_drop (all_take hX32 j) i), fun i j => topB_le (all_drop (all_take hY32 j) i)⟩)
  have HXL := Lib.hid (And.intro hXl hYl)
  have HXY := Lib.hid (And.intro hX hY)
  have HPL := Lib.hid PL
  have HKS := Lib.hid hK
  have HRXY := Lib.hid (And.intro hra hrb)
  have HCAB := Lib.hid (And.intro hca hcb)
  have HSML := Lib.hid (And.intro hsf hsg)
  have HT := Lib.hid ht
  have H32 := Lib.hid (all32_of ha32)
  have HPS := Lib.hid hp
  have g1 : ((n : Int) == 0) = false := beq_eq_false_iff_ne.2 (by omega)
  have hpc := hp.cap
  have hpm := hp.max
  have hplen := hp.len
  obtain ⟨hc1, hm1⟩ := hca
  obtain ⟨hc2, hm2⟩ := hcb
  rw [maxLen_eq] at hm1 hm2 hpm
  obtain ⟨h3, h4⟩ : fe ≠ 0 ∧ p = one0 :: p' := by
    rcases hdone with h | h
    · exact absurd h.1 hfe
    · exact h
  have hq : np = K + 1 := by rw [← hplen, h4, List.length_cons, PL.len, hK]
  subst hq
  obtain ⟨gp, op, rfl, hgp, hcp, _⟩ := hp.at (k := 0) (by omega)
  have HP0 := Lib.hid (show ∀ W, Below w.heap.size w W → W.cell? ⟨gp, op, none⟩ = some (sv one0) from fun W hW => (hW.cell (p := ⟨gp, op, none⟩) hgp).trans (hcp 0 one0 (by rw [h4]; rfl)))
  have HPD := Lib.hid (show p.drop 1 = p' by rw [h4]; rfl)
  have hfz : (0 : Int) < (fe : Int) := by omega
  clear PL hdone hfe hK hra hrb hsf hsg ht ha32 htc hX hY hX32 hY32 hXl hYl hRX hRY hRXl hRYl hw1 hb0 hlt0 hp h3 h4 hplen hcp hgp
  go_enter Tryd.func29, Tryd.ntmps29
  go_wp2_with fail
  rw [HW1.out]
  refine (CX.out w1 HB0.out).mono ?_
  rintro e w3 ⟨AX, nX, cX, rfl, ho3, hb3⟩
  have HB3 := Lib.hid (bt HB0.out hb3)
  have HR3 := Lib.hid (HROW0.out.keep hb3)
  have HX3 := Lib.hid ho3
  clear hb3 ho3
  go_wp2_with fail
  refine (CY.out w3 HB3.out).mono ?_
  rintro e w4 ⟨AY, nY, cY, rfl, ho4, hb4⟩
  have HB4 := Lib.hid (bt HB3.out hb4)
  have HR4 := Lib.hid (HR3.out.keep hb4)
  have HX4 := Lib.hid (HX3.out.keep hb4)
  have HY4 := Lib.hid ho4
  clear hb4 ho4
  go_wp2_with fail
  refine (CRX.out _ AX nX cX w4 HB4.out HX4.out).mono ?_
  rintro e w5 ⟨rfl, hb5⟩
  have HB5 := Lib.hid (bt HB4.out hb5)
  have HR5 := Lib.hid (HR4.out.keep hb5)
  have HX5 := Lib.hid (HX4.out.keep hb5)
  have HY5 := Lib.hid (HY4.out.keep hb5)
  clear hb5
  go_wp2_with fail
  refine (CRY.out _ AY nY cY w5 HB5.out HY5.out).mono ?_
  rintro e w6 ⟨rfl, hb6⟩
  have HB6 := Lib.hid (bt HB5.out hb6)
  have HR6 := Lib.hid (HR5.out.keep hb6)
  have HX6 := Lib.hid (HX5.out.keep hb6)
  have HY6 := Lib.hid (HY5.out.keep hb6)
  clear hb6
  go_wp2_with fail
  refine (CK2.out w6 HB6.out).mono ?_
  rintro e w7 ⟨rfl, hb7⟩
  have HB7 := Lib.hid (bt HB6.out hb7)
  have HR7 := Lib.hid (HR6.out.keep hb7)
  have HX7 := Lib.hid (HX6.out.keep hb7)
  have HY7 := Lib.hid (HY6.out.keep hb7)
  clear hb7
  go_wp2_with fail
  refine (CD.out w7).mono ?_
  rintro e w8 ⟨AS, nS, cS, rfl, ho8, hb8⟩
  obtain rfl : K = nS := by rw [← ho8.len]; exact HKS.out.symm
  have hcS := ho8.cap
  have hmS := ho8.max
  rw [maxLen_eq] at hmS
  obtain rfl : n = nX := by rw [← HX7.out.len]; exact HXL.out.1.symm
  obtain rfl : m = nY := by rw [← HY7.out.len]; exact HXL.out.2.symm
  have HB8 := Lib.hid (bt HB7.out hb8)
  have HR8 := Lib.hid (HR7.out.keep hb8)
  have HX8 := Lib.hid (HX7.out.keep hb8)
  have HY8 := Lib.hid (HY7.out.keep hb8)
  have HS8 := Lib.hid ho8
  clear hb8 ho8
  go_wp2_with fail
  refine (CRX.out _ AX n cX w8 HB8.out HX8.out).mono ?_
  rintro e w9 ⟨rfl, hb9⟩
  have HB9 := Lib.hid (bt HB8.out hb9)
  have HR9 := Lib.hid (HR8.out.keep hb9)
  have HX9 := Lib.hid (HX8.out.keep hb9)
  have HY9 := Lib.hid (HY8.out.keep hb9)
  have HS9 := Lib.hid (HS8.out.keep hb9)
  clear hb9
  go_upto_region 7 with fail
  refine Free.wp_free_l 7 (fun W => Below w9.heap.size w9 W) [Free.kc (.slice (some ⟨gp, op, none⟩) (K + 1) cp), Free.kc (.pointer (some ⟨gp, op, none⟩)), Free.kc (sv one0), Free.kc (.slice (some ⟨gp, op, none⟩) (K + 1) cp), Free.kr (K + 1 - 1) (p'.map sv), Free.kc (sv one0), Free.kr (K + 1 - 1) (p'.map sv)] (by kernel_rfl) (by kernel_rfl) (by decide) (Below.refl _ _).drew (fun w w' h g => bt h g) ?_ ?_
  · refine Free.forall_succ (Free.forall_succ (Free.forall_succ (Free.forall_succ (Free.forall_succ (Free.forall_succ (Free.forall_succ (Free.forall_zero) ?_) ?_) ?_) ?_) ?_) ?_) ?_
    · exact Free.ob_plain _ rfl rfl fun vals wq hC hd => (by exact Free.d_move rfl (by kernel_rfl) rfl)
    · exact Free.ob_plain _ rfl rfl fun vals wq hC hd => (by exact Free.d_indexAddr rfl (Eq.trans (b := vals 0) (by kernel_rfl) (hd 0 (by kernel_rfl))) (show _ = (Value.int .i64 0) from rfl) (run_idx 24 Tryd.underlying24 (by kernel_rfl) gp op (K + 1) cp 0 _ (by omega) (by omega)) rfl)
    · exact Free.ob_plain _ rfl rfl fun vals wq hC hd => (by exact Free.d_load rfl (Eq.trans (b := vals 1) (by kernel_rfl) (hd 1 (by kernel_rfl))) (by have hcc := HP0.out wq (bt HB9.out hC); go_simp) rfl)
    · exact Free.ob_plain _ rfl rfl fun vals wq hC hd => (by exact Free.d_move rfl (by kernel_rfl) rfl)
    · exact Free.ob_plain _ rfl rfl fun vals wq hC hd => (by exact (by obtain ⟨A', hrun, hss⟩ := run_cutS_lo (HPS.out.keep (bt HB9.out hC)) 1 (by omega); exact Free.d_slice rfl (Eq.trans (b := vals 3) (by kernel_rfl) (hd 3 (by kernel_rfl))) (show _ = some (Value.int .i64 ((1 : Nat) : Int)) from rfl) rfl rfl hrun ⟨A', cp - 1, rfl, (by have := hss.rd; rw [HPD.out] at this; exact this), (by have := hss.cap; omega), hss.max⟩))
    · exact Free.ob_plain _ rfl rfl fun vals wq hC hd => (by exact Free.d_assign rfl (Eq.trans (b := vals 2) (by kernel_rfl) (hd 2 (by kernel_rfl))) rfl)
    · exact Free.ob_plain _ rfl rfl fun vals wq hC hd => (by obtain ⟨A4, k4, e4, rd4, le4, mx4⟩ := hd 4 (by kernel_rfl); exact Free.d_assign rfl (Eq.trans (b := vals 4) (by kernel_rfl) e4) ⟨A4, k4, rfl, rd4, le4, mx4⟩)
  · intro vals wq hC hd
    have e0 : vals 0 = (.slice (some ⟨gp, op, none⟩) (K + 1) cp) := hd 0 (by decide)
    have e1 : vals 1 = (.pointer (some ⟨gp, op, none⟩)) := hd 1 (by decide)
    have e2 : vals 2 = (sv one0) := hd 2 (by decide)
    have e3 : vals 3 = (.slice (some ⟨gp, op, none⟩) (K + 1) cp) := hd 3 (by decide)
    obtain ⟨A4, k4, e4, rd4, le4, mx4⟩ := hd 4 (by decide)
    have e5 : vals 5 = (sv one0) := hd 5 (by decide)
    obtain ⟨A6, k6, e6, rd6, le6, mx6⟩ := hd 6 (by decide)
    simp only [Free.frameOf, List.range, List.range.loop, List.foldl, Free.dstOf, List.getElem?_toArray, List.getElem?_cons_zero, List.getElem?_cons_succ, Option.bind_some, Act.put, List.setIfInBounds_toArray, List.set_cons_zero, List.set_cons_succ, e0, e1, e2, e3, e4, e5, e6]
    refine wpList_nil ?_
    clear hd e0 e1 e2 e3 e4 e5 e6
    have HBQ := Lib.hid (bt HB9.out hC)
    have HQ := Lib.hid (show ∀ W, Below wq.heap.size wq W → Ss W A6 K k6 p' from fun W hW => Ss.keep ⟨by simpa using rd6, by rw [HPL.out.len]; exact HKS.out, by omega, mx6⟩ hW)
    rw [show K + 1 - 1 = K by omega] at le4 le6 ⊢
    rw [maxLen_eq] at mx6
    have HRq := Lib.hid (HR9.out.keep hC)
    have HXq := Lib.hid (HX9.out.keep hC)
    have HYq := Lib.hid (HY9.out.keep hC)
    have HSq := Lib.hid (HS9.out.keep hC)
    clear hC rd4 le4 mx4 rd6
    go_upto_region 10 with (at_make; refine wl_makeT rfl _ _ rfl K (by go_num) (by go_num) (by omega) ?_; intro cb0 wB hcb0 hrB0 hbB0; have HRB0 := Lib.hid hrB0; have HCB0 := Lib.hid hcb0; have HBB0 := Lib.hid hbB0; clear hrB0 hbB0 hcb0)
    go_upto_region 12 with (at_make; refine wl_makeT rfl _ _ rfl K (by go_num) (by go_num) (by omega) ?_; intro ca0 wm hca0 hrA0 hbA0; have HRA0 := Lib.hid hrA0; have HCA0 := Lib.hid hca0; have HBA0 := Lib.hid hbA0; clear hrA0 hbA0 hca0)
    have hbm0 := bt HBB0.out HBA0.out
    have HB0M := Lib.hid hbm0
    have HBM := Lib.hid (bt HBQ.out hbm0)
    have HRM := Lib.hid (HRq.out.keep hbm0)
    have HXM := Lib.hid (HXq.out.keep hbm0)
    have HYM := Lib.hid (HYq.out.keep hbm0)
    have HSM := Lib.hid (HSq.out.keep hbm0)
    have hqm := HQ.out wm hbm0
    have hcq := hqm.cap
    have hmq := hqm.max
    rw [maxLen_eq] at hmq
    have HQM := Lib.hid hqm
    obtain ⟨tb, htb⟩ : ∃ t, wq.heap.size = t := ⟨_, rfl⟩
    obtain ⟨ta, hta⟩ : ∃ t, wB.heap.size = t := ⟨_, rfl⟩
    have htr := HRB0.out
    have htr2 := HRA0.out
    rw [htb] at htr ⊢
    rw [hta] at htr2 ⊢
    have htlt := htr.lt
    rw [hta] at htlt
    have HNE := Lib.hid (show tb ≠ ta ∧ wq.heap.size ≤ tb ∧ wq.heap.size ≤ ta by omega)
    have HTBW := Lib.hid (show w.heap.size < tb by rw [← htb]; exact HRq.out.lt)
    have HLC0 := Lib.hid (show LC ⟨A, n, c, f, B, m, k, g⟩ wm wm tb ta K K K cb0 ca0 Rb Ra from ⟨htr.keep (by have := HBA0.out; exact this), htr2, HCB0.out, HCA0.out, KeepT.refl _, fun t h1 h2 => by omega, fun t h1 h2 => by omega⟩)
    clear hbm0 hqm htb hta htr htr2 htlt
    go_loopw [12, 13, 78] (fun v1 v2 vi wr => ∃ (j : Nat) (cb ca : Array Value) (o1 o2 : List UInt8), v1 = sv o1 ∧ v2 = sv o2 ∧ vi = .int .i64 (j : Int) ∧ j ≤ K ∧ o1.length = 32 ∧ o2.length = 32 ∧ Hid ((o1, o2) = Cl.ons one0 (S.drop (K - j)) (p'.take j) ∧ LC ⟨A, n, c, f, B, m, k, g⟩ wm wr tb ta K (K - j) (K - j) cb ca Rb Ra ∧ Below wq.heap.size wq wr)) (fun _ _ vi _ => K - (intOf vi).toNat)
    case atStart => exact ⟨0, cb0, ca0, _, _, rfl, rfl, rfl, by omega, HPL.out.l32, HPL.out.l32, Lib.hid ⟨by rw [Nat.sub_zero, List.drop_of_length_le (by rw [HKS.out]; exact Nat.le_refl _)]; rfl, by rw [Nat.sub_zero]; exact HLC0.out, HB0M.out⟩⟩
    case round =>
      obtain ⟨j, cb, ca, o1, o2, rfl, rfl, rfl, hj, ho1, ho2, H⟩ := hrel
      have HBW := Lib.hid (bt HBQ.out H.out.2.2)
      by_cases hlt : j < K
      · obtain ⟨t, htd⟩ : ∃ t, K - 1 - j = t := ⟨_, rfl⟩
        have htK : t < K := by omega
        obtain ⟨s, hs⟩ : ∃ s, S[t]? = some s := ⟨_, List.getElem?_eq_getElem (by rw [HKS.out]; exact htK)⟩
        have HOK := Lib.hid (HPL.out.ok s (List.mem_of_getElem? hs))
        obtain ⟨bq, oq, hAq, hbq, hcq', d, hd⟩ := (HQ.out wr H.out.2.2).at (k := j) hlt
        have x0 := hcq' j d hd
        have HD := Lib.hid hd
        have hd32 : d.length = 32 := H32.out d (by
          have hm := List.mem_of_getElem? hd
          rcases HPL.out.hd with h | h
          · rw [h.2.1]; exact hm
          · rw [h.2]; exact List.mem_cons_of_mem _ hm)
        obtain ⟨gs, hgs, _, _, hcs⟩ := (HSM.out.keepT H.out.2.1.keep).at (by omega)
        have s0 := hcs t s hs 0 _ rfl
        rw [Nat.add_zero] at s0
        have s1 := hcs t s hs 1 _ rfl
        have s2 := hcs t s hs 2 _ rfl
        have s3 := hcs t s hs 3 _ rfl
        have s4 := hcs t s hs 4 _ rfl
        have HST := Lib.hid hs
        have HTD := Lib.hid htd
        have hz : (K : Int) - 1 - (j : Int) = (t : Int) := by omega
        have HBT := Lib.hid (HPL.out.b t s hs)
        have HAT := Lib.hid (HPL.out.a t s hs)
        have HXT := Lib.hid (show S.length - 1 - t = j ∧ p'.getD j [] = d ∧ S.drop t = s :: S.drop (t + 1) ∧ p'.take (j + 1) = p'.take j ++ [d] ∧ K - j = t + 1 from ⟨by rw [HKS.out]; omega, by rw [List.getD_eq_getElem?_getD, hd]; rfl, drop_at hs, by rw [List.take_add_one, hd]; rfl, by omega⟩)
        have HON := Lib.hid (show Cl.ons one0 (S.drop (t + 1)) (p'.take j) = (o1, o2) by rw [← HXT.out.2.2.2.2]; exact H.out.1.symm)
        have HON2 := Lib.hid (show Cl.ons one0 (S.drop t) (p'.take (j + 1)) = if s.rt then (tnd d o1, tnd d o2) else (o1, tnd o2 d) by rw [HXT.out.2.2.1, HXT.out.2.2.2.1, Cl.ons_snoc, HON.out])
        have hfn := HOK.out.b
        have hfm := HOK.out.a
        have hn2' := HOK.out.m1
        clear hcs hcq' hd hs htd
        subst hAq hgs
        cases hrt : s.rt with
        | true =>
          rw [hrt] at s4
          have HRT := Lib.hid hrt
          have HAE := Lib.hid (show Ra t = Cl.btw (1 :: (d ++ o2)) (Cl.topB ((Y.take (s.fr + s.n)).drop s.fr)) by
            rw [HAT.out, HXT.out.1, HXT.out.2.1, HON.out, HXY.out.2, cut_eq]
            unfold Cl.aft1
            rw [HRT.out]
            rfl)
          have HRBE := Lib.hid (show Rb t = Cl.btw (1 :: (d ++ o1)) (Cl.topB ((X.take (s.fr + s.m)).drop s.fr)) by
            rw [HBT.out, HXT.out.1, HXT.out.2.1, HON.out, HXY.out.1]
            unfold Cl.bef1
            rw [HRT.out]
            rw [cut_eq]; rfl)
          have HON3 := Lib.hid (show Cl.ons one0 (S.drop t) (p'.take (j + 1)) = (tnd d o1, tnd d o2) by rw [HON2.out, HRT.out]; rfl)
          go_upto_region 16 with fail
          have hbx : Below wr.heap.size wr (wr.alloc (.cells #[.int .i64 (s.fr : Int), .int .i64 (s.m : Int), .int .i64 (s.n : Int), .int .i64 (s.k : Int), .bool true] 80)) := (Below.refl _ wr).alloc (Nat.le_refl _) _
          have hrx := row_new wr #[.int .i64 (s.fr : Int), .int .i64 (s.m : Int), .int .i64 (s.n : Int), .int .i64 (s.k : Int), .bool true] 80
          obtain ⟨wy, hwy⟩ : ∃ wy, wr.alloc (.cells #[.int .i64 (s.fr : Int), .int .i64 (s.m : Int), .int .i64 (s.n : Int), .int .i64 (s.k : Int), .bool true] 80) = wy := ⟨_, rfl⟩
          rw [hwy] at hbx hrx ⊢
          have HLY := Lib.hid (H.out.2.1.step hbx)
          have HBY := Lib.hid (bt H.out.2.2 hbx)
          have HRX := Lib.hid hrx
          have HNB := Lib.hid (show wr.heap.size ≠ tb from fun e => by have := H.out.2.1.rowB.lt; omega)
          have y0 := hrx.cellQ 0 _ rfl
          have y1 := hrx.cellQ 1 _ rfl
          have y2 := hrx.cellQ 2 _ rfl
          have HYY := Lib.hid (HYM.out.keepT HLY.out.keep)
          clear hbx hrx hwy s0 s1 s2 s3 s4 x0 hrt
          go_wp2_with (refine wl_cutS_lh rfl (.tmp 92) (.tmp 94) (.tmp 99) rfl rfl HYY.out.ss s.fr (s.fr + s.n) rfl (by go_num) (by omega) (by omega) ?_; intro AW hW; rw [Nat.add_sub_cancel_left] at hW; have HW := Lib.hid hW; clear hW)
          (with_reducible refine (CTY.out AW s.n (cY - s.fr) s.fr (s.fr + s.n) wy (bt HBQ.out HBY.out) HW.out (by omega) (by omega)).mono ?_)
          rintro e w10 ⟨AT, nT, cT, rfl, hoT, hbT⟩
          have HL10 := Lib.hid (HLY.out.step hbT)
          have HB10 := Lib.hid (bt HBY.out hbT)
          have HR10 := Lib.hid (HRX.out.keep hbT)
          have HT10 := Lib.hid hoT
          obtain ⟨ob, hob⟩ : ∃ v, cb[t]? = some v := ⟨_, Array.getElem?_eq_getElem (by rw [HL10.out.szB]; exact htK)⟩
          have z0 := HL10.out.rowB.cellQ t _ hob
          have z1 := HL10.out.rowB.frozen t
          clear hbT hoT hob y0 y1 y2
          go_upto_region 18 with fail
          obtain ⟨w11, hw11⟩ : ∃ w11, w10.setCell ⟨tb, t, none⟩ (.func (.func 65) #[] #[]) = w11 := ⟨_, rfl⟩
          rw [hw11]
          have HL11 := Lib.hid (show LC ⟨A, n, c, f, B, m, k, g⟩ wm w11 tb ta K (K - j) (K - j) (cb.setIfInBounds t (.func (.func 65) #[] #[])) ca Rb Ra by rw [← hw11]; exact HL10.out.junkB HNE.out.1 (by omega) _)
          have HB11 := Lib.hid (show Below wq.heap.size wq w11 by rw [← hw11]; exact HB10.out.setCell HNE.out.2.1 _)
          have HR11 := Lib.hid (show Row w11 wr.heap.size #[.int .i64 (s.fr : Int), .int .i64 (s.m : Int), .int .i64 (s.n : Int), .int .i64 (s.k : Int), .bool true] 80 by rw [← hw11]; exact HR10.out.far tb t _ HNB.out)
          have HT11 := Lib.hid (show Own8 w11 wy.heap.size AT nT cT (Cl.topB ((Y.take (s.fr + s.n)).drop s.fr)) by rw [← hw11]; exact HT10.out.keepT (KeepT.set HL10.out.rowB t _))
          have y4 := HR11.out.cellQ 4 _ rfl
          clear z0 z1 hw11
          have HKM := Lib.hid (show s.k < s.m ∧ 1 ≤ s.k from ⟨HOK.out.km HRT.out, HOK.out.k0⟩)
          have QB := Lib.hid (show ∀ W, Calls Tryd.prog 38 #[sv d, sv o1] W (Ret8 W.heap.size (1 :: (d ++ o1)) W) from fun W => (nodeBytes_any _ _ W (by omega) (by omega)).mono fun e w2 h => h.ret8)
          unfold Ret8 at QB
          have HXq := Lib.hid (show ∀ W, Below w11.heap.size w11 W → Ss W AX n cX X from fun W hW => ((HXM.out.keepT HL11.out.keep).keep hW).ss)
          have HLX := Lib.hid (show ((X.take (s.fr + s.m)).drop s.fr).length = s.fr + s.m - s.fr by rw [List.length_drop, List.length_take, HXL.out.1]; omega)
          have HLN := Lib.hid (show (1 :: (d ++ o1) : List UInt8).length ≤ 1000000 ∧ (Cl.topB ((X.take (s.fr + s.m)).drop s.fr)).length ≤ 1000000 from ⟨by rw [List.length_cons, List.length_append]; omega, Nat.le_trans (HTP.out.1 _ _) (by omega)⟩)
          have HY0 := Lib.hid (show ∀ W, Below w11.heap.size w11 W → W.cell? ⟨wr.heap.size, 0, none⟩ = some (.int .i64 (s.fr : Int)) from fun W hW => (HR11.out.keep hW).cellQ 0 _ rfl)
          have HY1 := Lib.hid (show ∀ W, Below w11.heap.size w11 W → W.cell? ⟨wr.heap.size, 1, none⟩ = some (.int .i64 (s.m : Int)) from fun W hW => (HR11.out.keep hW).cellQ 1 _ rfl)
          go_wp2_with fail
          clear y4
          refine Free.wp_free_l 17 (fun W => Below w11.heap.size w11 W) [Free.kc (.slice (some ⟨tb, 0, none⟩) K K), Free.kc (.int .i64 (t : Int)), Free.kc (sv d), Free.kc (sv o1), Free.kB (w11.heap.size) (1 :: (d ++ o1)), Free.kc (.slice AX n cX), Free.kc (.pointer (some ⟨wr.heap.size, 0, none⟩)), Free.kc (.int .i64 (s.fr : Int)), Free.kc (.pointer (some ⟨wr.heap.size, 0, none⟩)), Free.kc (.int .i64 (s.fr : Int)), Free.kc (.pointer (some ⟨wr.heap.size, 1, none⟩)), Free.kc (.int .i64 (s.m : Int)), Free.kc (.int .i64 ((s.fr + s.m : Nat) : Int)), Free.kr (s.fr + s.m - s.fr) (((X.take (s.fr + s.m)).drop s.fr).map sv), Free.kB (w11.heap.size) (Cl.topB ((X.take (s.fr + s.m)).drop s.fr)), Free.kW (⟨A, n, c, f, B, m, k, g⟩) (Rb t), Free.kc (.pointer (some ⟨tb, t, none⟩))] (by kernel_rfl) (by kernel_rfl) (by decide) (Below.refl _ _).drew (fun w w' h g => bt h g) ?_ ?_
          · refine Free.forall_succ (Free.forall_succ (Free.forall_succ (Free.forall_succ (Free.forall_succ (Free.forall_succ (Free.forall_succ (Free.forall_succ (Free.forall_succ (Free.forall_succ (Free.forall_succ (Free.forall_succ (Free.forall_succ (Free.forall_succ (Free.forall_succ (Free.forall_succ (Free.forall_succ (Free.forall_zero) ?_) ?_) ?_) ?_) ?_) ?_) ?_) ?_) ?_) ?_) ?_) ?_) ?_) ?_) ?_) ?_) ?_
            · exact Free.ob_plain _ rfl rfl fun vals wv hC hd => (by exact Free.d_move rfl (by kernel_rfl) rfl)
            · exact Free.ob_plain _ rfl rfl fun vals wv hC hd => (by exact Free.d_move rfl (by kernel_rfl) rfl)
            · exact Free.ob_plain _ rfl rfl fun vals wv hC hd => (by exact Free.d_move rfl (by kernel_rfl) rfl)
            · exact Free.ob_plain _ rfl rfl fun vals wv hC hd => (by exact Free.d_move rfl (by kernel_rfl) rfl)
            · exact Free.ob_plain _ rfl rfl fun vals wv hC hd => (by exact Free.d_call Tryd.func38 (by kernel_rfl) (by kernel_rfl) rfl rfl (Free.arg2 (Eq.trans (b := vals 2) (by kernel_rfl) (hd 2 (by kernel_rfl))) (Eq.trans (b := vals 3) (by kernel_rfl) (hd 3 (by kernel_rfl)))) ((QB.out wv).mono fun e w2 h => (by obtain ⟨A1, n1, c1, he, ho, hb⟩ := h; exact ⟨_, he, ⟨A1, n1, c1, rfl, ho.base hC.size⟩, hb⟩)))
            · exact Free.ob_plain _ rfl rfl fun vals wv hC hd => (by exact Free.d_move rfl (by kernel_rfl) rfl)
            · exact Free.ob_plain _ rfl rfl fun vals wv hC hd => (by exact d_field (cx := .pointer (some ⟨wr.heap.size, 0, none⟩)) rfl (by kernel_rfl) (by go_simp) rfl)
            · exact Free.ob_plain _ rfl rfl fun vals wv hC hd => (by exact Free.d_load rfl (Eq.trans (b := vals 6) (by kernel_rfl) (hd 6 (by kernel_rfl))) (by have hcc := HY0.out wv hC; go_simp) rfl)
            · exact Free.ob_plain _ rfl rfl fun vals wv hC hd => (by exact d_field (cx := .pointer (some ⟨wr.heap.size, 0, none⟩)) rfl (by kernel_rfl) (by go_simp) rfl)
            · exact Free.ob_plain _ rfl rfl fun vals wv hC hd => (by exact Free.d_load rfl (Eq.trans (b := vals 8) (by kernel_rfl) (hd 8 (by kernel_rfl))) (by have hcc := HY0.out wv hC; go_simp) rfl)
            · exact Free.ob_plain _ rfl rfl fun vals wv hC hd => (by exact d_field (cx := .pointer (some ⟨wr.heap.size, 0, none⟩)) rfl (by kernel_rfl) (by go_simp) rfl)
            · exact Free.ob_plain _ rfl rfl fun vals wv hC hd => (by exact Free.d_load rfl (Eq.trans (b := vals 10) (by kernel_rfl) (hd 10 (by kernel_rfl))) (by have hcc := HY1.out wv hC; go_simp) rfl)
            · exact Free.ob_plain _ rfl rfl fun vals wv hC hd => (by exact Free.d_bin rfl (Eq.trans (b := vals 9) (by kernel_rfl) (hd 9 (by kernel_rfl))) (Eq.trans (b := vals 11) (by kernel_rfl) (hd 11 (by kernel_rfl))) (by go_simp) (by go_simp; rw [IntWalk.i64_in _ (by omega)]; first | rfl | omega) rfl)
            · exact Free.ob_plain _ rfl rfl fun vals wv hC hd => (by exact (by obtain ⟨A', hrun, hss⟩ := run_cutS_lh (HXq.out wv hC) s.fr (s.fr + s.m) (by omega) (by omega); exact Free.d_slice rfl (Eq.trans (b := vals 5) (by kernel_rfl) (hd 5 (by kernel_rfl))) (show _ = some (Value.int .i64 (s.fr : Int)) from congrArg some (Eq.trans (b := vals 7) (by kernel_rfl) (hd 7 (by kernel_rfl)))) (show _ = some (Value.int .i64 ((s.fr + s.m : Nat) : Int)) from congrArg some (Eq.trans (b := vals 12) (by kernel_rfl) (hd 12 (by kernel_rfl)))) rfl hrun ⟨A', _, rfl, hss.rd, hss.cap, hss.max⟩))
            · exact Free.ob_plain _ rfl rfl fun vals wv hC hd => (by obtain ⟨A13, k13, e13, rd13, le13, mx13⟩ := hd 13 (by kernel_rfl); exact Free.d_call Tryd.func35 (by kernel_rfl) (by kernel_rfl) rfl rfl (Free.arg1 (Eq.trans (b := vals 13) (by kernel_rfl) e13)) ((CTX.out A13 (s.fr + s.m - s.fr) k13 s.fr (s.fr + s.m) wv (bt (bt HBQ.out HB11.out) hC) ⟨rd13, HLX.out, le13, mx13⟩ (by have := HKM.out; omega) (by omega)).mono fun e w2 h => (by obtain ⟨A1, n1, c1, he, ho, hb⟩ := h; exact ⟨_, he, ⟨A1, n1, c1, rfl, ho.base hC.size⟩, hb⟩)))
            · exact Free.ob_plain _ rfl rfl fun vals wv hC hd => (by obtain ⟨A4, n4, k4, e4, ow4⟩ := hd 4 (by kernel_rfl); obtain ⟨A14, n14, k14, e14, ow14⟩ := hd 14 (by kernel_rfl); exact Free.d_call Tryd.func37 (by kernel_rfl) (by kernel_rfl) rfl rfl (Free.arg2 (Eq.trans (b := vals 4) (by kernel_rfl) e4) (Eq.trans (b := vals 14) (by kernel_rfl) e14)) ((pair_raw _ _ _ _ _ _ wv).mono fun e w2 h => (by obtain ⟨g1, g2, he, hg1, hg2, r1, r2, hb⟩ := h; exact ⟨_, he, ⟨_, rfl, .inr (.inl ⟨g1, g2, _, _, _, _, _, _, _, _, rfl, r1, r2, (ow4.base (Nat.zero_le _)).keep hb, (ow14.base (Nat.zero_le _)).keep hb, HLN.out.1, HLN.out.2, HRBE.out⟩)⟩, hb⟩)))
            · exact Free.ob_plain _ rfl rfl fun vals wv hC hd => (by exact Free.d_indexAddr rfl (Eq.trans (b := vals 0) (by kernel_rfl) (hd 0 (by kernel_rfl))) (Eq.trans (b := vals 1) (by kernel_rfl) (hd 1 (by kernel_rfl))) (run_idx0 61 Tryd.underlying61 (by kernel_rfl) tb K K t _ (by omega) (by omega)) rfl)
          · intro vals wv hC hd
            have e0 : vals 0 = (.slice (some ⟨tb, 0, none⟩) K K) := hd 0 (by decide)
            have e1 : vals 1 = (.int .i64 (t : Int)) := hd 1 (by decide)
            have e2 : vals 2 = (sv d) := hd 2 (by decide)
            have e3 : vals 3 = (sv o1) := hd 3 (by decide)
            obtain ⟨A4, n4, k4, e4, ow4⟩ := hd 4 (by decide)
            have e5 : vals 5 = (.slice AX n cX) := hd 5 (by decide)
            have e6 : vals 6 = (.pointer (some ⟨wr.heap.size, 0, none⟩)) := hd 6 (by decide)
            have e7 : vals 7 = (.int .i64 (s.fr : Int)) := hd 7 (by decide)
            have e8 : vals 8 = (.pointer (some ⟨wr.heap.size, 0, none⟩)) := hd 8 (by decide)
            have e9 : vals 9 = (.int .i64 (s.fr : Int)) := hd 9 (by decide)
            have e10 : vals 10 = (.pointer (some ⟨wr.heap.size, 1, none⟩)) := hd 10 (by decide)
            have e11 : vals 11 = (.int .i64 (s.m : Int)) := hd 11 (by decide)
            have e12 : vals 12 = (.int .i64 ((s.fr + s.m : Nat) : Int)) := hd 12 (by decide)
            obtain ⟨A13, k13, e13, rd13, le13, mx13⟩ := hd 13 (by decide)
            obtain ⟨A14, n14, k14, e14, ow14⟩ := hd 14 (by decide)
            obtain ⟨v15, e15, pd15⟩ := hd 15 (by decide)
            have e16 : vals 16 = (.pointer (some ⟨tb, t, none⟩)) := hd 16 (by decide)
            simp only [Free.frameOf, List.range, List.range.loop, List.foldl, Free.dstOf, List.getElem?_toArray, List.getElem?_cons_zero, List.getElem?_cons_succ, Option.bind_some, Act.put, List.setIfInBounds_toArray, List.set_cons_zero, List.set_cons_succ, e0, e1, e2, e3, e4, e5, e6, e7, e8, e9, e10, e11, e12, e13, e14, e15, e16]
            clear hd e0 e1 e2 e3 e4 e5 e6 e7 e8 e9 e10 e11 e12 e13 e14 e15 e16
            obtain ⟨fid, caps, rfl⟩ := pd15.form
            have hl2 := HL11.out.step hC
            obtain ⟨old, hold⟩ : ∃ v, (cb.setIfInBounds t (.func (.func 65) #[] #[]))[t]? = some v := ⟨_, Array.getElem?_eq_getElem (by rw [hl2.szB]; exact htK)⟩
            have z0 := hl2.rowB.cellQ t _ hold
            have z1 := hl2.rowB.frozen t
            have hl3 := hl2.setB HNE.out.1 (by omega) htK pd15
            have hb3 := (bt HB11.out hC).setCell (p := ⟨tb, t, none⟩) HNE.out.2.1 (.func (.func fid) #[] caps)
            have ht3 := (HT11.out.keep hC).keepT (KeepT.set hl2.rowB t (.func (.func fid) #[] caps))
            have HL3 := Lib.hid hl3
            have HB3x := Lib.hid hb3
            have HT3 := Lib.hid ht3
            clear hl2 hold hl3 hb3 ht3 hC pd15 ow4 ow14 rd13 le13 mx13
            go_upto_region 20 with fail
            obtain ⟨w12, hw12⟩ : ∃ w, wv.setCell ⟨tb, t, none⟩ (.func (.func fid) #[] caps) = w := ⟨_, rfl⟩
            rw [hw12] at HL3 HB3x HT3 ⊢
            clear z0 z1 hw12
            have QA := Lib.hid (show ∀ W, Calls Tryd.prog 38 #[sv d, sv o2] W (Ret8 W.heap.size (1 :: (d ++ o2)) W) from fun W => (nodeBytes_any _ _ W (by omega) (by omega)).mono fun e w2 h => h.ret8)
            unfold Ret8 at QA
            go_wp2_with fail
            (with_reducible refine (QA.out w12).mono ?_)
            rintro e w13 ⟨AN, nN, cN, rfl, hoN, hbN⟩
            have HL13 := Lib.hid (HL3.out.step hbN)
            have HB13 := Lib.hid (bt HB3x.out hbN)
            have HT13 := Lib.hid (HT3.out.keep hbN)
            have HN13 := Lib.hid hoN
            clear hbN hoN
            go_wp2_with fail
            (with_reducible refine (pair_raw AN nN cN AT nT cT w13).mono ?_)
            rintro e w14 ⟨q1, q2, rfl, hq1, hq2, r1, r2, hbP⟩
            have hwt : Wait ⟨A, n, c, f, B, m, k, g⟩ w14 (.func (.func 74) #[] #[.pointer (some ⟨q1, 0, none⟩), .pointer (some ⟨q2, 0, none⟩)]) (Ra t) := .inr (.inl ⟨q1, q2, _, _, _, _, _, _, _, _, rfl, r1, r2, (HN13.out.base (Nat.zero_le _)).keep hbP, (HT13.out.base (Nat.zero_le _)).keep hbP, by rw [List.length_cons, List.length_append]; omega, Nat.le_trans (HTP.out.2 _ _) (by omega), HAE.out⟩)
            have hl5 := HL13.out.step hbP
            obtain ⟨old2, hold2⟩ : ∃ v, ca[t]? = some v := ⟨_, Array.getElem?_eq_getElem (by rw [hl5.szA]; exact htK)⟩
            have z0 := hl5.rowA.cellQ t _ hold2
            have z1 := hl5.rowA.frozen t
            have hl6 := hl5.setA HNE.out.1 (by omega) htK hwt
            have hb6 := (bt HB13.out hbP).setCell (p := ⟨ta, t, none⟩) HNE.out.2.2 (.func (.func 74) #[] #[.pointer (some ⟨q1, 0, none⟩), .pointer (some ⟨q2, 0, none⟩)])
            have HL15 := Lib.hid hl6
            have HB15 := Lib.hid hb6
            clear hl5 hl6 hb6 hold2 hwt hbP r1 r2
            go_upto_region 21 with fail
            obtain ⟨w15, hw15⟩ : ∃ w, w14.setCell ⟨ta, t, none⟩ (.func (.func 74) #[] #[.pointer (some ⟨q1, 0, none⟩), .pointer (some ⟨q2, 0, none⟩)]) = w := ⟨_, rfl⟩
            rw [hw15] at HL15 HB15 ⊢
            clear z0 z1 hw15
            go_wp2_with fail
            (with_reducible refine (xnode_any d o1 w15 hd32 ho1 (HT.out.below (bt HBQ.out HB15.out))).mono ?_)
            rintro e w16 ⟨rfl, hb16⟩
            have HL16 := Lib.hid (HL15.out.step hb16)
            have HB16 := Lib.hid (bt HB15.out hb16)
            clear hb16
            go_wp2_with fail
            (with_reducible refine (xnode_any d o2 w16 hd32 ho2 (HT.out.below (bt HBQ.out HB16.out))).mono ?_)
            rintro e w17 ⟨rfl, hb17⟩
            have HL17 := Lib.hid (HL16.out.step hb17)
            have HB17 := Lib.hid (bt HB16.out hb17)
            clear hb17
            go_wp2
            go_roundw
            case rel => exact ⟨j + 1, _, _, tnd d o1, tnd d o2, rfl, rfl, by go_num, by omega, tnd_len _ _, tnd_len _ _, Lib.hid ⟨by rw [show K - (j + 1) = t by omega]; exact HON3.out.symm, by rw [show K - (j + 1) = t by omega]; exact HL17.out, HB17.out⟩⟩
            case measure => simp [intOf]; omega
        | false =>
          rw [hrt] at s4
          have HRT := Lib.hid hrt
          have HAE := Lib.hid (show Ra t = Cl.btw (1 :: (o2 ++ d)) (Cl.topB ((Y.take (s.fr + s.n)).drop s.fr)) by
            rw [HAT.out, HXT.out.1, HXT.out.2.1, HON.out, HXY.out.2, cut_eq]
            unfold Cl.aft1
            rw [HRT.out]
            rfl)
          have HRBE := Lib.hid (show Rb t = none by
            rw [HBT.out, HXT.out.1, HXT.out.2.1, HON.out, HXY.out.1]
            unfold Cl.bef1
            rw [HRT.out]
            rfl)
          have HON3 := Lib.hid (show Cl.ons one0 (S.drop t) (p'.take (j + 1)) = (o1, tnd o2 d) by rw [HON2.out, HRT.out]; rfl)
          go_upto_region 16 with fail
          have hbx : Below wr.heap.size wr (wr.alloc (.cells #[.int .i64 (s.fr : Int), .int .i64 (s.m : Int), .int .i64 (s.n : Int), .int .i64 (s.k : Int), .bool false] 80)) := (Below.refl _ wr).alloc (Nat.le_refl _) _
          have hrx := row_new wr #[.int .i64 (s.fr : Int), .int .i64 (s.m : Int), .int .i64 (s.n : Int), .int .i64 (s.k : Int), .bool false] 80
          obtain ⟨wy, hwy⟩ : ∃ wy, wr.alloc (.cells #[.int .i64 (s.fr : Int), .int .i64 (s.m : Int), .int .i64 (s.n : Int), .int .i64 (s.k : Int), .bool false] 80) = wy := ⟨_, rfl⟩
          rw [hwy] at hbx hrx ⊢
          have HLY := Lib.hid (H.out.2.1.step hbx)
          have HBY := Lib.hid (bt H.out.2.2 hbx)
          have HRX := Lib.hid hrx
          have HNB := Lib.hid (show wr.heap.size ≠ tb from fun e => by have := H.out.2.1.rowB.lt; omega)
          have y0 := hrx.cellQ 0 _ rfl
          have y1 := hrx.cellQ 1 _ rfl
          have y2 := hrx.cellQ 2 _ rfl
          have HYY := Lib.hid (HYM.out.keepT HLY.out.keep)
          clear hbx hrx hwy s0 s1 s2 s3 s4 x0 hrt
          go_wp2_with (refine wl_cutS_lh rfl (.tmp 92) (.tmp 94) (.tmp 99) rfl rfl HYY.out.ss s.fr (s.fr + s.n) rfl (by go_num) (by omega) (by omega) ?_; intro AW hW; rw [Nat.add_sub_cancel_left] at hW; have HW := Lib.hid hW; clear hW)
          (with_reducible refine (CTY.out AW s.n (cY - s.fr) s.fr (s.fr + s.n) wy (bt HBQ.out HBY.out) HW.out (by omega) (by omega)).mono ?_)
          rintro e w10 ⟨AT, nT, cT, rfl, hoT, hbT⟩
          have HL10 := Lib.hid (HLY.out.step hbT)
          have HB10 := Lib.hid (bt HBY.out hbT)
          have HR10 := Lib.hid (HRX.out.keep hbT)
          have HT10 := Lib.hid hoT
          obtain ⟨ob, hob⟩ : ∃ v, cb[t]? = some v := ⟨_, Array.getElem?_eq_getElem (by rw [HL10.out.szB]; exact htK)⟩
          have z0 := HL10.out.rowB.cellQ t _ hob
          have z1 := HL10.out.rowB.frozen t
          clear hbT hoT hob y0 y1 y2
          go_upto_region 18 with fail
          obtain ⟨w11, hw11⟩ : ∃ w11, w10.setCell ⟨tb, t, none⟩ (.func (.func 65) #[] #[]) = w11 := ⟨_, rfl⟩
          rw [hw11]
          have HL11 := Lib.hid (show LC ⟨A, n, c, f, B, m, k, g⟩ wm w11 tb ta K t (K - j) (cb.setIfInBounds t (.func (.func 65) #[] #[])) ca Rb Ra by rw [← hw11]; exact HL10.out.setB HNE.out.1 (by omega) htK (.inl ⟨rfl, HRBE.out⟩))
          have HB11 := Lib.hid (show Below wq.heap.size wq w11 by rw [← hw11]; exact HB10.out.setCell HNE.out.2.1 _)
          have HR11 := Lib.hid (show Row w11 wr.heap.size #[.int .i64 (s.fr : Int), .int .i64 (s.m : Int), .int .i64 (s.n : Int), .int .i64 (s.k : Int), .bool false] 80 by rw [← hw11]; exact HR10.out.far tb t _ HNB.out)
          have HT11 := Lib.hid (show Own8 w11 wy.heap.size AT nT cT (Cl.topB ((Y.take (s.fr + s.n)).drop s.fr)) by rw [← hw11]; exact HT10.out.keepT (KeepT.set HL10.out.rowB t _))
          have y4 := HR11.out.cellQ 4 _ rfl
          clear z0 z1 hw11
          have QA := Lib.hid (show ∀ W, Calls Tryd.prog 38 #[sv o2, sv d] W (Ret8 W.heap.size (1 :: (o2 ++ d)) W) from fun W => (nodeBytes_any _ _ W (by omega) (by omega)).mono fun e w2 h => h.ret8)
          unfold Ret8 at QA
          go_wp2_with fail
          (with_reducible refine (QA.out w11).mono ?_)
          rintro e w13 ⟨AN, nN, cN, rfl, hoN, hbN⟩
          have HL13 := Lib.hid (HL11.out.step hbN)
          have HB13 := Lib.hid (bt HB11.out hbN)
          have HT13 := Lib.hid (HT11.out.keep hbN)
          have HN13 := Lib.hid hoN
          clear hbN hoN y4
          go_wp2_with fail
          (with_reducible refine (pair_raw AN nN cN AT nT cT w13).mono ?_)
          rintro e w14 ⟨q1, q2, rfl, hq1, hq2, r1, r2, hbP⟩
          have hwt : Wait ⟨A, n, c, f, B, m, k, g⟩ w14 (.func (.func 74) #[] #[.pointer (some ⟨q1, 0, none⟩), .pointer (some ⟨q2, 0, none⟩)]) (Ra t) := .inr (.inl ⟨q1, q2, _, _, _, _, _, _, _, _, rfl, r1, r2, (HN13.out.base (Nat.zero_le _)).keep hbP, (HT13.out.base (Nat.zero_le _)).keep hbP, by rw [List.length_cons, List.length_append]; omega, Nat.le_trans (HTP.out.2 _ _) (by omega), HAE.out⟩)
          have hl5 := HL13.out.step hbP
          obtain ⟨old2, hold2⟩ : ∃ v, ca[t]? = some v := ⟨_, Array.getElem?_eq_getElem (by rw [hl5.szA]; exact htK)⟩
          have z0 := hl5.rowA.cellQ t _ hold2
          have z1 := hl5.rowA.frozen t
          have hl6 := hl5.setA HNE.out.1 (by omega) htK hwt
          have hb6 := (bt HB13.out hbP).setCell (p := ⟨ta, t, none⟩) HNE.out.2.2 (.func (.func 74) #[] #[.pointer (some ⟨q1, 0, none⟩), .pointer (some ⟨q2, 0, none⟩)])
          have HL15 := Lib.hid hl6
          have HB15 := Lib.hid hb6
          clear hl5 hl6 hb6 hold2 hwt hbP r1 r2
          go_upto_region 23 with fail
          obtain ⟨w15, hw15⟩ : ∃ w, w14.setCell ⟨ta, t, none⟩ (.func (.func 74) #[] #[.pointer (some ⟨q1, 0, none⟩), .pointer (some ⟨q2, 0, none⟩)]) = w := ⟨_, rfl⟩
          rw [hw15] at HL15 HB15 ⊢
          clear z0 z1 hw15
          go_wp2_with fail
          (with_reducible refine (xnode_any o2 d w15 ho2 hd32 (HT.out.below (bt HBQ.out HB15.out))).mono ?_)
          rintro e w17 ⟨rfl, hb17⟩
          have HL17 := Lib.hid (HL15.out.step hb17)
          have HB17 := Lib.hid (bt HB15.out hb17)
          clear hb17
          go_wp2
          go_roundw
          case rel => exact ⟨j + 1, _, _, o1, tnd o2 d, rfl, rfl, by go_num, by omega, ho1, tnd_len _ _, Lib.hid ⟨by rw [show K - (j + 1) = t by omega]; exact HON3.out.symm, by rw [show K - (j + 1) = t by omega]; exact HL17.out, HB17.out⟩⟩
          case measure => simp [intOf]; omega
      · obtain rfl : K = j := by omega
        have hl := H.out.2.1
        rw [Nat.sub_self] at hl
        have hown := own_of_row (B := wq.heap.size) hl.rowB hl.szB (by rw [maxLen_eq]; omega) HNE.out.2.1
        have hrd := rd_of_row hl.rowA
        have hone : ∀ u ∈ ca.toList, u.oneCell' = true := fun u hu => by
          obtain ⟨i, hi⟩ := List.getElem?_of_mem hu
          rw [Array.getElem?_toList] at hi
          have hlt : i < K := by rw [← hl.szA]; exact (Array.getElem?_eq_some_iff.1 hi).1
          obtain ⟨v, e, hv⟩ := hl.wa i (Nat.zero_le _) hlt
          rw [e] at hi
          injection hi with hi
          rw [← hi]; exact hv.one
        have HLF := Lib.hid hl
        have HOW := Lib.hid hown
        have HBE := Lib.hid H.out.2.2
        clear hl hown
        go_upto_region 27 with (at_builtin; refine wl_app rfl (.tmp 150) (.tmp 151) 61 rfl wq.heap.size 63 1 8 tryT _ K cb.toList rfl HOW.out wr.heap.size (some ⟨ta, 0, none⟩) K K ca.toList rfl hrd (by rw [Array.length_toList, HLF.out.szA, Nat.mul_one]) hone (by rw [maxLen_eq]; omega) (by omega) HBE.out.size ?_; intro A6 c6 w6 g1 g2 g3 g4 g5 g6; have HTA := Lib.hid (TA.two HBE.out.size HLF.out HOW.out g1 g2 g5 g6); have HB6x := Lib.hid (HBE.out.trans g4); clear g1 g2 g3 g4 g5 g6 hrd hone)
        go_loopw [21, 155] (fun vt vi wr => ∃ (t : Nat) (A7 : Option Addr) (n7 c7 : Nat) (rs : List (Option (List UInt8 × List UInt8))), vt = .slice A7 n7 c7 ∧ vi = .int .i64 (t : Int) ∧ t ≤ K ∧ n7 ≤ K + K + t ∧ Hid (TA ⟨A, n, c, f, B, m, k, g⟩ wr wq.heap.size A7 n7 c7 rs ∧ Below wq.heap.size wq wr ∧ KeepT wm wr ∧ rs ++ Cl.prtL (raws f n) (raws g m) (S.drop t) fe = (List.range S.length).map Rb ++ ((List.range S.length).map Ra ++ ps))) (fun _ vi _ => K - (intOf vi).toNat)
        case atStart => exact ⟨0, A6, K + K, c6, _, rfl, rfl, by omega, by omega, Lib.hid ⟨HTA.out.1, HB6x.out, HTA.out.2, by rw [HKS.out, HPL.out.parts, List.append_assoc]; rfl⟩⟩
        case round =>
          obtain ⟨t, A7, n7, c7, rs, rfl, rfl, ht, hn7, G⟩ := hrel
          have hcap7 := G.out.1.cap
          have hmax7 := G.out.1.max
          rw [maxLen_eq] at hmax7
          by_cases hlt2 : t < K
          · obtain ⟨s, hs⟩ : ∃ s, S[t]? = some s := ⟨_, List.getElem?_eq_getElem (by rw [HKS.out]; exact hlt2)⟩
            have HOK := Lib.hid (HPL.out.ok s (List.mem_of_getElem? hs))
            obtain ⟨gs, hgs, _, _, hcs⟩ := (HSM.out.keepT G.out.2.2.1).at (by omega)
            have s0 := hcs t s hs 0 _ rfl
            rw [Nat.add_zero] at s0
            have s1 := hcs t s hs 1 _ rfl
            have s2 := hcs t s hs 2 _ rfl
            have s3 := hcs t s hs 3 _ rfl
            have s4 := hcs t s hs 4 _ rfl
            have HDR := Lib.hid (drop_at hs)
            have hk1 := HOK.out.kn
            have hk2 := HOK.out.b
            have hk3 := HOK.out.k0
            clear hcs hs
            subst hgs
            cases hrt : s.rt with
            | true =>
              rw [hrt] at s4
              have hk4 := HOK.out.km hrt
              have hk5 := HOK.out.a
              have hk6 : s.fr + s.k ≤ n := by omega
              have HPQ := Lib.hid (show Cl.prtL (raws f n) (raws g m) (S.drop t) fe = Cl.two (Cl.cutL (raws f n) s.fr (s.fr + s.k)) (Cl.cutL (raws g m) s.fr (s.fr + s.k)) :: Cl.prtL (raws f n) (raws g m) (S.drop (t + 1)) fe by rw [HDR.out, Cl.prtL, hrt]; rfl)
              have CP := Lib.hid (show ∀ W, Calls Tryd.prog 66 #[.slice A n c, .slice B m k, .int .i64 (s.fr : Int), .int .i64 ((s.fr : Int) + (s.k : Int))] W fun e w' => ∃ v, e = .returned v ∧ Wait ⟨A, n, c, f, B, m, k, g⟩ w' v (Cl.two (Cl.cutL (raws f n) s.fr (s.fr + s.k)) (Cl.cutL (raws g m) s.fr (s.fr + s.k))) ∧ Below W.heap.size W w' from fun W =>
                part_any' ⟨A, n, c, f, B, m, k, g⟩ s.fr (s.fr + s.k) W ⟨by omega, hk6, by show s.fr + s.k ≤ m; omega⟩)
              go_upto_region 29 with fail
              have hbx : Below wr.heap.size wr (wr.alloc (.cells #[.int .i64 (s.fr : Int), .int .i64 (s.m : Int), .int .i64 (s.n : Int), .int .i64 (s.k : Int), .bool true] 80)) := (Below.refl _ wr).alloc (Nat.le_refl _) _
              have hrx := row_new wr #[.int .i64 (s.fr : Int), .int .i64 (s.m : Int), .int .i64 (s.n : Int), .int .i64 (s.k : Int), .bool true] 80
              obtain ⟨wy, hwy⟩ : ∃ wy, wr.alloc (.cells #[.int .i64 (s.fr : Int), .int .i64 (s.m : Int), .int .i64 (s.n : Int), .int .i64 (s.k : Int), .bool true] 80) = wy := ⟨_, rfl⟩
              rw [hwy] at hbx hrx ⊢
              have HG1 := Lib.hid (G.out.1.keep hbx)
              have HG2 := Lib.hid (bt G.out.2.1 hbx)
              have HG3 := Lib.hid (G.out.2.2.1.trans (KeepT.of hbx))
              have y0 := hrx.cellQ 0 _ rfl
              have y3 := hrx.cellQ 3 _ rfl
              have y4 := hrx.cellQ 4 _ rfl
              clear hbx hrx hwy s0 s1 s2 s3 s4 hrt hk5
              go_wp2_with fail
              (with_reducible refine (CP.out wy).mono ?_)
              rintro e w7x ⟨v, rfl, hwt, hbP⟩
              obtain ⟨fid, caps, rfl⟩ := hwt.form
              have hta := HG1.out.keep hbP
              obtain ⟨vs, ho, hvl, hvw⟩ := hta.ex
              have HO := Lib.hid (And.intro ho (And.intro hvl (And.intro hvw (And.intro hta.len hwt))))
              have HG4 := Lib.hid (bt HG2.out hbP)
              have HG5 := Lib.hid (HG3.out.trans (KeepT.of hbP))
              clear hta ho hvl hvw hwt hbP y0 y3 y4
              go_wp2_with (at_builtin; refine wl_app1g tryT (by omega) rfl (.tmp 161) (.tmp 172) rfl rfl HO.out.1 rfl (.func (.func fid) #[] caps) rfl (by omega) HG4.out.size ?_; intro A8 c8 w8x g1 g2 g4 g5 g6; have HQ8 := Lib.hid (TA.app HG4.out.size HO.out.1 HO.out.2.1 HO.out.2.2.1 HO.out.2.2.2.1 HO.out.2.2.2.2 g1 g2 g5 g6); have HQ9 := Lib.hid (HG4.out.trans g4); clear g1 g2 g4 g5 g6)
              go_roundw
              case rel => exact ⟨t + 1, A8, n7 + 1, c8, _, rfl, by go_num, by omega, by omega, Lib.hid ⟨HQ8.out.1, HQ9.out, HG5.out.trans HQ8.out.2, by rw [← G.out.2.2.2, HPQ.out, List.append_assoc]; rfl⟩⟩
              case measure => simp [intOf]; omega
            | false =>
              rw [hrt] at s4
              have HPQ := Lib.hid (show Cl.prtL (raws f n) (raws g m) (S.drop t) fe = Cl.prtL (raws f n) (raws g m) (S.drop (t + 1)) fe by rw [HDR.out, Cl.prtL, hrt]; rfl)
              go_upto_region 29 with fail
              have hbx : Below wr.heap.size wr (wr.alloc (.cells #[.int .i64 (s.fr : Int), .int .i64 (s.m : Int), .int .i64 (s.n : Int), .int .i64 (s.k : Int), .bool false] 80)) := (Below.refl _ wr).alloc (Nat.le_refl _) _
              have hrx := row_new wr #[.int .i64 (s.fr : Int), .int .i64 (s.m : Int), .int .i64 (s.n : Int), .int .i64 (s.k : Int), .bool false] 80
              obtain ⟨wy, hwy⟩ : ∃ wy, wr.alloc (.cells #[.int .i64 (s.fr : Int), .int .i64 (s.m : Int), .int .i64 (s.n : Int), .int .i64 (s.k : Int), .bool false] 80) = wy := ⟨_, rfl⟩
              rw [hwy] at hbx hrx ⊢
              have HG1 := Lib.hid (G.out.1.keep hbx)
              have HG2 := Lib.hid (bt G.out.2.1 hbx)
              have HG3 := Lib.hid (G.out.2.2.1.trans (KeepT.of hbx))
              have y4 := hrx.cellQ 4 _ rfl
              clear hbx hrx hwy s0 s1 s2 s3 s4 hrt
              go_wp2
              go_roundw
              case rel => exact ⟨t + 1, A7, n7, c7, rs, rfl, by go_num, by omega, by omega, Lib.hid ⟨HG1.out, HG2.out, HG3.out, by rw [← G.out.2.2.2, HPQ.out]⟩⟩
              case measure => simp [intOf]; omega
          · obtain rfl : K = t := by omega
            have HFIN := Lib.hid (show rs ++ [Cl.two (Cl.cutL (raws f n) fe n) (Cl.cutL (raws g m) fe n)] = (List.range S.length).map Rb ++ ((List.range S.length).map Ra ++ ps) by
              have h := G.out.2.2.2
              rw [List.drop_of_length_le (by rw [HKS.out]; exact Nat.le_refl _), Cl.prtL, raws_len] at h
              exact h)
            have CPF := Lib.hid (show ∀ W, Calls Tryd.prog 66 #[.slice A n c, .slice B m k, .int .i64 (fe : Int), .int .i64 (n : Int)] W fun e w' => ∃ v, e = .returned v ∧ Wait ⟨A, n, c, f, B, m, k, g⟩ w' v (Cl.two (Cl.cutL (raws f n) fe n) (Cl.cutL (raws g m) fe n)) ∧ Below W.heap.size W w' from fun W =>
              part_any' ⟨A, n, c, f, B, m, k, g⟩ fe n W ⟨by have := HPL.out.fe1; omega, Nat.le_refl _, hnm⟩)
            go_wp2_with fail
            (with_reducible refine (CPF.out wr).mono ?_)
            rintro e w7x ⟨v, rfl, hwt, hbP⟩
            obtain ⟨fid, caps, rfl⟩ := hwt.form
            have hta := G.out.1.keep hbP
            obtain ⟨vs, ho, hvl, hvw⟩ := hta.ex
            have HO := Lib.hid (And.intro ho (And.intro hvl (And.intro hvw (And.intro hta.len hwt))))
            have HG4 := Lib.hid (bt G.out.2.1 hbP)
            clear hta ho hvl hvw hwt hbP
            go_wp2_with (at_builtin; refine wl_app1g tryT (by omega) rfl (.tmp 175) (.tmp 182) rfl rfl HO.out.1 rfl (.func (.func fid) #[] caps) rfl (by omega) HG4.out.size ?_; intro A8 c8 w8x g1 g2 g4 g5 g6; have HQ8 := Lib.hid (TA.app HG4.out.size HO.out.1 HO.out.2.1 HO.out.2.2.1 HO.out.2.2.2.1 HO.out.2.2.2.2 g1 g2 g5 g6); have HQ9 := Lib.hid (HG4.out.trans g4); clear g1 g2 g4 g5 g6)
            obtain ⟨vs2, ho2, hvl2, hvw2⟩ := HQ8.out.1.ex
            have hbig := bt HBQ.out HQ9.out
            have hfirst := first_any A8 (n7 + 1) c8 vs2 _ w8x (Rd.of_own ho2) hvl2 HQ8.out.1.len HQ8.out.1.cap HQ8.out.1.max (fun i v r hv hr => (hvw2 i v r hv hr).try (HT.out.below hbig) (show n ≤ 300 by omega) (HRXY.out.1.keep hbig) HCAB.out.1 (HRXY.out.2.keep hbig) HCAB.out.2 HSML.out.1 HSML.out.2)
            rw [HFIN.out] at hfirst
            (with_reducible refine hfirst.mono ?_)
            rintro e w9x ⟨A9, n9, c9, B9, m9, k9, rfl, hf1, hf2, hb9x⟩
            have hlt9 : w.heap.size < w8x.heap.size := Nat.lt_of_lt_of_le HRq.out.lt HQ9.out.size
            have hres := (HRq.out.below HQ9.out HRq.out.lt).keep hb9x
            have HBZ := Lib.hid (bt hbig hb9x)
            have HF := Lib.hid (And.intro hf1 (And.intro hf2 hlt9))
            have x0 := hres.cellQ 0 _ rfl
            have x1 := hres.cellQ 1 _ rfl
            have f0 := hres.frozen 0
            have f1 := hres.frozen 1
            have HROW := Lib.hid (show ∀ u v, Row (setFrom w.heap.size w9x 0 [u, v]) w.heap.size #[u, v] 29 from fun u v => hres.all [u, v] rfl)
            obtain ⟨rz, hrz⟩ : ∃ r, firstOf ((List.range S.length).map Rb ++ ((List.range S.length).map Ra ++ ps)) = r := ⟨_, rfl⟩
            rw [hrz] at HF ⊢
            have HRZ := Lib.hid hrz
            clear hres hf1 hf2 hb9x hbig hfirst ho2 hvl2 hvw2 hlt9 hrz
            go_wp2
            generalize hwd : World.setCell (World.setCell w9x _ _) _ _ = wd
            have hsf : setFrom w.heap.size w9x 0 [.slice A9 n9 c9, .slice B9 m9 k9] = wd := by rw [← hwd]; rfl
            have r0 : wd.cell? ⟨w.heap.size, 0, none⟩ = some (.slice A9 n9 c9) := by rw [← hsf]; exact (HROW.out _ _).cellQ 0 _ rfl
            have r1 : wd.cell? ⟨w.heap.size, 1, none⟩ = some (.slice B9 m9 k9) := by rw [← hsf]; exact (HROW.out _ _).cellQ 1 _ rfl
            refine bodyPost_ret (v := .tuple #[.agg #[.slice A9 n9 c9, .slice B9 m9 k9], .bool rz.isSome]) (by simp [results, Tryd.results29, go_sem, r0, r1]) rfl ?_
            rw [HRZ.out]
            exact ⟨A9, n9, c9, B9, m9, k9, rfl, by rw [← hsf]; exact (HF.out.1.set HF.out.2.2 _ 0).base (Nat.le_of_lt HF.out.2.2), by rw [← hsf]; exact (HF.out.2.1.set HF.out.2.2 _ 0).base (Nat.le_of_lt HF.out.2.2), by rw [← hsf]; exact below_setFrom (Nat.le_refl _) _ 0 HBZ.out⟩
/-- Cons of the package clash: what it tells. -/
def consB (f : Nat → Piece) (n : Nat) (g : Nat → Piece) (m : Nat) (p : List (List UInt8)) : Option (List UInt8 × List UInt8) :=
  if 1 ≤ n ∧ n ≤ m ∧ (Tree.all32 p && tcheck n m (troot (tleaves f n)) (troot (tleaves g m)) p) = true then consR f n g m p else none
theorem cCons_any (A : Option Addr) (n c : Nat) (f : Nat → Piece) (B : Option Addr) (m k : Nat) (g : Nat → Piece) (Ap : Option Addr) (np cp : Nat) (p : List (List UInt8)) (w : World) (hn : n ≤ 300) (hn2 : m ≤ 300) (hra : RowsAt w A n f) (hca : n ≤ c ∧ c ≤ maxLen) (hrb : RowsAt w B m g) (hcb : m ≤ k ∧ k ≤ maxLen)
    (hsf : ∀ i, i < n → (f i).n ≤ 1000) (hsg : ∀ i, i < m → (g i).n ≤ 1000) (hp : Ss w Ap np cp p) (hwf : ∀ s ∈ p, s.length ≤ maxLen) (hnp : np ≤ 900) (ht : Tabs w) :
    Calls Tryd.prog 29 #[.slice A n c, .slice B m k, .slice Ap np cp] w (ResPost w.heap.size (consB f n g m p) w) := by
  unfold consB
  by_cases h : 1 ≤ n ∧ n ≤ m ∧ (Tree.all32 p && tcheck n m (troot (tleaves f n)) (troot (tleaves g m)) p) = true
  · rw [if_pos h]
    obtain ⟨h1, h2, h3⟩ := h
    rw [Bool.and_eq_true] at h3
    have h4 := h3.2
    unfold tcheck at h4
    rw [if_neg (by omega), Bool.and_eq_true, Bool.and_eq_true] at h4
    obtain ⟨S, fe, one0, p', Rb, Ra, ps, PL⟩ := plan_of h1 h2 (all32_of h3.1) h4.1.1
    by_cases hfe : fe = 0
    · exact cCons_zero A n c f B m k g Ap np cp p w h1 h2 hn2 hra hca hrb hcb hsf hsg hp hnp ht h3.1 h3.2 PL hfe
    · exact cCons_some A n c f B m k g Ap np cp p w h1 h2 hn2 hra hca hrb hcb hsf hsg hp hnp ht h3.1 h3.2 PL hfe
  · rw [if_neg h]
    refine cCons_no A n c f B m k g Ap np cp p w hn hn2 hra hca hrb hcb hsf hsg hp hwf hnp ht ?_
    by_cases h1 : n = 0
    · exact .inl h1
    · by_cases h2 : m < n
      · exact .inr (.inl h2)
      · refine .inr (.inr ⟨by omega, ?_⟩)
        cases hq : (Tree.all32 p && tcheck n m (troot (tleaves f n)) (troot (tleaves g m)) p) with
        | false => rfl
        | true => exact absurd ⟨by omega, by omega, hq⟩ h
end Go.Proofs.YtlcdpbpbfofmmaaDoor

namespace Go.Proofs.YtlcdpbpbfofmmaaDoor
set_option maxRecDepth 100000
set_option linter.unusedVariables false
open Go.RowKit
theorem firstOf_mem : ∀ {rs : List (Option (List UInt8 × List UInt8))} {r : List UInt8 × List UInt8}, firstOf rs = some r → some r ∈ rs
  | [], r, h => by cases h
  | x :: rs, r, h => by
    have h : x.or (firstOf rs) = some r := h
    cases x with
    | none =>
      rw [Option.none_or] at h
      exact List.mem_cons_of_mem _ (firstOf_mem h)
    | some y => 
      have h : some y = some r := h
      rw [h]; exact List.mem_cons_self
theorem prtL_mem (a b : List (List UInt8)) : ∀ (S : List Cl.St) (fe : Nat) (r : Option (List UInt8 × List UInt8)), r ∈ Cl.prtL a b S fe → ∃ i j, r = Cl.two (Cl.cutL a i j) (Cl.cutL b i j)
  | [], fe, r, h => by
    rw [Cl.prtL, List.mem_singleton] at h
    exact ⟨_, _, h⟩
  | s :: S, fe, r, h => by
    rw [Cl.prtL] at h
    split at h
    · rcases List.mem_cons.1 h with h | h
      · exact ⟨_, _, h⟩
      · exact prtL_mem a b S fe r h
    · exact prtL_mem a b S fe r h
theorem consR_small {f : Nat → Piece} {n : Nat} {g : Nat → Piece} {m : Nat} {p : List (List UInt8)} {S : List Cl.St} {fe : Nat} {one0 : List UInt8} {p' : List (List UInt8)} {Rb Ra : Nat → Option (List UInt8 × List UInt8)} {ps : List (Option (List UInt8 × List UInt8))} (PL : Plan f n g m p S fe one0 p' Rb Ra ps)
    (h32 : ∀ s ∈ p, s.length = 32) (ha : ∀ x ∈ raws f n, x.length ≤ 1000) (hb : ∀ x ∈ raws g m, x.length ≤ 1000) : CSmall (consR f n g m p) := by
  have hX32 : ∀ s ∈ tleaves f n, s.length = 32 := by rw [raws_lv]; exact Cl.lv_all _
  have hY32 : ∀ s ∈ tleaves g m, s.length = 32 := by rw [raws_lv]; exact Cl.lv_all _
  have hp' : ∀ i, (p'.getD i []).length ≤ 32 := fun i => by
    rw [List.getD_eq_getElem?_getD]
    cases hi : p'[i]? with
    | none => exact Nat.zero_le _
    | some d =>
      have hm := List.mem_of_getElem? hi
      have : d ∈ p := by
        rcases PL.hd with h | h
        · rw [h.2.1]; exact hm
        · rw [h.2]; exact List.mem_cons_of_mem _ hm
      show d.length ≤ 32
      rw [h32 d this]; exact Nat.le_refl _
  have tb : ∀ (l : List (List UInt8)) (i j : Nat), (∀ s ∈ l, s.length = 32) → (Cl.topB ((l.drop i).take j)).length ≤ 1000000 := fun l i j h => Nat.le_trans (topB_le (all_take (all_drop h i) j)) (by omega)
  intro r hr
  rw [PL.res] at hr
  have hm := firstOf_mem hr
  rcases List.mem_append.1 hm with hm | hm
  · obtain ⟨t, ht, he⟩ := List.mem_map.1 hm
    obtain ⟨s, hs⟩ : ∃ s, S[t]? = some s := ⟨_, List.getElem?_eq_getElem (List.mem_range.1 ht)⟩
    rw [PL.b t s hs] at he
    unfold Cl.bef1 at he
    split at he
    · have ho := (Cl.ons_len one0 PL.l32 (S.drop (t + 1)) (p'.take (S.length - 1 - t))).1
      have hd := hp' (S.length - 1 - t)
      exact btw_small (by rw [List.length_cons, List.length_append]; omega) (tb _ _ _ hX32) r he
    · cases he
  · rcases List.mem_append.1 hm with hm | hm
    · obtain ⟨t, ht, he⟩ := List.mem_map.1 hm
      obtain ⟨s, hs⟩ : ∃ s, S[t]? = some s := ⟨_, List.getElem?_eq_getElem (List.mem_range.1 ht)⟩
      rw [PL.a t s hs] at he
      unfold Cl.aft1 at he
      have ho := (Cl.ons_len one0 PL.l32 (S.drop (t + 1)) (p'.take (S.length - 1 - t))).2
      have hd := hp' (S.length - 1 - t)
      exact btw_small (by split <;> (rw [List.length_cons, List.length_append]; omega)) (tb _ _ _ hY32) r he
    · rw [PL.parts] at hm
      obtain ⟨i, j, he⟩ := prtL_mem _ _ S fe _ hm
      exact two_small (fun x hx => ha x (List.mem_of_mem_take (List.mem_of_mem_drop hx))) (fun x hx => hb x (List.mem_of_mem_take (List.mem_of_mem_drop hx))) r he.symm
theorem tcheck_roots {n m : Nat} {one two : List UInt8} {p : List (List UInt8)} (h1 : 1 ≤ n) (h : tcheck n m one two p = true) : Cons.roots tnd [] n m true one p = (one, two, true) := by
  unfold tcheck at h
  rw [if_neg (by omega), Bool.and_eq_true, Bool.and_eq_true, decide_eq_true_eq, decide_eq_true_eq] at h
  obtain ⟨⟨h2, h3⟩, h4⟩ := h
  exact Prod.ext h3 (Prod.ext h4 h2)
theorem consB_small {f : Nat → Piece} {n : Nat} {g : Nat → Piece} {m : Nat} {p : List (List UInt8)} (ha : ∀ x ∈ raws f n, x.length ≤ 1000) (hb : ∀ x ∈ raws g m, x.length ≤ 1000) : CSmall (consB f n g m p) := by
  unfold consB
  split
  · rename_i h
    obtain ⟨h1, h2, h3⟩ := h
    rw [Bool.and_eq_true] at h3
    obtain ⟨S, fe, one0, p', Rb, Ra, ps, PL⟩ := plan_of h1 h2 (all32_of h3.1) (by rw [tcheck_roots h1 h3.2])
    exact consR_small PL (all32_of h3.1) ha hb
  · exact CSmall.none
theorem consB_finds {f : Nat → Piece} {n : Nat} {g : Nat → Piece} {m : Nat} {p : List (List UInt8)} (hnm : n ≤ m) (hV : (Tree.all32 p && tcheck n m (troot (tleaves f n)) (troot (tleaves g m)) p) = true) (hne : ¬ raws f n = raws g n) : (consB f n g m p).isSome = true := by
  have h1 : 1 ≤ n := by
    rcases Nat.eq_zero_or_pos n with h0 | h0
    · subst h0; exact absurd rfl hne
    · exact h0
  unfold consB
  rw [if_pos ⟨h1, hnm, hV⟩]
  rw [Bool.and_eq_true] at hV
  cases hR : consR f n g m p with
  | some r => rfl
  | none =>
    exfalso
    unfold consR at hR
    rw [Option.or_eq_none_iff, Option.or_eq_none_iff] at hR
    have := Cl.cons_finds m (raws f n) (raws g m) true (troot (tleaves f n)) p (by rw [raws_len]; exact Nat.le_refl _) (by rw [raws_len]; exact h1) (by rw [raws_len, raws_len]; exact hnm) (all32_of hV.1)
      (by rw [raws_len, raws_len, ← raws_lv, ← raws_lv]; exact tcheck_roots h1 hV.2) (by rw [raws_len, raws_len, ← raws_lv]; exact hR.1) (by rw [raws_len, raws_len, ← raws_lv]; exact hR.2.1) (by rw [raws_len, raws_len]; exact hR.2.2)
    rw [raws_len, raws_take g m n hnm] at this
    exact hne this
theorem consB_own {n : Nat} {g : Nat → Piece} {m : Nat} (hnm : n ≤ m) : consB g n g m (tprove (tleaves g m) n) = none := by
  unfold consB
  split
  · rename_i h
    have h1 := h.1
    rw [tprove_pos _ (by omega)]
    unfold consR
    have e1 := Cl.cons_own (troot (tleaves g n)) m (raws g m) n true (by rw [raws_len]; exact Nat.le_refl _) h1 (by rw [raws_len]; exact hnm) (fun _ => by rw [raws_take g m n hnm, ← raws_lv])
    have e2 := Cl.pa_own m n m (raws g m) h1 hnm
    rw [raws_len, raws_take g m n hnm, ← raws_lv, ← raws_lv] at e1
    rw [raws_take g m n hnm] at e2
    rw [e1.1, e1.2, e2]; rfl
  · rfl
section
variable {ops : Array Oper} {rest : List Oper} {o : Oper} {a : Act} {Q : Exit → Act → World → Prop} {w : World}
/-- x[:k], guarded by what holds. -/
theorem wl_cutR_hig (hw : Region.wanted o (yielded ops a.tmps) = true) (x hi : Operand) (ho : o.op = .slice 22 x none (some hi) none) {A : Option Addr} {n c : Nat} {f : Nat → Piece} (hx : a.eval x = .slice A n c) (h1 : RowsAt w A n f) (hc : n ≤ c) (k : Nat) (hhi : a.eval hi = .int .i64 (k : Int)) (hk : k ≤ n)
    (h : ∀ A', RowsAt w A' k f → wpList Tryd.prog ops Q rest (a.put o.dst (.slice A' k c)) w) : wpList Tryd.prog ops Q (o :: rest) a w := by
  obtain ⟨A', hr, hs⟩ := run_cutR_hi (rows_rd h1) (by simp) hc k hk
  refine wl_of hw fun _ hK => ?_
  unfold Oper.wp execOp
  simp only [ho, Sem.run_bind, Sem.run_pure, Option.map_none, Option.map_some, hx, hhi, hr, Result.andThen_ok]
  exact hK _ _ (h A' (rd_rows hs (fun i hi => by rw [List.getElem?_take_of_lt hi, List.getElem?_map, List.getElem?_range (by omega)]; rfl) (fun i hi => rows_pc h1 (by omega))))
end
end Go.Proofs.YtlcdpbpbfofmmaaDoor
