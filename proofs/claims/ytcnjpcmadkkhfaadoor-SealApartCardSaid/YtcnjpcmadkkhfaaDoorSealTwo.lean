/- SealTwo: the walk of the law. -/
import Derived.Test.YtcnjpcmadkkhfaaDoorSealSeals
namespace Go.Proofs.YtcnjpcmadkkhfaaDoor
set_option linter.unusedVariables false
open Go.RowKit

/-- A slice of bytes that is told. -/
def PieceP (n : Nat) (l : List UInt8) (w : World) (e : Ending) (w' : World) : Prop :=
  ∃ A c, e = .returned (.slice A n c) ∧ Rd w' w'.heap.size A (l.map bv) ∧ n ≤ c ∧ c ≤ maxLen ∧ Below w.heap.size w w'
theorem JoinPost.piece {kd : UInt8} {l : List UInt8} {n : Nat} {w : World} {e : Ending} {w' : World} (h : JoinPost kd l w e w') (hn : l.length + 1 = n) : PieceP n (kd :: l) w e w' := by
  obtain ⟨A, c, he, ho, h1, h2, hb⟩ := h
  subst hn
  exact ⟨A, c, he, Rd.of_own ho, h1, h2, hb⟩
theorem leafP (A : Option Addr) (n c : Nat) (l : List UInt8) (w : World) (hr : Rd w w.heap.size A (l.map bv)) (hl : l.length = n) (hc : n ≤ c) (hm : c ≤ maxLen) (hs : n ≤ 1000000) :
    Calls Tryd.prog 25 #[.slice A n c] w (PieceP (n + 1) (0 :: l) w) := (leafBytes_any A n c l w hr hl hc hm hs).mono fun e w' h => h.piece (by rw [hl])
theorem nodeP (l r : List UInt8) (w : World) (hl : l.length = 32) (hr : r.length = 32) :
    Calls Tryd.prog 26 #[sv l, sv r] w (PieceP 65 (1 :: (l ++ r)) w) := (nodeBytes_any l r w (by omega) (by omega)).mono fun e w' h => h.piece (by rw [List.length_append, hl, hr])
def BetweenAny (n m : Nat) (a b : List UInt8) (w : World) (e : Ending) (w' : World) : Prop :=
  ∃ A n' c B m' k, Below w.heap.size w w' ∧ e = .returned (.tuple #[.agg #[.slice A n' c, .slice B m' k], .bool (clashB a b)]) ∧ (clashB a b = true → n' = n ∧ m' = m ∧ Rd w' w'.heap.size A (a.map bv) ∧ n ≤ c ∧ c ≤ maxLen ∧ Rd w' w'.heap.size B (b.map bv) ∧ m ≤ k ∧ k ≤ maxLen)
theorem between_any (A : Option Addr) (n c : Nat) (B : Option Addr) (m k : Nat) (a b : List UInt8) (w : World) (hA : Rd w w.heap.size A (a.map bv)) (hl : a.length = n) (hc : n ≤ c) (hm : c ≤ maxLen) (hn : n ≤ 1000000)
    (hB : Rd w w.heap.size B (b.map bv)) (hr : b.length = m) (hk : m ≤ k) (hk2 : k ≤ maxLen) (hn2 : m ≤ 1000000) (ht : Tabs w) :
    Calls Tryd.prog 36 #[.slice A n c, .slice B m k] w (BetweenAny n m a b w) := by
  cases hcl : clashB a b with
  | true =>
    refine (between_yes A n c B m k a b w hA hl hc hm hn hB hr hk hk2 hn2 ht hcl).mono ?_
    rintro e w' ⟨A', c', B', k', hb, he, h1, h2, h3, h4, h5, h6⟩
    exact ⟨A', n, c', B', m, k', hb, by rw [hcl]; exact he, fun _ => ⟨rfl, rfl, h1, h2, h3, h4, h5, h6⟩⟩
  | false =>
    refine (between_no A n c B m k a b w hA hl hc hm hn hB hr hk hk2 hn2 ht hcl).mono ?_
    rintro e w' ⟨he, hb⟩
    exact ⟨none, 0, 0, none, 0, 0, hb, by rw [hcl]; exact he, fun h => by rw [hcl] at h; cases h⟩
theorem append32 {l r p q : List UInt8} (h : l.length = p.length) : (l ++ r = p ++ q) ↔ (l = p ∧ r = q) := by
  constructor
  · intro e
    exact List.append_inj e h
  · rintro ⟨rfl, rfl⟩; rfl
set_option maxRecDepth 100000 in
set_option maxHeartbeats 16000000 in
theorem two_any (A : Option Addr) (n c : Nat) (a : List UInt8) (B : Option Addr) (m k : Nat) (b : List UInt8) (l : List UInt8) (hwl : l.length ≤ maxLen) (r : List UInt8) (hwr : r.length ≤ maxLen) (p : List UInt8) (hwp : p.length ≤ maxLen) (q : List UInt8) (hwq : q.length ≤ maxLen) (w : World)
    (hr : Rd w w.heap.size A (a.map bv)) (hn : a.length = n) (hc : n ≤ c) (hm : c ≤ maxLen) (hr2 : Rd w w.heap.size B (b.map bv)) (hn2 : b.length = m) (hk : m ≤ k) (hk2 : k ≤ maxLen) (ht : Tabs w) :
    Calls Tryd.prog 12 #[.slice A n c, .slice B m k, sv l, sv r, sv p, sv q] w (Yes w) := by
  have HT := Lib.hid ht
  have HR := Lib.hid (And.intro hr (And.intro hn hm))
  have HR2 := Lib.hid (And.intro hr2 (And.intro hn2 hk2))
  rw [maxLen_eq] at hm hk2
  clear hr hn ht hr2 hn2 hwl hwr hwp hwq
  obtain ⟨nl, hnl⟩ : ∃ x, l.length = x := ⟨_, rfl⟩
  obtain ⟨nr, hnr⟩ : ∃ x, r.length = x := ⟨_, rfl⟩
  obtain ⟨np, hnp⟩ : ∃ x, p.length = x := ⟨_, rfl⟩
  obtain ⟨nq, hnq⟩ : ∃ x, q.length = x := ⟨_, rfl⟩
  have z1 : (str l).size = nl := by rw [str_size]; exact hnl
  have z2 : (str r).size = nr := by rw [str_size]; exact hnr
  have z3 : (str p).size = np := by rw [str_size]; exact hnp
  have z4 : (str q).size = nq := by rw [str_size]; exact hnq
  have HN := Lib.hid (And.intro hnl (And.intro hnr (And.intro hnp hnq)))
  clear hnl hnr hnp hnq
  have skip : ∀ (hbig : ¬ (n ≤ 2000 ∧ m ≤ 2000 ∧ nl = 32 ∧ nr = 32 ∧ np = 32 ∧ nq = 32)), Calls Tryd.prog 12 #[.slice A n c, .slice B m k, sv l, sv r, sv p, sv q] w (Yes w) := by
    intro hbig
    by_cases h1 : n ≤ 2000
    · have g1 : decide (n > 2000) = false := decide_eq_false (by omega)
      have G := Lib.hid g1
      clear g1
      by_cases h2 : m ≤ 2000
      · have g2 : decide (m > 2000) = false := decide_eq_false (by omega)
        have G2 := Lib.hid g2
        clear g2
        by_cases hnl : nl = 32
        · subst hnl
          by_cases hnr : nr = 32
          · subst hnr
            by_cases hnp : np = 32
            · subst hnp
              by_cases hnq : nq = 32
              · exact absurd ⟨h1, h2, by omega, by omega, by omega, by omega⟩ hbig
              · have fnq : ((nq : Int) == 32) = false := by simpa using (by omega : ¬ (nq : Int) = 32)
                clear hbig
                go_enter Tryd.func12, Tryd.ntmps12
                go_wp2_with fail
                refine (great_any A n c w hc hm).mono ?_
                rintro e w0 ⟨rfl, rfl⟩
                rw [G.out]
                go_wp2_with fail
                refine (great_any B m k w hk hk2).mono ?_
                rintro e w0 ⟨rfl, rfl⟩
                rw [G2.out]
                go_wp2_with fail
                refine (knows3_any _ HT.out).mono ?_
                rintro e w4 ⟨rfl, hb4⟩
                go_wp2
                go_ret
                exact ⟨rfl, hb4⟩
            · have fnp : ((np : Int) == 32) = false := by simpa using (by omega : ¬ (np : Int) = 32)
              clear hbig
              go_enter Tryd.func12, Tryd.ntmps12
              go_wp2_with fail
              refine (great_any A n c w hc hm).mono ?_
              rintro e w0 ⟨rfl, rfl⟩
              rw [G.out]
              go_wp2_with fail
              refine (great_any B m k w hk hk2).mono ?_
              rintro e w0 ⟨rfl, rfl⟩
              rw [G2.out]
              go_wp2_with fail
              refine (knows3_any _ HT.out).mono ?_
              rintro e w4 ⟨rfl, hb4⟩
              go_wp2
              go_ret
              exact ⟨rfl, hb4⟩
          · have fnr : ((nr : Int) == 32) = false := by simpa using (by omega : ¬ (nr : Int) = 32)
            clear hbig
            go_enter Tryd.func12, Tryd.ntmps12
            go_wp2_with fail
            refine (great_any A n c w hc hm).mono ?_
            rintro e w0 ⟨rfl, rfl⟩
            rw [G.out]
            go_wp2_with fail
            refine (great_any B m k w hk hk2).mono ?_
            rintro e w0 ⟨rfl, rfl⟩
            rw [G2.out]
            go_wp2_with fail
            refine (knows3_any _ HT.out).mono ?_
            rintro e w4 ⟨rfl, hb4⟩
            go_wp2
            go_ret
            exact ⟨rfl, hb4⟩
        · have fnl : ((nl : Int) == 32) = false := by simpa using (by omega : ¬ (nl : Int) = 32)
          clear hbig
          go_enter Tryd.func12, Tryd.ntmps12
          go_wp2_with fail
          refine (great_any A n c w hc hm).mono ?_
          rintro e w0 ⟨rfl, rfl⟩
          rw [G.out]
          go_wp2_with fail
          refine (great_any B m k w hk hk2).mono ?_
          rintro e w0 ⟨rfl, rfl⟩
          rw [G2.out]
          go_wp2_with fail
          refine (knows3_any _ HT.out).mono ?_
          rintro e w4 ⟨rfl, hb4⟩
          go_wp2
          go_ret
          exact ⟨rfl, hb4⟩
      · have g2 : decide (m > 2000) = true := decide_eq_true (by omega)
        have G2 := Lib.hid g2
        clear g2 hbig
        go_enter Tryd.func12, Tryd.ntmps12
        go_wp2_with fail
        refine (great_any A n c w hc hm).mono ?_
        rintro e w0 ⟨rfl, rfl⟩
        rw [G.out]
        go_wp2_with fail
        refine (great_any B m k w hk hk2).mono ?_
        rintro e w0 ⟨rfl, rfl⟩
        rw [G2.out]
        go_wp2_with fail
        refine (knows3_any _ HT.out).mono ?_
        rintro e w4 ⟨rfl, hb4⟩
        go_wp2
        go_ret
        exact ⟨rfl, hb4⟩
    · have g1 : decide (n > 2000) = true := decide_eq_true (by omega)
      have G := Lib.hid g1
      clear g1 hbig
      go_enter Tryd.func12, Tryd.ntmps12
      go_wp2_with fail
      refine (great_any A n c w hc hm).mono ?_
      rintro e w0 ⟨rfl, rfl⟩
      rw [G.out]
      go_wp2_with fail
      refine (knows3_any _ HT.out).mono ?_
      rintro e w4 ⟨rfl, hb4⟩
      go_wp2
      go_ret
      exact ⟨rfl, hb4⟩
  by_cases hbig : n ≤ 2000 ∧ m ≤ 2000 ∧ nl = 32 ∧ nr = 32 ∧ np = 32 ∧ nq = 32
  · clear skip
    obtain ⟨h1, h2, rfl, rfl, rfl, rfl⟩ := hbig
    have g1 : decide (n > 2000) = false := decide_eq_false (by omega)
    have G := Lib.hid g1
    have g2 : decide (m > 2000) = false := decide_eq_false (by omega)
    have G2 := Lib.hid g2
    clear g1 g2
    obtain ⟨L, hL⟩ : ∃ L, seal_ 0 a = L := ⟨_, rfl⟩
    obtain ⟨M, hM⟩ : ∃ M, seal_ 0 b = M := ⟨_, rfl⟩
    have c1 := fun (W : World) (h : Below w.heap.size w W) => leaf_any A n c a W (HR.out.1.below' h (Nat.le_refl _) |>.more h.size) HR.out.2.1 hc HR.out.2.2 (by omega) (HT.out.below h)
    have c2 := fun (W : World) (h : Below w.heap.size w W) => leaf_any B m k b W (HR2.out.1.below' h (Nat.le_refl _) |>.more h.size) HR2.out.2.1 hk HR2.out.2.2 (by omega) (HT.out.below h)
    have p1 := fun (W : World) (h : Below w.heap.size w W) => leafP A n c a W (HR.out.1.below' h (Nat.le_refl _) |>.more h.size) HR.out.2.1 hc HR.out.2.2 (by omega)
    have p2 := fun (W : World) (h : Below w.heap.size w W) => leafP B m k b W (HR2.out.1.below' h (Nat.le_refl _) |>.more h.size) HR2.out.2.1 hk HR2.out.2.2 (by omega)
    unfold SealPost at c1 c2
    rw [hL] at c1
    rw [hM] at c2
    have C1 := Lib.hid c1
    have C2 := Lib.hid c2
    have P1 := Lib.hid p1
    have P2 := Lib.hid p2
    have hcl : clashB (0 :: a) (0 :: b) = (decide (L = M) && !decide (a = b)) := by
      unfold clashB
      show (decide (seal_ 0 a = seal_ 0 b) && _) = _
      rw [hL, hM]
      by_cases h5 : a = b <;> simp [h5]
    have HCL0 := Lib.hid hcl
    have e1 := streq a b
    have e2 := streq L M
    have HE1 := Lib.hid e1
    have HE2 := Lib.hid e2
    clear c1 c2 p1 p2 hL hM hcl e1 e2
    go_enter Tryd.func12, Tryd.ntmps12
    go_wp2_with fail
    refine (great_any A n c w hc hm).mono ?_
    rintro e w0 ⟨rfl, rfl⟩
    rw [G.out]
    go_wp2_with fail
    refine (great_any B m k w hk hk2).mono ?_
    rintro e w0 ⟨rfl, rfl⟩
    rw [G2.out]
    go_wp2_with fail
    refine (P1.out _ (Below.refl _ _)).mono ?_
    rintro e w1 ⟨A3, c3, rfl, hr3, hc3, hc3', hb1⟩
    have HR3 := Lib.hid (And.intro hr3 (And.intro hc3 hc3'))
    clear hr3 hc3 hc3'
    have HB1 := Lib.hid (hb1)
    clear hb1
    go_wp2_with fail
    refine (P2.out _ HB1.out).mono ?_
    rintro e w2 ⟨A4, c4, rfl, hr4, hc4, hc4', hb2⟩
    have HR4 := Lib.hid (And.intro hr4 (And.intro hc4 hc4'))
    have HR3' := Lib.hid ((HR3.out.1.below' hb2 (Nat.le_refl _)).more hb2.size)
    clear hr4 hc4 hc4'
    have HB2 := Lib.hid (bt HB1.out hb2)
    clear hb2
    go_wp2_with fail
    refine (between_any A3 (n + 1) c3 A4 (m + 1) c4 (0 :: a) (0 :: b) _ HR3'.out (by simp [HR.out.2.1]) HR3.out.2.1 HR3.out.2.2 (by omega) HR4.out.1 (by simp [HR2.out.2.1]) HR4.out.2.1 HR4.out.2.2 (by omega) (HT.out.below HB2.out)).mono ?_
    rintro e w3 ⟨A5, n5, c5, B5, m5, k5, hb3, rfl, hr5⟩
    have HR5 := Lib.hid hr5
    clear hr5
    have HB3 := Lib.hid (bt HB2.out hb3)
    clear hb3
    go_upto_region 4 with fail
    rename_i K1 h1x K h
    have key : ∀ (u13 u14 u21 u22 u23 u24 u25 u26 u27 u28 u29 u30 u31 u32 u33 u34 u35 u36 u37 u38 u39 u40 u41 u42 u43 u44 u45 u46 u48 u49 u50 u51 u52 u53 u54 u55 u56 u57 u58 u59 u60 u61 u62 u63 u64 u65 u66 u67 u68 u69 u70 u71 u72 u73 u74 u75 u76 u77 : Value) (wx : World), Below w.heap.size w wx → K1 { tmps := #[.slice A n c, .slice B m k, sv l, sv r, sv p, sv q, undef, undef, undef, undef, undef, undef, .bool false, u13, u14, undef, undef, undef, undef, undef, undef, u21, u22, u23, u24, u25, u26, u27, u28, u29, u30, u31, u32, u33, u34, u35, u36, u37, u38, u39, u40, u41, u42, u43, u44, u45, u46, undef, u48, u49, u50, u51, u52, u53, u54, u55, u56, u57, u58, u59, u60, u61, u62, u63, u64, u65, u66, u67, u68, u69, u70, u71, u72, u73, u74, u75, u76, u77, undef, undef, undef, undef, undef, undef, undef, undef, undef, undef, undef, undef, undef, undef, undef, undef, undef, undef, undef, undef, undef, undef, undef, undef, undef, undef, undef, undef, undef, undef, undef, undef, undef, undef, undef, undef, undef, undef, undef, undef, undef, undef, undef, undef, undef, undef, undef, undef, undef, undef], defers := [] } wx := by
      clear h K C1 C2 P1 P2
      intro u13 u14 u21 u22 u23 u24 u25 u26 u27 u28 u29 u30 u31 u32 u33 u34 u35 u36 u37 u38 u39 u40 u41 u42 u43 u44 u45 u46 u48 u49 u50 u51 u52 u53 u54 u55 u56 u57 u58 u59 u60 u61 u62 u63 u64 u65 u66 u67 u68 u69 u70 u71 u72 u73 u74 u75 u76 u77 wx hx
      have HX := Lib.hid hx
      clear hx
      refine h1x _ _ ?_
      clear h1x
      obtain ⟨X, hX⟩ : ∃ X, seal_ 1 (l ++ r) = X := ⟨_, rfl⟩
      obtain ⟨Y, hY⟩ : ∃ Y, seal_ 1 (p ++ q) = Y := ⟨_, rfl⟩
      have c1 := fun (W : World) (h : Below w.heap.size w W) => node_any l r W HN.out.1 HN.out.2.1 (HT.out.below h)
      have c2 := fun (W : World) (h : Below w.heap.size w W) => node_any p q W HN.out.2.2.1 HN.out.2.2.2 (HT.out.below h)
      unfold NodePost at c1 c2
      rw [hX] at c1
      rw [hY] at c2
      have C1 := Lib.hid c1
      have C2 := Lib.hid c2
      have hcl : clashB (1 :: (l ++ r)) (1 :: (p ++ q)) = (decide (X = Y) && !(decide (l = p) && decide (r = q))) := by
        unfold clashB
        show (decide (seal_ 1 (l ++ r) = seal_ 1 (p ++ q)) && _) = _
        rw [hX, hY]
        congr 1
        have e := append32 (l := l) (r := r) (p := p) (q := q) (by rw [HN.out.1, HN.out.2.2.1])
        by_cases h5 : l = p <;> by_cases h6 : r = q <;> simp [e, h5, h6]
      have HCL := Lib.hid hcl
      have HX1 := Lib.hid (show Sha.sum (1 :: (l ++ r)) = X from hX)
      have HY1 := Lib.hid (show Sha.sum (1 :: (p ++ q)) = Y from hY)
      clear c1 c2 hX hY hcl
      by_cases h5 : l = p
      · by_cases h6 : r = q
        · have HY : Hid (clashB (1 :: (l ++ r)) (1 :: (p ++ q)) = false) := Lib.hid (by rw [HCL.out]; simp [h5, h6])
          have H5 := Lib.hid h5
          clear h5
          have H6 := Lib.hid h6
          clear h6
          go_wp2_with fail
          refine (C1.out _ HX.out).mono ?_
          rintro e w1 ⟨rfl, hb1⟩
          have HB1 := Lib.hid (bt HX.out hb1)
          clear hb1
          go_wp2_with fail
          refine (C2.out _ HB1.out).mono ?_
          rintro e w2 ⟨rfl, hb2⟩
          have HB2 := Lib.hid (bt HB1.out hb2)
          clear hb2
          go_wp2_with fail
          refine (nodeP l r _ HN.out.1 HN.out.2.1).mono ?_
          rintro e w3 ⟨A3, c3, rfl, hr3, hc3, hc3', hb3⟩
          have HR3 := Lib.hid (And.intro hr3 (And.intro hc3 hc3'))
          clear hr3 hc3 hc3'
          have HB3 := Lib.hid (bt HB2.out hb3)
          clear hb3
          go_wp2_with fail
          refine (nodeP p q _ HN.out.2.2.1 HN.out.2.2.2).mono ?_
          rintro e w4 ⟨A4, c4, rfl, hr4, hc4, hc4', hb4⟩
          have HR4 := Lib.hid (And.intro hr4 (And.intro hc4 hc4'))
          have HR3' := Lib.hid ((HR3.out.1.below' hb4 (Nat.le_refl _)).more hb4.size)
          clear hr4 hc4 hc4'
          have HB4 := Lib.hid (bt HB3.out hb4)
          clear hb4
          go_wp2_with fail
          refine (between_no A3 65 c3 A4 65 c4 (1 :: (l ++ r)) (1 :: (p ++ q)) _ HR3'.out (by simp [HN.out.1, HN.out.2.1]) HR3.out.2.1 HR3.out.2.2 (by omega) HR4.out.1 (by simp [HN.out.2.2.1, HN.out.2.2.2]) HR4.out.2.1 HR4.out.2.2 (by omega) (HT.out.below HB4.out) HY.out).mono ?_
          rintro e w5 ⟨rfl, hb5⟩
          have HB5 := Lib.hid (bt HB4.out hb5)
          clear hb5
          go_wp2_with fail
          obtain ⟨h0, hh0⟩ : ∃ h0, w5.heap.size = h0 := ⟨_, rfl⟩
          obtain ⟨W0, hW0⟩ : ∃ W, w5.alloc (.cells #[.slice none 0 0, .slice none 0 0] 53) = W := ⟨_, rfl⟩
          have hrow : Row W0 h0 #[.slice none 0 0, .slice none 0 0] 53 := by rw [← hW0, ← hh0]; exact row_new w5 _ _
          have hb50 : Below w5.heap.size w5 W0 := by rw [← hW0]; exact (Below.refl _ w5).alloc (Nat.le_refl _) _
          have HB50 := Lib.hid hb50
          have HB0 := Lib.hid (bt HB5.out hb50)
          (try rw [hW0]); (try rw [hh0])
          refine Free.wp_free_l 27 (fun W => Below W0.heap.size W0 W) [Free.kc (.bool false), Free.kc (sv l), Free.kc (sv p), Free.kc (.bool false), Free.kc (.bool false), Free.kc (sv r), Free.kc (sv q), Free.kc (.bool false), Free.kc (.bool false), Free.kc (.bool false), Free.kc (undef), Free.kc (undef), Free.kc (undef), Free.kc (.bool false), Free.kc (.bool false), Free.kc (.bool false), Free.kc (.bool false), Free.kc (.bool false), Free.kc (undef), Free.kc (undef), Free.kc (undef), Free.kc (undef), Free.kc (undef), Free.kc (undef), Free.kc (undef), Free.kc (.bool false), Free.kc (.bool false)] (by kernel_rfl) (by kernel_rfl) (by decide) (Below.refl _ _).drew (fun w w' h g => bt h g) ?_ ?_
          · refine Free.forall_succ (Free.forall_succ (Free.forall_succ (Free.forall_succ (Free.forall_succ (Free.forall_succ (Free.forall_succ (Free.forall_succ (Free.forall_succ (Free.forall_succ (Free.forall_succ (Free.forall_succ (Free.forall_succ (Free.forall_succ (Free.forall_succ (Free.forall_succ (Free.forall_succ (Free.forall_succ (Free.forall_succ (Free.forall_succ (Free.forall_succ (Free.forall_succ (Free.forall_succ (Free.forall_succ (Free.forall_succ (Free.forall_succ (Free.forall_succ (Free.forall_zero) ?_) ?_) ?_) ?_) ?_) ?_) ?_) ?_) ?_) ?_) ?_) ?_) ?_) ?_) ?_) ?_) ?_) ?_) ?_) ?_) ?_) ?_) ?_) ?_) ?_) ?_) ?_
            · exact Free.ob_plain _ rfl rfl fun vals wq hC hd => (by exact Free.d_move rfl (by kernel_rfl) rfl)
            · exact Free.ob_plain _ rfl rfl fun vals wq hC hd => (by exact Free.d_move rfl (by kernel_rfl) rfl)
            · exact Free.ob_plain _ rfl rfl fun vals wq hC hd => (by exact Free.d_move rfl (by kernel_rfl) rfl)
            · exact Free.ob_plain _ rfl rfl fun vals wq hC hd => (by exact Free.d_bin rfl (Eq.trans (b := vals 1) (by kernel_rfl) (hd 1 (by kernel_rfl))) (Eq.trans (b := vals 2) (by kernel_rfl) (hd 2 (by kernel_rfl))) (by go_simp) (by rw [run_neq_str]; simp [H5.out]) rfl)
            · exact Free.ob_plain _ rfl rfl fun vals wq hC hd => (by exact Free.d_move rfl (Eq.trans (b := vals 3) (by kernel_rfl) (hd 3 (by kernel_rfl))) rfl)
            · exact Free.ob_guard _ rfl 4 104 false rfl rfl fun vals wq hC hd => ⟨Eq.trans (b := vals 4) (by kernel_rfl) (hd 4 (by kernel_rfl)), (by exact Free.d_move rfl (by kernel_rfl) rfl)⟩
            · exact Free.ob_guard _ rfl 4 104 false rfl rfl fun vals wq hC hd => ⟨Eq.trans (b := vals 4) (by kernel_rfl) (hd 4 (by kernel_rfl)), (by exact Free.d_move rfl (by kernel_rfl) rfl)⟩
            · exact Free.ob_guard _ rfl 4 104 false rfl rfl fun vals wq hC hd => ⟨Eq.trans (b := vals 4) (by kernel_rfl) (hd 4 (by kernel_rfl)), (by exact Free.d_bin rfl (Eq.trans (b := vals 5) (by kernel_rfl) (hd 5 (by kernel_rfl))) (Eq.trans (b := vals 6) (by kernel_rfl) (hd 6 (by kernel_rfl))) (by go_simp) (by rw [run_neq_str]; simp [H6.out]) rfl)⟩
            · exact Free.ob_plain _ rfl rfl fun vals wq hC hd => (by exact Free.d_pick rfl (Eq.trans (b := vals 4) (by kernel_rfl) (hd 4 (by kernel_rfl))) (Eq.trans (b := vals 7) (by kernel_rfl) (hd 7 (by kernel_rfl))) rfl)
            · exact Free.ob_plain _ rfl rfl fun vals wq hC hd => (by exact Free.d_move rfl (Eq.trans (b := vals 8) (by kernel_rfl) (hd 8 (by kernel_rfl))) rfl)
            · exact Free.ob_skip _ rfl 9 109 true rfl rfl fun vals wq hC hd => ⟨.inl (Eq.trans (b := vals 9) (by kernel_rfl) (hd 9 (by kernel_rfl))), rfl⟩
            · exact Free.ob_skip _ rfl 9 109 true rfl rfl fun vals wq hC hd => ⟨.inl (Eq.trans (b := vals 9) (by kernel_rfl) (hd 9 (by kernel_rfl))), rfl⟩
            · exact Free.ob_skip _ rfl 9 109 true rfl rfl fun vals wq hC hd => ⟨.inl (Eq.trans (b := vals 9) (by kernel_rfl) (hd 9 (by kernel_rfl))), rfl⟩
            · exact Free.ob_plain _ rfl rfl fun vals wq hC hd => (by exact Free.d_pick rfl (Eq.trans (b := vals 9) (by kernel_rfl) (hd 9 (by kernel_rfl))) rfl rfl)
            · exact Free.ob_plain _ rfl rfl fun vals wq hC hd => (by exact Free.d_bin rfl (Eq.trans (b := vals 0) (by kernel_rfl) (hd 0 (by kernel_rfl))) (Eq.trans (b := vals 13) (by kernel_rfl) (hd 13 (by kernel_rfl))) (by go_simp) (by go_simp) rfl)
            · exact Free.ob_plain _ rfl rfl fun vals wq hC hd => (by exact Free.d_move rfl (Eq.trans (b := vals 14) (by kernel_rfl) (hd 14 (by kernel_rfl))) rfl)
            · exact Free.ob_guard _ rfl 15 115 false rfl rfl fun vals wq hC hd => ⟨Eq.trans (b := vals 15) (by kernel_rfl) (hd 15 (by kernel_rfl)), (by exact Free.d_move rfl (by kernel_rfl) rfl)⟩
            · exact Free.ob_guard _ rfl 15 115 false rfl rfl fun vals wq hC hd => ⟨Eq.trans (b := vals 15) (by kernel_rfl) (hd 15 (by kernel_rfl)), (by exact Free.d_move rfl (Eq.trans (b := vals 16) (by kernel_rfl) (hd 16 (by kernel_rfl))) rfl)⟩
            · exact Free.ob_skip _ rfl 17 117 true rfl rfl fun vals wq hC hd => ⟨.inl (Eq.trans (b := vals 17) (by kernel_rfl) (hd 17 (by kernel_rfl))), rfl⟩
            · exact Free.ob_skip _ rfl 17 117 true rfl rfl fun vals wq hC hd => ⟨.inl (Eq.trans (b := vals 17) (by kernel_rfl) (hd 17 (by kernel_rfl))), rfl⟩
            · exact Free.ob_skip _ rfl 17 117 true rfl rfl fun vals wq hC hd => ⟨.inl (Eq.trans (b := vals 17) (by kernel_rfl) (hd 17 (by kernel_rfl))), rfl⟩
            · exact Free.ob_skip _ rfl 17 117 true rfl rfl fun vals wq hC hd => ⟨.inl (Eq.trans (b := vals 17) (by kernel_rfl) (hd 17 (by kernel_rfl))), rfl⟩
            · exact Free.ob_skip _ rfl 17 117 true rfl rfl fun vals wq hC hd => ⟨.inl (Eq.trans (b := vals 17) (by kernel_rfl) (hd 17 (by kernel_rfl))), rfl⟩
            · exact Free.ob_skip _ rfl 17 117 true rfl rfl fun vals wq hC hd => ⟨.inl (Eq.trans (b := vals 17) (by kernel_rfl) (hd 17 (by kernel_rfl))), rfl⟩
            · exact Free.ob_skip _ rfl 17 117 true rfl rfl fun vals wq hC hd => ⟨.inl (Eq.trans (b := vals 17) (by kernel_rfl) (hd 17 (by kernel_rfl))), rfl⟩
            · exact Free.ob_guard _ rfl 15 115 false rfl rfl fun vals wq hC hd => ⟨Eq.trans (b := vals 15) (by kernel_rfl) (hd 15 (by kernel_rfl)), (by exact Free.d_pick rfl (Eq.trans (b := vals 17) (by kernel_rfl) (hd 17 (by kernel_rfl))) rfl rfl)⟩
            · exact Free.ob_plain _ rfl rfl fun vals wq hC hd => (by exact Free.d_pick rfl (Eq.trans (b := vals 15) (by kernel_rfl) (hd 15 (by kernel_rfl))) (Eq.trans (b := vals 25) (by kernel_rfl) (hd 25 (by kernel_rfl))) rfl)
          · intro vals wq hC hd
            have e0 : vals 0 = (.bool false) := hd 0 (by decide)
            have e1 : vals 1 = (sv l) := hd 1 (by decide)
            have e2 : vals 2 = (sv p) := hd 2 (by decide)
            have e3 : vals 3 = (.bool false) := hd 3 (by decide)
            have e4 : vals 4 = (.bool false) := hd 4 (by decide)
            have e5 : vals 5 = (sv r) := hd 5 (by decide)
            have e6 : vals 6 = (sv q) := hd 6 (by decide)
            have e7 : vals 7 = (.bool false) := hd 7 (by decide)
            have e8 : vals 8 = (.bool false) := hd 8 (by decide)
            have e9 : vals 9 = (.bool false) := hd 9 (by decide)
            have e10 : vals 10 = (undef) := hd 10 (by decide)
            have e11 : vals 11 = (undef) := hd 11 (by decide)
            have e12 : vals 12 = (undef) := hd 12 (by decide)
            have e13 : vals 13 = (.bool false) := hd 13 (by decide)
            have e14 : vals 14 = (.bool false) := hd 14 (by decide)
            have e15 : vals 15 = (.bool false) := hd 15 (by decide)
            have e16 : vals 16 = (.bool false) := hd 16 (by decide)
            have e17 : vals 17 = (.bool false) := hd 17 (by decide)
            have e18 : vals 18 = (undef) := hd 18 (by decide)
            have e19 : vals 19 = (undef) := hd 19 (by decide)
            have e20 : vals 20 = (undef) := hd 20 (by decide)
            have e21 : vals 21 = (undef) := hd 21 (by decide)
            have e22 : vals 22 = (undef) := hd 22 (by decide)
            have e23 : vals 23 = (undef) := hd 23 (by decide)
            have e24 : vals 24 = (undef) := hd 24 (by decide)
            have e25 : vals 25 = (.bool false) := hd 25 (by decide)
            have e26 : vals 26 = (.bool false) := hd 26 (by decide)
            simp only [Free.frameOf, List.range, List.range.loop, List.foldl, Free.dstOf, List.getElem?_toArray, List.getElem?_cons_zero, List.getElem?_cons_succ, Option.bind_some, Act.put, List.setIfInBounds_toArray, List.set_cons_zero, List.set_cons_succ, e0, e1, e2, e3, e4, e5, e6, e7, e8, e9, e10, e11, e12, e13, e14, e15, e16, e17, e18, e19, e20, e21, e22, e23, e24, e25, e26]
            refine wpList_nil ?_
            clear hd e0 e1 e2 e3 e4 e5 e6 e7 e8 e9 e10 e11 e12 e13 e14 e15 e16 e17 e18 e19 e20 e21 e22 e23 e24 e25 e26
            have HBQ := Lib.hid (bt HB0.out hC)
            clear hC
            go_wp2_with fail
            refine (knows3_any _ (HT.out.below HBQ.out)).mono ?_
            rintro e wz ⟨rfl, hbz⟩
            have HBZ := Lib.hid (bt HBQ.out hbz)
            clear hbz
            go_wp2
            go_ret
            exact ⟨rfl, HBZ.out⟩
        · by_cases h7 : X = Y
          · have HY : Hid (clashB (1 :: (l ++ r)) (1 :: (p ++ q)) = true) := Lib.hid (by rw [HCL.out]; simp [h5, h6, h7])
            have H5 := Lib.hid h5
            clear h5
            have H6 := Lib.hid h6
            clear h6
            have H7 := Lib.hid h7
            clear h7
            go_wp2_with fail
            refine (C1.out _ HX.out).mono ?_
            rintro e w1 ⟨rfl, hb1⟩
            have HB1 := Lib.hid (bt HX.out hb1)
            clear hb1
            go_wp2_with fail
            refine (C2.out _ HB1.out).mono ?_
            rintro e w2 ⟨rfl, hb2⟩
            have HB2 := Lib.hid (bt HB1.out hb2)
            clear hb2
            go_wp2_with fail
            refine (nodeP l r _ HN.out.1 HN.out.2.1).mono ?_
            rintro e w3 ⟨A3, c3, rfl, hr3, hc3, hc3', hb3⟩
            have HR3 := Lib.hid (And.intro hr3 (And.intro hc3 hc3'))
            clear hr3 hc3 hc3'
            have HB3 := Lib.hid (bt HB2.out hb3)
            clear hb3
            go_wp2_with fail
            refine (nodeP p q _ HN.out.2.2.1 HN.out.2.2.2).mono ?_
            rintro e w4 ⟨A4, c4, rfl, hr4, hc4, hc4', hb4⟩
            have HR4 := Lib.hid (And.intro hr4 (And.intro hc4 hc4'))
            have HR3' := Lib.hid ((HR3.out.1.below' hb4 (Nat.le_refl _)).more hb4.size)
            clear hr4 hc4 hc4'
            have HB4 := Lib.hid (bt HB3.out hb4)
            clear hb4
            go_wp2_with fail
            refine (between_yes A3 65 c3 A4 65 c4 (1 :: (l ++ r)) (1 :: (p ++ q)) _ HR3'.out (by simp [HN.out.1, HN.out.2.1]) HR3.out.2.1 HR3.out.2.2 (by omega) HR4.out.1 (by simp [HN.out.2.2.1, HN.out.2.2.2]) HR4.out.2.1 HR4.out.2.2 (by omega) (HT.out.below HB4.out) HY.out).mono ?_
            rintro e w5 ⟨A5, c5, B5, k5, hb5, rfl, hr5, hc5, hc5', hs5, hk5, hk5'⟩
            have HR5 := Lib.hid (And.intro (And.intro hr5 (And.intro hc5 hc5')) (And.intro hs5 (And.intro hk5 hk5')))
            clear hr5 hc5 hc5' hs5 hk5 hk5'
            have HB5 := Lib.hid (bt HB4.out hb5)
            clear hb5
            go_wp2_with fail
            obtain ⟨h0, hh0⟩ : ∃ h0, w5.heap.size = h0 := ⟨_, rfl⟩
            obtain ⟨W0, hW0⟩ : ∃ W, w5.alloc (.cells #[.slice A5 65 c5, .slice B5 65 k5] 53) = W := ⟨_, rfl⟩
            have hrow : Row W0 h0 #[.slice A5 65 c5, .slice B5 65 k5] 53 := by rw [← hW0, ← hh0]; exact row_new w5 _ _
            have hb50 : Below w5.heap.size w5 W0 := by rw [← hW0]; exact (Below.refl _ w5).alloc (Nat.le_refl _) _
            have HB50 := Lib.hid hb50
            have HB0 := Lib.hid (bt HB5.out hb50)
            (try rw [hW0]); (try rw [hh0])
            have hc0 : ∀ W, Below W0.heap.size W0 W → W.cell? ⟨h0, 0, none⟩ = some (.slice A5 65 c5) := fun W hW => (Row.belowS hrow hW (Nat.le_refl _)).cellQ 0 _ rfl
            have hc1 : ∀ W, Below W0.heap.size W0 W → W.cell? ⟨h0, 1, none⟩ = some (.slice B5 65 k5) := fun W hW => (Row.belowS hrow hW (Nat.le_refl _)).cellQ 1 _ rfl
            have hs1 : ∀ W, Below W0.heap.size W0 W → Calls Tryd.prog 15 #[.slice A5 65 c5] W fun e w' => e = .returned (sv X) ∧ Below W.heap.size W w' := fun W hW => by
              have hbw := bt HB50.out hW
              have h := rsum_any A5 65 c5 (1 :: (l ++ r)) W ((HR5.out.1.1.below' hbw (Nat.le_refl _)).more hbw.size) (by simp [HN.out.1, HN.out.2.1]) HR5.out.1.2.1 HR5.out.1.2.2 (by omega)
              unfold RSumPost at h
              rw [HX1.out] at h
              exact h
            have hs2 : ∀ W, Below W0.heap.size W0 W → Calls Tryd.prog 15 #[.slice B5 65 k5] W fun e w' => e = .returned (sv Y) ∧ Below W.heap.size W w' := fun W hW => by
              have hbw := bt HB50.out hW
              have h := rsum_any B5 65 k5 (1 :: (p ++ q)) W ((HR5.out.2.1.below' hbw (Nat.le_refl _)).more hbw.size) (by simp [HN.out.2.2.1, HN.out.2.2.2]) HR5.out.2.2.1 HR5.out.2.2.2 (by omega)
              unfold RSumPost at h
              rw [HY1.out] at h
              exact h
            refine Free.wp_free_l 27 (fun W => Below W0.heap.size W0 W) [Free.kc (.bool true), Free.kc (sv l), Free.kc (sv p), Free.kc (.bool false), Free.kc (.bool false), Free.kc (sv r), Free.kc (sv q), Free.kc (.bool true), Free.kc (.bool true), Free.kc (.bool true), Free.kc (sv X), Free.kc (sv Y), Free.kc (.bool true), Free.kc (.bool true), Free.kc (.bool false), Free.kc (.bool false), Free.kc (.bool true), Free.kc (.bool true), Free.kc (.pointer (some ⟨h0, 0, none⟩)), Free.kc (.slice A5 65 c5), Free.kc (sv X), Free.kc (.pointer (some ⟨h0, 1, none⟩)), Free.kc (.slice B5 65 k5), Free.kc (sv Y), Free.kc (.bool false), Free.kc (.bool false), Free.kc (.bool false)] (by kernel_rfl) (by kernel_rfl) (by decide) (Below.refl _ _).drew (fun w w' h g => bt h g) ?_ ?_
            · refine Free.forall_succ (Free.forall_succ (Free.forall_succ (Free.forall_succ (Free.forall_succ (Free.forall_succ (Free.forall_succ (Free.forall_succ (Free.forall_succ (Free.forall_succ (Free.forall_succ (Free.forall_succ (Free.forall_succ (Free.forall_succ (Free.forall_succ (Free.forall_succ (Free.forall_succ (Free.forall_succ (Free.forall_succ (Free.forall_succ (Free.forall_succ (Free.forall_succ (Free.forall_succ (Free.forall_succ (Free.forall_succ (Free.forall_succ (Free.forall_succ (Free.forall_zero) ?_) ?_) ?_) ?_) ?_) ?_) ?_) ?_) ?_) ?_) ?_) ?_) ?_) ?_) ?_) ?_) ?_) ?_) ?_) ?_) ?_) ?_) ?_) ?_) ?_) ?_) ?_
              · exact Free.ob_plain _ rfl rfl fun vals wq hC hd => (by exact Free.d_move rfl (by kernel_rfl) rfl)
              · exact Free.ob_plain _ rfl rfl fun vals wq hC hd => (by exact Free.d_move rfl (by kernel_rfl) rfl)
              · exact Free.ob_plain _ rfl rfl fun vals wq hC hd => (by exact Free.d_move rfl (by kernel_rfl) rfl)
              · exact Free.ob_plain _ rfl rfl fun vals wq hC hd => (by exact Free.d_bin rfl (Eq.trans (b := vals 1) (by kernel_rfl) (hd 1 (by kernel_rfl))) (Eq.trans (b := vals 2) (by kernel_rfl) (hd 2 (by kernel_rfl))) (by go_simp) (by rw [run_neq_str]; simp [H5.out]) rfl)
              · exact Free.ob_plain _ rfl rfl fun vals wq hC hd => (by exact Free.d_move rfl (Eq.trans (b := vals 3) (by kernel_rfl) (hd 3 (by kernel_rfl))) rfl)
              · exact Free.ob_guard _ rfl 4 104 false rfl rfl fun vals wq hC hd => ⟨Eq.trans (b := vals 4) (by kernel_rfl) (hd 4 (by kernel_rfl)), (by exact Free.d_move rfl (by kernel_rfl) rfl)⟩
              · exact Free.ob_guard _ rfl 4 104 false rfl rfl fun vals wq hC hd => ⟨Eq.trans (b := vals 4) (by kernel_rfl) (hd 4 (by kernel_rfl)), (by exact Free.d_move rfl (by kernel_rfl) rfl)⟩
              · exact Free.ob_guard _ rfl 4 104 false rfl rfl fun vals wq hC hd => ⟨Eq.trans (b := vals 4) (by kernel_rfl) (hd 4 (by kernel_rfl)), (by exact Free.d_bin rfl (Eq.trans (b := vals 5) (by kernel_rfl) (hd 5 (by kernel_rfl))) (Eq.trans (b := vals 6) (by kernel_rfl) (hd 6 (by kernel_rfl))) (by go_simp) (by rw [run_neq_str]; simp [H6.out]) rfl)⟩
              · exact Free.ob_plain _ rfl rfl fun vals wq hC hd => (by exact Free.d_pick rfl (Eq.trans (b := vals 4) (by kernel_rfl) (hd 4 (by kernel_rfl))) (Eq.trans (b := vals 7) (by kernel_rfl) (hd 7 (by kernel_rfl))) rfl)
              · exact Free.ob_plain _ rfl rfl fun vals wq hC hd => (by exact Free.d_move rfl (Eq.trans (b := vals 8) (by kernel_rfl) (hd 8 (by kernel_rfl))) rfl)
              · exact Free.ob_guard _ rfl 9 109 true rfl rfl fun vals wq hC hd => ⟨Eq.trans (b := vals 9) (by kernel_rfl) (hd 9 (by kernel_rfl)), (by exact Free.d_move rfl (by kernel_rfl) rfl)⟩
              · exact Free.ob_guard _ rfl 9 109 true rfl rfl fun vals wq hC hd => ⟨Eq.trans (b := vals 9) (by kernel_rfl) (hd 9 (by kernel_rfl)), (by exact Free.d_move rfl (by kernel_rfl) rfl)⟩
              · exact Free.ob_guard _ rfl 9 109 true rfl rfl fun vals wq hC hd => ⟨Eq.trans (b := vals 9) (by kernel_rfl) (hd 9 (by kernel_rfl)), (by exact Free.d_bin rfl (Eq.trans (b := vals 10) (by kernel_rfl) (hd 10 (by kernel_rfl))) (Eq.trans (b := vals 11) (by kernel_rfl) (hd 11 (by kernel_rfl))) (by go_simp) (by rw [run_eql_str]; simp [H7.out]) rfl)⟩
              · exact Free.ob_plain _ rfl rfl fun vals wq hC hd => (by exact Free.d_pick rfl (Eq.trans (b := vals 9) (by kernel_rfl) (hd 9 (by kernel_rfl))) (Eq.trans (b := vals 12) (by kernel_rfl) (hd 12 (by kernel_rfl))) rfl)
              · exact Free.ob_plain _ rfl rfl fun vals wq hC hd => (by exact Free.d_bin rfl (Eq.trans (b := vals 0) (by kernel_rfl) (hd 0 (by kernel_rfl))) (Eq.trans (b := vals 13) (by kernel_rfl) (hd 13 (by kernel_rfl))) (by go_simp) (by go_simp) rfl)
              · exact Free.ob_plain _ rfl rfl fun vals wq hC hd => (by exact Free.d_move rfl (Eq.trans (b := vals 14) (by kernel_rfl) (hd 14 (by kernel_rfl))) rfl)
              · exact Free.ob_guard _ rfl 15 115 false rfl rfl fun vals wq hC hd => ⟨Eq.trans (b := vals 15) (by kernel_rfl) (hd 15 (by kernel_rfl)), (by exact Free.d_move rfl (by kernel_rfl) rfl)⟩
              · exact Free.ob_guard _ rfl 15 115 false rfl rfl fun vals wq hC hd => ⟨Eq.trans (b := vals 15) (by kernel_rfl) (hd 15 (by kernel_rfl)), (by exact Free.d_move rfl (Eq.trans (b := vals 16) (by kernel_rfl) (hd 16 (by kernel_rfl))) rfl)⟩
              · exact Free.ob_guard _ rfl 17 117 true rfl rfl fun vals wq hC hd => ⟨Eq.trans (b := vals 17) (by kernel_rfl) (hd 17 (by kernel_rfl)), (by exact d_field (cx := .pointer (some ⟨h0, 0, none⟩)) rfl (by kernel_rfl) (by go_simp) rfl)⟩
              · exact Free.ob_guard _ rfl 17 117 true rfl rfl fun vals wq hC hd => ⟨Eq.trans (b := vals 17) (by kernel_rfl) (hd 17 (by kernel_rfl)), (by exact Free.d_load rfl (Eq.trans (b := vals 18) (by kernel_rfl) (hd 18 (by kernel_rfl))) (by have hcc := hc0 wq hC; go_simp) rfl)⟩
              · exact Free.ob_guard _ rfl 17 117 true rfl rfl fun vals wq hC hd => ⟨Eq.trans (b := vals 17) (by kernel_rfl) (hd 17 (by kernel_rfl)), (by exact Free.d_call Tryd.func15 (by kernel_rfl) (by kernel_rfl) rfl rfl (Free.arg1 (Eq.trans (b := vals 19) (by kernel_rfl) (hd 19 (by kernel_rfl)))) ((hs1 wq hC).mono fun e w2 h => ⟨_, h.1, rfl, h.2⟩))⟩
              · exact Free.ob_guard _ rfl 17 117 true rfl rfl fun vals wq hC hd => ⟨Eq.trans (b := vals 17) (by kernel_rfl) (hd 17 (by kernel_rfl)), (by exact d_field (cx := .pointer (some ⟨h0, 0, none⟩)) rfl (by kernel_rfl) (by go_simp) rfl)⟩
              · exact Free.ob_guard _ rfl 17 117 true rfl rfl fun vals wq hC hd => ⟨Eq.trans (b := vals 17) (by kernel_rfl) (hd 17 (by kernel_rfl)), (by exact Free.d_load rfl (Eq.trans (b := vals 21) (by kernel_rfl) (hd 21 (by kernel_rfl))) (by have hcc := hc1 wq hC; go_simp) rfl)⟩
              · exact Free.ob_guard _ rfl 17 117 true rfl rfl fun vals wq hC hd => ⟨Eq.trans (b := vals 17) (by kernel_rfl) (hd 17 (by kernel_rfl)), (by exact Free.d_call Tryd.func15 (by kernel_rfl) (by kernel_rfl) rfl rfl (Free.arg1 (Eq.trans (b := vals 22) (by kernel_rfl) (hd 22 (by kernel_rfl)))) ((hs2 wq hC).mono fun e w2 h => ⟨_, h.1, rfl, h.2⟩))⟩
              · exact Free.ob_guard _ rfl 17 117 true rfl rfl fun vals wq hC hd => ⟨Eq.trans (b := vals 17) (by kernel_rfl) (hd 17 (by kernel_rfl)), (by exact Free.d_bin rfl (Eq.trans (b := vals 20) (by kernel_rfl) (hd 20 (by kernel_rfl))) (Eq.trans (b := vals 23) (by kernel_rfl) (hd 23 (by kernel_rfl))) (by go_simp) (by rw [run_neq_str]; simp [H7.out]) rfl)⟩
              · exact Free.ob_guard _ rfl 15 115 false rfl rfl fun vals wq hC hd => ⟨Eq.trans (b := vals 15) (by kernel_rfl) (hd 15 (by kernel_rfl)), (by exact Free.d_pick rfl (Eq.trans (b := vals 17) (by kernel_rfl) (hd 17 (by kernel_rfl))) (Eq.trans (b := vals 24) (by kernel_rfl) (hd 24 (by kernel_rfl))) rfl)⟩
              · exact Free.ob_plain _ rfl rfl fun vals wq hC hd => (by exact Free.d_pick rfl (Eq.trans (b := vals 15) (by kernel_rfl) (hd 15 (by kernel_rfl))) (Eq.trans (b := vals 25) (by kernel_rfl) (hd 25 (by kernel_rfl))) rfl)
            · intro vals wq hC hd
              have e0 : vals 0 = (.bool true) := hd 0 (by decide)
              have e1 : vals 1 = (sv l) := hd 1 (by decide)
              have e2 : vals 2 = (sv p) := hd 2 (by decide)
              have e3 : vals 3 = (.bool false) := hd 3 (by decide)
              have e4 : vals 4 = (.bool false) := hd 4 (by decide)
              have e5 : vals 5 = (sv r) := hd 5 (by decide)
              have e6 : vals 6 = (sv q) := hd 6 (by decide)
              have e7 : vals 7 = (.bool true) := hd 7 (by decide)
              have e8 : vals 8 = (.bool true) := hd 8 (by decide)
              have e9 : vals 9 = (.bool true) := hd 9 (by decide)
              have e10 : vals 10 = (sv X) := hd 10 (by decide)
              have e11 : vals 11 = (sv Y) := hd 11 (by decide)
              have e12 : vals 12 = (.bool true) := hd 12 (by decide)
              have e13 : vals 13 = (.bool true) := hd 13 (by decide)
              have e14 : vals 14 = (.bool false) := hd 14 (by decide)
              have e15 : vals 15 = (.bool false) := hd 15 (by decide)
              have e16 : vals 16 = (.bool true) := hd 16 (by decide)
              have e17 : vals 17 = (.bool true) := hd 17 (by decide)
              have e18 : vals 18 = (.pointer (some ⟨h0, 0, none⟩)) := hd 18 (by decide)
              have e19 : vals 19 = (.slice A5 65 c5) := hd 19 (by decide)
              have e20 : vals 20 = (sv X) := hd 20 (by decide)
              have e21 : vals 21 = (.pointer (some ⟨h0, 1, none⟩)) := hd 21 (by decide)
              have e22 : vals 22 = (.slice B5 65 k5) := hd 22 (by decide)
              have e23 : vals 23 = (sv Y) := hd 23 (by decide)
              have e24 : vals 24 = (.bool false) := hd 24 (by decide)
              have e25 : vals 25 = (.bool false) := hd 25 (by decide)
              have e26 : vals 26 = (.bool false) := hd 26 (by decide)
              simp only [Free.frameOf, List.range, List.range.loop, List.foldl, Free.dstOf, List.getElem?_toArray, List.getElem?_cons_zero, List.getElem?_cons_succ, Option.bind_some, Act.put, List.setIfInBounds_toArray, List.set_cons_zero, List.set_cons_succ, e0, e1, e2, e3, e4, e5, e6, e7, e8, e9, e10, e11, e12, e13, e14, e15, e16, e17, e18, e19, e20, e21, e22, e23, e24, e25, e26]
              refine wpList_nil ?_
              clear hd e0 e1 e2 e3 e4 e5 e6 e7 e8 e9 e10 e11 e12 e13 e14 e15 e16 e17 e18 e19 e20 e21 e22 e23 e24 e25 e26
              have HBQ := Lib.hid (bt HB0.out hC)
              clear hC
              go_wp2_with fail
              refine (knows3_any _ (HT.out.below HBQ.out)).mono ?_
              rintro e wz ⟨rfl, hbz⟩
              have HBZ := Lib.hid (bt HBQ.out hbz)
              clear hbz
              go_wp2
              go_ret
              exact ⟨rfl, HBZ.out⟩
          · have HY : Hid (clashB (1 :: (l ++ r)) (1 :: (p ++ q)) = false) := Lib.hid (by rw [HCL.out]; simp [h5, h6, h7])
            have H5 := Lib.hid h5
            clear h5
            have H6 := Lib.hid h6
            clear h6
            have H7 := Lib.hid h7
            clear h7
            go_wp2_with fail
            refine (C1.out _ HX.out).mono ?_
            rintro e w1 ⟨rfl, hb1⟩
            have HB1 := Lib.hid (bt HX.out hb1)
            clear hb1
            go_wp2_with fail
            refine (C2.out _ HB1.out).mono ?_
            rintro e w2 ⟨rfl, hb2⟩
            have HB2 := Lib.hid (bt HB1.out hb2)
            clear hb2
            go_wp2_with fail
            refine (nodeP l r _ HN.out.1 HN.out.2.1).mono ?_
            rintro e w3 ⟨A3, c3, rfl, hr3, hc3, hc3', hb3⟩
            have HR3 := Lib.hid (And.intro hr3 (And.intro hc3 hc3'))
            clear hr3 hc3 hc3'
            have HB3 := Lib.hid (bt HB2.out hb3)
            clear hb3
            go_wp2_with fail
            refine (nodeP p q _ HN.out.2.2.1 HN.out.2.2.2).mono ?_
            rintro e w4 ⟨A4, c4, rfl, hr4, hc4, hc4', hb4⟩
            have HR4 := Lib.hid (And.intro hr4 (And.intro hc4 hc4'))
            have HR3' := Lib.hid ((HR3.out.1.below' hb4 (Nat.le_refl _)).more hb4.size)
            clear hr4 hc4 hc4'
            have HB4 := Lib.hid (bt HB3.out hb4)
            clear hb4
            go_wp2_with fail
            refine (between_no A3 65 c3 A4 65 c4 (1 :: (l ++ r)) (1 :: (p ++ q)) _ HR3'.out (by simp [HN.out.1, HN.out.2.1]) HR3.out.2.1 HR3.out.2.2 (by omega) HR4.out.1 (by simp [HN.out.2.2.1, HN.out.2.2.2]) HR4.out.2.1 HR4.out.2.2 (by omega) (HT.out.below HB4.out) HY.out).mono ?_
            rintro e w5 ⟨rfl, hb5⟩
            have HB5 := Lib.hid (bt HB4.out hb5)
            clear hb5
            go_wp2_with fail
            obtain ⟨h0, hh0⟩ : ∃ h0, w5.heap.size = h0 := ⟨_, rfl⟩
            obtain ⟨W0, hW0⟩ : ∃ W, w5.alloc (.cells #[.slice none 0 0, .slice none 0 0] 53) = W := ⟨_, rfl⟩
            have hrow : Row W0 h0 #[.slice none 0 0, .slice none 0 0] 53 := by rw [← hW0, ← hh0]; exact row_new w5 _ _
            have hb50 : Below w5.heap.size w5 W0 := by rw [← hW0]; exact (Below.refl _ w5).alloc (Nat.le_refl _) _
            have HB50 := Lib.hid hb50
            have HB0 := Lib.hid (bt HB5.out hb50)
            (try rw [hW0]); (try rw [hh0])
            refine Free.wp_free_l 27 (fun W => Below W0.heap.size W0 W) [Free.kc (.bool false), Free.kc (sv l), Free.kc (sv p), Free.kc (.bool false), Free.kc (.bool false), Free.kc (sv r), Free.kc (sv q), Free.kc (.bool true), Free.kc (.bool true), Free.kc (.bool true), Free.kc (sv X), Free.kc (sv Y), Free.kc (.bool false), Free.kc (.bool false), Free.kc (.bool false), Free.kc (.bool false), Free.kc (.bool false), Free.kc (.bool false), Free.kc (undef), Free.kc (undef), Free.kc (undef), Free.kc (undef), Free.kc (undef), Free.kc (undef), Free.kc (undef), Free.kc (.bool false), Free.kc (.bool false)] (by kernel_rfl) (by kernel_rfl) (by decide) (Below.refl _ _).drew (fun w w' h g => bt h g) ?_ ?_
            · refine Free.forall_succ (Free.forall_succ (Free.forall_succ (Free.forall_succ (Free.forall_succ (Free.forall_succ (Free.forall_succ (Free.forall_succ (Free.forall_succ (Free.forall_succ (Free.forall_succ (Free.forall_succ (Free.forall_succ (Free.forall_succ (Free.forall_succ (Free.forall_succ (Free.forall_succ (Free.forall_succ (Free.forall_succ (Free.forall_succ (Free.forall_succ (Free.forall_succ (Free.forall_succ (Free.forall_succ (Free.forall_succ (Free.forall_succ (Free.forall_succ (Free.forall_zero) ?_) ?_) ?_) ?_) ?_) ?_) ?_) ?_) ?_) ?_) ?_) ?_) ?_) ?_) ?_) ?_) ?_) ?_) ?_) ?_) ?_) ?_) ?_) ?_) ?_) ?_) ?_
              · exact Free.ob_plain _ rfl rfl fun vals wq hC hd => (by exact Free.d_move rfl (by kernel_rfl) rfl)
              · exact Free.ob_plain _ rfl rfl fun vals wq hC hd => (by exact Free.d_move rfl (by kernel_rfl) rfl)
              · exact Free.ob_plain _ rfl rfl fun vals wq hC hd => (by exact Free.d_move rfl (by kernel_rfl) rfl)
              · exact Free.ob_plain _ rfl rfl fun vals wq hC hd => (by exact Free.d_bin rfl (Eq.trans (b := vals 1) (by kernel_rfl) (hd 1 (by kernel_rfl))) (Eq.trans (b := vals 2) (by kernel_rfl) (hd 2 (by kernel_rfl))) (by go_simp) (by rw [run_neq_str]; simp [H5.out]) rfl)
              · exact Free.ob_plain _ rfl rfl fun vals wq hC hd => (by exact Free.d_move rfl (Eq.trans (b := vals 3) (by kernel_rfl) (hd 3 (by kernel_rfl))) rfl)
              · exact Free.ob_guard _ rfl 4 104 false rfl rfl fun vals wq hC hd => ⟨Eq.trans (b := vals 4) (by kernel_rfl) (hd 4 (by kernel_rfl)), (by exact Free.d_move rfl (by kernel_rfl) rfl)⟩
              · exact Free.ob_guard _ rfl 4 104 false rfl rfl fun vals wq hC hd => ⟨Eq.trans (b := vals 4) (by kernel_rfl) (hd 4 (by kernel_rfl)), (by exact Free.d_move rfl (by kernel_rfl) rfl)⟩
              · exact Free.ob_guard _ rfl 4 104 false rfl rfl fun vals wq hC hd => ⟨Eq.trans (b := vals 4) (by kernel_rfl) (hd 4 (by kernel_rfl)), (by exact Free.d_bin rfl (Eq.trans (b := vals 5) (by kernel_rfl) (hd 5 (by kernel_rfl))) (Eq.trans (b := vals 6) (by kernel_rfl) (hd 6 (by kernel_rfl))) (by go_simp) (by rw [run_neq_str]; simp [H6.out]) rfl)⟩
              · exact Free.ob_plain _ rfl rfl fun vals wq hC hd => (by exact Free.d_pick rfl (Eq.trans (b := vals 4) (by kernel_rfl) (hd 4 (by kernel_rfl))) (Eq.trans (b := vals 7) (by kernel_rfl) (hd 7 (by kernel_rfl))) rfl)
              · exact Free.ob_plain _ rfl rfl fun vals wq hC hd => (by exact Free.d_move rfl (Eq.trans (b := vals 8) (by kernel_rfl) (hd 8 (by kernel_rfl))) rfl)
              · exact Free.ob_guard _ rfl 9 109 true rfl rfl fun vals wq hC hd => ⟨Eq.trans (b := vals 9) (by kernel_rfl) (hd 9 (by kernel_rfl)), (by exact Free.d_move rfl (by kernel_rfl) rfl)⟩
              · exact Free.ob_guard _ rfl 9 109 true rfl rfl fun vals wq hC hd => ⟨Eq.trans (b := vals 9) (by kernel_rfl) (hd 9 (by kernel_rfl)), (by exact Free.d_move rfl (by kernel_rfl) rfl)⟩
              · exact Free.ob_guard _ rfl 9 109 true rfl rfl fun vals wq hC hd => ⟨Eq.trans (b := vals 9) (by kernel_rfl) (hd 9 (by kernel_rfl)), (by exact Free.d_bin rfl (Eq.trans (b := vals 10) (by kernel_rfl) (hd 10 (by kernel_rfl))) (Eq.trans (b := vals 11) (by kernel_rfl) (hd 11 (by kernel_rfl))) (by go_simp) (by rw [run_eql_str]; simp [H7.out]) rfl)⟩
              · exact Free.ob_plain _ rfl rfl fun vals wq hC hd => (by exact Free.d_pick rfl (Eq.trans (b := vals 9) (by kernel_rfl) (hd 9 (by kernel_rfl))) (Eq.trans (b := vals 12) (by kernel_rfl) (hd 12 (by kernel_rfl))) rfl)
              · exact Free.ob_plain _ rfl rfl fun vals wq hC hd => (by exact Free.d_bin rfl (Eq.trans (b := vals 0) (by kernel_rfl) (hd 0 (by kernel_rfl))) (Eq.trans (b := vals 13) (by kernel_rfl) (hd 13 (by kernel_rfl))) (by go_simp) (by go_simp) rfl)
              · exact Free.ob_plain _ rfl rfl fun vals wq hC hd => (by exact Free.d_move rfl (Eq.trans (b := vals 14) (by kernel_rfl) (hd 14 (by kernel_rfl))) rfl)
              · exact Free.ob_guard _ rfl 15 115 false rfl rfl fun vals wq hC hd => ⟨Eq.trans (b := vals 15) (by kernel_rfl) (hd 15 (by kernel_rfl)), (by exact Free.d_move rfl (by kernel_rfl) rfl)⟩
              · exact Free.ob_guard _ rfl 15 115 false rfl rfl fun vals wq hC hd => ⟨Eq.trans (b := vals 15) (by kernel_rfl) (hd 15 (by kernel_rfl)), (by exact Free.d_move rfl (Eq.trans (b := vals 16) (by kernel_rfl) (hd 16 (by kernel_rfl))) rfl)⟩
              · exact Free.ob_skip _ rfl 17 117 true rfl rfl fun vals wq hC hd => ⟨.inl (Eq.trans (b := vals 17) (by kernel_rfl) (hd 17 (by kernel_rfl))), rfl⟩
              · exact Free.ob_skip _ rfl 17 117 true rfl rfl fun vals wq hC hd => ⟨.inl (Eq.trans (b := vals 17) (by kernel_rfl) (hd 17 (by kernel_rfl))), rfl⟩
              · exact Free.ob_skip _ rfl 17 117 true rfl rfl fun vals wq hC hd => ⟨.inl (Eq.trans (b := vals 17) (by kernel_rfl) (hd 17 (by kernel_rfl))), rfl⟩
              · exact Free.ob_skip _ rfl 17 117 true rfl rfl fun vals wq hC hd => ⟨.inl (Eq.trans (b := vals 17) (by kernel_rfl) (hd 17 (by kernel_rfl))), rfl⟩
              · exact Free.ob_skip _ rfl 17 117 true rfl rfl fun vals wq hC hd => ⟨.inl (Eq.trans (b := vals 17) (by kernel_rfl) (hd 17 (by kernel_rfl))), rfl⟩
              · exact Free.ob_skip _ rfl 17 117 true rfl rfl fun vals wq hC hd => ⟨.inl (Eq.trans (b := vals 17) (by kernel_rfl) (hd 17 (by kernel_rfl))), rfl⟩
              · exact Free.ob_skip _ rfl 17 117 true rfl rfl fun vals wq hC hd => ⟨.inl (Eq.trans (b := vals 17) (by kernel_rfl) (hd 17 (by kernel_rfl))), rfl⟩
              · exact Free.ob_guard _ rfl 15 115 false rfl rfl fun vals wq hC hd => ⟨Eq.trans (b := vals 15) (by kernel_rfl) (hd 15 (by kernel_rfl)), (by exact Free.d_pick rfl (Eq.trans (b := vals 17) (by kernel_rfl) (hd 17 (by kernel_rfl))) rfl rfl)⟩
              · exact Free.ob_plain _ rfl rfl fun vals wq hC hd => (by exact Free.d_pick rfl (Eq.trans (b := vals 15) (by kernel_rfl) (hd 15 (by kernel_rfl))) (Eq.trans (b := vals 25) (by kernel_rfl) (hd 25 (by kernel_rfl))) rfl)
            · intro vals wq hC hd
              have e0 : vals 0 = (.bool false) := hd 0 (by decide)
              have e1 : vals 1 = (sv l) := hd 1 (by decide)
              have e2 : vals 2 = (sv p) := hd 2 (by decide)
              have e3 : vals 3 = (.bool false) := hd 3 (by decide)
              have e4 : vals 4 = (.bool false) := hd 4 (by decide)
              have e5 : vals 5 = (sv r) := hd 5 (by decide)
              have e6 : vals 6 = (sv q) := hd 6 (by decide)
              have e7 : vals 7 = (.bool true) := hd 7 (by decide)
              have e8 : vals 8 = (.bool true) := hd 8 (by decide)
              have e9 : vals 9 = (.bool true) := hd 9 (by decide)
              have e10 : vals 10 = (sv X) := hd 10 (by decide)
              have e11 : vals 11 = (sv Y) := hd 11 (by decide)
              have e12 : vals 12 = (.bool false) := hd 12 (by decide)
              have e13 : vals 13 = (.bool false) := hd 13 (by decide)
              have e14 : vals 14 = (.bool false) := hd 14 (by decide)
              have e15 : vals 15 = (.bool false) := hd 15 (by decide)
              have e16 : vals 16 = (.bool false) := hd 16 (by decide)
              have e17 : vals 17 = (.bool false) := hd 17 (by decide)
              have e18 : vals 18 = (undef) := hd 18 (by decide)
              have e19 : vals 19 = (undef) := hd 19 (by decide)
              have e20 : vals 20 = (undef) := hd 20 (by decide)
              have e21 : vals 21 = (undef) := hd 21 (by decide)
              have e22 : vals 22 = (undef) := hd 22 (by decide)
              have e23 : vals 23 = (undef) := hd 23 (by decide)
              have e24 : vals 24 = (undef) := hd 24 (by decide)
              have e25 : vals 25 = (.bool false) := hd 25 (by decide)
              have e26 : vals 26 = (.bool false) := hd 26 (by decide)
              simp only [Free.frameOf, List.range, List.range.loop, List.foldl, Free.dstOf, List.getElem?_toArray, List.getElem?_cons_zero, List.getElem?_cons_succ, Option.bind_some, Act.put, List.setIfInBounds_toArray, List.set_cons_zero, List.set_cons_succ, e0, e1, e2, e3, e4, e5, e6, e7, e8, e9, e10, e11, e12, e13, e14, e15, e16, e17, e18, e19, e20, e21, e22, e23, e24, e25, e26]
              refine wpList_nil ?_
              clear hd e0 e1 e2 e3 e4 e5 e6 e7 e8 e9 e10 e11 e12 e13 e14 e15 e16 e17 e18 e19 e20 e21 e22 e23 e24 e25 e26
              have HBQ := Lib.hid (bt HB0.out hC)
              clear hC
              go_wp2_with fail
              refine (knows3_any _ (HT.out.below HBQ.out)).mono ?_
              rintro e wz ⟨rfl, hbz⟩
              have HBZ := Lib.hid (bt HBQ.out hbz)
              clear hbz
              go_wp2
              go_ret
              exact ⟨rfl, HBZ.out⟩
      · by_cases h7 : X = Y
        · have HY : Hid (clashB (1 :: (l ++ r)) (1 :: (p ++ q)) = true) := Lib.hid (by rw [HCL.out]; simp [h5, h7])
          have H5 := Lib.hid h5
          clear h5
          have H7 := Lib.hid h7
          clear h7
          go_wp2_with fail
          refine (C1.out _ HX.out).mono ?_
          rintro e w1 ⟨rfl, hb1⟩
          have HB1 := Lib.hid (bt HX.out hb1)
          clear hb1
          go_wp2_with fail
          refine (C2.out _ HB1.out).mono ?_
          rintro e w2 ⟨rfl, hb2⟩
          have HB2 := Lib.hid (bt HB1.out hb2)
          clear hb2
          go_wp2_with fail
          refine (nodeP l r _ HN.out.1 HN.out.2.1).mono ?_
          rintro e w3 ⟨A3, c3, rfl, hr3, hc3, hc3', hb3⟩
          have HR3 := Lib.hid (And.intro hr3 (And.intro hc3 hc3'))
          clear hr3 hc3 hc3'
          have HB3 := Lib.hid (bt HB2.out hb3)
          clear hb3
          go_wp2_with fail
          refine (nodeP p q _ HN.out.2.2.1 HN.out.2.2.2).mono ?_
          rintro e w4 ⟨A4, c4, rfl, hr4, hc4, hc4', hb4⟩
          have HR4 := Lib.hid (And.intro hr4 (And.intro hc4 hc4'))
          have HR3' := Lib.hid ((HR3.out.1.below' hb4 (Nat.le_refl _)).more hb4.size)
          clear hr4 hc4 hc4'
          have HB4 := Lib.hid (bt HB3.out hb4)
          clear hb4
          go_wp2_with fail
          refine (between_yes A3 65 c3 A4 65 c4 (1 :: (l ++ r)) (1 :: (p ++ q)) _ HR3'.out (by simp [HN.out.1, HN.out.2.1]) HR3.out.2.1 HR3.out.2.2 (by omega) HR4.out.1 (by simp [HN.out.2.2.1, HN.out.2.2.2]) HR4.out.2.1 HR4.out.2.2 (by omega) (HT.out.below HB4.out) HY.out).mono ?_
          rintro e w5 ⟨A5, c5, B5, k5, hb5, rfl, hr5, hc5, hc5', hs5, hk5, hk5'⟩
          have HR5 := Lib.hid (And.intro (And.intro hr5 (And.intro hc5 hc5')) (And.intro hs5 (And.intro hk5 hk5')))
          clear hr5 hc5 hc5' hs5 hk5 hk5'
          have HB5 := Lib.hid (bt HB4.out hb5)
          clear hb5
          go_wp2_with fail
          obtain ⟨h0, hh0⟩ : ∃ h0, w5.heap.size = h0 := ⟨_, rfl⟩
          obtain ⟨W0, hW0⟩ : ∃ W, w5.alloc (.cells #[.slice A5 65 c5, .slice B5 65 k5] 53) = W := ⟨_, rfl⟩
          have hrow : Row W0 h0 #[.slice A5 65 c5, .slice B5 65 k5] 53 := by rw [← hW0, ← hh0]; exact row_new w5 _ _
          have hb50 : Below w5.heap.size w5 W0 := by rw [← hW0]; exact (Below.refl _ w5).alloc (Nat.le_refl _) _
          have HB50 := Lib.hid hb50
          have HB0 := Lib.hid (bt HB5.out hb50)
          (try rw [hW0]); (try rw [hh0])
          have hc0 : ∀ W, Below W0.heap.size W0 W → W.cell? ⟨h0, 0, none⟩ = some (.slice A5 65 c5) := fun W hW => (Row.belowS hrow hW (Nat.le_refl _)).cellQ 0 _ rfl
          have hc1 : ∀ W, Below W0.heap.size W0 W → W.cell? ⟨h0, 1, none⟩ = some (.slice B5 65 k5) := fun W hW => (Row.belowS hrow hW (Nat.le_refl _)).cellQ 1 _ rfl
          have hs1 : ∀ W, Below W0.heap.size W0 W → Calls Tryd.prog 15 #[.slice A5 65 c5] W fun e w' => e = .returned (sv X) ∧ Below W.heap.size W w' := fun W hW => by
            have hbw := bt HB50.out hW
            have h := rsum_any A5 65 c5 (1 :: (l ++ r)) W ((HR5.out.1.1.below' hbw (Nat.le_refl _)).more hbw.size) (by simp [HN.out.1, HN.out.2.1]) HR5.out.1.2.1 HR5.out.1.2.2 (by omega)
            unfold RSumPost at h
            rw [HX1.out] at h
            exact h
          have hs2 : ∀ W, Below W0.heap.size W0 W → Calls Tryd.prog 15 #[.slice B5 65 k5] W fun e w' => e = .returned (sv Y) ∧ Below W.heap.size W w' := fun W hW => by
            have hbw := bt HB50.out hW
            have h := rsum_any B5 65 k5 (1 :: (p ++ q)) W ((HR5.out.2.1.below' hbw (Nat.le_refl _)).more hbw.size) (by simp [HN.out.2.2.1, HN.out.2.2.2]) HR5.out.2.2.1 HR5.out.2.2.2 (by omega)
            unfold RSumPost at h
            rw [HY1.out] at h
            exact h
          refine Free.wp_free_l 27 (fun W => Below W0.heap.size W0 W) [Free.kc (.bool true), Free.kc (sv l), Free.kc (sv p), Free.kc (.bool true), Free.kc (.bool true), Free.kc (undef), Free.kc (undef), Free.kc (undef), Free.kc (.bool true), Free.kc (.bool true), Free.kc (sv X), Free.kc (sv Y), Free.kc (.bool true), Free.kc (.bool true), Free.kc (.bool false), Free.kc (.bool false), Free.kc (.bool true), Free.kc (.bool true), Free.kc (.pointer (some ⟨h0, 0, none⟩)), Free.kc (.slice A5 65 c5), Free.kc (sv X), Free.kc (.pointer (some ⟨h0, 1, none⟩)), Free.kc (.slice B5 65 k5), Free.kc (sv Y), Free.kc (.bool false), Free.kc (.bool false), Free.kc (.bool false)] (by kernel_rfl) (by kernel_rfl) (by decide) (Below.refl _ _).drew (fun w w' h g => bt h g) ?_ ?_
          · refine Free.forall_succ (Free.forall_succ (Free.forall_succ (Free.forall_succ (Free.forall_succ (Free.forall_succ (Free.forall_succ (Free.forall_succ (Free.forall_succ (Free.forall_succ (Free.forall_succ (Free.forall_succ (Free.forall_succ (Free.forall_succ (Free.forall_succ (Free.forall_succ (Free.forall_succ (Free.forall_succ (Free.forall_succ (Free.forall_succ (Free.forall_succ (Free.forall_succ (Free.forall_succ (Free.forall_succ (Free.forall_succ (Free.forall_succ (Free.forall_succ (Free.forall_zero) ?_) ?_) ?_) ?_) ?_) ?_) ?_) ?_) ?_) ?_) ?_) ?_) ?_) ?_) ?_) ?_) ?_) ?_) ?_) ?_) ?_) ?_) ?_) ?_) ?_) ?_) ?_
            · exact Free.ob_plain _ rfl rfl fun vals wq hC hd => (by exact Free.d_move rfl (by kernel_rfl) rfl)
            · exact Free.ob_plain _ rfl rfl fun vals wq hC hd => (by exact Free.d_move rfl (by kernel_rfl) rfl)
            · exact Free.ob_plain _ rfl rfl fun vals wq hC hd => (by exact Free.d_move rfl (by kernel_rfl) rfl)
            · exact Free.ob_plain _ rfl rfl fun vals wq hC hd => (by exact Free.d_bin rfl (Eq.trans (b := vals 1) (by kernel_rfl) (hd 1 (by kernel_rfl))) (Eq.trans (b := vals 2) (by kernel_rfl) (hd 2 (by kernel_rfl))) (by go_simp) (by rw [run_neq_str]; simp [H5.out]) rfl)
            · exact Free.ob_plain _ rfl rfl fun vals wq hC hd => (by exact Free.d_move rfl (Eq.trans (b := vals 3) (by kernel_rfl) (hd 3 (by kernel_rfl))) rfl)
            · exact Free.ob_skip _ rfl 4 104 false rfl rfl fun vals wq hC hd => ⟨.inl (Eq.trans (b := vals 4) (by kernel_rfl) (hd 4 (by kernel_rfl))), rfl⟩
            · exact Free.ob_skip _ rfl 4 104 false rfl rfl fun vals wq hC hd => ⟨.inl (Eq.trans (b := vals 4) (by kernel_rfl) (hd 4 (by kernel_rfl))), rfl⟩
            · exact Free.ob_skip _ rfl 4 104 false rfl rfl fun vals wq hC hd => ⟨.inl (Eq.trans (b := vals 4) (by kernel_rfl) (hd 4 (by kernel_rfl))), rfl⟩
            · exact Free.ob_plain _ rfl rfl fun vals wq hC hd => (by exact Free.d_pick rfl (Eq.trans (b := vals 4) (by kernel_rfl) (hd 4 (by kernel_rfl))) rfl rfl)
            · exact Free.ob_plain _ rfl rfl fun vals wq hC hd => (by exact Free.d_move rfl (Eq.trans (b := vals 8) (by kernel_rfl) (hd 8 (by kernel_rfl))) rfl)
            · exact Free.ob_guard _ rfl 9 109 true rfl rfl fun vals wq hC hd => ⟨Eq.trans (b := vals 9) (by kernel_rfl) (hd 9 (by kernel_rfl)), (by exact Free.d_move rfl (by kernel_rfl) rfl)⟩
            · exact Free.ob_guard _ rfl 9 109 true rfl rfl fun vals wq hC hd => ⟨Eq.trans (b := vals 9) (by kernel_rfl) (hd 9 (by kernel_rfl)), (by exact Free.d_move rfl (by kernel_rfl) rfl)⟩
            · exact Free.ob_guard _ rfl 9 109 true rfl rfl fun vals wq hC hd => ⟨Eq.trans (b := vals 9) (by kernel_rfl) (hd 9 (by kernel_rfl)), (by exact Free.d_bin rfl (Eq.trans (b := vals 10) (by kernel_rfl) (hd 10 (by kernel_rfl))) (Eq.trans (b := vals 11) (by kernel_rfl) (hd 11 (by kernel_rfl))) (by go_simp) (by rw [run_eql_str]; simp [H7.out]) rfl)⟩
            · exact Free.ob_plain _ rfl rfl fun vals wq hC hd => (by exact Free.d_pick rfl (Eq.trans (b := vals 9) (by kernel_rfl) (hd 9 (by kernel_rfl))) (Eq.trans (b := vals 12) (by kernel_rfl) (hd 12 (by kernel_rfl))) rfl)
            · exact Free.ob_plain _ rfl rfl fun vals wq hC hd => (by exact Free.d_bin rfl (Eq.trans (b := vals 0) (by kernel_rfl) (hd 0 (by kernel_rfl))) (Eq.trans (b := vals 13) (by kernel_rfl) (hd 13 (by kernel_rfl))) (by go_simp) (by go_simp) rfl)
            · exact Free.ob_plain _ rfl rfl fun vals wq hC hd => (by exact Free.d_move rfl (Eq.trans (b := vals 14) (by kernel_rfl) (hd 14 (by kernel_rfl))) rfl)
            · exact Free.ob_guard _ rfl 15 115 false rfl rfl fun vals wq hC hd => ⟨Eq.trans (b := vals 15) (by kernel_rfl) (hd 15 (by kernel_rfl)), (by exact Free.d_move rfl (by kernel_rfl) rfl)⟩
            · exact Free.ob_guard _ rfl 15 115 false rfl rfl fun vals wq hC hd => ⟨Eq.trans (b := vals 15) (by kernel_rfl) (hd 15 (by kernel_rfl)), (by exact Free.d_move rfl (Eq.trans (b := vals 16) (by kernel_rfl) (hd 16 (by kernel_rfl))) rfl)⟩
            · exact Free.ob_guard _ rfl 17 117 true rfl rfl fun vals wq hC hd => ⟨Eq.trans (b := vals 17) (by kernel_rfl) (hd 17 (by kernel_rfl)), (by exact d_field (cx := .pointer (some ⟨h0, 0, none⟩)) rfl (by kernel_rfl) (by go_simp) rfl)⟩
            · exact Free.ob_guard _ rfl 17 117 true rfl rfl fun vals wq hC hd => ⟨Eq.trans (b := vals 17) (by kernel_rfl) (hd 17 (by kernel_rfl)), (by exact Free.d_load rfl (Eq.trans (b := vals 18) (by kernel_rfl) (hd 18 (by kernel_rfl))) (by have hcc := hc0 wq hC; go_simp) rfl)⟩
            · exact Free.ob_guard _ rfl 17 117 true rfl rfl fun vals wq hC hd => ⟨Eq.trans (b := vals 17) (by kernel_rfl) (hd 17 (by kernel_rfl)), (by exact Free.d_call Tryd.func15 (by kernel_rfl) (by kernel_rfl) rfl rfl (Free.arg1 (Eq.trans (b := vals 19) (by kernel_rfl) (hd 19 (by kernel_rfl)))) ((hs1 wq hC).mono fun e w2 h => ⟨_, h.1, rfl, h.2⟩))⟩
            · exact Free.ob_guard _ rfl 17 117 true rfl rfl fun vals wq hC hd => ⟨Eq.trans (b := vals 17) (by kernel_rfl) (hd 17 (by kernel_rfl)), (by exact d_field (cx := .pointer (some ⟨h0, 0, none⟩)) rfl (by kernel_rfl) (by go_simp) rfl)⟩
            · exact Free.ob_guard _ rfl 17 117 true rfl rfl fun vals wq hC hd => ⟨Eq.trans (b := vals 17) (by kernel_rfl) (hd 17 (by kernel_rfl)), (by exact Free.d_load rfl (Eq.trans (b := vals 21) (by kernel_rfl) (hd 21 (by kernel_rfl))) (by have hcc := hc1 wq hC; go_simp) rfl)⟩
            · exact Free.ob_guard _ rfl 17 117 true rfl rfl fun vals wq hC hd => ⟨Eq.trans (b := vals 17) (by kernel_rfl) (hd 17 (by kernel_rfl)), (by exact Free.d_call Tryd.func15 (by kernel_rfl) (by kernel_rfl) rfl rfl (Free.arg1 (Eq.trans (b := vals 22) (by kernel_rfl) (hd 22 (by kernel_rfl)))) ((hs2 wq hC).mono fun e w2 h => ⟨_, h.1, rfl, h.2⟩))⟩
            · exact Free.ob_guard _ rfl 17 117 true rfl rfl fun vals wq hC hd => ⟨Eq.trans (b := vals 17) (by kernel_rfl) (hd 17 (by kernel_rfl)), (by exact Free.d_bin rfl (Eq.trans (b := vals 20) (by kernel_rfl) (hd 20 (by kernel_rfl))) (Eq.trans (b := vals 23) (by kernel_rfl) (hd 23 (by kernel_rfl))) (by go_simp) (by rw [run_neq_str]; simp [H7.out]) rfl)⟩
            · exact Free.ob_guard _ rfl 15 115 false rfl rfl fun vals wq hC hd => ⟨Eq.trans (b := vals 15) (by kernel_rfl) (hd 15 (by kernel_rfl)), (by exact Free.d_pick rfl (Eq.trans (b := vals 17) (by kernel_rfl) (hd 17 (by kernel_rfl))) (Eq.trans (b := vals 24) (by kernel_rfl) (hd 24 (by kernel_rfl))) rfl)⟩
            · exact Free.ob_plain _ rfl rfl fun vals wq hC hd => (by exact Free.d_pick rfl (Eq.trans (b := vals 15) (by kernel_rfl) (hd 15 (by kernel_rfl))) (Eq.trans (b := vals 25) (by kernel_rfl) (hd 25 (by kernel_rfl))) rfl)
          · intro vals wq hC hd
            have e0 : vals 0 = (.bool true) := hd 0 (by decide)
            have e1 : vals 1 = (sv l) := hd 1 (by decide)
            have e2 : vals 2 = (sv p) := hd 2 (by decide)
            have e3 : vals 3 = (.bool true) := hd 3 (by decide)
            have e4 : vals 4 = (.bool true) := hd 4 (by decide)
            have e5 : vals 5 = (undef) := hd 5 (by decide)
            have e6 : vals 6 = (undef) := hd 6 (by decide)
            have e7 : vals 7 = (undef) := hd 7 (by decide)
            have e8 : vals 8 = (.bool true) := hd 8 (by decide)
            have e9 : vals 9 = (.bool true) := hd 9 (by decide)
            have e10 : vals 10 = (sv X) := hd 10 (by decide)
            have e11 : vals 11 = (sv Y) := hd 11 (by decide)
            have e12 : vals 12 = (.bool true) := hd 12 (by decide)
            have e13 : vals 13 = (.bool true) := hd 13 (by decide)
            have e14 : vals 14 = (.bool false) := hd 14 (by decide)
            have e15 : vals 15 = (.bool false) := hd 15 (by decide)
            have e16 : vals 16 = (.bool true) := hd 16 (by decide)
            have e17 : vals 17 = (.bool true) := hd 17 (by decide)
            have e18 : vals 18 = (.pointer (some ⟨h0, 0, none⟩)) := hd 18 (by decide)
            have e19 : vals 19 = (.slice A5 65 c5) := hd 19 (by decide)
            have e20 : vals 20 = (sv X) := hd 20 (by decide)
            have e21 : vals 21 = (.pointer (some ⟨h0, 1, none⟩)) := hd 21 (by decide)
            have e22 : vals 22 = (.slice B5 65 k5) := hd 22 (by decide)
            have e23 : vals 23 = (sv Y) := hd 23 (by decide)
            have e24 : vals 24 = (.bool false) := hd 24 (by decide)
            have e25 : vals 25 = (.bool false) := hd 25 (by decide)
            have e26 : vals 26 = (.bool false) := hd 26 (by decide)
            simp only [Free.frameOf, List.range, List.range.loop, List.foldl, Free.dstOf, List.getElem?_toArray, List.getElem?_cons_zero, List.getElem?_cons_succ, Option.bind_some, Act.put, List.setIfInBounds_toArray, List.set_cons_zero, List.set_cons_succ, e0, e1, e2, e3, e4, e5, e6, e7, e8, e9, e10, e11, e12, e13, e14, e15, e16, e17, e18, e19, e20, e21, e22, e23, e24, e25, e26]
            refine wpList_nil ?_
            clear hd e0 e1 e2 e3 e4 e5 e6 e7 e8 e9 e10 e11 e12 e13 e14 e15 e16 e17 e18 e19 e20 e21 e22 e23 e24 e25 e26
            have HBQ := Lib.hid (bt HB0.out hC)
            clear hC
            go_wp2_with fail
            refine (knows3_any _ (HT.out.below HBQ.out)).mono ?_
            rintro e wz ⟨rfl, hbz⟩
            have HBZ := Lib.hid (bt HBQ.out hbz)
            clear hbz
            go_wp2
            go_ret
            exact ⟨rfl, HBZ.out⟩
        · have HY : Hid (clashB (1 :: (l ++ r)) (1 :: (p ++ q)) = false) := Lib.hid (by rw [HCL.out]; simp [h5, h7])
          have H5 := Lib.hid h5
          clear h5
          have H7 := Lib.hid h7
          clear h7
          go_wp2_with fail
          refine (C1.out _ HX.out).mono ?_
          rintro e w1 ⟨rfl, hb1⟩
          have HB1 := Lib.hid (bt HX.out hb1)
          clear hb1
          go_wp2_with fail
          refine (C2.out _ HB1.out).mono ?_
          rintro e w2 ⟨rfl, hb2⟩
          have HB2 := Lib.hid (bt HB1.out hb2)
          clear hb2
          go_wp2_with fail
          refine (nodeP l r _ HN.out.1 HN.out.2.1).mono ?_
          rintro e w3 ⟨A3, c3, rfl, hr3, hc3, hc3', hb3⟩
          have HR3 := Lib.hid (And.intro hr3 (And.intro hc3 hc3'))
          clear hr3 hc3 hc3'
          have HB3 := Lib.hid (bt HB2.out hb3)
          clear hb3
          go_wp2_with fail
          refine (nodeP p q _ HN.out.2.2.1 HN.out.2.2.2).mono ?_
          rintro e w4 ⟨A4, c4, rfl, hr4, hc4, hc4', hb4⟩
          have HR4 := Lib.hid (And.intro hr4 (And.intro hc4 hc4'))
          have HR3' := Lib.hid ((HR3.out.1.below' hb4 (Nat.le_refl _)).more hb4.size)
          clear hr4 hc4 hc4'
          have HB4 := Lib.hid (bt HB3.out hb4)
          clear hb4
          go_wp2_with fail
          refine (between_no A3 65 c3 A4 65 c4 (1 :: (l ++ r)) (1 :: (p ++ q)) _ HR3'.out (by simp [HN.out.1, HN.out.2.1]) HR3.out.2.1 HR3.out.2.2 (by omega) HR4.out.1 (by simp [HN.out.2.2.1, HN.out.2.2.2]) HR4.out.2.1 HR4.out.2.2 (by omega) (HT.out.below HB4.out) HY.out).mono ?_
          rintro e w5 ⟨rfl, hb5⟩
          have HB5 := Lib.hid (bt HB4.out hb5)
          clear hb5
          go_wp2_with fail
          obtain ⟨h0, hh0⟩ : ∃ h0, w5.heap.size = h0 := ⟨_, rfl⟩
          obtain ⟨W0, hW0⟩ : ∃ W, w5.alloc (.cells #[.slice none 0 0, .slice none 0 0] 53) = W := ⟨_, rfl⟩
          have hrow : Row W0 h0 #[.slice none 0 0, .slice none 0 0] 53 := by rw [← hW0, ← hh0]; exact row_new w5 _ _
          have hb50 : Below w5.heap.size w5 W0 := by rw [← hW0]; exact (Below.refl _ w5).alloc (Nat.le_refl _) _
          have HB50 := Lib.hid hb50
          have HB0 := Lib.hid (bt HB5.out hb50)
          (try rw [hW0]); (try rw [hh0])
          refine Free.wp_free_l 27 (fun W => Below W0.heap.size W0 W) [Free.kc (.bool false), Free.kc (sv l), Free.kc (sv p), Free.kc (.bool true), Free.kc (.bool true), Free.kc (undef), Free.kc (undef), Free.kc (undef), Free.kc (.bool true), Free.kc (.bool true), Free.kc (sv X), Free.kc (sv Y), Free.kc (.bool false), Free.kc (.bool false), Free.kc (.bool false), Free.kc (.bool false), Free.kc (.bool false), Free.kc (.bool false), Free.kc (undef), Free.kc (undef), Free.kc (undef), Free.kc (undef), Free.kc (undef), Free.kc (undef), Free.kc (undef), Free.kc (.bool false), Free.kc (.bool false)] (by kernel_rfl) (by kernel_rfl) (by decide) (Below.refl _ _).drew (fun w w' h g => bt h g) ?_ ?_
          · refine Free.forall_succ (Free.forall_succ (Free.forall_succ (Free.forall_succ (Free.forall_succ (Free.forall_succ (Free.forall_succ (Free.forall_succ (Free.forall_succ (Free.forall_succ (Free.forall_succ (Free.forall_succ (Free.forall_succ (Free.forall_succ (Free.forall_succ (Free.forall_succ (Free.forall_succ (Free.forall_succ (Free.forall_succ (Free.forall_succ (Free.forall_succ (Free.forall_succ (Free.forall_succ (Free.forall_succ (Free.forall_succ (Free.forall_succ (Free.forall_succ (Free.forall_zero) ?_) ?_) ?_) ?_) ?_) ?_) ?_) ?_) ?_) ?_) ?_) ?_) ?_) ?_) ?_) ?_) ?_) ?_) ?_) ?_) ?_) ?_) ?_) ?_) ?_) ?_) ?_
            · exact Free.ob_plain _ rfl rfl fun vals wq hC hd => (by exact Free.d_move rfl (by kernel_rfl) rfl)
            · exact Free.ob_plain _ rfl rfl fun vals wq hC hd => (by exact Free.d_move rfl (by kernel_rfl) rfl)
            · exact Free.ob_plain _ rfl rfl fun vals wq hC hd => (by exact Free.d_move rfl (by kernel_rfl) rfl)
            · exact Free.ob_plain _ rfl rfl fun vals wq hC hd => (by exact Free.d_bin rfl (Eq.trans (b := vals 1) (by kernel_rfl) (hd 1 (by kernel_rfl))) (Eq.trans (b := vals 2) (by kernel_rfl) (hd 2 (by kernel_rfl))) (by go_simp) (by rw [run_neq_str]; simp [H5.out]) rfl)
            · exact Free.ob_plain _ rfl rfl fun vals wq hC hd => (by exact Free.d_move rfl (Eq.trans (b := vals 3) (by kernel_rfl) (hd 3 (by kernel_rfl))) rfl)
            · exact Free.ob_skip _ rfl 4 104 false rfl rfl fun vals wq hC hd => ⟨.inl (Eq.trans (b := vals 4) (by kernel_rfl) (hd 4 (by kernel_rfl))), rfl⟩
            · exact Free.ob_skip _ rfl 4 104 false rfl rfl fun vals wq hC hd => ⟨.inl (Eq.trans (b := vals 4) (by kernel_rfl) (hd 4 (by kernel_rfl))), rfl⟩
            · exact Free.ob_skip _ rfl 4 104 false rfl rfl fun vals wq hC hd => ⟨.inl (Eq.trans (b := vals 4) (by kernel_rfl) (hd 4 (by kernel_rfl))), rfl⟩
            · exact Free.ob_plain _ rfl rfl fun vals wq hC hd => (by exact Free.d_pick rfl (Eq.trans (b := vals 4) (by kernel_rfl) (hd 4 (by kernel_rfl))) rfl rfl)
            · exact Free.ob_plain _ rfl rfl fun vals wq hC hd => (by exact Free.d_move rfl (Eq.trans (b := vals 8) (by kernel_rfl) (hd 8 (by kernel_rfl))) rfl)
            · exact Free.ob_guard _ rfl 9 109 true rfl rfl fun vals wq hC hd => ⟨Eq.trans (b := vals 9) (by kernel_rfl) (hd 9 (by kernel_rfl)), (by exact Free.d_move rfl (by kernel_rfl) rfl)⟩
            · exact Free.ob_guard _ rfl 9 109 true rfl rfl fun vals wq hC hd => ⟨Eq.trans (b := vals 9) (by kernel_rfl) (hd 9 (by kernel_rfl)), (by exact Free.d_move rfl (by kernel_rfl) rfl)⟩
            · exact Free.ob_guard _ rfl 9 109 true rfl rfl fun vals wq hC hd => ⟨Eq.trans (b := vals 9) (by kernel_rfl) (hd 9 (by kernel_rfl)), (by exact Free.d_bin rfl (Eq.trans (b := vals 10) (by kernel_rfl) (hd 10 (by kernel_rfl))) (Eq.trans (b := vals 11) (by kernel_rfl) (hd 11 (by kernel_rfl))) (by go_simp) (by rw [run_eql_str]; simp [H7.out]) rfl)⟩
            · exact Free.ob_plain _ rfl rfl fun vals wq hC hd => (by exact Free.d_pick rfl (Eq.trans (b := vals 9) (by kernel_rfl) (hd 9 (by kernel_rfl))) (Eq.trans (b := vals 12) (by kernel_rfl) (hd 12 (by kernel_rfl))) rfl)
            · exact Free.ob_plain _ rfl rfl fun vals wq hC hd => (by exact Free.d_bin rfl (Eq.trans (b := vals 0) (by kernel_rfl) (hd 0 (by kernel_rfl))) (Eq.trans (b := vals 13) (by kernel_rfl) (hd 13 (by kernel_rfl))) (by go_simp) (by go_simp) rfl)
            · exact Free.ob_plain _ rfl rfl fun vals wq hC hd => (by exact Free.d_move rfl (Eq.trans (b := vals 14) (by kernel_rfl) (hd 14 (by kernel_rfl))) rfl)
            · exact Free.ob_guard _ rfl 15 115 false rfl rfl fun vals wq hC hd => ⟨Eq.trans (b := vals 15) (by kernel_rfl) (hd 15 (by kernel_rfl)), (by exact Free.d_move rfl (by kernel_rfl) rfl)⟩
            · exact Free.ob_guard _ rfl 15 115 false rfl rfl fun vals wq hC hd => ⟨Eq.trans (b := vals 15) (by kernel_rfl) (hd 15 (by kernel_rfl)), (by exact Free.d_move rfl (Eq.trans (b := vals 16) (by kernel_rfl) (hd 16 (by kernel_rfl))) rfl)⟩
            · exact Free.ob_skip _ rfl 17 117 true rfl rfl fun vals wq hC hd => ⟨.inl (Eq.trans (b := vals 17) (by kernel_rfl) (hd 17 (by kernel_rfl))), rfl⟩
            · exact Free.ob_skip _ rfl 17 117 true rfl rfl fun vals wq hC hd => ⟨.inl (Eq.trans (b := vals 17) (by kernel_rfl) (hd 17 (by kernel_rfl))), rfl⟩
            · exact Free.ob_skip _ rfl 17 117 true rfl rfl fun vals wq hC hd => ⟨.inl (Eq.trans (b := vals 17) (by kernel_rfl) (hd 17 (by kernel_rfl))), rfl⟩
            · exact Free.ob_skip _ rfl 17 117 true rfl rfl fun vals wq hC hd => ⟨.inl (Eq.trans (b := vals 17) (by kernel_rfl) (hd 17 (by kernel_rfl))), rfl⟩
            · exact Free.ob_skip _ rfl 17 117 true rfl rfl fun vals wq hC hd => ⟨.inl (Eq.trans (b := vals 17) (by kernel_rfl) (hd 17 (by kernel_rfl))), rfl⟩
            · exact Free.ob_skip _ rfl 17 117 true rfl rfl fun vals wq hC hd => ⟨.inl (Eq.trans (b := vals 17) (by kernel_rfl) (hd 17 (by kernel_rfl))), rfl⟩
            · exact Free.ob_skip _ rfl 17 117 true rfl rfl fun vals wq hC hd => ⟨.inl (Eq.trans (b := vals 17) (by kernel_rfl) (hd 17 (by kernel_rfl))), rfl⟩
            · exact Free.ob_guard _ rfl 15 115 false rfl rfl fun vals wq hC hd => ⟨Eq.trans (b := vals 15) (by kernel_rfl) (hd 15 (by kernel_rfl)), (by exact Free.d_pick rfl (Eq.trans (b := vals 17) (by kernel_rfl) (hd 17 (by kernel_rfl))) rfl rfl)⟩
            · exact Free.ob_plain _ rfl rfl fun vals wq hC hd => (by exact Free.d_pick rfl (Eq.trans (b := vals 15) (by kernel_rfl) (hd 15 (by kernel_rfl))) (Eq.trans (b := vals 25) (by kernel_rfl) (hd 25 (by kernel_rfl))) rfl)
          · intro vals wq hC hd
            have e0 : vals 0 = (.bool false) := hd 0 (by decide)
            have e1 : vals 1 = (sv l) := hd 1 (by decide)
            have e2 : vals 2 = (sv p) := hd 2 (by decide)
            have e3 : vals 3 = (.bool true) := hd 3 (by decide)
            have e4 : vals 4 = (.bool true) := hd 4 (by decide)
            have e5 : vals 5 = (undef) := hd 5 (by decide)
            have e6 : vals 6 = (undef) := hd 6 (by decide)
            have e7 : vals 7 = (undef) := hd 7 (by decide)
            have e8 : vals 8 = (.bool true) := hd 8 (by decide)
            have e9 : vals 9 = (.bool true) := hd 9 (by decide)
            have e10 : vals 10 = (sv X) := hd 10 (by decide)
            have e11 : vals 11 = (sv Y) := hd 11 (by decide)
            have e12 : vals 12 = (.bool false) := hd 12 (by decide)
            have e13 : vals 13 = (.bool false) := hd 13 (by decide)
            have e14 : vals 14 = (.bool false) := hd 14 (by decide)
            have e15 : vals 15 = (.bool false) := hd 15 (by decide)
            have e16 : vals 16 = (.bool false) := hd 16 (by decide)
            have e17 : vals 17 = (.bool false) := hd 17 (by decide)
            have e18 : vals 18 = (undef) := hd 18 (by decide)
            have e19 : vals 19 = (undef) := hd 19 (by decide)
            have e20 : vals 20 = (undef) := hd 20 (by decide)
            have e21 : vals 21 = (undef) := hd 21 (by decide)
            have e22 : vals 22 = (undef) := hd 22 (by decide)
            have e23 : vals 23 = (undef) := hd 23 (by decide)
            have e24 : vals 24 = (undef) := hd 24 (by decide)
            have e25 : vals 25 = (.bool false) := hd 25 (by decide)
            have e26 : vals 26 = (.bool false) := hd 26 (by decide)
            simp only [Free.frameOf, List.range, List.range.loop, List.foldl, Free.dstOf, List.getElem?_toArray, List.getElem?_cons_zero, List.getElem?_cons_succ, Option.bind_some, Act.put, List.setIfInBounds_toArray, List.set_cons_zero, List.set_cons_succ, e0, e1, e2, e3, e4, e5, e6, e7, e8, e9, e10, e11, e12, e13, e14, e15, e16, e17, e18, e19, e20, e21, e22, e23, e24, e25, e26]
            refine wpList_nil ?_
            clear hd e0 e1 e2 e3 e4 e5 e6 e7 e8 e9 e10 e11 e12 e13 e14 e15 e16 e17 e18 e19 e20 e21 e22 e23 e24 e25 e26
            have HBQ := Lib.hid (bt HB0.out hC)
            clear hC
            go_wp2_with fail
            refine (knows3_any _ (HT.out.below HBQ.out)).mono ?_
            rintro e wz ⟨rfl, hbz⟩
            have HBZ := Lib.hid (bt HBQ.out hbz)
            clear hbz
            go_wp2
            go_ret
            exact ⟨rfl, HBZ.out⟩
    clear h1x
    have HKEY := Lib.hid key
    clear key
    by_cases h5 : a = b
    · have HY : Hid (clashB (0 :: a) (0 :: b) = false) := Lib.hid (by rw [HCL0.out]; simp [h5])
      have e1 := HE1.out
      rw [decide_eq_true h5] at e1
      have H5 := Lib.hid h5
      clear h5
      rw [HY.out]
      have hb30 := (Below.refl w3.heap.size w3).alloc (Nat.le_refl _) (.cells #[.slice A5 n5 c5, .slice B5 m5 k5] 53)
      have HRow := Lib.hid (row_new w3 #[.slice A5 n5 c5, .slice B5 m5 k5] 53)
      have HB30 := Lib.hid hb30
      have HB0 := Lib.hid (bt HB3.out hb30)
      have q1 := run_str (P := Tryd.prog) (w := w3.alloc (.cells #[.slice A5 n5 c5, .slice B5 m5 k5] 53)) 22 9 5 Tryd.underlying22 Tryd.underlying5 Tryd.underlying9 A n c _ a (HR.out.1.below' HB0.out (Nat.le_refl _)) HR.out.2.1
      have q2 := run_str (P := Tryd.prog) (w := w3.alloc (.cells #[.slice A5 n5 c5, .slice B5 m5 k5] 53)) 22 9 5 Tryd.underlying22 Tryd.underlying5 Tryd.underlying9 B m k _ b (HR2.out.1.below' HB0.out (Nat.le_refl _)) HR2.out.2.1
      clear hb30
      go_wp2_with fail
      exact HKEY.out _ _ _ _ _ _ _ _ _ _ _ _ _ _ _ _ _ _ _ _ _ _ _ _ _ _ _ _ _ _ _ _ _ _ _ _ _ _ _ _ _ _ _ _ _ _ _ _ _ _ _ _ _ _ _ _ _ _ _ HB0.out
    · by_cases h6 : L = M
      · have HY : Hid (clashB (0 :: a) (0 :: b) = true) := Lib.hid (by rw [HCL0.out]; simp [h5, h6])
        have e1 := HE1.out
        rw [decide_eq_false h5] at e1
        have e2 := HE2.out
        rw [decide_eq_true h6] at e2
        have H5 := Lib.hid h5
        clear h5
        have H6 := Lib.hid h6
        clear h6
        rw [HY.out]
        obtain ⟨rfl, rfl, hr5⟩ := HR5.out HY.out
        have HR6 := Lib.hid hr5
        clear hr5
        have hb30 := (Below.refl w3.heap.size w3).alloc (Nat.le_refl _) (.cells #[.slice A5 (n + 1) c5, .slice B5 (m + 1) k5] 53)
        have HRow := Lib.hid (row_new w3 #[.slice A5 (n + 1) c5, .slice B5 (m + 1) k5] 53)
        have HB30 := Lib.hid hb30
        have HB0 := Lib.hid (bt HB3.out hb30)
        have q1 := run_str (P := Tryd.prog) (w := w3.alloc (.cells #[.slice A5 (n + 1) c5, .slice B5 (m + 1) k5] 53)) 22 9 5 Tryd.underlying22 Tryd.underlying5 Tryd.underlying9 A n c _ a (HR.out.1.below' HB0.out (Nat.le_refl _)) HR.out.2.1
        have q2 := run_str (P := Tryd.prog) (w := w3.alloc (.cells #[.slice A5 (n + 1) c5, .slice B5 (m + 1) k5] 53)) 22 9 5 Tryd.underlying22 Tryd.underlying5 Tryd.underlying9 B m k _ b (HR2.out.1.below' HB0.out (Nat.le_refl _)) HR2.out.2.1
        clear hb30
        go_wp2_with fail
        refine (C1.out _ HB0.out).mono ?_
        rintro e w6 ⟨rfl, hb6⟩
        have HB36 := Lib.hid (bt HB30.out hb6)
        have HRow6 := Lib.hid (HRow.out.belowS hb6 (Nat.le_refl _))
        have HB6 := Lib.hid (bt HB0.out hb6)
        clear hb6
        go_wp2_with fail
        refine (C2.out _ HB6.out).mono ?_
        rintro e w7 ⟨rfl, hb7⟩
        have HB37 := Lib.hid (bt HB36.out hb7)
        have hrow7 := HRow6.out.belowS hb7 (Nat.le_refl _)
        have y0 := hrow7.cellQ 0 _ rfl
        have y1 := hrow7.cellQ 1 _ rfl
        have HB7 := Lib.hid (bt HB6.out hb7)
        clear hb7 q1 q2 hrow7
        go_wp2_with fail
        refine (is_any A5 (n + 1) c5 B5 (m + 1) k5 (0 :: a) (0 :: b) _ ((HR6.out.1.below' HB37.out (Nat.le_refl _)).more HB37.out.size) (by simp [HR.out.2.1]) HR6.out.2.1 HR6.out.2.2.1 (by omega) ((HR6.out.2.2.2.1.below' HB37.out (Nat.le_refl _)).more HB37.out.size) (by simp [HR2.out.2.1]) HR6.out.2.2.2.2.1 HR6.out.2.2.2.2.2 (by omega) (HT.out.below HB7.out)).mono ?_
        rintro e w8 ⟨rfl, hb8⟩
        rw [HY.out]
        have HB8 := Lib.hid (bt HB7.out hb8)
        clear hb8 y0 y1
        go_wp2_with fail
        exact HKEY.out _ _ _ _ _ _ _ _ _ _ _ _ _ _ _ _ _ _ _ _ _ _ _ _ _ _ _ _ _ _ _ _ _ _ _ _ _ _ _ _ _ _ _ _ _ _ _ _ _ _ _ _ _ _ _ _ _ _ _ HB8.out
      · have HY : Hid (clashB (0 :: a) (0 :: b) = false) := Lib.hid (by rw [HCL0.out]; simp [h5, h6])
        have e1 := HE1.out
        rw [decide_eq_false h5] at e1
        have e2 := HE2.out
        rw [decide_eq_false h6] at e2
        have H5 := Lib.hid h5
        clear h5
        have H6 := Lib.hid h6
        clear h6
        rw [HY.out]
        have hb30 := (Below.refl w3.heap.size w3).alloc (Nat.le_refl _) (.cells #[.slice A5 n5 c5, .slice B5 m5 k5] 53)
        have HRow := Lib.hid (row_new w3 #[.slice A5 n5 c5, .slice B5 m5 k5] 53)
        have HB30 := Lib.hid hb30
        have HB0 := Lib.hid (bt HB3.out hb30)
        have q1 := run_str (P := Tryd.prog) (w := w3.alloc (.cells #[.slice A5 n5 c5, .slice B5 m5 k5] 53)) 22 9 5 Tryd.underlying22 Tryd.underlying5 Tryd.underlying9 A n c _ a (HR.out.1.below' HB0.out (Nat.le_refl _)) HR.out.2.1
        have q2 := run_str (P := Tryd.prog) (w := w3.alloc (.cells #[.slice A5 n5 c5, .slice B5 m5 k5] 53)) 22 9 5 Tryd.underlying22 Tryd.underlying5 Tryd.underlying9 B m k _ b (HR2.out.1.below' HB0.out (Nat.le_refl _)) HR2.out.2.1
        clear hb30
        go_wp2_with fail
        refine (C1.out _ HB0.out).mono ?_
        rintro e w6 ⟨rfl, hb6⟩
        have HB36 := Lib.hid (bt HB30.out hb6)
        have HRow6 := Lib.hid (HRow.out.belowS hb6 (Nat.le_refl _))
        have HB6 := Lib.hid (bt HB0.out hb6)
        clear hb6
        go_wp2_with fail
        refine (C2.out _ HB6.out).mono ?_
        rintro e w7 ⟨rfl, hb7⟩
        have HB37 := Lib.hid (bt HB36.out hb7)
        have hrow7 := HRow6.out.belowS hb7 (Nat.le_refl _)
        have HB7 := Lib.hid (bt HB6.out hb7)
        clear hb7 q1 q2 hrow7
        go_wp2_with fail
        exact HKEY.out _ _ _ _ _ _ _ _ _ _ _ _ _ _ _ _ _ _ _ _ _ _ _ _ _ _ _ _ _ _ _ _ _ _ _ _ _ _ _ _ _ _ _ _ _ _ _ _ _ _ _ _ _ _ _ _ _ _ _ HB7.out
  · exact skip hbig
end Go.Proofs.YtcnjpcmadkkhfaaDoor
