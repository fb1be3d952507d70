/- ClashRoots: the walk of the law. -/
import Derived.Test.YtlcdpbpbfofmmaaDoorMClashE
namespace Go.Proofs.YtlcdpbpbfofmmaaDoor
set_option maxRecDepth 100000
set_option linter.unusedVariables false
open Go.RowKit
theorem tw_len : ∀ (q : Nat) (a b : List (List UInt8)) (r : List UInt8 × List UInt8), (∀ x ∈ a, x.length ≤ 1000) → (∀ x ∈ b, x.length ≤ 1000) → Cl.tw q a b = some r → r.1.length ≤ 1000000 ∧ r.2.length ≤ 1000000
  | 0, a, b, r, ha, hb, h => by cases h
  | q + 1, a, b, r, ha, hb, h => by
    rw [Cl.tw] at h
    split at h
    · unfold Cl.btw at h
      split at h
      · injection h with h
        rw [← h]
        constructor
        · cases a with
          | nil => show 1 ≤ 1000000; omega
          | cons x l => show (0 :: x).length ≤ _; rw [List.length_cons]; have := ha x (by simp); omega
        · cases b with
          | nil => show 1 ≤ 1000000; omega
          | cons x l => show (0 :: x).length ≤ _; rw [List.length_cons]; have := hb x (by simp); omega
      · cases h
    · rcases Cl.or_some h with h | ⟨_, h⟩
      · unfold Cl.btw at h
        split at h
        · injection h with h
          rw [← h]
          exact ⟨Nat.le_trans (topB_le (Cl.lv_all _)) (by omega), Nat.le_trans (topB_le (Cl.lv_all _)) (by omega)⟩
        · cases h
      · rcases Cl.or_some h with h | ⟨_, h⟩
        · exact tw_len q _ _ r (fun x hx => ha x (List.mem_of_mem_take hx)) (fun x hx => hb x (List.mem_of_mem_take hx)) h
        · exact tw_len q _ _ r (fun x hx => ha x (List.mem_of_mem_drop hx)) (fun x hx => hb x (List.mem_of_mem_drop hx)) h
theorem two_small {a b : List (List UInt8)} (ha : ∀ x ∈ a, x.length ≤ 1000) (hb : ∀ x ∈ b, x.length ≤ 1000) : CSmall (Cl.two a b) := fun r h => ⟨Cl.tw_some _ _ _ _ h, tw_len _ _ _ r ha hb h⟩
/-- The clash of two lists, as a call tells it. -/
def twB (f : Nat → Piece) (n : Nat) (g : Nat → Piece) (m : Nat) : Option (List UInt8 × List UInt8) := if n = m ∧ 1 ≤ n then Cl.two (raws f n) (raws g m) else none
theorem cTwo_any (A : Option Addr) (n c : Nat) (f : Nat → Piece) (B : Option Addr) (m k : Nat) (g : Nat → Piece) (w : World) (hn : n ≤ 300) (hra : RowsAt w A n f) (hca : n ≤ c ∧ c ≤ maxLen) (hrb : RowsAt w B m g) (hcb : m ≤ k ∧ k ≤ maxLen)
    (hsf : ∀ i, i < n → (f i).n ≤ 1000) (hsg : ∀ i, i < m → (g i).n ≤ 1000) (ht : Tabs w) :
    Calls Tryd.prog 22 #[.slice A n c, .slice B m k] w (ResPost w.heap.size (twB f n g m) w) := by
  unfold twB
  by_cases h : n = m ∧ 1 ≤ n
  · rw [if_pos h]
    obtain ⟨rfl, h1⟩ := h
    exact cTwo_yes A n c f B k g w h1 hn hra hca hrb hcb hsf hsg ht
  · rw [if_neg h]
    exact cTwo_no A n c B m k w hca.1 hca.2 hcb.1 hcb.2 (by omega)
theorem twB_small {f g : Nat → Piece} {n m : Nat} (ha : ∀ x ∈ raws f n, x.length ≤ 1000) (hb : ∀ x ∈ raws g m, x.length ≤ 1000) : CSmall (twB f n g m) := by
  unfold twB
  split
  · exact two_small ha hb
  · exact CSmall.none
set_option maxHeartbeats 64000000 in
theorem clashroots_any (A : Option Addr) (n c : Nat) (f : Nat → Piece) (B : Option Addr) (m k : Nat) (g : Nat → Piece) (w : World) (hra : RowsAt w A n f) (hu0 : True) (hc : n ≤ c) (hm : c ≤ maxLen) (hu1 : True)
    (hrb : RowsAt w B m g) (hu2 : True) (hk : m ≤ k) (hkm : k ≤ maxLen) (hu3 : True) (ht : Tabs w) :
    Calls Tryd.prog 5 #[.slice A n c, .slice B m k] w (RetB true w) := by
  clear hu0 hu1 hu2 hu3
  have ga := great8_any A n c f w hra hc hm
  have gb := great8_any B m k g w hrb hk hkm
  have hm' := hm
  have hkm' := hkm
  rw [maxLen_eq] at hm' hkm'
  have KN := Lib.hid (fun (W : World) (hW : Below w.heap.size w W) => knows8_any W (ht.below hW))
  unfold Yes at KN
  cases hga : gr8 f n with
  | true =>
    rw [hga] at ga
    have GA := Lib.hid ga
    clear ga gb hga hra hm hrb hkm ht
    go_enter Tryd.func5, Tryd.ntmps5
    go_wp2_with fail
    refine (GA.out).mono ?_
    rintro e wz ⟨rfl, rfl⟩
    go_wp2_with fail
    refine (KN.out w (Below.refl w.heap.size w)).mono ?_
    rintro e w1 ⟨rfl, hb1⟩
    have HB1 := Lib.hid (bt (Below.refl w.heap.size w) hb1)
    clear hb1
    go_wp2
    go_ret
    exact ⟨rfl, HB1.out⟩
  | false =>
    rw [hga] at ga
    have GA := Lib.hid ga
    obtain ⟨hn25, hsf⟩ := gr8_no hga
    clear ga hga
    cases hgb : gr8 g m with
    | true =>
      rw [hgb] at gb
      have GB := Lib.hid gb
      clear gb hgb hra hm hrb hkm ht hsf
      go_enter Tryd.func5, Tryd.ntmps5
      go_wp2_with fail
      refine (GA.out).mono ?_
      rintro e wz ⟨rfl, rfl⟩
      go_wp2_with fail
      refine (GB.out).mono ?_
      rintro e wz ⟨rfl, rfl⟩
      go_wp2_with fail
      refine (KN.out w (Below.refl w.heap.size w)).mono ?_
      rintro e w1 ⟨rfl, hb1⟩
      have HB1 := Lib.hid (bt (Below.refl w.heap.size w) hb1)
      clear hb1
      go_wp2
      go_ret
      exact ⟨rfl, HB1.out⟩
    | false =>
      rw [hgb] at gb
      have GB := Lib.hid gb
      obtain ⟨hm25, hsg⟩ := gr8_no hgb
      clear gb hgb
      have hra3 := raws_small hra (k := 300) hsf
      have hrb3 := raws_small hrb (k := 300) hsg
      have HT := Lib.hid ht
      have CS := Lib.hid (show ∀ W, Below w.heap.size w W → Calls Tryd.prog 22 #[.slice A n c, .slice A n c] W (ResPost W.heap.size none W) from fun W hW => by
        have := cTwo_any A n c f A n c f W (by omega) (hra.keep hW) ⟨hc, hm⟩ (hra.keep hW) ⟨hc, hm⟩ (fun i hi => by have := hsf i hi; omega) (fun i hi => by have := hsf i hi; omega) (ht.below hW)
        rw [show twB f n f n = none by unfold twB; split; exact Cl.two_self _; rfl] at this
        exact this)
      obtain ⟨R, hR⟩ : ∃ R, twB f n g m = R := ⟨_, rfl⟩
      have HSM := Lib.hid (show CSmall R by rw [← hR]; exact twB_small (fun x hx => Nat.le_trans (hra3 x hx) (by omega)) (fun x hx => Nat.le_trans (hrb3 x hx) (by omega)))
      unfold CSmall at HSM
      have CT := Lib.hid (show ∀ W, Below w.heap.size w W → Calls Tryd.prog 22 #[.slice A n c, .slice B m k] W (ResPost W.heap.size R W) from fun W hW => by
        have := cTwo_any A n c f B m k g W (by omega) (hra.keep hW) ⟨hc, hm⟩ (hrb.keep hW) ⟨hk, hkm⟩ (fun i hi => by have := hsf i hi; omega) (fun i hi => by have := hsg i hi; omega) (ht.below hW)
        rw [hR] at this
        exact this)
      by_cases hnm : n = m
      rotate_left
      · obtain rfl : R = none := by rw [← hR]; unfold twB; rw [if_neg (fun h => hnm h.1)]
        have HRS := Lib.hid (show (none : Option (List UInt8 × List UInt8)).isSome = false from rfl)
        have gnm : ((n : Int) == (m : Int)) = false := beq_eq_false_iff_ne.2 (by omega)
        clear hra hrb hra3 hrb3 hsf hsg hm hkm ht hR
        go_enter Tryd.func5, Tryd.ntmps5
        go_wp2_with fail
        refine (GA.out).mono ?_
        rintro e wz ⟨rfl, rfl⟩
        go_wp2_with fail
        refine (GB.out).mono ?_
        rintro e wz ⟨rfl, rfl⟩
        go_wp2_with fail
        refine (CT.out w (Below.refl w.heap.size w)).mono ?_
        rintro e w1 ⟨AC, nC, cC, BC, mC, kC, rfl, hf1, hf2, hb1⟩
        rw [HRS.out]
        have hbx1 := bt hb1 ((Below.refl _ w1).alloc (Nat.le_refl _) (.cells #[.slice AC nC cC, .slice BC mC kC] 29))
        have HB1 := Lib.hid (bt (Below.refl w.heap.size w) hbx1)
        have HC := Lib.hid (CBox.new hf1 hf2)
        clear hb1 hbx1 hf1 hf2
        go_wp2_with fail
        refine (CS.out (w1.alloc (.cells #[.slice AC nC cC, .slice BC mC kC] 29)) HB1.out).mono ?_
        rintro e w2 ⟨AE, nE, cE, BE, mE, kE, rfl, hf1, hf2, hb2⟩
        have hbx2 := bt hb2 ((Below.refl _ w2).alloc (Nat.le_refl _) (.cells #[.slice AE nE cE, .slice BE mE kE] 29))
        replace HC := Lib.hid (HC.out.keep hbx2)
        have HB2 := Lib.hid (bt HB1.out hbx2)
        have HE := Lib.hid (CBox.new hf1 hf2)
        clear hb2 hbx2 hf1 hf2
        go_wp2_with fail
        refine (KN.out (w2.alloc (.cells #[.slice AE nE cE, .slice BE mE kE] 29)) HB2.out).mono ?_
        rintro e w3 ⟨rfl, hb3⟩
        replace HC := Lib.hid (HC.out.keep hb3)
        replace HE := Lib.hid (HE.out.keep hb3)
        have HB3 := Lib.hid (bt HB2.out hb3)
        clear hb3
        go_wp2
        go_ret
        exact ⟨rfl, HB3.out⟩
      subst hnm
      obtain ⟨V, hV⟩ : ∃ V, decide (raws f n = raws g n) = V := ⟨_, rfl⟩
      have LK := Lib.hid (show ∀ W, Below w.heap.size w W → Calls Tryd.prog 23 #[.slice A n c, .slice B n k] W (BoolPost V W) from fun W hW => by
        have := like_any A n c f B k g W (hra.keep hW) ⟨hc, hm⟩ (hrb.keep hW) ⟨hk, hkm⟩
        rw [hV] at this
        exact this)
      unfold BoolPost at LK
      cases hV2 : V with
      | true =>
        rw [hV2] at hV
        obtain rfl : R = none := by
          rw [← hR]; unfold twB; rw [of_decide_eq_true hV]; split; exact Cl.two_self _; rfl
        have HRS := Lib.hid (show (none : Option (List UInt8 × List UInt8)).isSome = false from rfl)
        have HLK := Lib.hid hV2
        clear hra hrb hra3 hrb3 hsf hsg hm hkm ht hR hV hV2
        go_enter Tryd.func5, Tryd.ntmps5
        go_wp2_with fail
        refine (GA.out).mono ?_
        rintro e wz ⟨rfl, rfl⟩
        go_wp2_with fail
        refine (GB.out).mono ?_
        rintro e wz ⟨rfl, rfl⟩
        go_wp2_with fail
        refine (CT.out w (Below.refl w.heap.size w)).mono ?_
        rintro e w1 ⟨AC, nC, cC, BC, mC, kC, rfl, hf1, hf2, hb1⟩
        rw [HRS.out]
        have hbx1 := bt hb1 ((Below.refl _ w1).alloc (Nat.le_refl _) (.cells #[.slice AC nC cC, .slice BC mC kC] 29))
        have HB1 := Lib.hid (bt (Below.refl w.heap.size w) hbx1)
        have HC := Lib.hid (CBox.new hf1 hf2)
        clear hb1 hbx1 hf1 hf2
        go_wp2_with fail
        refine (CS.out (w1.alloc (.cells #[.slice AC nC cC, .slice BC mC kC] 29)) HB1.out).mono ?_
        rintro e w2 ⟨AE, nE, cE, BE, mE, kE, rfl, hf1, hf2, hb2⟩
        have hbx2 := bt hb2 ((Below.refl _ w2).alloc (Nat.le_refl _) (.cells #[.slice AE nE cE, .slice BE mE kE] 29))
        replace HC := Lib.hid (HC.out.keep hbx2)
        have HB2 := Lib.hid (bt HB1.out hbx2)
        have HE := Lib.hid (CBox.new hf1 hf2)
        clear hb2 hbx2 hf1 hf2
        go_wp2_with fail
        refine (LK.out (w2.alloc (.cells #[.slice AE nE cE, .slice BE mE kE] 29)) HB2.out).mono ?_
        rintro e w3 ⟨rfl, hb3⟩
        rw [HLK.out]
        replace HC := Lib.hid (HC.out.keep hb3)
        replace HE := Lib.hid (HE.out.keep hb3)
        have HB3 := Lib.hid (bt HB2.out hb3)
        clear hb3
        go_wp2_with fail
        refine (KN.out w3 HB3.out).mono ?_
        rintro e w4 ⟨rfl, hb4⟩
        replace HC := Lib.hid (HC.out.keep hb4)
        replace HE := Lib.hid (HE.out.keep hb4)
        have HB4 := Lib.hid (bt HB3.out hb4)
        clear hb4
        go_wp2
        go_ret
        exact ⟨rfl, HB4.out⟩
      | false =>
        rw [hV2] at hV
        have hne : ¬ raws f n = raws g n := of_decide_eq_false hV
        have HLK := Lib.hid hV2
        have h1 : 1 ≤ n := by
          rcases Nat.eq_zero_or_pos n with h0 | h0
          · subst h0; exact absurd rfl hne
          · exact h0
        obtain ⟨X, hX⟩ : ∃ X, tleaves f n = X := ⟨_, rfl⟩
        obtain ⟨Y, hY⟩ : ∃ Y, tleaves g n = Y := ⟨_, rfl⟩
        have hX32 : ∀ s ∈ X, s.length = 32 := by rw [← hX, raws_lv]; exact Cl.lv_all _
        have hY32 : ∀ s ∈ Y, s.length = 32 := by rw [← hY, raws_lv]; exact Cl.lv_all _
        have hXl : X.length = n := by rw [← hX]; simp [tleaves]
        have hYl : Y.length = n := by rw [← hY]; simp [tleaves]
        obtain ⟨RA, hRA⟩ : ∃ RT, troot X = RT := ⟨_, rfl⟩
        obtain ⟨RB, hRB⟩ : ∃ RT, troot Y = RT := ⟨_, rfl⟩
        have CDA := Lib.hid (show ∀ W, Below w.heap.size w W → Calls Tryd.prog 16 #[.slice A n c] W (OwnSPost W.heap.size X W) from fun W hW => by
          rw [← hX]; exact rleaves_any _ n c f W (hra.keep hW) hc hm (by omega) (fun k hk => by have := hsf k hk; omega))
        have CDB := Lib.hid (show ∀ W, Below w.heap.size w W → Calls Tryd.prog 16 #[.slice B n k] W (OwnSPost W.heap.size Y W) from fun W hW => by
          rw [← hY]; exact rleaves_any _ n k g W (hrb.keep hW) hk hkm (by omega) (fun k hk => by have := hsg k hk; omega))
        unfold OwnSPost at CDA CDB
        have CRA := Lib.hid (show ∀ (A : Option Addr) (n' c : Nat) (W : World), OwnS W w.heap.size A n' c X → Calls Tryd.prog 19 #[.slice A n' c] W (StrPost RA W) from fun A n' c W h => by
          have := rroot_any _ A n' c X W (Nat.le_refl _) h.ss hX32 (by have := h.len; omega)
          rw [hRA] at this
          exact this)
        have CRB := Lib.hid (show ∀ (A : Option Addr) (n' c : Nat) (W : World), OwnS W w.heap.size A n' c Y → Calls Tryd.prog 19 #[.slice A n' c] W (StrPost RB W) from fun A n' c W h => by
          have := rroot_any _ A n' c Y W (Nat.le_refl _) h.ss hY32 (by have := h.len; omega)
          rw [hRB] at this
          exact this)
        unfold StrPost at CRA CRB
        have hfin : RA = RB → R.isSome = true := fun h => by
          have := Cl.tw_finds n (raws f n) (raws g n) (by rw [raws_len]; exact Nat.le_refl _) (by rw [raws_len]; exact h1) (by rw [raws_len, raws_len]) (by rw [← raws_lv, ← raws_lv, hX, hY, hRA, hRB, h]) hne
          obtain ⟨r, hr⟩ := this
          rw [← hR]
          unfold twB
          rw [if_pos ⟨rfl, h1⟩]
          unfold Cl.two
          rw [raws_len, hr]; rfl
        clear hra hrb hra3 hrb3 hsf hsg hm hkm ht hR hV hV2 hX hY hX32 hY32 hXl hYl hRA hRB
        by_cases he : RA = RB
        · have HRE := Lib.hid (decide_eq_true he)
          have HRS := Lib.hid (hfin he)
          clear hfin he hne
          go_enter Tryd.func5, Tryd.ntmps5
          go_wp2_with fail
          refine (GA.out).mono ?_
          rintro e wz ⟨rfl, rfl⟩
          go_wp2_with fail
          refine (GB.out).mono ?_
          rintro e wz ⟨rfl, rfl⟩
          go_wp2_with fail
          refine (CT.out w (Below.refl w.heap.size w)).mono ?_
          rintro e w1 ⟨AC, nC, cC, BC, mC, kC, rfl, hf1, hf2, hb1⟩
          rw [HRS.out]
          have hbx1 := bt hb1 ((Below.refl _ w1).alloc (Nat.le_refl _) (.cells #[.slice AC nC cC, .slice BC mC kC] 29))
          have HB1 := Lib.hid (bt (Below.refl w.heap.size w) hbx1)
          have HC := Lib.hid (CBox.new hf1 hf2)
          clear hb1 hbx1 hf1 hf2
          go_wp2_with fail
          refine (CS.out (w1.alloc (.cells #[.slice AC nC cC, .slice BC mC kC] 29)) HB1.out).mono ?_
          rintro e w2 ⟨AE, nE, cE, BE, mE, kE, rfl, hf1, hf2, hb2⟩
          have hbx2 := bt hb2 ((Below.refl _ w2).alloc (Nat.le_refl _) (.cells #[.slice AE nE cE, .slice BE mE kE] 29))
          replace HC := Lib.hid (HC.out.keep hbx2)
          have HB2 := Lib.hid (bt HB1.out hbx2)
          have HE := Lib.hid (CBox.new hf1 hf2)
          clear hb2 hbx2 hf1 hf2
          go_wp2_with fail
          refine (LK.out (w2.alloc (.cells #[.slice AE nE cE, .slice BE mE kE] 29)) HB2.out).mono ?_
          rintro e w3 ⟨rfl, hb3⟩
          rw [HLK.out]
          replace HC := Lib.hid (HC.out.keep hb3)
          replace HE := Lib.hid (HE.out.keep hb3)
          have HB3 := Lib.hid (bt HB2.out hb3)
          clear hb3
          go_wp2_with fail
          refine (CDA.out w3 HB3.out).mono ?_
          rintro e w4 ⟨AP, nP, cP, rfl, ho4, hb4⟩
          replace HC := Lib.hid (HC.out.keep hb4)
          replace HE := Lib.hid (HE.out.keep hb4)
          have HB4 := Lib.hid (bt HB3.out hb4)
          have hcapP := ho4.cap
          have hmaxP := ho4.max
          rw [maxLen_eq] at hmaxP
          have HP := Lib.hid (ho4.base HB3.out.size)
          clear hb4 ho4
          go_wp2_with fail
          refine (CRA.out AP nP cP w4 HP.out).mono ?_
          rintro e w5 ⟨rfl, hb5⟩
          replace HC := Lib.hid (HC.out.keep hb5)
          replace HE := Lib.hid (HE.out.keep hb5)
          replace HP := Lib.hid (HP.out.keep hb5)
          have HB5 := Lib.hid (bt HB4.out hb5)
          clear hb5
          go_wp2_with fail
          refine (CDB.out w5 HB5.out).mono ?_
          rintro e w6 ⟨AQ, nQ, cQ, rfl, ho6, hb6⟩
          replace HC := Lib.hid (HC.out.keep hb6)
          replace HE := Lib.hid (HE.out.keep hb6)
          replace HP := Lib.hid (HP.out.keep hb6)
          have HB6 := Lib.hid (bt HB5.out hb6)
          have hcapQ := ho6.cap
          have hmaxQ := ho6.max
          rw [maxLen_eq] at hmaxQ
          have HQ := Lib.hid (ho6.base HB5.out.size)
          clear hb6 ho6
          go_wp2_with fail
          refine (CRB.out AQ nQ cQ w6 HQ.out).mono ?_
          rintro e w7 ⟨rfl, hb7⟩
          replace HC := Lib.hid (HC.out.keep hb7)
          replace HE := Lib.hid (HE.out.keep hb7)
          replace HP := Lib.hid (HP.out.keep hb7)
          replace HQ := Lib.hid (HQ.out.keep hb7)
          have HB7 := Lib.hid (bt HB6.out hb7)
          clear hb7
          have g9 := strEq RA RB
          rw [HRE.out] at g9
          have x0 := HC.out.x0
          have x1 := HC.out.x1
          go_wp2_with fail
          refine (HC.out.is HRS.out HSM.out (HT.out.below HB7.out)).mono ?_
          rintro e w8 ⟨rfl, hb8⟩
          replace HC := Lib.hid (HC.out.keep hb8)
          replace HE := Lib.hid (HE.out.keep hb8)
          replace HP := Lib.hid (HP.out.keep hb8)
          replace HQ := Lib.hid (HQ.out.keep hb8)
          have HB8 := Lib.hid (bt HB7.out hb8)
          clear hb8
          clear x0 x1
          go_wp2_with fail
          refine (KN.out w8 HB8.out).mono ?_
          rintro e w9 ⟨rfl, hb9⟩
          replace HC := Lib.hid (HC.out.keep hb9)
          replace HE := Lib.hid (HE.out.keep hb9)
          replace HP := Lib.hid (HP.out.keep hb9)
          replace HQ := Lib.hid (HQ.out.keep hb9)
          have HB9 := Lib.hid (bt HB8.out hb9)
          clear hb9
          go_wp2
          go_ret
          exact ⟨rfl, HB9.out⟩
        · have HRE := Lib.hid (decide_eq_false he)
          clear hfin he hne
          cases hRs : R.isSome with
          | false =>
            have HRS := Lib.hid hRs
            clear hRs
            go_enter Tryd.func5, Tryd.ntmps5
            go_wp2_with fail
            refine (GA.out).mono ?_
            rintro e wz ⟨rfl, rfl⟩
            go_wp2_with fail
            refine (GB.out).mono ?_
            rintro e wz ⟨rfl, rfl⟩
            go_wp2_with fail
            refine (CT.out w (Below.refl w.heap.size w)).mono ?_
            rintro e w1 ⟨AC, nC, cC, BC, mC, kC, rfl, hf1, hf2, hb1⟩
            rw [HRS.out]
            have hbx1 := bt hb1 ((Below.refl _ w1).alloc (Nat.le_refl _) (.cells #[.slice AC nC cC, .slice BC mC kC] 29))
            have HB1 := Lib.hid (bt (Below.refl w.heap.size w) hbx1)
            have HC := Lib.hid (CBox.new hf1 hf2)
            clear hb1 hbx1 hf1 hf2
            go_wp2_with fail
            refine (CS.out (w1.alloc (.cells #[.slice AC nC cC, .slice BC mC kC] 29)) HB1.out).mono ?_
            rintro e w2 ⟨AE, nE, cE, BE, mE, kE, rfl, hf1, hf2, hb2⟩
            have hbx2 := bt hb2 ((Below.refl _ w2).alloc (Nat.le_refl _) (.cells #[.slice AE nE cE, .slice BE mE kE] 29))
            replace HC := Lib.hid (HC.out.keep hbx2)
            have HB2 := Lib.hid (bt HB1.out hbx2)
            have HE := Lib.hid (CBox.new hf1 hf2)
            clear hb2 hbx2 hf1 hf2
            go_wp2_with fail
            refine (LK.out (w2.alloc (.cells #[.slice AE nE cE, .slice BE mE kE] 29)) HB2.out).mono ?_
            rintro e w3 ⟨rfl, hb3⟩
            rw [HLK.out]
            replace HC := Lib.hid (HC.out.keep hb3)
            replace HE := Lib.hid (HE.out.keep hb3)
            have HB3 := Lib.hid (bt HB2.out hb3)
            clear hb3
            go_wp2_with fail
            refine (CDA.out w3 HB3.out).mono ?_
            rintro e w4 ⟨AP, nP, cP, rfl, ho4, hb4⟩
            replace HC := Lib.hid (HC.out.keep hb4)
            replace HE := Lib.hid (HE.out.keep hb4)
            have HB4 := Lib.hid (bt HB3.out hb4)
            have hcapP := ho4.cap
            have hmaxP := ho4.max
            rw [maxLen_eq] at hmaxP
            have HP := Lib.hid (ho4.base HB3.out.size)
            clear hb4 ho4
            go_wp2_with fail
            refine (CRA.out AP nP cP w4 HP.out).mono ?_
            rintro e w5 ⟨rfl, hb5⟩
            replace HC := Lib.hid (HC.out.keep hb5)
            replace HE := Lib.hid (HE.out.keep hb5)
            replace HP := Lib.hid (HP.out.keep hb5)
            have HB5 := Lib.hid (bt HB4.out hb5)
            clear hb5
            go_wp2_with fail
            refine (CDB.out w5 HB5.out).mono ?_
            rintro e w6 ⟨AQ, nQ, cQ, rfl, ho6, hb6⟩
            replace HC := Lib.hid (HC.out.keep hb6)
            replace HE := Lib.hid (HE.out.keep hb6)
            replace HP := Lib.hid (HP.out.keep hb6)
            have HB6 := Lib.hid (bt HB5.out hb6)
            have hcapQ := ho6.cap
            have hmaxQ := ho6.max
            rw [maxLen_eq] at hmaxQ
            have HQ := Lib.hid (ho6.base HB5.out.size)
            clear hb6 ho6
            go_wp2_with fail
            refine (CRB.out AQ nQ cQ w6 HQ.out).mono ?_
            rintro e w7 ⟨rfl, hb7⟩
            replace HC := Lib.hid (HC.out.keep hb7)
            replace HE := Lib.hid (HE.out.keep hb7)
            replace HP := Lib.hid (HP.out.keep hb7)
            replace HQ := Lib.hid (HQ.out.keep hb7)
            have HB7 := Lib.hid (bt HB6.out hb7)
            clear hb7
            have g9 := strEq RA RB
            rw [HRE.out] at g9
            go_wp2_with fail
            refine (KN.out w7 HB7.out).mono ?_
            rintro e w8 ⟨rfl, hb8⟩
            replace HC := Lib.hid (HC.out.keep hb8)
            replace HE := Lib.hid (HE.out.keep hb8)
            replace HP := Lib.hid (HP.out.keep hb8)
            replace HQ := Lib.hid (HQ.out.keep hb8)
            have HB8 := Lib.hid (bt HB7.out hb8)
            clear hb8
            go_wp2
            go_ret
            exact ⟨rfl, HB8.out⟩
          | true =>
            have HRS := Lib.hid hRs
            clear hRs
            go_enter Tryd.func5, Tryd.ntmps5
            go_wp2_with fail
            refine (GA.out).mono ?_
            rintro e wz ⟨rfl, rfl⟩
            go_wp2_with fail
            refine (GB.out).mono ?_
            rintro e wz ⟨rfl, rfl⟩
            go_wp2_with fail
            refine (CT.out w (Below.refl w.heap.size w)).mono ?_
            rintro e w1 ⟨AC, nC, cC, BC, mC, kC, rfl, hf1, hf2, hb1⟩
            rw [HRS.out]
            have hbx1 := bt hb1 ((Below.refl _ w1).alloc (Nat.le_refl _) (.cells #[.slice AC nC cC, .slice BC mC kC] 29))
            have HB1 := Lib.hid (bt (Below.refl w.heap.size w) hbx1)
            have HC := Lib.hid (CBox.new hf1 hf2)
            clear hb1 hbx1 hf1 hf2
            go_wp2_with fail
            refine (CS.out (w1.alloc (.cells #[.slice AC nC cC, .slice BC mC kC] 29)) HB1.out).mono ?_
            rintro e w2 ⟨AE, nE, cE, BE, mE, kE, rfl, hf1, hf2, hb2⟩
            have hbx2 := bt hb2 ((Below.refl _ w2).alloc (Nat.le_refl _) (.cells #[.slice AE nE cE, .slice BE mE kE] 29))
            replace HC := Lib.hid (HC.out.keep hbx2)
            have HB2 := Lib.hid (bt HB1.out hbx2)
            have HE := Lib.hid (CBox.new hf1 hf2)
            clear hb2 hbx2 hf1 hf2
            go_wp2_with fail
            refine (LK.out (w2.alloc (.cells #[.slice AE nE cE, .slice BE mE kE] 29)) HB2.out).mono ?_
            rintro e w3 ⟨rfl, hb3⟩
            rw [HLK.out]
            replace HC := Lib.hid (HC.out.keep hb3)
            replace HE := Lib.hid (HE.out.keep hb3)
            have HB3 := Lib.hid (bt HB2.out hb3)
            clear hb3
            go_wp2_with fail
            refine (CDA.out w3 HB3.out).mono ?_
            rintro e w4 ⟨AP, nP, cP, rfl, ho4, hb4⟩
            replace HC := Lib.hid (HC.out.keep hb4)
            replace HE := Lib.hid (HE.out.keep hb4)
            have HB4 := Lib.hid (bt HB3.out hb4)
            have hcapP := ho4.cap
            have hmaxP := ho4.max
            rw [maxLen_eq] at hmaxP
            have HP := Lib.hid (ho4.base HB3.out.size)
            clear hb4 ho4
            go_wp2_with fail
            refine (CRA.out AP nP cP w4 HP.out).mono ?_
            rintro e w5 ⟨rfl, hb5⟩
            replace HC := Lib.hid (HC.out.keep hb5)
            replace HE := Lib.hid (HE.out.keep hb5)
            replace HP := Lib.hid (HP.out.keep hb5)
            have HB5 := Lib.hid (bt HB4.out hb5)
            clear hb5
            go_wp2_with fail
            refine (CDB.out w5 HB5.out).mono ?_
            rintro e w6 ⟨AQ, nQ, cQ, rfl, ho6, hb6⟩
            replace HC := Lib.hid (HC.out.keep hb6)
            replace HE := Lib.hid (HE.out.keep hb6)
            replace HP := Lib.hid (HP.out.keep hb6)
            have HB6 := Lib.hid (bt HB5.out hb6)
            have hcapQ := ho6.cap
            have hmaxQ := ho6.max
            rw [maxLen_eq] at hmaxQ
            have HQ := Lib.hid (ho6.base HB5.out.size)
            clear hb6 ho6
            go_wp2_with fail
            refine (CRB.out AQ nQ cQ w6 HQ.out).mono ?_
            rintro e w7 ⟨rfl, hb7⟩
            replace HC := Lib.hid (HC.out.keep hb7)
            replace HE := Lib.hid (HE.out.keep hb7)
            replace HP := Lib.hid (HP.out.keep hb7)
            replace HQ := Lib.hid (HQ.out.keep hb7)
            have HB7 := Lib.hid (bt HB6.out hb7)
            clear hb7
            have g9 := strEq RA RB
            rw [HRE.out] at g9
            have x0 := HC.out.x0
            have x1 := HC.out.x1
            go_wp2_with fail
            refine (HC.out.is HRS.out HSM.out (HT.out.below HB7.out)).mono ?_
            rintro e w8 ⟨rfl, hb8⟩
            replace HC := Lib.hid (HC.out.keep hb8)
            replace HE := Lib.hid (HE.out.keep hb8)
            replace HP := Lib.hid (HP.out.keep hb8)
            replace HQ := Lib.hid (HQ.out.keep hb8)
            have HB8 := Lib.hid (bt HB7.out hb8)
            clear hb8
            clear x0 x1
            go_wp2_with fail
            refine (LK.out w8 HB8.out).mono ?_
            rintro e w9 ⟨rfl, hb9⟩
            rw [HLK.out]
            replace HC := Lib.hid (HC.out.keep hb9)
            replace HE := Lib.hid (HE.out.keep hb9)
            replace HP := Lib.hid (HP.out.keep hb9)
            replace HQ := Lib.hid (HQ.out.keep hb9)
            have HB9 := Lib.hid (bt HB8.out hb9)
            clear hb9
            go_wp2_with fail
            refine (KN.out w9 HB9.out).mono ?_
            rintro e w10 ⟨rfl, hb10⟩
            replace HC := Lib.hid (HC.out.keep hb10)
            replace HE := Lib.hid (HE.out.keep hb10)
            replace HP := Lib.hid (HP.out.keep hb10)
            replace HQ := Lib.hid (HQ.out.keep hb10)
            have HB10 := Lib.hid (bt HB9.out hb10)
            clear hb10
            go_wp2
            go_ret
            exact ⟨rfl, HB10.out⟩
end Go.Proofs.YtlcdpbpbfofmmaaDoor
