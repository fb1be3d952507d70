/- ClashAhead: the walk of the law. -/
import Derived.Test.YtlcdpbpbfofmmaaDoorClash20
namespace Go.Proofs.YtlcdpbpbfofmmaaDoor
set_option maxRecDepth 100000
set_option linter.unusedVariables false
open Go.RowKit
theorem tprove_short (Y : List (List UInt8)) (n : Nat) (hn : n ≤ Y.length) (h : Y.length ≤ 800) : (tprove Y n).length ≤ 900 := by
  unfold tprove
  split
  · exact Nat.zero_le _
  · exact Nat.le_trans (Cons.part_len tnd tnil _ Y n true (Nat.le_refl _) (by omega) hn) (by omega)
set_option maxHeartbeats 64000000 in
theorem clashahead_any (A : Option Addr) (n c : Nat) (f : Nat → Piece) (B : Option Addr) (m k : Nat) (g : Nat → Piece) (Ap : Option Addr) (np cp : Nat) (p : List (List UInt8)) (w : World) (hra : RowsAt w A n f) (hu0 : True) (hc : n ≤ c) (hm : c ≤ maxLen) (hu1 : True)
    (hrb : RowsAt w B m g) (hu2 : True) (hk : m ≤ k) (hkm : k ≤ maxLen) (hu3 : True) (hpr : Rd w w.heap.size Ap (p.map sv)) (hpl : p.length = np) (hpc' : np ≤ cp) (hpm' : cp ≤ maxLen) (hwf : ∀ s ∈ p, s.length ≤ maxLen) (ht : Tabs w) :
    Calls Tryd.prog 8 #[.slice A n c, .slice B m k, .slice Ap np cp] w (RetB true w) := by
  have hp : Ss w Ap np cp p := ⟨hpr, hpl, hpc', hpm'⟩
  clear hu0 hu1 hu2 hu3 hpr
  have ga := great8_any A n c f w hra hc hm
  have gb := great8_any B m k g w hrb hk hkm
  have g6 := great6_any Ap np cp p w hp hwf
  have hm' := hm
  have hkm' := hkm
  rw [maxLen_eq] at hm' hkm' hpm'
  have KN := Lib.hid (fun (W : World) (hW : Below w.heap.size w W) => knows8_any W (ht.below hW))
  unfold Yes at KN
  cases hga : gr8 f n with
  | true =>
    rw [hga] at ga
    have GA := Lib.hid ga
    clear ga gb g6 hga hra hm hrb hkm ht hp hwf hpl
    go_enter Tryd.func8, Tryd.ntmps8
    go_wp2_with fail
    refine (GA.out).mono ?_
    rintro e wz ⟨rfl, rfl⟩
    go_wp2_with fail
    refine (KN.out w (Below.refl w.heap.size w)).mono ?_
    rintro e w1 ⟨rfl, hb1⟩
    have HB1 := Lib.hid (bt (Below.refl w.heap.size w) hb1)
    clear hb1
    go_wp2
    go_ret
    exact ⟨rfl, HB1.out⟩
  | false =>
    rw [hga] at ga
    have GA := Lib.hid ga
    obtain ⟨hn25, hsf⟩ := gr8_no hga
    clear ga hga
    cases hgb : gr8 g m with
    | true =>
      rw [hgb] at gb
      have GB := Lib.hid gb
      clear gb g6 hgb hra hm hrb hkm ht hsf hp hwf hpl
      go_enter Tryd.func8, Tryd.ntmps8
      go_wp2_with fail
      refine (GA.out).mono ?_
      rintro e wz ⟨rfl, rfl⟩
      go_wp2_with fail
      refine (GB.out).mono ?_
      rintro e wz ⟨rfl, rfl⟩
      go_wp2_with fail
      refine (KN.out w (Below.refl w.heap.size w)).mono ?_
      rintro e w1 ⟨rfl, hb1⟩
      have HB1 := Lib.hid (bt (Below.refl w.heap.size w) hb1)
      clear hb1
      go_wp2
      go_ret
      exact ⟨rfl, HB1.out⟩
    | false =>
      rw [hgb] at gb
      have GB := Lib.hid gb
      obtain ⟨hm25, hsg⟩ := gr8_no hgb
      clear gb hgb
      cases hg6 : Tree.great p with
      | true =>
        rw [hg6] at g6
        have G6 := Lib.hid g6
        clear g6 hg6 hra hm hrb hkm ht hsf hsg hp hwf hpl
        go_enter Tryd.func8, Tryd.ntmps8
        go_wp2_with fail
        refine (GA.out).mono ?_
        rintro e wz ⟨rfl, rfl⟩
        go_wp2_with fail
        refine (GB.out).mono ?_
        rintro e wz ⟨rfl, rfl⟩
        go_wp2_with fail
        refine (G6.out).mono ?_
        rintro e wz ⟨rfl, rfl⟩
        go_wp2_with fail
        refine (KN.out w (Below.refl w.heap.size w)).mono ?_
        rintro e w1 ⟨rfl, hb1⟩
        have HB1 := Lib.hid (bt (Below.refl w.heap.size w) hb1)
        clear hb1
        go_wp2
        go_ret
        exact ⟨rfl, HB1.out⟩
      | false =>
        rw [hg6] at g6
        have G6 := Lib.hid g6
        have hnp : np ≤ 100 := by rw [← hpl]; exact (Tree.great_no hg6).2
        clear g6 hg6
        by_cases hmn : m < n
        · clear hra hm hrb hkm ht hsf hsg hp hwf hpl
          go_enter Tryd.func8, Tryd.ntmps8
          go_wp2_with fail
          refine (GA.out).mono ?_
          rintro e wz ⟨rfl, rfl⟩
          go_wp2_with fail
          refine (GB.out).mono ?_
          rintro e wz ⟨rfl, rfl⟩
          go_wp2_with fail
          refine (G6.out).mono ?_
          rintro e wz ⟨rfl, rfl⟩
          go_wp2_with fail
          refine (KN.out w (Below.refl w.heap.size w)).mono ?_
          rintro e w1 ⟨rfl, hb1⟩
          have HB1 := Lib.hid (bt (Below.refl w.heap.size w) hb1)
          clear hb1
          go_wp2
          go_ret
          exact ⟨rfl, HB1.out⟩
        have hnm : n ≤ m := by omega
        have hra3 := raws_small hra (k := 300) hsf
        have hrb3 := raws_small hrb (k := 300) hsg
        have HT := Lib.hid ht
        obtain ⟨R, hR⟩ : ∃ R, consB f n g m p = R := ⟨_, rfl⟩
        have HSM := Lib.hid (show CSmall R by rw [← hR]; exact consB_small (fun x hx => Nat.le_trans (hra3 x hx) (by omega)) (fun x hx => Nat.le_trans (hrb3 x hx) (by omega)))
        unfold CSmall at HSM
        have CC := Lib.hid (show ∀ W, Below w.heap.size w W → Calls Tryd.prog 29 #[.slice A n c, .slice B m k, .slice Ap np cp] W (ResPost W.heap.size R W) from fun W hW => by
          rw [← hR]
          exact cCons_any A n c f B m k g Ap np cp p W (by omega) (by omega) (hra.keep hW) ⟨hc, hm⟩ (hrb.keep hW) ⟨hk, hkm⟩ (fun i hi => by have := hsf i hi; omega) (fun i hi => by have := hsg i hi; omega) (hp.keep hW) hwf (by omega) (ht.below hW))
        obtain ⟨X, hX⟩ : ∃ X, tleaves f n = X := ⟨_, rfl⟩
        obtain ⟨Y, hY⟩ : ∃ Y, tleaves g m = Y := ⟨_, rfl⟩
        have hX32 : ∀ s ∈ X, s.length = 32 := by rw [← hX, raws_lv]; exact Cl.lv_all _
        have hY32 : ∀ s ∈ Y, s.length = 32 := by rw [← hY, raws_lv]; exact Cl.lv_all _
        have hXl : X.length = n := by rw [← hX]; simp [tleaves]
        have hYl : Y.length = m := by rw [← hY]; simp [tleaves]
        obtain ⟨RX, hRX⟩ : ∃ R, troot X = R := ⟨_, rfl⟩
        obtain ⟨RY, hRY⟩ : ∃ R, troot Y = R := ⟨_, rfl⟩
        have hRXl : RX.length = 32 := by rw [← hRX]; exact troot_len hX32
        have hRYl : RY.length = 32 := by rw [← hRY]; exact troot_len hY32
        have CX := Lib.hid (show ∀ W, Below w.heap.size w W → Calls Tryd.prog 16 #[.slice A n c] W (OwnSPost W.heap.size X W) from fun W hW => by
          rw [← hX]; exact rleaves_any _ n c f W (hra.keep hW) hc hm (by omega) (fun k hk => by have := hsf k hk; omega))
        have CY := Lib.hid (show ∀ W, Below w.heap.size w W → Calls Tryd.prog 16 #[.slice B m k] W (OwnSPost W.heap.size Y W) from fun W hW => by
          rw [← hY]; exact rleaves_any _ m k g W (hrb.keep hW) hk hkm (by omega) (fun k hk => by have := hsg k hk; omega))
        unfold OwnSPost at CX CY
        have CRX := Lib.hid (show ∀ (A : Option Addr) (n' c : Nat) (W : World), OwnS W w.heap.size A n' c X → Calls Tryd.prog 19 #[.slice A n' c] W (StrPost RX W) from fun A n' c W h => by
          rw [← hRX]; exact rroot_any _ A n' c X W (Nat.le_refl _) h.ss hX32 (by have := h.len; omega))
        have CRY := Lib.hid (show ∀ (A : Option Addr) (n' c : Nat) (W : World), OwnS W w.heap.size A n' c Y → Calls Tryd.prog 19 #[.slice A n' c] W (StrPost RY W) from fun A n' c W h => by
          rw [← hRY]; exact rroot_any _ A n' c Y W (Nat.le_refl _) h.ss hY32 (by have := h.len; omega))
        unfold StrPost at CRX CRY
        obtain ⟨own, hown⟩ : ∃ q, tprove Y n = q := ⟨_, rfl⟩
        have CPV := Lib.hid (show ∀ (A : Option Addr) (n' c : Nat) (W : World), Below w.heap.size w W → OwnS W w.heap.size A n' c Y → Calls Tryd.prog 32 #[.slice A n' c, .int .i64 (n : Int)] W (PathPost own W) from fun A n' c W hW h => by
          rw [← hown]; exact cprove_any A n' c Y n W h.ss hY32 (by have := h.len; omega) (by have := h.len; omega) (ht.below hW))
        unfold PathPost at CPV
        have how32 : ∀ s ∈ own, s.length = 32 := by rw [← hown]; exact tprove_all hY32 (by omega)
        have CC2 := Lib.hid (show ∀ (W : World) (A' Aq : Option Addr) (nq cq : Nat), Below w.heap.size w W → RowsAt W A' n g → OwnS W w.heap.size Aq nq cq own → Calls Tryd.prog 29 #[.slice A' n k, .slice B m k, .slice Aq nq cq] W (ResPost W.heap.size none W) from fun W A' Aq nq cq hW h1 h2 => by
          have hlen := h2.len
          have hle : own.length ≤ 900 := by rw [← hown]; exact tprove_short Y n (by omega) (by omega)
          have := cCons_any A' n k g B m k g Aq nq cq own W (by omega) (by omega) h1 ⟨by omega, hkm⟩ (hrb.keep hW) ⟨hk, hkm⟩ (fun i hi => by have := hsg i (by omega); omega) (fun i hi => by have := hsg i hi; omega) h2.ss (fun s hs => by rw [how32 s hs, maxLen_eq]; omega) (by omega) (ht.below hW)
          rw [← hown, ← hY, consB_own hnm] at this
          rw [← hown, ← hY] at h2
          exact this)
        have HRB := Lib.hid (show ∀ W, Below w.heap.size w W → RowsAt W B m g from fun W hW => hrb.keep hW)
        obtain ⟨V2, hV2⟩ : ∃ V, decide (raws f n = raws g n) = V := ⟨_, rfl⟩
        have LK := Lib.hid (show ∀ (W : World) (A' : Option Addr), Below w.heap.size w W → RowsAt W A' n g → Calls Tryd.prog 23 #[.slice A n c, .slice A' n k] W (BoolPost V2 W) from fun W A' hW h => by
          rw [← hV2]; exact like_any A n c f A' k g W (hra.keep hW) ⟨hc, hm⟩ h ⟨by omega, hkm⟩)
        unfold BoolPost at LK
        obtain ⟨V, hV⟩ : ∃ V, (Tree.all32 p && tcheck n m RX RY p) = V := ⟨_, rfl⟩
        have CK := Lib.hid (show ∀ W, Below w.heap.size w W → Calls Tryd.prog 31 #[.int .i64 (n : Int), .int .i64 (m : Int), sv RX, sv RY, .slice Ap np cp] W (RetI (if V then 0 else 6) W) from fun W hW => by
          by_cases ha : Tree.all32 p = true
          · rw [ha, Bool.true_and] at hV
            exact ccheck_all n m RX RY Ap np cp p W (hp.keep hW) (all32_of ha) hnm (by omega) (by omega) hRXl hRYl (ht.below hW) V hV _ rfl
          · have hf : Tree.all32 p = false := by simpa using ha
            rw [hf, Bool.false_and] at hV
            rw [← hV]
            exact ccheck_proof n m RX RY Ap np cp p W (hp.keep hW) hwf hnm (by omega) hRXl hRYl hf)
        unfold RetI at CK
        cases hVc : V with
        | false =>
          rw [hVc] at hV CK
          obtain rfl : R = none := by rw [← hR]; unfold consB; rw [hX, hY, hRX, hRY, hV, if_neg (fun h => by cases h.2.2)]
          have HRS := Lib.hid (show (none : Option (List UInt8 × List UInt8)).isSome = false from rfl)
          clear hra hrb hra3 hrb3 hsf hsg hm hkm ht hR hX hY hX32 hY32 hXl hYl hRX hRY hRXl hRYl hown how32 hV2 hV hVc hp hwf hpl LK
          go_enter Tryd.func8, Tryd.ntmps8
          go_wp2_with fail
          refine (GA.out).mono ?_
          rintro e wz ⟨rfl, rfl⟩
          go_wp2_with fail
          refine (GB.out).mono ?_
          rintro e wz ⟨rfl, rfl⟩
          go_wp2_with fail
          refine (G6.out).mono ?_
          rintro e wz ⟨rfl, rfl⟩
          go_wp2_with fail
          refine (CX.out w (Below.refl w.heap.size w)).mono ?_
          rintro e w1 ⟨AX, nX, cX, rfl, ho1, hb1⟩
          have HB1 := Lib.hid (bt (Below.refl w.heap.size w) hb1)
          have hcapX := ho1.cap
          have hmaxX := ho1.max
          rw [maxLen_eq] at hmaxX
          have HX := Lib.hid (ho1.base (Below.refl w.heap.size w).size)
          clear hb1 ho1
          go_wp2_with fail
          refine (CY.out w1 HB1.out).mono ?_
          rintro e w2 ⟨AY, nY, cY, rfl, ho2, hb2⟩
          replace HX := Lib.hid (HX.out.keep hb2)
          have HB2 := Lib.hid (bt HB1.out hb2)
          have hcapY := ho2.cap
          have hmaxY := ho2.max
          rw [maxLen_eq] at hmaxY
          have HY := Lib.hid (ho2.base HB1.out.size)
          clear hb2 ho2
          go_wp2_with fail
          refine (CC.out w2 HB2.out).mono ?_
          rintro e w3 ⟨AC, nC, cC, BC, mC, kC, rfl, hf1, hf2, hb3⟩
          rw [HRS.out]
          have hbx3 := bt hb3 ((Below.refl _ w3).alloc (Nat.le_refl _) (.cells #[.slice AC nC cC, .slice BC mC kC] 29))
          replace HX := Lib.hid (HX.out.keep hbx3)
          replace HY := Lib.hid (HY.out.keep hbx3)
          have HB3 := Lib.hid (bt HB2.out hbx3)
          have HC := Lib.hid (CBox.new hf1 hf2)
          clear hb3 hbx3 hf1 hf2
          go_wp2_with fail
          refine (CRX.out AX nX cX (w3.alloc (.cells #[.slice AC nC cC, .slice BC mC kC] 29)) HX.out).mono ?_
          rintro e w4 ⟨rfl, hb4⟩
          replace HX := Lib.hid (HX.out.keep hb4)
          replace HY := Lib.hid (HY.out.keep hb4)
          replace HC := Lib.hid (HC.out.keep hb4)
          have HB4 := Lib.hid (bt HB3.out hb4)
          clear hb4
          go_wp2_with fail
          refine (CRY.out AY nY cY w4 HY.out).mono ?_
          rintro e w5 ⟨rfl, hb5⟩
          replace HX := Lib.hid (HX.out.keep hb5)
          replace HY := Lib.hid (HY.out.keep hb5)
          replace HC := Lib.hid (HC.out.keep hb5)
          have HB5 := Lib.hid (bt HB4.out hb5)
          clear hb5
          go_wp2_with fail
          refine (CK.out w5 HB5.out).mono ?_
          rintro e w6 ⟨rfl, hb6⟩
          replace HX := Lib.hid (HX.out.keep hb6)
          replace HY := Lib.hid (HY.out.keep hb6)
          replace HC := Lib.hid (HC.out.keep hb6)
          have HB6 := Lib.hid (bt HB5.out hb6)
          clear hb6
          go_wp2_with fail
          refine (CPV.out AY nY cY w6 HB6.out HY.out).mono ?_
          rintro e w7 ⟨AP, nP, cP, rfl, ho7, hb7⟩
          replace HX := Lib.hid (HX.out.keep hb7)
          replace HY := Lib.hid (HY.out.keep hb7)
          replace HC := Lib.hid (HC.out.keep hb7)
          have HB7 := Lib.hid (bt HB6.out hb7)
          have hcapP := ho7.cap
          have hmaxP := ho7.max
          rw [maxLen_eq] at hmaxP
          have HP := Lib.hid (ho7.base HB6.out.size)
          clear hb7 ho7
          go_wp2_with (refine wl_cutR_hi rfl (.tmp 82) (.tmp 84) rfl rfl (HRB.out w7 HB7.out) hk n rfl (by omega) ?_; intro A8 h8; have H8 := Lib.hid h8; clear h8)
          refine (CC2.out w7 A8 AP nP cP HB7.out H8.out HP.out).mono ?_
          rintro e w8 ⟨AE, nE, cE, BE, mE, kE, rfl, hf1, hf2, hb8⟩
          have hbx8 := bt hb8 ((Below.refl _ w8).alloc (Nat.le_refl _) (.cells #[.slice AE nE cE, .slice BE mE kE] 29))
          replace HX := Lib.hid (HX.out.keep hbx8)
          replace HY := Lib.hid (HY.out.keep hbx8)
          replace HC := Lib.hid (HC.out.keep hbx8)
          replace HP := Lib.hid (HP.out.keep hbx8)
          have HB8 := Lib.hid (bt HB7.out hbx8)
          have HE := Lib.hid (CBox.new hf1 hf2)
          clear hb8 hbx8 hf1 hf2
          go_wp2_with fail
          refine (KN.out (w8.alloc (.cells #[.slice AE nE cE, .slice BE mE kE] 29)) HB8.out).mono ?_
          rintro e w9 ⟨rfl, hb9⟩
          replace HX := Lib.hid (HX.out.keep hb9)
          replace HY := Lib.hid (HY.out.keep hb9)
          replace HC := Lib.hid (HC.out.keep hb9)
          replace HP := Lib.hid (HP.out.keep hb9)
          replace HE := Lib.hid (HE.out.keep hb9)
          have HB9 := Lib.hid (bt HB8.out hb9)
          clear hb9
          go_wp2
          go_ret
          exact ⟨rfl, HB9.out⟩
        | true =>
          rw [hVc] at hV CK
          have hfin : V2 = false → R.isSome = true := fun h => by
            rw [← hR]
            exact consB_finds hnm (by rw [hX, hY, hRX, hRY]; exact hV) (of_decide_eq_false (hV2.trans h))
          clear hra hrb hra3 hrb3 hsf hsg hm hkm ht hR hX hY hX32 hY32 hXl hYl hRX hRY hRXl hRYl hown how32 hV2 hV hVc hp hwf hpl
          cases hq : V2 with
          | false =>
            have HLK := Lib.hid hq
            have HRS := Lib.hid (hfin hq)
            clear hfin hq
            go_enter Tryd.func8, Tryd.ntmps8
            go_wp2_with fail
            refine (GA.out).mono ?_
            rintro e wz ⟨rfl, rfl⟩
            go_wp2_with fail
            refine (GB.out).mono ?_
            rintro e wz ⟨rfl, rfl⟩
            go_wp2_with fail
            refine (G6.out).mono ?_
            rintro e wz ⟨rfl, rfl⟩
            go_wp2_with fail
            refine (CX.out w (Below.refl w.heap.size w)).mono ?_
            rintro e w1 ⟨AX, nX, cX, rfl, ho1, hb1⟩
            have HB1 := Lib.hid (bt (Below.refl w.heap.size w) hb1)
            have hcapX := ho1.cap
            have hmaxX := ho1.max
            rw [maxLen_eq] at hmaxX
            have HX := Lib.hid (ho1.base (Below.refl w.heap.size w).size)
            clear hb1 ho1
            go_wp2_with fail
            refine (CY.out w1 HB1.out).mono ?_
            rintro e w2 ⟨AY, nY, cY, rfl, ho2, hb2⟩
            replace HX := Lib.hid (HX.out.keep hb2)
            have HB2 := Lib.hid (bt HB1.out hb2)
            have hcapY := ho2.cap
            have hmaxY := ho2.max
            rw [maxLen_eq] at hmaxY
            have HY := Lib.hid (ho2.base HB1.out.size)
            clear hb2 ho2
            go_wp2_with fail
            refine (CC.out w2 HB2.out).mono ?_
            rintro e w3 ⟨AC, nC, cC, BC, mC, kC, rfl, hf1, hf2, hb3⟩
            rw [HRS.out]
            have hbx3 := bt hb3 ((Below.refl _ w3).alloc (Nat.le_refl _) (.cells #[.slice AC nC cC, .slice BC mC kC] 29))
            replace HX := Lib.hid (HX.out.keep hbx3)
            replace HY := Lib.hid (HY.out.keep hbx3)
            have HB3 := Lib.hid (bt HB2.out hbx3)
            have HC := Lib.hid (CBox.new hf1 hf2)
            clear hb3 hbx3 hf1 hf2
            go_wp2_with fail
            refine (CRX.out AX nX cX (w3.alloc (.cells #[.slice AC nC cC, .slice BC mC kC] 29)) HX.out).mono ?_
            rintro e w4 ⟨rfl, hb4⟩
            replace HX := Lib.hid (HX.out.keep hb4)
            replace HY := Lib.hid (HY.out.keep hb4)
            replace HC := Lib.hid (HC.out.keep hb4)
            have HB4 := Lib.hid (bt HB3.out hb4)
            clear hb4
            go_wp2_with fail
            refine (CRY.out AY nY cY w4 HY.out).mono ?_
            rintro e w5 ⟨rfl, hb5⟩
            replace HX := Lib.hid (HX.out.keep hb5)
            replace HY := Lib.hid (HY.out.keep hb5)
            replace HC := Lib.hid (HC.out.keep hb5)
            have HB5 := Lib.hid (bt HB4.out hb5)
            clear hb5
            go_wp2_with fail
            refine (CK.out w5 HB5.out).mono ?_
            rintro e w6 ⟨rfl, hb6⟩
            replace HX := Lib.hid (HX.out.keep hb6)
            replace HY := Lib.hid (HY.out.keep hb6)
            replace HC := Lib.hid (HC.out.keep hb6)
            have HB6 := Lib.hid (bt HB5.out hb6)
            clear hb6
            go_wp2_with (refine wl_cutR_hig (by simp [Region.wanted, yielded] <;> omega) (.tmp 59) (.tmp 61) rfl rfl (HRB.out w6 HB6.out) hk n rfl (by omega) ?_; intro A9 h9; have H9 := Lib.hid h9; clear h9)
            refine (LK.out w6 A9 HB6.out H9.out).mono ?_
            rintro e w7 ⟨rfl, hb7⟩
            rw [HLK.out]
            replace HX := Lib.hid (HX.out.keep hb7)
            replace HY := Lib.hid (HY.out.keep hb7)
            replace HC := Lib.hid (HC.out.keep hb7)
            have HB7 := Lib.hid (bt HB6.out hb7)
            clear hb7
            have x0 := HC.out.x0
            have x1 := HC.out.x1
            go_wp2_with fail
            refine (HC.out.is HRS.out HSM.out (HT.out.below HB7.out)).mono ?_
            rintro e w8 ⟨rfl, hb8⟩
            replace HX := Lib.hid (HX.out.keep hb8)
            replace HY := Lib.hid (HY.out.keep hb8)
            replace HC := Lib.hid (HC.out.keep hb8)
            have HB8 := Lib.hid (bt HB7.out hb8)
            clear hb8
            clear x0 x1
            go_wp2_with fail
            refine (KN.out w8 HB8.out).mono ?_
            rintro e w9 ⟨rfl, hb9⟩
            replace HX := Lib.hid (HX.out.keep hb9)
            replace HY := Lib.hid (HY.out.keep hb9)
            replace HC := Lib.hid (HC.out.keep hb9)
            have HB9 := Lib.hid (bt HB8.out hb9)
            clear hb9
            go_wp2
            go_ret
            exact ⟨rfl, HB9.out⟩
          | true =>
            have HLK := Lib.hid hq
            clear hfin hq
            cases hRs : R.isSome with
            | false =>
              have HRS := Lib.hid hRs
              clear hRs
              go_enter Tryd.func8, Tryd.ntmps8
              go_wp2_with fail
              refine (GA.out).mono ?_
              rintro e wz ⟨rfl, rfl⟩
              go_wp2_with fail
              refine (GB.out).mono ?_
              rintro e wz ⟨rfl, rfl⟩
              go_wp2_with fail
              refine (G6.out).mono ?_
              rintro e wz ⟨rfl, rfl⟩
              go_wp2_with fail
              refine (CX.out w (Below.refl w.heap.size w)).mono ?_
              rintro e w1 ⟨AX, nX, cX, rfl, ho1, hb1⟩
              have HB1 := Lib.hid (bt (Below.refl w.heap.size w) hb1)
              have hcapX := ho1.cap
              have hmaxX := ho1.max
              rw [maxLen_eq] at hmaxX
              have HX := Lib.hid (ho1.base (Below.refl w.heap.size w).size)
              clear hb1 ho1
              go_wp2_with fail
              refine (CY.out w1 HB1.out).mono ?_
              rintro e w2 ⟨AY, nY, cY, rfl, ho2, hb2⟩
              replace HX := Lib.hid (HX.out.keep hb2)
              have HB2 := Lib.hid (bt HB1.out hb2)
              have hcapY := ho2.cap
              have hmaxY := ho2.max
              rw [maxLen_eq] at hmaxY
              have HY := Lib.hid (ho2.base HB1.out.size)
              clear hb2 ho2
              go_wp2_with fail
              refine (CC.out w2 HB2.out).mono ?_
              rintro e w3 ⟨AC, nC, cC, BC, mC, kC, rfl, hf1, hf2, hb3⟩
              rw [HRS.out]
              have hbx3 := bt hb3 ((Below.refl _ w3).alloc (Nat.le_refl _) (.cells #[.slice AC nC cC, .slice BC mC kC] 29))
              replace HX := Lib.hid (HX.out.keep hbx3)
              replace HY := Lib.hid (HY.out.keep hbx3)
              have HB3 := Lib.hid (bt HB2.out hbx3)
              have HC := Lib.hid (CBox.new hf1 hf2)
              clear hb3 hbx3 hf1 hf2
              go_wp2_with fail
              refine (CRX.out AX nX cX (w3.alloc (.cells #[.slice AC nC cC, .slice BC mC kC] 29)) HX.out).mono ?_
              rintro e w4 ⟨rfl, hb4⟩
              replace HX := Lib.hid (HX.out.keep hb4)
              replace HY := Lib.hid (HY.out.keep hb4)
              replace HC := Lib.hid (HC.out.keep hb4)
              have HB4 := Lib.hid (bt HB3.out hb4)
              clear hb4
              go_wp2_with fail
              refine (CRY.out AY nY cY w4 HY.out).mono ?_
              rintro e w5 ⟨rfl, hb5⟩
              replace HX := Lib.hid (HX.out.keep hb5)
              replace HY := Lib.hid (HY.out.keep hb5)
              replace HC := Lib.hid (HC.out.keep hb5)
              have HB5 := Lib.hid (bt HB4.out hb5)
              clear hb5
              go_wp2_with fail
              refine (CK.out w5 HB5.out).mono ?_
              rintro e w6 ⟨rfl, hb6⟩
              replace HX := Lib.hid (HX.out.keep hb6)
              replace HY := Lib.hid (HY.out.keep hb6)
              replace HC := Lib.hid (HC.out.keep hb6)
              have HB6 := Lib.hid (bt HB5.out hb6)
              clear hb6
              go_wp2_with (refine wl_cutR_hig (by simp [Region.wanted, yielded] <;> omega) (.tmp 59) (.tmp 61) rfl rfl (HRB.out w6 HB6.out) hk n rfl (by omega) ?_; intro A9 h9; have H9 := Lib.hid h9; clear h9)
              refine (LK.out w6 A9 HB6.out H9.out).mono ?_
              rintro e w7 ⟨rfl, hb7⟩
              rw [HLK.out]
              replace HX := Lib.hid (HX.out.keep hb7)
              replace HY := Lib.hid (HY.out.keep hb7)
              replace HC := Lib.hid (HC.out.keep hb7)
              have HB7 := Lib.hid (bt HB6.out hb7)
              clear hb7
              go_wp2_with fail
              refine (CPV.out AY nY cY w7 HB7.out HY.out).mono ?_
              rintro e w8 ⟨AP, nP, cP, rfl, ho8, hb8⟩
              replace HX := Lib.hid (HX.out.keep hb8)
              replace HY := Lib.hid (HY.out.keep hb8)
              replace HC := Lib.hid (HC.out.keep hb8)
              have HB8 := Lib.hid (bt HB7.out hb8)
              have hcapP := ho8.cap
              have hmaxP := ho8.max
              rw [maxLen_eq] at hmaxP
              have HP := Lib.hid (ho8.base HB7.out.size)
              clear hb8 ho8
              go_wp2_with (refine wl_cutR_hi rfl (.tmp 82) (.tmp 84) rfl rfl (HRB.out w8 HB8.out) hk n rfl (by omega) ?_; intro A8 h8; have H8 := Lib.hid h8; clear h8)
              refine (CC2.out w8 A8 AP nP cP HB8.out H8.out HP.out).mono ?_
              rintro e w9 ⟨AE, nE, cE, BE, mE, kE, rfl, hf1, hf2, hb9⟩
              have hbx9 := bt hb9 ((Below.refl _ w9).alloc (Nat.le_refl _) (.cells #[.slice AE nE cE, .slice BE mE kE] 29))
              replace HX := Lib.hid (HX.out.keep hbx9)
              replace HY := Lib.hid (HY.out.keep hbx9)
              replace HC := Lib.hid (HC.out.keep hbx9)
              replace HP := Lib.hid (HP.out.keep hbx9)
              have HB9 := Lib.hid (bt HB8.out hbx9)
              have HE := Lib.hid (CBox.new hf1 hf2)
              clear hb9 hbx9 hf1 hf2
              go_wp2_with fail
              refine (KN.out (w9.alloc (.cells #[.slice AE nE cE, .slice BE mE kE] 29)) HB9.out).mono ?_
              rintro e w10 ⟨rfl, hb10⟩
              replace HX := Lib.hid (HX.out.keep hb10)
              replace HY := Lib.hid (HY.out.keep hb10)
              replace HC := Lib.hid (HC.out.keep hb10)
              replace HP := Lib.hid (HP.out.keep hb10)
              replace HE := Lib.hid (HE.out.keep hb10)
              have HB10 := Lib.hid (bt HB9.out hb10)
              clear hb10
              go_wp2
              go_ret
              exact ⟨rfl, HB10.out⟩
            | true =>
              have HRS := Lib.hid hRs
              clear hRs
              go_enter Tryd.func8, Tryd.ntmps8
              go_wp2_with fail
              refine (GA.out).mono ?_
              rintro e wz ⟨rfl, rfl⟩
              go_wp2_with fail
              refine (GB.out).mono ?_
              rintro e wz ⟨rfl, rfl⟩
              go_wp2_with fail
              refine (G6.out).mono ?_
              rintro e wz ⟨rfl, rfl⟩
              go_wp2_with fail
              refine (CX.out w (Below.refl w.heap.size w)).mono ?_
              rintro e w1 ⟨AX, nX, cX, rfl, ho1, hb1⟩
              have HB1 := Lib.hid (bt (Below.refl w.heap.size w) hb1)
              have hcapX := ho1.cap
              have hmaxX := ho1.max
              rw [maxLen_eq] at hmaxX
              have HX := Lib.hid (ho1.base (Below.refl w.heap.size w).size)
              clear hb1 ho1
              go_wp2_with fail
              refine (CY.out w1 HB1.out).mono ?_
              rintro e w2 ⟨AY, nY, cY, rfl, ho2, hb2⟩
              replace HX := Lib.hid (HX.out.keep hb2)
              have HB2 := Lib.hid (bt HB1.out hb2)
              have hcapY := ho2.cap
              have hmaxY := ho2.max
              rw [maxLen_eq] at hmaxY
              have HY := Lib.hid (ho2.base HB1.out.size)
              clear hb2 ho2
              go_wp2_with fail
              refine (CC.out w2 HB2.out).mono ?_
              rintro e w3 ⟨AC, nC, cC, BC, mC, kC, rfl, hf1, hf2, hb3⟩
              rw [HRS.out]
              have hbx3 := bt hb3 ((Below.refl _ w3).alloc (Nat.le_refl _) (.cells #[.slice AC nC cC, .slice BC mC kC] 29))
              replace HX := Lib.hid (HX.out.keep hbx3)
              replace HY := Lib.hid (HY.out.keep hbx3)
              have HB3 := Lib.hid (bt HB2.out hbx3)
              have HC := Lib.hid (CBox.new hf1 hf2)
              clear hb3 hbx3 hf1 hf2
              go_wp2_with fail
              refine (CRX.out AX nX cX (w3.alloc (.cells #[.slice AC nC cC, .slice BC mC kC] 29)) HX.out).mono ?_
              rintro e w4 ⟨rfl, hb4⟩
              replace HX := Lib.hid (HX.out.keep hb4)
              replace HY := Lib.hid (HY.out.keep hb4)
              replace HC := Lib.hid (HC.out.keep hb4)
              have HB4 := Lib.hid (bt HB3.out hb4)
              clear hb4
              go_wp2_with fail
              refine (CRY.out AY nY cY w4 HY.out).mono ?_
              rintro e w5 ⟨rfl, hb5⟩
              replace HX := Lib.hid (HX.out.keep hb5)
              replace HY := Lib.hid (HY.out.keep hb5)
              replace HC := Lib.hid (HC.out.keep hb5)
              have HB5 := Lib.hid (bt HB4.out hb5)
              clear hb5
              go_wp2_with fail
              refine (CK.out w5 HB5.out).mono ?_
              rintro e w6 ⟨rfl, hb6⟩
              replace HX := Lib.hid (HX.out.keep hb6)
              replace HY := Lib.hid (HY.out.keep hb6)
              replace HC := Lib.hid (HC.out.keep hb6)
              have HB6 := Lib.hid (bt HB5.out hb6)
              clear hb6
              go_wp2_with (refine wl_cutR_hig (by simp [Region.wanted, yielded] <;> omega) (.tmp 59) (.tmp 61) rfl rfl (HRB.out w6 HB6.out) hk n rfl (by omega) ?_; intro A9 h9; have H9 := Lib.hid h9; clear h9)
              refine (LK.out w6 A9 HB6.out H9.out).mono ?_
              rintro e w7 ⟨rfl, hb7⟩
              rw [HLK.out]
              replace HX := Lib.hid (HX.out.keep hb7)
              replace HY := Lib.hid (HY.out.keep hb7)
              replace HC := Lib.hid (HC.out.keep hb7)
              have HB7 := Lib.hid (bt HB6.out hb7)
              clear hb7
              go_wp2_with fail
              refine (CPV.out AY nY cY w7 HB7.out HY.out).mono ?_
              rintro e w8 ⟨AP, nP, cP, rfl, ho8, hb8⟩
              replace HX := Lib.hid (HX.out.keep hb8)
              replace HY := Lib.hid (HY.out.keep hb8)
              replace HC := Lib.hid (HC.out.keep hb8)
              have HB8 := Lib.hid (bt HB7.out hb8)
              have hcapP := ho8.cap
              have hmaxP := ho8.max
              rw [maxLen_eq] at hmaxP
              have HP := Lib.hid (ho8.base HB7.out.size)
              clear hb8 ho8
              go_wp2_with (refine wl_cutR_hi rfl (.tmp 82) (.tmp 84) rfl rfl (HRB.out w8 HB8.out) hk n rfl (by omega) ?_; intro A8 h8; have H8 := Lib.hid h8; clear h8)
              refine (CC2.out w8 A8 AP nP cP HB8.out H8.out HP.out).mono ?_
              rintro e w9 ⟨AE, nE, cE, BE, mE, kE, rfl, hf1, hf2, hb9⟩
              have hbx9 := bt hb9 ((Below.refl _ w9).alloc (Nat.le_refl _) (.cells #[.slice AE nE cE, .slice BE mE kE] 29))
              replace HX := Lib.hid (HX.out.keep hbx9)
              replace HY := Lib.hid (HY.out.keep hbx9)
              replace HC := Lib.hid (HC.out.keep hbx9)
              replace HP := Lib.hid (HP.out.keep hbx9)
              have HB9 := Lib.hid (bt HB8.out hbx9)
              have HE := Lib.hid (CBox.new hf1 hf2)
              clear hb9 hbx9 hf1 hf2
              have x0 := HC.out.x0
              have x1 := HC.out.x1
              go_wp2_with fail
              refine (HC.out.is HRS.out HSM.out (HT.out.below HB9.out)).mono ?_
              rintro e w10 ⟨rfl, hb10⟩
              replace HX := Lib.hid (HX.out.keep hb10)
              replace HY := Lib.hid (HY.out.keep hb10)
              replace HC := Lib.hid (HC.out.keep hb10)
              replace HP := Lib.hid (HP.out.keep hb10)
              replace HE := Lib.hid (HE.out.keep hb10)
              have HB10 := Lib.hid (bt HB9.out hb10)
              clear hb10
              clear x0 x1
              go_wp2_with fail
              refine (KN.out w10 HB10.out).mono ?_
              rintro e w11 ⟨rfl, hb11⟩
              replace HX := Lib.hid (HX.out.keep hb11)
              replace HY := Lib.hid (HY.out.keep hb11)
              replace HC := Lib.hid (HC.out.keep hb11)
              replace HP := Lib.hid (HP.out.keep hb11)
              replace HE := Lib.hid (HE.out.keep hb11)
              have HB11 := Lib.hid (bt HB10.out hb11)
              clear hb11
              go_wp2
              go_ret
              exact ⟨rfl, HB11.out⟩
end Go.Proofs.YtlcdpbpbfofmmaaDoor
