/- ClashTwo: the walk of the law. -/
import Derived.Test.YtlcdpbpbfofmmaaDoorMClashF
namespace Go.Proofs.YtlcdpbpbfofmmaaDoor
set_option maxRecDepth 100000
set_option linter.unusedVariables false
open Go.RowKit
set_option maxHeartbeats 64000000 in
theorem clashtwo_any (A : Option Addr) (n c : Nat) (f : Nat → Piece) (B : Option Addr) (m k : Nat) (g : Nat → Piece) (Ax : Option Addr) (nx cx : Nat) (x : List UInt8) (Ay : Option Addr) (ny cy : Nat) (y : List UInt8) (w : World) (hra : RowsAt w A n f) (hu0 : True) (hc : n ≤ c) (hm : c ≤ maxLen) (hu1 : True)
    (hrb : RowsAt w B m g) (hu2 : True) (hk : m ≤ k) (hkm : k ≤ maxLen) (hu3 : True) (hxr : Rd w w.heap.size Ax (x.map bv)) (hxl : x.length = nx) (hxc : nx ≤ cx) (hxm : cx ≤ maxLen) (hyr : Rd w w.heap.size Ay (y.map bv)) (hyl : y.length = ny) (hyc : ny ≤ cy) (hym : cy ≤ maxLen) (ht : Tabs w) :
    Calls Tryd.prog 6 #[.slice A n c, .slice B m k, .slice Ax nx cx, .slice Ay ny cy] w (RetB true w) := by
  have hx : Bs w Ax nx cx x := ⟨hxr, hxl, hxc, hxm⟩
  have hy : Bs w Ay ny cy y := ⟨hyr, hyl, hyc, hym⟩
  clear hu0 hu1 hu2 hu3 hxr hxl hyr hyl
  have ga := great8_any A n c f w hra hc hm
  have gb := great8_any B m k g w hrb hk hkm
  have hm' := hm
  have hkm' := hkm
  rw [maxLen_eq] at hm' hkm' hxm hym
  have KN := Lib.hid (fun (W : World) (hW : Below w.heap.size w W) => knows8_any W (ht.below hW))
  unfold Yes at KN
  cases hga : gr8 f n with
  | true =>
    rw [hga] at ga
    have GA := Lib.hid ga
    clear ga gb hga hra hm hrb hkm ht hx hy
    go_enter Tryd.func6, Tryd.ntmps6
    go_wp2_with fail
    refine (GA.out).mono ?_
    rintro e wz ⟨rfl, rfl⟩
    go_wp2_with fail
    refine (KN.out w (Below.refl w.heap.size w)).mono ?_
    rintro e w1 ⟨rfl, hb1⟩
    have HB1 := Lib.hid (bt (Below.refl w.heap.size w) hb1)
    clear hb1
    go_wp2
    go_ret
    exact ⟨rfl, HB1.out⟩
  | false =>
    rw [hga] at ga
    have GA := Lib.hid ga
    obtain ⟨hn25, hsf⟩ := gr8_no hga
    clear ga hga
    cases hgb : gr8 g m with
    | true =>
      rw [hgb] at gb
      have GB := Lib.hid gb
      clear gb hgb hra hm hrb hkm ht hsf hx hy
      go_enter Tryd.func6, Tryd.ntmps6
      go_wp2_with fail
      refine (GA.out).mono ?_
      rintro e wz ⟨rfl, rfl⟩
      go_wp2_with fail
      refine (GB.out).mono ?_
      rintro e wz ⟨rfl, rfl⟩
      go_wp2_with fail
      refine (KN.out w (Below.refl w.heap.size w)).mono ?_
      rintro e w1 ⟨rfl, hb1⟩
      have HB1 := Lib.hid (bt (Below.refl w.heap.size w) hb1)
      clear hb1
      go_wp2
      go_ret
      exact ⟨rfl, HB1.out⟩
    | false =>
      rw [hgb] at gb
      have GB := Lib.hid gb
      obtain ⟨hm25, hsg⟩ := gr8_no hgb
      clear gb hgb
      by_cases hbx : 1000 < nx
      · clear hra hm hrb hkm ht hsf hsg hx hy
        go_enter Tryd.func6, Tryd.ntmps6
        go_wp2_with fail
        refine (GA.out).mono ?_
        rintro e wz ⟨rfl, rfl⟩
        go_wp2_with fail
        refine (GB.out).mono ?_
        rintro e wz ⟨rfl, rfl⟩
        go_wp2_with fail
        refine (KN.out w (Below.refl w.heap.size w)).mono ?_
        rintro e w1 ⟨rfl, hb1⟩
        have HB1 := Lib.hid (bt (Below.refl w.heap.size w) hb1)
        clear hb1
        go_wp2
        go_ret
        exact ⟨rfl, HB1.out⟩
      by_cases hby : 1000 < ny
      · clear hra hm hrb hkm ht hsf hsg hx hy
        go_enter Tryd.func6, Tryd.ntmps6
        go_wp2_with fail
        refine (GA.out).mono ?_
        rintro e wz ⟨rfl, rfl⟩
        go_wp2_with fail
        refine (GB.out).mono ?_
        rintro e wz ⟨rfl, rfl⟩
        go_wp2_with fail
        refine (KN.out w (Below.refl w.heap.size w)).mono ?_
        rintro e w1 ⟨rfl, hb1⟩
        have HB1 := Lib.hid (bt (Below.refl w.heap.size w) hb1)
        clear hb1
        go_wp2
        go_ret
        exact ⟨rfl, HB1.out⟩
      have hra3 := raws_small hra (k := 300) hsf
      have hrb3 := raws_small hrb (k := 300) hsg
      have HT := Lib.hid ht
      obtain ⟨rP, hrP⟩ : ∃ r, Cl.btw (2 :: x) (2 :: y) = r := ⟨_, rfl⟩
      obtain ⟨rH, hrH⟩ : ∃ r, Cl.btw (3 :: x) (3 :: y) = r := ⟨_, rfl⟩
      have BX2 := Lib.hid (show ∀ W, Below w.heap.size w W → Calls Tryd.prog 26 #[.int .i64 2, .slice Ax nx cx] W (Ret8 W.heap.size (2 :: x) W) from fun W hW => by
        have h := hx.keep hW
        exact (rbytes_any 2 Ax nx cx x W h.rd h.len h.cap h.max (by omega)).mono fun e w2 h => h.ret8)
      have BY2 := Lib.hid (show ∀ W, Below w.heap.size w W → Calls Tryd.prog 26 #[.int .i64 2, .slice Ay ny cy] W (Ret8 W.heap.size (2 :: y) W) from fun W hW => by
        have h := hy.keep hW
        exact (rbytes_any 2 Ay ny cy y W h.rd h.len h.cap h.max (by omega)).mono fun e w2 h => h.ret8)
      unfold Ret8 at BX2 BY2
      have PP := Lib.hid (show ∀ W, Below w.heap.size w W → Calls Tryd.prog 24 #[.slice Ax nx cx, .slice Ay ny cy] W (ResPost W.heap.size rP W) from fun W hW => by
        rw [← hrP]; exact cposts_any Ax nx cx Ay ny cy x y W (hx.keep hW) (by omega) (hy.keep hW) (by omega) (ht.below hW))
      have BWP := Lib.hid (show ∀ (A1 : Option Addr) (n1 c1 : Nat) (B1 : Option Addr) (m1 k1 : Nat) (W : World), w.heap.size ≤ W.heap.size → Own8 W w.heap.size A1 n1 c1 (2 :: x) → Own8 W w.heap.size B1 m1 k1 (2 :: y) → Calls Tryd.prog 25 #[.slice A1 n1 c1, .slice B1 m1 k1] W (ResPost w.heap.size rP W) from fun A1 n1 c1 B1 m1 k1 W hW h1 h2 => by
        rw [← hrP]
        exact rbetw_any w.heap.size A1 n1 c1 B1 m1 k1 _ _ W hW (Fr.of8 h1) (by rw [← h1.len, List.length_cons, hx.len]; omega) (Fr.of8 h2) (by rw [← h2.len, List.length_cons, hy.len]; omega))
      have HSP := Lib.hid (show CSmall rP by rw [← hrP]; exact btw_small (by rw [List.length_cons, hx.len]; omega) (by rw [List.length_cons, hy.len]; omega))
      have BX3 := Lib.hid (show ∀ W, Below w.heap.size w W → Calls Tryd.prog 26 #[.int .i64 3, .slice Ax nx cx] W (Ret8 W.heap.size (3 :: x) W) from fun W hW => by
        have h := hx.keep hW
        exact (rbytes_any 3 Ax nx cx x W h.rd h.len h.cap h.max (by omega)).mono fun e w2 h => h.ret8)
      have BY3 := Lib.hid (show ∀ W, Below w.heap.size w W → Calls Tryd.prog 26 #[.int .i64 3, .slice Ay ny cy] W (Ret8 W.heap.size (3 :: y) W) from fun W hW => by
        have h := hy.keep hW
        exact (rbytes_any 3 Ay ny cy y W h.rd h.len h.cap h.max (by omega)).mono fun e w2 h => h.ret8)
      unfold Ret8 at BX3 BY3
      have PH := Lib.hid (show ∀ W, Below w.heap.size w W → Calls Tryd.prog 27 #[.slice Ax nx cx, .slice Ay ny cy] W (ResPost W.heap.size rH W) from fun W hW => by
        rw [← hrH]; exact chead_any Ax nx cx Ay ny cy x y W (hx.keep hW) (by omega) (hy.keep hW) (by omega) (ht.below hW))
      have BWH := Lib.hid (show ∀ (A1 : Option Addr) (n1 c1 : Nat) (B1 : Option Addr) (m1 k1 : Nat) (W : World), w.heap.size ≤ W.heap.size → Own8 W w.heap.size A1 n1 c1 (3 :: x) → Own8 W w.heap.size B1 m1 k1 (3 :: y) → Calls Tryd.prog 25 #[.slice A1 n1 c1, .slice B1 m1 k1] W (ResPost w.heap.size rH W) from fun A1 n1 c1 B1 m1 k1 W hW h1 h2 => by
        rw [← hrH]
        exact rbetw_any w.heap.size A1 n1 c1 B1 m1 k1 _ _ W hW (Fr.of8 h1) (by rw [← h1.len, List.length_cons, hx.len]; omega) (Fr.of8 h2) (by rw [← h2.len, List.length_cons, hy.len]; omega))
      have HSH := Lib.hid (show CSmall rH by rw [← hrH]; exact btw_small (by rw [List.length_cons, hx.len]; omega) (by rw [List.length_cons, hy.len]; omega))
      obtain ⟨R, hR⟩ : ∃ R, twB f n g m = R := ⟨_, rfl⟩
      have HSR := Lib.hid (show CSmall R by rw [← hR]; exact twB_small (fun x hx => Nat.le_trans (hra3 x hx) (by omega)) (fun x hx => Nat.le_trans (hrb3 x hx) (by omega)))
      have CT := Lib.hid (show ∀ W, Below w.heap.size w W → Calls Tryd.prog 22 #[.slice A n c, .slice B m k] W (ResPost W.heap.size R W) from fun W hW => by
        have := cTwo_any A n c f B m k g W (by omega) (hra.keep hW) ⟨hc, hm⟩ (hrb.keep hW) ⟨hk, hkm⟩ (fun i hi => by have := hsf i hi; omega) (fun i hi => by have := hsg i hi; omega) (ht.below hW)
        rw [hR] at this
        exact this)
      by_cases hnm : n = m ∧ 1 ≤ n
      · obtain ⟨rfl, h1⟩ := hnm
        have RT := Lib.hid (show ∀ W, Below w.heap.size w W → Calls Tryd.prog 28 #[.slice A n c, .slice B n k] W (ResPost W.heap.size R W) from fun W hW => by
          have := rtwo_any n A n c f B k g W (Nat.le_refl _) h1 (by omega) (hra.keep hW) ⟨hc, hm⟩ (hrb.keep hW) ⟨hk, hkm⟩ (fun i hi => by have := hsf i hi; omega) (fun i hi => by have := hsg i hi; omega)
          rw [← hR]
          unfold twB
          rw [if_pos ⟨rfl, h1⟩]
          unfold Cl.two
          rw [raws_len]
          exact this)
        have g0 : ((n : Int) == 0) = false := beq_eq_false_iff_ne.2 (by omega)
        clear hra hrb hra3 hrb3 hsf hsg hm hkm ht hR hrP hrH hx hy
        go_enter Tryd.func6, Tryd.ntmps6
        go_wp2_with fail
        refine (GA.out).mono ?_
        rintro e wz ⟨rfl, rfl⟩
        go_wp2_with fail
        refine (GB.out).mono ?_
        rintro e wz ⟨rfl, rfl⟩
        go_wp2_with fail
        refine (PP.out w (Below.refl w.heap.size w)).mono ?_
        rintro e w1 ⟨AP, nP, cP, BP, mP, kP, rfl, hf1, hf2, hb1⟩
        have hbx1 := bt hb1 ((Below.refl _ w1).alloc (Nat.le_refl _) (.cells #[.slice AP nP cP, .slice BP mP kP] 29))
        have HB1 := Lib.hid (bt (Below.refl w.heap.size w) hbx1)
        have HP := Lib.hid (CBox.new hf1 hf2)
        clear hb1 hbx1 hf1 hf2
        go_wp2_with fail
        refine (BX2.out (w1.alloc (.cells #[.slice AP nP cP, .slice BP mP kP] 29)) HB1.out).mono ?_
        rintro e w2 ⟨AX, nX, cX, rfl, ho2, hb2⟩
        replace HP := Lib.hid (HP.out.keep hb2)
        have HB2 := Lib.hid (bt HB1.out hb2)
        have hcapX := ho2.cap
        have hmaxX := ho2.max
        rw [maxLen_eq] at hmaxX
        have HX := Lib.hid (ho2.base HB1.out.size)
        clear hb2 ho2
        go_wp2_with fail
        refine (BY2.out w2 HB2.out).mono ?_
        rintro e w3 ⟨AY, nY, cY, rfl, ho3, hb3⟩
        replace HP := Lib.hid (HP.out.keep hb3)
        replace HX := Lib.hid (HX.out.keep hb3)
        have HB3 := Lib.hid (bt HB2.out hb3)
        have hcapY := ho3.cap
        have hmaxY := ho3.max
        rw [maxLen_eq] at hmaxY
        have HY := Lib.hid (ho3.base HB2.out.size)
        clear hb3 ho3
        go_wp2_with fail
        refine (BWP.out AX nX cX AY nY cY w3 (Below.size HB3.out) HX.out HY.out).mono ?_
        rintro e w4 ⟨AQ, nQ, cQ, BQ, mQ, kQ, rfl, hf1, hf2, hb4⟩
        have hbx4 := bt hb4 ((Below.refl _ w4).alloc (Nat.le_refl _) (.cells #[.slice AQ nQ cQ, .slice BQ mQ kQ] 33))
        replace HP := Lib.hid (HP.out.keep hbx4)
        replace HX := Lib.hid (HX.out.keep hbx4)
        replace HY := Lib.hid (HY.out.keep hbx4)
        have HB4 := Lib.hid (bt HB3.out hbx4)
        have HQ := Lib.hid (RBox.new hf1 hf2)
        clear hb4 hbx4 hf1 hf2
        clear HX HY
        go_wp2_with fail
        refine (PH.out (w4.alloc (.cells #[.slice AQ nQ cQ, .slice BQ mQ kQ] 33)) HB4.out).mono ?_
        rintro e w5 ⟨AH, nH, cH, BH, mH, kH, rfl, hf1, hf2, hb5⟩
        have hbx5 := bt hb5 ((Below.refl _ w5).alloc (Nat.le_refl _) (.cells #[.slice AH nH cH, .slice BH mH kH] 29))
        replace HP := Lib.hid (HP.out.keep hbx5)
        replace HQ := Lib.hid (HQ.out.keep hbx5)
        have HB5 := Lib.hid (bt HB4.out hbx5)
        have HH := Lib.hid (CBox.new hf1 hf2)
        clear hb5 hbx5 hf1 hf2
        go_wp2_with fail
        refine (BX3.out (w5.alloc (.cells #[.slice AH nH cH, .slice BH mH kH] 29)) HB5.out).mono ?_
        rintro e w6 ⟨AX, nX, cX, rfl, ho6, hb6⟩
        replace HP := Lib.hid (HP.out.keep hb6)
        replace HQ := Lib.hid (HQ.out.keep hb6)
        replace HH := Lib.hid (HH.out.keep hb6)
        have HB6 := Lib.hid (bt HB5.out hb6)
        have hcapX := ho6.cap
        have hmaxX := ho6.max
        rw [maxLen_eq] at hmaxX
        have HX := Lib.hid (ho6.base HB5.out.size)
        clear hb6 ho6
        go_wp2_with fail
        refine (BY3.out w6 HB6.out).mono ?_
        rintro e w7 ⟨AY, nY, cY, rfl, ho7, hb7⟩
        replace HP := Lib.hid (HP.out.keep hb7)
        replace HQ := Lib.hid (HQ.out.keep hb7)
        replace HH := Lib.hid (HH.out.keep hb7)
        replace HX := Lib.hid (HX.out.keep hb7)
        have HB7 := Lib.hid (bt HB6.out hb7)
        have hcapY := ho7.cap
        have hmaxY := ho7.max
        rw [maxLen_eq] at hmaxY
        have HY := Lib.hid (ho7.base HB6.out.size)
        clear hb7 ho7
        go_wp2_with fail
        refine (BWH.out AX nX cX AY nY cY w7 (Below.size HB7.out) HX.out HY.out).mono ?_
        rintro e w8 ⟨AK, nK, cK, BK, mK, kK, rfl, hf1, hf2, hb8⟩
        have hbx8 := bt hb8 ((Below.refl _ w8).alloc (Nat.le_refl _) (.cells #[.slice AK nK cK, .slice BK mK kK] 33))
        replace HP := Lib.hid (HP.out.keep hbx8)
        replace HQ := Lib.hid (HQ.out.keep hbx8)
        replace HH := Lib.hid (HH.out.keep hbx8)
        replace HX := Lib.hid (HX.out.keep hbx8)
        replace HY := Lib.hid (HY.out.keep hbx8)
        have HB8 := Lib.hid (bt HB7.out hbx8)
        have HK := Lib.hid (RBox.new hf1 hf2)
        clear hb8 hbx8 hf1 hf2
        clear HX HY
        have x0 := HP.out.x0
        have x1 := HP.out.x1
        have y0 := HQ.out.x0
        have y1 := HQ.out.x1
        go_wp2_with fail
        refine (same_box HP.out HQ.out HSP.out (HT.out.below HB8.out)).mono ?_
        rintro e w9 ⟨rfl, hb9⟩
        replace HP := Lib.hid (HP.out.keep hb9)
        replace HQ := Lib.hid (HQ.out.keep hb9)
        replace HH := Lib.hid (HH.out.keep hb9)
        replace HK := Lib.hid (HK.out.keep hb9)
        have HB9 := Lib.hid (bt HB8.out hb9)
        clear hb9
        clear x0 x1 y0 y1
        have x0 := HH.out.x0
        have x1 := HH.out.x1
        have y0 := HK.out.x0
        have y1 := HK.out.x1
        go_wp2_with fail
        refine (same_box HH.out HK.out HSH.out (HT.out.below HB9.out)).mono ?_
        rintro e w10 ⟨rfl, hb10⟩
        replace HP := Lib.hid (HP.out.keep hb10)
        replace HQ := Lib.hid (HQ.out.keep hb10)
        replace HH := Lib.hid (HH.out.keep hb10)
        replace HK := Lib.hid (HK.out.keep hb10)
        have HB10 := Lib.hid (bt HB9.out hb10)
        clear hb10
        clear x0 x1 y0 y1
        clear HP HQ HH HK
        go_wp2_with fail
        refine (CT.out w10 HB10.out).mono ?_
        rintro e w11 ⟨AT, nT, cT, BT, mT, kT, rfl, hf1, hf2, hb11⟩
        have hbx11 := bt hb11 ((Below.refl _ w11).alloc (Nat.le_refl _) (.cells #[.slice AT nT cT, .slice BT mT kT] 29))
        have HB11 := Lib.hid (bt HB10.out hbx11)
        have HTT := Lib.hid (CBox.new hf1 hf2)
        clear hb11 hbx11 hf1 hf2
        go_wp2_with fail
        refine (RT.out (w11.alloc (.cells #[.slice AT nT cT, .slice BT mT kT] 29)) HB11.out).mono ?_
        rintro e w12 ⟨AU, nU, cU, BU, mU, kU, rfl, hf1, hf2, hb12⟩
        have hbx12 := bt hb12 ((Below.refl _ w12).alloc (Nat.le_refl _) (.cells #[.slice AU nU cU, .slice BU mU kU] 33))
        replace HTT := Lib.hid (HTT.out.keep hbx12)
        have HB12 := Lib.hid (bt HB11.out hbx12)
        have HU := Lib.hid (RBox.new hf1 hf2)
        clear hb12 hbx12 hf1 hf2
        have x0 := HTT.out.x0
        have x1 := HTT.out.x1
        have y0 := HU.out.x0
        have y1 := HU.out.x1
        go_wp2_with fail
        refine (same_box HTT.out HU.out HSR.out (HT.out.below HB12.out)).mono ?_
        rintro e w13 ⟨rfl, hb13⟩
        replace HTT := Lib.hid (HTT.out.keep hb13)
        replace HU := Lib.hid (HU.out.keep hb13)
        have HB13 := Lib.hid (bt HB12.out hb13)
        clear hb13
        clear x0 x1 y0 y1
        go_wp2_with fail
        refine (KN.out w13 HB13.out).mono ?_
        rintro e w14 ⟨rfl, hb14⟩
        replace HTT := Lib.hid (HTT.out.keep hb14)
        replace HU := Lib.hid (HU.out.keep hb14)
        have HB14 := Lib.hid (bt HB13.out hb14)
        clear hb14
        go_wp2
        go_ret
        exact ⟨rfl, HB14.out⟩
      · obtain rfl : R = none := by rw [← hR]; unfold twB; rw [if_neg hnm]
        clear hra hrb hra3 hrb3 hsf hsg hm hkm ht hR hrP hrH hx hy
        by_cases e : n = m
        · obtain rfl : n = 0 := by omega
          subst e
          clear hnm
          go_enter Tryd.func6, Tryd.ntmps6
          go_wp2_with fail
          refine (GA.out).mono ?_
          rintro e wz ⟨rfl, rfl⟩
          go_wp2_with fail
          refine (GB.out).mono ?_
          rintro e wz ⟨rfl, rfl⟩
          go_wp2_with fail
          refine (PP.out w (Below.refl w.heap.size w)).mono ?_
          rintro e w1 ⟨AP, nP, cP, BP, mP, kP, rfl, hf1, hf2, hb1⟩
          have hbx1 := bt hb1 ((Below.refl _ w1).alloc (Nat.le_refl _) (.cells #[.slice AP nP cP, .slice BP mP kP] 29))
          have HB1 := Lib.hid (bt (Below.refl w.heap.size w) hbx1)
          have HP := Lib.hid (CBox.new hf1 hf2)
          clear hb1 hbx1 hf1 hf2
          go_wp2_with fail
          refine (BX2.out (w1.alloc (.cells #[.slice AP nP cP, .slice BP mP kP] 29)) HB1.out).mono ?_
          rintro e w2 ⟨AX, nX, cX, rfl, ho2, hb2⟩
          replace HP := Lib.hid (HP.out.keep hb2)
          have HB2 := Lib.hid (bt HB1.out hb2)
          have hcapX := ho2.cap
          have hmaxX := ho2.max
          rw [maxLen_eq] at hmaxX
          have HX := Lib.hid (ho2.base HB1.out.size)
          clear hb2 ho2
          go_wp2_with fail
          refine (BY2.out w2 HB2.out).mono ?_
          rintro e w3 ⟨AY, nY, cY, rfl, ho3, hb3⟩
          replace HP := Lib.hid (HP.out.keep hb3)
          replace HX := Lib.hid (HX.out.keep hb3)
          have HB3 := Lib.hid (bt HB2.out hb3)
          have hcapY := ho3.cap
          have hmaxY := ho3.max
          rw [maxLen_eq] at hmaxY
          have HY := Lib.hid (ho3.base HB2.out.size)
          clear hb3 ho3
          go_wp2_with fail
          refine (BWP.out AX nX cX AY nY cY w3 (Below.size HB3.out) HX.out HY.out).mono ?_
          rintro e w4 ⟨AQ, nQ, cQ, BQ, mQ, kQ, rfl, hf1, hf2, hb4⟩
          have hbx4 := bt hb4 ((Below.refl _ w4).alloc (Nat.le_refl _) (.cells #[.slice AQ nQ cQ, .slice BQ mQ kQ] 33))
          replace HP := Lib.hid (HP.out.keep hbx4)
          replace HX := Lib.hid (HX.out.keep hbx4)
          replace HY := Lib.hid (HY.out.keep hbx4)
          have HB4 := Lib.hid (bt HB3.out hbx4)
          have HQ := Lib.hid (RBox.new hf1 hf2)
          clear hb4 hbx4 hf1 hf2
          clear HX HY
          go_wp2_with fail
          refine (PH.out (w4.alloc (.cells #[.slice AQ nQ cQ, .slice BQ mQ kQ] 33)) HB4.out).mono ?_
          rintro e w5 ⟨AH, nH, cH, BH, mH, kH, rfl, hf1, hf2, hb5⟩
          have hbx5 := bt hb5 ((Below.refl _ w5).alloc (Nat.le_refl _) (.cells #[.slice AH nH cH, .slice BH mH kH] 29))
          replace HP := Lib.hid (HP.out.keep hbx5)
          replace HQ := Lib.hid (HQ.out.keep hbx5)
          have HB5 := Lib.hid (bt HB4.out hbx5)
          have HH := Lib.hid (CBox.new hf1 hf2)
          clear hb5 hbx5 hf1 hf2
          go_wp2_with fail
          refine (BX3.out (w5.alloc (.cells #[.slice AH nH cH, .slice BH mH kH] 29)) HB5.out).mono ?_
          rintro e w6 ⟨AX, nX, cX, rfl, ho6, hb6⟩
          replace HP := Lib.hid (HP.out.keep hb6)
          replace HQ := Lib.hid (HQ.out.keep hb6)
          replace HH := Lib.hid (HH.out.keep hb6)
          have HB6 := Lib.hid (bt HB5.out hb6)
          have hcapX := ho6.cap
          have hmaxX := ho6.max
          rw [maxLen_eq] at hmaxX
          have HX := Lib.hid (ho6.base HB5.out.size)
          clear hb6 ho6
          go_wp2_with fail
          refine (BY3.out w6 HB6.out).mono ?_
          rintro e w7 ⟨AY, nY, cY, rfl, ho7, hb7⟩
          replace HP := Lib.hid (HP.out.keep hb7)
          replace HQ := Lib.hid (HQ.out.keep hb7)
          replace HH := Lib.hid (HH.out.keep hb7)
          replace HX := Lib.hid (HX.out.keep hb7)
          have HB7 := Lib.hid (bt HB6.out hb7)
          have hcapY := ho7.cap
          have hmaxY := ho7.max
          rw [maxLen_eq] at hmaxY
          have HY := Lib.hid (ho7.base HB6.out.size)
          clear hb7 ho7
          go_wp2_with fail
          refine (BWH.out AX nX cX AY nY cY w7 (Below.size HB7.out) HX.out HY.out).mono ?_
          rintro e w8 ⟨AK, nK, cK, BK, mK, kK, rfl, hf1, hf2, hb8⟩
          have hbx8 := bt hb8 ((Below.refl _ w8).alloc (Nat.le_refl _) (.cells #[.slice AK nK cK, .slice BK mK kK] 33))
          replace HP := Lib.hid (HP.out.keep hbx8)
          replace HQ := Lib.hid (HQ.out.keep hbx8)
          replace HH := Lib.hid (HH.out.keep hbx8)
          replace HX := Lib.hid (HX.out.keep hbx8)
          replace HY := Lib.hid (HY.out.keep hbx8)
          have HB8 := Lib.hid (bt HB7.out hbx8)
          have HK := Lib.hid (RBox.new hf1 hf2)
          clear hb8 hbx8 hf1 hf2
          clear HX HY
          have x0 := HP.out.x0
          have x1 := HP.out.x1
          have y0 := HQ.out.x0
          have y1 := HQ.out.x1
          go_wp2_with fail
          refine (same_box HP.out HQ.out HSP.out (HT.out.below HB8.out)).mono ?_
          rintro e w9 ⟨rfl, hb9⟩
          replace HP := Lib.hid (HP.out.keep hb9)
          replace HQ := Lib.hid (HQ.out.keep hb9)
          replace HH := Lib.hid (HH.out.keep hb9)
          replace HK := Lib.hid (HK.out.keep hb9)
          have HB9 := Lib.hid (bt HB8.out hb9)
          clear hb9
          clear x0 x1 y0 y1
          have x0 := HH.out.x0
          have x1 := HH.out.x1
          have y0 := HK.out.x0
          have y1 := HK.out.x1
          go_wp2_with fail
          refine (same_box HH.out HK.out HSH.out (HT.out.below HB9.out)).mono ?_
          rintro e w10 ⟨rfl, hb10⟩
          replace HP := Lib.hid (HP.out.keep hb10)
          replace HQ := Lib.hid (HQ.out.keep hb10)
          replace HH := Lib.hid (HH.out.keep hb10)
          replace HK := Lib.hid (HK.out.keep hb10)
          have HB10 := Lib.hid (bt HB9.out hb10)
          clear hb10
          clear x0 x1 y0 y1
          clear HP HQ HH HK
          go_wp2_with fail
          refine (CT.out w10 HB10.out).mono ?_
          rintro e w11 ⟨AT, nT, cT, BT, mT, kT, rfl, hf1, hf2, hb11⟩
          have hbx11 := bt hb11 ((Below.refl _ w11).alloc (Nat.le_refl _) (.cells #[.slice AT nT cT, .slice BT mT kT] 29))
          have HB11 := Lib.hid (bt HB10.out hbx11)
          have HTT := Lib.hid (CBox.new hf1 hf2)
          clear hb11 hbx11 hf1 hf2
          obtain rfl : nT = 0 := by rw [← HTT.out.ba.len]; rfl
          have x0 := HTT.out.x0
          go_wp2_with fail
          refine (KN.out (w11.alloc (.cells #[.slice AT 0 cT, .slice BT mT kT] 29)) HB11.out).mono ?_
          rintro e w12 ⟨rfl, hb12⟩
          replace HTT := Lib.hid (HTT.out.keep hb12)
          have HB12 := Lib.hid (bt HB11.out hb12)
          clear hb12
          clear x0
          go_wp2
          go_ret
          exact ⟨rfl, HB12.out⟩
        · have gnm : ((n : Int) != (m : Int)) = true := by rw [bne, beq_eq_false_iff_ne.2 (by omega : (n : Int) ≠ (m : Int))]; rfl
          clear hnm
          go_enter Tryd.func6, Tryd.ntmps6
          go_wp2_with fail
          refine (GA.out).mono ?_
          rintro e wz ⟨rfl, rfl⟩
          go_wp2_with fail
          refine (GB.out).mono ?_
          rintro e wz ⟨rfl, rfl⟩
          go_wp2_with fail
          refine (PP.out w (Below.refl w.heap.size w)).mono ?_
          rintro e w1 ⟨AP, nP, cP, BP, mP, kP, rfl, hf1, hf2, hb1⟩
          have hbx1 := bt hb1 ((Below.refl _ w1).alloc (Nat.le_refl _) (.cells #[.slice AP nP cP, .slice BP mP kP] 29))
          have HB1 := Lib.hid (bt (Below.refl w.heap.size w) hbx1)
          have HP := Lib.hid (CBox.new hf1 hf2)
          clear hb1 hbx1 hf1 hf2
          go_wp2_with fail
          refine (BX2.out (w1.alloc (.cells #[.slice AP nP cP, .slice BP mP kP] 29)) HB1.out).mono ?_
          rintro e w2 ⟨AX, nX, cX, rfl, ho2, hb2⟩
          replace HP := Lib.hid (HP.out.keep hb2)
          have HB2 := Lib.hid (bt HB1.out hb2)
          have hcapX := ho2.cap
          have hmaxX := ho2.max
          rw [maxLen_eq] at hmaxX
          have HX := Lib.hid (ho2.base HB1.out.size)
          clear hb2 ho2
          go_wp2_with fail
          refine (BY2.out w2 HB2.out).mono ?_
          rintro e w3 ⟨AY, nY, cY, rfl, ho3, hb3⟩
          replace HP := Lib.hid (HP.out.keep hb3)
          replace HX := Lib.hid (HX.out.keep hb3)
          have HB3 := Lib.hid (bt HB2.out hb3)
          have hcapY := ho3.cap
          have hmaxY := ho3.max
          rw [maxLen_eq] at hmaxY
          have HY := Lib.hid (ho3.base HB2.out.size)
          clear hb3 ho3
          go_wp2_with fail
          refine (BWP.out AX nX cX AY nY cY w3 (Below.size HB3.out) HX.out HY.out).mono ?_
          rintro e w4 ⟨AQ, nQ, cQ, BQ, mQ, kQ, rfl, hf1, hf2, hb4⟩
          have hbx4 := bt hb4 ((Below.refl _ w4).alloc (Nat.le_refl _) (.cells #[.slice AQ nQ cQ, .slice BQ mQ kQ] 33))
          replace HP := Lib.hid (HP.out.keep hbx4)
          replace HX := Lib.hid (HX.out.keep hbx4)
          replace HY := Lib.hid (HY.out.keep hbx4)
          have HB4 := Lib.hid (bt HB3.out hbx4)
          have HQ := Lib.hid (RBox.new hf1 hf2)
          clear hb4 hbx4 hf1 hf2
          clear HX HY
          go_wp2_with fail
          refine (PH.out (w4.alloc (.cells #[.slice AQ nQ cQ, .slice BQ mQ kQ] 33)) HB4.out).mono ?_
          rintro e w5 ⟨AH, nH, cH, BH, mH, kH, rfl, hf1, hf2, hb5⟩
          have hbx5 := bt hb5 ((Below.refl _ w5).alloc (Nat.le_refl _) (.cells #[.slice AH nH cH, .slice BH mH kH] 29))
          replace HP := Lib.hid (HP.out.keep hbx5)
          replace HQ := Lib.hid (HQ.out.keep hbx5)
          have HB5 := Lib.hid (bt HB4.out hbx5)
          have HH := Lib.hid (CBox.new hf1 hf2)
          clear hb5 hbx5 hf1 hf2
          go_wp2_with fail
          refine (BX3.out (w5.alloc (.cells #[.slice AH nH cH, .slice BH mH kH] 29)) HB5.out).mono ?_
          rintro e w6 ⟨AX, nX, cX, rfl, ho6, hb6⟩
          replace HP := Lib.hid (HP.out.keep hb6)
          replace HQ := Lib.hid (HQ.out.keep hb6)
          replace HH := Lib.hid (HH.out.keep hb6)
          have HB6 := Lib.hid (bt HB5.out hb6)
          have hcapX := ho6.cap
          have hmaxX := ho6.max
          rw [maxLen_eq] at hmaxX
          have HX := Lib.hid (ho6.base HB5.out.size)
          clear hb6 ho6
          go_wp2_with fail
          refine (BY3.out w6 HB6.out).mono ?_
          rintro e w7 ⟨AY, nY, cY, rfl, ho7, hb7⟩
          replace HP := Lib.hid (HP.out.keep hb7)
          replace HQ := Lib.hid (HQ.out.keep hb7)
          replace HH := Lib.hid (HH.out.keep hb7)
          replace HX := Lib.hid (HX.out.keep hb7)
          have HB7 := Lib.hid (bt HB6.out hb7)
          have hcapY := ho7.cap
          have hmaxY := ho7.max
          rw [maxLen_eq] at hmaxY
          have HY := Lib.hid (ho7.base HB6.out.size)
          clear hb7 ho7
          go_wp2_with fail
          refine (BWH.out AX nX cX AY nY cY w7 (Below.size HB7.out) HX.out HY.out).mono ?_
          rintro e w8 ⟨AK, nK, cK, BK, mK, kK, rfl, hf1, hf2, hb8⟩
          have hbx8 := bt hb8 ((Below.refl _ w8).alloc (Nat.le_refl _) (.cells #[.slice AK nK cK, .slice BK mK kK] 33))
          replace HP := Lib.hid (HP.out.keep hbx8)
          replace HQ := Lib.hid (HQ.out.keep hbx8)
          replace HH := Lib.hid (HH.out.keep hbx8)
          replace HX := Lib.hid (HX.out.keep hbx8)
          replace HY := Lib.hid (HY.out.keep hbx8)
          have HB8 := Lib.hid (bt HB7.out hbx8)
          have HK := Lib.hid (RBox.new hf1 hf2)
          clear hb8 hbx8 hf1 hf2
          clear HX HY
          have x0 := HP.out.x0
          have x1 := HP.out.x1
          have y0 := HQ.out.x0
          have y1 := HQ.out.x1
          go_wp2_with fail
          refine (same_box HP.out HQ.out HSP.out (HT.out.below HB8.out)).mono ?_
          rintro e w9 ⟨rfl, hb9⟩
          replace HP := Lib.hid (HP.out.keep hb9)
          replace HQ := Lib.hid (HQ.out.keep hb9)
          replace HH := Lib.hid (HH.out.keep hb9)
          replace HK := Lib.hid (HK.out.keep hb9)
          have HB9 := Lib.hid (bt HB8.out hb9)
          clear hb9
          clear x0 x1 y0 y1
          have x0 := HH.out.x0
          have x1 := HH.out.x1
          have y0 := HK.out.x0
          have y1 := HK.out.x1
          go_wp2_with fail
          refine (same_box HH.out HK.out HSH.out (HT.out.below HB9.out)).mono ?_
          rintro e w10 ⟨rfl, hb10⟩
          replace HP := Lib.hid (HP.out.keep hb10)
          replace HQ := Lib.hid (HQ.out.keep hb10)
          replace HH := Lib.hid (HH.out.keep hb10)
          replace HK := Lib.hid (HK.out.keep hb10)
          have HB10 := Lib.hid (bt HB9.out hb10)
          clear hb10
          clear x0 x1 y0 y1
          clear HP HQ HH HK
          go_wp2_with fail
          refine (CT.out w10 HB10.out).mono ?_
          rintro e w11 ⟨AT, nT, cT, BT, mT, kT, rfl, hf1, hf2, hb11⟩
          have hbx11 := bt hb11 ((Below.refl _ w11).alloc (Nat.le_refl _) (.cells #[.slice AT nT cT, .slice BT mT kT] 29))
          have HB11 := Lib.hid (bt HB10.out hbx11)
          have HTT := Lib.hid (CBox.new hf1 hf2)
          clear hb11 hbx11 hf1 hf2
          obtain rfl : nT = 0 := by rw [← HTT.out.ba.len]; rfl
          have x0 := HTT.out.x0
          go_wp2_with fail
          refine (KN.out (w11.alloc (.cells #[.slice AT 0 cT, .slice BT mT kT] 29)) HB11.out).mono ?_
          rintro e w12 ⟨rfl, hb12⟩
          replace HTT := Lib.hid (HTT.out.keep hb12)
          have HB12 := Lib.hid (bt HB11.out hb12)
          clear hb12
          clear x0
          go_wp2
          go_ret
          exact ⟨rfl, HB12.out⟩
end Go.Proofs.YtlcdpbpbfofmmaaDoor
