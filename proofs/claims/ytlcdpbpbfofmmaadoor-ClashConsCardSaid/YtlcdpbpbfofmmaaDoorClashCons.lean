/- ClashCons: the walk of the law. -/
import Derived.Test.YtlcdpbpbfofmmaaDoorMClashI
namespace Go.Proofs.YtlcdpbpbfofmmaaDoor
set_option maxRecDepth 100000
set_option linter.unusedVariables false
open Go.RowKit
set_option maxHeartbeats 32000000 in
theorem clashcons_any (A : Option Addr) (n c : Nat) (f : Nat → Piece) (B : Option Addr) (m k : Nat) (g : Nat → Piece) (Ap : Option Addr) (np cp : Nat) (p : List (List UInt8)) (w : World) (hra : RowsAt w A n f) (hu0 : True) (hc : n ≤ c) (hm : c ≤ maxLen) (hu1 : True)
    (hrb : RowsAt w B m g) (hu2 : True) (hk : m ≤ k) (hkm : k ≤ maxLen) (hu3 : True) (hpr : Rd w w.heap.size Ap (p.map sv)) (hpl : p.length = np) (hpc' : np ≤ cp) (hpm' : cp ≤ maxLen) (hwf : ∀ s ∈ p, s.length ≤ maxLen) (ht : Tabs w) :
    Calls Tryd.prog 7 #[.slice A n c, .slice B m k, .slice Ap np cp] w (RetB true w) := by
  have hp : Ss w Ap np cp p := ⟨hpr, hpl, hpc', hpm'⟩
  clear hu0 hu1 hu2 hu3 hpr
  have ga := great8_any A n c f w hra hc hm
  have gb := great8_any B m k g w hrb hk hkm
  have g6 := great6_any Ap np cp p w hp hwf
  have hm' := hm
  have hkm' := hkm
  rw [maxLen_eq] at hm' hkm' hpm'
  have KN := Lib.hid (fun (W : World) (hW : Below w.heap.size w W) => knows8_any W (ht.below hW))
  unfold Yes at KN
  cases hga : gr8 f n with
  | true =>
    rw [hga] at ga
    have GA := Lib.hid ga
    clear ga gb g6 hga hra hm hrb hkm ht hp hwf hpl
    go_enter Tryd.func7, Tryd.ntmps7
    go_wp2_with fail
    refine (GA.out).mono ?_
    rintro e wz ⟨rfl, rfl⟩
    go_wp2_with fail
    refine (KN.out w (Below.refl w.heap.size w)).mono ?_
    rintro e w1 ⟨rfl, hb1⟩
    have HB1 := Lib.hid (bt (Below.refl w.heap.size w) hb1)
    clear hb1
    go_wp2
    go_ret
    exact ⟨rfl, HB1.out⟩
  | false =>
    rw [hga] at ga
    have GA := Lib.hid ga
    obtain ⟨hn25, hsf⟩ := gr8_no hga
    clear ga hga
    cases hgb : gr8 g m with
    | true =>
      rw [hgb] at gb
      have GB := Lib.hid gb
      clear gb g6 hgb hra hm hrb hkm ht hsf hp hwf hpl
      go_enter Tryd.func7, Tryd.ntmps7
      go_wp2_with fail
      refine (GA.out).mono ?_
      rintro e wz ⟨rfl, rfl⟩
      go_wp2_with fail
      refine (GB.out).mono ?_
      rintro e wz ⟨rfl, rfl⟩
      go_wp2_with fail
      refine (KN.out w (Below.refl w.heap.size w)).mono ?_
      rintro e w1 ⟨rfl, hb1⟩
      have HB1 := Lib.hid (bt (Below.refl w.heap.size w) hb1)
      clear hb1
      go_wp2
      go_ret
      exact ⟨rfl, HB1.out⟩
    | false =>
      rw [hgb] at gb
      have GB := Lib.hid gb
      obtain ⟨hm25, hsg⟩ := gr8_no hgb
      clear gb hgb
      cases hg6 : Tree.great p with
      | true =>
        rw [hg6] at g6
        have G6 := Lib.hid g6
        clear g6 hg6 hra hm hrb hkm ht hsf hsg hp hwf hpl
        go_enter Tryd.func7, Tryd.ntmps7
        go_wp2_with fail
        refine (GA.out).mono ?_
        rintro e wz ⟨rfl, rfl⟩
        go_wp2_with fail
        refine (GB.out).mono ?_
        rintro e wz ⟨rfl, rfl⟩
        go_wp2_with fail
        refine (G6.out).mono ?_
        rintro e wz ⟨rfl, rfl⟩
        go_wp2_with fail
        refine (KN.out w (Below.refl w.heap.size w)).mono ?_
        rintro e w1 ⟨rfl, hb1⟩
        have HB1 := Lib.hid (bt (Below.refl w.heap.size w) hb1)
        clear hb1
        go_wp2
        go_ret
        exact ⟨rfl, HB1.out⟩
      | false =>
        rw [hg6] at g6
        have G6 := Lib.hid g6
        have hnp : np ≤ 100 := by rw [← hpl]; exact (Tree.great_no hg6).2
        clear g6 hg6
        have hra3 := raws_small hra (k := 300) hsf
        have hrb3 := raws_small hrb (k := 300) hsg
        have HT := Lib.hid ht
        obtain ⟨R, hR⟩ : ∃ R, consB f n g m p = R := ⟨_, rfl⟩
        have HSM := Lib.hid (show CSmall R by rw [← hR]; exact consB_small (fun x hx => Nat.le_trans (hra3 x hx) (by omega)) (fun x hx => Nat.le_trans (hrb3 x hx) (by omega)))
        have CC := Lib.hid (show ∀ W, Below w.heap.size w W → Calls Tryd.prog 29 #[.slice A n c, .slice B m k, .slice Ap np cp] W (ResPost W.heap.size R W) from fun W hW => by
          rw [← hR]
          exact cCons_any A n c f B m k g Ap np cp p W (by omega) (by omega) (hra.keep hW) ⟨hc, hm⟩ (hrb.keep hW) ⟨hk, hkm⟩ (fun i hi => by have := hsf i hi; omega) (fun i hi => by have := hsg i hi; omega) (hp.keep hW) hwf (by omega) (ht.below hW))
        have RC := Lib.hid (show ∀ W, Below w.heap.size w W → Calls Tryd.prog 30 #[.slice A n c, .slice B m k, .slice Ap np cp] W (ResPost W.heap.size R W) from fun W hW => by
          rw [← hR]
          exact rCons_any A n c f B m k g Ap np cp p W (by omega) (by omega) (hra.keep hW) ⟨hc, hm⟩ (hrb.keep hW) ⟨hk, hkm⟩ (fun i hi => by have := hsf i hi; omega) (fun i hi => by have := hsg i hi; omega) (hp.keep hW) hwf)
        clear hra hrb hra3 hrb3 hsf hsg hm hkm ht hR hp hwf hpl
        go_enter Tryd.func7, Tryd.ntmps7
        go_wp2_with fail
        refine (GA.out).mono ?_
        rintro e wz ⟨rfl, rfl⟩
        go_wp2_with fail
        refine (GB.out).mono ?_
        rintro e wz ⟨rfl, rfl⟩
        go_wp2_with fail
        refine (G6.out).mono ?_
        rintro e wz ⟨rfl, rfl⟩
        go_wp2_with fail
        refine (CC.out w (Below.refl w.heap.size w)).mono ?_
        rintro e w1 ⟨AC, nC, cC, BC, mC, kC, rfl, hf1, hf2, hb1⟩
        have hbx1 := bt hb1 ((Below.refl _ w1).alloc (Nat.le_refl _) (.cells #[.slice AC nC cC, .slice BC mC kC] 29))
        have HB1 := Lib.hid (bt (Below.refl w.heap.size w) hbx1)
        have HC := Lib.hid (CBox.new hf1 hf2)
        clear hb1 hbx1 hf1 hf2
        go_wp2_with fail
        refine (RC.out (w1.alloc (.cells #[.slice AC nC cC, .slice BC mC kC] 29)) HB1.out).mono ?_
        rintro e w2 ⟨AK, nK, cK, BK, mK, kK, rfl, hf1, hf2, hb2⟩
        have hbx2 := bt hb2 ((Below.refl _ w2).alloc (Nat.le_refl _) (.cells #[.slice AK nK cK, .slice BK mK kK] 33))
        replace HC := Lib.hid (HC.out.keep hbx2)
        have HB2 := Lib.hid (bt HB1.out hbx2)
        have HK := Lib.hid (RBox.new hf1 hf2)
        clear hb2 hbx2 hf1 hf2
        have x0 := HC.out.x0
        have x1 := HC.out.x1
        have y0 := HK.out.x0
        have y1 := HK.out.x1
        go_wp2_with fail
        refine (same_box HC.out HK.out HSM.out (HT.out.below HB2.out)).mono ?_
        rintro e w3 ⟨rfl, hb3⟩
        replace HC := Lib.hid (HC.out.keep hb3)
        replace HK := Lib.hid (HK.out.keep hb3)
        have HB3 := Lib.hid (bt HB2.out hb3)
        clear hb3
        clear x0 x1 y0 y1
        go_wp2_with fail
        refine (KN.out w3 HB3.out).mono ?_
        rintro e w4 ⟨rfl, hb4⟩
        replace HC := Lib.hid (HC.out.keep hb4)
        replace HK := Lib.hid (HK.out.keep hb4)
        have HB4 := Lib.hid (bt HB3.out hb4)
        clear hb4
        go_wp2
        go_ret
        exact ⟨rfl, HB4.out⟩
end Go.Proofs.YtlcdpbpbfofmmaaDoor
