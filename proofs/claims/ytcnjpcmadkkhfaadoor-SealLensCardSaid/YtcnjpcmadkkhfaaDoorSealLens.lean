/- SealLens: the walk of the law. -/
import Derived.Test.YtcnjpcmadkkhfaaDoorSeal4
namespace Go.Proofs.YtcnjpcmadkkhfaaDoor
set_option linter.unusedVariables false
open Go.RowKit

set_option maxRecDepth 100000 in
set_option maxHeartbeats 4000000 in
theorem lens_any (A : Option Addr) (n c : Nat) (b : List UInt8) (l : List UInt8) (hwl : l.length ≤ maxLen) (r : List UInt8) (hwr : r.length ≤ maxLen) (w : World) (hr : Rd w w.heap.size A (b.map bv)) (hn : b.length = n) (hc : n ≤ c) (hm : c ≤ maxLen) (ht : Tabs w) :
    Calls Tryd.prog 10 #[.slice A n c, sv l, sv r] w (Yes w) := by
  clear hwl hwr
  have HT := Lib.hid ht
  have HR := Lib.hid (And.intro hr (And.intro hn hm))
  rw [maxLen_eq] at hm
  clear hr hn ht
  obtain ⟨nl, hnl⟩ : ∃ x, l.length = x := ⟨_, rfl⟩
  obtain ⟨nr, hnr⟩ : ∃ x, r.length = x := ⟨_, rfl⟩
  have z1 : (str l).size = nl := by rw [str_size]; exact hnl
  have z2 : (str r).size = nr := by rw [str_size]; exact hnr
  have HN := Lib.hid (And.intro hnl hnr)
  clear hnl hnr
  by_cases h1 : n ≤ 2000
  · have g1 : decide (n > 2000) = false := decide_eq_false (by omega)
    have G := Lib.hid g1
    clear g1
    by_cases h2 : nl = 32
    · subst h2
      by_cases h3 : nr = 32
      · subst h3
        obtain ⟨L, hL⟩ : ∃ L, seal_ 0 b = L := ⟨_, rfl⟩
        obtain ⟨P, hP⟩ : ∃ P, seal_ 2 b = P := ⟨_, rfl⟩
        obtain ⟨H, hH⟩ : ∃ H, seal_ 3 b = H := ⟨_, rfl⟩
        obtain ⟨N, hN⟩ : ∃ N, seal_ 1 (l ++ r) = N := ⟨_, rfl⟩
        have y1 : (str L).size = 32 := by rw [str_size, ← hL]; exact Sha.sum_length _
        have y2 : (str P).size = 32 := by rw [str_size, ← hP]; exact Sha.sum_length _
        have y3 : (str H).size = 32 := by rw [str_size, ← hH]; exact Sha.sum_length _
        have y4 : (str N).size = 32 := by rw [str_size, ← hN]; exact Sha.sum_length _
        have c1 := fun (W : World) (h : Below w.heap.size w W) => leaf_any A n c b W (HR.out.1.below' h (Nat.le_refl _) |>.more h.size) HR.out.2.1 hc HR.out.2.2 (by omega) (HT.out.below h)
        have c2 := fun (W : World) (h : Below w.heap.size w W) => posts_any A n c b W (HR.out.1.below' h (Nat.le_refl _) |>.more h.size) HR.out.2.1 hc HR.out.2.2 (by omega) (HT.out.below h)
        have c3 := fun (W : World) (h : Below w.heap.size w W) => head_any A n c b W (HR.out.1.below' h (Nat.le_refl _) |>.more h.size) HR.out.2.1 hc HR.out.2.2 (by omega) (HT.out.below h)
        have c4 := fun (W : World) (h : Below w.heap.size w W) => node_any l r W HN.out.1 HN.out.2 (HT.out.below h)
        have c5 := fun (W : World) (h : Below w.heap.size w W) (A1 : Option Addr) (k1 : Nat) (hr1 : Rd W W.heap.size A1 (b.map bv)) (hk : n ≤ k1) (hk2 : k1 ≤ maxLen) => leaf_any A1 n k1 b W hr1 HR.out.2.1 hk hk2 (by omega) (HT.out.below h)
        unfold SealPost at c1 c2 c3 c5
        unfold NodePost at c4
        rw [hL] at c1 c5
        rw [hP] at c2
        rw [hH] at c3
        rw [hN] at c4
        have C1 := Lib.hid c1
        have C2 := Lib.hid c2
        have C3 := Lib.hid c3
        have C4 := Lib.hid c4
        have C5 := Lib.hid c5
        clear c1 c2 c3 c4 c5 hL hP hH hN
        go_enter Tryd.func10, Tryd.ntmps10
        go_wp2_with fail
        refine (great_any A n c w hc hm).mono ?_
        rintro e w0 ⟨rfl, rfl⟩
        rw [G.out]
        go_wp2_with fail
        refine (C4.out _ (Below.refl _ _)).mono ?_
        rintro e w1 ⟨rfl, hb1⟩
        have HB1 := Lib.hid hb1
        clear hb1
        go_wp2_with fail
        refine (C4.out _ HB1.out).mono ?_
        rintro e w2 ⟨rfl, hb2⟩
        have HB2 := Lib.hid (bt HB1.out hb2)
        clear hb2
        go_wp2_with (first
          | (at_builtin; refine wl_app rfl (.tmp 37) (.tmp 38) 22 rfl w2.heap.size 5 1 1 bytesT _ 0 [] rfl (own_empty w2 5 1 (Nat.le_refl _)) w.heap.size A n c (b.map bv) rfl ((HR.out.1.below' HB2.out (Nat.le_refl _)).alloc HB2.out.size _) (by simpa using HR.out.2.1) (one_bv _) (by rw [maxLen_eq]; omega) (by omega) (by unfold World.alloc; simp) ?_; intro A1 k1 w3 hown1 hg1 hat1 hb1 hc1 hc2; simp only [Nat.zero_add, List.nil_append] at hown1 hc1; have HR3 := Lib.hid (And.intro (Rd.of_own hown1) (And.intro hc1 hc2)); have HB3 := Lib.hid (bt HB2.out (((Below.refl w2.heap.size w2).alloc (Nat.le_refl _) _).trans hb1)); clear hg1 hat1 hb1 hown1 hc1 hc2))
        refine (C1.out _ HB3.out).mono ?_
        rintro e w4 ⟨rfl, hb4⟩
        have HB4 := Lib.hid (bt HB3.out hb4)
        have HR4 := Lib.hid (HR3.out.1.below' hb4 (Nat.le_refl _) |>.more hb4.size)
        clear hb4
        go_wp2_with fail
        refine (C2.out _ HB4.out).mono ?_
        rintro e w5 ⟨rfl, hb5⟩
        have HB5 := Lib.hid (bt HB4.out hb5)
        have HR5 := Lib.hid (HR4.out.below' hb5 (Nat.le_refl _) |>.more hb5.size)
        clear hb5
        go_wp2_with fail
        refine (C3.out _ HB5.out).mono ?_
        rintro e w6 ⟨rfl, hb6⟩
        have HB6 := Lib.hid (bt HB5.out hb6)
        have HR6 := Lib.hid (HR5.out.below' hb6 (Nat.le_refl _) |>.more hb6.size)
        clear hb6
        go_wp2_with fail
        refine (C1.out _ HB6.out).mono ?_
        rintro e w7 ⟨rfl, hb7⟩
        have HB7 := Lib.hid (bt HB6.out hb7)
        have HR7 := Lib.hid (HR6.out.below' hb7 (Nat.le_refl _) |>.more hb7.size)
        clear hb7
        go_wp2_with fail
        refine (C5.out _ HB7.out A1 k1 HR7.out HR3.out.2.1 HR3.out.2.2).mono ?_
        rintro e w8 ⟨rfl, hb8⟩
        have HB8 := Lib.hid (bt HB7.out hb8)
        clear hb8
        go_wp2_with fail
        refine (knows3_any _ (HT.out.below HB8.out)).mono ?_
        rintro e w9 ⟨rfl, hb9⟩
        have HB9 := Lib.hid (bt HB8.out hb9)
        clear hb9
        go_wp2
        go_ret
        exact ⟨rfl, HB9.out⟩
      · have h3' : ((nr : Int) == 32) = false := by simpa using (by omega : ¬ (nr : Int) = 32)
        go_enter Tryd.func10, Tryd.ntmps10
        go_wp2_with fail
        refine (great_any A n c w hc hm).mono ?_
        rintro e w0 ⟨rfl, rfl⟩
        rw [G.out]
        go_wp2_with fail
        refine (knows3_any _ HT.out).mono ?_
        rintro e w4 ⟨rfl, hb4⟩
        go_wp2
        go_ret
        exact ⟨rfl, hb4⟩
    · have h2' : ((nl : Int) == 32) = false := by simpa using (by omega : ¬ (nl : Int) = 32)
      go_enter Tryd.func10, Tryd.ntmps10
      go_wp2_with fail
      refine (great_any A n c w hc hm).mono ?_
      rintro e w0 ⟨rfl, rfl⟩
      rw [G.out]
      go_wp2_with fail
      refine (knows3_any _ HT.out).mono ?_
      rintro e w4 ⟨rfl, hb4⟩
      go_wp2
      go_ret
      exact ⟨rfl, hb4⟩
  · have g1 : decide (n > 2000) = true := decide_eq_true (by omega)
    have G := Lib.hid g1
    clear g1
    go_enter Tryd.func10, Tryd.ntmps10
    go_wp2_with fail
    refine (great_any A n c w hc hm).mono ?_
    rintro e w0 ⟨rfl, rfl⟩
    rw [G.out]
    go_wp2_with fail
    refine (knows3_any _ HT.out).mono ?_
    rintro e w4 ⟨rfl, hb4⟩
    go_wp2
    go_ret
    exact ⟨rfl, hb4⟩
end Go.Proofs.YtcnjpcmadkkhfaaDoor
