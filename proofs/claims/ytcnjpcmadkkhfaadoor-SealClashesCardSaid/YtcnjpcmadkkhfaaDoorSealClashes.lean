/- SealClashes: the walk of the law. -/
import Derived.Test.YtcnjpcmadkkhfaaDoorSeal7
namespace Go.Proofs.YtcnjpcmadkkhfaaDoor
set_option linter.unusedVariables false
open Go.RowKit

set_option maxRecDepth 100000 in
set_option maxHeartbeats 8000000 in
theorem clashes_any (A : Option Addr) (n c : Nat) (a : List UInt8) (B : Option Addr) (m k : Nat) (b : List UInt8) (w : World) (hr : Rd w w.heap.size A (a.map bv)) (hn : a.length = n) (hc : n ≤ c) (hm : c ≤ maxLen)
    (hr2 : Rd w w.heap.size B (b.map bv)) (hn2 : b.length = m) (hk : m ≤ k) (hk2 : k ≤ maxLen) (ht : Tabs w) :
    Calls Tryd.prog 11 #[.slice A n c, .slice B m k] w (Yes w) := by
  have HT := Lib.hid ht
  have HR := Lib.hid (And.intro hr (And.intro hn hm))
  have HR2 := Lib.hid (And.intro hr2 (And.intro hn2 hk2))
  rw [maxLen_eq] at hm hk2
  clear hr hn ht hr2 hn2
  by_cases h1 : n ≤ 2000
  · have g1 : decide (n > 2000) = false := decide_eq_false (by omega)
    have G := Lib.hid g1
    clear g1
    by_cases h2 : m ≤ 2000
    · have g2 : decide (m > 2000) = false := decide_eq_false (by omega)
      have G2 := Lib.hid g2
      clear g2
      have c1 := fun (W : World) (h : Below w.heap.size w W) => rclash_any A n c B m k a b W (HR.out.1.below' h (Nat.le_refl _) |>.more h.size) HR.out.2.1 hc HR.out.2.2 (by omega) (HR2.out.1.below' h (Nat.le_refl _) |>.more h.size) HR2.out.2.1 hk HR2.out.2.2 (by omega)
      have c2 := fun (W : World) (h : Below w.heap.size w W) => is_any A n c B m k a b W (HR.out.1.below' h (Nat.le_refl _) |>.more h.size) HR.out.2.1 hc HR.out.2.2 (by omega) (HR2.out.1.below' h (Nat.le_refl _) |>.more h.size) HR2.out.2.1 hk HR2.out.2.2 (by omega) (HT.out.below h)
      unfold BoolPost at c1 c2
      cases hcl : clashB a b with
      | true =>
        have c3 := between_yes A n c B m k a b w HR.out.1 HR.out.2.1 hc HR.out.2.2 (by omega) HR2.out.1 HR2.out.2.1 hk HR2.out.2.2 (by omega) HT.out hcl
        rw [hcl] at c1 c2
        have C1 := Lib.hid c1
        have C2 := Lib.hid c2
        have C3 := Lib.hid c3
        clear c1 c2 c3 hcl
        go_enter Tryd.func11, Tryd.ntmps11
        go_wp2_with fail
        refine (great_any A n c w hc hm).mono ?_
        rintro e w0 ⟨rfl, rfl⟩
        rw [G.out]
        go_wp2_with fail
        refine (great_any B m k w hk hk2).mono ?_
        rintro e w0 ⟨rfl, rfl⟩
        rw [G2.out]
        go_wp2_with fail
        refine C3.out.mono ?_
        rintro e w1 ⟨A1, c1, B1, k1, hb1, rfl, hr1, hc1, hc1', hr2, hk1, hk1'⟩
        have HB1 := Lib.hid hb1
        have hb2 := (Below.refl w1.heap.size w1).alloc (Nat.le_refl _) (.cells #[.slice A1 n c1, .slice B1 m k1] 53)
        have HRow := Lib.hid (row_new w1 #[.slice A1 n c1, .slice B1 m k1] 53)
        have HRR := Lib.hid (And.intro hr1 hr2)
        have HB2 := Lib.hid hb2
        have HB3 := Lib.hid (bt hb1 hb2)
        clear hb1 hr1 hc1 hc1' hr2 hk1 hk1' hb2
        go_wp2_with fail
        refine (C1.out _ HB3.out).mono ?_
        rintro e w2 ⟨rfl, hb4⟩
        have HB4 := Lib.hid (bt HB3.out hb4)
        have HB5 := Lib.hid (bt HB2.out hb4)
        have HRow2 := Lib.hid (HRow.out.belowS hb4 (Nat.le_refl _))
        clear hb4
        go_wp2_with fail
        refine (C2.out _ HB4.out).mono ?_
        rintro e w3 ⟨rfl, hb6⟩
        have HB6 := Lib.hid (bt HB4.out hb6)
        have HB7 := Lib.hid (bt HB5.out hb6)
        have hrow := HRow2.out.belowS hb6 (Nat.le_refl _)
        have y0 := hrow.cellQ 0 _ rfl
        have y1 := hrow.cellQ 1 _ rfl
        clear hb6 hrow
        have q1 := run_str (P := Tryd.prog) (w := w3) 22 9 5 Tryd.underlying22 Tryd.underlying5 Tryd.underlying9 A1 _ c1 _ a (HRR.out.1.below' HB7.out (Nat.le_refl _)) HR.out.2.1
        have q2 := run_str (P := Tryd.prog) (w := w3) 22 9 5 Tryd.underlying22 Tryd.underlying5 Tryd.underlying9 B1 _ k1 _ b (HRR.out.2.below' HB7.out (Nat.le_refl _)) HR2.out.2.1
        have q3 := run_str (P := Tryd.prog) (w := w3) 22 9 5 Tryd.underlying22 Tryd.underlying5 Tryd.underlying9 A n c _ a (HR.out.1.below' HB6.out (Nat.le_refl _)) HR.out.2.1
        have q4 := run_str (P := Tryd.prog) (w := w3) 22 9 5 Tryd.underlying22 Tryd.underlying5 Tryd.underlying9 B m k _ b (HR2.out.1.below' HB6.out (Nat.le_refl _)) HR2.out.2.1
        go_wp2_with fail
        refine (knows3_any _ (HT.out.below HB6.out)).mono ?_
        rintro e w4 ⟨rfl, hb8⟩
        have HB8 := Lib.hid (bt HB6.out hb8)
        clear hb8 q1 q2 q3 q4 y0 y1
        go_wp2
        go_ret
        exact ⟨rfl, HB8.out⟩
      | false =>
        have c3 := between_no A n c B m k a b w HR.out.1 HR.out.2.1 hc HR.out.2.2 (by omega) HR2.out.1 HR2.out.2.1 hk HR2.out.2.2 (by omega) HT.out hcl
        rw [hcl] at c1 c2
        have C1 := Lib.hid c1
        have C2 := Lib.hid c2
        have C3 := Lib.hid c3
        clear c1 c2 c3 hcl
        go_enter Tryd.func11, Tryd.ntmps11
        go_wp2_with fail
        refine (great_any A n c w hc hm).mono ?_
        rintro e w0 ⟨rfl, rfl⟩
        rw [G.out]
        go_wp2_with fail
        refine (great_any B m k w hk hk2).mono ?_
        rintro e w0 ⟨rfl, rfl⟩
        rw [G2.out]
        go_wp2_with fail
        refine C3.out.mono ?_
        rintro e w1 ⟨rfl, hb1⟩
        have hb2 := (Below.refl w1.heap.size w1).alloc (Nat.le_refl _) (.cells #[.slice none 0 0, .slice none 0 0] 53)
        have HRow := Lib.hid (row_new w1 #[.slice none 0 0, .slice none 0 0] 53)
        have HB3 := Lib.hid (bt hb1 hb2)
        clear hb1 hb2
        go_wp2_with fail
        refine (C1.out _ HB3.out).mono ?_
        rintro e w2 ⟨rfl, hb4⟩
        have HB4 := Lib.hid (bt HB3.out hb4)
        have HRow2 := Lib.hid (HRow.out.belowS hb4 (Nat.le_refl _))
        clear hb4
        go_wp2_with fail
        refine (C2.out _ HB4.out).mono ?_
        rintro e w3 ⟨rfl, hb6⟩
        have HB6 := Lib.hid (bt HB4.out hb6)
        have hrow := HRow2.out.belowS hb6 (Nat.le_refl _)
        have y0 := hrow.cellQ 0 _ rfl
        have y1 := hrow.cellQ 1 _ rfl
        clear hb6 hrow
        go_wp2_with fail
        refine (knows3_any _ (HT.out.below HB6.out)).mono ?_
        rintro e w4 ⟨rfl, hb8⟩
        have HB8 := Lib.hid (bt HB6.out hb8)
        clear hb8 y0 y1
        go_wp2
        go_ret
        exact ⟨rfl, HB8.out⟩
    · have g2 : decide (m > 2000) = true := decide_eq_true (by omega)
      have G2 := Lib.hid g2
      clear g2 h2
      go_enter Tryd.func11, Tryd.ntmps11
      go_wp2_with fail
      refine (great_any A n c w hc hm).mono ?_
      rintro e w0 ⟨rfl, rfl⟩
      rw [G.out]
      go_wp2_with fail
      refine (great_any B m k w hk hk2).mono ?_
      rintro e w0 ⟨rfl, rfl⟩
      rw [G2.out]
      go_wp2_with fail
      refine (knows3_any _ HT.out).mono ?_
      rintro e w4 ⟨rfl, hb4⟩
      go_wp2
      go_ret
      exact ⟨rfl, hb4⟩
  · have g1 : decide (n > 2000) = true := decide_eq_true (by omega)
    have G := Lib.hid g1
    clear g1 h1
    go_enter Tryd.func11, Tryd.ntmps11
    go_wp2_with fail
    refine (great_any A n c w hc hm).mono ?_
    rintro e w0 ⟨rfl, rfl⟩
    rw [G.out]
    go_wp2_with fail
    refine (knows3_any _ HT.out).mono ?_
    rintro e w4 ⟨rfl, hb4⟩
    go_wp2
    go_ret
    exact ⟨rfl, hb4⟩
end Go.Proofs.YtcnjpcmadkkhfaaDoor
