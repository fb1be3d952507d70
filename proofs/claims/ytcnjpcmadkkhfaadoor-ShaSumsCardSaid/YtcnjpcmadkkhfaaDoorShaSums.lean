/- ShaSums: the walk of the law. -/
import Derived.Test.YtcnjpcmadkkhfaaDoorShaKnows
namespace Go.Proofs.YtcnjpcmadkkhfaaDoor
set_option linter.unusedVariables false
open Go.RowKit

set_option maxRecDepth 100000 in
set_option maxHeartbeats 4000000 in
theorem sums_any (A : Option Addr) (n c : Nat) (l : List UInt8) (w : World) (hr : Rd w w.heap.size A (l.map bv)) (hn : l.length = n) (hc : n ≤ c) (hm : c ≤ maxLen) (ht : Tabs w) :
    Calls Tryd.prog 3 #[.slice A n c] w (Yes w) := by
  rw [maxLen_eq] at hm
  have HT := Lib.hid ht
  have HR := Lib.hid (And.intro hr hn)
  clear hr hn ht
  by_cases h5 : n ≤ 5000
  · obtain ⟨S, hS⟩ : ∃ S, Sha.sum l = S := ⟨_, rfl⟩
    have hsl : S.length = 32 := by rw [← hS]; exact Sha.sum_length l
    have q1 : (str S).size = 32 := by rw [str_size]; exact hsl
    have q2 : ((str S).toList == (str S).toList) = true := by simp
    have c1 := fun (w : World) (B : Option Addr) (k : Nat) (hB : Rd w w.heap.size B (l.map bv)) (hk : n ≤ k) (hk2 : k ≤ maxLen) (ht : Tabs w) => sum_any B n k l w hB HR.out.2 hk hk2 (by omega) ht.r ht.b
    have c2 := fun (w : World) (hA : Rd w w.heap.size A (l.map bv)) => rsum_any A n c l w hA HR.out.2 hc (by rw [maxLen_eq]; exact hm) (by omega)
    unfold SumPost at c1
    unfold RSumPost at c2
    rw [hS] at c1 c2
    have C1 := Lib.hid c1
    have C2 := Lib.hid c2
    clear c1 c2 hS hsl
    go_enter Tryd.func3, Tryd.ntmps3
    go_wp2_with (first
      | (at_builtin; refine wl_app rfl (.tmp 8) (.tmp 9) 22 rfl w.heap.size 5 1 1 bytesT _ 0 [] rfl (own_empty w 5 1 (Nat.le_refl _)) w.heap.size A n c (l.map bv) rfl (HR.out.1.alloc (Nat.le_refl _) _) (by simpa using HR.out.2) (one_bv _) (by rw [maxLen_eq]; omega) (by omega) (by unfold World.alloc; simp) ?_; intro A1 c1 w1 hown1 hg1 hat1 hb1 hc1 hc2; simp only [Nat.zero_add, List.nil_append] at hown1 hc1; have HR1 := Lib.hid (And.intro (Rd.of_own hown1) (And.intro hc1 hc2)); have HB1 := Lib.hid (((Below.refl w.heap.size w).alloc (Nat.le_refl _) _).trans hb1); clear hg1 hat1 hb1 hown1 hc1 hc2)
      | (go_at_call 14; refine (C1.out _ A1 c1 HR1.out.1 HR1.out.2.1 HR1.out.2.2 (HT.out.below HB1.out)).mono ?_; rintro e w2 ⟨rfl, hb2⟩; have HB2 := Lib.hid (bt HB1.out hb2); clear hb2)
      | (go_at_call 15; refine (C2.out _ (HR.out.1.below' HB2.out (Nat.le_refl _) |>.more HB2.out.size)).mono ?_; rintro e w3 ⟨rfl, hb3⟩; have HB3 := Lib.hid (bt HB2.out hb3); clear hb3)
      | (go_at_call 13; refine (knows_any _ (HT.out.below HB3.out)).mono ?_; rintro e w4 ⟨rfl, hb4⟩; have HB4 := Lib.hid (bt HB3.out hb4); clear hb4))
    go_ret
    exact ⟨rfl, HB4.out⟩
  · go_enter Tryd.func3, Tryd.ntmps3
    go_wp2_with (first
      | (go_at_call 13; refine (knows_any _ HT.out).mono ?_; rintro e w4 ⟨rfl, hb4⟩; have HB4 := Lib.hid hb4; clear hb4))
    go_ret
    exact ⟨rfl, HB4.out⟩
end Go.Proofs.YtcnjpcmadkkhfaaDoor
