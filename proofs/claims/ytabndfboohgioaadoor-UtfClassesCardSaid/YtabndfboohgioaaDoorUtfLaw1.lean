/- The laws on single characters: UtfClasses, UtfSmall, UtfEncodes: their walks. -/
import Derived.Test.YtabndfboohgioaaDoorUtfLaw
import Derived.Deep.RegionWith
namespace Go.Proofs.YtabndfboohgioaaDoor
set_option linter.unusedVariables false
open Go.RowKit

set_option maxHeartbeats 4000000 in
theorem classes_any (c : Int) (w : World) (ht : Tabs w) : Calls Tryd.prog 4 #[.int .i64 c] w (Yes w) := by
  by_cases h1 : 48 ≤ c
  · by_cases h2 : c ≤ 57
    · have HD := Lib.hid (by unfold Utf.digit; simp [h1, h2] : Utf.digit c = true)
      go_enter Tryd.func4, Tryd.ntmps4
      go_wp2_with (first | (go_at_call 13; refine (letter_any c w ht).mono ?_; rintro e w1 ⟨rfl, hb1⟩; have ht1 : Tabs w1 := ht.below hb1; have HB1 := Lib.hid hb1; clear hb1) | (go_at_call 14; refine (rletter_any c w1).mono ?_; rintro e w1' ⟨rfl, rfl⟩) | (go_at_call 15; refine (digit_any c w1).mono ?_; rintro e w1' ⟨rfl, rfl⟩; rw [HD.out]) | (go_at_call 16; refine (small_any c w1 ht1).mono ?_; rintro e w2 ⟨rfl, hb2⟩; have ht2 : Tabs w2 := ht1.below hb2; have HB2 := Lib.hid hb2; clear hb2) | (go_at_call 17; refine (rsmall_any c w2).mono ?_; rintro e w2' ⟨rfl, rfl⟩) | (go_at_call 10; refine (knows_any w2 ht2).mono ?_; rintro e w3 ⟨rfl, hb3⟩; have HB3 := Lib.hid hb3; clear hb3))
      go_ret
      exact ⟨by simp <;> omega, bt (bt HB1.out HB2.out) HB3.out⟩
    · have HD := Lib.hid (by unfold Utf.digit; simp [h2] : Utf.digit c = false)
      go_enter Tryd.func4, Tryd.ntmps4
      go_wp2_with (first | (go_at_call 13; refine (letter_any c w ht).mono ?_; rintro e w1 ⟨rfl, hb1⟩; have ht1 : Tabs w1 := ht.below hb1; have HB1 := Lib.hid hb1; clear hb1) | (go_at_call 14; refine (rletter_any c w1).mono ?_; rintro e w1' ⟨rfl, rfl⟩) | (go_at_call 15; refine (digit_any c w1).mono ?_; rintro e w1' ⟨rfl, rfl⟩; rw [HD.out]) | (go_at_call 16; refine (small_any c w1 ht1).mono ?_; rintro e w2 ⟨rfl, hb2⟩; have ht2 : Tabs w2 := ht1.below hb2; have HB2 := Lib.hid hb2; clear hb2) | (go_at_call 17; refine (rsmall_any c w2).mono ?_; rintro e w2' ⟨rfl, rfl⟩) | (go_at_call 10; refine (knows_any w2 ht2).mono ?_; rintro e w3 ⟨rfl, hb3⟩; have HB3 := Lib.hid hb3; clear hb3))
      go_ret
      exact ⟨by simp <;> omega, bt (bt HB1.out HB2.out) HB3.out⟩
  · have HD := Lib.hid (by unfold Utf.digit; simp [h1] : Utf.digit c = false)
    go_enter Tryd.func4, Tryd.ntmps4
    go_wp2_with (first | (go_at_call 13; refine (letter_any c w ht).mono ?_; rintro e w1 ⟨rfl, hb1⟩; have ht1 : Tabs w1 := ht.below hb1; have HB1 := Lib.hid hb1; clear hb1) | (go_at_call 14; refine (rletter_any c w1).mono ?_; rintro e w1' ⟨rfl, rfl⟩) | (go_at_call 15; refine (digit_any c w1).mono ?_; rintro e w1' ⟨rfl, rfl⟩; rw [HD.out]) | (go_at_call 16; refine (small_any c w1 ht1).mono ?_; rintro e w2 ⟨rfl, hb2⟩; have ht2 : Tabs w2 := ht1.below hb2; have HB2 := Lib.hid hb2; clear hb2) | (go_at_call 17; refine (rsmall_any c w2).mono ?_; rintro e w2' ⟨rfl, rfl⟩) | (go_at_call 10; refine (knows_any w2 ht2).mono ?_; rintro e w3 ⟨rfl, hb3⟩; have HB3 := Lib.hid hb3; clear hb3))
    go_ret
    exact ⟨by simp <;> omega, bt (bt HB1.out HB2.out) HB3.out⟩

theorem small_le (c : Int) (h : Utf.letter c = true) : Utf.letter (Utf.small c) = true ∧ Utf.small (Utf.small c) = Utf.small c ∧ Utf.right (Utf.small c) = true := by
  have key : ∀ k : Fin 1120, Utf.letter (k.val : Int) = true → Utf.letter (Utf.small (k.val : Int)) = true ∧ Utf.small (Utf.small (k.val : Int)) = Utf.small (k.val : Int) ∧ Utf.right (Utf.small (k.val : Int)) = true := by decide +kernel
  have hr : 0 ≤ c ∧ c < 1120 := by
    unfold Utf.letter Utf.tabL at h
    simp at h
    omega
  obtain ⟨n, rfl⟩ := Int.eq_ofNat_of_zero_le hr.1
  exact key ⟨n, by omega⟩ h
theorem small_not (c : Int) (h : Utf.letter c = false) : Utf.small c = c := by
  unfold Utf.letter Utf.tabL at h
  simp at h
  simp only [Utf.small, Utf.tabS, Utf.smallIn]
  repeat (first | rw [if_neg (by omega)])
set_option maxHeartbeats 4000000 in
theorem smalls_any (c : Int) (w : World) (ht : Tabs w) : Calls Tryd.prog 5 #[.int .i64 c] w (Yes w) := by
  by_cases h : Utf.letter c = true
  · obtain ⟨g1, g2, g3⟩ := small_le c h
    obtain ⟨s, hs⟩ : ∃ s, Utf.small c = s := ⟨_, rfl⟩
    rw [hs] at g1 g2 g3
    have HL := Lib.hid h; have HS := Lib.hid hs; have G1 := Lib.hid g1; have G2 := Lib.hid g2; have G3 := Lib.hid g3
    clear h hs g1 g2 g3
    go_enter Tryd.func5, Tryd.ntmps5
    go_wp2_with fail
    refine (small_any c w ht).mono ?_
    rintro e w1 ⟨rfl, hb1⟩
    rw [HS.out]
    have ht1 := ht.below hb1
    have HB1 := Lib.hid hb1
    clear hb1 ht
    go_wp2_with fail
    refine (letter_any c w1 ht1).mono ?_
    rintro e w2 ⟨rfl, hb2⟩
    rw [HL.out]
    have ht2 := ht1.below hb2
    have HB2 := Lib.hid hb2
    clear hb2 ht1
    go_wp2_with fail
    refine (letter_any s w2 ht2).mono ?_
    rintro e w3 ⟨rfl, hb3⟩
    rw [G1.out]
    have ht3 := ht2.below hb3
    have HB3 := Lib.hid hb3
    clear hb3 ht2
    go_wp2_with fail
    refine (small_any s w3 ht3).mono ?_
    rintro e w4 ⟨rfl, hb4⟩
    rw [G2.out]
    have ht4 := ht3.below hb4
    have HB4 := Lib.hid hb4
    clear hb4 ht3
    go_wp2_with fail
    refine (right_any s w4).mono ?_
    rintro e w5 ⟨rfl, rfl⟩
    rw [G3.out]
    go_wp2_with fail
    refine (knows_any w4 ht4).mono ?_
    rintro e w5 ⟨rfl, hb5⟩
    go_wp2
    go_ret
    exact ⟨rfl, bt (bt (bt (bt HB1.out HB2.out) HB3.out) HB4.out) hb5⟩
  · have h' : Utf.letter c = false := by simpa using h
    have hs := small_not c h'
    have HL := Lib.hid h'; have HS := Lib.hid hs
    clear h h' hs
    go_enter Tryd.func5, Tryd.ntmps5
    go_wp2_with fail
    refine (small_any c w ht).mono ?_
    rintro e w1 ⟨rfl, hb1⟩
    rw [HS.out]
    have ht1 := ht.below hb1
    have HB1 := Lib.hid hb1
    clear hb1 ht
    go_wp2_with fail
    refine (letter_any c w1 ht1).mono ?_
    rintro e w2 ⟨rfl, hb2⟩
    rw [HL.out]
    have ht2 := ht1.below hb2
    have HB2 := Lib.hid hb2
    clear hb2 ht1
    go_wp2_with fail
    refine (knows_any w2 ht2).mono ?_
    rintro e w5 ⟨rfl, hb5⟩
    go_wp2
    go_ret
    exact ⟨rfl, bt (bt HB1.out HB2.out) hb5⟩

set_option maxHeartbeats 4000000 in
theorem encodes_any (c : Int) (w : World) (ht : Tabs w) : Calls Tryd.prog 7 #[.int .i64 c] w (Yes w) := by
  by_cases h : Utf.right c = true
  · have HR := Lib.hid h
    go_enter Tryd.func7, Tryd.ntmps7
    go_wp2_with fail
    refine (encode_any c w).mono ?_
    rintro e w1 ⟨hb1, he⟩
    rw [if_pos h] at he
    obtain ⟨A, k, rfl, hr, hk1, hk2⟩ := he
    have ht1 := ht.below hb1
    have HB1 := Lib.hid hb1
    clear hb1 ht h
    go_wp2_with fail
    refine (rright_any c w1).mono ?_
    rintro e w1' ⟨rfl, rfl⟩
    rw [HR.out]
    go_wp2_with fail
    refine (right_any c w1).mono ?_
    rintro e w1' ⟨rfl, rfl⟩
    rw [HR.out]
    have HR1 := Lib.hid hr
    clear hr hk1 hk2
    go_wp2_with fail
    have q1 := run_str (P := Tryd.prog) (w := w1.drew) 22 9 5 Tryd.underlying22 Tryd.underlying5 Tryd.underlying9 A _ k w1.heap.size (Utf.enc c) HR1.out.drew rfl
    go_region_with (first
      | (go_at_call 21; refine (rencode_any c _ HR.out).mono ?_; rintro e w2 ⟨A2, k2, rfl, hr2, hk3, hk4, hb2'⟩; have hb2 := bdrew hb2'; have q2 := run_str (P := Tryd.prog) (w := w2) 22 9 5 Tryd.underlying22 Tryd.underlying5 Tryd.underlying9 A _ k w1.heap.size (Utf.enc c) (HR1.out.below hb2) rfl; have q3 := run_str (P := Tryd.prog) (w := w2) 22 9 5 Tryd.underlying22 Tryd.underlying5 Tryd.underlying9 A2 _ k2 w2.heap.size (Utf.enc c) hr2 rfl; have HB2 := Lib.hid hb2; have ht2 := ht1.below hb2; clear hr2 hk3 hk4 hb2 hb2')
      | (go_at_call 10; refine (knows_any _ ht2).mono ?_; rintro e w3 ⟨rfl, hb3⟩; have HB3 := Lib.hid hb3; clear hb3))
    all_goals
      go_wp2
      go_ret
      exact ⟨rfl, bt (bt HB1.out HB2.out) HB3.out⟩
  · have h' : Utf.right c = false := by simpa using h
    have HR := Lib.hid h'
    go_enter Tryd.func7, Tryd.ntmps7
    go_wp2_with fail
    refine (encode_any c w).mono ?_
    rintro e w1 ⟨hb1, he⟩
    rw [if_neg h] at he
    subst he
    have ht1 := ht.below hb1
    have HB1 := Lib.hid hb1
    clear hb1 ht h h'
    go_wp2_with fail
    refine (rright_any c w1).mono ?_
    rintro e w1' ⟨rfl, rfl⟩
    rw [HR.out]
    go_wp2_with fail
    refine (right_any c w1).mono ?_
    rintro e w1' ⟨rfl, rfl⟩
    rw [HR.out]
    go_wp2_with fail
    refine (knows_any w1 ht1).mono ?_
    rintro e w5 ⟨rfl, hb5⟩
    go_wp2
    go_ret
    exact ⟨rfl, bt HB1.out hb5⟩
end Go.Proofs.YtabndfboohgioaaDoor
