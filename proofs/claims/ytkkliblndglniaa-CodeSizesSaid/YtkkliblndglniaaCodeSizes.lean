/- CodeSizes: the walk of the law. -/
import Derived.Test.YtkkliblndglniaaCodeK
namespace Go.Proofs.Ytkkliblndglniaa
set_option linter.unusedVariables false
open Go.RowKit

set_option maxRecDepth 100000 in
set_option maxHeartbeats 8000000 in
theorem sizes_any (v x : Int) (w : World) (hv : -9223372036854775808 ≤ v ∧ v ≤ 9223372036854775807) (hx : -9223372036854775808 ≤ x ∧ x ≤ 9223372036854775807) :
    Calls Try.prog 3 #[.int .i64 v, .int .i64 x] w (RetB true w) := by
  obtain ⟨v1, v2⟩ := hv
  obtain ⟨x1, x2⟩ := hx
  by_cases h1 : v < 0
  · go_enter Try.func3, Try.ntmps3
    go_wp2_with fail
    refine (knows2_any _).mono ?_
    rintro e w1 ⟨rfl, hb1⟩
    go_wp2
    go_ret
    exact ⟨rfl, hb1⟩
  · by_cases h2 : x < v
    · go_enter Try.func3, Try.ntmps3
      go_wp2_with fail
      refine (knows2_any _).mono ?_
      rintro e w1 ⟨rfl, hb1⟩
      go_wp2
      go_ret
      exact ⟨rfl, hb1⟩
    · by_cases h3 : 4611686018427387904 < x
      · go_enter Try.func3, Try.ntmps3
        go_wp2_with fail
        refine (knows2_any _).mono ?_
        rintro e w1 ⟨rfl, hb1⟩
        go_wp2
        go_ret
        exact ⟨rfl, hb1⟩
      · obtain ⟨a, rfl⟩ : ∃ a : Nat, v = (a : Int) := ⟨v.toNat, by omega⟩
        obtain ⟨b, rfl⟩ : ∃ b : Nat, x = (b : Int) := ⟨x.toNat, by omega⟩
        have hm := Code.num_mono b a b (Nat.le_refl _) (by omega)
        have h9 := Code.num_len9 b (by omega)
        go_enter Try.func3, Try.ntmps3
        go_wp2_with fail
        refine (num_any none 0 0 [] a w (Bs.nil w) (by omega) (by omega)).mono ?_
        rintro e w1 ⟨A1, n1, c1, rfl, ho1, hb1⟩
        have HB1 := Lib.hid hb1
        clear hb1
        go_wp2_with fail
        refine (num_any none 0 0 [] b w1 (Bs.nil w1) (by omega) (by omega)).mono ?_
        rintro e w2 ⟨A2, n2, c2, rfl, ho2, hb2⟩
        have HB2 := Lib.hid (bt HB1.out hb2)
        have l1 : (Code.num a).length = n1 := by have := ho1.len; simpa using this
        have l2 : (Code.num b).length = n2 := by have := ho2.len; simpa using this
        rw [l1, l2] at hm
        rw [l2] at h9
        have p1 : 1 ≤ n1 := by rw [← l1]; exact Code.num_pos a
        have HL1 := Lib.hid l1
        clear hb2 l1 l2
        go_wp2
        go_loop [9, 10] (fun vn vx => ∃ (k y : Nat), vn = .int .i64 k ∧ vx = .int .i64 y ∧ y ≤ a ∧ k ≤ n1 ∧ Hid (k + Code.groups y = n1 + 1)) (fun _ vx => (intOf vx).toNat)
        case atStart => exact ⟨1, a, rfl, rfl, Nat.le_refl _, p1, Lib.hid (by unfold Code.groups; rw [HL1.out]; omega)⟩
        case round =>
          obtain ⟨k, y, rfl, rfl, hy, hk, hr⟩ := hrel
          by_cases hlt : 128 ≤ y
          · have hg := Code.groups_ge hlt
            have hp := Code.num_pos (y / 128)
            have HN := Lib.hid (show (k + 1) + Code.groups (y / 128) = n1 + 1 by have := hr.out; omega)
            have hk1 : k + 1 ≤ n1 := by have := HN.out; unfold Code.groups at this; omega
            clear hg hp
            go_wp2
            go_round
            case rel => exact ⟨k + 1, y / 128, by go_num, by simp, by omega, hk1, HN⟩
            case measure => simp [intOf]; omega
          · obtain rfl : k = n1 := by have := hr.out; rw [Code.groups_lt (by omega)] at this; omega
            go_wp2_with fail
            refine (knows2_any _).mono ?_
            rintro e w3 ⟨rfl, hb3⟩
            have HB3 := Lib.hid (bt HB2.out hb3)
            clear hb3
            go_wp2
            go_ret
            exact ⟨rfl, HB3.out⟩
end Go.Proofs.Ytkkliblndglniaa
