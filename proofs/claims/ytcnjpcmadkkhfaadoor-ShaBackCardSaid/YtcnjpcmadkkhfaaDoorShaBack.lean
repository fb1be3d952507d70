/- ShaBack: the walk of the law. -/
import Derived.Test.YtcnjpcmadkkhfaaDoorShaKnows
namespace Go.Proofs.YtcnjpcmadkkhfaaDoor
set_option linter.unusedVariables false
open Go.RowKit

theorem back_text (l : List UInt8) (w : World) (hb : l.length ≤ 1000) : Calls Tryd.prog 19 #[sv (Hex.hex l)] w fun e w' => e = .returned (.tuple #[sv l, .int .i64 0]) ∧ Below w.heap.size w w' := by
  refine (unhex_any (Hex.hex l) w (by rw [Hex.hex_length]; omega)).mono ?_
  rintro e w' ⟨⟨l', t, n, h, rfl⟩, hb⟩
  rw [Hex.unhex_hex] at h
  rcases h with ⟨h1, rfl, rfl⟩ | ⟨h1, _⟩
  · injection h1 with h1
    subst h1
    exact ⟨rfl, hb⟩
  · cases h1
theorem back_yes (s l : List UInt8) (hs : Hex.unhex s = some l) (w : World) (hb : s.length ≤ 1000) : Calls Tryd.prog 19 #[sv s] w fun e w' => e = .returned (.tuple #[sv l, .int .i64 0]) ∧ Below w.heap.size w w' := by
  refine (unhex_any s w (by omega)).mono ?_
  rintro e w' ⟨⟨l', t, n, h, rfl⟩, hb⟩
  rw [hs] at h
  rcases h with ⟨h1, rfl, rfl⟩ | ⟨h1, _⟩
  · injection h1 with h1
    subst h1
    exact ⟨rfl, hb⟩
  · cases h1
theorem back_no (s : List UInt8) (hs : Hex.unhex s = none) (w : World) (hb : s.length ≤ 1000) : Calls Tryd.prog 19 #[sv s] w fun e w' => e = .returned (.tuple #[.string { data := #[] }, .int .i64 2]) ∧ Below w.heap.size w w' := by
  refine (unhex_any s w (by omega)).mono ?_
  rintro e w' ⟨⟨l', t, n, h, rfl⟩, hb⟩
  rw [hs] at h
  rcases h with ⟨h1, rfl, rfl⟩ | ⟨h1, rfl, rfl⟩
  · cases h1
  · exact ⟨rfl, hb⟩
theorem hex_back (s l : List UInt8) (hs : Hex.unhex s = some l) (w : World) (hb : s.length ≤ 1000) : Calls Tryd.prog 21 #[sv l] w fun e w' => e = .returned (sv s) ∧ Below w.heap.size w w' := by
  have h1 := Hex.hex_unhex s.length s l (Nat.le_refl _) hs
  have h2 := Hex.unhex_length s.length s l (Nat.le_refl _) hs
  refine (hex_any l w (by omega)).mono ?_
  rintro e w' ⟨rfl, hb⟩
  exact ⟨by rw [h1], hb⟩
set_option maxRecDepth 100000 in
set_option maxHeartbeats 4000000 in
theorem back_any (d : List UInt8) (hd : d.length ≤ maxLen) (s : List UInt8) (hs : s.length ≤ maxLen) (w : World) (ht : Tabs w) :
    Calls Tryd.prog 7 #[sv d, sv s] w (Yes w) := by
  clear hd hs
  have HT := Lib.hid ht
  have z1 := str_size d
  have z2 := str_size s
  obtain ⟨nd, hnd⟩ : ∃ n, d.length = n := ⟨_, rfl⟩
  obtain ⟨ns, hns⟩ : ∃ n, s.length = n := ⟨_, rfl⟩
  rw [hnd] at z1
  rw [hns] at z2
  have HN := Lib.hid (And.intro hnd hns)
  clear ht hnd hns
  by_cases h1 : nd ≤ 1000
  · by_cases h2 : ns ≤ 1000
    · cases hu : Hex.unhex s with
      | none =>
        have HU := Lib.hid hu
        clear hu
        go_enter Tryd.func7, Tryd.ntmps7
        go_wp2_with fail
        refine (hex_any d _ (by rw [HN.out.1]; omega)).mono ?_
        rintro e w1 ⟨rfl, hb1⟩
        have HB1 := Lib.hid hb1
        clear hb1
        go_wp2_with fail
        refine (back_text d _ (by rw [HN.out.1]; omega)).mono ?_
        rintro e w2 ⟨rfl, hb2⟩
        have HB2 := Lib.hid (bt HB1.out hb2)
        clear hb2
        go_wp2_with fail
        refine (back_no s HU.out _ (by rw [HN.out.2]; omega)).mono ?_
        rintro e w3 ⟨rfl, hb3⟩
        have HB3 := Lib.hid (bt HB2.out hb3)
        clear hb3
        go_wp2_with fail
        refine (knows_any _ (HT.out.below HB3.out)).mono ?_
        rintro e w4 ⟨rfl, hb4⟩
        have HB4 := Lib.hid (bt HB3.out hb4)
        clear hb4
        go_wp2
        go_ret
        exact ⟨rfl, HB4.out⟩
      | some l =>
        have HU := Lib.hid hu
        clear hu
        go_enter Tryd.func7, Tryd.ntmps7
        go_wp2_with fail
        refine (hex_any d _ (by rw [HN.out.1]; omega)).mono ?_
        rintro e w1 ⟨rfl, hb1⟩
        have HB1 := Lib.hid hb1
        clear hb1
        go_wp2_with fail
        refine (back_text d _ (by rw [HN.out.1]; omega)).mono ?_
        rintro e w2 ⟨rfl, hb2⟩
        have HB2 := Lib.hid (bt HB1.out hb2)
        clear hb2
        go_wp2_with fail
        refine (back_yes s l HU.out _ (by rw [HN.out.2]; omega)).mono ?_
        rintro e w3 ⟨rfl, hb3⟩
        have HB3 := Lib.hid (bt HB2.out hb3)
        clear hb3
        go_wp2_with fail
        refine (hex_back s l HU.out _ (by rw [HN.out.2]; omega)).mono ?_
        rintro e w4 ⟨rfl, hb4⟩
        have HB4 := Lib.hid (bt HB3.out hb4)
        clear hb4
        go_wp2_with fail
        refine (knows_any _ (HT.out.below HB4.out)).mono ?_
        rintro e w5 ⟨rfl, hb5⟩
        have HB5 := Lib.hid (bt HB4.out hb5)
        clear hb5
        go_wp2
        go_ret
        exact ⟨rfl, HB5.out⟩
    · go_enter Tryd.func7, Tryd.ntmps7
      go_wp2_with fail
      refine (knows_any _ HT.out).mono ?_
      rintro e w4 ⟨rfl, hb4⟩
      go_wp2
      go_ret
      exact ⟨rfl, hb4⟩
  · go_enter Tryd.func7, Tryd.ntmps7
    go_wp2_with fail
    refine (knows_any _ HT.out).mono ?_
    rintro e w4 ⟨rfl, hb4⟩
    go_wp2
    go_ret
    exact ⟨rfl, hb4⟩
end Go.Proofs.YtcnjpcmadkkhfaaDoor
