/- ShaHex: the walk of the law. -/
import Derived.Test.YtcnjpcmadkkhfaaDoorShaKnows
import Derived.Test.YtcnjpcmadkkhfaaDoorShaRUnhex
namespace Go.Proofs.YtcnjpcmadkkhfaaDoor
set_option linter.unusedVariables false
open Go.RowKit

/-- What both readings answer. -/
def both (s : List UInt8) : List UInt8 × Bool := match Hex.unhex s with | some l => (l, true) | none => ([], false)
theorem unhex_both (s : List UInt8) (w : World) (hb : s.length ≤ 1000) (t : List UInt8) (b : Bool) (h : both s = (t, b)) : Calls Tryd.prog 19 #[sv s] w fun e w' => e = .returned (.tuple #[sv t, .int .i64 (if b then 0 else 2)]) ∧ Below w.heap.size w w' := by
  refine (unhex_any s w (by omega)).mono ?_
  rintro e w' ⟨⟨l', t', n, h', rfl⟩, hb⟩
  unfold both at h
  rcases h' with ⟨h1, rfl, rfl⟩ | ⟨h1, rfl, rfl⟩ <;>
  · rw [h1] at h
    injection h with h2 h3
    subst h2; subst h3
    exact ⟨rfl, hb⟩
theorem runhex_both (s : List UInt8) (w : World) (hb : s.length ≤ 1000) (t : List UInt8) (b : Bool) (h : both s = (t, b)) : Calls Tryd.prog 20 #[sv s] w fun e w' => e = .returned (.tuple #[sv t, .bool b]) ∧ Below w.heap.size w w' := by
  refine (runhex_any s w (by omega)).mono ?_
  rintro e w' ⟨⟨t', b', h', rfl⟩, hb⟩
  unfold both at h
  rcases h' with ⟨h1, rfl⟩ | ⟨h1, rfl, rfl⟩ <;>
  · rw [h1] at h
    injection h with h2 h3
    subst h2; subst h3
    exact ⟨rfl, hb⟩
set_option maxRecDepth 100000 in
set_option maxHeartbeats 4000000 in
theorem hexl_any (d : List UInt8) (hd : d.length ≤ maxLen) (s : List UInt8) (hs : s.length ≤ maxLen) (w : World) (ht : Tabs w) :
    Calls Tryd.prog 6 #[sv d, sv s] w (Yes w) := by
  clear hd hs
  have HT := Lib.hid ht
  have z1 := str_size d
  have z2 := str_size s
  obtain ⟨nd, hnd⟩ : ∃ n, d.length = n := ⟨_, rfl⟩
  obtain ⟨ns, hns⟩ : ∃ n, s.length = n := ⟨_, rfl⟩
  rw [hnd] at z1
  rw [hns] at z2
  have HN := Lib.hid (And.intro hnd hns)
  clear ht hnd hns
  obtain ⟨t, b, hu⟩ : ∃ t b, both s = (t, b) := ⟨_, _, rfl⟩
  have HU := Lib.hid hu
  clear hu
  by_cases h1 : nd ≤ 1000
  · by_cases h2 : ns ≤ 1000
    · cases b
      all_goals
        go_enter Tryd.func6, Tryd.ntmps6
        go_wp2_with fail
        refine (unhex_both s _ (by rw [HN.out.2]; omega) t _ HU.out).mono ?_
        rintro e w1 ⟨rfl, hb1⟩
        have HB1 := Lib.hid hb1
        clear hb1
        go_wp2_with fail
        refine (runhex_both s _ (by rw [HN.out.2]; omega) t _ HU.out).mono ?_
        rintro e w2 ⟨rfl, hb2⟩
        have HB2 := Lib.hid (bt HB1.out hb2)
        clear hb2
        go_wp2_with fail
        refine (hex_any d _ (by rw [HN.out.1]; omega)).mono ?_
        rintro e w3 ⟨rfl, hb3⟩
        have HB3 := Lib.hid (bt HB2.out hb3)
        clear hb3
        go_wp2_with fail
        refine (rhex_any d _ (by rw [HN.out.1]; omega)).mono ?_
        rintro e w4 ⟨rfl, hb4⟩
        have HB4 := Lib.hid (bt HB3.out hb4)
        clear hb4
        go_wp2_with fail
        refine (knows_any _ (HT.out.below HB4.out)).mono ?_
        rintro e w5 ⟨rfl, hb5⟩
        have HB5 := Lib.hid (bt HB4.out hb5)
        clear hb5
        go_wp2
        go_ret
        exact ⟨rfl, HB5.out⟩
    · go_enter Tryd.func6, Tryd.ntmps6
      go_wp2_with fail
      refine (knows_any _ HT.out).mono ?_
      rintro e w4 ⟨rfl, hb4⟩
      go_wp2
      go_ret
      exact ⟨rfl, hb4⟩
  · go_enter Tryd.func6, Tryd.ntmps6
    go_wp2_with fail
    refine (knows_any _ HT.out).mono ?_
    rintro e w4 ⟨rfl, hb4⟩
    go_wp2
    go_ret
    exact ⟨rfl, hb4⟩
end Go.Proofs.YtcnjpcmadkkhfaaDoor
