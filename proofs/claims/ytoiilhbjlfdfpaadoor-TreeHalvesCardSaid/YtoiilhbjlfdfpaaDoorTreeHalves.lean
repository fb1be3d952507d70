/- TreeHalves: the walk of the law. -/
import Derived.Test.YtoiilhbjlfdfpaaDoorTree12
import Derived.OpenShut
namespace Go.Proofs.YtoiilhbjlfdfpaaDoor
set_option linter.unusedVariables false
open Go.RowKit

set_option maxRecDepth 100000 in
set_option maxHeartbeats 16000000 in
theorem treehalves_any (A : Option Addr) (n c : Nat) (f : Nat → Piece) (w : World) (hr : RowsAt w A n f) (hu : True) (hc : n ≤ c) (hm : c ≤ maxLen) (hu2 : True) (ht : Tabs w) :
    Calls Tryd.prog 7 #[.slice A n c] w (RetB true w) := by
  have HR := Lib.hid hr
  have HMX := Lib.hid hm
  have HT := Lib.hid ht
  rw [maxLen_eq] at hm
  clear hr ht
  go_enter Tryd.func7, Tryd.ntmps7
  go_wp2_with fail
  refine (ldig_any A n c 60 f w HR.out hc HMX.out (by omega)).mono ?_
  rintro e w1 ⟨Ad, nd, cd, d, rfl, ho1, hd32, hd60, hb1⟩
  have HB1 := Lib.hid (bt (Below.refl w.heap.size w) hb1)
  have hcapd := ho1.cap
  have hmaxd := ho1.max
  rw [maxLen_eq] at hmaxd
  have Hd := Lib.hid ho1
  have hdl := Hd.out.len
  clear hb1 ho1
  clear hu hu2
  by_cases h2 : nd < 2
  · have HSP := Lib.hid (show Tree.spz (nd : Int) = 0 by unfold Tree.spz; rw [if_pos (by omega)])
    go_wp2_with fail
    refine (split_any (nd : Int) w1 (by omega) (by omega)).mono ?_
    rintro e wz ⟨rfl, rfl⟩
    rw [HSP.out]
    go_wp2_with fail
    refine (knows6_any w1 (HT.out.below HB1.out)).mono ?_
    rintro e w2 ⟨rfl, hb2⟩
    replace Hd := Lib.hid (Hd.out.keep hb2)
    have HB2 := Lib.hid (bt HB1.out hb2)
    clear hb2
    go_wp2
    go_ret
    exact ⟨rfl, HB2.out⟩
  · obtain ⟨k, hk⟩ : ∃ k, Tree.sp nd = k := ⟨_, rfl⟩
    have kp := Tree.sp_pos (n := nd) (by omega)
    have kl := Tree.sp_lt (n := nd) (by omega)
    have kh := Tree.sp_half (n := nd) (by omega)
    rw [hk] at kp kl kh
    have HSP := Lib.hid (show Tree.spz (nd : Int) = k by rw [Tree.spz_in (by omega) (by omega), hk])
    obtain ⟨X, hX⟩ : ∃ X, troot (d.take k) = X := ⟨_, rfl⟩
    obtain ⟨Y, hY⟩ : ∃ Y, troot (d.drop k) = Y := ⟨_, rfl⟩
    obtain ⟨R, hR⟩ : ∃ R, troot d = R := ⟨_, rfl⟩
    have lX : X.length = 32 := by rw [← hX]; exact troot_len (all_take hd32 k)
    have lY : Y.length = 32 := by rw [← hY]; exact troot_len (all_drop hd32 k)
    have hXY : tnd X Y = R := by
      rw [← hX, ← hY, ← hR]
      have := Tree.root_two tnd tnil (l := d) (by omega)
      rw [hdl, hk] at this
      exact this.symm
    have hwf : ∀ s ∈ d, s.length ≤ maxLen := fun s hs => by rw [hd32 s hs]; decide
    have c1 := fun (W : World) (h : Ss W Ad nd cd d) (ht : Tabs W) => range_any Ad nd cd d 0 k W h hwf (by omega) (by omega) (by omega) ht
    rw [List.drop_zero, rangeV_yes (Tree.all32_iff.2 (all_take hd32 k)), hX] at c1
    have c2 := fun (W : World) (h : Ss W Ad nd cd d) (ht : Tabs W) => range_any Ad nd cd d k nd W h hwf (by omega) (by omega) (by omega) ht
    rw [List.take_of_length_le (by omega), rangeV_yes (Tree.all32_iff.2 (all_drop hd32 k)), hY] at c2
    have c3 := fun (W : World) (h : Ss W Ad nd cd d) (ht : Tabs W) => Root_any Ad nd cd d W h hd32 (by omega) ht
    rw [hR] at c3
    have c4 := fun (W : World) (ht : Tabs W) => node_any X Y W lX lY ht
    unfold NodePost at c4
    rw [show seal_ 1 (X ++ Y) = R from hXY] at c4
    have C1 := Lib.hid c1
    have C2 := Lib.hid c2
    have C3 := Lib.hid c3
    have C4 := Lib.hid c4
    have qs : ((str R).toList == (str R).toList) = true := by simp
    clear c1 c2 c3 c4 hX hY hR lX lY hXY hwf hd32 hdl hk
    go_wp2_with fail
    refine (split_any (nd : Int) w1 (by omega) (by omega)).mono ?_
    rintro e wz ⟨rfl, rfl⟩
    rw [HSP.out]
    go_wp2_with fail
    refine (C1.out w1 Hd.out.ss (HT.out.below HB1.out)).mono ?_
    rintro e w2 ⟨rfl, hb2⟩
    replace Hd := Lib.hid (Hd.out.keep hb2)
    have HB2 := Lib.hid (bt HB1.out hb2)
    clear hb2
    go_wp2_with fail
    refine (C2.out w2 Hd.out.ss (HT.out.below HB2.out)).mono ?_
    rintro e w3 ⟨rfl, hb3⟩
    replace Hd := Lib.hid (Hd.out.keep hb3)
    have HB3 := Lib.hid (bt HB2.out hb3)
    clear hb3
    go_wp2_with fail
    refine (C3.out w3 Hd.out.ss (HT.out.below HB3.out)).mono ?_
    rintro e w4 ⟨rfl, hb4⟩
    replace Hd := Lib.hid (Hd.out.keep hb4)
    have HB4 := Lib.hid (bt HB3.out hb4)
    clear hb4
    go_wp2_with fail
    refine (C4.out w4 (HT.out.below HB4.out)).mono ?_
    rintro e w5 ⟨rfl, hb5⟩
    replace Hd := Lib.hid (Hd.out.keep hb5)
    have HB5 := Lib.hid (bt HB4.out hb5)
    clear hb5
    go_wp2_with fail
    refine (knows6_any w5 (HT.out.below HB5.out)).mono ?_
    rintro e w6 ⟨rfl, hb6⟩
    replace Hd := Lib.hid (Hd.out.keep hb6)
    have HB6 := Lib.hid (bt HB5.out hb6)
    clear hb6
    go_wp2
    go_ret
    exact ⟨rfl, HB6.out⟩
end Go.Proofs.YtoiilhbjlfdfpaaDoor
