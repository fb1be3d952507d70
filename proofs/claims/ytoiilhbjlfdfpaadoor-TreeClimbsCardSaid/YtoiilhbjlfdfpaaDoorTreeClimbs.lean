/- TreeClimbs: the walk of the law. -/
import Derived.Test.YtoiilhbjlfdfpaaDoorTree12
import Derived.Test.YtoiilhbjlfdfpaaDoorCode3
import Derived.OpenShut
namespace Go.Proofs.YtoiilhbjlfdfpaaDoor
set_option linter.unusedVariables false
open Go.RowKit

set_option maxRecDepth 100000 in
set_option maxHeartbeats 16000000 in
theorem treeclimbs_any (d : List UInt8) (hd : d.length ≤ maxLen) (i n : Int) (A : Option Addr) (m c : Nat) (p : List (List UInt8)) (w : World) (hr : Rd w w.heap.size A (p.map sv)) (hn : p.length = m) (hc : m ≤ c) (hm : c ≤ maxLen) (hwf : ∀ s ∈ p, s.length ≤ maxLen) (ht : Tabs w)
    (hi : -9223372036854775808 ≤ i ∧ i ≤ 9223372036854775807) (hi' : -9223372036854775808 ≤ n ∧ n ≤ 9223372036854775807) :
    Calls Tryd.prog 4 #[sv d, .int .i64 i, .int .i64 n, .slice A m c] w (RetB true w) := by
  have hS : Ss w A m c p := ⟨hr, hn, hc, hm⟩
  have g := great6_any A m c p w hS hwf
  have hdm := hd
  rw [maxLen_eq] at hm hdm
  have HT := Lib.hid ht
  obtain ⟨hi1, hi2⟩ := hi
  obtain ⟨hi3, hi4⟩ := hi'
  have z := strLen d
  obtain ⟨q, hq⟩ : ∃ q, d.length = q := ⟨_, rfl⟩
  rw [hq] at hdm z
  cases hg : Tree.great p with
  | true =>
    rw [hg] at g
    have G := Lib.hid g
    clear g hg hS hr hwf ht
    go_enter Tryd.func4, Tryd.ntmps4
    go_wp2_with fail
    refine (G.out).mono ?_
    rintro e wz ⟨rfl, rfl⟩
    go_wp2_with fail
    refine (knows6_any w (HT.out.below (Below.refl w.heap.size w))).mono ?_
    rintro e w1 ⟨rfl, hb1⟩
    have HB1 := Lib.hid (bt (Below.refl w.heap.size w) hb1)
    clear hb1
    go_wp2
    go_ret
    exact ⟨rfl, HB1.out⟩
  | false =>
    rw [hg] at g
    have G := Lib.hid g
    have hn100 : m ≤ 100 := by rw [← hn]; exact (Tree.great_no hg).2
    have HS := Lib.hid hS
    have HW := Lib.hid hwf
    clear g hg hr hwf ht
    by_cases hbig : 1000 < q
    · clear hS
      go_enter Tryd.func4, Tryd.ntmps4
      go_wp2_with fail
      refine (G.out).mono ?_
      rintro e wz ⟨rfl, rfl⟩
      go_wp2_with fail
      refine (knows6_any w (HT.out.below (Below.refl w.heap.size w))).mono ?_
      rintro e w1 ⟨rfl, hb1⟩
      have HB1 := Lib.hid (bt (Below.refl w.heap.size w) hb1)
      clear hb1
      go_wp2
      go_ret
      exact ⟨rfl, HB1.out⟩
    · by_cases hbad : ¬ d.length = 32 ∨ n < 1 ∨ 1099511627776 < n ∨ i < 0 ∨ n ≤ i
      · have CA := Lib.hid (show Calls Tryd.prog 21 #[sv d, .int .i64 i, .int .i64 n, .slice A m c] w (fun e w' => e = .returned (.tuple #[.string { data := #[] }, .int .i64 1]) ∧ w = w') from climb_arg d i n A m c w hd hi1 hi2 hi3 hi4 hbad)
        rw [hq] at hbad
        clear hS hq hn
        by_cases a1 : q = 32
        · subst a1
          by_cases a2 : n < 1
          · clear hbad
            go_enter Tryd.func4, Tryd.ntmps4
            go_wp2_with fail
            refine (G.out).mono ?_
            rintro e wz ⟨rfl, rfl⟩
            go_wp2_with fail
            refine (CA.out).mono ?_
            rintro e wz ⟨rfl, rfl⟩
            go_wp2_with fail
            refine (knows6_any w (HT.out.below (Below.refl w.heap.size w))).mono ?_
            rintro e w1 ⟨rfl, hb1⟩
            have HB1 := Lib.hid (bt (Below.refl w.heap.size w) hb1)
            clear hb1
            go_wp2
            go_ret
            exact ⟨rfl, HB1.out⟩
          · by_cases a3 : 1099511627776 < n
            · clear hbad
              go_enter Tryd.func4, Tryd.ntmps4
              go_wp2_with fail
              refine (G.out).mono ?_
              rintro e wz ⟨rfl, rfl⟩
              go_wp2_with fail
              refine (CA.out).mono ?_
              rintro e wz ⟨rfl, rfl⟩
              go_wp2_with fail
              refine (knows6_any w (HT.out.below (Below.refl w.heap.size w))).mono ?_
              rintro e w1 ⟨rfl, hb1⟩
              have HB1 := Lib.hid (bt (Below.refl w.heap.size w) hb1)
              clear hb1
              go_wp2
              go_ret
              exact ⟨rfl, HB1.out⟩
            · by_cases a4 : i < 0
              · clear hbad
                go_enter Tryd.func4, Tryd.ntmps4
                go_wp2_with fail
                refine (G.out).mono ?_
                rintro e wz ⟨rfl, rfl⟩
                go_wp2_with fail
                refine (CA.out).mono ?_
                rintro e wz ⟨rfl, rfl⟩
                go_wp2_with fail
                refine (knows6_any w (HT.out.below (Below.refl w.heap.size w))).mono ?_
                rintro e w1 ⟨rfl, hb1⟩
                have HB1 := Lib.hid (bt (Below.refl w.heap.size w) hb1)
                clear hb1
                go_wp2
                go_ret
                exact ⟨rfl, HB1.out⟩
              · have a5 : n ≤ i := by omega
                clear hbad
                go_enter Tryd.func4, Tryd.ntmps4
                go_wp2_with fail
                refine (G.out).mono ?_
                rintro e wz ⟨rfl, rfl⟩
                go_wp2_with fail
                refine (CA.out).mono ?_
                rintro e wz ⟨rfl, rfl⟩
                go_wp2_with fail
                refine (knows6_any w (HT.out.below (Below.refl w.heap.size w))).mono ?_
                rintro e w1 ⟨rfl, hb1⟩
                have HB1 := Lib.hid (bt (Below.refl w.heap.size w) hb1)
                clear hb1
                go_wp2
                go_ret
                exact ⟨rfl, HB1.out⟩
        · have b1 : ¬ (q : Int) = 32 := by omega
          have b2 : ((q : Int) == 32) = false := beq_eq_false_iff_ne.2 b1
          clear hbad
          go_enter Tryd.func4, Tryd.ntmps4
          go_wp2_with fail
          refine (G.out).mono ?_
          rintro e wz ⟨rfl, rfl⟩
          go_wp2_with fail
          refine (CA.out).mono ?_
          rintro e wz ⟨rfl, rfl⟩
          go_wp2_with fail
          refine (knows6_any w (HT.out.below (Below.refl w.heap.size w))).mono ?_
          rintro e w1 ⟨rfl, hb1⟩
          have HB1 := Lib.hid (bt (Below.refl w.heap.size w) hb1)
          clear hb1
          go_wp2
          go_ret
          exact ⟨rfl, HB1.out⟩
      · have hd32 : d.length = 32 := Decidable.byContradiction fun h => hbad (.inl h)
        have b2 : ¬ n < 1 := fun h => hbad (.inr (.inl h))
        have b3 : ¬ 1099511627776 < n := fun h => hbad (.inr (.inr (.inl h)))
        have b4 : ¬ i < 0 := fun h => hbad (.inr (.inr (.inr (.inl h))))
        have b5 : ¬ n ≤ i := fun h => hbad (.inr (.inr (.inr (.inr h))))
        obtain ⟨j, rfl⟩ : ∃ j : Nat, i = (j : Int) := ⟨i.toNat, by omega⟩
        obtain ⟨n', rfl⟩ : ∃ j : Nat, n = (j : Int) := ⟨n.toNat, by omega⟩
        obtain rfl : q = 32 := by omega
        have hjn : j < n' := by omega
        have hn40 : n' ≤ 1099511627776 := by omega
        have hlog := Tree.sides_log 40 j n' (by rw [show (2 : Nat) ^ 40 = 1099511627776 by decide]; exact hn40) hjn
        obtain ⟨t, hst⟩ : ∃ t, (Tree.sides j n').length = t := ⟨_, rfl⟩
        rw [hst] at hlog
        have ST := Lib.hid (fun W => rsteps_any n' j n' W (Nat.le_refl _) hjn hn40)
        rw [hst] at ST
        clear hbad
        by_cases hmt : m = t
        · cases ha : Tree.all32 p with
          | true =>
            have h32 := Tree.all32_iff.1 ha
            obtain ⟨Y, hY⟩ : ∃ Y, tclimb d j n' p = Y := ⟨_, rfl⟩
            have cy := climb_yes d j n' A m c p w hd32 hjn hn40 hS h32 HT.out (by omega)
            rw [hY] at cy
            have CY := Lib.hid cy
            have RC := Lib.hid (show ∀ W, Below w.heap.size w W → Calls Tryd.prog 23 #[sv d, .int .i64 (j : Int), .int .i64 (n' : Int), .slice A m c] W (StrPost Y W) from fun W hW => by
              have h := rclimb_any n' d j n' A c p W (Nat.le_refl _) (by omega) hjn hn40 h32 (by omega) (by rw [hn]; exact hS.keep hW)
              rw [hn, hY] at h
              exact h)
            have HA := Lib.hid ha
            have qs : ((str Y).toList == (str Y).toList) = true := by simp
            obtain rfl : t = m := hmt.symm
            clear ha h32 hY cy hS hq hn hd32 hst hmt
            go_enter Tryd.func4, Tryd.ntmps4
            go_wp2_with fail
            refine (G.out).mono ?_
            rintro e wz ⟨rfl, rfl⟩
            go_wp2_with fail
            refine (CY.out).mono ?_
            rintro e w1 ⟨rfl, hb1⟩
            have HB1 := Lib.hid (bt (Below.refl w.heap.size w) hb1)
            clear hb1
            go_wp2_with fail
            refine (ST.out w1).mono ?_
            rintro e wz ⟨rfl, rfl⟩
            go_wp2_with fail
            refine (right6_any A t c p w1 (HS.out.keep HB1.out) HW.out).mono ?_
            rintro e wz ⟨rfl, rfl⟩
            rw [HA.out]
            go_wp2_with fail
            refine (RC.out w1 HB1.out).mono ?_
            rintro e w2 ⟨rfl, hb2⟩
            have HB2 := Lib.hid (bt HB1.out hb2)
            clear hb2
            go_wp2_with fail
            refine (knows6_any w2 (HT.out.below HB2.out)).mono ?_
            rintro e w3 ⟨rfl, hb3⟩
            have HB3 := Lib.hid (bt HB2.out hb3)
            clear hb3
            go_wp2
            go_ret
            exact ⟨rfl, HB3.out⟩
          | false =>
            have CP := Lib.hid (show Calls Tryd.prog 21 #[sv d, .int .i64 (j : Int), .int .i64 (n' : Int), .slice A m c] w (fun e w' => e = .returned (.tuple #[.string { data := #[] }, .int .i64 6]) ∧ Below w.heap.size w w') from climb_proof d j n' A m c p w hd32 hjn hn40 hS HW.out (.inr ha))
            have HA := Lib.hid ha
            obtain rfl : t = m := hmt.symm
            clear ha hS hq hn hd32 hst hmt
            go_enter Tryd.func4, Tryd.ntmps4
            go_wp2_with fail
            refine (G.out).mono ?_
            rintro e wz ⟨rfl, rfl⟩
            go_wp2_with fail
            refine (CP.out).mono ?_
            rintro e w1 ⟨rfl, hb1⟩
            have HB1 := Lib.hid (bt (Below.refl w.heap.size w) hb1)
            clear hb1
            go_wp2_with fail
            refine (ST.out w1).mono ?_
            rintro e wz ⟨rfl, rfl⟩
            go_wp2_with fail
            refine (right6_any A t c p w1 (HS.out.keep HB1.out) HW.out).mono ?_
            rintro e wz ⟨rfl, rfl⟩
            rw [HA.out]
            go_wp2_with fail
            refine (knows6_any w1 (HT.out.below HB1.out)).mono ?_
            rintro e w2 ⟨rfl, hb2⟩
            have HB2 := Lib.hid (bt HB1.out hb2)
            clear hb2
            go_wp2
            go_ret
            exact ⟨rfl, HB2.out⟩
        · have CP := Lib.hid (show Calls Tryd.prog 21 #[sv d, .int .i64 (j : Int), .int .i64 (n' : Int), .slice A m c] w (fun e w' => e = .returned (.tuple #[.string { data := #[] }, .int .i64 6]) ∧ Below w.heap.size w w') from climb_proof d j n' A m c p w hd32 hjn hn40 hS HW.out (.inl (by rw [hst]; exact hmt)))
          have b1 : ((m : Int) == (t : Int)) = false := beq_eq_false_iff_ne.2 (by omega)
          have b6 : ¬ (m : Int) = (t : Int) := by omega
          clear hS hq hn hd32 hst
          go_enter Tryd.func4, Tryd.ntmps4
          go_wp2_with fail
          refine (G.out).mono ?_
          rintro e wz ⟨rfl, rfl⟩
          go_wp2_with fail
          refine (CP.out).mono ?_
          rintro e w1 ⟨rfl, hb1⟩
          have HB1 := Lib.hid (bt (Below.refl w.heap.size w) hb1)
          clear hb1
          go_wp2_with fail
          refine (ST.out w1).mono ?_
          rintro e wz ⟨rfl, rfl⟩
          go_wp2_with fail
          refine (knows6_any w1 (HT.out.below HB1.out)).mono ?_
          rintro e w2 ⟨rfl, hb2⟩
          have HB2 := Lib.hid (bt HB1.out hb2)
          clear hb2
          go_wp2
          go_ret
          exact ⟨rfl, HB2.out⟩
end Go.Proofs.YtoiilhbjlfdfpaaDoor
