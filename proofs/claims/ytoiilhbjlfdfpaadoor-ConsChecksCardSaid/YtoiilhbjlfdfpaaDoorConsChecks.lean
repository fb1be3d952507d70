/- ConsChecks: the walk of the law. -/
import Derived.Test.YtoiilhbjlfdfpaaDoorMConsB
import Derived.OpenShut
namespace Go.Proofs.YtoiilhbjlfdfpaaDoor
set_option linter.unusedVariables false
open Go.RowKit

set_option maxRecDepth 100000 in
set_option maxHeartbeats 16000000 in
theorem conschecks_any (m n : Int) (one : List UInt8) (ho : one.length ≤ maxLen) (two : List UInt8) (ho2 : two.length ≤ maxLen) (A : Option Addr) (k c : Nat) (p : List (List UInt8)) (w : World) (hr : Rd w w.heap.size A (p.map sv)) (hn : p.length = k) (hc : k ≤ c) (hm : c ≤ maxLen) (hwf : ∀ s ∈ p, s.length ≤ maxLen) (ht : Tabs w)
    (hi : -9223372036854775808 ≤ m ∧ m ≤ 9223372036854775807) (hi' : -9223372036854775808 ≤ n ∧ n ≤ 9223372036854775807) :
    Calls Tryd.prog 11 #[.int .i64 m, .int .i64 n, sv one, sv two, .slice A k c] w (RetB true w) := by
  have hS : Ss w A k c p := ⟨hr, hn, hc, hm⟩
  have g := great6_any A k c p w hS hwf
  rw [maxLen_eq] at hm ho ho2
  have HT := Lib.hid ht
  obtain ⟨hi1, hi2⟩ := hi
  obtain ⟨hi3, hi4⟩ := hi'
  have z1 := strLen one
  have z2 := strLen two
  obtain ⟨q1, hq1⟩ : ∃ q, one.length = q := ⟨_, rfl⟩
  obtain ⟨q2, hq2⟩ : ∃ q, two.length = q := ⟨_, rfl⟩
  rw [hq1] at z1 ho
  rw [hq2] at z2 ho2
  cases hg : Tree.great p with
  | true =>
    rw [hg] at g
    have G := Lib.hid g
    clear g hg hS hr hwf ht hq1 hq2
    go_enter Tryd.func11, Tryd.ntmps11
    go_wp2_with fail
    refine (G.out).mono ?_
    rintro e wz ⟨rfl, rfl⟩
    go_wp2_with fail
    refine (knows7_any w (HT.out.below (Below.refl w.heap.size w))).mono ?_
    rintro e w1 ⟨rfl, hb1⟩
    have HB1 := Lib.hid (bt (Below.refl w.heap.size w) hb1)
    clear hb1
    go_wp2
    go_ret
    exact ⟨rfl, HB1.out⟩
  | false =>
    rw [hg] at g
    have G := Lib.hid g
    have hn100 : k ≤ 100 := by rw [← hn]; exact (Tree.great_no hg).2
    have HS := Lib.hid hS
    have HW := Lib.hid hwf
    clear g hg hr hn hwf ht
    by_cases hb1 : 1000 < q1
    · clear hS hq1 hq2
      go_enter Tryd.func11, Tryd.ntmps11
      go_wp2_with fail
      refine (G.out).mono ?_
      rintro e wz ⟨rfl, rfl⟩
      go_wp2_with fail
      refine (knows7_any w (HT.out.below (Below.refl w.heap.size w))).mono ?_
      rintro e w1 ⟨rfl, hb1⟩
      have HB1 := Lib.hid (bt (Below.refl w.heap.size w) hb1)
      clear hb1
      go_wp2
      go_ret
      exact ⟨rfl, HB1.out⟩
    by_cases hb2 : 1000 < q2
    · clear hS hq1 hq2
      go_enter Tryd.func11, Tryd.ntmps11
      go_wp2_with fail
      refine (G.out).mono ?_
      rintro e wz ⟨rfl, rfl⟩
      go_wp2_with fail
      refine (knows7_any w (HT.out.below (Below.refl w.heap.size w))).mono ?_
      rintro e w1 ⟨rfl, hb1⟩
      have HB1 := Lib.hid (bt (Below.refl w.heap.size w) hb1)
      clear hb1
      go_wp2
      go_ret
      exact ⟨rfl, HB1.out⟩
    by_cases hbad : m < 0 ∨ n < m ∨ 1099511627776 < n ∨ ¬ one.length = 32 ∨ ¬ two.length = 32
    · have CA := Lib.hid (ccheck_arg m n one two A k c w (by omega) (by omega) hi1 hi2 hi3 hi4 hbad)
      have FN := Lib.hid (fun W => fair_no m n one two W (by omega) (by omega) hi1 hi2 hi3 hi4 hbad)
      clear hbad hS hq1 hq2
      go_enter Tryd.func11, Tryd.ntmps11
      go_wp2_with fail
      refine (G.out).mono ?_
      rintro e wz ⟨rfl, rfl⟩
      go_wp2_with fail
      refine (CA.out).mono ?_
      rintro e w1 ⟨rfl, hb1⟩
      have HB1 := Lib.hid (bt (Below.refl w.heap.size w) hb1)
      clear hb1
      go_wp2_with fail
      refine (FN.out w1).mono ?_
      rintro e w2 ⟨rfl, hb2⟩
      have HB2 := Lib.hid (bt HB1.out hb2)
      clear hb2
      go_wp2_with fail
      refine (knows7_any w2 (HT.out.below HB2.out)).mono ?_
      rintro e w3 ⟨rfl, hb3⟩
      have HB3 := Lib.hid (bt HB2.out hb3)
      clear hb3
      go_wp2
      go_ret
      exact ⟨rfl, HB3.out⟩
    · have g1 : ¬ m < 0 := fun h => hbad (.inl h)
      have g2 : ¬ n < m := fun h => hbad (.inr (.inl h))
      have g3 : ¬ 1099511627776 < n := fun h => hbad (.inr (.inr (.inl h)))
      have h1 : one.length = 32 := Decidable.byContradiction fun h => hbad (.inr (.inr (.inr (.inl h))))
      have h2 : two.length = 32 := Decidable.byContradiction fun h => hbad (.inr (.inr (.inr (.inr h))))
      obtain ⟨i, rfl⟩ : ∃ j : Nat, m = (j : Int) := ⟨m.toNat, by omega⟩
      obtain ⟨j, rfl⟩ : ∃ j : Nat, n = (j : Int) := ⟨n.toNat, by omega⟩
      have hij : i ≤ j := by omega
      have hj40 : j ≤ 1099511627776 := by omega
      have FY := Lib.hid (fun W => fair_yes i j one two W hij hj40 h1 h2)
      clear hbad
      cases ha : Tree.all32 p with
      | false =>
        have CC := Lib.hid (ccheck_proof i j one two A k c p w hS HW.out hij hj40 h1 h2 ha)
        have rc := fun (W : World) (hW : Below w.heap.size w W) => rcheck_any i j one two A k c p W (HS.out.keep hW) HW.out hij hj40 h1
        rw [ha, Bool.false_and] at rc
        have RC := Lib.hid rc
        clear rc ha hS h1 h2 hq1 hq2
        go_enter Tryd.func11, Tryd.ntmps11
        go_wp2_with fail
        refine (G.out).mono ?_
        rintro e wz ⟨rfl, rfl⟩
        go_wp2_with fail
        refine (CC.out).mono ?_
        rintro e w1 ⟨rfl, hb1⟩
        have HB1 := Lib.hid (bt (Below.refl w.heap.size w) hb1)
        clear hb1
        go_wp2_with fail
        refine (FY.out w1).mono ?_
        rintro e w2 ⟨rfl, hb2⟩
        have HB2 := Lib.hid (bt HB1.out hb2)
        clear hb2
        go_wp2_with fail
        refine (RC.out w2 HB2.out).mono ?_
        rintro e w3 ⟨rfl, hb3⟩
        have HB3 := Lib.hid (bt HB2.out hb3)
        clear hb3
        go_wp2_with fail
        refine (knows7_any w3 (HT.out.below HB3.out)).mono ?_
        rintro e w4 ⟨rfl, hb4⟩
        have HB4 := Lib.hid (bt HB3.out hb4)
        clear hb4
        go_wp2
        go_ret
        exact ⟨rfl, HB4.out⟩
      | true =>
        have rc := fun (W : World) (hW : Below w.heap.size w W) => rcheck_any i j one two A k c p W (HS.out.keep hW) HW.out hij hj40 h1
        rw [ha, Bool.true_and] at rc
        cases hv : tcheck i j one two p with
        | false =>
          have CC := Lib.hid (ccheck_all i j one two A k c p w hS (Tree.all32_iff.1 ha) hij hj40 (by omega) h1 h2 HT.out false hv 6 rfl)
          rw [hv] at rc
          have RC := Lib.hid rc
          clear rc ha hS h1 h2 hq1 hq2 hv
          go_enter Tryd.func11, Tryd.ntmps11
          go_wp2_with fail
          refine (G.out).mono ?_
          rintro e wz ⟨rfl, rfl⟩
          go_wp2_with fail
          refine (CC.out).mono ?_
          rintro e w1 ⟨rfl, hb1⟩
          have HB1 := Lib.hid (bt (Below.refl w.heap.size w) hb1)
          clear hb1
          go_wp2_with fail
          refine (FY.out w1).mono ?_
          rintro e w2 ⟨rfl, hb2⟩
          have HB2 := Lib.hid (bt HB1.out hb2)
          clear hb2
          go_wp2_with fail
          refine (RC.out w2 HB2.out).mono ?_
          rintro e w3 ⟨rfl, hb3⟩
          have HB3 := Lib.hid (bt HB2.out hb3)
          clear hb3
          go_wp2_with fail
          refine (knows7_any w3 (HT.out.below HB3.out)).mono ?_
          rintro e w4 ⟨rfl, hb4⟩
          have HB4 := Lib.hid (bt HB3.out hb4)
          clear hb4
          go_wp2
          go_ret
          exact ⟨rfl, HB4.out⟩
        | true =>
          have CC := Lib.hid (ccheck_all i j one two A k c p w hS (Tree.all32_iff.1 ha) hij hj40 (by omega) h1 h2 HT.out true hv 0 rfl)
          rw [hv] at rc
          have RC := Lib.hid rc
          clear rc ha hS h1 h2 hq1 hq2 hv
          go_enter Tryd.func11, Tryd.ntmps11
          go_wp2_with fail
          refine (G.out).mono ?_
          rintro e wz ⟨rfl, rfl⟩
          go_wp2_with fail
          refine (CC.out).mono ?_
          rintro e w1 ⟨rfl, hb1⟩
          have HB1 := Lib.hid (bt (Below.refl w.heap.size w) hb1)
          clear hb1
          go_wp2_with fail
          refine (FY.out w1).mono ?_
          rintro e w2 ⟨rfl, hb2⟩
          have HB2 := Lib.hid (bt HB1.out hb2)
          clear hb2
          go_wp2_with fail
          refine (RC.out w2 HB2.out).mono ?_
          rintro e w3 ⟨rfl, hb3⟩
          have HB3 := Lib.hid (bt HB2.out hb3)
          clear hb3
          go_wp2_with fail
          refine (knows7_any w3 (HT.out.below HB3.out)).mono ?_
          rintro e w4 ⟨rfl, hb4⟩
          have HB4 := Lib.hid (bt HB3.out hb4)
          clear hb4
          go_wp2
          go_ret
          exact ⟨rfl, HB4.out⟩
end Go.Proofs.YtoiilhbjlfdfpaaDoor
