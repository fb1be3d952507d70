/- ConsProves: the walk of the law. -/
import Derived.Test.YtoiilhbjlfdfpaaDoorMConsB
import Derived.Test.YtoiilhbjlfdfpaaDoorMCode
import Derived.OpenShut
namespace Go.Proofs.YtoiilhbjlfdfpaaDoor
set_option linter.unusedVariables false
open Go.RowKit

theorem csame_self (A : Option Addr) (n c : Nat) (X : List (List UInt8)) (B : Option Addr) (m k : Nat) (w : World) (ha : Ss w A n c X) (hb : Ss w B m k X) : Calls Tryd.prog 19 #[.slice A n c, .slice B m k] w (RetB true w) := by
  have h := rsame_any A n c X B m k X w ha hb
  rw [decide_eq_true (rfl : X = X)] at h
  exact h
set_option maxRecDepth 100000 in
set_option maxHeartbeats 16000000 in
theorem consproves_any (A : Option Addr) (n c : Nat) (l : List (List UInt8)) (m : Int) (w : World) (hr : Rd w w.heap.size A (l.map sv)) (hn : l.length = n) (hc : n ≤ c) (hm : c ≤ maxLen) (hwf : ∀ s ∈ l, s.length ≤ maxLen) (ht : Tabs w) (hi : -9223372036854775808 ≤ m ∧ m ≤ 9223372036854775807) :
    Calls Tryd.prog 10 #[.slice A n c, .int .i64 m] w (RetB true w) := by
  have hS : Ss w A n c l := ⟨hr, hn, hc, hm⟩
  have g := great6_any A n c l w hS hwf
  rw [maxLen_eq] at hm
  have HT := Lib.hid ht
  obtain ⟨hi1, hi2⟩ := hi
  cases hg : Tree.great l with
  | true =>
    rw [hg] at g
    have G := Lib.hid g
    clear g hg hS hr hwf ht
    go_enter Tryd.func10, Tryd.ntmps10
    go_wp2_with fail
    refine (G.out).mono ?_
    rintro e wz ⟨rfl, rfl⟩
    go_wp2_with fail
    refine (knows7_any w (HT.out.below (Below.refl w.heap.size w))).mono ?_
    rintro e w1 ⟨rfl, hb1⟩
    have HB1 := Lib.hid (bt (Below.refl w.heap.size w) hb1)
    clear hb1
    go_wp2
    go_ret
    exact ⟨rfl, HB1.out⟩
  | false =>
    rw [hg] at g
    have G := Lib.hid g
    have hn100 : n ≤ 100 := by rw [← hn]; exact (Tree.great_no hg).2
    have HS := Lib.hid hS
    have HW := Lib.hid hwf
    clear g hg hr hn hwf ht
    by_cases hbad : Tree.all32 l = false ∨ m < 0 ∨ (n : Int) < m
    · have PN := Lib.hid (cprove_no A n c l m w hS HW.out (by omega) HT.out hi1 hi2 hbad)
      clear hS
      cases ha : Tree.all32 l with
      | false =>
        have HA := Lib.hid ha
        clear ha hbad
        go_enter Tryd.func10, Tryd.ntmps10
        go_wp2_with fail
        refine (G.out).mono ?_
        rintro e wz ⟨rfl, rfl⟩
        go_wp2_with fail
        refine (PN.out).mono ?_
        rintro e w1 ⟨rfl, hb1⟩
        have HB1 := Lib.hid (bt (Below.refl w.heap.size w) hb1)
        clear hb1
        go_wp2_with fail
        refine (right6_any A n c l w1 (HS.out.keep HB1.out) HW.out).mono ?_
        rintro e wz ⟨rfl, rfl⟩
        rw [HA.out]
        go_wp2_with fail
        refine (knows7_any w1 (HT.out.below HB1.out)).mono ?_
        rintro e w2 ⟨rfl, hb2⟩
        have HB2 := Lib.hid (bt HB1.out hb2)
        clear hb2
        go_wp2
        go_ret
        exact ⟨rfl, HB2.out⟩
      | true =>
        have HA := Lib.hid ha
        rw [ha] at hbad
        clear ha
        by_cases h0 : m < 0
        · clear hbad
          go_enter Tryd.func10, Tryd.ntmps10
          go_wp2_with fail
          refine (G.out).mono ?_
          rintro e wz ⟨rfl, rfl⟩
          go_wp2_with fail
          refine (PN.out).mono ?_
          rintro e w1 ⟨rfl, hb1⟩
          have HB1 := Lib.hid (bt (Below.refl w.heap.size w) hb1)
          clear hb1
          go_wp2_with fail
          refine (right6_any A n c l w1 (HS.out.keep HB1.out) HW.out).mono ?_
          rintro e wz ⟨rfl, rfl⟩
          rw [HA.out]
          go_wp2_with fail
          refine (knows7_any w1 (HT.out.below HB1.out)).mono ?_
          rintro e w2 ⟨rfl, hb2⟩
          have HB2 := Lib.hid (bt HB1.out hb2)
          clear hb2
          go_wp2
          go_ret
          exact ⟨rfl, HB2.out⟩
        · have h3 : (n : Int) < m := by
            rcases hbad with h | h | h
            · cases h
            · exact absurd h h0
            · exact h
          clear hbad
          go_enter Tryd.func10, Tryd.ntmps10
          go_wp2_with fail
          refine (G.out).mono ?_
          rintro e wz ⟨rfl, rfl⟩
          go_wp2_with fail
          refine (PN.out).mono ?_
          rintro e w1 ⟨rfl, hb1⟩
          have HB1 := Lib.hid (bt (Below.refl w.heap.size w) hb1)
          clear hb1
          go_wp2_with fail
          refine (right6_any A n c l w1 (HS.out.keep HB1.out) HW.out).mono ?_
          rintro e wz ⟨rfl, rfl⟩
          rw [HA.out]
          go_wp2_with fail
          refine (knows7_any w1 (HT.out.below HB1.out)).mono ?_
          rintro e w2 ⟨rfl, hb2⟩
          have HB2 := Lib.hid (bt HB1.out hb2)
          clear hb2
          go_wp2
          go_ret
          exact ⟨rfl, HB2.out⟩
    · have ha : Tree.all32 l = true := by
        cases h : Tree.all32 l with
        | true => rfl
        | false => exact absurd (.inl h) hbad
      have h0 : ¬ m < 0 := fun h => hbad (.inr (.inl h))
      have h1 : ¬ (n : Int) < m := fun h => hbad (.inr (.inr h))
      have h32 := Tree.all32_iff.1 ha
      have HA := Lib.hid ha
      obtain ⟨j, rfl⟩ : ∃ j : Nat, m = (j : Int) := ⟨m.toNat, by omega⟩
      have hj : j ≤ n := by omega
      obtain ⟨X, hX⟩ : ∃ X, tprove l j = X := ⟨_, rfl⟩
      have py := cprove_any A n c l j w hS h32 (by omega) hj HT.out
      rw [hX] at py
      unfold PathPost at py
      have PY := Lib.hid py
      have RP := Lib.hid (show ∀ W, Below w.heap.size w W → Calls Tryd.prog 36 #[.slice A n c, .int .i64 (j : Int)] W (OwnSPost W.heap.size X W) from fun W hW => by rw [← hX]; exact rprove_any A n c l j W (HS.out.keep hW) (Tree.all32_iff.1 HA.out) (by omega) hj (HT.out.below hW))
      unfold OwnSPost at RP
      clear hbad ha h32 hX py hS
      go_enter Tryd.func10, Tryd.ntmps10
      go_wp2_with fail
      refine (G.out).mono ?_
      rintro e wz ⟨rfl, rfl⟩
      go_wp2_with fail
      refine (PY.out).mono ?_
      rintro e w1 ⟨AX, nX, cX, rfl, ho1, hb1⟩
      have HB1 := Lib.hid (bt (Below.refl w.heap.size w) hb1)
      have hcapX := ho1.cap
      have hmaxX := ho1.max
      rw [maxLen_eq] at hmaxX
      have HX := Lib.hid ho1
      clear hb1 ho1
      go_wp2_with fail
      refine (right6_any A n c l w1 (HS.out.keep HB1.out) HW.out).mono ?_
      rintro e wz ⟨rfl, rfl⟩
      rw [HA.out]
      go_wp2_with fail
      refine (RP.out w1 HB1.out).mono ?_
      rintro e w2 ⟨AY, nY, cY, rfl, ho2, hb2⟩
      replace HX := Lib.hid (HX.out.keep hb2)
      have HB2 := Lib.hid (bt HB1.out hb2)
      have hcapY := ho2.cap
      have hmaxY := ho2.max
      rw [maxLen_eq] at hmaxY
      have HY := Lib.hid ho2
      clear hb2 ho2
      go_wp2_with fail
      refine (csame_self AX nX cX X AY nY cY w2 HX.out.ss HY.out.ss).mono ?_
      rintro e w3 ⟨rfl, hb3⟩
      replace HX := Lib.hid (HX.out.keep hb3)
      replace HY := Lib.hid (HY.out.keep hb3)
      have HB3 := Lib.hid (bt HB2.out hb3)
      clear hb3
      go_wp2_with fail
      refine (knows7_any w3 (HT.out.below HB3.out)).mono ?_
      rintro e w4 ⟨rfl, hb4⟩
      replace HX := Lib.hid (HX.out.keep hb4)
      replace HY := Lib.hid (HY.out.keep hb4)
      have HB4 := Lib.hid (bt HB3.out hb4)
      clear hb4
      go_wp2
      go_ret
      exact ⟨rfl, HB4.out⟩
end Go.Proofs.YtoiilhbjlfdfpaaDoor
