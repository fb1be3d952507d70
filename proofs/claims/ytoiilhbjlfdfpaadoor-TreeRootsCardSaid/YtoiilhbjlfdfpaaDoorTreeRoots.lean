/- TreeRoots: the walk of the law. -/
import Derived.Test.YtoiilhbjlfdfpaaDoorTree12
import Derived.OpenShut
namespace Go.Proofs.YtoiilhbjlfdfpaaDoor
set_option linter.unusedVariables false
open Go.RowKit

section
variable {ops : Array Oper} {rest : List Oper} {o : Oper} {a : Act} {Q : Exit → Act → World → Prop} {w : World} {A : Option Addr} {n c : Nat} {l : List (List UInt8)}
/-- x[i:j], guarded by what holds. -/
theorem wl_cutS_lhg (hw : Region.wanted o (yielded ops a.tmps) = true) (x lo hi : Operand) (ho : o.op = .slice 22 x (some lo) (some hi) none) (hx : a.eval x = .slice A n c) (h1 : Ss w A n c l) (i j : Nat) (hlo : a.eval lo = .int .i64 (i : Int)) (hhi : a.eval hi = .int .i64 (j : Int)) (hi' : i ≤ j) (hj : j ≤ n)
    (h : ∀ A', Ss w A' (j - i) (c - i) ((l.take j).drop i) → wpList Tryd.prog ops Q rest (a.put o.dst (.slice A' (j - i) (c - i))) w) : wpList Tryd.prog ops Q (o :: rest) a w := by
  obtain ⟨A', hr, hs⟩ := run_cutS_lh h1 i j hi' hj
  refine wl_of hw fun _ hK => ?_
  unfold Oper.wp execOp
  simp only [ho, Sem.run_bind, Sem.run_pure, Option.map_none, Option.map_some, hx, hlo, hhi, hr, Result.andThen_ok]
  exact hK _ _ (h A' hs)
end
set_option maxRecDepth 100000 in
set_option maxHeartbeats 16000000 in
theorem treeroots_any (A : Option Addr) (n c : Nat) (l : List (List UInt8)) (i0 j0 x : Int) (w : World) (hr : Rd w w.heap.size A (l.map sv)) (hn : l.length = n) (hc : n ≤ c) (hm : c ≤ maxLen) (hwf : ∀ s ∈ l, s.length ≤ maxLen) (ht : Tabs w)
    (hi : -9223372036854775808 ≤ i0 ∧ i0 ≤ 9223372036854775807) (hj : -9223372036854775808 ≤ j0 ∧ j0 ≤ 9223372036854775807) (hx : -9223372036854775808 ≤ x ∧ x ≤ 9223372036854775807) :
    Calls Tryd.prog 6 #[.slice A n c, .int .i64 i0, .int .i64 j0, .int .i64 x] w (RetB true w) := by
  have hS : Ss w A n c l := ⟨hr, hn, hc, hm⟩
  have g := great6_any A n c l w hS hwf
  have HMX := Lib.hid hm
  rw [maxLen_eq] at hm
  have HT := Lib.hid ht
  obtain ⟨hi1, hi2⟩ := hi
  obtain ⟨hj1, hj2⟩ := hj
  obtain ⟨hx1, hx2⟩ := hx
  cases hg : Tree.great l with
  | true =>
    rw [hg] at g
    have G := Lib.hid g
    clear g hg hS hr hwf ht
    go_enter Tryd.func6, Tryd.ntmps6
    go_wp2_with fail
    refine (G.out).mono ?_
    rintro e wz ⟨rfl, rfl⟩
    go_wp2_with fail
    refine (knows6_any w (HT.out.below (Below.refl w.heap.size w))).mono ?_
    rintro e w1 ⟨rfl, hb1⟩
    have HB1 := Lib.hid (bt (Below.refl w.heap.size w) hb1)
    clear hb1
    go_wp2
    go_ret
    exact ⟨rfl, HB1.out⟩
  | false =>
    rw [hg] at g
    have G := Lib.hid g
    have hn100 : n ≤ 100 := by rw [← hn]; exact (Tree.great_no hg).2
    have HS := Lib.hid hS
    have HW := Lib.hid hwf
    clear g hg hr hn hwf ht
    cases ha : Tree.all32 l with
    | true =>
      have h32 := Tree.all32_iff.1 ha
      have HA := Lib.hid ha
      obtain ⟨R, hR⟩ : ∃ R, troot l = R := ⟨_, rfl⟩
      have rt := Root_any A n c l w hS h32 (by omega) HT.out
      rw [hR] at rt
      have RT := Lib.hid rt
      have RR := Lib.hid (show ∀ W, Below w.heap.size w W → Calls Tryd.prog 29 #[.slice A n c] W (StrPost R W) from fun W hW => by rw [← hR]; exact rroot_any n A n c l W (Nat.le_refl _) (HS.out.keep hW) (Tree.all32_iff.1 HA.out) (by omega))
      have qs : ((str R).toList == (str R).toList) = true := by simp
      clear ha h32 hR rt hS
      by_cases hno : i0 < 0 ∨ j0 < i0 ∨ (n : Int) < j0
      · have RG := Lib.hid (show ∀ W, Calls Tryd.prog 26 #[.slice A n c, .int .i64 i0, .int .i64 j0] W fun e w' => e = .returned (.tuple #[.string { data := #[] }, .int .i64 1]) ∧ W = w' from fun W => range_no A n c i0 j0 W hc HMX.out hno)
        by_cases k1 : i0 < 0
        · clear hno
          go_enter Tryd.func6, Tryd.ntmps6
          go_wp2_with fail
          refine (G.out).mono ?_
          rintro e wz ⟨rfl, rfl⟩
          go_wp2_with fail
          refine (RT.out).mono ?_
          rintro e w1 ⟨rfl, hb1⟩
          have HB1 := Lib.hid (bt (Below.refl w.heap.size w) hb1)
          clear hb1
          go_wp2_with fail
          refine (RG.out w1).mono ?_
          rintro e wz ⟨rfl, rfl⟩
          go_wp2_with fail
          refine (split_any x w1 hx1 hx2).mono ?_
          rintro e wz ⟨rfl, rfl⟩
          go_wp2_with fail
          refine (rsplit_any x w1 hx1 hx2).mono ?_
          rintro e wz ⟨rfl, rfl⟩
          go_wp2_with fail
          refine (right6_any A n c l w1 (HS.out.keep HB1.out) HW.out).mono ?_
          rintro e wz ⟨rfl, rfl⟩
          rw [HA.out]
          go_wp2_with fail
          refine (RR.out w1 HB1.out).mono ?_
          rintro e w2 ⟨rfl, hb2⟩
          have HB2 := Lib.hid (bt HB1.out hb2)
          clear hb2
          go_wp2_with fail
          refine (knows6_any w2 (HT.out.below HB2.out)).mono ?_
          rintro e w3 ⟨rfl, hb3⟩
          have HB3 := Lib.hid (bt HB2.out hb3)
          clear hb3
          go_wp2
          go_ret
          exact ⟨rfl, HB3.out⟩
        · by_cases k2 : j0 < i0
          · clear hno
            go_enter Tryd.func6, Tryd.ntmps6
            go_wp2_with fail
            refine (G.out).mono ?_
            rintro e wz ⟨rfl, rfl⟩
            go_wp2_with fail
            refine (RT.out).mono ?_
            rintro e w1 ⟨rfl, hb1⟩
            have HB1 := Lib.hid (bt (Below.refl w.heap.size w) hb1)
            clear hb1
            go_wp2_with fail
            refine (RG.out w1).mono ?_
            rintro e wz ⟨rfl, rfl⟩
            go_wp2_with fail
            refine (split_any x w1 hx1 hx2).mono ?_
            rintro e wz ⟨rfl, rfl⟩
            go_wp2_with fail
            refine (rsplit_any x w1 hx1 hx2).mono ?_
            rintro e wz ⟨rfl, rfl⟩
            go_wp2_with fail
            refine (right6_any A n c l w1 (HS.out.keep HB1.out) HW.out).mono ?_
            rintro e wz ⟨rfl, rfl⟩
            rw [HA.out]
            go_wp2_with fail
            refine (RR.out w1 HB1.out).mono ?_
            rintro e w2 ⟨rfl, hb2⟩
            have HB2 := Lib.hid (bt HB1.out hb2)
            clear hb2
            go_wp2_with fail
            refine (knows6_any w2 (HT.out.below HB2.out)).mono ?_
            rintro e w3 ⟨rfl, hb3⟩
            have HB3 := Lib.hid (bt HB2.out hb3)
            clear hb3
            go_wp2
            go_ret
            exact ⟨rfl, HB3.out⟩
          · have k3 : (n : Int) < j0 := by omega
            clear hno
            go_enter Tryd.func6, Tryd.ntmps6
            go_wp2_with fail
            refine (G.out).mono ?_
            rintro e wz ⟨rfl, rfl⟩
            go_wp2_with fail
            refine (RT.out).mono ?_
            rintro e w1 ⟨rfl, hb1⟩
            have HB1 := Lib.hid (bt (Below.refl w.heap.size w) hb1)
            clear hb1
            go_wp2_with fail
            refine (RG.out w1).mono ?_
            rintro e wz ⟨rfl, rfl⟩
            go_wp2_with fail
            refine (split_any x w1 hx1 hx2).mono ?_
            rintro e wz ⟨rfl, rfl⟩
            go_wp2_with fail
            refine (rsplit_any x w1 hx1 hx2).mono ?_
            rintro e wz ⟨rfl, rfl⟩
            go_wp2_with fail
            refine (right6_any A n c l w1 (HS.out.keep HB1.out) HW.out).mono ?_
            rintro e wz ⟨rfl, rfl⟩
            rw [HA.out]
            go_wp2_with fail
            refine (RR.out w1 HB1.out).mono ?_
            rintro e w2 ⟨rfl, hb2⟩
            have HB2 := Lib.hid (bt HB1.out hb2)
            clear hb2
            go_wp2_with fail
            refine (knows6_any w2 (HT.out.below HB2.out)).mono ?_
            rintro e w3 ⟨rfl, hb3⟩
            have HB3 := Lib.hid (bt HB2.out hb3)
            clear hb3
            go_wp2
            go_ret
            exact ⟨rfl, HB3.out⟩
      · obtain ⟨i, rfl⟩ : ∃ j : Nat, i0 = (j : Int) := ⟨i0.toNat, by omega⟩
        obtain ⟨j, rfl⟩ : ∃ j : Nat, j0 = (j : Int) := ⟨j0.toNat, by omega⟩
        have hij : i ≤ j := by omega
        have hjn : j ≤ n := by omega
        have k1 : ¬ (i : Int) < 0 := by omega
        have k2 : ¬ (j : Int) < (i : Int) := by omega
        have k3 : ¬ (n : Int) < (j : Int) := by omega
        clear hno
        obtain ⟨ps, hps⟩ : ∃ ps, (l.take j).drop i = ps := ⟨_, rfl⟩
        have HPS := Lib.hid hps
        have HPW := Lib.hid (show ∀ s ∈ (l.take j).drop i, s.length ≤ maxLen from fun s hs => HW.out s (List.mem_of_mem_take (List.mem_of_mem_drop hs)))
        have rg : ∀ W, Below w.heap.size w W → Calls Tryd.prog 26 #[.slice A n c, .int .i64 (i : Int), .int .i64 (j : Int)] W (tupV (rangeV ps) W) := fun W hW => by rw [← hps]; exact range_any A n c l i j W (HS.out.keep hW) HW.out hij hjn (by omega) (HT.out.below hW)
        clear hps
        cases hpa : Tree.all32 ps with
        | true =>
          rw [rangeV_yes hpa] at rg
          have HPA := Lib.hid hpa
          obtain ⟨Q, hQ⟩ : ∃ Q, troot ps = Q := ⟨_, rfl⟩
          have HQ := Lib.hid hQ
          rw [hQ] at rg
          have RG := Lib.hid rg
          have qs2 : ((str Q).toList == (str Q).toList) = true := by simp
          have qs3 : ((str Q).toList != (str Q).toList) = false := by simp
          clear rg hpa hQ
          go_enter Tryd.func6, Tryd.ntmps6
          go_wp2_with fail
          refine (G.out).mono ?_
          rintro e wz ⟨rfl, rfl⟩
          go_wp2_with fail
          refine (RT.out).mono ?_
          rintro e w1 ⟨rfl, hb1⟩
          have HB1 := Lib.hid (bt (Below.refl w.heap.size w) hb1)
          clear hb1
          go_wp2_with fail
          refine (RG.out w1 HB1.out).mono ?_
          rintro e w2 ⟨rfl, hb2⟩
          have HB2 := Lib.hid (bt HB1.out hb2)
          clear hb2
          go_wp2_with fail
          refine (split_any x w2 hx1 hx2).mono ?_
          rintro e wz ⟨rfl, rfl⟩
          go_wp2_with fail
          refine (rsplit_any x w2 hx1 hx2).mono ?_
          rintro e wz ⟨rfl, rfl⟩
          go_wp2_with (refine wl_cutS_lhg (by simp [Region.wanted, yielded] <;> omega) (.tmp 47) (.tmp 48) (.tmp 49) rfl rfl (HS.out.keep HB2.out) i j rfl rfl (by omega) (by omega) ?_; intro A9 hsc; rw [HPS.out] at hsc)
          refine (right6_any _ (j - i) (c - i) ps w2 hsc (by rw [← HPS.out]; exact HPW.out)).mono ?_
          rintro e wz ⟨rfl, rfl⟩
          rw [HPA.out]
          go_wp2_with (refine wl_cutS_lh rfl (.tmp 61) (.tmp 62) (.tmp 63) rfl rfl (HS.out.keep HB2.out) i j rfl rfl (by omega) (by omega) ?_; intro A10 hsc2; rw [HPS.out] at hsc2)
          have rr := rroot_any _ _ (j - i) (c - i) ps w2 (Nat.le_refl _) hsc2 (Tree.all32_iff.1 HPA.out) (by omega)
          rw [HQ.out] at rr
          unfold StrPost at rr
          have RRP := Lib.hid rr
          clear rr
          refine RRP.out.mono ?_
          rintro e w3 ⟨rfl, hb3⟩
          have HB3 := Lib.hid (bt HB2.out hb3)
          clear hb3
          go_wp2_with fail
          refine (right6_any A n c l w3 (HS.out.keep HB3.out) HW.out).mono ?_
          rintro e wz ⟨rfl, rfl⟩
          rw [HA.out]
          go_wp2_with fail
          refine (RR.out w3 HB3.out).mono ?_
          rintro e w4 ⟨rfl, hb4⟩
          have HB4 := Lib.hid (bt HB3.out hb4)
          clear hb4
          go_wp2_with fail
          refine (knows6_any w4 (HT.out.below HB4.out)).mono ?_
          rintro e w5 ⟨rfl, hb5⟩
          have HB5 := Lib.hid (bt HB4.out hb5)
          clear hb5
          go_wp2
          go_ret
          exact ⟨rfl, HB5.out⟩
        | false =>
          rw [rangeV_no hpa] at rg
          have HPA := Lib.hid hpa
          have RG := Lib.hid (show ∀ W, Below w.heap.size w W → Calls Tryd.prog 26 #[.slice A n c, .int .i64 (i : Int), .int .i64 (j : Int)] W (tupV (.tuple #[.string { data := #[] }, .int .i64 1]) W) from rg)
          clear rg hpa
          go_enter Tryd.func6, Tryd.ntmps6
          go_wp2_with fail
          refine (G.out).mono ?_
          rintro e wz ⟨rfl, rfl⟩
          go_wp2_with fail
          refine (RT.out).mono ?_
          rintro e w1 ⟨rfl, hb1⟩
          have HB1 := Lib.hid (bt (Below.refl w.heap.size w) hb1)
          clear hb1
          go_wp2_with fail
          refine (RG.out w1 HB1.out).mono ?_
          rintro e w2 ⟨rfl, hb2⟩
          have HB2 := Lib.hid (bt HB1.out hb2)
          clear hb2
          go_wp2_with fail
          refine (split_any x w2 hx1 hx2).mono ?_
          rintro e wz ⟨rfl, rfl⟩
          go_wp2_with fail
          refine (rsplit_any x w2 hx1 hx2).mono ?_
          rintro e wz ⟨rfl, rfl⟩
          go_wp2_with (refine wl_cutS_lhg (by simp [Region.wanted, yielded] <;> omega) (.tmp 47) (.tmp 48) (.tmp 49) rfl rfl (HS.out.keep HB2.out) i j rfl rfl (by omega) (by omega) ?_; intro A9 hsc; rw [HPS.out] at hsc)
          refine (right6_any _ (j - i) (c - i) ps w2 hsc (by rw [← HPS.out]; exact HPW.out)).mono ?_
          rintro e wz ⟨rfl, rfl⟩
          rw [HPA.out]
          go_wp2_with fail
          refine (right6_any A n c l w2 (HS.out.keep HB2.out) HW.out).mono ?_
          rintro e wz ⟨rfl, rfl⟩
          rw [HA.out]
          go_wp2_with fail
          refine (RR.out w2 HB2.out).mono ?_
          rintro e w3 ⟨rfl, hb3⟩
          have HB3 := Lib.hid (bt HB2.out hb3)
          clear hb3
          go_wp2_with fail
          refine (knows6_any w3 (HT.out.below HB3.out)).mono ?_
          rintro e w4 ⟨rfl, hb4⟩
          have HB4 := Lib.hid (bt HB3.out hb4)
          clear hb4
          go_wp2
          go_ret
          exact ⟨rfl, HB4.out⟩
    | false =>
      have HA := Lib.hid ha
      have RT := Lib.hid (show Calls Tryd.prog 25 #[.slice A n c] w fun e w' => e = .returned (.tuple #[.string { data := #[] }, .int .i64 1]) ∧ w = w' from Root_no A n c l w hS HW.out ha)
      clear ha hS
      by_cases hno : i0 < 0 ∨ j0 < i0 ∨ (n : Int) < j0
      · have RG := Lib.hid (show ∀ W, Calls Tryd.prog 26 #[.slice A n c, .int .i64 i0, .int .i64 j0] W fun e w' => e = .returned (.tuple #[.string { data := #[] }, .int .i64 1]) ∧ W = w' from fun W => range_no A n c i0 j0 W hc HMX.out hno)
        by_cases k1 : i0 < 0
        · clear hno
          go_enter Tryd.func6, Tryd.ntmps6
          go_wp2_with fail
          refine (G.out).mono ?_
          rintro e wz ⟨rfl, rfl⟩
          go_wp2_with fail
          refine (RT.out).mono ?_
          rintro e wz ⟨rfl, rfl⟩
          go_wp2_with fail
          refine (RG.out w).mono ?_
          rintro e wz ⟨rfl, rfl⟩
          go_wp2_with fail
          refine (split_any x w hx1 hx2).mono ?_
          rintro e wz ⟨rfl, rfl⟩
          go_wp2_with fail
          refine (rsplit_any x w hx1 hx2).mono ?_
          rintro e wz ⟨rfl, rfl⟩
          go_wp2_with fail
          refine (right6_any A n c l w (HS.out.keep (Below.refl w.heap.size w)) HW.out).mono ?_
          rintro e wz ⟨rfl, rfl⟩
          rw [HA.out]
          go_wp2_with fail
          refine (knows6_any w (HT.out.below (Below.refl w.heap.size w))).mono ?_
          rintro e w1 ⟨rfl, hb1⟩
          have HB1 := Lib.hid (bt (Below.refl w.heap.size w) hb1)
          clear hb1
          go_wp2
          go_ret
          exact ⟨rfl, HB1.out⟩
        · by_cases k2 : j0 < i0
          · clear hno
            go_enter Tryd.func6, Tryd.ntmps6
            go_wp2_with fail
            refine (G.out).mono ?_
            rintro e wz ⟨rfl, rfl⟩
            go_wp2_with fail
            refine (RT.out).mono ?_
            rintro e wz ⟨rfl, rfl⟩
            go_wp2_with fail
            refine (RG.out w).mono ?_
            rintro e wz ⟨rfl, rfl⟩
            go_wp2_with fail
            refine (split_any x w hx1 hx2).mono ?_
            rintro e wz ⟨rfl, rfl⟩
            go_wp2_with fail
            refine (rsplit_any x w hx1 hx2).mono ?_
            rintro e wz ⟨rfl, rfl⟩
            go_wp2_with fail
            refine (right6_any A n c l w (HS.out.keep (Below.refl w.heap.size w)) HW.out).mono ?_
            rintro e wz ⟨rfl, rfl⟩
            rw [HA.out]
            go_wp2_with fail
            refine (knows6_any w (HT.out.below (Below.refl w.heap.size w))).mono ?_
            rintro e w1 ⟨rfl, hb1⟩
            have HB1 := Lib.hid (bt (Below.refl w.heap.size w) hb1)
            clear hb1
            go_wp2
            go_ret
            exact ⟨rfl, HB1.out⟩
          · have k3 : (n : Int) < j0 := by omega
            clear hno
            go_enter Tryd.func6, Tryd.ntmps6
            go_wp2_with fail
            refine (G.out).mono ?_
            rintro e wz ⟨rfl, rfl⟩
            go_wp2_with fail
            refine (RT.out).mono ?_
            rintro e wz ⟨rfl, rfl⟩
            go_wp2_with fail
            refine (RG.out w).mono ?_
            rintro e wz ⟨rfl, rfl⟩
            go_wp2_with fail
            refine (split_any x w hx1 hx2).mono ?_
            rintro e wz ⟨rfl, rfl⟩
            go_wp2_with fail
            refine (rsplit_any x w hx1 hx2).mono ?_
            rintro e wz ⟨rfl, rfl⟩
            go_wp2_with fail
            refine (right6_any A n c l w (HS.out.keep (Below.refl w.heap.size w)) HW.out).mono ?_
            rintro e wz ⟨rfl, rfl⟩
            rw [HA.out]
            go_wp2_with fail
            refine (knows6_any w (HT.out.below (Below.refl w.heap.size w))).mono ?_
            rintro e w1 ⟨rfl, hb1⟩
            have HB1 := Lib.hid (bt (Below.refl w.heap.size w) hb1)
            clear hb1
            go_wp2
            go_ret
            exact ⟨rfl, HB1.out⟩
      · obtain ⟨i, rfl⟩ : ∃ j : Nat, i0 = (j : Int) := ⟨i0.toNat, by omega⟩
        obtain ⟨j, rfl⟩ : ∃ j : Nat, j0 = (j : Int) := ⟨j0.toNat, by omega⟩
        have hij : i ≤ j := by omega
        have hjn : j ≤ n := by omega
        have k1 : ¬ (i : Int) < 0 := by omega
        have k2 : ¬ (j : Int) < (i : Int) := by omega
        have k3 : ¬ (n : Int) < (j : Int) := by omega
        clear hno
        obtain ⟨ps, hps⟩ : ∃ ps, (l.take j).drop i = ps := ⟨_, rfl⟩
        have HPS := Lib.hid hps
        have HPW := Lib.hid (show ∀ s ∈ (l.take j).drop i, s.length ≤ maxLen from fun s hs => HW.out s (List.mem_of_mem_take (List.mem_of_mem_drop hs)))
        have rg : ∀ W, Below w.heap.size w W → Calls Tryd.prog 26 #[.slice A n c, .int .i64 (i : Int), .int .i64 (j : Int)] W (tupV (rangeV ps) W) := fun W hW => by rw [← hps]; exact range_any A n c l i j W (HS.out.keep hW) HW.out hij hjn (by omega) (HT.out.below hW)
        clear hps
        cases hpa : Tree.all32 ps with
        | true =>
          rw [rangeV_yes hpa] at rg
          have HPA := Lib.hid hpa
          obtain ⟨Q, hQ⟩ : ∃ Q, troot ps = Q := ⟨_, rfl⟩
          have HQ := Lib.hid hQ
          rw [hQ] at rg
          have RG := Lib.hid rg
          have qs2 : ((str Q).toList == (str Q).toList) = true := by simp
          have qs3 : ((str Q).toList != (str Q).toList) = false := by simp
          clear rg hpa hQ
          go_enter Tryd.func6, Tryd.ntmps6
          go_wp2_with fail
          refine (G.out).mono ?_
          rintro e wz ⟨rfl, rfl⟩
          go_wp2_with fail
          refine (RT.out).mono ?_
          rintro e wz ⟨rfl, rfl⟩
          go_wp2_with fail
          refine (RG.out w (Below.refl w.heap.size w)).mono ?_
          rintro e w1 ⟨rfl, hb1⟩
          have HB1 := Lib.hid (bt (Below.refl w.heap.size w) hb1)
          clear hb1
          go_wp2_with fail
          refine (split_any x w1 hx1 hx2).mono ?_
          rintro e wz ⟨rfl, rfl⟩
          go_wp2_with fail
          refine (rsplit_any x w1 hx1 hx2).mono ?_
          rintro e wz ⟨rfl, rfl⟩
          go_wp2_with (refine wl_cutS_lhg (by simp [Region.wanted, yielded] <;> omega) (.tmp 47) (.tmp 48) (.tmp 49) rfl rfl (HS.out.keep HB1.out) i j rfl rfl (by omega) (by omega) ?_; intro A9 hsc; rw [HPS.out] at hsc)
          refine (right6_any _ (j - i) (c - i) ps w1 hsc (by rw [← HPS.out]; exact HPW.out)).mono ?_
          rintro e wz ⟨rfl, rfl⟩
          rw [HPA.out]
          go_wp2_with (refine wl_cutS_lh rfl (.tmp 61) (.tmp 62) (.tmp 63) rfl rfl (HS.out.keep HB1.out) i j rfl rfl (by omega) (by omega) ?_; intro A10 hsc2; rw [HPS.out] at hsc2)
          have rr := rroot_any _ _ (j - i) (c - i) ps w1 (Nat.le_refl _) hsc2 (Tree.all32_iff.1 HPA.out) (by omega)
          rw [HQ.out] at rr
          unfold StrPost at rr
          have RRP := Lib.hid rr
          clear rr
          refine RRP.out.mono ?_
          rintro e w2 ⟨rfl, hb2⟩
          have HB2 := Lib.hid (bt HB1.out hb2)
          clear hb2
          go_wp2_with fail
          refine (right6_any A n c l w2 (HS.out.keep HB2.out) HW.out).mono ?_
          rintro e wz ⟨rfl, rfl⟩
          rw [HA.out]
          go_wp2_with fail
          refine (knows6_any w2 (HT.out.below HB2.out)).mono ?_
          rintro e w3 ⟨rfl, hb3⟩
          have HB3 := Lib.hid (bt HB2.out hb3)
          clear hb3
          go_wp2
          go_ret
          exact ⟨rfl, HB3.out⟩
        | false =>
          rw [rangeV_no hpa] at rg
          have HPA := Lib.hid hpa
          have RG := Lib.hid (show ∀ W, Below w.heap.size w W → Calls Tryd.prog 26 #[.slice A n c, .int .i64 (i : Int), .int .i64 (j : Int)] W (tupV (.tuple #[.string { data := #[] }, .int .i64 1]) W) from rg)
          clear rg hpa
          go_enter Tryd.func6, Tryd.ntmps6
          go_wp2_with fail
          refine (G.out).mono ?_
          rintro e wz ⟨rfl, rfl⟩
          go_wp2_with fail
          refine (RT.out).mono ?_
          rintro e wz ⟨rfl, rfl⟩
          go_wp2_with fail
          refine (RG.out w (Below.refl w.heap.size w)).mono ?_
          rintro e w1 ⟨rfl, hb1⟩
          have HB1 := Lib.hid (bt (Below.refl w.heap.size w) hb1)
          clear hb1
          go_wp2_with fail
          refine (split_any x w1 hx1 hx2).mono ?_
          rintro e wz ⟨rfl, rfl⟩
          go_wp2_with fail
          refine (rsplit_any x w1 hx1 hx2).mono ?_
          rintro e wz ⟨rfl, rfl⟩
          go_wp2_with (refine wl_cutS_lhg (by simp [Region.wanted, yielded] <;> omega) (.tmp 47) (.tmp 48) (.tmp 49) rfl rfl (HS.out.keep HB1.out) i j rfl rfl (by omega) (by omega) ?_; intro A9 hsc; rw [HPS.out] at hsc)
          refine (right6_any _ (j - i) (c - i) ps w1 hsc (by rw [← HPS.out]; exact HPW.out)).mono ?_
          rintro e wz ⟨rfl, rfl⟩
          rw [HPA.out]
          go_wp2_with fail
          refine (right6_any A n c l w1 (HS.out.keep HB1.out) HW.out).mono ?_
          rintro e wz ⟨rfl, rfl⟩
          rw [HA.out]
          go_wp2_with fail
          refine (knows6_any w1 (HT.out.below HB1.out)).mono ?_
          rintro e w2 ⟨rfl, hb2⟩
          have HB2 := Lib.hid (bt HB1.out hb2)
          clear hb2
          go_wp2
          go_ret
          exact ⟨rfl, HB2.out⟩
end Go.Proofs.YtoiilhbjlfdfpaaDoor
