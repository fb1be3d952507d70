/- PostSets: the walk of the law. -/
import Derived.Test.YtkkliblndglniaaPost4
import Derived.OpenShut
namespace Go.Proofs.Ytkkliblndglniaa
set_option linter.unusedVariables false
open Go.RowKit

set_option maxRecDepth 100000 in
set_option maxHeartbeats 16000000 in
theorem postsets_any (A : Option Addr) (n c : Nat) (la : List Int) (B : Option Addr) (m k : Nat) (lb : List Int) (w : World) (hr : Rd w w.heap.size A (la.map iv)) (hn : la.length = n) (hc : n ≤ c) (hm : c ≤ maxLen) (hwf : ∀ z ∈ la, (Lit.int .i64 z).wf = true)
    (hr2 : Rd w w.heap.size B (lb.map iv)) (hn2 : lb.length = m) (hk : m ≤ k) (hk2 : k ≤ maxLen) (hwf2 : ∀ z ∈ lb, (Lit.int .i64 z).wf = true) :
    Calls Try.prog 8 #[.slice A n c, .slice B m k] w (RetB true w) := by
  have hA : Zs w A n c la := ⟨hr, hn, hc, hm, fun z hz => Go.bounds_i64 (hwf z hz)⟩
  have hB : Zs w B m k lb := ⟨hr2, hn2, hk, hk2, fun z hz => Go.bounds_i64 (hwf2 z hz)⟩
  rw [maxLen_eq] at hm hk2
  clear hr hn hwf hr2 hn2 hwf2
  by_cases h1 : 300 < n
  · have G := Lib.hid (decide_eq_true h1)
    go_enter Try.func8, Try.ntmps8
    go_wp2_with fail
    refine (great9_any A n c w hc hm).mono ?_
    rintro e w0 ⟨rfl, rfl⟩
    rw [G.out]
    go_wp2_with fail
    refine (knows9_any _).mono ?_
    rintro e w1 ⟨rfl, hb1⟩
    have HB1 := Lib.hid hb1
    clear hb1
    go_wp2
    go_ret
    exact ⟨rfl, HB1.out⟩
  · have G := Lib.hid (decide_eq_false h1)
    by_cases h2 : 300 < m
    · have G2 := Lib.hid (decide_eq_true h2)
      go_enter Try.func8, Try.ntmps8
      go_wp2_with fail
      refine (great9_any A n c w hc hm).mono ?_
      rintro e w0 ⟨rfl, rfl⟩
      rw [G.out]
      go_wp2_with fail
      refine (great9_any B m k w hk hk2).mono ?_
      rintro e w0 ⟨rfl, rfl⟩
      rw [G2.out]
      go_wp2_with fail
      refine (knows9_any _).mono ?_
      rintro e w1 ⟨rfl, hb1⟩
      have HB1 := Lib.hid hb1
      clear hb1
      go_wp2
      go_ret
      exact ⟨rfl, HB1.out⟩
    · have G2 := Lib.hid (decide_eq_false h2)
      obtain ⟨X, hX0⟩ : ∃ X, Post.pick Post.kBoth la lb = X := ⟨_, rfl⟩
      obtain ⟨Y, hY0⟩ : ∃ X, Post.pick Post.kEither la lb = X := ⟨_, rfl⟩
      obtain ⟨Z, hZ0⟩ : ∃ X, Post.pick Post.kBut la lb = X := ⟨_, rfl⟩
      have HR1 := Lib.hid (show Post.right X = true by rw [← hX0]; exact Post.pick_right _ _ _)
      have HR2 := Lib.hid (show Post.right Y = true by rw [← hY0]; exact Post.pick_right _ _ _)
      have HR3 := Lib.hid (show Post.right Z = true by rw [← hZ0]; exact Post.pick_right _ _ _)
      have hxz := Post.both_but la lb
      have hcx := Post.both_comm la lb
      have hcy := Post.either_comm la lb
      rw [hX0, hZ0] at hxz
      rw [hX0] at hcx
      rw [hY0] at hcy
      have c1 := fun (W : World) (A : Option Addr) (n c : Nat) (B : Option Addr) (m k : Nat) (h : Zs W A n c la) (h2 : Zs W B m k lb) => both_any A n c la B m k lb W h h2
      rw [hX0] at c1
      have c2 := fun (W : World) (A : Option Addr) (n c : Nat) (B : Option Addr) (m k : Nat) (h : Zs W A n c la) (h2 : Zs W B m k lb) => either_any A n c la B m k lb W h h2
      rw [hY0] at c2
      have c3 := fun (W : World) (A : Option Addr) (n c : Nat) (B : Option Addr) (m k : Nat) (h : Zs W A n c la) (h2 : Zs W B m k lb) => but_any A n c la B m k lb W h h2
      rw [hZ0] at c3
      have c4 := fun (W : World) (A : Option Addr) (n c : Nat) (B : Option Addr) (m k : Nat) (h : Zs W A n c X) (h2 : Zs W B m k Z) => both_any A n c X B m k Z W h h2
      rw [hxz] at c4
      have c6 := fun (W : World) (A : Option Addr) (n c : Nat) (B : Option Addr) (m k : Nat) (h : Zs W A n c lb) (h2 : Zs W B m k la) => both_any A n c lb B m k la W h h2
      rw [← hcx] at c6
      have c7 := fun (W : World) (A : Option Addr) (n c : Nat) (B : Option Addr) (m k : Nat) (h : Zs W A n c lb) (h2 : Zs W B m k la) => either_any A n c lb B m k la W h h2
      rw [← hcy] at c7
      have C1 := Lib.hid c1
      have C2 := Lib.hid c2
      have C3 := Lib.hid c3
      have C4 := Lib.hid c4
      have C6 := Lib.hid c6
      have C7 := Lib.hid c7
      clear c1 c2 c3 c4 c6 c7 hxz hcx hcy
      cases hra : Post.right la with
      | true =>
        have hback := Post.either_back lb hra
        rw [hX0, hZ0] at hback
        have c5 := fun (W : World) (A : Option Addr) (n c : Nat) (B : Option Addr) (m k : Nat) (h : Zs W A n c X) (h2 : Zs W B m k Z) => either_any A n c X B m k Z W h h2
        rw [hback] at c5
        have C5 := Lib.hid c5
        have HRA := Lib.hid hra
        clear c5 hback hra hX0 hY0 hZ0
        go_enter Try.func8, Try.ntmps8
        go_wp2_with fail
        refine (great9_any A n c w hc hm).mono ?_
        rintro e w0 ⟨rfl, rfl⟩
        rw [G.out]
        go_wp2_with fail
        refine (great9_any B m k w hk hk2).mono ?_
        rintro e w0 ⟨rfl, rfl⟩
        rw [G2.out]
        go_wp2_with fail
        refine (C1.out w A n c B m k hA hB).mono ?_
        rintro e w1 ⟨A1, n1, c1, rfl, ho1, hb1⟩
        have HB1 := Lib.hid hb1
        have hX := ho1.zs
        clear hb1 ho1
        go_wp2_with fail
        refine (C2.out _ A n c B m k (hA.keep HB1.out) (hB.keep HB1.out)).mono ?_
        rintro e w2 ⟨A2, n2, c2, rfl, ho2, hb2⟩
        have HB2 := Lib.hid (bt HB1.out hb2)
        replace hX := hX.keep hb2
        have hY := ho2.zs
        clear hb2 ho2
        go_wp2_with fail
        refine (C3.out _ A n c B m k (hA.keep HB2.out) (hB.keep HB2.out)).mono ?_
        rintro e w3 ⟨A3, n3, c3, rfl, ho3, hb3⟩
        have HB3 := Lib.hid (bt HB2.out hb3)
        replace hX := hX.keep hb3
        replace hY := hY.keep hb3
        have hZ := ho3.zs
        clear hb3 ho3
        go_wp2_with fail
        refine (right_any A1 n1 c1 X _ hX).mono ?_
        rintro e w4 ⟨rfl, rfl⟩
        rw [HR1.out]
        go_wp2_with fail
        refine (right_any A2 n2 c2 Y _ hY).mono ?_
        rintro e w4 ⟨rfl, rfl⟩
        rw [HR2.out]
        go_wp2_with fail
        refine (right_any A3 n3 c3 Z _ hZ).mono ?_
        rintro e w4 ⟨rfl, rfl⟩
        rw [HR3.out]
        go_wp2_with fail
        refine (C4.out _ A1 n1 c1 A3 n3 c3 hX hZ).mono ?_
        rintro e w5 ⟨A5, n5, c5, rfl, ho5, hb5⟩
        have HB5 := Lib.hid (bt HB3.out hb5)
        obtain rfl : n5 = 0 := by rw [← ho5.len]; rfl
        replace hX := hX.keep hb5
        replace hY := hY.keep hb5
        replace hZ := hZ.keep hb5
        clear hb5 ho5
        go_wp2_with fail
        refine (right_any A n c la _ (hA.keep HB5.out)).mono ?_
        rintro e w6 ⟨rfl, rfl⟩
        rw [HRA.out]
        go_wp2_with fail
        refine (C5.out _ A1 n1 c1 A3 n3 c3 hX hZ).mono ?_
        rintro e w7 ⟨A7, n7, c7, rfl, ho7, hb7⟩
        have HB7 := Lib.hid (bt HB5.out hb7)
        have hV := ho7.zs
        replace hX := hX.keep hb7
        replace hY := hY.keep hb7
        clear hb7 ho7
        go_wp2_with fail
        refine (sameZ_any A7 n7 c7 la A n c la _ hV (hA.keep HB7.out)).mono ?_
        rintro e w8 ⟨rfl, hb8⟩
        rw [decide_eq_true (rfl : la = la)]
        have HB8 := Lib.hid (bt HB7.out hb8)
        replace hX := hX.keep hb8
        replace hY := hY.keep hb8
        clear hb8 hV
        go_wp2_with fail
        refine (C6.out _ B m k A n c (hB.keep HB8.out) (hA.keep HB8.out)).mono ?_
        rintro e w9 ⟨A9, n9, c9, rfl, ho9, hb9⟩
        have HB9 := Lib.hid (bt HB8.out hb9)
        have hV := ho9.zs
        replace hX := hX.keep hb9
        replace hY := hY.keep hb9
        clear hb9 ho9
        go_wp2_with fail
        refine (sameZ_any A1 n1 c1 X A9 n9 c9 X _ hX hV).mono ?_
        rintro e w10 ⟨rfl, hb10⟩
        rw [decide_eq_true (rfl : X = X)]
        have HB10 := Lib.hid (bt HB9.out hb10)
        replace hY := hY.keep hb10
        clear hb10 hV
        go_wp2_with fail
        refine (C7.out _ B m k A n c (hB.keep HB10.out) (hA.keep HB10.out)).mono ?_
        rintro e w11 ⟨A11, n11, c11, rfl, ho11, hb11⟩
        have HB11 := Lib.hid (bt HB10.out hb11)
        have hV := ho11.zs
        replace hY := hY.keep hb11
        clear hb11 ho11
        go_wp2_with fail
        refine (sameZ_any A2 n2 c2 Y A11 n11 c11 Y _ hY hV).mono ?_
        rintro e w12 ⟨rfl, hb12⟩
        rw [decide_eq_true (rfl : Y = Y)]
        have HB12 := Lib.hid (bt HB11.out hb12)
        clear hb12 hV
        go_wp2_with fail
        refine (knows9_any _).mono ?_
        rintro e w13 ⟨rfl, hb13⟩
        have HB13 := Lib.hid (bt HB12.out hb13)
        clear hb13
        go_wp2
        go_ret
        exact ⟨rfl, HB13.out⟩
      | false =>
        have HRA := Lib.hid hra
        clear hra hX0 hY0 hZ0
        go_enter Try.func8, Try.ntmps8
        go_wp2_with fail
        refine (great9_any A n c w hc hm).mono ?_
        rintro e w0 ⟨rfl, rfl⟩
        rw [G.out]
        go_wp2_with fail
        refine (great9_any B m k w hk hk2).mono ?_
        rintro e w0 ⟨rfl, rfl⟩
        rw [G2.out]
        go_wp2_with fail
        refine (C1.out w A n c B m k hA hB).mono ?_
        rintro e w1 ⟨A1, n1, c1, rfl, ho1, hb1⟩
        have HB1 := Lib.hid hb1
        have hX := ho1.zs
        clear hb1 ho1
        go_wp2_with fail
        refine (C2.out _ A n c B m k (hA.keep HB1.out) (hB.keep HB1.out)).mono ?_
        rintro e w2 ⟨A2, n2, c2, rfl, ho2, hb2⟩
        have HB2 := Lib.hid (bt HB1.out hb2)
        replace hX := hX.keep hb2
        have hY := ho2.zs
        clear hb2 ho2
        go_wp2_with fail
        refine (C3.out _ A n c B m k (hA.keep HB2.out) (hB.keep HB2.out)).mono ?_
        rintro e w3 ⟨A3, n3, c3, rfl, ho3, hb3⟩
        have HB3 := Lib.hid (bt HB2.out hb3)
        replace hX := hX.keep hb3
        replace hY := hY.keep hb3
        have hZ := ho3.zs
        clear hb3 ho3
        go_wp2_with fail
        refine (right_any A1 n1 c1 X _ hX).mono ?_
        rintro e w4 ⟨rfl, rfl⟩
        rw [HR1.out]
        go_wp2_with fail
        refine (right_any A2 n2 c2 Y _ hY).mono ?_
        rintro e w4 ⟨rfl, rfl⟩
        rw [HR2.out]
        go_wp2_with fail
        refine (right_any A3 n3 c3 Z _ hZ).mono ?_
        rintro e w4 ⟨rfl, rfl⟩
        rw [HR3.out]
        go_wp2_with fail
        refine (C4.out _ A1 n1 c1 A3 n3 c3 hX hZ).mono ?_
        rintro e w5 ⟨A5, n5, c5, rfl, ho5, hb5⟩
        have HB5 := Lib.hid (bt HB3.out hb5)
        obtain rfl : n5 = 0 := by rw [← ho5.len]; rfl
        replace hX := hX.keep hb5
        replace hY := hY.keep hb5
        replace hZ := hZ.keep hb5
        clear hb5 ho5
        go_wp2_with fail
        refine (right_any A n c la _ (hA.keep HB5.out)).mono ?_
        rintro e w6 ⟨rfl, rfl⟩
        rw [HRA.out]
        go_wp2_with fail
        refine (C6.out _ B m k A n c (hB.keep HB5.out) (hA.keep HB5.out)).mono ?_
        rintro e w9 ⟨A9, n9, c9, rfl, ho9, hb9⟩
        have HB9 := Lib.hid (bt HB5.out hb9)
        have hV := ho9.zs
        replace hX := hX.keep hb9
        replace hY := hY.keep hb9
        clear hb9 ho9
        go_wp2_with fail
        refine (sameZ_any A1 n1 c1 X A9 n9 c9 X _ hX hV).mono ?_
        rintro e w10 ⟨rfl, hb10⟩
        rw [decide_eq_true (rfl : X = X)]
        have HB10 := Lib.hid (bt HB9.out hb10)
        replace hY := hY.keep hb10
        clear hb10 hV
        go_wp2_with fail
        refine (C7.out _ B m k A n c (hB.keep HB10.out) (hA.keep HB10.out)).mono ?_
        rintro e w11 ⟨A11, n11, c11, rfl, ho11, hb11⟩
        have HB11 := Lib.hid (bt HB10.out hb11)
        have hV := ho11.zs
        replace hY := hY.keep hb11
        clear hb11 ho11
        go_wp2_with fail
        refine (sameZ_any A2 n2 c2 Y A11 n11 c11 Y _ hY hV).mono ?_
        rintro e w12 ⟨rfl, hb12⟩
        rw [decide_eq_true (rfl : Y = Y)]
        have HB12 := Lib.hid (bt HB11.out hb12)
        clear hb12 hV
        go_wp2_with fail
        refine (knows9_any _).mono ?_
        rintro e w13 ⟨rfl, hb13⟩
        have HB13 := Lib.hid (bt HB12.out hb13)
        clear hb13
        go_wp2
        go_ret
        exact ⟨rfl, HB13.out⟩
end Go.Proofs.Ytkkliblndglniaa
