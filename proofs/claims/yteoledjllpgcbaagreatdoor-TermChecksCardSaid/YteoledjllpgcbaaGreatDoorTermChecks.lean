/- TermChecks: the walk of the law. -/
import Derived.Test.YteoledjllpgcbaaGreatDoorMTermC
import Derived.Test.YteoledjllpgcbaaGreatDoorMReplyT
namespace Go.Proofs.YteoledjllpgcbaaGreatDoor
set_option maxRecDepth 100000
set_option linter.unusedVariables false
open Go.RowKit
set_option maxRecDepth 100000 in
set_option maxHeartbeats 32000000 in
theorem termchecks_any (root : List UInt8) (hrm : root.length ≤ maxLen) (n : Int) (s : List UInt8) (hsm : s.length ≤ maxLen) (d : PfD) (w : World) (hin : InPf9 w d) (hn : -9223372036854775808 ≤ n ∧ n ≤ 9223372036854775807) (ht : Ut.UTabs w) (htt : Tabs w) : Calls Tryz.prog 4 #[sv root, .int .i64 n, sv s, pfv d.ap d.np d.cp d.ad d.nd d.cd d.p] w (RetB true w) := by
  have KN := Lib.hid (fun (W : World) (hW : Below w.heap.size w W) => knows11_any W (ht.below hW) (htt.below hW))
  unfold Yes at KN
  obtain ⟨w0, hw0⟩ : ∃ W, w.alloc (.cells #[.int .i64 d.p.at_, sv d.p.link.term, sv d.p.link.next, sv d.p.link.posts, .slice d.ap d.np d.cp, .slice d.ad d.nd d.cd] 30) = W := ⟨_, rfl⟩
  have hb0 := (Below.refl w.heap.size w).alloc (Nat.le_refl _) (.cells #[.int .i64 d.p.at_, sv d.p.link.term, sv d.p.link.next, sv d.p.link.posts, .slice d.ap d.np d.cp, .slice d.ad d.nd d.cd] 30)
  have hr0 := row_new w #[.int .i64 d.p.at_, sv d.p.link.term, sv d.p.link.next, sv d.p.link.posts, .slice d.ap d.np d.cp, .slice d.ad d.nd d.cd] 30
  rw [hw0] at hb0 hr0
  have HW0 := Lib.hid hw0
  have HB0 := Lib.hid hb0
  have HR0 := Lib.hid hr0
  have HX := Lib.hid (fun (W : World) (hW : Below w0.heap.size w0 W) => hr0.belowS hW (Nat.le_refl _))
  have CG := great11_any d.ap d.np d.cp d.ad d.nd d.cd d.p w0 (hin.i.s.keep hb0) hin.pl hin.i.b.len
  unfold RetB at CG
  have zr := strLen root
  have zs := strLen s
  obtain ⟨q, hq⟩ : ∃ q, s.length = q := ⟨_, rfl⟩
  obtain ⟨r, hr⟩ : ∃ q, root.length = q := ⟨_, rfl⟩
  rw [hq] at zs hsm
  rw [hr] at zr hrm
  rw [maxLen_eq] at hsm hrm
  clear hw0 hb0 hr0
  cases hg : Dc.greatP d.p with
  | true =>
    rw [hg] at CG
    clear hg hin ht htt hq hr hn
    have CG := Lib.hid CG
    unfold pfv at CG ⊢
    go_enter Tryz.func4, Tryz.ntmps4
    go_upto_region 1 with fail
    rw [HW0.out]
    have hrz := HR0.out
    have x0 := hrz.cellQ 0 _ rfl
    have x1 := hrz.cellQ 1 _ rfl
    have x2 := hrz.cellQ 2 _ rfl
    have x3 := hrz.cellQ 3 _ rfl
    have x4 := hrz.cellQ 4 _ rfl
    have x5 := hrz.cellQ 5 _ rfl
    clear hrz
    go_wp2_with fail
    (with_reducible refine CG.out.mono ?_)
    rintro e w1 ⟨rfl, hb1⟩
    have HZ1 := Lib.hid hb1
    have HB1 := Lib.hid (bt HB0.out hb1)
    clear hb1 CG x0 x1 x2 x3 x4 x5
    go_wp2_with fail
    (with_reducible refine (KN.out _ HB1.out).mono ?_)
    rintro e wk ⟨rfl, hbk⟩
    have HBK := Lib.hid (bt HB1.out hbk)
    clear hbk
    go_wp2
    go_ret
    exact ⟨rfl, HBK.out⟩
  | false =>
    rw [hg] at CG
    by_cases h1 : 200 < r
    · have a1 : (200 : Int) < (r : Int) := by omega
      clear hg hin ht htt hq hr hn
      have CG := Lib.hid CG
      unfold pfv at CG ⊢
      go_enter Tryz.func4, Tryz.ntmps4
      go_upto_region 1 with fail
      rw [HW0.out]
      have hrz := HR0.out
      have x0 := hrz.cellQ 0 _ rfl
      have x1 := hrz.cellQ 1 _ rfl
      have x2 := hrz.cellQ 2 _ rfl
      have x3 := hrz.cellQ 3 _ rfl
      have x4 := hrz.cellQ 4 _ rfl
      have x5 := hrz.cellQ 5 _ rfl
      clear hrz
      go_wp2_with fail
      (with_reducible refine CG.out.mono ?_)
      rintro e w1 ⟨rfl, hb1⟩
      have HZ1 := Lib.hid hb1
      have HB1 := Lib.hid (bt HB0.out hb1)
      clear hb1 CG x0 x1 x2 x3 x4 x5
      go_wp2_with fail
      (with_reducible refine (KN.out _ HB1.out).mono ?_)
      rintro e wk ⟨rfl, hbk⟩
      have HBK := Lib.hid (bt HB1.out hbk)
      clear hbk
      go_wp2
      go_ret
      exact ⟨rfl, HBK.out⟩
    · have a1 : ¬ (200 : Int) < (r : Int) := by omega
      by_cases h2 : 200 < q
      · have a2 : (200 : Int) < (q : Int) := by omega
        clear hg hin ht htt hq hr hn
        have CG := Lib.hid CG
        unfold pfv at CG ⊢
        go_enter Tryz.func4, Tryz.ntmps4
        go_upto_region 1 with fail
        rw [HW0.out]
        have hrz := HR0.out
        have x0 := hrz.cellQ 0 _ rfl
        have x1 := hrz.cellQ 1 _ rfl
        have x2 := hrz.cellQ 2 _ rfl
        have x3 := hrz.cellQ 3 _ rfl
        have x4 := hrz.cellQ 4 _ rfl
        have x5 := hrz.cellQ 5 _ rfl
        clear hrz
        go_wp2_with fail
        (with_reducible refine CG.out.mono ?_)
        rintro e w1 ⟨rfl, hb1⟩
        have HZ1 := Lib.hid hb1
        have HB1 := Lib.hid (bt HB0.out hb1)
        clear hb1 CG x0 x1 x2 x3 x4 x5
        go_wp2_with fail
        (with_reducible refine (KN.out _ HB1.out).mono ?_)
        rintro e wk ⟨rfl, hbk⟩
        have HBK := Lib.hid (bt HB1.out hbk)
        clear hbk
        go_wp2
        go_ret
        exact ⟨rfl, HBK.out⟩
      · have a2 : ¬ (200 : Int) < (q : Int) := by omega
        have hsl : s.length ≤ 200 := by omega
        have hrl : root.length ≤ 200 := by omega
        obtain ⟨_, hdl, hps, hpl⟩ := Dc.greatP_no hg
        have hnd : d.nd ≤ 100000 := by rw [← hin.i.b.len]; omega
        have CF := fun (W : World) => rfair11_any root n s W hn hsl
        unfold RetB at CF
        cases hf : Dc.fairC root n s with
        | false =>
          rw [hf] at CF
          have CF := Lib.hid CF
          have CC := Lib.hid (fun (W : World) (hW : Below w.heap.size w W) => tcheck_arg root n s d.ap d.np d.cp d.ad d.nd d.cd d.p W hrl hsl hn (ht.below hW) hf)
          clear hg hin ht htt hq hr hn hf hsl hrl hps hpl hnd hdl
          have CG := Lib.hid CG
          unfold pfv at CG ⊢
          go_enter Tryz.func4, Tryz.ntmps4
          go_upto_region 1 with fail
          rw [HW0.out]
          have hrz := HR0.out
          have x0 := hrz.cellQ 0 _ rfl
          have x1 := hrz.cellQ 1 _ rfl
          have x2 := hrz.cellQ 2 _ rfl
          have x3 := hrz.cellQ 3 _ rfl
          have x4 := hrz.cellQ 4 _ rfl
          have x5 := hrz.cellQ 5 _ rfl
          clear hrz
          go_wp2_with fail
          (with_reducible refine CG.out.mono ?_)
          rintro e w1 ⟨rfl, hb1⟩
          have HZ1 := Lib.hid hb1
          have HB1 := Lib.hid (bt HB0.out hb1)
          clear hb1 CG x0 x1 x2 x3 x4 x5
          have hrz := HX.out w1 HZ1.out
          have x0 := hrz.cellQ 0 _ rfl
          have x1 := hrz.cellQ 1 _ rfl
          have x2 := hrz.cellQ 2 _ rfl
          have x3 := hrz.cellQ 3 _ rfl
          have x4 := hrz.cellQ 4 _ rfl
          have x5 := hrz.cellQ 5 _ rfl
          clear hrz
          unfold pfv at CC
          go_wp2_with fail
          (with_reducible refine (CC.out _ HB1.out).mono ?_)
          rintro e w2 ⟨rfl, hb2⟩
          have HB2 := Lib.hid (bt HB1.out hb2)
          clear hb2 CC x0 x1 x2 x3 x4 x5
          go_wp2_with fail
          (with_reducible refine (CF.out w2).mono ?_)
          rintro e w3 ⟨rfl, hb3⟩
          have HB3 := Lib.hid (bt HB2.out hb3)
          clear hb3 CF
          go_wp2_with fail
          (with_reducible refine (KN.out _ HB3.out).mono ?_)
          rintro e wk ⟨rfl, hbk⟩
          have HBK := Lib.hid (bt HB3.out hbk)
          clear hbk
          go_wp2
          go_ret
          exact ⟨rfl, HBK.out⟩
        | true =>
          rw [hf] at CF
          have CF := Lib.hid CF
          obtain ⟨_, hn1, hn2, _⟩ := Dc.fairC_iff.1 hf
          have hps2 : ∀ x ∈ d.p.path, x.length ≤ maxLen := hin.pl
          obtain ⟨r, hr0⟩ : ∃ r, Dc.check root n s d.p = r := ⟨_, rfl⟩
          have CC := fun (W : World) (hW : Below w.heap.size w W) => tcheck_any root n s d.ap d.np d.cp d.ad d.nd d.cd d.p W hsl (hin.i.s.keep hW) hps2 (hin.i.b.keep hW) hnd hin.at_ (ht.below hW) (htt.below hW) hf
          have CR := fun (W : World) (hW : Below w.heap.size w W) => rtcheck_any root n s d.ap d.np d.cp d.ad d.nd d.cd d.p W (hin.i.s.keep hW) hps2 (hin.i.b.keep hW) hnd hin.at_ hn1 hn2
          rw [hr0] at CC CR
          unfold CheckPost at CC
          unfold RCheckPost at CR
          have CA := Lib.hid (fun (W : World) => asProof_any d.ap d.np d.cp d.ad d.nd d.cd d.p W)
          unfold RetV at CA
          unfold pfv at CC CR
          clear hg hin ht htt hq hr hn hf hsl hrl hps hpl hnd hdl hn1 hn2 hps2 hr0
          cases r with
          | none =>
            simp only at CC CR
            have CC := Lib.hid CC
            have CR := Lib.hid CR
            have CG := Lib.hid CG
            unfold pfv at CG ⊢
            go_enter Tryz.func4, Tryz.ntmps4
            go_upto_region 1 with fail
            rw [HW0.out]
            have hrz := HR0.out
            have x0 := hrz.cellQ 0 _ rfl
            have x1 := hrz.cellQ 1 _ rfl
            have x2 := hrz.cellQ 2 _ rfl
            have x3 := hrz.cellQ 3 _ rfl
            have x4 := hrz.cellQ 4 _ rfl
            have x5 := hrz.cellQ 5 _ rfl
            clear hrz
            go_wp2_with fail
            (with_reducible refine CG.out.mono ?_)
            rintro e w1 ⟨rfl, hb1⟩
            have HZ1 := Lib.hid hb1
            have HB1 := Lib.hid (bt HB0.out hb1)
            clear hb1 CG x0 x1 x2 x3 x4 x5
            have hrz := HX.out w1 HZ1.out
            have x0 := hrz.cellQ 0 _ rfl
            have x1 := hrz.cellQ 1 _ rfl
            have x2 := hrz.cellQ 2 _ rfl
            have x3 := hrz.cellQ 3 _ rfl
            have x4 := hrz.cellQ 4 _ rfl
            have x5 := hrz.cellQ 5 _ rfl
            clear hrz
            go_wp2_with fail
            (with_reducible refine (CC.out _ HB1.out).mono ?_)
            rintro e w2 ⟨hb2, rfl⟩
            have HB2 := Lib.hid (bt HB1.out hb2)
            have HZ2 := Lib.hid (bt HZ1.out hb2)
            clear hb2 CC x0 x1 x2 x3 x4 x5
            go_wp2_with fail
            (with_reducible refine (CF.out w2).mono ?_)
            rintro e w3 ⟨rfl, hb3⟩
            have HB3 := Lib.hid (bt HB2.out hb3)
            have HZ3 := Lib.hid (bt HZ2.out hb3)
            clear hb3 CF
            have hrz := HX.out w3 HZ3.out
            have x0 := hrz.cellQ 0 _ rfl
            have x1 := hrz.cellQ 1 _ rfl
            have x2 := hrz.cellQ 2 _ rfl
            have x3 := hrz.cellQ 3 _ rfl
            have x4 := hrz.cellQ 4 _ rfl
            have x5 := hrz.cellQ 5 _ rfl
            clear hrz
            go_wp2_with fail
            (with_reducible refine (CA.out w3).mono ?_)
            rintro e w4 ⟨rfl, hb4⟩
            have HB4 := Lib.hid (bt HB3.out hb4)
            clear hb4 CA x0 x1 x2 x3 x4 x5
            go_wp2_with fail
            (with_reducible refine (CR.out _ HB4.out).mono ?_)
            rintro e w5 ⟨hb5, rfl⟩
            have HB5 := Lib.hid (bt HB4.out hb5)
            clear hb5 CR
            go_wp2_with fail
            (with_reducible refine (KN.out _ HB5.out).mono ?_)
            rintro e wk ⟨rfl, hbk⟩
            have HBK := Lib.hid (bt HB5.out hbk)
            clear hbk
            go_wp2
            go_ret
            exact ⟨rfl, HBK.out⟩
          | some m =>
            simp only at CC CR
            have CC := Lib.hid CC
            have CR := Lib.hid CR
            have CG := Lib.hid CG
            unfold pfv at CG ⊢
            go_enter Tryz.func4, Tryz.ntmps4
            go_upto_region 1 with fail
            rw [HW0.out]
            have hrz := HR0.out
            have x0 := hrz.cellQ 0 _ rfl
            have x1 := hrz.cellQ 1 _ rfl
            have x2 := hrz.cellQ 2 _ rfl
            have x3 := hrz.cellQ 3 _ rfl
            have x4 := hrz.cellQ 4 _ rfl
            have x5 := hrz.cellQ 5 _ rfl
            clear hrz
            go_wp2_with fail
            (with_reducible refine CG.out.mono ?_)
            rintro e w1 ⟨rfl, hb1⟩
            have HZ1 := Lib.hid hb1
            have HB1 := Lib.hid (bt HB0.out hb1)
            clear hb1 CG x0 x1 x2 x3 x4 x5
            have hrz := HX.out w1 HZ1.out
            have x0 := hrz.cellQ 0 _ rfl
            have x1 := hrz.cellQ 1 _ rfl
            have x2 := hrz.cellQ 2 _ rfl
            have x3 := hrz.cellQ 3 _ rfl
            have x4 := hrz.cellQ 4 _ rfl
            have x5 := hrz.cellQ 5 _ rfl
            clear hrz
            go_wp2_with fail
            (with_reducible refine (CC.out _ HB1.out).mono ?_)
            rintro e w2 ⟨hb2, A2, n2, c2, rfl, hz2⟩
            have HB2 := Lib.hid (bt HB1.out hb2)
            have HZ2 := Lib.hid (bt HZ1.out hb2)
            have HM2 := Lib.hid hz2
            clear hz2
            clear hb2 CC x0 x1 x2 x3 x4 x5
            go_wp2_with fail
            (with_reducible refine (CF.out w2).mono ?_)
            rintro e w3 ⟨rfl, hb3⟩
            have HB3 := Lib.hid (bt HB2.out hb3)
            have HZ3 := Lib.hid (bt HZ2.out hb3)
            have HM3 := Lib.hid (HM2.out.keep hb3)
            clear hb3 CF
            have hrz := HX.out w3 HZ3.out
            have x0 := hrz.cellQ 0 _ rfl
            have x1 := hrz.cellQ 1 _ rfl
            have x2 := hrz.cellQ 2 _ rfl
            have x3 := hrz.cellQ 3 _ rfl
            have x4 := hrz.cellQ 4 _ rfl
            have x5 := hrz.cellQ 5 _ rfl
            clear hrz
            go_wp2_with fail
            (with_reducible refine (CA.out w3).mono ?_)
            rintro e w4 ⟨rfl, hb4⟩
            have HB4 := Lib.hid (bt HB3.out hb4)
            have HM4 := Lib.hid (HM3.out.keep hb4)
            clear hb4 CA x0 x1 x2 x3 x4 x5
            go_wp2_with fail
            (with_reducible refine (CR.out _ HB4.out).mono ?_)
            rintro e w5 ⟨hb5, A5, n5, c5, rfl, hz5⟩
            have HB5 := Lib.hid (bt HB4.out hb5)
            have CS := sameZ_any A2 n2 c2 m A5 n5 c5 m w5 (HM4.out.keep hb5) hz5
            rw [decide_eq_true rfl] at CS
            unfold RetB at CS
            have CS := Lib.hid CS
            clear hz5
            clear hb5 CR
            go_wp2_with fail
            (with_reducible refine CS.out.mono ?_)
            rintro e w6 ⟨rfl, hb6⟩
            have HB6 := Lib.hid (bt HB5.out hb6)
            clear hb6 CS
            go_wp2_with fail
            (with_reducible refine (KN.out _ HB6.out).mono ?_)
            rintro e wk ⟨rfl, hbk⟩
            have HBK := Lib.hid (bt HB6.out hbk)
            clear hbk
            go_wp2
            go_ret
            exact ⟨rfl, HBK.out⟩
end Go.Proofs.YteoledjllpgcbaaGreatDoor
