/- TermClash: the walk of the law. -/
import Derived.Test.YteoledjllpgcbaaGreatDoorTerm9
import Derived.Test.YteoledjllpgcbaaGreatDoorTermClashS
import Derived.Test.YteoledjllpgcbaaGreatDoorMReplyT
namespace Go.Proofs.YteoledjllpgcbaaGreatDoor
set_option maxRecDepth 100000
set_option maxHeartbeats 64000000
set_option linter.unusedVariables false
open Go.RowKit
theorem termclash_any (A : Option Addr) (n c : Nat) (L : List EnD) (s : List UInt8) (hsm : s.length ≤ maxLen) (d : PfD) (w : World) (hin : InEs w A n c L) (hip : InPf9 w d) (ht : Ut.UTabs w) (htt : Tabs w) : Calls Tryz.prog 5 #[.slice A n c, sv s, pfv d.ap d.np d.cp d.ad d.nd d.cd d.p] w (RetB true w) := by
 have KN := Lib.hid (fun (W : World) (hW : Below w.heap.size w W) => knows11_any W (ht.below hW) (htt.below hW))
 unfold Yes at KN
 obtain ⟨w0, hw0⟩ : ∃ W, w.alloc (.cells #[.int .i64 d.p.at_, sv d.p.link.term, sv d.p.link.next, sv d.p.link.posts, .slice d.ap d.np d.cp, .slice d.ad d.nd d.cd] 30) = W := ⟨_, rfl⟩
 have hb0 := (Below.refl w.heap.size w).alloc (Nat.le_refl _) (.cells #[.int .i64 d.p.at_, sv d.p.link.term, sv d.p.link.next, sv d.p.link.posts, .slice d.ap d.np d.cp, .slice d.ad d.nd d.cd] 30)
 have hr0 := row_new w #[.int .i64 d.p.at_, sv d.p.link.term, sv d.p.link.next, sv d.p.link.posts, .slice d.ap d.np d.cp, .slice d.ad d.nd d.cd] 30
 rw [hw0] at hb0 hr0
 have HW0 := Lib.hid hw0
 have HB0 := Lib.hid hb0
 have HX := Lib.hid (fun (W : World) (hW : Below w0.heap.size w0 W) => hr0.belowS hW (Nat.le_refl _))
 have CG := great10_any A n c L w0 (hin.keep hb0)
 have CP := fun (W : World) (hW : Below w.heap.size w W) => great11_any d.ap d.np d.cp d.ad d.nd d.cd d.p W (hip.i.s.keep hW) hip.pl hip.i.b.len
 unfold RetB at CG CP
 unfold pfv at CP
 have zs := strLen s
 obtain ⟨q, hq⟩ : ∃ q, s.length = q := ⟨_, rfl⟩
 rw [hq] at zs hsm
 rw [maxLen_eq] at hsm
 clear hw0 hb0 hr0
 cases hg : Dc.great L with
 | true =>
  rw [hg] at CG
  clear hg hin hip ht htt hq CP
  have CG := Lib.hid CG
  unfold pfv
  go_enter Tryz.func5, Tryz.ntmps5
  go_upto_region 1 with fail
  rw [HW0.out]
  go_wp2_with fail
  (with_reducible refine CG.out.mono ?_)
  rintro e w1 ⟨rfl, hb1⟩
  have HZ1 := Lib.hid hb1
  have HB1 := Lib.hid (bt HB0.out hb1)
  clear hb1 CG
  go_wp2_with fail
  (with_reducible refine (KN.out _ HB1.out).mono ?_)
  rintro e wk ⟨rfl, hbk⟩
  have HBK := Lib.hid (bt HB1.out hbk)
  clear hbk
  go_wp2
  go_ret
  exact ⟨rfl, HBK.out⟩
 | false =>
  rw [hg] at CG
  have CG := Lib.hid CG
  cases hgp : Dc.greatP d.p with
  | true =>
   rw [hgp] at CP
   have CP := Lib.hid CP
   clear hg hgp hin hip ht htt hq
   unfold pfv
   go_enter Tryz.func5, Tryz.ntmps5
   go_upto_region 1 with fail
   rw [HW0.out]
   go_wp2_with fail
   (with_reducible refine CG.out.mono ?_)
   rintro e w1 ⟨rfl, hb1⟩
   have HZ1 := Lib.hid hb1
   have HB1 := Lib.hid (bt HB0.out hb1)
   clear hb1 CG
   have hrz := HX.out w1 HZ1.out
   have x0 := hrz.cellQ 0 _ rfl
   have x1 := hrz.cellQ 1 _ rfl
   have x2 := hrz.cellQ 2 _ rfl
   have x3 := hrz.cellQ 3 _ rfl
   have x4 := hrz.cellQ 4 _ rfl
   have x5 := hrz.cellQ 5 _ rfl
   clear hrz
   go_wp2_with fail
   (with_reducible refine (CP.out _ HB1.out).mono ?_)
   rintro e w2 ⟨rfl, hb2⟩
   have HZ2 := Lib.hid (bt HZ1.out hb2)
   have HB2 := Lib.hid (bt HB1.out hb2)
   clear hb2 CP x0 x1 x2 x3 x4 x5
   go_wp2_with fail
   (with_reducible refine (KN.out _ HB2.out).mono ?_)
   rintro e wk ⟨rfl, hbk⟩
   have HBK := Lib.hid (bt HB2.out hbk)
   clear hbk
   go_wp2
   go_ret
   exact ⟨rfl, HBK.out⟩
  | false =>
   rw [hgp] at CP
   have CP := Lib.hid CP
   by_cases h2 : 200 < q
   ·
    have a2 : (200 : Int) < (q : Int) := by omega
    clear hg hgp hin hip ht htt hq
    unfold pfv
    go_enter Tryz.func5, Tryz.ntmps5
    go_upto_region 1 with fail
    rw [HW0.out]
    go_wp2_with fail
    (with_reducible refine CG.out.mono ?_)
    rintro e w1 ⟨rfl, hb1⟩
    have HZ1 := Lib.hid hb1
    have HB1 := Lib.hid (bt HB0.out hb1)
    clear hb1 CG
    have hrz := HX.out w1 HZ1.out
    have x0 := hrz.cellQ 0 _ rfl
    have x1 := hrz.cellQ 1 _ rfl
    have x2 := hrz.cellQ 2 _ rfl
    have x3 := hrz.cellQ 3 _ rfl
    have x4 := hrz.cellQ 4 _ rfl
    have x5 := hrz.cellQ 5 _ rfl
    clear hrz
    go_wp2_with fail
    (with_reducible refine (CP.out _ HB1.out).mono ?_)
    rintro e w2 ⟨rfl, hb2⟩
    have HZ2 := Lib.hid (bt HZ1.out hb2)
    have HB2 := Lib.hid (bt HB1.out hb2)
    clear hb2 CP x0 x1 x2 x3 x4 x5
    go_wp2_with fail
    (with_reducible refine (KN.out _ HB2.out).mono ?_)
    rintro e wk ⟨rfl, hbk⟩
    have HBK := Lib.hid (bt HB2.out hbk)
    clear hbk
    go_wp2
    go_ret
    exact ⟨rfl, HBK.out⟩
   ·
    have a2 : ¬ (200 : Int) < (q : Int) := by omega
    have hsl : s.length ≤ 200 := by omega
    obtain ⟨hl, hln⟩ := Dc.great_no hg
    have hlen := hin.q.len
    have hn : n ≤ 100 := by omega
    obtain ⟨_, hdl, _, _⟩ := Dc.greatP_no hgp
    have hnd : d.nd ≤ 100000 := by rw [← hip.i.b.len]; omega
    obtain ⟨R, hR⟩ : ∃ R, Dc.clash L s d.p = R := ⟨_, rfl⟩
    have hcs : CSmall R := by rw [← hR]; exact Dc.clash_small' (by omega)
    have CC := fun (W : World) (hW : Below w.heap.size w W) => tclash_any A n c L s d W (hin.keep hW) hl hn hsl (hip.i.keep hW) hip.pl hnd hip.at_ (ht.below hW) (htt.below hW)
    have CK := fun (W : World) (hW : Below w.heap.size w W) => rtclash_any A n c L s d W (hin.keep hW) hl hn hsl (hip.i.keep hW) hip.pl hnd hip.at_
    rw [hR] at CC CK
    unfold ResPost pfv at CC CK
    have CC := Lib.hid CC
    have CK := Lib.hid CK
    have CA := Lib.hid (fun (W : World) => asProof_any d.ap d.np d.cp d.ad d.nd d.cd d.p W)
    unfold RetV at CA
    have HTT := Lib.hid htt
    have HCS := Lib.hid hcs
    clear hg hgp hin hip ht htt hq hsl hl hln hlen hn hdl hnd hR hcs
    unfold pfv
    go_enter Tryz.func5, Tryz.ntmps5
    go_upto_region 1 with fail
    rw [HW0.out]
    go_wp2_with fail
    (with_reducible refine CG.out.mono ?_)
    rintro e w1 ⟨rfl, hb1⟩
    have HZ1 := Lib.hid hb1
    have HB1 := Lib.hid (bt HB0.out hb1)
    clear hb1 CG
    have hrz := HX.out w1 HZ1.out
    have x0 := hrz.cellQ 0 _ rfl
    have x1 := hrz.cellQ 1 _ rfl
    have x2 := hrz.cellQ 2 _ rfl
    have x3 := hrz.cellQ 3 _ rfl
    have x4 := hrz.cellQ 4 _ rfl
    have x5 := hrz.cellQ 5 _ rfl
    clear hrz
    go_wp2_with fail
    (with_reducible refine (CP.out _ HB1.out).mono ?_)
    rintro e w2 ⟨rfl, hb2⟩
    have HZ2 := Lib.hid (bt HZ1.out hb2)
    have HB2 := Lib.hid (bt HB1.out hb2)
    clear hb2 CP x0 x1 x2 x3 x4 x5
    have hrz := HX.out w2 HZ2.out
    have x0 := hrz.cellQ 0 _ rfl
    have x1 := hrz.cellQ 1 _ rfl
    have x2 := hrz.cellQ 2 _ rfl
    have x3 := hrz.cellQ 3 _ rfl
    have x4 := hrz.cellQ 4 _ rfl
    have x5 := hrz.cellQ 5 _ rfl
    clear hrz
    go_wp2_with fail
    (with_reducible refine (CC.out _ HB2.out).mono ?_)
    rintro e w3 ⟨A5, n5, c5, B5, m5, k5, rfl, hf1, hf2, hb3⟩
    have HZ3 := Lib.hid (bt HZ2.out hb3)
    have HB3 := Lib.hid (bt HB2.out hb3)
    clear hb3 CC x0 x1 x2 x3 x4 x5
    go_upto_region 4 with fail
    have hbx := (Below.refl w3.heap.size w3).alloc (Nat.le_refl _) (.cells #[.slice A5 n5 c5, .slice B5 m5 k5] 52)
    have hcb := CBox.new hf1 hf2
    obtain ⟨g4, hg4⟩ : ∃ g, w3.heap.size = g := ⟨_, rfl⟩
    obtain ⟨w4, hw4⟩ : ∃ W, w3.alloc (.cells #[.slice A5 n5 c5, .slice B5 m5 k5] 52) = W := ⟨_, rfl⟩
    rw [hw4] at hbx hcb ⊢
    have HZ4 := Lib.hid (bt HZ3.out hbx)
    have HB4 := Lib.hid (bt HB3.out hbx)
    rw [hg4] at hcb ⊢
    have HC4 := Lib.hid hcb
    clear hbx hcb hw4 hg4 hf1 hf2
    have hrz := HX.out w4 HZ4.out
    have x0 := hrz.cellQ 0 _ rfl
    have x1 := hrz.cellQ 1 _ rfl
    have x2 := hrz.cellQ 2 _ rfl
    have x3 := hrz.cellQ 3 _ rfl
    have x4 := hrz.cellQ 4 _ rfl
    have x5 := hrz.cellQ 5 _ rfl
    clear hrz
    go_wp2_with fail
    (with_reducible refine (CA.out w4).mono ?_)
    rintro e w5 ⟨rfl, hb5⟩
    have HB5 := Lib.hid (bt HB4.out hb5)
    have HC5 := Lib.hid (HC4.out.keep hb5)
    clear hb5 CA x0 x1 x2 x3 x4 x5
    go_wp2_with fail
    (with_reducible refine (CK.out _ HB5.out).mono ?_)
    rintro e w6 ⟨A7, n7, c7, B7, m7, k7, rfl, hf1, hf2, hb6⟩
    have HB6 := Lib.hid (bt HB5.out hb6)
    have HC6 := Lib.hid (HC5.out.keep hb6)
    clear hb6 CK
    go_upto_region 5 with fail
    have hbx := (Below.refl w6.heap.size w6).alloc (Nat.le_refl _) (.cells #[.slice A7 n7 c7, .slice B7 m7 k7] 55)
    have hcb := RBox.new hf1 hf2
    obtain ⟨g7, hg7⟩ : ∃ g, w6.heap.size = g := ⟨_, rfl⟩
    obtain ⟨w7, hw7⟩ : ∃ W, w6.alloc (.cells #[.slice A7 n7 c7, .slice B7 m7 k7] 55) = W := ⟨_, rfl⟩
    rw [hw7] at hbx hcb ⊢
    have HB7 := Lib.hid (bt HB6.out hbx)
    have HC7 := Lib.hid (HC6.out.keep hbx)
    rw [hg7] at hcb ⊢
    have HK7 := Lib.hid hcb
    have x0 := HC7.out.x0
    have x1 := HC7.out.x1
    have y0 := hcb.x0
    have y1 := hcb.x1
    have hq1 : ((str (cl1 R)).toList == (str (cl1 R)).toList) = true := by rw [strEq]; exact decide_eq_true rfl
    have hq2 : ((str (cl2 R)).toList == (str (cl2 R)).toList) = true := by rw [strEq]; exact decide_eq_true rfl
    clear hbx hcb hw7 hg7 hf1 hf2
    have CI := fun (hs : R.isSome = true) => HC7.out.is hs HCS.out (HTT.out.below HB7.out)
    unfold RetB at CI
    cases hr : R.isSome with
    | true =>
     have CI := Lib.hid (CI hr)
     clear hr
     go_wp2_with (first
      | (refine wl_of (by simp [Region.wanted, yielded]) fun K hK => wp_str 28 9 (.tmp 43) rfl 5 Tryz.underlying28 Tryz.underlying5 Tryz.underlying9 A5 _ c5 rfl w7.heap.size (cl1 R) HC7.out.ba.rd HC7.out.ba.len (hK _ _ ?_))
      | (refine wl_of (by simp [Region.wanted, yielded]) fun K hK => wp_str 28 9 (.tmp 46) rfl 5 Tryz.underlying28 Tryz.underlying5 Tryz.underlying9 A7 _ c7 rfl w7.heap.size (cl1 R) HK7.out.ba.rd HK7.out.ba.len (hK _ _ ?_))
      | (refine wl_of (by simp [Region.wanted, yielded]) fun K hK => wp_str 28 9 (.tmp 52) rfl 5 Tryz.underlying28 Tryz.underlying5 Tryz.underlying9 B5 _ k5 rfl w7.heap.size (cl2 R) HC7.out.bb.rd HC7.out.bb.len (hK _ _ ?_))
      | (refine wl_of (by simp [Region.wanted, yielded]) fun K hK => wp_str 28 9 (.tmp 55) rfl 5 Tryz.underlying28 Tryz.underlying5 Tryz.underlying9 B7 _ k7 rfl w7.heap.size (cl2 R) HK7.out.bb.rd HK7.out.bb.len (hK _ _ ?_)))
     (with_reducible refine CI.out.mono ?_)
     rintro e w8 ⟨rfl, hb8⟩
     have HB8 := Lib.hid (bt HB7.out hb8)
     clear hb8 CI
     go_wp2_with fail
     (with_reducible refine (KN.out _ HB8.out).mono ?_)
     rintro e wk ⟨rfl, hbk⟩
     have HBK := Lib.hid (bt HB8.out hbk)
     clear hbk
     go_wp2
     go_ret
     exact ⟨rfl, HBK.out⟩
    | false =>
     clear CI
     clear hr
     go_wp2_with (first
      | (refine wl_of (by simp [Region.wanted, yielded]) fun K hK => wp_str 28 9 (.tmp 43) rfl 5 Tryz.underlying28 Tryz.underlying5 Tryz.underlying9 A5 _ c5 rfl w7.heap.size (cl1 R) HC7.out.ba.rd HC7.out.ba.len (hK _ _ ?_))
      | (refine wl_of (by simp [Region.wanted, yielded]) fun K hK => wp_str 28 9 (.tmp 46) rfl 5 Tryz.underlying28 Tryz.underlying5 Tryz.underlying9 A7 _ c7 rfl w7.heap.size (cl1 R) HK7.out.ba.rd HK7.out.ba.len (hK _ _ ?_))
      | (refine wl_of (by simp [Region.wanted, yielded]) fun K hK => wp_str 28 9 (.tmp 52) rfl 5 Tryz.underlying28 Tryz.underlying5 Tryz.underlying9 B5 _ k5 rfl w7.heap.size (cl2 R) HC7.out.bb.rd HC7.out.bb.len (hK _ _ ?_))
      | (refine wl_of (by simp [Region.wanted, yielded]) fun K hK => wp_str 28 9 (.tmp 55) rfl 5 Tryz.underlying28 Tryz.underlying5 Tryz.underlying9 B7 _ k7 rfl w7.heap.size (cl2 R) HK7.out.bb.rd HK7.out.bb.len (hK _ _ ?_)))
     (with_reducible refine (KN.out _ HB7.out).mono ?_)
     rintro e wk ⟨rfl, hbk⟩
     have HBK := Lib.hid (bt HB7.out hbk)
     clear hbk
     go_wp2
     go_ret
     exact ⟨rfl, HBK.out⟩
end Go.Proofs.YteoledjllpgcbaaGreatDoor
