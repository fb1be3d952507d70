/- ReplySteps: the walk of the law. -/
import Derived.Test.YtfgpaepdlmnhaaaDoorMReplyD
namespace Go.Proofs.YtfgpaepdlmnhaaaDoor
set_option maxRecDepth 100000
set_option linter.unusedVariables false
open Go.RowKit
def Free.xB8 (B : Nat) (l : List UInt8) : Free.SV := ⟨fun v w => ∃ A n c, v = .slice A n c ∧ Own8 w B A n c l, fun v w w' ⟨A, n, c, h1, h2⟩ g => ⟨A, n, c, h1, h2.keep g⟩⟩
set_option maxRecDepth 100000 in
set_option maxHeartbeats 32000000 in
theorem replysteps_any (A : Option Addr) (n c : Nat) (Ad : Option Addr) (nd cd : Nat) (Ap : Option Addr) (np cp : Nat) (p : Hd.Stp) (w : World) (hi : InSt w A n c Ad nd cd Ap np cp p) (ht : Tabs w) : Calls Tryd.prog 5 #[.agg #[.int .i64 p.old.size, sv p.old.log, .slice A n c, .int .i64 p.new.size, sv p.new.log, .slice Ad nd cd, .slice Ap np cp]] w (RetB true w) := by
  have h1 := row_new w #[.int .i64 p.old.size, sv p.old.log, .slice A n c, .int .i64 p.new.size, sv p.new.log, .slice Ad nd cd, .slice Ap np cp] 62
  have hb := (Below.refl w.heap.size w).alloc (Nat.le_refl _) (.cells #[.int .i64 p.old.size, sv p.old.log, .slice A n c, .int .i64 p.new.size, sv p.new.log, .slice Ad nd cd, .slice Ap np cp] 62)
  obtain ⟨w1, hw1⟩ : ∃ W, w.alloc (.cells #[.int .i64 p.old.size, sv p.old.log, .slice A n c, .int .i64 p.new.size, sv p.new.log, .slice Ad nd cd, .slice Ap np cp] 62) = W := ⟨_, rfl⟩
  rw [hw1] at h1 hb
  have HW1 := Lib.hid hw1
  have HR0 := Lib.hid h1
  have HB0 := Lib.hid hb
  have HI := Lib.hid hi
  have HT := Lib.hid ht
  have CK := Lib.hid (fun W hb => knows18_any W (ht.below hb))
  unfold Yes at CK
  clear hw1 h1 hb hi ht
  by_cases hg0 : p.old.great = true
  · have HG0 := Lib.hid hg0
    clear hg0
    go_enter Tryd.func5, Tryd.ntmps5
    go_upto_region 1 with fail
    rw [HW1.out]
    have x0 := HR0.out.cellQ 0 _ rfl
    have x1 := HR0.out.cellQ 1 _ rfl
    have x2 := HR0.out.cellQ 2 _ rfl
    have x3 := HR0.out.cellQ 3 _ rfl
    have x4 := HR0.out.cellQ 4 _ rfl
    have x5 := HR0.out.cellQ 5 _ rfl
    have x6 := HR0.out.cellQ 6 _ rfl
    have C := great15_any A n c p.old w1 (HI.out.o.q.keep HB0.out) HI.out.o.r HI.out.o.l
    rw [HG0.out] at C
    have C := Lib.hid C
    unfold RetB at C
    go_wp2_with fail
    (with_reducible refine C.out.mono ?_)
    rintro e w2 ⟨rfl, hb9⟩
    have HB1 := Lib.hid (bt HB0.out hb9)
    have HR1 := Lib.hid (HR0.out.belowS hb9 (Nat.le_refl _))
    clear hb9 C x0 x1 x2 x3 x4 x5 x6
    have x0 := HR1.out.cellQ 0 _ rfl
    have x1 := HR1.out.cellQ 1 _ rfl
    have x2 := HR1.out.cellQ 2 _ rfl
    have x3 := HR1.out.cellQ 3 _ rfl
    have x4 := HR1.out.cellQ 4 _ rfl
    have x5 := HR1.out.cellQ 5 _ rfl
    have x6 := HR1.out.cellQ 6 _ rfl
    go_wp2_with fail
    (with_reducible refine (CK.out _ HB1.out).mono ?_)
    rintro e wk ⟨rfl, hbk⟩
    have HBK := Lib.hid (bt HB1.out hbk)
    clear hbk
    go_wp2
    go_ret
    exact ⟨rfl, HBK.out⟩
  replace hg0 : (p.old.great) = false := by simpa using hg0
  have HG0 := Lib.hid hg0
  by_cases hg1 : p.new.great = true
  · have HG1 := Lib.hid hg1
    clear hg0 hg1
    go_enter Tryd.func5, Tryd.ntmps5
    go_upto_region 1 with fail
    rw [HW1.out]
    have x0 := HR0.out.cellQ 0 _ rfl
    have x1 := HR0.out.cellQ 1 _ rfl
    have x2 := HR0.out.cellQ 2 _ rfl
    have x3 := HR0.out.cellQ 3 _ rfl
    have x4 := HR0.out.cellQ 4 _ rfl
    have x5 := HR0.out.cellQ 5 _ rfl
    have x6 := HR0.out.cellQ 6 _ rfl
    have C := great15_any A n c p.old w1 (HI.out.o.q.keep HB0.out) HI.out.o.r HI.out.o.l
    rw [HG0.out] at C
    have C := Lib.hid C
    unfold RetB at C
    go_wp2_with fail
    (with_reducible refine C.out.mono ?_)
    rintro e w2 ⟨rfl, hb9⟩
    have HB1 := Lib.hid (bt HB0.out hb9)
    have HR1 := Lib.hid (HR0.out.belowS hb9 (Nat.le_refl _))
    clear hb9 C x0 x1 x2 x3 x4 x5 x6
    have x0 := HR1.out.cellQ 0 _ rfl
    have x1 := HR1.out.cellQ 1 _ rfl
    have x2 := HR1.out.cellQ 2 _ rfl
    have x3 := HR1.out.cellQ 3 _ rfl
    have x4 := HR1.out.cellQ 4 _ rfl
    have x5 := HR1.out.cellQ 5 _ rfl
    have x6 := HR1.out.cellQ 6 _ rfl
    have C := great15_any Ad nd cd p.new w2 (HI.out.n.q.keep HB1.out) HI.out.n.r HI.out.n.l
    rw [HG1.out] at C
    have C := Lib.hid C
    unfold RetB at C
    go_wp2_with fail
    (with_reducible refine C.out.mono ?_)
    rintro e w3 ⟨rfl, hb9⟩
    have HB2 := Lib.hid (bt HB1.out hb9)
    have HR2 := Lib.hid (HR1.out.belowS hb9 (Nat.le_refl _))
    clear hb9 C x0 x1 x2 x3 x4 x5 x6
    have x0 := HR2.out.cellQ 0 _ rfl
    have x1 := HR2.out.cellQ 1 _ rfl
    have x2 := HR2.out.cellQ 2 _ rfl
    have x3 := HR2.out.cellQ 3 _ rfl
    have x4 := HR2.out.cellQ 4 _ rfl
    have x5 := HR2.out.cellQ 5 _ rfl
    have x6 := HR2.out.cellQ 6 _ rfl
    go_wp2_with fail
    (with_reducible refine (CK.out _ HB2.out).mono ?_)
    rintro e wk ⟨rfl, hbk⟩
    have HBK := Lib.hid (bt HB2.out hbk)
    clear hbk
    go_wp2
    go_ret
    exact ⟨rfl, HBK.out⟩
  replace hg1 : (p.new.great) = false := by simpa using hg1
  have HG1 := Lib.hid hg1
  by_cases hg2 : Tree.great p.proof = true
  · have HG2 := Lib.hid hg2
    clear hg0 hg1 hg2
    go_enter Tryd.func5, Tryd.ntmps5
    go_upto_region 1 with fail
    rw [HW1.out]
    have x0 := HR0.out.cellQ 0 _ rfl
    have x1 := HR0.out.cellQ 1 _ rfl
    have x2 := HR0.out.cellQ 2 _ rfl
    have x3 := HR0.out.cellQ 3 _ rfl
    have x4 := HR0.out.cellQ 4 _ rfl
    have x5 := HR0.out.cellQ 5 _ rfl
    have x6 := HR0.out.cellQ 6 _ rfl
    have C := great15_any A n c p.old w1 (HI.out.o.q.keep HB0.out) HI.out.o.r HI.out.o.l
    rw [HG0.out] at C
    have C := Lib.hid C
    unfold RetB at C
    go_wp2_with fail
    (with_reducible refine C.out.mono ?_)
    rintro e w2 ⟨rfl, hb9⟩
    have HB1 := Lib.hid (bt HB0.out hb9)
    have HR1 := Lib.hid (HR0.out.belowS hb9 (Nat.le_refl _))
    clear hb9 C x0 x1 x2 x3 x4 x5 x6
    have x0 := HR1.out.cellQ 0 _ rfl
    have x1 := HR1.out.cellQ 1 _ rfl
    have x2 := HR1.out.cellQ 2 _ rfl
    have x3 := HR1.out.cellQ 3 _ rfl
    have x4 := HR1.out.cellQ 4 _ rfl
    have x5 := HR1.out.cellQ 5 _ rfl
    have x6 := HR1.out.cellQ 6 _ rfl
    have C := great15_any Ad nd cd p.new w2 (HI.out.n.q.keep HB1.out) HI.out.n.r HI.out.n.l
    rw [HG1.out] at C
    have C := Lib.hid C
    unfold RetB at C
    go_wp2_with fail
    (with_reducible refine C.out.mono ?_)
    rintro e w3 ⟨rfl, hb9⟩
    have HB2 := Lib.hid (bt HB1.out hb9)
    have HR2 := Lib.hid (HR1.out.belowS hb9 (Nat.le_refl _))
    clear hb9 C x0 x1 x2 x3 x4 x5 x6
    have x0 := HR2.out.cellQ 0 _ rfl
    have x1 := HR2.out.cellQ 1 _ rfl
    have x2 := HR2.out.cellQ 2 _ rfl
    have x3 := HR2.out.cellQ 3 _ rfl
    have x4 := HR2.out.cellQ 4 _ rfl
    have x5 := HR2.out.cellQ 5 _ rfl
    have x6 := HR2.out.cellQ 6 _ rfl
    have C := great6_any Ap np cp p.proof w3 (HI.out.s.keep HB2.out) HI.out.pl
    rw [HG2.out] at C
    have C := Lib.hid C
    go_wp2_with fail
    (with_reducible refine C.out.mono ?_)
    rintro e wz ⟨rfl, rfl⟩
    clear C
    go_wp2_with fail
    (with_reducible refine (CK.out _ HB2.out).mono ?_)
    rintro e wk ⟨rfl, hbk⟩
    have HBK := Lib.hid (bt HB2.out hbk)
    clear hbk
    go_wp2
    go_ret
    exact ⟨rfl, HBK.out⟩
  replace hg2 : (Tree.great p.proof) = false := by simpa using hg2
  have HG2 := Lib.hid hg2
  have HM := Lib.hid (show At_step w A n c Ad nd cd Ap np cp p from ⟨HI.out.o.q, (fun s hs => by have := (Hd.H.great_no hg0).1 s hs; omega), (by have := (Hd.H.great_no hg0).2.2; omega), (by have := (Hd.H.great_no hg0).2.1; omega), HI.out.n.q, (fun s hs => by have := (Hd.H.great_no hg1).1 s hs; omega), (by have := (Hd.H.great_no hg1).2.2; omega), (by have := (Hd.H.great_no hg1).2.1; omega), HI.out.s, (fun s hs => by have := (Tree.great_no hg2).1 s hs; omega), (by have := (Tree.great_no hg2).2; omega)⟩)
  clear hg0 hg1 hg2
  have CW := fun (W : World) (hW : Below w.heap.size w W) => wr_step (w := W) p (fun W' h' => (HM.out.keep (hW.trans (h'.mono hW.size))).qold) HM.out.rold HM.out.lold (fun W' h' => (HM.out.keep (hW.trans (h'.mono hW.size))).qnew) HM.out.rnew HM.out.lnew (fun W' h' => (HM.out.keep (hW.trans (h'.mono hW.size))).qproof) (fun d hd => by have := HM.out.lproof d hd; omega)
  cases hf : p.fair with
  | false =>
    rw [Hd.wrStep_no hf] at CW
    unfold WrPost at CW
    have CW := Lib.hid CW
    have HF := Lib.hid hf
    clear hf
    go_enter Tryd.func5, Tryd.ntmps5
    go_upto_region 1 with fail
    rw [HW1.out]
    have x0 := HR0.out.cellQ 0 _ rfl
    have x1 := HR0.out.cellQ 1 _ rfl
    have x2 := HR0.out.cellQ 2 _ rfl
    have x3 := HR0.out.cellQ 3 _ rfl
    have x4 := HR0.out.cellQ 4 _ rfl
    have x5 := HR0.out.cellQ 5 _ rfl
    have x6 := HR0.out.cellQ 6 _ rfl
    have C := great15_any A n c p.old w1 (HI.out.o.q.keep HB0.out) HI.out.o.r HI.out.o.l
    rw [HG0.out] at C
    have C := Lib.hid C
    unfold RetB at C
    go_wp2_with fail
    (with_reducible refine C.out.mono ?_)
    rintro e w2 ⟨rfl, hb9⟩
    have HB1 := Lib.hid (bt HB0.out hb9)
    have HR1 := Lib.hid (HR0.out.belowS hb9 (Nat.le_refl _))
    clear hb9 C x0 x1 x2 x3 x4 x5 x6
    have x0 := HR1.out.cellQ 0 _ rfl
    have x1 := HR1.out.cellQ 1 _ rfl
    have x2 := HR1.out.cellQ 2 _ rfl
    have x3 := HR1.out.cellQ 3 _ rfl
    have x4 := HR1.out.cellQ 4 _ rfl
    have x5 := HR1.out.cellQ 5 _ rfl
    have x6 := HR1.out.cellQ 6 _ rfl
    have C := great15_any Ad nd cd p.new w2 (HI.out.n.q.keep HB1.out) HI.out.n.r HI.out.n.l
    rw [HG1.out] at C
    have C := Lib.hid C
    unfold RetB at C
    go_wp2_with fail
    (with_reducible refine C.out.mono ?_)
    rintro e w3 ⟨rfl, hb9⟩
    have HB2 := Lib.hid (bt HB1.out hb9)
    have HR2 := Lib.hid (HR1.out.belowS hb9 (Nat.le_refl _))
    clear hb9 C x0 x1 x2 x3 x4 x5 x6
    have x0 := HR2.out.cellQ 0 _ rfl
    have x1 := HR2.out.cellQ 1 _ rfl
    have x2 := HR2.out.cellQ 2 _ rfl
    have x3 := HR2.out.cellQ 3 _ rfl
    have x4 := HR2.out.cellQ 4 _ rfl
    have x5 := HR2.out.cellQ 5 _ rfl
    have x6 := HR2.out.cellQ 6 _ rfl
    have C := great6_any Ap np cp p.proof w3 (HI.out.s.keep HB2.out) HI.out.pl
    rw [HG2.out] at C
    have C := Lib.hid C
    go_wp2_with fail
    (with_reducible refine C.out.mono ?_)
    rintro e wz ⟨rfl, rfl⟩
    clear C
    go_wp2_with fail
    (with_reducible refine (CW.out _ HB2.out).mono ?_)
    rintro e w20 ⟨hb9, rfl⟩
    have HB20 := Lib.hid (bt HB2.out hb9)
    have HR20 := Lib.hid (HR2.out.belowS hb9 (Nat.le_refl _))
    clear hb9 x0 x1 x2 x3 x4 x5 x6
    have x0 := HR20.out.cellQ 0 _ rfl
    have x1 := HR20.out.cellQ 1 _ rfl
    have x2 := HR20.out.cellQ 2 _ rfl
    have x3 := HR20.out.cellQ 3 _ rfl
    have x4 := HR20.out.cellQ 4 _ rfl
    have x5 := HR20.out.cellQ 5 _ rfl
    have x6 := HR20.out.cellQ 6 _ rfl
    have C := Lib.hid (as_step A n c Ad nd cd Ap np cp p w20 (HM.out.keep HB20.out))
    unfold AsPost_step at C
    go_wp2_with fail
    (with_reducible refine C.out.mono ?_)
    rintro e w21 ⟨A1', n1', c1', A2', n2', c2', rfl, hq0, hq1, hb9⟩
    have HB21 := Lib.hid (bt HB20.out hb9)
    have HR21 := Lib.hid (HR20.out.belowS hb9 (Nat.le_refl _))
    have HA := Lib.hid (show At_step w21 A1' n1' c1' A2' n2' c2' Ap np cp p from ⟨hq0.sq, HM.out.rold, HM.out.lold, HM.out.nold, hq1.sq, HM.out.rnew, HM.out.lnew, HM.out.nnew, (HM.out.keep HB21.out).qproof, HM.out.lproof, HM.out.nproof⟩)
    have C2 := Lib.hid (fair_step A1' n1' c1' A2' n2' c2' Ap np cp p w21 HA.out)
    unfold RetB at C2
    clear hb9 C hq0 hq1 x0 x1 x2 x3 x4 x5 x6
    go_wp2_with fail
    (with_reducible refine C2.out.mono ?_)
    rintro e w22 ⟨rfl, hb9⟩
    rw [HF.out]
    have HB22 := Lib.hid (bt HB21.out hb9)
    have HR22 := Lib.hid (HR21.out.belowS hb9 (Nat.le_refl _))
    clear hb9 C2
    go_wp2_with fail
    (with_reducible refine (CK.out _ HB22.out).mono ?_)
    rintro e wk ⟨rfl, hbk⟩
    have HBK := Lib.hid (bt HB22.out hbk)
    clear hbk
    go_wp2
    go_ret
    exact ⟨rfl, HBK.out⟩
  | true =>
    rw [Hd.wrStep_ok hf] at CW
    unfold WrPost at CW
    have CW := Lib.hid CW
    have HF := Lib.hid hf
    have HRB := Lib.hid (Hd.rdStep_bytes hf)
    have HFI := Lib.hid (Hd.Stp.fair_iff.1 hf)
    have HBL := Lib.hid (Hd.Stp.bytes_len hf)
    clear hf
    go_enter Tryd.func5, Tryd.ntmps5
    go_upto_region 1 with fail
    rw [HW1.out]
    have x0 := HR0.out.cellQ 0 _ rfl
    have x1 := HR0.out.cellQ 1 _ rfl
    have x2 := HR0.out.cellQ 2 _ rfl
    have x3 := HR0.out.cellQ 3 _ rfl
    have x4 := HR0.out.cellQ 4 _ rfl
    have x5 := HR0.out.cellQ 5 _ rfl
    have x6 := HR0.out.cellQ 6 _ rfl
    have C := great15_any A n c p.old w1 (HI.out.o.q.keep HB0.out) HI.out.o.r HI.out.o.l
    rw [HG0.out] at C
    have C := Lib.hid C
    unfold RetB at C
    go_wp2_with fail
    (with_reducible refine C.out.mono ?_)
    rintro e w2 ⟨rfl, hb9⟩
    have HB1 := Lib.hid (bt HB0.out hb9)
    have HR1 := Lib.hid (HR0.out.belowS hb9 (Nat.le_refl _))
    clear hb9 C x0 x1 x2 x3 x4 x5 x6
    have x0 := HR1.out.cellQ 0 _ rfl
    have x1 := HR1.out.cellQ 1 _ rfl
    have x2 := HR1.out.cellQ 2 _ rfl
    have x3 := HR1.out.cellQ 3 _ rfl
    have x4 := HR1.out.cellQ 4 _ rfl
    have x5 := HR1.out.cellQ 5 _ rfl
    have x6 := HR1.out.cellQ 6 _ rfl
    have C := great15_any Ad nd cd p.new w2 (HI.out.n.q.keep HB1.out) HI.out.n.r HI.out.n.l
    rw [HG1.out] at C
    have C := Lib.hid C
    unfold RetB at C
    go_wp2_with fail
    (with_reducible refine C.out.mono ?_)
    rintro e w3 ⟨rfl, hb9⟩
    have HB2 := Lib.hid (bt HB1.out hb9)
    have HR2 := Lib.hid (HR1.out.belowS hb9 (Nat.le_refl _))
    clear hb9 C x0 x1 x2 x3 x4 x5 x6
    have x0 := HR2.out.cellQ 0 _ rfl
    have x1 := HR2.out.cellQ 1 _ rfl
    have x2 := HR2.out.cellQ 2 _ rfl
    have x3 := HR2.out.cellQ 3 _ rfl
    have x4 := HR2.out.cellQ 4 _ rfl
    have x5 := HR2.out.cellQ 5 _ rfl
    have x6 := HR2.out.cellQ 6 _ rfl
    have C := great6_any Ap np cp p.proof w3 (HI.out.s.keep HB2.out) HI.out.pl
    rw [HG2.out] at C
    have C := Lib.hid C
    go_wp2_with fail
    (with_reducible refine C.out.mono ?_)
    rintro e wz ⟨rfl, rfl⟩
    clear C
    go_wp2_with fail
    (with_reducible refine (CW.out _ HB2.out).mono ?_)
    rintro e w20 ⟨hb9, A3, n3, c3, rfl, ho3⟩
    have HO3 := Lib.hid ho3
    clear ho3
    have HB20 := Lib.hid (bt HB2.out hb9)
    have HR20 := Lib.hid (HR2.out.belowS hb9 (Nat.le_refl _))
    clear hb9 x0 x1 x2 x3 x4 x5 x6
    have x0 := HR20.out.cellQ 0 _ rfl
    have x1 := HR20.out.cellQ 1 _ rfl
    have x2 := HR20.out.cellQ 2 _ rfl
    have x3 := HR20.out.cellQ 3 _ rfl
    have x4 := HR20.out.cellQ 4 _ rfl
    have x5 := HR20.out.cellQ 5 _ rfl
    have x6 := HR20.out.cellQ 6 _ rfl
    have C := Lib.hid (as_step A n c Ad nd cd Ap np cp p w20 (HM.out.keep HB20.out))
    unfold AsPost_step at C
    go_wp2_with fail
    (with_reducible refine C.out.mono ?_)
    rintro e w21 ⟨A1', n1', c1', A2', n2', c2', rfl, hq0, hq1, hb9⟩
    have HB21 := Lib.hid (bt HB20.out hb9)
    have HR21 := Lib.hid (HR20.out.belowS hb9 (Nat.le_refl _))
    have HO21 := Lib.hid (HO3.out.keep hb9)
    have HA := Lib.hid (show At_step w21 A1' n1' c1' A2' n2' c2' Ap np cp p from ⟨hq0.sq, HM.out.rold, HM.out.lold, HM.out.nold, hq1.sq, HM.out.rnew, HM.out.lnew, HM.out.nnew, (HM.out.keep HB21.out).qproof, HM.out.lproof, HM.out.nproof⟩)
    have C2 := Lib.hid (fair_step A1' n1' c1' A2' n2' c2' Ap np cp p w21 HA.out)
    unfold RetB at C2
    clear hb9 C hq0 hq1 x0 x1 x2 x3 x4 x5 x6
    go_wp2_with fail
    (with_reducible refine C2.out.mono ?_)
    rintro e w22 ⟨rfl, hb9⟩
    rw [HF.out]
    have HB22 := Lib.hid (bt HB21.out hb9)
    have HR22 := Lib.hid (HR21.out.belowS hb9 (Nat.le_refl _))
    have HO22 := Lib.hid (HO21.out.keep hb9)
    clear hb9 C2
    have CR := rd_step A3 n3 c3 p.bytes w22 HO22.out.bs (by have := HBL.out; omega)
    rw [HRB.out] at CR
    have CR := Lib.hid CR
    unfold RdPost_step at CR
    go_wp2_with fail
    (with_reducible refine CR.out.mono ?_)
    rintro e w23 ⟨hb9, Ax, nx, cx, Adx, ndx, cdx, Apx, npx, cpx, rfl, ho0, ho1, ho2⟩
    have HB23 := Lib.hid (bt HB22.out hb9)
    have HR23 := Lib.hid (HR22.out.belowS hb9 (Nat.le_refl _))
    have HO23 := Lib.hid (HO22.out.keep hb9)
    have HX := Lib.hid (show At_step w23 Ax nx cx Adx ndx cdx Apx npx cpx p from ⟨ho0.sq, HM.out.rold, HM.out.lold, HM.out.nold, ho1.sq, HM.out.rnew, HM.out.lnew, HM.out.nnew, ho2.ss, HM.out.lproof, HM.out.nproof⟩)
    clear hb9 CR ho0 ho1 ho2
    obtain rfl : np = npx := by rw [← HM.out.qproof.len, ← HX.out.qproof.len]
    go_upto_region 7 with fail
    have hb24 := (Below.refl w23.heap.size w23).alloc (Nat.le_refl _) (.cells #[.int .i64 p.old.size, sv p.old.log, .slice Ax nx cx, .int .i64 p.new.size, sv p.new.log, .slice Adx ndx cdx, .slice Apx np cpx] 62)
    have hr24 := row_new w23 #[.int .i64 p.old.size, sv p.old.log, .slice Ax nx cx, .int .i64 p.new.size, sv p.new.log, .slice Adx ndx cdx, .slice Apx np cpx] 62
    obtain ⟨w24, hw24⟩ : ∃ W, w23.alloc (.cells #[.int .i64 p.old.size, sv p.old.log, .slice Ax nx cx, .int .i64 p.new.size, sv p.new.log, .slice Adx ndx cdx, .slice Apx np cpx] 62) = W := ⟨_, rfl⟩
    rw [hw24] at hb24 hr24 ⊢
    have HB24 := Lib.hid (bt HB23.out hb24)
    have HR24 := Lib.hid (HR23.out.belowS hb24 (Nat.le_refl _))
    have HX24 := Lib.hid (HX.out.keep hb24)
    have HO24 := Lib.hid (HO23.out.keep hb24)
    have HY24 := Lib.hid hr24
    clear hw24 hb24 hr24
    refine Free.wp_free_l 26 (fun W => (Row W w.heap.size #[.int .i64 p.old.size, sv p.old.log, .slice A n c, .int .i64 p.new.size, sv p.new.log, .slice Ad nd cd, .slice Ap np cp] 62 ∧ Row W w23.heap.size #[.int .i64 p.old.size, sv p.old.log, .slice Ax nx cx, .int .i64 p.new.size, sv p.new.log, .slice Adx ndx cdx, .slice Apx np cpx] 62) ∧ Below w24.heap.size w24 W) [Free.kc (.slice A3 n3 c3), Free.kc (sv p.bytes), Free.kc (.agg #[.int .i64 p.old.size, sv p.old.log, .slice A n c, .int .i64 p.new.size, sv p.new.log, .slice Ad nd cd, .slice Ap np cp]), Free.xMstep (w24.heap.size) (A) (n) (c) (Ad) (nd) (cd) (Ap) (np) (cp) (p), Free.xB8 (w24.heap.size) (p.bytes), Free.kc (sv p.bytes), Free.kc (.bool true), Free.kc (.bool true), Free.kc (.int .i64 0), Free.kc (.bool true), Free.kc (.bool true), Free.kc (.bool true), Free.kc (.agg #[.int .i64 p.old.size, sv p.old.log, .slice Ax nx cx, .int .i64 p.new.size, sv p.new.log, .slice Adx ndx cdx, .slice Apx np cpx]), Free.xMstep (w24.heap.size) (Ax) (nx) (cx) (Adx) (ndx) (cdx) (Apx) (np) (cpx) (p), Free.kc (.agg #[.int .i64 p.old.size, sv p.old.log, .slice A n c, .int .i64 p.new.size, sv p.new.log, .slice Ad nd cd, .slice Ap np cp]), Free.xMstep (w24.heap.size) (A) (n) (c) (Ad) (nd) (cd) (Ap) (np) (cp) (p), Free.kc (.bool true), Free.kc (.bool true), Free.kc (.bool true), Free.kc (.int .i64 0), Free.kc (.bool true), Free.kc (.bool true), Free.kc (.bool true), Free.kc (.bool true), Free.kc (.bool true), Free.kc (.bool true)] (by kernel_rfl) (by kernel_rfl) (by decide) ⟨⟨HR24.out.drew, HY24.out.drew⟩, bel_drew _ _⟩ (fun W W' h g => ⟨⟨h.1.1.belowS g (Nat.le_refl _), h.1.2.belowS g (Nat.le_refl _)⟩, bt h.2 g⟩) ?_ ?_
    · refine Free.forall_succ (Free.forall_succ (Free.forall_succ (Free.forall_succ (Free.forall_succ (Free.forall_succ (Free.forall_succ (Free.forall_succ (Free.forall_succ (Free.forall_succ (Free.forall_succ (Free.forall_succ (Free.forall_succ (Free.forall_succ (Free.forall_succ (Free.forall_succ (Free.forall_succ (Free.forall_succ (Free.forall_succ (Free.forall_succ (Free.forall_succ (Free.forall_succ (Free.forall_succ (Free.forall_succ (Free.forall_succ (Free.forall_succ (Free.forall_zero) ?_) ?_) ?_) ?_) ?_) ?_) ?_) ?_) ?_) ?_) ?_) ?_) ?_) ?_) ?_) ?_) ?_) ?_) ?_) ?_) ?_) ?_) ?_) ?_) ?_) ?_
      · exact Free.ob_plain _ rfl rfl fun vals wq hC hd => (by exact Free.d_move rfl (by kernel_rfl) rfl)
      · exact Free.ob_plain _ rfl rfl fun vals wq hC hd => (by exact Free.d_conv rfl (Eq.trans (b := vals 0) (by kernel_rfl) (hd 0 (by kernel_rfl))) (run_str (P := Tryd.prog) 30 9 5 Tryd.underlying30 Tryd.underlying5 Tryd.underlying9 A3 n3 c3 _ p.bytes (HO24.out.keep hC.2).bs.rd (HO24.out.keep hC.2).len) (Below.refl _ _) rfl)
      · exact Free.ob_plain _ rfl rfl fun vals wq hC hd => (by exact Free.d_load (cx := .pointer (some ⟨w.heap.size, 0, none⟩)) rfl (by kernel_rfl) (by have a0 := hC.1.1.cellQ 0 _ rfl; have a1 := hC.1.1.cellQ 1 _ rfl; have a2 := hC.1.1.cellQ 2 _ rfl; have a3 := hC.1.1.cellQ 3 _ rfl; have a4 := hC.1.1.cellQ 4 _ rfl; have a5 := hC.1.1.cellQ 5 _ rfl; have a6 := hC.1.1.cellQ 6 _ rfl; go_simp) rfl)
      · exact Free.ob_plain _ rfl rfl fun vals wq hC hd => (by exact Free.d_call Tryd.func26 rfl rfl rfl rfl (Free.arg1 (Eq.trans (b := vals 2) (by kernel_rfl) (hd 2 (by kernel_rfl)))) ((as_step A n c Ad nd cd Ap np cp p wq (HM.out.keep (bt HB24.out hC.2))).mono fun e w2 h => by obtain ⟨a0, b0, c0, a1, b1, c1, he, g0, g1, hb⟩ := h; exact ⟨_, he, ⟨a0, b0, c0, a1, b1, c1, rfl, g0.base hC.2.size, g1.base hC.2.size⟩, hb⟩))
      · exact Free.ob_plain _ rfl rfl fun vals wq hC hd => (by obtain ⟨A3, n3, k3, B3, m3, j3, e3, ow3, ox3⟩ := hd 3 (by kernel_rfl); exact Free.d_call Tryd.func28 rfl rfl rfl rfl (Free.arg1 (Eq.trans (b := vals 3) (by kernel_rfl) e3)) ((wrB_step A3 n3 k3 B3 m3 j3 Ap np cp p wq (show At_step wq A3 n3 k3 B3 m3 j3 Ap np cp p from ⟨ow3.sq, HM.out.rold, HM.out.lold, HM.out.nold, ox3.sq, HM.out.rnew, HM.out.lnew, HM.out.nnew, (HM.out.keep (bt HB24.out hC.2)).qproof, HM.out.lproof, HM.out.nproof⟩) (Hd.H.ok_iff HFI.out.1) (Hd.H.ok_iff HFI.out.2.1) (by have := HFI.out.2.2; unfold Hd.pathsOk at this; simp only [Bool.and_eq_true, decide_eq_true_eq] at this; exact this.1)).mono fun e w2 h => by obtain ⟨a, b, c, he, ho, hb⟩ := h; exact ⟨_, he, ⟨a, b, c, rfl, ho.base hC.2.size⟩, hb⟩))
      · exact Free.ob_plain _ rfl rfl fun vals wq hC hd => (by obtain ⟨A4, n4, k4, e4, ow4⟩ := hd 4 (by kernel_rfl); exact Free.d_conv rfl (Eq.trans (b := vals 4) (by kernel_rfl) e4) (run_str (P := Tryd.prog) 30 9 5 Tryd.underlying30 Tryd.underlying5 Tryd.underlying9 A4 n4 k4 _ p.bytes ow4.bs.rd ow4.len) (Below.refl _ _) rfl)
      · exact Free.ob_plain _ rfl rfl fun vals wq hC hd => (by exact Free.d_bin rfl (Eq.trans (b := vals 1) (by kernel_rfl) (hd 1 (by kernel_rfl))) (Eq.trans (b := vals 5) (by kernel_rfl) (hd 5 (by kernel_rfl))) (by go_simp) (by go_simp) rfl)
      · exact Free.ob_plain _ rfl rfl fun vals wq hC hd => (by exact Free.d_move rfl (Eq.trans (b := vals 6) (by kernel_rfl) (hd 6 (by kernel_rfl))) rfl)
      · exact Free.ob_guard _ rfl 7 52 true rfl rfl fun vals wq hC hd => ⟨Eq.trans (b := vals 7) (by kernel_rfl) (hd 7 (by kernel_rfl)), (by exact Free.d_move rfl (by kernel_rfl) rfl)⟩
      · exact Free.ob_guard _ rfl 7 52 true rfl rfl fun vals wq hC hd => ⟨Eq.trans (b := vals 7) (by kernel_rfl) (hd 7 (by kernel_rfl)), (by exact Free.d_bin rfl (Eq.trans (b := vals 8) (by kernel_rfl) (hd 8 (by kernel_rfl))) (show _ = (.int .i64 0 : Value) from rfl) (by go_simp) (by first | (go_simp; done) | (go_simp; rw [IntWalk.u32_in _ (by omega)]) | (go_simp; rw [IntWalk.i64_in _ (by omega)]) | (go_simp; rw [IntWalk.u8_in _ (by omega)]) | (go_simp; rw [IntKind.wrap_u32]; exact nv_add _ _)) rfl)⟩
      · exact Free.ob_plain _ rfl rfl fun vals wq hC hd => (by exact Free.d_pick rfl (Eq.trans (b := vals 7) (by kernel_rfl) (hd 7 (by kernel_rfl))) (Eq.trans (b := vals 9) (by kernel_rfl) (hd 9 (by kernel_rfl))) rfl)
      · exact Free.ob_plain _ rfl rfl fun vals wq hC hd => (by exact Free.d_move rfl (Eq.trans (b := vals 10) (by kernel_rfl) (hd 10 (by kernel_rfl))) rfl)
      · exact Free.ob_guard _ rfl 11 56 true rfl rfl fun vals wq hC hd => ⟨Eq.trans (b := vals 11) (by kernel_rfl) (hd 11 (by kernel_rfl)), (by exact Free.d_load (cx := .pointer (some ⟨w23.heap.size, 0, none⟩)) rfl (by kernel_rfl) (by have a0 := hC.1.2.cellQ 0 _ rfl; have a1 := hC.1.2.cellQ 1 _ rfl; have a2 := hC.1.2.cellQ 2 _ rfl; have a3 := hC.1.2.cellQ 3 _ rfl; have a4 := hC.1.2.cellQ 4 _ rfl; have a5 := hC.1.2.cellQ 5 _ rfl; have a6 := hC.1.2.cellQ 6 _ rfl; go_simp) rfl)⟩
      · exact Free.ob_guard _ rfl 11 56 true rfl rfl fun vals wq hC hd => ⟨Eq.trans (b := vals 11) (by kernel_rfl) (hd 11 (by kernel_rfl)), (by exact Free.d_call Tryd.func26 rfl rfl rfl rfl (Free.arg1 (Eq.trans (b := vals 12) (by kernel_rfl) (hd 12 (by kernel_rfl)))) ((as_step Ax nx cx Adx ndx cdx Apx np cpx p wq (HX24.out.keep hC.2)).mono fun e w2 h => by obtain ⟨a0, b0, c0, a1, b1, c1, he, g0, g1, hb⟩ := h; exact ⟨_, he, ⟨a0, b0, c0, a1, b1, c1, rfl, g0.base hC.2.size, g1.base hC.2.size⟩, hb⟩))⟩
      · exact Free.ob_guard _ rfl 11 56 true rfl rfl fun vals wq hC hd => ⟨Eq.trans (b := vals 11) (by kernel_rfl) (hd 11 (by kernel_rfl)), (by exact Free.d_load (cx := .pointer (some ⟨w.heap.size, 0, none⟩)) rfl (by kernel_rfl) (by have a0 := hC.1.1.cellQ 0 _ rfl; have a1 := hC.1.1.cellQ 1 _ rfl; have a2 := hC.1.1.cellQ 2 _ rfl; have a3 := hC.1.1.cellQ 3 _ rfl; have a4 := hC.1.1.cellQ 4 _ rfl; have a5 := hC.1.1.cellQ 5 _ rfl; have a6 := hC.1.1.cellQ 6 _ rfl; go_simp) rfl)⟩
      · exact Free.ob_guard _ rfl 11 56 true rfl rfl fun vals wq hC hd => ⟨Eq.trans (b := vals 11) (by kernel_rfl) (hd 11 (by kernel_rfl)), (by exact Free.d_call Tryd.func26 rfl rfl rfl rfl (Free.arg1 (Eq.trans (b := vals 14) (by kernel_rfl) (hd 14 (by kernel_rfl)))) ((as_step A n c Ad nd cd Ap np cp p wq (HM.out.keep (bt HB24.out hC.2))).mono fun e w2 h => by obtain ⟨a0, b0, c0, a1, b1, c1, he, g0, g1, hb⟩ := h; exact ⟨_, he, ⟨a0, b0, c0, a1, b1, c1, rfl, g0.base hC.2.size, g1.base hC.2.size⟩, hb⟩))⟩
      · exact Free.ob_guard _ rfl 11 56 true rfl rfl fun vals wq hC hd => ⟨Eq.trans (b := vals 11) (by kernel_rfl) (hd 11 (by kernel_rfl)), (by obtain ⟨A13, n13, k13, B13, m13, j13, e13, ow13, ox13⟩ := hd 13 (by kernel_rfl); obtain ⟨A15, n15, k15, B15, m15, j15, e15, ow15, ox15⟩ := hd 15 (by kernel_rfl); exact (by obtain rfl : n13 = n15 := (by rw [← ow13.len, ← ow15.len]); obtain rfl : m13 = m15 := (by rw [← ox13.len, ← ox15.len]); exact Free.d_call Tryd.func29 rfl rfl rfl rfl (Free.arg2 (Eq.trans (b := vals 13) (by kernel_rfl) e13) (Eq.trans (b := vals 15) (by kernel_rfl) e15)) ((same_step A13 n13 k13 B13 m13 j13 Apx np cpx A15 k15 B15 j15 Ap cp p wq (show At_step wq A13 n13 k13 B13 m13 j13 Apx np cpx p from ⟨ow13.sq, HM.out.rold, HM.out.lold, HM.out.nold, ox13.sq, HM.out.rnew, HM.out.lnew, HM.out.nnew, (HX24.out.keep hC.2).qproof, HM.out.lproof, HM.out.nproof⟩) (show At_step wq A15 n13 k15 B15 m13 j15 Ap np cp p from ⟨ow15.sq, HM.out.rold, HM.out.lold, HM.out.nold, ox15.sq, HM.out.rnew, HM.out.lnew, HM.out.nnew, (HM.out.keep (bt HB24.out hC.2)).qproof, HM.out.lproof, HM.out.nproof⟩)).mono fun e w2 ⟨he, hb⟩ => ⟨_, he, rfl, hb⟩)))⟩
      · exact Free.ob_plain _ rfl rfl fun vals wq hC hd => (by exact Free.d_pick rfl (Eq.trans (b := vals 11) (by kernel_rfl) (hd 11 (by kernel_rfl))) (Eq.trans (b := vals 16) (by kernel_rfl) (hd 16 (by kernel_rfl))) rfl)
      · exact Free.ob_plain _ rfl rfl fun vals wq hC hd => (by exact Free.d_move rfl (Eq.trans (b := vals 17) (by kernel_rfl) (hd 17 (by kernel_rfl))) rfl)
      · exact Free.ob_guard _ rfl 18 63 true rfl rfl fun vals wq hC hd => ⟨Eq.trans (b := vals 18) (by kernel_rfl) (hd 18 (by kernel_rfl)), (by exact Free.d_move rfl (by kernel_rfl) rfl)⟩
      · exact Free.ob_guard _ rfl 18 63 true rfl rfl fun vals wq hC hd => ⟨Eq.trans (b := vals 18) (by kernel_rfl) (hd 18 (by kernel_rfl)), (by exact Free.d_bin rfl (Eq.trans (b := vals 19) (by kernel_rfl) (hd 19 (by kernel_rfl))) (show _ = (.int .i64 0 : Value) from rfl) (by go_simp) (by first | (go_simp; done) | (go_simp; rw [IntWalk.u32_in _ (by omega)]) | (go_simp; rw [IntWalk.i64_in _ (by omega)]) | (go_simp; rw [IntWalk.u8_in _ (by omega)]) | (go_simp; rw [IntKind.wrap_u32]; exact nv_add _ _)) rfl)⟩
      · exact Free.ob_plain _ rfl rfl fun vals wq hC hd => (by exact Free.d_pick rfl (Eq.trans (b := vals 18) (by kernel_rfl) (hd 18 (by kernel_rfl))) (Eq.trans (b := vals 20) (by kernel_rfl) (hd 20 (by kernel_rfl))) rfl)
      · exact Free.ob_plain _ rfl rfl fun vals wq hC hd => (by exact Free.d_move rfl (Eq.trans (b := vals 21) (by kernel_rfl) (hd 21 (by kernel_rfl))) rfl)
      · exact Free.ob_guard _ rfl 22 67 true rfl rfl fun vals wq hC hd => ⟨Eq.trans (b := vals 22) (by kernel_rfl) (hd 22 (by kernel_rfl)), (by exact Free.d_call Tryd.func9 rfl rfl rfl rfl (by simp) ((CK.out wq (bt HB24.out hC.2)).mono fun e w2 ⟨he, hb⟩ => ⟨_, he, rfl, hb⟩))⟩
      · exact Free.ob_plain _ rfl rfl fun vals wq hC hd => (by exact Free.d_pick rfl (Eq.trans (b := vals 22) (by kernel_rfl) (hd 22 (by kernel_rfl))) (Eq.trans (b := vals 23) (by kernel_rfl) (hd 23 (by kernel_rfl))) rfl)
      · exact Free.ob_plain _ rfl rfl fun vals wq hC hd => (by exact Free.d_assign rfl (Eq.trans (b := vals 24) (by kernel_rfl) (hd 24 (by kernel_rfl))) rfl)
    · intro vals wq hC hd
      have e0 : vals 0 = (.slice A3 n3 c3) := hd 0 (by decide)
      have e1 : vals 1 = (sv p.bytes) := hd 1 (by decide)
      have e2 : vals 2 = (.agg #[.int .i64 p.old.size, sv p.old.log, .slice A n c, .int .i64 p.new.size, sv p.new.log, .slice Ad nd cd, .slice Ap np cp]) := hd 2 (by decide)
      obtain ⟨A3, n3, k3, B3, m3, j3, e3, ow3, ox3⟩ := hd 3 (by decide)
      obtain ⟨A4, n4, k4, e4, ow4⟩ := hd 4 (by decide)
      have e5 : vals 5 = (sv p.bytes) := hd 5 (by decide)
      have e6 : vals 6 = (.bool true) := hd 6 (by decide)
      have e7 : vals 7 = (.bool true) := hd 7 (by decide)
      have e8 : vals 8 = (.int .i64 0) := hd 8 (by decide)
      have e9 : vals 9 = (.bool true) := hd 9 (by decide)
      have e10 : vals 10 = (.bool true) := hd 10 (by decide)
      have e11 : vals 11 = (.bool true) := hd 11 (by decide)
      have e12 : vals 12 = (.agg #[.int .i64 p.old.size, sv p.old.log, .slice Ax nx cx, .int .i64 p.new.size, sv p.new.log, .slice Adx ndx cdx, .slice Apx np cpx]) := hd 12 (by decide)
      obtain ⟨A13, n13, k13, B13, m13, j13, e13, ow13, ox13⟩ := hd 13 (by decide)
      have e14 : vals 14 = (.agg #[.int .i64 p.old.size, sv p.old.log, .slice A n c, .int .i64 p.new.size, sv p.new.log, .slice Ad nd cd, .slice Ap np cp]) := hd 14 (by decide)
      obtain ⟨A15, n15, k15, B15, m15, j15, e15, ow15, ox15⟩ := hd 15 (by decide)
      have e16 : vals 16 = (.bool true) := hd 16 (by decide)
      have e17 : vals 17 = (.bool true) := hd 17 (by decide)
      have e18 : vals 18 = (.bool true) := hd 18 (by decide)
      have e19 : vals 19 = (.int .i64 0) := hd 19 (by decide)
      have e20 : vals 20 = (.bool true) := hd 20 (by decide)
      have e21 : vals 21 = (.bool true) := hd 21 (by decide)
      have e22 : vals 22 = (.bool true) := hd 22 (by decide)
      have e23 : vals 23 = (.bool true) := hd 23 (by decide)
      have e24 : vals 24 = (.bool true) := hd 24 (by decide)
      have e25 : vals 25 = (.bool true) := hd 25 (by decide)
      simp only [Free.frameOf, List.range, List.range.loop, List.foldl, Free.dstOf, List.getElem?_toArray, List.getElem?_cons_zero, List.getElem?_cons_succ, Option.bind_some, Act.put, List.setIfInBounds_toArray, List.set_cons_zero, List.set_cons_succ, e0, e1, e2, e3, e4, e5, e6, e7, e8, e9, e10, e11, e12, e13, e14, e15, e16, e17, e18, e19, e20, e21, e22, e23, e24, e25]
      refine wpList_nil ?_
      clear hd e0 e1 e2 e3 e4 e5 e6 e7 e8 e9 e10 e11 e12 e13 e14 e15 e16 e17 e18 e19 e20 e21 e22 e23 e24 e25
      have HBF := Lib.hid (bt HB24.out hC.2)
      clear hC
      go_wp2
      go_ret
      exact ⟨rfl, HBF.out⟩
end Go.Proofs.YtfgpaepdlmnhaaaDoor
