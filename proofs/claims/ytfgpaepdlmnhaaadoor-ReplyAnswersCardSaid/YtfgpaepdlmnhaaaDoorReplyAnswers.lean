/- ReplyAnswers: the walk of the law. -/
import Derived.Test.YtfgpaepdlmnhaaaDoorMReplyD
import Derived.Test.YtfgpaepdlmnhaaaDoorReplyY
import Derived.Test.YtfgpaepdlmnhaaaDoorMsgsA
namespace Go.Proofs.YtfgpaepdlmnhaaaDoor
set_option maxRecDepth 100000
set_option linter.unusedVariables false
open Go.RowKit
theorem InAn.ns {W : World} {a : Hd.An} {As : Option Addr} {ns cs : Nat} {A : Option Addr} {n c : Nat} {L : List RwD} (h : InAn W a As ns cs A n c L) : ns = a.h.segs.length := h.s.len.symm
theorem InAn.na {W : World} {a : Hd.An} {As : Option Addr} {ns cs : Nat} {A : Option Addr} {n c : Nat} {L : List RwD} (h : InAn W a As ns cs A n c L) : n = a.rows.length := by rw [← h.e, List.length_map, h.r.q.len]
theorem few_of {a : Hd.An} (h : a.Bd) (hb : ∀ l ∈ a.rows, ∀ p ∈ l, (-9223372036854775808 ≤ p.at_ ∧ p.at_ ≤ 9223372036854775807) ∧ ∀ s ∈ p.path, s.length ≤ maxLen) : a.Few :=
  ⟨fun s hs => by have := (Hd.H.great_no h.h).1 s hs; omega, by have := (Hd.H.great_no h.h).2.2; omega, by have := (Hd.H.great_no h.h).2.1; omega, by have := h.n; omega, fun l hl => by have := h.r l hl; omega, fun l hl p hp d hd => by have := (Tree.great_no (h.p l hl p hp).g).1 d hd; omega, fun l hl p hp => (hb l hl p hp).1⟩
def Free.xMans (a : Hd.An) : Free.SV := ⟨fun v W => ∃ A1 n1 c1 A2 n2 c2 LL, v = .agg #[.int .i64 a.h.size, sv a.h.log, .slice A1 n1 c1, .slice A2 n2 c2] ∧ InAn W a A1 n1 c1 A2 n2 c2 LL, fun v W W' ⟨A1, n1, c1, A2, n2, c2, LL, h1, h2⟩ g => ⟨A1, n1, c1, A2, n2, c2, LL, h1, h2.keep g⟩⟩
set_option maxRecDepth 100000 in
set_option maxHeartbeats 64000000 in
theorem replyanswers_any (As : Option Addr) (ns ks : Nat) (A : Option Addr) (n c : Nat) (a : Hd.An) (L : List RwD) (w : World) (hi : InAa w As ns ks A n c a L) (ht : Tabs w) : Calls Tryd.prog 3 #[.agg #[.int .i64 a.h.size, sv a.h.log, .slice As ns ks, .slice A n c]] w (RetB true w) := by
  have h1 := row_new w #[.int .i64 a.h.size, sv a.h.log, .slice As ns ks, .slice A n c] 27
  have hb := (Below.refl w.heap.size w).alloc (Nat.le_refl _) (.cells #[.int .i64 a.h.size, sv a.h.log, .slice As ns ks, .slice A n c] 27)
  obtain ⟨w1, hw1⟩ : ∃ W, w.alloc (.cells #[.int .i64 a.h.size, sv a.h.log, .slice As ns ks, .slice A n c] 27) = W := ⟨_, rfl⟩
  rw [hw1] at h1 hb
  have HW1 := Lib.hid hw1
  have HR0 := Lib.hid h1
  have HB0 := Lib.hid hb
  have HI := Lib.hid hi
  have HM := Lib.hid (show InAn w a As ns ks A n c L from ⟨hi.h.q, hi.r, hi.e⟩)
  have CK := Lib.hid (fun W hb => knows18_any W (ht.below hb))
  unfold Yes at CK
  have CG := Lib.hid (great18_any a L hi.e w1 (hi.h.q.keep hb) hi.h.r hi.h.l (hi.r.keep hb) (fun l hl p hp => (hi.b l hl p hp).2))
  unfold GrPost at CG
  clear hw1 h1 hb hi ht
  go_enter Tryd.func3, Tryd.ntmps3
  go_upto_region 1 with fail
  rw [HW1.out]
  have x0 := HR0.out.cellQ 0 _ rfl
  have x1 := HR0.out.cellQ 1 _ rfl
  have x2 := HR0.out.cellQ 2 _ rfl
  have x3 := HR0.out.cellQ 3 _ rfl
  go_wp2_with fail
  (with_reducible refine CG.out.mono ?_)
  rintro e w2 ⟨b, rfl, hb9, hbd⟩
  have HBD := Lib.hid hbd
  have HB2 := Lib.hid (bt HB0.out hb9)
  have HR2 := Lib.hid (HR0.out.belowS hb9 (Nat.le_refl _))
  clear hb9 hbd CG x0 x1 x2 x3 HW1 HR0 HB0
  cases b with
  | true =>
    go_wp2_with fail
    (with_reducible refine (CK.out _ HB2.out).mono ?_)
    rintro e wk ⟨rfl, hbk⟩
    have HBK := Lib.hid (bt HB2.out hbk)
    clear hbk
    go_wp2
    go_ret
    exact ⟨rfl, HBK.out⟩
  | false =>
    have HFW := Lib.hid (few_of (HBD.out rfl) HI.out.b)
    have CW := fun (W : World) (hW : Below w.heap.size w W) => wr_ans (w := W) a L HM.out.e (fun W' h' => (HM.out.keep (hW.trans (h'.mono hW.size))).s) HFW.out.rt HFW.out.lg (fun W' h' => (HM.out.keep (hW.trans (h'.mono hW.size))).r) (fun l hl p hp => ⟨(HFW.out.at1 l hl p hp).1, (HFW.out.at1 l hl p hp).2, fun d hd => by have := HFW.out.p l hl p hp d hd; omega⟩) (by have h1 := HM.out.r.q.len; have h2 := HM.out.na; have h3 := HFW.out.n; omega)
    have x0 := HR2.out.cellQ 0 _ rfl
    have x1 := HR2.out.cellQ 1 _ rfl
    have x2 := HR2.out.cellQ 2 _ rfl
    have x3 := HR2.out.cellQ 3 _ rfl
    cases hf : a.fair with
    | false =>
      rw [Hd.wrAns_no hf] at CW
      unfold WrPost at CW
      have CW := Lib.hid CW
      have HF := Lib.hid hf
      clear hf
      go_wp2_with fail
      (with_reducible refine (CW.out _ HB2.out).mono ?_)
      rintro e w3 ⟨hb9, rfl⟩
      have HB3 := Lib.hid (bt HB2.out hb9)
      have HR3 := Lib.hid (HR2.out.belowS hb9 (Nat.le_refl _))
      clear hb9 x0 x1 x2 x3
      have x0 := HR3.out.cellQ 0 _ rfl
      have x1 := HR3.out.cellQ 1 _ rfl
      have x2 := HR3.out.cellQ 2 _ rfl
      have x3 := HR3.out.cellQ 3 _ rfl
      have C := Lib.hid (as_ans a L w3 (HM.out.keep HB3.out) (by have := HM.out.na; have := HFW.out.n; omega) (by have := HM.out.ns; have := HFW.out.sg; omega) HFW.out.r)
      unfold AsPost_ans at C
      go_wp2_with fail
      (with_reducible refine C.out.mono ?_)
      rintro e w4 ⟨Ag, ng, cg, Ar, nr, cr, LG, rfl, hig, hb9⟩
      have HG := Lib.hid hig
      have HB4 := Lib.hid (bt HB3.out hb9)
      have HR4 := Lib.hid (HR3.out.belowS hb9 (Nat.le_refl _))
      clear hb9 hig C x0 x1 x2 x3
      have C2 := Lib.hid (fair18_ans a LG w4 HG.out HFW.out)
      unfold RetB at C2
      go_wp2_with fail
      (with_reducible refine C2.out.mono ?_)
      rintro e w5 ⟨rfl, hb9⟩
      rw [HF.out]
      have HB5 := Lib.hid (bt HB4.out hb9)
      have HR5 := Lib.hid (HR4.out.belowS hb9 (Nat.le_refl _))
      clear hb9 C2 HG
      go_wp2_with fail
      (with_reducible refine (CK.out _ HB5.out).mono ?_)
      rintro e wk ⟨rfl, hbk⟩
      have HBK := Lib.hid (bt HB5.out hbk)
      clear hbk
      go_wp2
      go_ret
      exact ⟨rfl, HBK.out⟩
    | true =>
      have HF := Lib.hid hf
      rw [Hd.wrAns_ok hf] at CW
      by_cases hbg : 1048576 < a.bytes.length
      · rw [if_pos hbg] at CW
        unfold WrPost at CW
        have CW := Lib.hid CW
        clear hf
        go_wp2_with fail
        (with_reducible refine (CW.out _ HB2.out).mono ?_)
        rintro e w3 ⟨hb9, rfl⟩
        have HB3 := Lib.hid (bt HB2.out hb9)
        have HR3 := Lib.hid (HR2.out.belowS hb9 (Nat.le_refl _))
        clear hb9 x0 x1 x2 x3
        have x0 := HR3.out.cellQ 0 _ rfl
        have x1 := HR3.out.cellQ 1 _ rfl
        have x2 := HR3.out.cellQ 2 _ rfl
        have x3 := HR3.out.cellQ 3 _ rfl
        have C := Lib.hid (as_ans a L w3 (HM.out.keep HB3.out) (by have := HM.out.na; have := HFW.out.n; omega) (by have := HM.out.ns; have := HFW.out.sg; omega) HFW.out.r)
        unfold AsPost_ans at C
        go_wp2_with fail
        (with_reducible refine C.out.mono ?_)
        rintro e w4 ⟨Ag, ng, cg, Ar, nr, cr, LG, rfl, hig, hb9⟩
        have HG := Lib.hid hig
        have HB4 := Lib.hid (bt HB3.out hb9)
        have HR4 := Lib.hid (HR3.out.belowS hb9 (Nat.le_refl _))
        clear hb9 hig C x0 x1 x2 x3
        have C2 := Lib.hid (fair18_ans a LG w4 HG.out HFW.out)
        unfold RetB at C2
        go_wp2_with fail
        (with_reducible refine C2.out.mono ?_)
        rintro e w5 ⟨rfl, hb9⟩
        rw [HF.out]
        have HB5 := Lib.hid (bt HB4.out hb9)
        have HR5 := Lib.hid (HR4.out.belowS hb9 (Nat.le_refl _))
        clear hb9 C2 HG
        have x0 := HR5.out.cellQ 0 _ rfl
        have x1 := HR5.out.cellQ 1 _ rfl
        have x2 := HR5.out.cellQ 2 _ rfl
        have x3 := HR5.out.cellQ 3 _ rfl
        have C := Lib.hid (as_ans a L w5 (HM.out.keep HB5.out) (by have := HM.out.na; have := HFW.out.n; omega) (by have := HM.out.ns; have := HFW.out.sg; omega) HFW.out.r)
        unfold AsPost_ans at C
        go_wp2_with fail
        (with_reducible refine C.out.mono ?_)
        rintro e w6 ⟨Ag, ng, cg, Ar, nr, cr, LG, rfl, hig, hb9⟩
        have HG := Lib.hid hig
        have HB6 := Lib.hid (bt HB5.out hb9)
        have HR6 := Lib.hid (HR5.out.belowS hb9 (Nat.le_refl _))
        clear hb9 hig C x0 x1 x2 x3
        have C2 := Lib.hid (wrB_ans a LG w6 HG.out HFW.out HF.out)
        unfold Ret8 at C2
        go_wp2_with fail
        (with_reducible refine C2.out.mono ?_)
        rintro e w7 ⟨A5, n5, c5, rfl, ho5, hb9⟩
        have HB7 := Lib.hid (bt HB6.out hb9)
        have HR7 := Lib.hid (HR6.out.belowS hb9 (Nat.le_refl _))
        have HP7 := Lib.hid (ho5.base (Nat.le_refl _))
        have hl5 := ho5.len
        clear hb9 ho5 C2 HG
        have hbi : (1048576 : Int) < (n5 : Int) := by omega
        go_wp2_with fail
        (with_reducible refine (CK.out _ HB7.out).mono ?_)
        rintro e wk ⟨rfl, hbk⟩
        have HBK := Lib.hid (bt HB7.out hbk)
        clear hbk
        go_wp2
        go_ret
        exact ⟨rfl, HBK.out⟩
      · rw [if_neg hbg] at CW
        unfold WrPost at CW
        have CW := Lib.hid CW
        have HRB := Lib.hid (Hd.rdAns_bytes hf (by omega))
        clear hf
        go_wp2_with fail
        (with_reducible refine (CW.out _ HB2.out).mono ?_)
        rintro e w3 ⟨hb9, A3, n3, c3, rfl, ho3⟩
        have HO3 := Lib.hid ho3
        clear ho3
        have HB3 := Lib.hid (bt HB2.out hb9)
        have HR3 := Lib.hid (HR2.out.belowS hb9 (Nat.le_refl _))
        clear hb9 x0 x1 x2 x3
        have x0 := HR3.out.cellQ 0 _ rfl
        have x1 := HR3.out.cellQ 1 _ rfl
        have x2 := HR3.out.cellQ 2 _ rfl
        have x3 := HR3.out.cellQ 3 _ rfl
        have C := Lib.hid (as_ans a L w3 (HM.out.keep HB3.out) (by have := HM.out.na; have := HFW.out.n; omega) (by have := HM.out.ns; have := HFW.out.sg; omega) HFW.out.r)
        unfold AsPost_ans at C
        go_wp2_with fail
        (with_reducible refine C.out.mono ?_)
        rintro e w4 ⟨Ag, ng, cg, Ar, nr, cr, LG, rfl, hig, hb9⟩
        have HG := Lib.hid hig
        have HB4 := Lib.hid (bt HB3.out hb9)
        have HR4 := Lib.hid (HR3.out.belowS hb9 (Nat.le_refl _))
        have HO4 := Lib.hid (HO3.out.keep hb9)
        clear hb9 hig C x0 x1 x2 x3
        have C2 := Lib.hid (fair18_ans a LG w4 HG.out HFW.out)
        unfold RetB at C2
        go_wp2_with fail
        (with_reducible refine C2.out.mono ?_)
        rintro e w5 ⟨rfl, hb9⟩
        rw [HF.out]
        have HB5 := Lib.hid (bt HB4.out hb9)
        have HR5 := Lib.hid (HR4.out.belowS hb9 (Nat.le_refl _))
        have HO5 := Lib.hid (HO4.out.keep hb9)
        clear hb9 C2 HG
        have x0 := HR5.out.cellQ 0 _ rfl
        have x1 := HR5.out.cellQ 1 _ rfl
        have x2 := HR5.out.cellQ 2 _ rfl
        have x3 := HR5.out.cellQ 3 _ rfl
        have C := Lib.hid (as_ans a L w5 (HM.out.keep HB5.out) (by have := HM.out.na; have := HFW.out.n; omega) (by have := HM.out.ns; have := HFW.out.sg; omega) HFW.out.r)
        unfold AsPost_ans at C
        go_wp2_with fail
        (with_reducible refine C.out.mono ?_)
        rintro e w6 ⟨Ag, ng, cg, Ar, nr, cr, LG, rfl, hig, hb9⟩
        have HG := Lib.hid hig
        have HB6 := Lib.hid (bt HB5.out hb9)
        have HR6 := Lib.hid (HR5.out.belowS hb9 (Nat.le_refl _))
        have HO6 := Lib.hid (HO5.out.keep hb9)
        clear hb9 hig C x0 x1 x2 x3
        have C2 := Lib.hid (wrB_ans a LG w6 HG.out HFW.out HF.out)
        unfold Ret8 at C2
        go_wp2_with fail
        (with_reducible refine C2.out.mono ?_)
        rintro e w7 ⟨A5, n5, c5, rfl, ho5, hb9⟩
        have HB7 := Lib.hid (bt HB6.out hb9)
        have HR7 := Lib.hid (HR6.out.belowS hb9 (Nat.le_refl _))
        have HO7 := Lib.hid (HO6.out.keep hb9)
        have HP7 := Lib.hid (ho5.base (Nat.le_refl _))
        have hl5 := ho5.len
        clear hb9 ho5 C2 HG
        have hbi : ¬ (1048576 : Int) < (n5 : Int) := by omega
        have CR := rd_ans A3 n3 c3 a.bytes w7 HO7.out.bs (by omega)
        rw [HRB.out] at CR
        have CR := Lib.hid CR
        unfold RdPost_ans at CR
        go_wp2_with fail
        (with_reducible refine CR.out.mono ?_)
        rintro e w8 ⟨hb9, Ax, nx, cx, Ay, ny, cy, LX, rfl, hx1, hx2, hx3, hx4⟩
        have HX8 := Lib.hid (show InAn w8 a Ax nx cx Ay ny cy LX from ⟨hx1.sq, ⟨hx2.sq, fun r hr => (hx3 r hr).inr⟩, hx4⟩)
        have HB8 := Lib.hid (bt HB7.out hb9)
        have HR8 := Lib.hid (HR7.out.belowS hb9 (Nat.le_refl _))
        have HO8 := Lib.hid (HO7.out.keep hb9)
        have HP8 := Lib.hid (HP7.out.keep hb9)
        clear hb9 CR hx1 hx2 hx3 hx4
        go_upto_region 10 with fail
        have hb24 := (Below.refl w8.heap.size w8).alloc (Nat.le_refl _) (.cells #[.int .i64 a.h.size, sv a.h.log, .slice Ax nx cx, .slice Ay ny cy] 27)
        have hr24 := row_new w8 #[.int .i64 a.h.size, sv a.h.log, .slice Ax nx cx, .slice Ay ny cy] 27
        obtain ⟨w9, hw9⟩ : ∃ W, w8.alloc (.cells #[.int .i64 a.h.size, sv a.h.log, .slice Ax nx cx, .slice Ay ny cy] 27) = W := ⟨_, rfl⟩
        rw [hw9] at hb24 hr24 ⊢
        have HB9 := Lib.hid (bt HB8.out hb24)
        have HR9 := Lib.hid (HR8.out.belowS hb24 (Nat.le_refl _))
        have HX9 := Lib.hid (HX8.out.keep hb24)
        have HO9 := Lib.hid (HO8.out.keep hb24)
        have HP9 := Lib.hid (HP8.out.keep hb24)
        have HY9 := Lib.hid hr24
        clear hw9 hb24 hr24
        refine Free.wp_free_l 24 (fun W => (Row W w.heap.size #[.int .i64 a.h.size, sv a.h.log, .slice As ns ks, .slice A n c] 27 ∧ Row W w8.heap.size #[.int .i64 a.h.size, sv a.h.log, .slice Ax nx cx, .slice Ay ny cy] 27) ∧ Below w9.heap.size w9 W) [Free.kc (.slice A3 n3 c3), Free.kc (sv a.bytes), Free.kc (.slice A5 n5 c5), Free.kc (sv a.bytes), Free.kc (.bool true), Free.kc (.bool true), Free.kc (.int .i64 0), Free.kc (.bool true), Free.kc (.bool true), Free.kc (.bool true), Free.kc (.agg #[.int .i64 a.h.size, sv a.h.log, .slice Ax nx cx, .slice Ay ny cy]), Free.xMans (a), Free.kc (.agg #[.int .i64 a.h.size, sv a.h.log, .slice As ns ks, .slice A n c]), Free.xMans (a), Free.kc (.bool true), Free.kc (.bool true), Free.kc (.bool true), Free.kc (.int .i64 0), Free.kc (.bool true), Free.kc (.bool true), Free.kc (.bool true), Free.kc (.bool true), Free.kc (.bool true), Free.kc (.bool true)] (by kernel_rfl) (by kernel_rfl) (by decide) ⟨⟨HR9.out.drew, HY9.out.drew⟩, bel_drew _ _⟩ (fun W W' h g => ⟨⟨h.1.1.belowS g (Nat.le_refl _), h.1.2.belowS g (Nat.le_refl _)⟩, bt h.2 g⟩) ?_ ?_
        · refine Free.forall_succ (Free.forall_succ (Free.forall_succ (Free.forall_succ (Free.forall_succ (Free.forall_succ (Free.forall_succ (Free.forall_succ (Free.forall_succ (Free.forall_succ (Free.forall_succ (Free.forall_succ (Free.forall_succ (Free.forall_succ (Free.forall_succ (Free.forall_succ (Free.forall_succ (Free.forall_succ (Free.forall_succ (Free.forall_succ (Free.forall_succ (Free.forall_succ (Free.forall_succ (Free.forall_succ (Free.forall_zero) ?_) ?_) ?_) ?_) ?_) ?_) ?_) ?_) ?_) ?_) ?_) ?_) ?_) ?_) ?_) ?_) ?_) ?_) ?_) ?_) ?_) ?_) ?_) ?_
          · exact Free.ob_plain _ rfl rfl fun vals wq hC hd => (by exact Free.d_move rfl (by kernel_rfl) rfl)
          · exact Free.ob_plain _ rfl rfl fun vals wq hC hd => (by exact Free.d_conv rfl (Eq.trans (b := vals 0) (by kernel_rfl) (hd 0 (by kernel_rfl))) (run_str (P := Tryd.prog) 30 9 5 Tryd.underlying30 Tryd.underlying5 Tryd.underlying9 A3 n3 c3 _ a.bytes (HO9.out.keep hC.2).bs.rd (HO9.out.keep hC.2).len) (Below.refl _ _) rfl)
          · exact Free.ob_plain _ rfl rfl fun vals wq hC hd => (by exact Free.d_move rfl (by kernel_rfl) rfl)
          · exact Free.ob_plain _ rfl rfl fun vals wq hC hd => (by exact Free.d_conv rfl (Eq.trans (b := vals 2) (by kernel_rfl) (hd 2 (by kernel_rfl))) (run_str (P := Tryd.prog) 30 9 5 Tryd.underlying30 Tryd.underlying5 Tryd.underlying9 A5 n5 c5 _ a.bytes (HP9.out.keep hC.2).bs.rd (HP9.out.keep hC.2).len) (Below.refl _ _) rfl)
          · exact Free.ob_plain _ rfl rfl fun vals wq hC hd => (by exact Free.d_bin rfl (Eq.trans (b := vals 1) (by kernel_rfl) (hd 1 (by kernel_rfl))) (Eq.trans (b := vals 3) (by kernel_rfl) (hd 3 (by kernel_rfl))) (by go_simp) (by go_simp) rfl)
          · exact Free.ob_plain _ rfl rfl fun vals wq hC hd => (by exact Free.d_move rfl (Eq.trans (b := vals 4) (by kernel_rfl) (hd 4 (by kernel_rfl))) rfl)
          · exact Free.ob_guard _ rfl 5 56 true rfl rfl fun vals wq hC hd => ⟨Eq.trans (b := vals 5) (by kernel_rfl) (hd 5 (by kernel_rfl)), (by exact Free.d_move rfl (by kernel_rfl) rfl)⟩
          · exact Free.ob_guard _ rfl 5 56 true rfl rfl fun vals wq hC hd => ⟨Eq.trans (b := vals 5) (by kernel_rfl) (hd 5 (by kernel_rfl)), (by exact Free.d_bin rfl (Eq.trans (b := vals 6) (by kernel_rfl) (hd 6 (by kernel_rfl))) (show _ = (.int .i64 0 : Value) from rfl) (by go_simp) (by first | (go_simp; done) | (go_simp; rw [IntWalk.u32_in _ (by omega)]) | (go_simp; rw [IntWalk.i64_in _ (by omega)]) | (go_simp; rw [IntWalk.u8_in _ (by omega)]) | (go_simp; rw [IntKind.wrap_u32]; exact nv_add _ _)) rfl)⟩
          · exact Free.ob_plain _ rfl rfl fun vals wq hC hd => (by exact Free.d_pick rfl (Eq.trans (b := vals 5) (by kernel_rfl) (hd 5 (by kernel_rfl))) (Eq.trans (b := vals 7) (by kernel_rfl) (hd 7 (by kernel_rfl))) rfl)
          · exact Free.ob_plain _ rfl rfl fun vals wq hC hd => (by exact Free.d_move rfl (Eq.trans (b := vals 8) (by kernel_rfl) (hd 8 (by kernel_rfl))) rfl)
          · exact Free.ob_guard _ rfl 9 60 true rfl rfl fun vals wq hC hd => ⟨Eq.trans (b := vals 9) (by kernel_rfl) (hd 9 (by kernel_rfl)), (by exact Free.d_load (cx := .pointer (some ⟨w8.heap.size, 0, none⟩)) rfl (by kernel_rfl) (by have a0 := hC.1.2.cellQ 0 _ rfl; have a1 := hC.1.2.cellQ 1 _ rfl; have a2 := hC.1.2.cellQ 2 _ rfl; have a3 := hC.1.2.cellQ 3 _ rfl; go_simp) rfl)⟩
          · exact Free.ob_guard _ rfl 9 60 true rfl rfl fun vals wq hC hd => ⟨Eq.trans (b := vals 9) (by kernel_rfl) (hd 9 (by kernel_rfl)), (by exact Free.d_call Tryd.func12 rfl rfl rfl rfl (Free.arg1 (Eq.trans (b := vals 10) (by kernel_rfl) (hd 10 (by kernel_rfl)))) ((as_ans a LX wq (HX9.out.keep hC.2) (by have := (HX9.out.keep hC.2).na; have := HFW.out.n; omega) (by have := (HX9.out.keep hC.2).ns; have := HFW.out.sg; omega) HFW.out.r).mono fun e w2 h => by obtain ⟨a1, b1, c1, a2, b2, c2, l2, he, hi, hb⟩ := h; exact ⟨_, he, ⟨a1, b1, c1, a2, b2, c2, l2, rfl, hi⟩, hb⟩))⟩
          · exact Free.ob_guard _ rfl 9 60 true rfl rfl fun vals wq hC hd => ⟨Eq.trans (b := vals 9) (by kernel_rfl) (hd 9 (by kernel_rfl)), (by exact Free.d_load (cx := .pointer (some ⟨w.heap.size, 0, none⟩)) rfl (by kernel_rfl) (by have a0 := hC.1.1.cellQ 0 _ rfl; have a1 := hC.1.1.cellQ 1 _ rfl; have a2 := hC.1.1.cellQ 2 _ rfl; have a3 := hC.1.1.cellQ 3 _ rfl; go_simp) rfl)⟩
          · exact Free.ob_guard _ rfl 9 60 true rfl rfl fun vals wq hC hd => ⟨Eq.trans (b := vals 9) (by kernel_rfl) (hd 9 (by kernel_rfl)), (by exact Free.d_call Tryd.func12 rfl rfl rfl rfl (Free.arg1 (Eq.trans (b := vals 12) (by kernel_rfl) (hd 12 (by kernel_rfl)))) ((as_ans a L wq (HM.out.keep (bt HB9.out hC.2)) (by have := (HM.out.keep (bt HB9.out hC.2)).na; have := HFW.out.n; omega) (by have := (HM.out.keep (bt HB9.out hC.2)).ns; have := HFW.out.sg; omega) HFW.out.r).mono fun e w2 h => by obtain ⟨a1, b1, c1, a2, b2, c2, l2, he, hi, hb⟩ := h; exact ⟨_, he, ⟨a1, b1, c1, a2, b2, c2, l2, rfl, hi⟩, hb⟩))⟩
          · exact Free.ob_guard _ rfl 9 60 true rfl rfl fun vals wq hC hd => ⟨Eq.trans (b := vals 9) (by kernel_rfl) (hd 9 (by kernel_rfl)), (by obtain ⟨A11, n11, k11, B11, m11, j11, L11, e11, ow11⟩ := hd 11 (by kernel_rfl); obtain ⟨A13, n13, k13, B13, m13, j13, L13, e13, ow13⟩ := hd 13 (by kernel_rfl); exact (by obtain rfl : n11 = n13 := (by rw [ow11.ns, ow13.ns]); obtain rfl : m11 = m13 := (by rw [ow11.na, ow13.na]); exact Free.d_call Tryd.func15 rfl rfl rfl rfl (Free.arg2 (Eq.trans (b := vals 11) (by kernel_rfl) e11) (Eq.trans (b := vals 13) (by kernel_rfl) e13)) ((same18_ans a L11 L13 wq ow11 ow13).mono fun e w2 ⟨he, hb⟩ => ⟨_, he, rfl, hb⟩)))⟩
          · exact Free.ob_plain _ rfl rfl fun vals wq hC hd => (by exact Free.d_pick rfl (Eq.trans (b := vals 9) (by kernel_rfl) (hd 9 (by kernel_rfl))) (Eq.trans (b := vals 14) (by kernel_rfl) (hd 14 (by kernel_rfl))) rfl)
          · exact Free.ob_plain _ rfl rfl fun vals wq hC hd => (by exact Free.d_move rfl (Eq.trans (b := vals 15) (by kernel_rfl) (hd 15 (by kernel_rfl))) rfl)
          · exact Free.ob_guard _ rfl 16 67 true rfl rfl fun vals wq hC hd => ⟨Eq.trans (b := vals 16) (by kernel_rfl) (hd 16 (by kernel_rfl)), (by exact Free.d_move rfl (by kernel_rfl) rfl)⟩
          · exact Free.ob_guard _ rfl 16 67 true rfl rfl fun vals wq hC hd => ⟨Eq.trans (b := vals 16) (by kernel_rfl) (hd 16 (by kernel_rfl)), (by exact Free.d_bin rfl (Eq.trans (b := vals 17) (by kernel_rfl) (hd 17 (by kernel_rfl))) (show _ = (.int .i64 0 : Value) from rfl) (by go_simp) (by first | (go_simp; done) | (go_simp; rw [IntWalk.u32_in _ (by omega)]) | (go_simp; rw [IntWalk.i64_in _ (by omega)]) | (go_simp; rw [IntWalk.u8_in _ (by omega)]) | (go_simp; rw [IntKind.wrap_u32]; exact nv_add _ _)) rfl)⟩
          · exact Free.ob_plain _ rfl rfl fun vals wq hC hd => (by exact Free.d_pick rfl (Eq.trans (b := vals 16) (by kernel_rfl) (hd 16 (by kernel_rfl))) (Eq.trans (b := vals 18) (by kernel_rfl) (hd 18 (by kernel_rfl))) rfl)
          · exact Free.ob_plain _ rfl rfl fun vals wq hC hd => (by exact Free.d_move rfl (Eq.trans (b := vals 19) (by kernel_rfl) (hd 19 (by kernel_rfl))) rfl)
          · exact Free.ob_guard _ rfl 20 71 true rfl rfl fun vals wq hC hd => ⟨Eq.trans (b := vals 20) (by kernel_rfl) (hd 20 (by kernel_rfl)), (by exact Free.d_call Tryd.func9 rfl rfl rfl rfl (by simp) ((CK.out wq (bt HB9.out hC.2)).mono fun e w2 ⟨he, hb⟩ => ⟨_, he, rfl, hb⟩))⟩
          · exact Free.ob_plain _ rfl rfl fun vals wq hC hd => (by exact Free.d_pick rfl (Eq.trans (b := vals 20) (by kernel_rfl) (hd 20 (by kernel_rfl))) (Eq.trans (b := vals 21) (by kernel_rfl) (hd 21 (by kernel_rfl))) rfl)
          · exact Free.ob_plain _ rfl rfl fun vals wq hC hd => (by exact Free.d_assign rfl (Eq.trans (b := vals 22) (by kernel_rfl) (hd 22 (by kernel_rfl))) rfl)
        · intro vals wq hC hd
          have e0 : vals 0 = (.slice A3 n3 c3) := hd 0 (by decide)
          have e1 : vals 1 = (sv a.bytes) := hd 1 (by decide)
          have e2 : vals 2 = (.slice A5 n5 c5) := hd 2 (by decide)
          have e3 : vals 3 = (sv a.bytes) := hd 3 (by decide)
          have e4 : vals 4 = (.bool true) := hd 4 (by decide)
          have e5 : vals 5 = (.bool true) := hd 5 (by decide)
          have e6 : vals 6 = (.int .i64 0) := hd 6 (by decide)
          have e7 : vals 7 = (.bool true) := hd 7 (by decide)
          have e8 : vals 8 = (.bool true) := hd 8 (by decide)
          have e9 : vals 9 = (.bool true) := hd 9 (by decide)
          have e10 : vals 10 = (.agg #[.int .i64 a.h.size, sv a.h.log, .slice Ax nx cx, .slice Ay ny cy]) := hd 10 (by decide)
          obtain ⟨A11, n11, k11, B11, m11, j11, L11, e11, ow11⟩ := hd 11 (by decide)
          have e12 : vals 12 = (.agg #[.int .i64 a.h.size, sv a.h.log, .slice As ns ks, .slice A n c]) := hd 12 (by decide)
          obtain ⟨A13, n13, k13, B13, m13, j13, L13, e13, ow13⟩ := hd 13 (by decide)
          have e14 : vals 14 = (.bool true) := hd 14 (by decide)
          have e15 : vals 15 = (.bool true) := hd 15 (by decide)
          have e16 : vals 16 = (.bool true) := hd 16 (by decide)
          have e17 : vals 17 = (.int .i64 0) := hd 17 (by decide)
          have e18 : vals 18 = (.bool true) := hd 18 (by decide)
          have e19 : vals 19 = (.bool true) := hd 19 (by decide)
          have e20 : vals 20 = (.bool true) := hd 20 (by decide)
          have e21 : vals 21 = (.bool true) := hd 21 (by decide)
          have e22 : vals 22 = (.bool true) := hd 22 (by decide)
          have e23 : vals 23 = (.bool true) := hd 23 (by decide)
          simp only [Free.frameOf, List.range, List.range.loop, List.foldl, Free.dstOf, List.getElem?_toArray, List.getElem?_cons_zero, List.getElem?_cons_succ, Option.bind_some, Act.put, List.setIfInBounds_toArray, List.set_cons_zero, List.set_cons_succ, e0, e1, e2, e3, e4, e5, e6, e7, e8, e9, e10, e11, e12, e13, e14, e15, e16, e17, e18, e19, e20, e21, e22, e23]
          refine wpList_nil ?_
          clear hd e0 e1 e2 e3 e4 e5 e6 e7 e8 e9 e10 e11 e12 e13 e14 e15 e16 e17 e18 e19 e20 e21 e22 e23
          have HBF := Lib.hid (bt HB9.out hC.2)
          clear hC
          go_wp2
          go_ret
          exact ⟨rfl, HBF.out⟩
end Go.Proofs.YtfgpaepdlmnhaaaDoor
