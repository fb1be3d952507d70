/- ReplyOnly: the walk of the law. -/
import Derived.Test.YtfgpaepdlmnhaaaDoorMReplyD
import Derived.Test.YtfgpaepdlmnhaaaDoorMReplyE
namespace Go.Proofs.YtfgpaepdlmnhaaaDoor
set_option maxRecDepth 100000
set_option linter.unusedVariables false
open Go.RowKit
theorem Hd.rdAns_err {l : List UInt8} {x : Nat} (e : Hd.rdAns l = .error x) : x ≠ 0 := by
  unfold Hd.rdAns at e
  split at e
  · rename_i h; injection e with e; rw [← e]; exact h
  · split at e
    · rename_i h; injection e with e; rw [← e]; exact h
    · cases e
theorem Hd.rdPage_err {l : List UInt8} {x : Nat} (e : Hd.rdPage l = .error x) : x ≠ 0 := by
  unfold Hd.rdPage at e
  split at e
  · rename_i h; injection e with e; rw [← e]; exact h
  · simp only at e
    split at e
    · rename_i h; injection e with e; rw [← e]; exact h
    · cases e
theorem Hd.rdStep_err {l : List UInt8} {x : Nat} (e : Hd.rdStep l = .error x) : x ≠ 0 := by
  unfold Hd.rdStep at e
  split at e
  · rename_i h; injection e with e; rw [← e]; exact h
  · simp only at e
    split at e
    · rename_i h; injection e with e; rw [← e]; exact h
    · cases e
set_option maxRecDepth 100000 in
set_option maxHeartbeats 64000000 in
theorem replyonly_any (A : Option Addr) (n c : Nat) (l : List UInt8) (w : World) (hrd : Rd w w.heap.size A (l.map bv)) (hn : l.length = n) (hc : n ≤ c) (hm : c ≤ maxLen) (ht : Tabs w) : Calls Tryd.prog 6 #[.slice A n c] w (RetB true w) := by
  have CK := Lib.hid (fun W hb => knows18_any W (ht.below hb))
  unfold Yes at CK
  have HBS := Lib.hid (show Bs w A n c l from ⟨hrd, hn, hc, hm⟩)
  rw [maxLen_eq] at hm
  clear hrd ht
  by_cases hg : 20000 < n
  · have hgi : (20000 : Int) < (n : Int) := by omega
    go_enter Tryd.func6, Tryd.ntmps6
    go_wp2_with fail
    (with_reducible refine (CK.out _ (Below.refl w.heap.size w)).mono ?_)
    rintro e wk ⟨rfl, hbk⟩
    have HBK := Lib.hid (bt (Below.refl w.heap.size w) hbk)
    clear hbk
    go_wp2
    go_ret
    exact ⟨rfl, HBK.out⟩
  have hgi : ¬ (20000 : Int) < (n : Int) := by omega
  have hl9 : l.length ≤ 1000000000 := by omega
  have CR0 := fun A' n' c' W (hB : Bs W A' n' c' l) => rd_ans A' n' c' l W hB hl9
  unfold RdPost_ans at CR0
  have CR1 := fun A' n' c' W (hB : Bs W A' n' c' l) => rd_page A' n' c' l W hB hl9
  unfold RdPost_page at CR1
  have CR2 := fun A' n' c' W (hB : Bs W A' n' c' l) => rd_step A' n' c' l W hB hl9
  unfold RdPost_step at CR2
  cases h0 : Hd.rdAns l with
  | ok a =>
    obtain ⟨hfa, hba0, hbx⟩ := Hd.rdAns_inv h0
    obtain ⟨hlen, hl1⟩ := Hd.beg_inv hbx
    have hb2 : begX l 2 ≠ 0 := fun e => by
      have := (Hd.beg_inv e).2
      rw [hl1] at this
      exact absurd (List.cons.inj this).1 (by decide)
    have hb3 : begX l 3 ≠ 0 := fun e => by
      have := (Hd.beg_inv e).2
      rw [hl1] at this
      exact absurd (List.cons.inj this).1 (by decide)
    have hr1 : Hd.rdPage l = .error (begX l 2) := by unfold Hd.rdPage; rw [if_pos hb2]
    have hr2 : Hd.rdStep l = .error (begX l 3) := by unfold Hd.rdStep; rw [if_pos hb3]
    rw [h0] at CR0
    rw [hr1] at CR1
    rw [hr2] at CR2
    have CR0 := Lib.hid CR0
    have CR1 := Lib.hid CR1
    have CR2 := Lib.hid CR2
    obtain ⟨x1, hx1⟩ : ∃ x, begX l 2 = x := ⟨_, rfl⟩
    obtain ⟨x2, hx2⟩ : ∃ x, begX l 3 = x := ⟨_, rfl⟩
    rw [hx1] at CR1 hb2
    rw [hx2] at CR2 hb3
    have hi1 : ((x1 : Int) == 0) = false := beq_eq_false_iff_ne.2 (by omega)
    have hn1 : ((x1 : Int) != 0) = true := by rw [bne_iff_ne]; omega
    have hi2 : ((x2 : Int) == 0) = false := beq_eq_false_iff_ne.2 (by omega)
    have hn2 : ((x2 : Int) != 0) = true := by rw [bne_iff_ne]; omega
    obtain ⟨fh, fl, fr⟩ := Hd.An.fair_iff.1 hfa
    have HOK := Lib.hid (Hd.H.ok_iff fh)
    have HFL := Lib.hid fl
    have HSM := Lib.hid (show ∀ q ∈ a.rows, ∀ p ∈ q, p.Small from fun q hq p hp => by
      have h := List.all_eq_true.1 fr q hq
      simp only [Bool.and_eq_true] at h
      exact Hd.Pf.small_of (List.all_eq_true.1 h.2 p hp))
    have HWR := Lib.hid (show Hd.wrAns a = .ok l by rw [Hd.wrAns_ok hfa, hba0, if_neg (by omega)])
    clear h0 hfa hba0 hbx hlen hl1 hb2 hb3 hr1 hr2 fh fl fr hx1 hx2
    go_enter Tryd.func6, Tryd.ntmps6
    go_upto_region 3 with fail
    have HOE0 := Lib.hid (Own8.empty w (Nat.le_refl w.heap.size))
    have HBE0 := Lib.hid ((Below.refl w.heap.size w).alloc (Nat.le_refl _) (.cells #[] 5))
    have hbe0 : w.heap.size ≤ (w.alloc (.cells #[] 5)).heap.size := HBE0.out.size
    go_wp2_with (at_builtin; refine wl_app8 rfl (.tmp 20) (.tmp 21) rfl rfl HOE0.out rfl ((HBS.out.keep (Below.refl w.heap.size w)).keep HBE0.out) (by omega) hbe0 ?_; intro Ax0 nx0 cx0 wx0 ho hb hg; have HX0 := Lib.hid (And.intro ho (HBE0.out.trans hb)); clear ho hb hg)
    (with_reducible refine (CR0.out _ _ _ _ (by have h := HX0.out.1.bs; rw [List.nil_append] at h; exact h)).mono ?_)
    rintro e wr0 ⟨hb9, Ah, nh, ch, Ar, nr, cr, LL, rfl, hq, ho, hrw, hll⟩
    have HBR0 := Lib.hid (bt HX0.out.2 hb9)
    go_upto_region 4 with fail
    have hba := (Below.refl wr0.heap.size wr0).alloc (Nat.le_refl _) (.cells #[.int .i64 a.h.size, sv a.h.log, .slice Ah nh ch, .slice Ar nr cr] 27)
    have hra := row_new wr0 #[.int .i64 a.h.size, sv a.h.log, .slice Ah nh ch, .slice Ar nr cr] 27
    obtain ⟨wa0, hwa⟩ : ∃ W, wr0.alloc (.cells #[.int .i64 a.h.size, sv a.h.log, .slice Ah nh ch, .slice Ar nr cr] 27) = W := ⟨_, rfl⟩
    rw [hwa] at hba hra ⊢
    have HS0 := Lib.hid (bt HBR0.out hba)
    have HBA0 := Lib.hid (bt (Below.refl w.heap.size w) HS0.out)
    have HM := Lib.hid (show Sq sgc 4 wa0 Ah nh ch a.h.segs ∧ InRows wa0 Ar nr cr LL from ⟨hq.sq.keep hba, InRows.keep ⟨ho.sq, fun r hr => (hrw r hr).inr⟩ hba⟩)
    have HLL := Lib.hid hll
    clear hq ho hrw hll
    have HRB := Lib.hid hra
    have HWA := Lib.hid (Below.refl wa0.heap.size wa0)
    clear hwa hba hra hb9 HOE0 hbe0 CR0
    have HOE1 := Lib.hid (Own8.empty wa0 (Nat.le_refl wa0.heap.size))
    have HBE1 := Lib.hid ((Below.refl wa0.heap.size wa0).alloc (Nat.le_refl _) (.cells #[] 5))
    have hbe1 : wa0.heap.size ≤ (wa0.alloc (.cells #[] 5)).heap.size := HBE1.out.size
    go_wp2_with (at_builtin; refine wl_app8 rfl (.tmp 27) (.tmp 28) rfl rfl HOE1.out rfl ((HBS.out.keep HBA0.out).keep HBE1.out) (by omega) hbe1 ?_; intro Ax1 nx1 cx1 wx1 ho hb hg; have HX1 := Lib.hid (And.intro ho (HBE1.out.trans hb)); clear ho hb hg)
    (with_reducible refine (CR1.out _ _ _ _ (by have h := HX1.out.1.bs; rw [List.nil_append] at h; exact h)).mono ?_)
    rintro e wr1 ⟨hb9, rfl, _⟩
    have HBR1 := Lib.hid (bt HX1.out.2 hb9)
    go_upto_region 5 with fail
    have hba := (Below.refl wr1.heap.size wr1).alloc (Nat.le_refl _) (.cells #[.int .i64 0, .string { data := #[] }, .slice none 0 0, .int .i64 0, .slice none 0 0, .slice none 0 0] 48)
    have hra := row_new wr1 #[.int .i64 0, .string { data := #[] }, .slice none 0 0, .int .i64 0, .slice none 0 0, .slice none 0 0] 48
    obtain ⟨wa1, hwa⟩ : ∃ W, wr1.alloc (.cells #[.int .i64 0, .string { data := #[] }, .slice none 0 0, .int .i64 0, .slice none 0 0, .slice none 0 0] 48) = W := ⟨_, rfl⟩
    rw [hwa] at hba hra ⊢
    have HS1 := Lib.hid (bt HBR1.out hba)
    have HBA1 := Lib.hid (bt HBA0.out HS1.out)
    replace HWA := Lib.hid (bt HWA.out HS1.out)
    clear hwa hba hra hb9 HOE1 hbe1 CR1
    have HOE2 := Lib.hid (Own8.empty wa1 (Nat.le_refl wa1.heap.size))
    have HBE2 := Lib.hid ((Below.refl wa1.heap.size wa1).alloc (Nat.le_refl _) (.cells #[] 5))
    have hbe2 : wa1.heap.size ≤ (wa1.alloc (.cells #[] 5)).heap.size := HBE2.out.size
    go_wp2_with (at_builtin; refine wl_app8 rfl (.tmp 34) (.tmp 35) rfl rfl HOE2.out rfl ((HBS.out.keep HBA1.out).keep HBE2.out) (by omega) hbe2 ?_; intro Ax2 nx2 cx2 wx2 ho hb hg; have HX2 := Lib.hid (And.intro ho (HBE2.out.trans hb)); clear ho hb hg)
    (with_reducible refine (CR2.out _ _ _ _ (by have h := HX2.out.1.bs; rw [List.nil_append] at h; exact h)).mono ?_)
    rintro e wr2 ⟨hb9, rfl, _⟩
    have HBR2 := Lib.hid (bt HX2.out.2 hb9)
    go_upto_region 6 with fail
    have hba := (Below.refl wr2.heap.size wr2).alloc (Nat.le_refl _) (.cells #[.int .i64 0, .string { data := #[] }, .slice none 0 0, .int .i64 0, .string { data := #[] }, .slice none 0 0, .slice none 0 0] 62)
    have hra := row_new wr2 #[.int .i64 0, .string { data := #[] }, .slice none 0 0, .int .i64 0, .string { data := #[] }, .slice none 0 0, .slice none 0 0] 62
    obtain ⟨wa2, hwa⟩ : ∃ W, wr2.alloc (.cells #[.int .i64 0, .string { data := #[] }, .slice none 0 0, .int .i64 0, .string { data := #[] }, .slice none 0 0, .slice none 0 0] 62) = W := ⟨_, rfl⟩
    rw [hwa] at hba hra ⊢
    have HS2 := Lib.hid (bt HBR2.out hba)
    have HBA2 := Lib.hid (bt HBA1.out HS2.out)
    replace HWA := Lib.hid (bt HWA.out HS2.out)
    clear hwa hba hra hb9 HOE2 hbe2 CR2
    have x0 := (HRB.out.belowS HWA.out (Nat.le_refl _)).cellQ 0 _ rfl
    have x1 := (HRB.out.belowS HWA.out (Nat.le_refl _)).cellQ 1 _ rfl
    have x2 := (HRB.out.belowS HWA.out (Nat.le_refl _)).cellQ 2 _ rfl
    have x3 := (HRB.out.belowS HWA.out (Nat.le_refl _)).cellQ 3 _ rfl
    have C := wr_ans a LL HLL.out (fun W' hW => HM.out.1.keep (bt HWA.out hW)) (fun s hs => by have := (HOK.out.all s hs).rt; omega) (by have := HOK.out.log; omega) (fun W' hW => HM.out.2.keep (bt HWA.out hW)) HSM.out (by have h1 := HOK.out.few; have h2 := congrArg List.length HLL.out; rw [List.length_map] at h2; have h3 := HFL.out; omega)
    rw [HWR.out] at C
    unfold WrPost at C
    have C := Lib.hid C
    go_wp2_with fail
    (with_reducible refine C.out.mono ?_)
    rintro e ww ⟨hb9, A8, n8, c8, rfl, ho8⟩
    have HBW := Lib.hid (bt HBA2.out hb9)
    have HO8 := Lib.hid ho8
    clear hb9 ho8 C x0 x1 x2 x3
    have hc8 := run_str (P := Tryd.prog) (w := ww) 30 9 5 Tryd.underlying30 Tryd.underlying5 Tryd.underlying9 A8 n8 c8 _ l HO8.out.bs.rd HO8.out.len
    have hc9 := run_str (P := Tryd.prog) (w := ww) 30 9 5 Tryd.underlying30 Tryd.underlying5 Tryd.underlying9 A n c _ l (HBS.out.keep HBW.out).rd (HBS.out.keep HBW.out).len
    go_wp2_with fail
    (with_reducible refine (CK.out _ HBW.out).mono ?_)
    rintro e wk ⟨rfl, hbk⟩
    have HBK := Lib.hid (bt HBW.out hbk)
    clear hbk
    go_wp2
    go_ret
    exact ⟨rfl, HBK.out⟩
  | error x0 =>
    rw [h0] at CR0
    have CR0 := Lib.hid CR0
    by_cases hz0 : x0 = 0
    · exact absurd hz0 (Hd.rdAns_err h0)
    have hi0 : ((x0 : Int) == 0) = false := beq_eq_false_iff_ne.2 (by omega)
    have hn0 : ((x0 : Int) != 0) = true := by rw [bne_iff_ne]; omega
    clear h0
    cases h1 : Hd.rdPage l with
    | ok p =>
      obtain ⟨hfa, hba0, hbx⟩ := Hd.rdPage_inv h1
      obtain ⟨hlen, hl1⟩ := Hd.beg_inv hbx
      have hb3 : begX l 3 ≠ 0 := fun e => by
        have := (Hd.beg_inv e).2
        rw [hl1] at this
        exact absurd (List.cons.inj this).1 (by decide)
      have hr2 : Hd.rdStep l = .error (begX l 3) := by unfold Hd.rdStep; rw [if_pos hb3]
      rw [h1] at CR1
      rw [hr2] at CR2
      obtain ⟨x2, hx2⟩ : ∃ x, begX l 3 = x := ⟨_, rfl⟩
      rw [hx2] at CR2 hb3
      have CR1 := Lib.hid CR1
      have CR2 := Lib.hid CR2
      have hi2 : ((x2 : Int) == 0) = false := beq_eq_false_iff_ne.2 (by omega)
      have hn2 : ((x2 : Int) != 0) = true := by rw [bne_iff_ne]; omega
      obtain ⟨fh, fa, fd, fp⟩ := Hd.Pg.fair_iff.1 hfa
      have HOK := Lib.hid (Hd.H.ok_iff fh)
      have hat := fa
      have HPL := Lib.hid (show ∀ d ∈ p.path, d.length ≤ 1000000 from fun d hd => by
        unfold Hd.pathsOk at fp
        simp only [Bool.and_eq_true] at fp
        have := Hd.all32_iff.1 fp.2 d hd
        omega)
      have HWR := Lib.hid (show Hd.wrPage p = .ok l by rw [Hd.wrPage_ok hfa, hba0])
      clear h1 hfa hba0 hbx hlen hl1 hb3 hr2 fh fa fd fp hx2
      go_enter Tryd.func6, Tryd.ntmps6
      go_upto_region 3 with fail
      have HOE0 := Lib.hid (Own8.empty w (Nat.le_refl w.heap.size))
      have HBE0 := Lib.hid ((Below.refl w.heap.size w).alloc (Nat.le_refl _) (.cells #[] 5))
      have hbe0 : w.heap.size ≤ (w.alloc (.cells #[] 5)).heap.size := HBE0.out.size
      go_wp2_with (at_builtin; refine wl_app8 rfl (.tmp 20) (.tmp 21) rfl rfl HOE0.out rfl ((HBS.out.keep (Below.refl w.heap.size w)).keep HBE0.out) (by omega) hbe0 ?_; intro Ax0 nx0 cx0 wx0 ho hb hg; have HX0 := Lib.hid (And.intro ho (HBE0.out.trans hb)); clear ho hb hg)
      (with_reducible refine (CR0.out _ _ _ _ (by have h := HX0.out.1.bs; rw [List.nil_append] at h; exact h)).mono ?_)
      rintro e wr0 ⟨hb9, rfl, _⟩
      have HBR0 := Lib.hid (bt HX0.out.2 hb9)
      go_upto_region 4 with fail
      have hba := (Below.refl wr0.heap.size wr0).alloc (Nat.le_refl _) (.cells #[.int .i64 0, .string { data := #[] }, .slice none 0 0, .slice none 0 0] 27)
      have hra := row_new wr0 #[.int .i64 0, .string { data := #[] }, .slice none 0 0, .slice none 0 0] 27
      obtain ⟨wa0, hwa⟩ : ∃ W, wr0.alloc (.cells #[.int .i64 0, .string { data := #[] }, .slice none 0 0, .slice none 0 0] 27) = W := ⟨_, rfl⟩
      rw [hwa] at hba hra ⊢
      have HS0 := Lib.hid (bt HBR0.out hba)
      have HBA0 := Lib.hid (bt (Below.refl w.heap.size w) HS0.out)
      clear hwa hba hra hb9 HOE0 hbe0 CR0
      have HOE1 := Lib.hid (Own8.empty wa0 (Nat.le_refl wa0.heap.size))
      have HBE1 := Lib.hid ((Below.refl wa0.heap.size wa0).alloc (Nat.le_refl _) (.cells #[] 5))
      have hbe1 : wa0.heap.size ≤ (wa0.alloc (.cells #[] 5)).heap.size := HBE1.out.size
      go_wp2_with (at_builtin; refine wl_app8 rfl (.tmp 27) (.tmp 28) rfl rfl HOE1.out rfl ((HBS.out.keep HBA0.out).keep HBE1.out) (by omega) hbe1 ?_; intro Ax1 nx1 cx1 wx1 ho hb hg; have HX1 := Lib.hid (And.intro ho (HBE1.out.trans hb)); clear ho hb hg)
      (with_reducible refine (CR1.out _ _ _ _ (by have h := HX1.out.1.bs; rw [List.nil_append] at h; exact h)).mono ?_)
      rintro e wr1 ⟨hb9, A0, n0, c0, Ad, nd, cd, Ap, np, cp, rfl, hq, hd, hp⟩
      have HBR1 := Lib.hid (bt HX1.out.2 hb9)
      go_upto_region 5 with fail
      have hba := (Below.refl wr1.heap.size wr1).alloc (Nat.le_refl _) (.cells #[.int .i64 p.h.size, sv p.h.log, .slice A0 n0 c0, .int .i64 p.at_, .slice Ad nd cd, .slice Ap np cp] 48)
      have hra := row_new wr1 #[.int .i64 p.h.size, sv p.h.log, .slice A0 n0 c0, .int .i64 p.at_, .slice Ad nd cd, .slice Ap np cp] 48
      obtain ⟨wa1, hwa⟩ : ∃ W, wr1.alloc (.cells #[.int .i64 p.h.size, sv p.h.log, .slice A0 n0 c0, .int .i64 p.at_, .slice Ad nd cd, .slice Ap np cp] 48) = W := ⟨_, rfl⟩
      rw [hwa] at hba hra ⊢
      have HS1 := Lib.hid (bt HBR1.out hba)
      have HBA1 := Lib.hid (bt HBA0.out HS1.out)
      have HM := Lib.hid (show Sq sgc 4 wa1 A0 n0 c0 p.h.segs ∧ Bs wa1 Ad nd cd p.doc ∧ Ss wa1 Ap np cp p.path from ⟨hq.sq.keep hba, hd.bs.keep hba, hp.ss.keep hba⟩)
      clear hq hd hp
      have HRB := Lib.hid hra
      have HWA := Lib.hid (Below.refl wa1.heap.size wa1)
      clear hwa hba hra hb9 HOE1 hbe1 CR1
      have HOE2 := Lib.hid (Own8.empty wa1 (Nat.le_refl wa1.heap.size))
      have HBE2 := Lib.hid ((Below.refl wa1.heap.size wa1).alloc (Nat.le_refl _) (.cells #[] 5))
      have hbe2 : wa1.heap.size ≤ (wa1.alloc (.cells #[] 5)).heap.size := HBE2.out.size
      go_wp2_with (at_builtin; refine wl_app8 rfl (.tmp 34) (.tmp 35) rfl rfl HOE2.out rfl ((HBS.out.keep HBA1.out).keep HBE2.out) (by omega) hbe2 ?_; intro Ax2 nx2 cx2 wx2 ho hb hg; have HX2 := Lib.hid (And.intro ho (HBE2.out.trans hb)); clear ho hb hg)
      (with_reducible refine (CR2.out _ _ _ _ (by have h := HX2.out.1.bs; rw [List.nil_append] at h; exact h)).mono ?_)
      rintro e wr2 ⟨hb9, rfl, _⟩
      have HBR2 := Lib.hid (bt HX2.out.2 hb9)
      go_upto_region 6 with fail
      have hba := (Below.refl wr2.heap.size wr2).alloc (Nat.le_refl _) (.cells #[.int .i64 0, .string { data := #[] }, .slice none 0 0, .int .i64 0, .string { data := #[] }, .slice none 0 0, .slice none 0 0] 62)
      have hra := row_new wr2 #[.int .i64 0, .string { data := #[] }, .slice none 0 0, .int .i64 0, .string { data := #[] }, .slice none 0 0, .slice none 0 0] 62
      obtain ⟨wa2, hwa⟩ : ∃ W, wr2.alloc (.cells #[.int .i64 0, .string { data := #[] }, .slice none 0 0, .int .i64 0, .string { data := #[] }, .slice none 0 0, .slice none 0 0] 62) = W := ⟨_, rfl⟩
      rw [hwa] at hba hra ⊢
      have HS2 := Lib.hid (bt HBR2.out hba)
      have HBA2 := Lib.hid (bt HBA1.out HS2.out)
      replace HWA := Lib.hid (bt HWA.out HS2.out)
      clear hwa hba hra hb9 HOE2 hbe2 CR2
      have x0 := (HRB.out.belowS HWA.out (Nat.le_refl _)).cellQ 0 _ rfl
      have x1 := (HRB.out.belowS HWA.out (Nat.le_refl _)).cellQ 1 _ rfl
      have x2 := (HRB.out.belowS HWA.out (Nat.le_refl _)).cellQ 2 _ rfl
      have x3 := (HRB.out.belowS HWA.out (Nat.le_refl _)).cellQ 3 _ rfl
      have x4 := (HRB.out.belowS HWA.out (Nat.le_refl _)).cellQ 4 _ rfl
      have x5 := (HRB.out.belowS HWA.out (Nat.le_refl _)).cellQ 5 _ rfl
      have C := wr_page p (fun W' hW => HM.out.1.keep (bt HWA.out hW)) (fun s hs => by have := (HOK.out.all s hs).rt; omega) (by have := HOK.out.log; omega) (by omega) (by omega) (fun W' hW => HM.out.2.1.keep (bt HWA.out hW)) (fun W' hW => HM.out.2.2.keep (bt HWA.out hW)) HPL.out
      rw [HWR.out] at C
      unfold WrPost at C
      have C := Lib.hid C
      go_wp2_with fail
      (with_reducible refine C.out.mono ?_)
      rintro e ww ⟨hb9, A8, n8, c8, rfl, ho8⟩
      have HBW := Lib.hid (bt HBA2.out hb9)
      have HO8 := Lib.hid ho8
      clear hb9 ho8 C x0 x1 x2 x3 x4 x5
      have hc8 := run_str (P := Tryd.prog) (w := ww) 30 9 5 Tryd.underlying30 Tryd.underlying5 Tryd.underlying9 A8 n8 c8 _ l HO8.out.bs.rd HO8.out.len
      have hc9 := run_str (P := Tryd.prog) (w := ww) 30 9 5 Tryd.underlying30 Tryd.underlying5 Tryd.underlying9 A n c _ l (HBS.out.keep HBW.out).rd (HBS.out.keep HBW.out).len
      go_wp2_with fail
      (with_reducible refine (CK.out _ HBW.out).mono ?_)
      rintro e wk ⟨rfl, hbk⟩
      have HBK := Lib.hid (bt HBW.out hbk)
      clear hbk
      go_wp2
      go_ret
      exact ⟨rfl, HBK.out⟩
    | error x1 =>
      rw [h1] at CR1
      have CR1 := Lib.hid CR1
      by_cases hz1 : x1 = 0
      · exact absurd hz1 (Hd.rdPage_err h1)
      have hi1 : ((x1 : Int) == 0) = false := beq_eq_false_iff_ne.2 (by omega)
      have hn1 : ((x1 : Int) != 0) = true := by rw [bne_iff_ne]; omega
      clear h1
      cases h2 : Hd.rdStep l with
      | ok p =>
        obtain ⟨hfa, hba0, hbx⟩ := Hd.rdStep_inv h2
        rw [h2] at CR2
        have CR2 := Lib.hid CR2
        obtain ⟨fo, fn, fp⟩ := Hd.Stp.fair_iff.1 hfa
        have HOK := Lib.hid (And.intro (Hd.H.ok_iff fo) (Hd.H.ok_iff fn))
        have HPL := Lib.hid (show ∀ d ∈ p.proof, d.length ≤ 1000000 from fun d hd => by
          unfold Hd.pathsOk at fp
          simp only [Bool.and_eq_true] at fp
          have := Hd.all32_iff.1 fp.2 d hd
          omega)
        have HWR := Lib.hid (show Hd.wrStep p = .ok l by rw [Hd.wrStep_ok hfa, hba0])
        clear h2 hfa hba0 hbx fo fn fp
        go_enter Tryd.func6, Tryd.ntmps6
        go_upto_region 3 with fail
        have HOE0 := Lib.hid (Own8.empty w (Nat.le_refl w.heap.size))
        have HBE0 := Lib.hid ((Below.refl w.heap.size w).alloc (Nat.le_refl _) (.cells #[] 5))
        have hbe0 : w.heap.size ≤ (w.alloc (.cells #[] 5)).heap.size := HBE0.out.size
        go_wp2_with (at_builtin; refine wl_app8 rfl (.tmp 20) (.tmp 21) rfl rfl HOE0.out rfl ((HBS.out.keep (Below.refl w.heap.size w)).keep HBE0.out) (by omega) hbe0 ?_; intro Ax0 nx0 cx0 wx0 ho hb hg; have HX0 := Lib.hid (And.intro ho (HBE0.out.trans hb)); clear ho hb hg)
        (with_reducible refine (CR0.out _ _ _ _ (by have h := HX0.out.1.bs; rw [List.nil_append] at h; exact h)).mono ?_)
        rintro e wr0 ⟨hb9, rfl, _⟩
        have HBR0 := Lib.hid (bt HX0.out.2 hb9)
        go_upto_region 4 with fail
        have hba := (Below.refl wr0.heap.size wr0).alloc (Nat.le_refl _) (.cells #[.int .i64 0, .string { data := #[] }, .slice none 0 0, .slice none 0 0] 27)
        have hra := row_new wr0 #[.int .i64 0, .string { data := #[] }, .slice none 0 0, .slice none 0 0] 27
        obtain ⟨wa0, hwa⟩ : ∃ W, wr0.alloc (.cells #[.int .i64 0, .string { data := #[] }, .slice none 0 0, .slice none 0 0] 27) = W := ⟨_, rfl⟩
        rw [hwa] at hba hra ⊢
        have HS0 := Lib.hid (bt HBR0.out hba)
        have HBA0 := Lib.hid (bt (Below.refl w.heap.size w) HS0.out)
        clear hwa hba hra hb9 HOE0 hbe0 CR0
        have HOE1 := Lib.hid (Own8.empty wa0 (Nat.le_refl wa0.heap.size))
        have HBE1 := Lib.hid ((Below.refl wa0.heap.size wa0).alloc (Nat.le_refl _) (.cells #[] 5))
        have hbe1 : wa0.heap.size ≤ (wa0.alloc (.cells #[] 5)).heap.size := HBE1.out.size
        go_wp2_with (at_builtin; refine wl_app8 rfl (.tmp 27) (.tmp 28) rfl rfl HOE1.out rfl ((HBS.out.keep HBA0.out).keep HBE1.out) (by omega) hbe1 ?_; intro Ax1 nx1 cx1 wx1 ho hb hg; have HX1 := Lib.hid (And.intro ho (HBE1.out.trans hb)); clear ho hb hg)
        (with_reducible refine (CR1.out _ _ _ _ (by have h := HX1.out.1.bs; rw [List.nil_append] at h; exact h)).mono ?_)
        rintro e wr1 ⟨hb9, rfl, _⟩
        have HBR1 := Lib.hid (bt HX1.out.2 hb9)
        go_upto_region 5 with fail
        have hba := (Below.refl wr1.heap.size wr1).alloc (Nat.le_refl _) (.cells #[.int .i64 0, .string { data := #[] }, .slice none 0 0, .int .i64 0, .slice none 0 0, .slice none 0 0] 48)
        have hra := row_new wr1 #[.int .i64 0, .string { data := #[] }, .slice none 0 0, .int .i64 0, .slice none 0 0, .slice none 0 0] 48
        obtain ⟨wa1, hwa⟩ : ∃ W, wr1.alloc (.cells #[.int .i64 0, .string { data := #[] }, .slice none 0 0, .int .i64 0, .slice none 0 0, .slice none 0 0] 48) = W := ⟨_, rfl⟩
        rw [hwa] at hba hra ⊢
        have HS1 := Lib.hid (bt HBR1.out hba)
        have HBA1 := Lib.hid (bt HBA0.out HS1.out)
        clear hwa hba hra hb9 HOE1 hbe1 CR1
        have HOE2 := Lib.hid (Own8.empty wa1 (Nat.le_refl wa1.heap.size))
        have HBE2 := Lib.hid ((Below.refl wa1.heap.size wa1).alloc (Nat.le_refl _) (.cells #[] 5))
        have hbe2 : wa1.heap.size ≤ (wa1.alloc (.cells #[] 5)).heap.size := HBE2.out.size
        go_wp2_with (at_builtin; refine wl_app8 rfl (.tmp 34) (.tmp 35) rfl rfl HOE2.out rfl ((HBS.out.keep HBA1.out).keep HBE2.out) (by omega) hbe2 ?_; intro Ax2 nx2 cx2 wx2 ho hb hg; have HX2 := Lib.hid (And.intro ho (HBE2.out.trans hb)); clear ho hb hg)
        (with_reducible refine (CR2.out _ _ _ _ (by have h := HX2.out.1.bs; rw [List.nil_append] at h; exact h)).mono ?_)
        rintro e wr2 ⟨hb9, A0, n0, c0, Ad, nd, cd, Ap, np, cp, rfl, hq, hd, hp⟩
        have HBR2 := Lib.hid (bt HX2.out.2 hb9)
        go_upto_region 6 with fail
        have hba := (Below.refl wr2.heap.size wr2).alloc (Nat.le_refl _) (.cells #[.int .i64 p.old.size, sv p.old.log, .slice A0 n0 c0, .int .i64 p.new.size, sv p.new.log, .slice Ad nd cd, .slice Ap np cp] 62)
        have hra := row_new wr2 #[.int .i64 p.old.size, sv p.old.log, .slice A0 n0 c0, .int .i64 p.new.size, sv p.new.log, .slice Ad nd cd, .slice Ap np cp] 62
        obtain ⟨wa2, hwa⟩ : ∃ W, wr2.alloc (.cells #[.int .i64 p.old.size, sv p.old.log, .slice A0 n0 c0, .int .i64 p.new.size, sv p.new.log, .slice Ad nd cd, .slice Ap np cp] 62) = W := ⟨_, rfl⟩
        rw [hwa] at hba hra ⊢
        have HS2 := Lib.hid (bt HBR2.out hba)
        have HBA2 := Lib.hid (bt HBA1.out HS2.out)
        have HM := Lib.hid (show Sq sgc 4 wa2 A0 n0 c0 p.old.segs ∧ Sq sgc 4 wa2 Ad nd cd p.new.segs ∧ Ss wa2 Ap np cp p.proof from ⟨hq.sq.keep hba, hd.sq.keep hba, hp.ss.keep hba⟩)
        clear hq hd hp
        have HRB := Lib.hid hra
        have HWA := Lib.hid (Below.refl wa2.heap.size wa2)
        clear hwa hba hra hb9 HOE2 hbe2 CR2
        have x0 := (HRB.out.belowS HWA.out (Nat.le_refl _)).cellQ 0 _ rfl
        have x1 := (HRB.out.belowS HWA.out (Nat.le_refl _)).cellQ 1 _ rfl
        have x2 := (HRB.out.belowS HWA.out (Nat.le_refl _)).cellQ 2 _ rfl
        have x3 := (HRB.out.belowS HWA.out (Nat.le_refl _)).cellQ 3 _ rfl
        have x4 := (HRB.out.belowS HWA.out (Nat.le_refl _)).cellQ 4 _ rfl
        have x5 := (HRB.out.belowS HWA.out (Nat.le_refl _)).cellQ 5 _ rfl
        have x6 := (HRB.out.belowS HWA.out (Nat.le_refl _)).cellQ 6 _ rfl
        have C := wr_step p (fun W' hW => HM.out.1.keep (bt HWA.out hW)) (fun s hs => by have := (HOK.out.1.all s hs).rt; omega) (by have := HOK.out.1.log; omega) (fun W' hW => HM.out.2.1.keep (bt HWA.out hW)) (fun s hs => by have := (HOK.out.2.all s hs).rt; omega) (by have := HOK.out.2.log; omega) (fun W' hW => HM.out.2.2.keep (bt HWA.out hW)) HPL.out
        rw [HWR.out] at C
        unfold WrPost at C
        have C := Lib.hid C
        go_wp2_with fail
        (with_reducible refine C.out.mono ?_)
        rintro e ww ⟨hb9, A8, n8, c8, rfl, ho8⟩
        have HBW := Lib.hid (bt HBA2.out hb9)
        have HO8 := Lib.hid ho8
        clear hb9 ho8 C x0 x1 x2 x3 x4 x5 x6
        have hc8 := run_str (P := Tryd.prog) (w := ww) 30 9 5 Tryd.underlying30 Tryd.underlying5 Tryd.underlying9 A8 n8 c8 _ l HO8.out.bs.rd HO8.out.len
        have hc9 := run_str (P := Tryd.prog) (w := ww) 30 9 5 Tryd.underlying30 Tryd.underlying5 Tryd.underlying9 A n c _ l (HBS.out.keep HBW.out).rd (HBS.out.keep HBW.out).len
        go_wp2_with fail
        (with_reducible refine (CK.out _ HBW.out).mono ?_)
        rintro e wk ⟨rfl, hbk⟩
        have HBK := Lib.hid (bt HBW.out hbk)
        clear hbk
        go_wp2
        go_ret
        exact ⟨rfl, HBK.out⟩
      | error x2 =>
        rw [h2] at CR2
        have CR2 := Lib.hid CR2
        by_cases hz2 : x2 = 0
        · exact absurd hz2 (Hd.rdStep_err h2)
        have hi2 : ((x2 : Int) == 0) = false := beq_eq_false_iff_ne.2 (by omega)
        have hn2 : ((x2 : Int) != 0) = true := by rw [bne_iff_ne]; omega
        clear h2
        go_enter Tryd.func6, Tryd.ntmps6
        go_upto_region 3 with fail
        have HOE0 := Lib.hid (Own8.empty w (Nat.le_refl w.heap.size))
        have HBE0 := Lib.hid ((Below.refl w.heap.size w).alloc (Nat.le_refl _) (.cells #[] 5))
        have hbe0 : w.heap.size ≤ (w.alloc (.cells #[] 5)).heap.size := HBE0.out.size
        go_wp2_with (at_builtin; refine wl_app8 rfl (.tmp 20) (.tmp 21) rfl rfl HOE0.out rfl ((HBS.out.keep (Below.refl w.heap.size w)).keep HBE0.out) (by omega) hbe0 ?_; intro Ax0 nx0 cx0 wx0 ho hb hg; have HX0 := Lib.hid (And.intro ho (HBE0.out.trans hb)); clear ho hb hg)
        (with_reducible refine (CR0.out _ _ _ _ (by have h := HX0.out.1.bs; rw [List.nil_append] at h; exact h)).mono ?_)
        rintro e wr0 ⟨hb9, rfl, _⟩
        have HBR0 := Lib.hid (bt HX0.out.2 hb9)
        go_upto_region 4 with fail
        have hba := (Below.refl wr0.heap.size wr0).alloc (Nat.le_refl _) (.cells #[.int .i64 0, .string { data := #[] }, .slice none 0 0, .slice none 0 0] 27)
        have hra := row_new wr0 #[.int .i64 0, .string { data := #[] }, .slice none 0 0, .slice none 0 0] 27
        obtain ⟨wa0, hwa⟩ : ∃ W, wr0.alloc (.cells #[.int .i64 0, .string { data := #[] }, .slice none 0 0, .slice none 0 0] 27) = W := ⟨_, rfl⟩
        rw [hwa] at hba hra ⊢
        have HS0 := Lib.hid (bt HBR0.out hba)
        have HBA0 := Lib.hid (bt (Below.refl w.heap.size w) HS0.out)
        clear hwa hba hra hb9 HOE0 hbe0 CR0
        have HOE1 := Lib.hid (Own8.empty wa0 (Nat.le_refl wa0.heap.size))
        have HBE1 := Lib.hid ((Below.refl wa0.heap.size wa0).alloc (Nat.le_refl _) (.cells #[] 5))
        have hbe1 : wa0.heap.size ≤ (wa0.alloc (.cells #[] 5)).heap.size := HBE1.out.size
        go_wp2_with (at_builtin; refine wl_app8 rfl (.tmp 27) (.tmp 28) rfl rfl HOE1.out rfl ((HBS.out.keep HBA0.out).keep HBE1.out) (by omega) hbe1 ?_; intro Ax1 nx1 cx1 wx1 ho hb hg; have HX1 := Lib.hid (And.intro ho (HBE1.out.trans hb)); clear ho hb hg)
        (with_reducible refine (CR1.out _ _ _ _ (by have h := HX1.out.1.bs; rw [List.nil_append] at h; exact h)).mono ?_)
        rintro e wr1 ⟨hb9, rfl, _⟩
        have HBR1 := Lib.hid (bt HX1.out.2 hb9)
        go_upto_region 5 with fail
        have hba := (Below.refl wr1.heap.size wr1).alloc (Nat.le_refl _) (.cells #[.int .i64 0, .string { data := #[] }, .slice none 0 0, .int .i64 0, .slice none 0 0, .slice none 0 0] 48)
        have hra := row_new wr1 #[.int .i64 0, .string { data := #[] }, .slice none 0 0, .int .i64 0, .slice none 0 0, .slice none 0 0] 48
        obtain ⟨wa1, hwa⟩ : ∃ W, wr1.alloc (.cells #[.int .i64 0, .string { data := #[] }, .slice none 0 0, .int .i64 0, .slice none 0 0, .slice none 0 0] 48) = W := ⟨_, rfl⟩
        rw [hwa] at hba hra ⊢
        have HS1 := Lib.hid (bt HBR1.out hba)
        have HBA1 := Lib.hid (bt HBA0.out HS1.out)
        clear hwa hba hra hb9 HOE1 hbe1 CR1
        have HOE2 := Lib.hid (Own8.empty wa1 (Nat.le_refl wa1.heap.size))
        have HBE2 := Lib.hid ((Below.refl wa1.heap.size wa1).alloc (Nat.le_refl _) (.cells #[] 5))
        have hbe2 : wa1.heap.size ≤ (wa1.alloc (.cells #[] 5)).heap.size := HBE2.out.size
        go_wp2_with (at_builtin; refine wl_app8 rfl (.tmp 34) (.tmp 35) rfl rfl HOE2.out rfl ((HBS.out.keep HBA1.out).keep HBE2.out) (by omega) hbe2 ?_; intro Ax2 nx2 cx2 wx2 ho hb hg; have HX2 := Lib.hid (And.intro ho (HBE2.out.trans hb)); clear ho hb hg)
        (with_reducible refine (CR2.out _ _ _ _ (by have h := HX2.out.1.bs; rw [List.nil_append] at h; exact h)).mono ?_)
        rintro e wr2 ⟨hb9, rfl, _⟩
        have HBR2 := Lib.hid (bt HX2.out.2 hb9)
        go_upto_region 6 with fail
        have hba := (Below.refl wr2.heap.size wr2).alloc (Nat.le_refl _) (.cells #[.int .i64 0, .string { data := #[] }, .slice none 0 0, .int .i64 0, .string { data := #[] }, .slice none 0 0, .slice none 0 0] 62)
        have hra := row_new wr2 #[.int .i64 0, .string { data := #[] }, .slice none 0 0, .int .i64 0, .string { data := #[] }, .slice none 0 0, .slice none 0 0] 62
        obtain ⟨wa2, hwa⟩ : ∃ W, wr2.alloc (.cells #[.int .i64 0, .string { data := #[] }, .slice none 0 0, .int .i64 0, .string { data := #[] }, .slice none 0 0, .slice none 0 0] 62) = W := ⟨_, rfl⟩
        rw [hwa] at hba hra ⊢
        have HS2 := Lib.hid (bt HBR2.out hba)
        have HBA2 := Lib.hid (bt HBA1.out HS2.out)
        clear hwa hba hra hb9 HOE2 hbe2 CR2
        go_wp2_with fail
        (with_reducible refine (CK.out _ HBA2.out).mono ?_)
        rintro e wk ⟨rfl, hbk⟩
        have HBK := Lib.hid (bt HBA2.out hbk)
        clear hbk
        go_wp2
        go_ret
        exact ⟨rfl, HBK.out⟩
end Go.Proofs.YtfgpaepdlmnhaaaDoor
