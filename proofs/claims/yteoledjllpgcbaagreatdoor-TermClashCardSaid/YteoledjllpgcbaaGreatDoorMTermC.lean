/- MTermC: several texts of this claim in one file. No statement of the seat is proved here. -/
import Derived.Test.YteoledjllpgcbaaGreatDoorMTermB
namespace Go.Proofs.YteoledjllpgcbaaGreatDoor
set_option maxRecDepth 100000
set_option maxHeartbeats 64000000
set_option linter.unusedVariables false
open Go.RowKit
def Dc.greatP (p : Hd.Pf) : Bool := decide (200 < p.link.term.length) || (decide (200 < p.link.next.length) || (decide (200 < p.link.posts.length) || (decide (3000 < p.docs.length) || Tree.great p.path)))
theorem Dc.greatP_no {p : Hd.Pf} (h : Dc.greatP p = false) : (p.link.term.length ≤ 200 ∧ p.link.next.length ≤ 200 ∧ p.link.posts.length ≤ 200) ∧ p.docs.length ≤ 3000 ∧ (∀ s ∈ p.path, s.length ≤ 100) ∧ p.path.length ≤ 100 := by
 unfold Dc.greatP at h
 rw [Bool.or_eq_false_iff, Bool.or_eq_false_iff, Bool.or_eq_false_iff, Bool.or_eq_false_iff, decide_eq_false_iff_not, decide_eq_false_iff_not, decide_eq_false_iff_not, decide_eq_false_iff_not] at h
 obtain ⟨h1, h2, h3, h4, h5⟩ := h
 exact ⟨⟨by omega, by omega, by omega⟩, by omega, Tree.great_no h5⟩
theorem great11_any (Ap : Option Addr) (np cp : Nat) (Ad : Option Addr) (nd cd : Nat) (p : Hd.Pf) (w : World) (hp : Ss w Ap np cp p.path) (hpw : ∀ d ∈ p.path, d.length ≤ maxLen) (hd : p.docs.length = nd) :
  Calls Tryz.prog 15 #[pfv Ap np cp Ad nd cd p] w (RetB (Dc.greatP p) w) := by
 obtain ⟨w0, hw0⟩ : ∃ W, w.alloc (.cells #[.int .i64 p.at_, sv p.link.term, sv p.link.next, sv p.link.posts, .slice Ap np cp, .slice Ad nd cd] 30) = W := ⟨_, rfl⟩
 have hb0 := (Below.refl w.heap.size w).alloc (Nat.le_refl _) (.cells #[.int .i64 p.at_, sv p.link.term, sv p.link.next, sv p.link.posts, .slice Ap np cp, .slice Ad nd cd] 30)
 have hr0 := row_new w #[.int .i64 p.at_, sv p.link.term, sv p.link.next, sv p.link.posts, .slice Ap np cp, .slice Ad nd cd] 30
 rw [hw0] at hb0 hr0
 have HW0 := Lib.hid hw0
 have HB0 := Lib.hid hb0
 have HR0 := Lib.hid hr0
 have x1 := hr0.cellQ 1 _ rfl
 have x2 := hr0.cellQ 2 _ rfl
 have x3 := hr0.cellQ 3 _ rfl
 have x4 := hr0.cellQ 4 _ rfl
 have x5 := hr0.cellQ 5 _ rfl
 have CG := great6_any Ap np cp p.path w0 (hp.keep hb0) hpw
 have z1 := strLen p.link.term
 have z2 := strLen p.link.next
 have z3 := strLen p.link.posts
 clear hw0 hb0 hr0 hp hpw
 unfold pfv
 obtain ⟨q1, hq1⟩ : ∃ q, p.link.term.length = q := ⟨_, rfl⟩
 obtain ⟨q2, hq2⟩ : ∃ q, p.link.next.length = q := ⟨_, rfl⟩
 obtain ⟨q3, hq3⟩ : ∃ q, p.link.posts.length = q := ⟨_, rfl⟩
 rw [hq1] at z1
 rw [hq2] at z2
 rw [hq3] at z3
 by_cases h0 : 200 < q1
 ·
  have a0 : (200 : Int) < (q1 : Int) := by omega
  have HF := Lib.hid (show Dc.greatP p = true from by unfold Dc.greatP; rw [hd]; rw [hq1, hq2, hq3, decide_eq_true h0]; simp)
  clear CG hd hq1 hq2 hq3 h0
  go_enter Tryz.func15, Tryz.ntmps15
  go_upto_region 1 with fail
  rw [HW0.out]
  go_wp2
  go_ret
  exact ⟨by rw [HF.out]; rfl, HB0.out⟩
 have a0 : ¬ (200 : Int) < (q1 : Int) := by omega
 by_cases h1 : 200 < q2
 ·
  have a1 : (200 : Int) < (q2 : Int) := by omega
  have HF := Lib.hid (show Dc.greatP p = true from by unfold Dc.greatP; rw [hd]; rw [hq1, hq2, hq3, decide_eq_false h0, decide_eq_true h1]; simp)
  clear CG hd hq1 hq2 hq3 h0 h1
  go_enter Tryz.func15, Tryz.ntmps15
  go_upto_region 1 with fail
  rw [HW0.out]
  go_wp2
  go_ret
  exact ⟨by rw [HF.out]; rfl, HB0.out⟩
 have a1 : ¬ (200 : Int) < (q2 : Int) := by omega
 by_cases h2 : 200 < q3
 ·
  have a2 : (200 : Int) < (q3 : Int) := by omega
  have HF := Lib.hid (show Dc.greatP p = true from by unfold Dc.greatP; rw [hd]; rw [hq1, hq2, hq3, decide_eq_false h0, decide_eq_false h1, decide_eq_true h2]; simp)
  clear CG hd hq1 hq2 hq3 h0 h1 h2
  go_enter Tryz.func15, Tryz.ntmps15
  go_upto_region 1 with fail
  rw [HW0.out]
  go_wp2
  go_ret
  exact ⟨by rw [HF.out]; rfl, HB0.out⟩
 have a2 : ¬ (200 : Int) < (q3 : Int) := by omega
 by_cases h3 : 3000 < nd
 ·
  have a3 : (3000 : Int) < (nd : Int) := by omega
  have HF := Lib.hid (show Dc.greatP p = true from by unfold Dc.greatP; rw [hd]; rw [hq1, hq2, hq3, decide_eq_false h0, decide_eq_false h1, decide_eq_false h2, decide_eq_true h3]; simp)
  clear CG hd hq1 hq2 hq3 h0 h1 h2 h3
  go_enter Tryz.func15, Tryz.ntmps15
  go_upto_region 1 with fail
  rw [HW0.out]
  go_wp2
  go_ret
  exact ⟨by rw [HF.out]; rfl, HB0.out⟩
 have a3 : ¬ (3000 : Int) < (nd : Int) := by omega
 cases hg : Tree.great p.path with
 | true =>
  rw [hg] at CG
  have HF := Lib.hid (show Dc.greatP p = true from by unfold Dc.greatP; rw [hd]; rw [hq1, hq2, hq3, decide_eq_false h0, decide_eq_false h1, decide_eq_false h2, decide_eq_false h3, hg]; rfl)
  have CG := Lib.hid CG
  clear hd hg hq1 hq2 hq3 h0 h1 h2 h3
  go_enter Tryz.func15, Tryz.ntmps15
  go_upto_region 1 with fail
  rw [HW0.out]
  go_wp2_with fail
  (with_reducible refine CG.out.mono ?_)
  rintro e w1 ⟨rfl, rfl⟩
  go_wp2
  go_ret
  exact ⟨by rw [HF.out]; rfl, HB0.out⟩
 | false =>
  rw [hg] at CG
  have HF := Lib.hid (show Dc.greatP p = false from by unfold Dc.greatP; rw [hd]; rw [hq1, hq2, hq3, decide_eq_false h0, decide_eq_false h1, decide_eq_false h2, decide_eq_false h3, hg]; rfl)
  have CG := Lib.hid CG
  clear hd hg hq1 hq2 hq3 h0 h1 h2 h3
  go_enter Tryz.func15, Tryz.ntmps15
  go_upto_region 1 with fail
  rw [HW0.out]
  go_wp2_with fail
  (with_reducible refine CG.out.mono ?_)
  rintro e w1 ⟨rfl, rfl⟩
  go_wp2
  go_ret
  exact ⟨by rw [HF.out]; rfl, HB0.out⟩
def RCheckPost (r : Option (List Int)) (w : World) (e : Ending) (w' : World) : Prop := Below w.heap.size w w' ∧ match r with
 | some m => ∃ A n c, e = .returned (.tuple #[.slice A n c, .bool true]) ∧ Zs w' A n c m
 | none => e = .returned (.tuple #[.slice none 0 0, .bool false])
theorem rtcheck_any (root : List UInt8) (n : Int) (s : List UInt8) (Ap : Option Addr) (np cp : Nat) (Ad : Option Addr) (nd cd : Nat) (p : Hd.Pf) (w : World) (hp : Ss w Ap np cp p.path) (hpw : ∀ d ∈ p.path, d.length ≤ maxLen) (hd : Bs w Ad nd cd p.docs) (hnd : nd ≤ 100000) (hat : -9223372036854775808 ≤ p.at_ ∧ p.at_ ≤ 9223372036854775807) (hn1 : 1 ≤ n) (hn2 : n ≤ 1099511627776) :
  Calls Tryz.prog 18 #[sv root, .int .i64 n, sv s, pfv Ap np cp Ad nd cd p] w (RCheckPost (Dc.check root n s p) w) := by
 obtain ⟨w0, hw0⟩ : ∃ W, w.alloc (.cells #[.int .i64 p.at_, sv p.link.term, sv p.link.next, sv p.link.posts, .slice Ap np cp, .slice Ad nd cd] 38) = W := ⟨_, rfl⟩
 have hb0 := (Below.refl w.heap.size w).alloc (Nat.le_refl _) (.cells #[.int .i64 p.at_, sv p.link.term, sv p.link.next, sv p.link.posts, .slice Ap np cp, .slice Ad nd cd] 38)
 have hr0 := row_new w #[.int .i64 p.at_, sv p.link.term, sv p.link.next, sv p.link.posts, .slice Ap np cp, .slice Ad nd cd] 38
 rw [hw0] at hb0 hr0
 have HW0 := Lib.hid hw0
 have HB0 := Lib.hid hb0
 have HR0 := Lib.hid hr0
 have hpc := hp.cap
 have hpm := hp.max
 rw [maxLen_eq] at hpm
 have HP := Lib.hid hp
 have HPW := Lib.hid hpw
 have HD := Lib.hid hd
 have HX := Lib.hid (fun (W : World) (hW : Below w0.heap.size w0 W) => hr0.belowS hW (Nat.le_refl _))
 have QM := fun (W : World) => rmay_any p.link W
 unfold RetB at QM
 have Q6 := fun (W : World) (hW : Below w.heap.size w W) => right6_any Ap np cp p.path W (hp.keep hW) hpw
 have hdl := hd.len
 clear hw0 hb0 hr0 hp hpw hd
 unfold pfv
 cases hmy : p.link.may with
 | false =>
  rw [hmy] at QM
  have HN := Lib.hid (show Dc.check root n s p = none from by unfold Dc.check Dc.climbs; rw [hmy]; simp)
  clear hmy
  have QM := Lib.hid QM
  have Q6 := Lib.hid Q6
  go_enter Tryz.func18, Tryz.ntmps18
  go_upto_region 1 with fail
  rw [HW0.out]
  go_wp2_with fail
  refine Free.wp_free_l 31 (fun W => Below w0.heap.size w0 W) [Free.kc (.pointer (some ⟨w.heap.size, 1, none⟩)), Free.kc (.agg #[sv p.link.term, sv p.link.next, sv p.link.posts]), Free.kc (.bool false), Free.kc (.bool true), Free.kc (.bool true), Free.kc (undef), Free.kc (undef), Free.kc (undef), Free.kc (.bool true), Free.kc (.bool true), Free.kc (undef), Free.kc (undef), Free.kc (undef), Free.kc (undef), Free.kc (.bool true), Free.kc (.bool true), Free.kc (undef), Free.kc (undef), Free.kc (undef), Free.kc (undef), Free.kc (.bool true), Free.kc (.bool true), Free.kc (undef), Free.kc (undef), Free.kc (undef), Free.kc (undef), Free.kc (undef), Free.kc (undef), Free.kc (undef), Free.kc (undef), Free.kc (.bool true)] (by kernel_rfl) (by kernel_rfl) (by decide) (Below.refl _ _).drew (fun w w' h g => bt h g) ?_ ?_
  ·
   iterate 31 refine Free.forall_succ ?_ ?_
   all_goals first | exact Free.forall_zero | (refine Free.op fun vals wq hC hd => ?_) | skip
   · exact d_field (cx := .pointer (some ⟨w.heap.size, 0, none⟩)) rfl (by kernel_rfl) (by go_simp) rfl
   · exact Free.d_load (cx := .pointer (some ⟨w.heap.size, 1, none⟩)) rfl (Free.tr 0 hd) (by have hc1 := (HX.out wq hC).cellQ 1 _ rfl; have hc2 := (HX.out wq hC).cellQ 2 _ rfl; have hc3 := (HX.out wq hC).cellQ 3 _ rfl; go_simp) rfl
   · exact Free.d_call Tryz.func49 (by kernel_rfl) (by kernel_rfl) rfl rfl (Free.arg1 (Free.tr 1 hd)) ((QM.out wq).mono fun e w2 h => ⟨_, h.1, rfl, h.2⟩)
   · exact Free.d_un rfl (Free.tr 2 hd) (by go_simp) rfl
   · exact Free.d_move rfl (Free.tr 3 hd) rfl
   · exact Free.skl 4 16 false
   · exact Free.skl 4 16 false
   · exact Free.skl 4 16 false
   · exact Free.d_pick rfl (Eq.trans (b := vals 4) (by kernel_rfl) (hd 4 (by kernel_rfl))) rfl rfl
   · exact Free.d_move rfl (Free.tr 8 hd) rfl
   · exact Free.skl 9 21 false
   · exact Free.skl 9 21 false
   · exact Free.skl 9 21 false
   · exact Free.skl 9 21 false
   · exact Free.d_pick rfl (Eq.trans (b := vals 9) (by kernel_rfl) (hd 9 (by kernel_rfl))) rfl rfl
   · exact Free.d_move rfl (Free.tr 14 hd) rfl
   · exact Free.skl 15 27 false
   · exact Free.skl 15 27 false
   · exact Free.skl 15 27 false
   · exact Free.skl 15 27 false
   · exact Free.d_pick rfl (Eq.trans (b := vals 15) (by kernel_rfl) (hd 15 (by kernel_rfl))) rfl rfl
   · exact Free.d_move rfl (Free.tr 20 hd) rfl
   · exact Free.skl 21 33 false
   · exact Free.skl 21 33 false
   · exact Free.skl 21 33 false
   · exact Free.skl 21 33 false
   · exact Free.skl 21 33 false
   · exact Free.skl 21 33 false
   · exact Free.skl 21 33 false
   · exact Free.skl 21 33 false
   · exact Free.d_pick rfl (Eq.trans (b := vals 21) (by kernel_rfl) (hd 21 (by kernel_rfl))) rfl rfl
  ·
   intro vals wq hC hd
   refine Free.go hd ?_
   rintro _ rfl _ rfl _ rfl _ rfl _ rfl _ rfl _ rfl _ rfl _ rfl _ rfl _ rfl _ rfl _ rfl _ rfl _ rfl _ rfl _ rfl _ rfl _ rfl _ rfl _ rfl _ rfl _ rfl _ rfl _ rfl _ rfl _ rfl _ rfl _ rfl _ rfl _ rfl
   simp only [Free.All, Free.fl, Act.put, Free.sa, Free.s0, Free.s1]
   refine wpList_nil ?_
   clear hd
   have HQ := Lib.hid (bt HB0.out hC)
   clear hC
   go_wp2
   go_ret2
   rw [HN.out]
   exact ⟨HQ.out, rfl⟩
 | true =>
  rw [hmy] at QM
  have HMY := Lib.hid hmy
  clear hmy
  by_cases h1 : p.at_ < 0
  ·
   have HN := Lib.hid (show Dc.check root n s p = none from by
    have hf : Dc.fit n p = false := by
     cases hf : Dc.fit n p with
     | false => rfl
     | true => have := Dc.fit_iff.1 hf; omega
    unfold Dc.check Dc.climbs; rw [hf]; simp)
   have QM := Lib.hid QM
   have Q6 := Lib.hid Q6
   go_enter Tryz.func18, Tryz.ntmps18
   go_upto_region 1 with fail
   rw [HW0.out]
   go_wp2_with fail
   refine Free.wp_free_l 31 (fun W => Below w0.heap.size w0 W) [Free.kc (.pointer (some ⟨w.heap.size, 1, none⟩)), Free.kc (.agg #[sv p.link.term, sv p.link.next, sv p.link.posts]), Free.kc (.bool true), Free.kc (.bool false), Free.kc (.bool false), Free.kc (.pointer (some ⟨w.heap.size, 0, none⟩)), Free.kc (.int .i64 p.at_), Free.kc (.bool true), Free.kc (.bool true), Free.kc (.bool true), Free.kc (undef), Free.kc (undef), Free.kc (undef), Free.kc (undef), Free.kc (.bool true), Free.kc (.bool true), Free.kc (undef), Free.kc (undef), Free.kc (undef), Free.kc (undef), Free.kc (.bool true), Free.kc (.bool true), Free.kc (undef), Free.kc (undef), Free.kc (undef), Free.kc (undef), Free.kc (undef), Free.kc (undef), Free.kc (undef), Free.kc (undef), Free.kc (.bool true)] (by kernel_rfl) (by kernel_rfl) (by decide) (Below.refl _ _).drew (fun w w' h g => bt h g) ?_ ?_
   ·
    iterate 31 refine Free.forall_succ ?_ ?_
    all_goals first | exact Free.forall_zero | (refine Free.op fun vals wq hC hd => ?_) | skip
    · exact d_field (cx := .pointer (some ⟨w.heap.size, 0, none⟩)) rfl (by kernel_rfl) (by go_simp) rfl
    · exact Free.d_load (cx := .pointer (some ⟨w.heap.size, 1, none⟩)) rfl (Free.tr 0 hd) (by have hc1 := (HX.out wq hC).cellQ 1 _ rfl; have hc2 := (HX.out wq hC).cellQ 2 _ rfl; have hc3 := (HX.out wq hC).cellQ 3 _ rfl; go_simp) rfl
    · exact Free.d_call Tryz.func49 (by kernel_rfl) (by kernel_rfl) rfl rfl (Free.arg1 (Free.tr 1 hd)) ((QM.out wq).mono fun e w2 h => ⟨_, h.1, rfl, h.2⟩)
    · exact Free.d_un rfl (Free.tr 2 hd) (by go_simp) rfl
    · exact Free.d_move rfl (Free.tr 3 hd) rfl
    · refine Free.og 4 16 false fun vals wq hC hd => ?_; exact d_field (cx := .pointer (some ⟨w.heap.size, 0, none⟩)) rfl (by kernel_rfl) (by go_simp) rfl
    · refine Free.og 4 16 false fun vals wq hC hd => ?_; exact Free.d_load rfl (Free.tr 5 hd) (by have hcc := (HX.out wq hC).cellQ 0 _ rfl; go_simp) rfl
    · refine Free.og 4 16 false fun vals wq hC hd => ?_; exact Free.d_bin rfl (Free.tr 6 hd) (show _ = (.int .i64 0 : Value) from rfl) (by go_simp) (by go_simp) rfl
    · exact Free.d_pick rfl (Eq.trans (b := vals 4) (by kernel_rfl) (hd 4 (by kernel_rfl))) (Eq.trans (b := vals 7) (by kernel_rfl) (hd 7 (by kernel_rfl))) rfl
    · exact Free.d_move rfl (Free.tr 8 hd) rfl
    · exact Free.skl 9 21 false
    · exact Free.skl 9 21 false
    · exact Free.skl 9 21 false
    · exact Free.skl 9 21 false
    · exact Free.d_pick rfl (Eq.trans (b := vals 9) (by kernel_rfl) (hd 9 (by kernel_rfl))) rfl rfl
    · exact Free.d_move rfl (Free.tr 14 hd) rfl
    · exact Free.skl 15 27 false
    · exact Free.skl 15 27 false
    · exact Free.skl 15 27 false
    · exact Free.skl 15 27 false
    · exact Free.d_pick rfl (Eq.trans (b := vals 15) (by kernel_rfl) (hd 15 (by kernel_rfl))) rfl rfl
    · exact Free.d_move rfl (Free.tr 20 hd) rfl
    · exact Free.skl 21 33 false
    · exact Free.skl 21 33 false
    · exact Free.skl 21 33 false
    · exact Free.skl 21 33 false
    · exact Free.skl 21 33 false
    · exact Free.skl 21 33 false
    · exact Free.skl 21 33 false
    · exact Free.skl 21 33 false
    · exact Free.d_pick rfl (Eq.trans (b := vals 21) (by kernel_rfl) (hd 21 (by kernel_rfl))) rfl rfl
   ·
    intro vals wq hC hd
    refine Free.go hd ?_
    rintro _ rfl _ rfl _ rfl _ rfl _ rfl _ rfl _ rfl _ rfl _ rfl _ rfl _ rfl _ rfl _ rfl _ rfl _ rfl _ rfl _ rfl _ rfl _ rfl _ rfl _ rfl _ rfl _ rfl _ rfl _ rfl _ rfl _ rfl _ rfl _ rfl _ rfl _ rfl
    simp only [Free.All, Free.fl, Act.put, Free.sa, Free.s0, Free.s1]
    refine wpList_nil ?_
    clear hd
    have HQ := Lib.hid (bt HB0.out hC)
    clear hC
    go_wp2
    go_ret2
    rw [HN.out]
    exact ⟨HQ.out, rfl⟩
  by_cases h2 : n ≤ p.at_
  ·
   have HN := Lib.hid (show Dc.check root n s p = none from by
    have hf : Dc.fit n p = false := by
     cases hf : Dc.fit n p with
     | false => rfl
     | true => have := Dc.fit_iff.1 hf; omega
    unfold Dc.check Dc.climbs; rw [hf]; simp)
   have QM := Lib.hid QM
   have Q6 := Lib.hid Q6
   go_enter Tryz.func18, Tryz.ntmps18
   go_upto_region 1 with fail
   rw [HW0.out]
   go_wp2_with fail
   refine Free.wp_free_l 31 (fun W => Below w0.heap.size w0 W) [Free.kc (.pointer (some ⟨w.heap.size, 1, none⟩)), Free.kc (.agg #[sv p.link.term, sv p.link.next, sv p.link.posts]), Free.kc (.bool true), Free.kc (.bool false), Free.kc (.bool false), Free.kc (.pointer (some ⟨w.heap.size, 0, none⟩)), Free.kc (.int .i64 p.at_), Free.kc (.bool false), Free.kc (.bool false), Free.kc (.bool false), Free.kc (.pointer (some ⟨w.heap.size, 0, none⟩)), Free.kc (.int .i64 p.at_), Free.kc (.int .i64 n), Free.kc (.bool true), Free.kc (.bool true), Free.kc (.bool true), Free.kc (undef), Free.kc (undef), Free.kc (undef), Free.kc (undef), Free.kc (.bool true), Free.kc (.bool true), Free.kc (undef), Free.kc (undef), Free.kc (undef), Free.kc (undef), Free.kc (undef), Free.kc (undef), Free.kc (undef), Free.kc (undef), Free.kc (.bool true)] (by kernel_rfl) (by kernel_rfl) (by decide) (Below.refl _ _).drew (fun w w' h g => bt h g) ?_ ?_
   ·
    iterate 31 refine Free.forall_succ ?_ ?_
    all_goals first | exact Free.forall_zero | (refine Free.op fun vals wq hC hd => ?_) | skip
    · exact d_field (cx := .pointer (some ⟨w.heap.size, 0, none⟩)) rfl (by kernel_rfl) (by go_simp) rfl
    · exact Free.d_load (cx := .pointer (some ⟨w.heap.size, 1, none⟩)) rfl (Free.tr 0 hd) (by have hc1 := (HX.out wq hC).cellQ 1 _ rfl; have hc2 := (HX.out wq hC).cellQ 2 _ rfl; have hc3 := (HX.out wq hC).cellQ 3 _ rfl; go_simp) rfl
    · exact Free.d_call Tryz.func49 (by kernel_rfl) (by kernel_rfl) rfl rfl (Free.arg1 (Free.tr 1 hd)) ((QM.out wq).mono fun e w2 h => ⟨_, h.1, rfl, h.2⟩)
    · exact Free.d_un rfl (Free.tr 2 hd) (by go_simp) rfl
    · exact Free.d_move rfl (Free.tr 3 hd) rfl
    · refine Free.og 4 16 false fun vals wq hC hd => ?_; exact d_field (cx := .pointer (some ⟨w.heap.size, 0, none⟩)) rfl (by kernel_rfl) (by go_simp) rfl
    · refine Free.og 4 16 false fun vals wq hC hd => ?_; exact Free.d_load rfl (Free.tr 5 hd) (by have hcc := (HX.out wq hC).cellQ 0 _ rfl; go_simp) rfl
    · refine Free.og 4 16 false fun vals wq hC hd => ?_; exact Free.d_bin rfl (Free.tr 6 hd) (show _ = (.int .i64 0 : Value) from rfl) (by go_simp) (by go_simp) rfl
    · exact Free.d_pick rfl (Eq.trans (b := vals 4) (by kernel_rfl) (hd 4 (by kernel_rfl))) (Eq.trans (b := vals 7) (by kernel_rfl) (hd 7 (by kernel_rfl))) rfl
    · exact Free.d_move rfl (Free.tr 8 hd) rfl
    · refine Free.og 9 21 false fun vals wq hC hd => ?_; exact d_field (cx := .pointer (some ⟨w.heap.size, 0, none⟩)) rfl (by kernel_rfl) (by go_simp) rfl
    · refine Free.og 9 21 false fun vals wq hC hd => ?_; exact Free.d_load rfl (Free.tr 10 hd) (by have hcc := (HX.out wq hC).cellQ 0 _ rfl; go_simp) rfl
    · refine Free.og 9 21 false fun vals wq hC hd => ?_; exact Free.d_move rfl (by kernel_rfl) rfl
    · refine Free.og 9 21 false fun vals wq hC hd => ?_; exact Free.d_bin rfl (Free.tr 11 hd) (Free.tr 12 hd) (by go_simp) (by go_simp) rfl
    · exact Free.d_pick rfl (Eq.trans (b := vals 9) (by kernel_rfl) (hd 9 (by kernel_rfl))) (Eq.trans (b := vals 13) (by kernel_rfl) (hd 13 (by kernel_rfl))) rfl
    · exact Free.d_move rfl (Free.tr 14 hd) rfl
    · exact Free.skl 15 27 false
    · exact Free.skl 15 27 false
    · exact Free.skl 15 27 false
    · exact Free.skl 15 27 false
    · exact Free.d_pick rfl (Eq.trans (b := vals 15) (by kernel_rfl) (hd 15 (by kernel_rfl))) rfl rfl
    · exact Free.d_move rfl (Free.tr 20 hd) rfl
    · exact Free.skl 21 33 false
    · exact Free.skl 21 33 false
    · exact Free.skl 21 33 false
    · exact Free.skl 21 33 false
    · exact Free.skl 21 33 false
    · exact Free.skl 21 33 false
    · exact Free.skl 21 33 false
    · exact Free.skl 21 33 false
    · exact Free.d_pick rfl (Eq.trans (b := vals 21) (by kernel_rfl) (hd 21 (by kernel_rfl))) rfl rfl
   ·
    intro vals wq hC hd
    refine Free.go hd ?_
    rintro _ rfl _ rfl _ rfl _ rfl _ rfl _ rfl _ rfl _ rfl _ rfl _ rfl _ rfl _ rfl _ rfl _ rfl _ rfl _ rfl _ rfl _ rfl _ rfl _ rfl _ rfl _ rfl _ rfl _ rfl _ rfl _ rfl _ rfl _ rfl _ rfl _ rfl _ rfl
    simp only [Free.All, Free.fl, Act.put, Free.sa, Free.s0, Free.s1]
    refine wpList_nil ?_
    clear hd
    have HQ := Lib.hid (bt HB0.out hC)
    clear hC
    go_wp2
    go_ret2
    rw [HN.out]
    exact ⟨HQ.out, rfl⟩
  cases h3 : Tree.all32 p.path with
  | false =>
   rw [h3] at Q6
   have HN := Lib.hid (show Dc.check root n s p = none from by
    have hf : Dc.fit n p = false := by
     cases hf : Dc.fit n p with
     | false => rfl
     | true => have := Dc.fit_iff.1 hf; (rw [h3] at this; exact absurd this.2.2.1 (by decide))
    unfold Dc.check Dc.climbs; rw [hf]; simp)
   clear h3
   have QM := Lib.hid QM
   have Q6 := Lib.hid Q6
   go_enter Tryz.func18, Tryz.ntmps18
   go_upto_region 1 with fail
   rw [HW0.out]
   go_wp2_with fail
   refine Free.wp_free_l 31 (fun W => Below w0.heap.size w0 W) [Free.kc (.pointer (some ⟨w.heap.size, 1, none⟩)), Free.kc (.agg #[sv p.link.term, sv p.link.next, sv p.link.posts]), Free.kc (.bool true), Free.kc (.bool false), Free.kc (.bool false), Free.kc (.pointer (some ⟨w.heap.size, 0, none⟩)), Free.kc (.int .i64 p.at_), Free.kc (.bool false), Free.kc (.bool false), Free.kc (.bool false), Free.kc (.pointer (some ⟨w.heap.size, 0, none⟩)), Free.kc (.int .i64 p.at_), Free.kc (.int .i64 n), Free.kc (.bool false), Free.kc (.bool false), Free.kc (.bool false), Free.kc (.pointer (some ⟨w.heap.size, 4, none⟩)), Free.kc (.slice Ap np cp), Free.kc (.bool false), Free.kc (.bool true), Free.kc (.bool true), Free.kc (.bool true), Free.kc (undef), Free.kc (undef), Free.kc (undef), Free.kc (undef), Free.kc (undef), Free.kc (undef), Free.kc (undef), Free.kc (undef), Free.kc (.bool true)] (by kernel_rfl) (by kernel_rfl) (by decide) (Below.refl _ _).drew (fun w w' h g => bt h g) ?_ ?_
   ·
    iterate 31 refine Free.forall_succ ?_ ?_
    all_goals first | exact Free.forall_zero | (refine Free.op fun vals wq hC hd => ?_) | skip
    · exact d_field (cx := .pointer (some ⟨w.heap.size, 0, none⟩)) rfl (by kernel_rfl) (by go_simp) rfl
    · exact Free.d_load (cx := .pointer (some ⟨w.heap.size, 1, none⟩)) rfl (Free.tr 0 hd) (by have hc1 := (HX.out wq hC).cellQ 1 _ rfl; have hc2 := (HX.out wq hC).cellQ 2 _ rfl; have hc3 := (HX.out wq hC).cellQ 3 _ rfl; go_simp) rfl
    · exact Free.d_call Tryz.func49 (by kernel_rfl) (by kernel_rfl) rfl rfl (Free.arg1 (Free.tr 1 hd)) ((QM.out wq).mono fun e w2 h => ⟨_, h.1, rfl, h.2⟩)
    · exact Free.d_un rfl (Free.tr 2 hd) (by go_simp) rfl
    · exact Free.d_move rfl (Free.tr 3 hd) rfl
    · refine Free.og 4 16 false fun vals wq hC hd => ?_; exact d_field (cx := .pointer (some ⟨w.heap.size, 0, none⟩)) rfl (by kernel_rfl) (by go_simp) rfl
    · refine Free.og 4 16 false fun vals wq hC hd => ?_; exact Free.d_load rfl (Free.tr 5 hd) (by have hcc := (HX.out wq hC).cellQ 0 _ rfl; go_simp) rfl
    · refine Free.og 4 16 false fun vals wq hC hd => ?_; exact Free.d_bin rfl (Free.tr 6 hd) (show _ = (.int .i64 0 : Value) from rfl) (by go_simp) (by go_simp) rfl
    · exact Free.d_pick rfl (Eq.trans (b := vals 4) (by kernel_rfl) (hd 4 (by kernel_rfl))) (Eq.trans (b := vals 7) (by kernel_rfl) (hd 7 (by kernel_rfl))) rfl
    · exact Free.d_move rfl (Free.tr 8 hd) rfl
    · refine Free.og 9 21 false fun vals wq hC hd => ?_; exact d_field (cx := .pointer (some ⟨w.heap.size, 0, none⟩)) rfl (by kernel_rfl) (by go_simp) rfl
    · refine Free.og 9 21 false fun vals wq hC hd => ?_; exact Free.d_load rfl (Free.tr 10 hd) (by have hcc := (HX.out wq hC).cellQ 0 _ rfl; go_simp) rfl
    · refine Free.og 9 21 false fun vals wq hC hd => ?_; exact Free.d_move rfl (by kernel_rfl) rfl
    · refine Free.og 9 21 false fun vals wq hC hd => ?_; exact Free.d_bin rfl (Free.tr 11 hd) (Free.tr 12 hd) (by go_simp) (by go_simp) rfl
    · exact Free.d_pick rfl (Eq.trans (b := vals 9) (by kernel_rfl) (hd 9 (by kernel_rfl))) (Eq.trans (b := vals 13) (by kernel_rfl) (hd 13 (by kernel_rfl))) rfl
    · exact Free.d_move rfl (Free.tr 14 hd) rfl
    · refine Free.og 15 27 false fun vals wq hC hd => ?_; exact d_field (cx := .pointer (some ⟨w.heap.size, 0, none⟩)) rfl (by kernel_rfl) (by go_simp) rfl
    · refine Free.og 15 27 false fun vals wq hC hd => ?_; exact Free.d_load rfl (Free.tr 16 hd) (by have hcc := (HX.out wq hC).cellQ 4 _ rfl; go_simp) rfl
    · refine Free.og 15 27 false fun vals wq hC hd => ?_; exact Free.d_call Tryz.func50 (by kernel_rfl) (by kernel_rfl) rfl rfl (Free.arg1 (Free.tr 17 hd)) ((Q6.out wq (bt HB0.out hC)).mono fun e w2 h => ⟨_, h.1, rfl, by rw [← h.2]; exact Below.refl _ _⟩)
    · refine Free.og 15 27 false fun vals wq hC hd => ?_; exact Free.d_un rfl (Free.tr 18 hd) (by go_simp) rfl
    · exact Free.d_pick rfl (Eq.trans (b := vals 15) (by kernel_rfl) (hd 15 (by kernel_rfl))) (Eq.trans (b := vals 19) (by kernel_rfl) (hd 19 (by kernel_rfl))) rfl
    · exact Free.d_move rfl (Free.tr 20 hd) rfl
    · exact Free.skl 21 33 false
    · exact Free.skl 21 33 false
    · exact Free.skl 21 33 false
    · exact Free.skl 21 33 false
    · exact Free.skl 21 33 false
    · exact Free.skl 21 33 false
    · exact Free.skl 21 33 false
    · exact Free.skl 21 33 false
    · exact Free.d_pick rfl (Eq.trans (b := vals 21) (by kernel_rfl) (hd 21 (by kernel_rfl))) rfl rfl
   ·
    intro vals wq hC hd
    refine Free.go hd ?_
    rintro _ rfl _ rfl _ rfl _ rfl _ rfl _ rfl _ rfl _ rfl _ rfl _ rfl _ rfl _ rfl _ rfl _ rfl _ rfl _ rfl _ rfl _ rfl _ rfl _ rfl _ rfl _ rfl _ rfl _ rfl _ rfl _ rfl _ rfl _ rfl _ rfl _ rfl _ rfl
    simp only [Free.All, Free.fl, Act.put, Free.sa, Free.s0, Free.s1]
    refine wpList_nil ?_
    clear hd
    have HQ := Lib.hid (bt HB0.out hC)
    clear hC
    go_wp2
    go_ret2
    rw [HN.out]
    exact ⟨HQ.out, rfl⟩
  | true =>
   rw [h3] at Q6
   have H3 := Lib.hid h3
   clear h3
   obtain ⟨i, hi⟩ := Int.eq_ofNat_of_zero_le (show 0 ≤ p.at_ by omega)
   obtain ⟨k, hk⟩ := Int.eq_ofNat_of_zero_le (show 0 ≤ n by omega)
   have hik : i < k := by rw [hi, hk] at h2; omega
   have QS := fun (W : World) => rsteps_any k i k W (Nat.le_refl _) hik (by omega)
   rw [← hi, ← hk] at QS
   obtain ⟨ln, hln⟩ : ∃ x, (Tree.sides i k).length = x := ⟨_, rfl⟩
   rw [hln] at QS
   have QS := Lib.hid QS
   have HPL := Lib.hid HP.out.len
   by_cases h4 : np = ln
   ·
    have HFIT := Lib.hid (show Dc.fit n p = true from Dc.fit_iff.2 ⟨by omega, by omega, H3.out, by rw [hi, hk, Int.toNat_natCast, Int.toNat_natCast, hln, HPL.out]; exact h4⟩)
    have hne : ((np : Int) == (ln : Int)) = true := by rw [h4]; exact beq_self_eq_true _
    have HNE := Lib.hid hne
    have CL := rclimb_any k (seal_ 0 p.link.bytes) i k Ap cp p.path
    rw [hln, HPL.out, ← hi, ← hk] at CL
    have htn : tclimb (seal_ 0 p.link.bytes) p.at_.toNat n.toNat p.path = tclimb (seal_ 0 p.link.bytes) i k p.path := by rw [hi, hk]; rfl
    obtain ⟨tt, htt⟩ : ∃ t, tclimb (seal_ 0 p.link.bytes) i k p.path = t := ⟨_, rfl⟩
    obtain ⟨sd, hsd⟩ : ∃ x, seal_ 0 p.link.bytes = x := ⟨_, rfl⟩
    have HCK := Lib.hid (show Dc.check root n s p = if tt = root then Dc.says s p else none from by
     unfold Dc.check Dc.climbs
     rw [HMY.out, HFIT.out, htn, htt]
     by_cases hr : tt = root
     · rw [decide_eq_true hr, if_pos hr]; rfl
     · rw [decide_eq_false hr, if_neg hr]; rfl)
    have CL := Lib.hid (fun (W : World) (hW : Below w.heap.size w W) => CL W (Nat.le_refl _) (by rw [seal_len]; omega) hik (by omega) (all32_of H3.out) h4 (HP.out.keep hW))
    unfold StrPost at CL
    rw [htt, hsd] at CL
    have QL := fun (A : Option Addr) (m c : Nat) (W : World) (h : Bs W A m c p.link.bytes) => rleaf_any A m c p.link.bytes W h.rd h.len h.cap h.max (by have a := h.len; have b := Hd.Lk.bytes_le HMY.out; omega)
    unfold SealPost at QL
    rw [hsd] at QL
    have QL := Lib.hid QL
    have HM := Lib.hid (Hd.Lk.may_iff.1 HMY.out)
    have QW := Lib.hid (fun (W : World) => rwlink_any p.link W (Nat.le_trans HM.out.1 (by decide)) (Nat.le_trans HM.out.2.1 (by decide)) (by rw [HM.out.2.2]; decide))
    unfold Ret8 at QW
    clear hi hk hln htn htt hsd hne h4
    have QM := Lib.hid QM
    have Q6 := Lib.hid Q6
    go_enter Tryz.func18, Tryz.ntmps18
    go_upto_region 1 with fail
    rw [HW0.out]
    go_wp2_with fail
    refine Free.wp_free_l 31 (fun W => Below w0.heap.size w0 W) [Free.kc (.pointer (some ⟨w.heap.size, 1, none⟩)), Free.kc (.agg #[sv p.link.term, sv p.link.next, sv p.link.posts]), Free.kc (.bool true), Free.kc (.bool false), Free.kc (.bool false), Free.kc (.pointer (some ⟨w.heap.size, 0, none⟩)), Free.kc (.int .i64 p.at_), Free.kc (.bool false), Free.kc (.bool false), Free.kc (.bool false), Free.kc (.pointer (some ⟨w.heap.size, 0, none⟩)), Free.kc (.int .i64 p.at_), Free.kc (.int .i64 n), Free.kc (.bool false), Free.kc (.bool false), Free.kc (.bool false), Free.kc (.pointer (some ⟨w.heap.size, 4, none⟩)), Free.kc (.slice Ap np cp), Free.kc (.bool true), Free.kc (.bool false), Free.kc (.bool false), Free.kc (.bool false), Free.kc (.pointer (some ⟨w.heap.size, 4, none⟩)), Free.kc (.slice Ap np cp), Free.kc (.int .i64 (np : Int)), Free.kc (.pointer (some ⟨w.heap.size, 0, none⟩)), Free.kc (.int .i64 p.at_), Free.kc (.int .i64 n), Free.kc (.int .i64 (ln : Int)), Free.kc (.bool false), Free.kc (.bool false)] (by kernel_rfl) (by kernel_rfl) (by decide) (Below.refl _ _).drew (fun w w' h g => bt h g) ?_ ?_
    ·
     iterate 31 refine Free.forall_succ ?_ ?_
     all_goals first | exact Free.forall_zero | (refine Free.op fun vals wq hC hd => ?_) | skip
     · exact d_field (cx := .pointer (some ⟨w.heap.size, 0, none⟩)) rfl (by kernel_rfl) (by go_simp) rfl
     · exact Free.d_load (cx := .pointer (some ⟨w.heap.size, 1, none⟩)) rfl (Free.tr 0 hd) (by have hc1 := (HX.out wq hC).cellQ 1 _ rfl; have hc2 := (HX.out wq hC).cellQ 2 _ rfl; have hc3 := (HX.out wq hC).cellQ 3 _ rfl; go_simp) rfl
     · exact Free.d_call Tryz.func49 (by kernel_rfl) (by kernel_rfl) rfl rfl (Free.arg1 (Free.tr 1 hd)) ((QM.out wq).mono fun e w2 h => ⟨_, h.1, rfl, h.2⟩)
     · exact Free.d_un rfl (Free.tr 2 hd) (by go_simp) rfl
     · exact Free.d_move rfl (Free.tr 3 hd) rfl
     · refine Free.og 4 16 false fun vals wq hC hd => ?_; exact d_field (cx := .pointer (some ⟨w.heap.size, 0, none⟩)) rfl (by kernel_rfl) (by go_simp) rfl
     · refine Free.og 4 16 false fun vals wq hC hd => ?_; exact Free.d_load rfl (Free.tr 5 hd) (by have hcc := (HX.out wq hC).cellQ 0 _ rfl; go_simp) rfl
     · refine Free.og 4 16 false fun vals wq hC hd => ?_; exact Free.d_bin rfl (Free.tr 6 hd) (show _ = (.int .i64 0 : Value) from rfl) (by go_simp) (by go_simp) rfl
     · exact Free.d_pick rfl (Eq.trans (b := vals 4) (by kernel_rfl) (hd 4 (by kernel_rfl))) (Eq.trans (b := vals 7) (by kernel_rfl) (hd 7 (by kernel_rfl))) rfl
     · exact Free.d_move rfl (Free.tr 8 hd) rfl
     · refine Free.og 9 21 false fun vals wq hC hd => ?_; exact d_field (cx := .pointer (some ⟨w.heap.size, 0, none⟩)) rfl (by kernel_rfl) (by go_simp) rfl
     · refine Free.og 9 21 false fun vals wq hC hd => ?_; exact Free.d_load rfl (Free.tr 10 hd) (by have hcc := (HX.out wq hC).cellQ 0 _ rfl; go_simp) rfl
     · refine Free.og 9 21 false fun vals wq hC hd => ?_; exact Free.d_move rfl (by kernel_rfl) rfl
     · refine Free.og 9 21 false fun vals wq hC hd => ?_; exact Free.d_bin rfl (Free.tr 11 hd) (Free.tr 12 hd) (by go_simp) (by go_simp) rfl
     · exact Free.d_pick rfl (Eq.trans (b := vals 9) (by kernel_rfl) (hd 9 (by kernel_rfl))) (Eq.trans (b := vals 13) (by kernel_rfl) (hd 13 (by kernel_rfl))) rfl
     · exact Free.d_move rfl (Free.tr 14 hd) rfl
     · refine Free.og 15 27 false fun vals wq hC hd => ?_; exact d_field (cx := .pointer (some ⟨w.heap.size, 0, none⟩)) rfl (by kernel_rfl) (by go_simp) rfl
     · refine Free.og 15 27 false fun vals wq hC hd => ?_; exact Free.d_load rfl (Free.tr 16 hd) (by have hcc := (HX.out wq hC).cellQ 4 _ rfl; go_simp) rfl
     · refine Free.og 15 27 false fun vals wq hC hd => ?_; exact Free.d_call Tryz.func50 (by kernel_rfl) (by kernel_rfl) rfl rfl (Free.arg1 (Free.tr 17 hd)) ((Q6.out wq (bt HB0.out hC)).mono fun e w2 h => ⟨_, h.1, rfl, by rw [← h.2]; exact Below.refl _ _⟩)
     · refine Free.og 15 27 false fun vals wq hC hd => ?_; exact Free.d_un rfl (Free.tr 18 hd) (by go_simp) rfl
     · exact Free.d_pick rfl (Eq.trans (b := vals 15) (by kernel_rfl) (hd 15 (by kernel_rfl))) (Eq.trans (b := vals 19) (by kernel_rfl) (hd 19 (by kernel_rfl))) rfl
     · exact Free.d_move rfl (Free.tr 20 hd) rfl
     · refine Free.og 21 33 false fun vals wq hC hd => ?_; exact d_field (cx := .pointer (some ⟨w.heap.size, 0, none⟩)) rfl (by kernel_rfl) (by go_simp) rfl
     · refine Free.og 21 33 false fun vals wq hC hd => ?_; exact Free.d_load rfl (Free.tr 22 hd) (by have hcc := (HX.out wq hC).cellQ 4 _ rfl; go_simp) rfl
     · refine Free.og 21 33 false fun vals wq hC hd => ?_; exact Free.d_len rfl Tryz.underlying27 (Free.tr 23 hd) rfl
     · refine Free.og 21 33 false fun vals wq hC hd => ?_; exact d_field (cx := .pointer (some ⟨w.heap.size, 0, none⟩)) rfl (by kernel_rfl) (by go_simp) rfl
     · refine Free.og 21 33 false fun vals wq hC hd => ?_; exact Free.d_load rfl (Free.tr 25 hd) (by have hcc := (HX.out wq hC).cellQ 0 _ rfl; go_simp) rfl
     · refine Free.og 21 33 false fun vals wq hC hd => ?_; exact Free.d_move rfl (by kernel_rfl) rfl
     · refine Free.og 21 33 false fun vals wq hC hd => ?_; exact Free.d_call Tryz.func51 (by kernel_rfl) (by kernel_rfl) rfl rfl (Free.arg2 (Free.tr 26 hd) (Free.tr 27 hd)) ((QS.out wq).mono fun e w2 h => ⟨_, h.1, rfl, by rw [← h.2]; exact Below.refl _ _⟩)
     · refine Free.og 21 33 false fun vals wq hC hd => ?_; exact Free.d_bin rfl (Free.tr 24 hd) (Free.tr 28 hd) (by go_simp) (by have hne := HNE.out; go_simp; first | done | (simpa using hne)) rfl
     · exact Free.d_pick rfl (Eq.trans (b := vals 21) (by kernel_rfl) (hd 21 (by kernel_rfl))) (Eq.trans (b := vals 29) (by kernel_rfl) (hd 29 (by kernel_rfl))) rfl
    ·
     intro vals wq hC hd
     refine Free.go hd ?_
     rintro _ rfl _ rfl _ rfl _ rfl _ rfl _ rfl _ rfl _ rfl _ rfl _ rfl _ rfl _ rfl _ rfl _ rfl _ rfl _ rfl _ rfl _ rfl _ rfl _ rfl _ rfl _ rfl _ rfl _ rfl _ rfl _ rfl _ rfl _ rfl _ rfl _ rfl _ rfl
     simp only [Free.All, Free.fl, Act.put, Free.sa, Free.s0, Free.s1]
     refine wpList_nil ?_
     clear hd
     have HQ1 := Lib.hid hC
     clear hC
     go_upto_region 3 with fail
     go_wp2_with fail
     obtain ⟨w3, hw3⟩ : ∃ W, W = wq := ⟨wq, rfl⟩
     subst hw3
     by_cases hrt : tt = root
     ·
      have HEQ := Lib.hid hrt
      have HSY := Lib.hid (show Dc.check root n s p = Dc.says s p from by rw [HCK.out, if_pos hrt])
      clear hrt
      refine Free.wp_free_l 12 (fun W => Below w3.heap.size w3 W) [Free.kc (.pointer (some ⟨w.heap.size, 1, none⟩)), Free.kc (.agg #[sv p.link.term, sv p.link.next, sv p.link.posts]), Free.kB (w3.heap.size) (p.link.bytes), Free.kc (sv sd), Free.kc (.pointer (some ⟨w.heap.size, 0, none⟩)), Free.kc (.int .i64 p.at_), Free.kc (.int .i64 n), Free.kc (.pointer (some ⟨w.heap.size, 4, none⟩)), Free.kc (.slice Ap np cp), Free.kc (sv tt), Free.kc (sv root), Free.kc (.bool false)] (by kernel_rfl) (by kernel_rfl) (by decide) (Below.refl _ _).drew (fun w w' h g => bt h g) ?_ ?_
      ·
       iterate 12 refine Free.forall_succ ?_ ?_
       all_goals first | exact Free.forall_zero | (refine Free.op fun vals wq hC hd => ?_) | skip
       · exact d_field (cx := .pointer (some ⟨w.heap.size, 0, none⟩)) rfl (by kernel_rfl) (by go_simp) rfl
       · exact Free.d_load (cx := .pointer (some ⟨w.heap.size, 1, none⟩)) rfl (Free.tr 0 hd) (by have hc1 := (HX.out wq (bt HQ1.out hC)).cellQ 1 _ rfl; have hc2 := (HX.out wq (bt HQ1.out hC)).cellQ 2 _ rfl; have hc3 := (HX.out wq (bt HQ1.out hC)).cellQ 3 _ rfl; go_simp) rfl
       · exact Free.d_call Tryz.func54 (by kernel_rfl) (by kernel_rfl) rfl rfl (Free.arg1 (Free.tr 1 hd)) ((QW.out wq).mono fun e w2 h => (by obtain ⟨A9, n9, c9, he, ho, hb⟩ := h; exact ⟨_, he, ⟨A9, n9, c9, rfl, ho.base hC.size⟩, hb⟩))
       · obtain ⟨A2, n2, k2, e2, ow2⟩ := hd 2 (by kernel_rfl); exact Free.d_call Tryz.func53 (by kernel_rfl) (by kernel_rfl) rfl rfl (Free.arg1 (Eq.trans (b := vals 2) (by kernel_rfl) e2)) ((QL.out A2 n2 k2 wq ow2.bs).mono fun e w2 h => ⟨_, h.1, rfl, h.2⟩)
       · exact d_field (cx := .pointer (some ⟨w.heap.size, 0, none⟩)) rfl (by kernel_rfl) (by go_simp) rfl
       · exact Free.d_load rfl (Free.tr 4 hd) (by have hcc := (HX.out wq (bt HQ1.out hC)).cellQ 0 _ rfl; go_simp) rfl
       · exact Free.dm
       · exact d_field (cx := .pointer (some ⟨w.heap.size, 0, none⟩)) rfl (by kernel_rfl) (by go_simp) rfl
       · exact Free.d_load rfl (Free.tr 7 hd) (by have hcc := (HX.out wq (bt HQ1.out hC)).cellQ 4 _ rfl; go_simp) rfl
       · exact Free.d_call Tryz.func52 (by kernel_rfl) (by kernel_rfl) rfl rfl (arg4' (Free.tr 3 hd) (Free.tr 5 hd) (Free.tr 6 hd) (Free.tr 8 hd)) ((CL.out wq (bt HB0.out (bt HQ1.out hC))).mono fun e w2 h => ⟨_, h.1, rfl, h.2⟩)
       · exact Free.dm
       · exact Free.d_bin rfl (Free.tr 9 hd) (Free.tr 10 hd) (by go_simp) (by rw [run_neq_str' 9, decide_eq_true HEQ.out]; rfl) rfl
      ·
       intro vals wq hC hd
       refine Free.go hd ?_
       rintro _ rfl _ rfl _ ⟨A2, n2, k2, rfl, ow2⟩ _ rfl _ rfl _ rfl _ rfl _ rfl _ rfl _ rfl _ rfl _ rfl
       simp only [Free.All, Free.fl, Act.put, Free.sa, Free.s0, Free.s1]
       refine wpList_nil ?_
       clear hd
       have HQ3 := Lib.hid (bt HQ1.out hC)
       clear hC ow2
       have hrq := HX.out wq HQ3.out
       have x1 := hrq.cellQ 1 _ rfl
       have x2 := hrq.cellQ 2 _ rfl
       have x5 := hrq.cellQ 5 _ rfl
       clear hrq
       rcases Dc.lt_tri p.link.term s with ho | ho | ho
       ·
        obtain ⟨o1, o2⟩ := ord_lt ho
        have nl := nil_emp p.link.next
        by_cases h5 : nd = 0
        ·
         have a5 : ((nd : Int) == 0) = true := by rw [h5]; rfl
         have hde : p.docs = [] := List.eq_nil_of_length_eq_zero (by rw [hdl]; exact h5)
         by_cases h6 : p.link.next = []
         ·
          rw [decide_eq_true h6] at nl
          have HV := Lib.hid (show Dc.says s p = some [] from by unfold Dc.says; rw [if_neg (Dc.lt_ne ho)]; rw [if_pos ⟨ho, .inr h6, hde⟩])
          have HDL := Lib.hid hdl
          clear hdl hde h5 h6 ho
          go_upto_region 8 with fail
          go_wp2_with fail
          go_quiet (fail)
          go_wp2
          go_ret2
          rw [HSY.out, HV.out]
          exact ⟨bt HB0.out (HQ3.out.trans (bel_drewN _ _ _)), none, 0, 0, rfl, Zs.nil _⟩
         ·
          rw [decide_eq_false h6] at nl
          rcases Dc.lt_tri s p.link.next with hx | hx | hx
          ·
           obtain ⟨u1, u2⟩ := ord_gt hx
           have HV := Lib.hid (show Dc.says s p = some [] from by unfold Dc.says; rw [if_neg (Dc.lt_ne ho)]; rw [if_pos ⟨ho, .inl hx, hde⟩])
           have HDL := Lib.hid hdl
           clear hdl hde h5 h6 ho hx
           go_upto_region 8 with fail
           go_wp2_with fail
           go_quiet (fail)
           go_wp2
           go_ret2
           rw [HSY.out, HV.out]
           exact ⟨bt HB0.out (HQ3.out.trans (bel_drewN _ _ _)), none, 0, 0, rfl, Zs.nil _⟩
          ·
           obtain ⟨u1, u2⟩ := (show Op.bytesLess (str p.link.next).toList (str s).toList = false ∧ ((str p.link.next).toList == (str s).toList) = true by rw [hx]; exact ord_eq p.link.next)
           have HV := Lib.hid (show Dc.says s p = none from by unfold Dc.says; rw [if_neg (Dc.lt_ne ho)]; rw [if_neg (fun h => by rcases h.2.1 with g | g; exact Dc.lt_ne g hx; exact h6 g)])
           have HDL := Lib.hid hdl
           clear hdl hde h5 h6 ho hx
           go_upto_region 8 with fail
           go_wp2_with fail
           go_quiet (fail)
           go_wp2
           go_ret2
           rw [HSY.out, HV.out]
           exact ⟨bt HB0.out (HQ3.out.trans (bel_drewN _ _ _)), rfl⟩
          ·
           obtain ⟨u1, u2⟩ := ord_lt hx
           have HV := Lib.hid (show Dc.says s p = none from by unfold Dc.says; rw [if_neg (Dc.lt_ne ho)]; rw [if_neg (fun h => by rcases h.2.1 with g | g; exact Dc.lt_no g hx; exact h6 g)])
           have HDL := Lib.hid hdl
           clear hdl hde h5 h6 ho hx
           go_upto_region 8 with fail
           go_wp2_with fail
           go_quiet (fail)
           go_wp2
           go_ret2
           rw [HSY.out, HV.out]
           exact ⟨bt HB0.out (HQ3.out.trans (bel_drewN _ _ _)), rfl⟩
        ·
         have a5 : ((nd : Int) == 0) = false := beq_eq_false_iff_ne.2 (by omega)
         have a6 : ¬ (nd : Int) = 0 := by omega
         have HV := Lib.hid (show Dc.says s p = none from by unfold Dc.says; rw [if_neg (Dc.lt_ne ho)]; rw [if_neg (fun h => h5 (by rw [← hdl, h.2.2]; rfl))])
         have HDL := Lib.hid hdl
         clear hdl h5 ho nl
         go_upto_region 8 with fail
         go_wp2_with fail
         go_quiet (fail)
         go_wp2
         go_ret2
         rw [HSY.out, HV.out]
         exact ⟨bt HB0.out (HQ3.out.trans (bel_drewN _ _ _)), rfl⟩
       ·
        obtain ⟨o1, o2⟩ := (show Op.bytesLess (str p.link.term).toList (str s).toList = false ∧ ((str p.link.term).toList == (str s).toList) = true by rw [ho]; exact ord_eq s)
        have CR := rread9_any Ad nd cd p.docs wq (HD.out.keep (bt HB0.out HQ3.out)) (by omega)
        obtain ⟨S, hS⟩ : ∃ S, seal_ 2 p.docs = S := ⟨_, rfl⟩
        have QO := fun (W : World) (hW : Below w.heap.size w W) => rof_any 2 Ad nd cd p.docs W (HD.out.keep hW).rd HD.out.len HD.out.cap HD.out.max (by omega)
        unfold SealPost at QO
        rw [hS] at QO
        have QO := Lib.hid QO
        have HSS := Lib.hid hS
        have HO := Lib.hid ho
        have CR := Lib.hid CR
        clear hS ho hdl
        go_wp2_with fail
        (with_reducible refine CR.out.mono ?_)
        rintro e w9 hpost
        obtain ⟨A9, n9, c9, rfl, hz9, hb9⟩ := readPost_un hpost
        have HZ9 := Lib.hid hz9
        have HQ9 := Lib.hid (bt HQ3.out hb9)
        clear hpost hz9 hb9 CR x1 x2 x5 o1 o2
        obtain ⟨xx, hxx⟩ : ∃ x, Dc.rdX (Post.read p.docs) = x := ⟨_, rfl⟩
        rw [hxx]
        by_cases h7 : xx = 0
        ·
         have HRD := Lib.hid (show ∃ zs, Post.read p.docs = .ok zs ∧ Zs w9 A9 n9 c9 zs from by
          cases hr : Post.read p.docs with
          | ok zs => have := HZ9.out; rw [hr] at this; exact ⟨zs, rfl, this⟩
          | error x => have := HZ9.out; rw [hr] at this hxx; exact absurd (hxx.trans h7) this)
         subst h7
         clear hxx
         go_upto_region 10 with fail
         go_wp2_with fail
         by_cases h8 : S = p.link.posts
         ·
          have HEQ2 := Lib.hid h8
          clear h8
          refine Free.wp_free_l 11 (fun W => Below w9.heap.size w9 W) [Free.kc (.int .i64 0), Free.kc (.bool false), Free.kc (.bool false), Free.kc (.pointer (some ⟨w.heap.size, 5, none⟩)), Free.kc (.slice Ad nd cd), Free.kc (sv S), Free.kc (.pointer (some ⟨w.heap.size, 1, none⟩)), Free.kc (.pointer (some ⟨w.heap.size, 3, none⟩)), Free.kc (sv p.link.posts), Free.kc (.bool false), Free.kc (.bool false)] (by kernel_rfl) (by kernel_rfl) (by decide) (Below.refl _ _).drew (fun w w' h g => bt h g) ?_ ?_
          ·
           iterate 11 refine Free.forall_succ ?_ ?_
           all_goals first | exact Free.forall_zero | (refine Free.op fun vals wq hC hd => ?_) | skip
           · exact Free.dm
           · exact Free.d_bin rfl (Free.tr 0 hd) (show _ = (.int .i64 0 : Value) from rfl) (by go_simp) (by go_simp) rfl
           · exact Free.d_move rfl (Free.tr 1 hd) rfl
           · refine Free.og 2 90 false fun vals wq hC hd => ?_; exact d_field (cx := .pointer (some ⟨w.heap.size, 0, none⟩)) rfl (by kernel_rfl) (by go_simp) rfl
           · refine Free.og 2 90 false fun vals wq hC hd => ?_; exact Free.d_load rfl (Free.tr 3 hd) (by have hcc := (HX.out wq (bt HQ9.out hC)).cellQ 5 _ rfl; go_simp) rfl
           · refine Free.og 2 90 false fun vals wq hC hd => ?_; exact Free.d_call Tryz.func56 (by kernel_rfl) (by kernel_rfl) rfl rfl (Free.arg2 (show _ = (Value.int .i64 2) from rfl) (Free.tr 4 hd)) ((QO.out wq (bt HB0.out (bt HQ9.out hC))).mono fun e w2 h => ⟨_, h.1, rfl, h.2⟩)
           · refine Free.og 2 90 false fun vals wq hC hd => ?_; exact d_field (cx := .pointer (some ⟨w.heap.size, 0, none⟩)) rfl (by kernel_rfl) (by go_simp) rfl
           · refine Free.og 2 90 false fun vals wq hC hd => ?_; exact d_field (cx := .pointer (some ⟨w.heap.size, 1, none⟩)) rfl (Free.tr 6 hd) (by go_simp) rfl
           · refine Free.og 2 90 false fun vals wq hC hd => ?_; exact Free.d_load rfl (Free.tr 7 hd) (by have hcc := (HX.out wq (bt HQ9.out hC)).cellQ 3 _ rfl; go_simp) rfl
           · refine Free.og 2 90 false fun vals wq hC hd => ?_; exact Free.d_bin rfl (Free.tr 5 hd) (Free.tr 8 hd) (by go_simp) (by rw [run_neq_str' 9, decide_eq_true HEQ2.out]; rfl) rfl
           · exact Free.d_pick rfl (Eq.trans (b := vals 2) (by kernel_rfl) (hd 2 (by kernel_rfl))) (Eq.trans (b := vals 9) (by kernel_rfl) (hd 9 (by kernel_rfl))) rfl
          ·
           intro vals wq hC hd
           refine Free.go hd ?_
           rintro _ rfl _ rfl _ rfl _ rfl _ rfl _ rfl _ rfl _ rfl _ rfl _ rfl _ rfl
           simp only [Free.All, Free.fl, Act.put, Free.sa, Free.s0, Free.s1]
           refine wpList_nil ?_
           clear hd
           have HQ10 := Lib.hid (bt HQ9.out hC)
           have HC10 := Lib.hid hC
           clear hC
           obtain ⟨zs, hzs, hZ⟩ := HRD.out
           have HSAY := Lib.hid (show Dc.says s p = some zs from by
            unfold Dc.says
            rw [if_pos HO.out, hzs]
            simp only
            rw [if_pos (by rw [HSS.out]; exact HEQ2.out)])
           have HZS := Lib.hid (hZ.keep HC10.out)
           clear hzs hZ
           go_wp2
           go_ret2
           rw [HSY.out, HSAY.out]
           exact ⟨bt HB0.out HQ10.out, A9, n9, c9, rfl, HZS.out⟩
         ·
          have HEQ2 := Lib.hid h8
          clear h8
          refine Free.wp_free_l 11 (fun W => Below w9.heap.size w9 W) [Free.kc (.int .i64 0), Free.kc (.bool false), Free.kc (.bool false), Free.kc (.pointer (some ⟨w.heap.size, 5, none⟩)), Free.kc (.slice Ad nd cd), Free.kc (sv S), Free.kc (.pointer (some ⟨w.heap.size, 1, none⟩)), Free.kc (.pointer (some ⟨w.heap.size, 3, none⟩)), Free.kc (sv p.link.posts), Free.kc (.bool true), Free.kc (.bool true)] (by kernel_rfl) (by kernel_rfl) (by decide) (Below.refl _ _).drew (fun w w' h g => bt h g) ?_ ?_
          ·
           iterate 11 refine Free.forall_succ ?_ ?_
           all_goals first | exact Free.forall_zero | (refine Free.op fun vals wq hC hd => ?_) | skip
           · exact Free.dm
           · exact Free.d_bin rfl (Free.tr 0 hd) (show _ = (.int .i64 0 : Value) from rfl) (by go_simp) (by go_simp) rfl
           · exact Free.d_move rfl (Free.tr 1 hd) rfl
           · refine Free.og 2 90 false fun vals wq hC hd => ?_; exact d_field (cx := .pointer (some ⟨w.heap.size, 0, none⟩)) rfl (by kernel_rfl) (by go_simp) rfl
           · refine Free.og 2 90 false fun vals wq hC hd => ?_; exact Free.d_load rfl (Free.tr 3 hd) (by have hcc := (HX.out wq (bt HQ9.out hC)).cellQ 5 _ rfl; go_simp) rfl
           · refine Free.og 2 90 false fun vals wq hC hd => ?_; exact Free.d_call Tryz.func56 (by kernel_rfl) (by kernel_rfl) rfl rfl (Free.arg2 (show _ = (Value.int .i64 2) from rfl) (Free.tr 4 hd)) ((QO.out wq (bt HB0.out (bt HQ9.out hC))).mono fun e w2 h => ⟨_, h.1, rfl, h.2⟩)
           · refine Free.og 2 90 false fun vals wq hC hd => ?_; exact d_field (cx := .pointer (some ⟨w.heap.size, 0, none⟩)) rfl (by kernel_rfl) (by go_simp) rfl
           · refine Free.og 2 90 false fun vals wq hC hd => ?_; exact d_field (cx := .pointer (some ⟨w.heap.size, 1, none⟩)) rfl (Free.tr 6 hd) (by go_simp) rfl
           · refine Free.og 2 90 false fun vals wq hC hd => ?_; exact Free.d_load rfl (Free.tr 7 hd) (by have hcc := (HX.out wq (bt HQ9.out hC)).cellQ 3 _ rfl; go_simp) rfl
           · refine Free.og 2 90 false fun vals wq hC hd => ?_; exact Free.d_bin rfl (Free.tr 5 hd) (Free.tr 8 hd) (by go_simp) (by rw [run_neq_str' 9, decide_eq_false HEQ2.out]; rfl) rfl
           · exact Free.d_pick rfl (Eq.trans (b := vals 2) (by kernel_rfl) (hd 2 (by kernel_rfl))) (Eq.trans (b := vals 9) (by kernel_rfl) (hd 9 (by kernel_rfl))) rfl
          ·
           intro vals wq hC hd
           refine Free.go hd ?_
           rintro _ rfl _ rfl _ rfl _ rfl _ rfl _ rfl _ rfl _ rfl _ rfl _ rfl _ rfl
           simp only [Free.All, Free.fl, Act.put, Free.sa, Free.s0, Free.s1]
           refine wpList_nil ?_
           clear hd
           have HQ10 := Lib.hid (bt HQ9.out hC)
           clear hC
           have HSAY := Lib.hid (show Dc.says s p = none from by
            unfold Dc.says
            rw [if_pos HO.out]
            cases hr : Post.read p.docs with
            | error x => rfl
            | ok zs =>
             simp only
             rw [if_neg (by rw [HSS.out]; exact HEQ2.out)])
           go_wp2
           go_ret2
           rw [HSY.out, HSAY.out]
           exact ⟨bt HB0.out HQ10.out, rfl⟩
        ·
         have HX0 := Lib.hid (show ((xx : Int) == 0) = false from beq_eq_false_iff_ne.2 (by omega))
         have HXX := Lib.hid hxx
         have H7 := Lib.hid h7
         clear hxx h7
         go_upto_region 10 with fail
         go_wp2_with fail
         refine Free.wp_free_l 11 (fun W => Below w9.heap.size w9 W) [Free.kc (.int .i64 (xx : Int)), Free.kc (.bool true), Free.kc (.bool true), Free.kc (undef), Free.kc (undef), Free.kc (undef), Free.kc (undef), Free.kc (undef), Free.kc (undef), Free.kc (undef), Free.kc (.bool true)] (by kernel_rfl) (by kernel_rfl) (by decide) (Below.refl _ _).drew (fun w w' h g => bt h g) ?_ ?_
         ·
          iterate 11 refine Free.forall_succ ?_ ?_
          all_goals first | exact Free.forall_zero | (refine Free.op fun vals wq hC hd => ?_) | skip
          · exact Free.dm
          · exact Free.d_bin rfl (Free.tr 0 hd) (show _ = (.int .i64 0 : Value) from rfl) (by go_simp) (by have hx := HX0.out; go_simp; first | done | (simpa using hx)) rfl
          · exact Free.d_move rfl (Free.tr 1 hd) rfl
          · exact Free.skl 2 90 false
          · exact Free.skl 2 90 false
          · exact Free.skl 2 90 false
          · exact Free.skl 2 90 false
          · exact Free.skl 2 90 false
          · exact Free.skl 2 90 false
          · exact Free.skl 2 90 false
          · exact Free.d_pick rfl (Eq.trans (b := vals 2) (by kernel_rfl) (hd 2 (by kernel_rfl))) rfl rfl
         ·
          intro vals wq hC hd
          refine Free.go hd ?_
          rintro _ rfl _ rfl _ rfl _ rfl _ rfl _ rfl _ rfl _ rfl _ rfl _ rfl _ rfl
          simp only [Free.All, Free.fl, Act.put, Free.sa, Free.s0, Free.s1]
          refine wpList_nil ?_
          clear hd
          have HQ10 := Lib.hid (bt HQ9.out hC)
          clear hC
          have HSAY := Lib.hid (show Dc.says s p = none from by
           unfold Dc.says
           rw [if_pos HO.out]
           cases hr : Post.read p.docs with
           | error x => rfl
           | ok zs =>
            have := HXX.out; rw [hr] at this; exact absurd this.symm H7.out)
          go_wp2
          go_ret2
          rw [HSY.out, HSAY.out]
          exact ⟨bt HB0.out HQ10.out, rfl⟩
       ·
        obtain ⟨o1, o2⟩ := ord_gt ho
        have HV := Lib.hid (show Dc.says s p = none from by unfold Dc.says; rw [if_neg (fun e => Dc.lt_ne ho e.symm), if_neg (fun h => Dc.lt_no ho h.1)])
        clear ho hdl
        go_wp2
        go_ret2
        rw [HSY.out, HV.out]
        exact ⟨bt HB0.out HQ3.out, rfl⟩
     ·
      have HEQ := Lib.hid hrt
      have HN := Lib.hid (show Dc.check root n s p = none from by rw [HCK.out, if_neg hrt])
      clear hrt
      refine Free.wp_free_l 12 (fun W => Below w3.heap.size w3 W) [Free.kc (.pointer (some ⟨w.heap.size, 1, none⟩)), Free.kc (.agg #[sv p.link.term, sv p.link.next, sv p.link.posts]), Free.kB (w3.heap.size) (p.link.bytes), Free.kc (sv sd), Free.kc (.pointer (some ⟨w.heap.size, 0, none⟩)), Free.kc (.int .i64 p.at_), Free.kc (.int .i64 n), Free.kc (.pointer (some ⟨w.heap.size, 4, none⟩)), Free.kc (.slice Ap np cp), Free.kc (sv tt), Free.kc (sv root), Free.kc (.bool true)] (by kernel_rfl) (by kernel_rfl) (by decide) (Below.refl _ _).drew (fun w w' h g => bt h g) ?_ ?_
      ·
       iterate 12 refine Free.forall_succ ?_ ?_
       all_goals first | exact Free.forall_zero | (refine Free.op fun vals wq hC hd => ?_) | skip
       · exact d_field (cx := .pointer (some ⟨w.heap.size, 0, none⟩)) rfl (by kernel_rfl) (by go_simp) rfl
       · exact Free.d_load (cx := .pointer (some ⟨w.heap.size, 1, none⟩)) rfl (Free.tr 0 hd) (by have hc1 := (HX.out wq (bt HQ1.out hC)).cellQ 1 _ rfl; have hc2 := (HX.out wq (bt HQ1.out hC)).cellQ 2 _ rfl; have hc3 := (HX.out wq (bt HQ1.out hC)).cellQ 3 _ rfl; go_simp) rfl
       · exact Free.d_call Tryz.func54 (by kernel_rfl) (by kernel_rfl) rfl rfl (Free.arg1 (Free.tr 1 hd)) ((QW.out wq).mono fun e w2 h => (by obtain ⟨A9, n9, c9, he, ho, hb⟩ := h; exact ⟨_, he, ⟨A9, n9, c9, rfl, ho.base hC.size⟩, hb⟩))
       · obtain ⟨A2, n2, k2, e2, ow2⟩ := hd 2 (by kernel_rfl); exact Free.d_call Tryz.func53 (by kernel_rfl) (by kernel_rfl) rfl rfl (Free.arg1 (Eq.trans (b := vals 2) (by kernel_rfl) e2)) ((QL.out A2 n2 k2 wq ow2.bs).mono fun e w2 h => ⟨_, h.1, rfl, h.2⟩)
       · exact d_field (cx := .pointer (some ⟨w.heap.size, 0, none⟩)) rfl (by kernel_rfl) (by go_simp) rfl
       · exact Free.d_load rfl (Free.tr 4 hd) (by have hcc := (HX.out wq (bt HQ1.out hC)).cellQ 0 _ rfl; go_simp) rfl
       · exact Free.dm
       · exact d_field (cx := .pointer (some ⟨w.heap.size, 0, none⟩)) rfl (by kernel_rfl) (by go_simp) rfl
       · exact Free.d_load rfl (Free.tr 7 hd) (by have hcc := (HX.out wq (bt HQ1.out hC)).cellQ 4 _ rfl; go_simp) rfl
       · exact Free.d_call Tryz.func52 (by kernel_rfl) (by kernel_rfl) rfl rfl (arg4' (Free.tr 3 hd) (Free.tr 5 hd) (Free.tr 6 hd) (Free.tr 8 hd)) ((CL.out wq (bt HB0.out (bt HQ1.out hC))).mono fun e w2 h => ⟨_, h.1, rfl, h.2⟩)
       · exact Free.dm
       · exact Free.d_bin rfl (Free.tr 9 hd) (Free.tr 10 hd) (by go_simp) (by rw [run_neq_str' 9, decide_eq_false HEQ.out]; rfl) rfl
      ·
       intro vals wq hC hd
       refine Free.go hd ?_
       rintro _ rfl _ rfl _ ⟨A2, n2, k2, rfl, ow2⟩ _ rfl _ rfl _ rfl _ rfl _ rfl _ rfl _ rfl _ rfl _ rfl
       simp only [Free.All, Free.fl, Act.put, Free.sa, Free.s0, Free.s1]
       refine wpList_nil ?_
       clear hd
       have HQ3 := Lib.hid (bt HQ1.out hC)
       clear hC ow2
       go_wp2
       go_ret2
       rw [HN.out]
       exact ⟨bt HB0.out HQ3.out, rfl⟩
   ·
    have HN := Lib.hid (show Dc.check root n s p = none from by
     have hf : Dc.fit n p = false := by
      cases hf : Dc.fit n p with
      | false => rfl
      | true => have := Dc.fit_iff.1 hf; (have h5 := this.2.2.2; rw [hi, hk, Int.toNat_natCast, Int.toNat_natCast, hln, HPL.out] at h5; exact absurd h5 h4)
     unfold Dc.check Dc.climbs; rw [hf]; simp)
    have HNE := Lib.hid (show ((np : Int) == (ln : Int)) = false from beq_eq_false_iff_ne.2 (by omega))
    clear hi hk hln h4
    have QM := Lib.hid QM
    have Q6 := Lib.hid Q6
    go_enter Tryz.func18, Tryz.ntmps18
    go_upto_region 1 with fail
    rw [HW0.out]
    go_wp2_with fail
    refine Free.wp_free_l 31 (fun W => Below w0.heap.size w0 W) [Free.kc (.pointer (some ⟨w.heap.size, 1, none⟩)), Free.kc (.agg #[sv p.link.term, sv p.link.next, sv p.link.posts]), Free.kc (.bool true), Free.kc (.bool false), Free.kc (.bool false), Free.kc (.pointer (some ⟨w.heap.size, 0, none⟩)), Free.kc (.int .i64 p.at_), Free.kc (.bool false), Free.kc (.bool false), Free.kc (.bool false), Free.kc (.pointer (some ⟨w.heap.size, 0, none⟩)), Free.kc (.int .i64 p.at_), Free.kc (.int .i64 n), Free.kc (.bool false), Free.kc (.bool false), Free.kc (.bool false), Free.kc (.pointer (some ⟨w.heap.size, 4, none⟩)), Free.kc (.slice Ap np cp), Free.kc (.bool true), Free.kc (.bool false), Free.kc (.bool false), Free.kc (.bool false), Free.kc (.pointer (some ⟨w.heap.size, 4, none⟩)), Free.kc (.slice Ap np cp), Free.kc (.int .i64 (np : Int)), Free.kc (.pointer (some ⟨w.heap.size, 0, none⟩)), Free.kc (.int .i64 p.at_), Free.kc (.int .i64 n), Free.kc (.int .i64 (ln : Int)), Free.kc (.bool true), Free.kc (.bool true)] (by kernel_rfl) (by kernel_rfl) (by decide) (Below.refl _ _).drew (fun w w' h g => bt h g) ?_ ?_
    ·
     iterate 31 refine Free.forall_succ ?_ ?_
     all_goals first | exact Free.forall_zero | (refine Free.op fun vals wq hC hd => ?_) | skip
     · exact d_field (cx := .pointer (some ⟨w.heap.size, 0, none⟩)) rfl (by kernel_rfl) (by go_simp) rfl
     · exact Free.d_load (cx := .pointer (some ⟨w.heap.size, 1, none⟩)) rfl (Free.tr 0 hd) (by have hc1 := (HX.out wq hC).cellQ 1 _ rfl; have hc2 := (HX.out wq hC).cellQ 2 _ rfl; have hc3 := (HX.out wq hC).cellQ 3 _ rfl; go_simp) rfl
     · exact Free.d_call Tryz.func49 (by kernel_rfl) (by kernel_rfl) rfl rfl (Free.arg1 (Free.tr 1 hd)) ((QM.out wq).mono fun e w2 h => ⟨_, h.1, rfl, h.2⟩)
     · exact Free.d_un rfl (Free.tr 2 hd) (by go_simp) rfl
     · exact Free.d_move rfl (Free.tr 3 hd) rfl
     · refine Free.og 4 16 false fun vals wq hC hd => ?_; exact d_field (cx := .pointer (some ⟨w.heap.size, 0, none⟩)) rfl (by kernel_rfl) (by go_simp) rfl
     · refine Free.og 4 16 false fun vals wq hC hd => ?_; exact Free.d_load rfl (Free.tr 5 hd) (by have hcc := (HX.out wq hC).cellQ 0 _ rfl; go_simp) rfl
     · refine Free.og 4 16 false fun vals wq hC hd => ?_; exact Free.d_bin rfl (Free.tr 6 hd) (show _ = (.int .i64 0 : Value) from rfl) (by go_simp) (by go_simp) rfl
     · exact Free.d_pick rfl (Eq.trans (b := vals 4) (by kernel_rfl) (hd 4 (by kernel_rfl))) (Eq.trans (b := vals 7) (by kernel_rfl) (hd 7 (by kernel_rfl))) rfl
     · exact Free.d_move rfl (Free.tr 8 hd) rfl
     · refine Free.og 9 21 false fun vals wq hC hd => ?_; exact d_field (cx := .pointer (some ⟨w.heap.size, 0, none⟩)) rfl (by kernel_rfl) (by go_simp) rfl
     · refine Free.og 9 21 false fun vals wq hC hd => ?_; exact Free.d_load rfl (Free.tr 10 hd) (by have hcc := (HX.out wq hC).cellQ 0 _ rfl; go_simp) rfl
     · refine Free.og 9 21 false fun vals wq hC hd => ?_; exact Free.d_move rfl (by kernel_rfl) rfl
     · refine Free.og 9 21 false fun vals wq hC hd => ?_; exact Free.d_bin rfl (Free.tr 11 hd) (Free.tr 12 hd) (by go_simp) (by go_simp) rfl
     · exact Free.d_pick rfl (Eq.trans (b := vals 9) (by kernel_rfl) (hd 9 (by kernel_rfl))) (Eq.trans (b := vals 13) (by kernel_rfl) (hd 13 (by kernel_rfl))) rfl
     · exact Free.d_move rfl (Free.tr 14 hd) rfl
     · refine Free.og 15 27 false fun vals wq hC hd => ?_; exact d_field (cx := .pointer (some ⟨w.heap.size, 0, none⟩)) rfl (by kernel_rfl) (by go_simp) rfl
     · refine Free.og 15 27 false fun vals wq hC hd => ?_; exact Free.d_load rfl (Free.tr 16 hd) (by have hcc := (HX.out wq hC).cellQ 4 _ rfl; go_simp) rfl
     · refine Free.og 15 27 false fun vals wq hC hd => ?_; exact Free.d_call Tryz.func50 (by kernel_rfl) (by kernel_rfl) rfl rfl (Free.arg1 (Free.tr 17 hd)) ((Q6.out wq (bt HB0.out hC)).mono fun e w2 h => ⟨_, h.1, rfl, by rw [← h.2]; exact Below.refl _ _⟩)
     · refine Free.og 15 27 false fun vals wq hC hd => ?_; exact Free.d_un rfl (Free.tr 18 hd) (by go_simp) rfl
     · exact Free.d_pick rfl (Eq.trans (b := vals 15) (by kernel_rfl) (hd 15 (by kernel_rfl))) (Eq.trans (b := vals 19) (by kernel_rfl) (hd 19 (by kernel_rfl))) rfl
     · exact Free.d_move rfl (Free.tr 20 hd) rfl
     · refine Free.og 21 33 false fun vals wq hC hd => ?_; exact d_field (cx := .pointer (some ⟨w.heap.size, 0, none⟩)) rfl (by kernel_rfl) (by go_simp) rfl
     · refine Free.og 21 33 false fun vals wq hC hd => ?_; exact Free.d_load rfl (Free.tr 22 hd) (by have hcc := (HX.out wq hC).cellQ 4 _ rfl; go_simp) rfl
     · refine Free.og 21 33 false fun vals wq hC hd => ?_; exact Free.d_len rfl Tryz.underlying27 (Free.tr 23 hd) rfl
     · refine Free.og 21 33 false fun vals wq hC hd => ?_; exact d_field (cx := .pointer (some ⟨w.heap.size, 0, none⟩)) rfl (by kernel_rfl) (by go_simp) rfl
     · refine Free.og 21 33 false fun vals wq hC hd => ?_; exact Free.d_load rfl (Free.tr 25 hd) (by have hcc := (HX.out wq hC).cellQ 0 _ rfl; go_simp) rfl
     · refine Free.og 21 33 false fun vals wq hC hd => ?_; exact Free.d_move rfl (by kernel_rfl) rfl
     · refine Free.og 21 33 false fun vals wq hC hd => ?_; exact Free.d_call Tryz.func51 (by kernel_rfl) (by kernel_rfl) rfl rfl (Free.arg2 (Free.tr 26 hd) (Free.tr 27 hd)) ((QS.out wq).mono fun e w2 h => ⟨_, h.1, rfl, by rw [← h.2]; exact Below.refl _ _⟩)
     · refine Free.og 21 33 false fun vals wq hC hd => ?_; exact Free.d_bin rfl (Free.tr 24 hd) (Free.tr 28 hd) (by go_simp) (by have hne := HNE.out; go_simp; first | done | (simpa using hne)) rfl
     · exact Free.d_pick rfl (Eq.trans (b := vals 21) (by kernel_rfl) (hd 21 (by kernel_rfl))) (Eq.trans (b := vals 29) (by kernel_rfl) (hd 29 (by kernel_rfl))) rfl
    ·
     intro vals wq hC hd
     refine Free.go hd ?_
     rintro _ rfl _ rfl _ rfl _ rfl _ rfl _ rfl _ rfl _ rfl _ rfl _ rfl _ rfl _ rfl _ rfl _ rfl _ rfl _ rfl _ rfl _ rfl _ rfl _ rfl _ rfl _ rfl _ rfl _ rfl _ rfl _ rfl _ rfl _ rfl _ rfl _ rfl _ rfl
     simp only [Free.All, Free.fl, Act.put, Free.sa, Free.s0, Free.s1]
     refine wpList_nil ?_
     clear hd
     have HQ := Lib.hid (bt HB0.out hC)
     clear hC
     go_wp2
     go_ret2
     rw [HN.out]
     exact ⟨HQ.out, rfl⟩
structure Dc.Kn (L : List EnD) (e1 e2 : EnD) : Prop where
 eq : L = [e1, e2]
 t1 : e1.t = [104, 97, 121]
 l1 : e1.l = [0, 1]
 t2 : e2.t = [119, 97, 105, 110]
 l2 : e2.l = [1]
theorem Dc.tk_hay : Tok.right [104, 97, 121] = true := by decide +kernel
theorem Dc.tk_ox : Tok.right [111, 120] = true := by decide +kernel
theorem Dc.tk_wain : Tok.right [119, 97, 105, 110] = true := by decide +kernel
theorem Dc.kn_good {L : List EnD} {e1 e2 : EnD} (h : Dc.Kn L e1 e2) : Dc.Good L := by
 have p1 : Post.right [0, 1] = true := by decide
 have p2 : Post.right [1] = true := by decide
 refine ⟨fun k e he => ?_, fun k e f he hf => ?_⟩
 ·
  rw [h.eq] at he
  match k, he with
  | 0, he =>
   simp only [List.getElem?_cons_zero, Option.some.injEq] at he
   subst he
   exact Dc.okE_iff.2 ⟨by rw [h.l1]; simp, by rw [h.l1]; exact p1, by rw [h.t1]; exact Dc.tk_hay⟩
  | 1, he =>
   simp only [List.getElem?_cons_succ, List.getElem?_cons_zero, Option.some.injEq] at he
   subst he
   exact Dc.okE_iff.2 ⟨by rw [h.l2]; simp, by rw [h.l2]; exact p2, by rw [h.t2]; exact Dc.tk_wain⟩
  | k + 2, he => simp at he
 ·
  rw [h.eq] at he hf
  match k, he, hf with
  | 0, he, hf =>
   simp only [List.getElem?_cons_succ, List.getElem?_cons_zero, Option.some.injEq] at he hf
   subst he hf
   rw [h.t1, h.t2]
   decide
  | k + 1, he, hf => simp at hf
theorem Dc.kn_hay {L : List EnD} {e1 e2 : EnD} (h : Dc.Kn L e1 e2) : Dc.at_ L [104, 97, 121] = 0 ∧ Dc.has L [104, 97, 121] = true ∧ Dc.docs L [104, 97, 121] = [0, 1] := by
 have := Dc.has_at (Dc.kn_good h) (j := 0) (e := e1) (by rw [h.eq]; rfl)
 rw [h.t1, h.l1] at this
 exact this
theorem Dc.kn_ox {L : List EnD} {e1 e2 : EnD} (h : Dc.Kn L e1 e2) : Dc.at_ L [111, 120] = 0 ∧ Dc.has L [111, 120] = false ∧ Dc.docs L [111, 120] = [] := by
 have h1 : Dc.at_ L [111, 120] = 0 := by
  unfold Dc.at_
  rw [h.eq, Dc.fnd, Dc.fnd, Dc.fnd, h.t1, h.t2]
  decide
 have h2 : Dc.has L [111, 120] = false := by
  unfold Dc.has Dc.hasAt
  rw [h1, h.eq]
  simp [h.t1]
 exact ⟨h1, h2, by unfold Dc.docs; rw [h2]; rfl⟩
theorem Dc.kn_write : Post.write [0, 1] = [2, 0, 0] := by
 unfold Post.write
 rw [Post.gapsFrom, Post.gapsFrom, Post.gapsFrom]
 rw [Code.num_lt (by decide), Code.num_lt (by decide), Code.num_lt (by decide)]
 decide
theorem Dc.kn_p {L : List EnD} {e1 e2 : EnD} (h : Dc.Kn L e1 e2) : (Dc.prove L [104, 97, 121]).at_ = 1 ∧ (Dc.prove L [104, 97, 121]).docs = [2, 0, 0] := by
 obtain ⟨h1, h2, h3⟩ := Dc.kn_hay h
 have hk : Dc.atN L [104, 97, 121] = 1 := by unfold Dc.atN; rw [h1]; rfl
 unfold Dc.prove
 exact ⟨by rw [hk]; rfl, by rw [h2, h3, if_pos rfl, Dc.kn_write]⟩
theorem Dc.kn_q {L : List EnD} {e1 e2 : EnD} (h : Dc.Kn L e1 e2) : (Dc.prove L [111, 120]).at_ = 1 ∧ (Dc.prove L [111, 120]).docs = [] := by
 obtain ⟨h1, h2, h3⟩ := Dc.kn_ox h
 have hk : Dc.atN L [111, 120] = 1 := by unfold Dc.atN; rw [h1]; rfl
 unfold Dc.prove
 exact ⟨by rw [hk]; rfl, by rw [h2]; rfl⟩
theorem Dc.kn_a {L : List EnD} {e1 e2 : EnD} (h : Dc.Kn L e1 e2) : Dc.check (Dc.root L) 3 [104, 97, 121] (Dc.prove L [104, 97, 121]) = some [0, 1] := by
 have := Dc.prove_check (Dc.kn_good h) Dc.tk_hay
 rw [(Dc.kn_hay h).2.2, h.eq] at this
 rw [h.eq]
 exact this
theorem Dc.kn_b {L : List EnD} {e1 e2 : EnD} (h : Dc.Kn L e1 e2) : Dc.check (Dc.root L) 3 [111, 120] (Dc.prove L [111, 120]) = some [] := by
 have := Dc.prove_check (Dc.kn_good h) Dc.tk_ox
 rw [(Dc.kn_ox h).2.2, h.eq] at this
 rw [h.eq]
 exact this
theorem Dc.kn_i {L : List EnD} {e1 e2 : EnD} (h : Dc.Kn L e1 e2) : Dc.check (Dc.root L) 3 [119, 97, 105, 110] (Dc.prove L [104, 97, 121]) = none := by
 obtain ⟨h1, h2, h3⟩ := Dc.kn_hay h
 have hk : Dc.atN L [104, 97, 121] = 1 := by unfold Dc.atN; rw [h1]; rfl
 have e1' : (Dc.prove L [104, 97, 121]).link.term = [104, 97, 121] := by
  show (Dc.linkAt L (Dc.atN L [104, 97, 121])).term = _
  rw [hk]
  show Dc.enT L 0 = _
  rw [Dc.enT_some (e := e1) (by rw [h.eq]; rfl), h.t1]
 have e2' : (Dc.prove L [104, 97, 121]).link.next = [119, 97, 105, 110] := by
  show (Dc.linkAt L (Dc.atN L [104, 97, 121])).next = _
  rw [hk]
  show Dc.enT L 1 = _
  rw [Dc.enT_some (e := e2) (by rw [h.eq]; rfl), h.t2]
 unfold Dc.check
 split
 ·
  unfold Dc.says
  rw [e1', e2', if_neg (by decide), if_neg]
  rintro ⟨_, g, _⟩
  rcases g with g | g
  · exact Dc.lt_irr _ g
  · cases g
 · rfl
theorem Dc.kn_fair {L : List EnD} (s : List UInt8) (h : Tok.right s = true) : Dc.fairC (Dc.root L) 3 s = true := Dc.fairC_iff.2 ⟨troot_len (Cl.lv_all _), by omega, by omega, h⟩
theorem Dc.prove_small (L : List EnD) (s : List UInt8) : (∀ d ∈ (Dc.prove L s).path, d.length ≤ maxLen) := fun d hd => by
 have := tpath_all (Cl.lv_all (Dc.links L)) _ d hd
 rw [this, maxLen_eq]; omega
theorem knows11_any (w : World) (ht : Ut.UTabs w) (htt : Tabs w) : Calls Tryz.prog 8 #[] w (Yes w) := by
 obtain ⟨g, hg⟩ : ∃ g, w.heap.size = g := ⟨_, rfl⟩
 obtain ⟨w1, hw1⟩ : ∃ W, w.alloc (.cells #[.int .i64 0, .int .i64 1] 3) = W := ⟨_, rfl⟩
 have hb1 := (Below.refl w.heap.size w).alloc (Nat.le_refl _) (.cells #[.int .i64 0, .int .i64 1] 3)
 have hr1 := row_new w #[.int .i64 0, .int .i64 1] 3
 have hz1 : w1.heap.size = g + 1 := by rw [← hw1, ← hg]; unfold World.alloc; simp
 rw [hw1] at hb1 hr1
 rw [hg] at hr1
 obtain ⟨w2, hw2⟩ : ∃ W, w1.alloc (.cells #[.int .i64 1] 3) = W := ⟨_, rfl⟩
 have hb2 := (Below.refl w1.heap.size w1).alloc (Nat.le_refl _) (.cells #[.int .i64 1] 3)
 have hr2 := row_new w1 #[.int .i64 1] 3
 have hz2 : w2.heap.size = g + 2 := by rw [← hw2, show g + 2 = w1.heap.size + 1 by omega]; unfold World.alloc; simp
 rw [hw2] at hb2 hr2
 rw [hz1] at hr2
 obtain ⟨w3, hw3⟩ : ∃ W, w2.alloc (.cells #[.string { data := #[104, 97, 121] }, .slice (some ⟨g, 0, none⟩) 2 2, .string { data := #[119, 97, 105, 110] }, .slice (some ⟨g + 1, 0, none⟩) 1 1] 63) = W := ⟨_, rfl⟩
 have hb3 := (Below.refl w2.heap.size w2).alloc (Nat.le_refl _) (.cells #[.string { data := #[104, 97, 121] }, .slice (some ⟨g, 0, none⟩) 2 2, .string { data := #[119, 97, 105, 110] }, .slice (some ⟨g + 1, 0, none⟩) 1 1] 63)
 have hr3 := row_new w2 #[.string { data := #[104, 97, 121] }, .slice (some ⟨g, 0, none⟩) 2 2, .string { data := #[119, 97, 105, 110] }, .slice (some ⟨g + 1, 0, none⟩) 1 1] 63
 rw [hw3] at hb3 hr3
 rw [hz2] at hr3
 have hr13 := (hr1.belowS hb2 (Nat.le_refl _)).belowS hb3 (Nat.le_refl _)
 have hr23 := hr2.belowS hb3 (Nat.le_refl _)
 have hb03 : Below w.heap.size w w3 := bt (bt hb1 hb2) hb3
 obtain ⟨e1, he1⟩ : ∃ e : EnD, e = ⟨[104, 97, 121], some ⟨g, 0, none⟩, 2, 2, [0, 1]⟩ := ⟨_, rfl⟩
 obtain ⟨e2, he2⟩ : ∃ e : EnD, e = ⟨[119, 97, 105, 110], some ⟨g + 1, 0, none⟩, 1, 1, [1]⟩ := ⟨_, rfl⟩
 have hkn : Dc.Kn [e1, e2] e1 e2 := by subst he1 he2; exact ⟨rfl, rfl, rfl, rfl, rfl⟩
 have hin : InEs w3 (some ⟨g + 2, 0, none⟩) 2 2 [e1, e2] := by
  subst he1 he2
  have m2 : (2 : Nat) ≤ maxLen := by rw [maxLen_eq]; omega
  refine ⟨⟨rd_of_addr (x := ⟨g + 2, 0, none⟩) hr3.lt fun i v hv => ?_, rfl, Nat.le_refl _, m2⟩, fun d hd => ?_⟩
  ·
   match i, hv with
   | 0, hv => simp [enc1] at hv; subst hv; exact hr3.cellQ 0 _ rfl
   | 1, hv => simp [enc1] at hv; subst hv; exact hr3.cellQ 1 _ rfl
   | 2, hv => simp [enc1] at hv; subst hv; exact hr3.cellQ 2 _ rfl
   | 3, hv => simp [enc1] at hv; subst hv; exact hr3.cellQ 3 _ rfl
   | i + 4, hv => simp [enc1] at hv
  ·
   simp only [List.mem_cons, List.not_mem_nil, or_false] at hd
   rcases hd with rfl | rfl
   ·
    refine ⟨⟨rd_of_addr (x := ⟨g, 0, none⟩) hr13.lt fun i v hv => ?_, rfl, Nat.le_refl _, m2, fun z hz => ?_⟩, by simp [maxLen_eq]⟩
    ·
     match i, hv with
     | 0, hv => simp [iv] at hv; subst hv; exact hr13.cellQ 0 _ rfl
     | 1, hv => simp [iv] at hv; subst hv; exact hr13.cellQ 1 _ rfl
     | i + 2, hv => simp at hv
    ·
     simp only [List.mem_cons, List.not_mem_nil, or_false] at hz
     rcases hz with rfl | rfl <;> omega
   ·
    refine ⟨⟨rd_of_addr (x := ⟨g + 1, 0, none⟩) hr23.lt fun i v hv => ?_, rfl, Nat.le_refl _, Nat.le_trans (show (1 : Nat) ≤ 2 by omega) m2, fun z hz => ?_⟩, by simp [maxLen_eq]⟩
    ·
     match i, hv with
     | 0, hv => simp [iv] at hv; subst hv; exact hr23.cellQ 0 _ rfl
     | i + 1, hv => simp at hv
    ·
     simp only [List.mem_cons, List.not_mem_nil, or_false] at hz
     rcases hz with rfl <;> omega
 have hll : ∀ e ∈ [e1, e2], e.t.length ≤ 200 ∧ e.l.length ≤ 200 := fun e he => by
  subst he1 he2
  simp only [List.mem_cons, List.not_mem_nil, or_false] at he
  rcases he with rfl | rfl <;> exact ⟨by simp, by simp⟩
 have HW := Lib.hid (And.intro hw1 (And.intro hw2 hw3))
 have HB3 := Lib.hid hb03
 have HIN := Lib.hid hin
 have HLL := Lib.hid hll
 have HKN := Lib.hid hkn
 have HGD := Lib.hid (Dc.right_yes (Dc.kn_good hkn))
 have HT := Lib.hid (ht.below hb03)
 have HTT := Lib.hid (htt.below hb03)
 obtain ⟨L, hL⟩ : ∃ L, [e1, e2] = L := ⟨_, rfl⟩
 rw [hL] at HIN HLL HKN HGD
 clear hw1 hw2 hw3 hb1 hb2 hb3 hr1 hr2 hr3 hz1 hz2 hr13 hr23 hb03 he1 he2 hkn hin hll ht htt hL
 have C1 := Lib.hid (droot_yes (some ⟨g + 2, 0, none⟩) 2 2 L w3 HIN.out (fun e he => (HLL.out e he).1) (by omega) HT.out HTT.out HGD.out)
 have C2 := Lib.hid (fun (W : World) (hW : Below w3.heap.size w3 W) => (show Calls Tryz.prog 9 #[.slice (some ⟨g + 2, 0, none⟩) 2 2, .string { data := #[104, 97, 121] }] W (ProvePost L [104, 97, 121] W) from tprove_yes (some ⟨g + 2, 0, none⟩) 2 2 L [104, 97, 121] W (HIN.out.keep hW) HLL.out (by omega) (by decide) (HT.out.below hW) (HTT.out.below hW) HGD.out Dc.tk_hay))
 have C3 := Lib.hid (fun (W : World) (hW : Below w3.heap.size w3 W) => (show Calls Tryz.prog 9 #[.slice (some ⟨g + 2, 0, none⟩) 2 2, .string { data := #[111, 120] }] W (ProvePost L [111, 120] W) from tprove_yes (some ⟨g + 2, 0, none⟩) 2 2 L [111, 120] W (HIN.out.keep hW) HLL.out (by omega) (by decide) (HT.out.below hW) (HTT.out.below hW) HGD.out Dc.tk_ox))
 unfold ProvePost at C2 C3
 obtain ⟨rt, hrt⟩ : ∃ r, Dc.root L = r := ⟨_, rfl⟩
 rw [hrt] at C1
 have HRT := Lib.hid hrt
 clear hrt
 go_enter Tryz.func8, Tryz.ntmps8
 go_upto_region 2 with fail
 try rw [hg]
 rw [HW.out.1, HW.out.2.1, HW.out.2.2]
 clear hg
 go_wp2_with fail
 (with_reducible refine C1.out.mono ?_)
 rintro e w4 ⟨rfl, hb4⟩
 have HB4 := Lib.hid hb4
 clear hb4 C1
 go_wp2_with fail
 (with_reducible refine (C2.out _ HB4.out).mono ?_)
 rintro e w5 ⟨d1, hd1, rfl, hi1, hb5⟩
 have HB5 := Lib.hid (bt HB4.out hb5)
 have HD1 := Lib.hid hd1
 have HI1 := Lib.hid hi1
 clear hb5 hd1 hi1 C2
 unfold pfv
 go_upto_region 4 with fail
 have hbx : Below w5.heap.size w5 (w5.alloc (.cells #[.int .i64 d1.p.at_, sv d1.p.link.term, sv d1.p.link.next, sv d1.p.link.posts, .slice d1.ap d1.np d1.cp, .slice d1.ad d1.nd d1.cd] 30)) := (Below.refl _ w5).alloc (Nat.le_refl _) _
 have hrx := row_new w5 #[.int .i64 d1.p.at_, sv d1.p.link.term, sv d1.p.link.next, sv d1.p.link.posts, .slice d1.ap d1.np d1.cp, .slice d1.ad d1.nd d1.cd] 30
 obtain ⟨w6, hwx⟩ : ∃ W, w5.alloc (.cells #[.int .i64 d1.p.at_, sv d1.p.link.term, sv d1.p.link.next, sv d1.p.link.posts, .slice d1.ap d1.np d1.cp, .slice d1.ad d1.nd d1.cd] 30) = W := ⟨_, rfl⟩
 obtain ⟨ga, hgx⟩ : ∃ g, w5.heap.size = g := ⟨_, rfl⟩
 rw [hwx] at hbx hrx ⊢
 have HB6 := Lib.hid (bt HB5.out hbx)
 have HX6 := Lib.hid hbx
 rw [hgx] at hrx ⊢
 have HRa := Lib.hid hrx
 clear hbx hrx hwx hgx
 go_wp2_with fail
 (with_reducible refine (C3.out _ HB6.out).mono ?_)
 rintro e w7 ⟨d2, hd2, rfl, hi2, hb7⟩
 have HB7 := Lib.hid (bt HB6.out hb7)
 have HX7 := Lib.hid (bt HX6.out hb7)
 have HD2 := Lib.hid hd2
 have HI2 := Lib.hid hi2
 have HRa7 := Lib.hid (HRa.out.belowS hb7 (Nat.le_refl _))
 clear hb7 hd2 hi2 C3
 unfold pfv
 go_upto_region 5 with fail
 have hbx : Below w7.heap.size w7 (w7.alloc (.cells #[.int .i64 d2.p.at_, sv d2.p.link.term, sv d2.p.link.next, sv d2.p.link.posts, .slice d2.ap d2.np d2.cp, .slice d2.ad d2.nd d2.cd] 30)) := (Below.refl _ w7).alloc (Nat.le_refl _) _
 have hrx := row_new w7 #[.int .i64 d2.p.at_, sv d2.p.link.term, sv d2.p.link.next, sv d2.p.link.posts, .slice d2.ap d2.np d2.cp, .slice d2.ad d2.nd d2.cd] 30
 obtain ⟨w8, hwx⟩ : ∃ W, w7.alloc (.cells #[.int .i64 d2.p.at_, sv d2.p.link.term, sv d2.p.link.next, sv d2.p.link.posts, .slice d2.ap d2.np d2.cp, .slice d2.ad d2.nd d2.cd] 30) = W := ⟨_, rfl⟩
 obtain ⟨gb, hgx⟩ : ∃ g, w7.heap.size = g := ⟨_, rfl⟩
 rw [hwx] at hbx hrx ⊢
 have HB8 := Lib.hid (bt HB7.out hbx)
 have HX8 := Lib.hid hbx
 rw [hgx] at hrx ⊢
 have HRb := Lib.hid hrx
 clear hbx hrx hwx hgx
 have HRa8 := Lib.hid (HRa7.out.belowS HX8.out (Nat.le_refl _))
 have HIa := Lib.hid (fun (W : World) (hW : Below w8.heap.size w8 W) => HI1.out.keep (bt (bt HX7.out HX8.out) hW))
 have HIb := Lib.hid (fun (W : World) (hW : Below w8.heap.size w8 W) => HI2.out.keep (bt HX8.out hW))
 have HP1 := Lib.hid (Dc.kn_p HKN.out)
 have HP2 := Lib.hid (Dc.kn_q HKN.out)
 have hat1 : d1.p.at_ = 1 := by rw [HD1.out]; exact HP1.out.1
 have hat2 : d2.p.at_ = 1 := by rw [HD2.out]; exact HP2.out.1
 have HA1 := Lib.hid hat1
 have HA2 := Lib.hid hat2
 have HN1 := Lib.hid (show d1.nd = 3 by rw [← HI1.out.b.len, HD1.out, HP1.out.2]; rfl)
 have HN2 := Lib.hid (show d2.nd = 0 by rw [← HI2.out.b.len, HD2.out, HP2.out.2]; rfl)
 clear hat1 hat2
 have K1 := Lib.hid (fun (W : World) (hW : Below w8.heap.size w8 W) => (show Calls Tryz.prog 16 #[sv rt, .int .i64 3, .string { data := #[104, 97, 121] }, pfv d1.ap d1.np d1.cp d1.ad d1.nd d1.cd d1.p] W (CheckPost (some [0, 1]) W) from by
  have h := tcheck_any rt 3 [104, 97, 121] d1.ap d1.np d1.cp d1.ad d1.nd d1.cd d1.p W (by decide) (HIa.out W hW).s (by rw [HD1.out]; exact Dc.prove_small L _) (HIa.out W hW).b (by rw [HN1.out]; decide) (by rw [HA1.out]; decide) (HT.out.below (bt HB8.out hW)) (HTT.out.below (bt HB8.out hW)) (by rw [← HRT.out]; exact Dc.kn_fair _ Dc.tk_hay)
  rw [← HRT.out, HD1.out, Dc.kn_a HKN.out] at h
  rw [← HRT.out, HD1.out]
  exact h))
 unfold pfv CheckPost at K1
 have K2 := Lib.hid (fun (W : World) (hW : Below w8.heap.size w8 W) => (show Calls Tryz.prog 16 #[sv rt, .int .i64 3, .string { data := #[111, 120] }, pfv d2.ap d2.np d2.cp d2.ad d2.nd d2.cd d2.p] W (CheckPost (some []) W) from by
  have h := tcheck_any rt 3 [111, 120] d2.ap d2.np d2.cp d2.ad d2.nd d2.cd d2.p W (by decide) (HIb.out W hW).s (by rw [HD2.out]; exact Dc.prove_small L _) (HIb.out W hW).b (by rw [HN2.out]; decide) (by rw [HA2.out]; decide) (HT.out.below (bt HB8.out hW)) (HTT.out.below (bt HB8.out hW)) (by rw [← HRT.out]; exact Dc.kn_fair _ Dc.tk_ox)
  rw [← HRT.out, HD2.out, Dc.kn_b HKN.out] at h
  rw [← HRT.out, HD2.out]
  exact h))
 unfold pfv CheckPost at K2
 have K3 := Lib.hid (fun (W : World) (hW : Below w8.heap.size w8 W) => (show Calls Tryz.prog 16 #[sv rt, .int .i64 3, .string { data := #[119, 97, 105, 110] }, pfv d1.ap d1.np d1.cp d1.ad d1.nd d1.cd d1.p] W (CheckPost (none) W) from by
  have h := tcheck_any rt 3 [119, 97, 105, 110] d1.ap d1.np d1.cp d1.ad d1.nd d1.cd d1.p W (by decide) (HIa.out W hW).s (by rw [HD1.out]; exact Dc.prove_small L _) (HIa.out W hW).b (by rw [HN1.out]; decide) (by rw [HA1.out]; decide) (HT.out.below (bt HB8.out hW)) (HTT.out.below (bt HB8.out hW)) (by rw [← HRT.out]; exact Dc.kn_fair _ Dc.tk_wain)
  rw [← HRT.out, HD1.out, Dc.kn_i HKN.out] at h
  rw [← HRT.out, HD1.out]
  exact h))
 unfold pfv CheckPost at K3
 have x0 := HRa8.out.cellQ 0 _ rfl
 have x1 := HRa8.out.cellQ 1 _ rfl
 have x2 := HRa8.out.cellQ 2 _ rfl
 have x3 := HRa8.out.cellQ 3 _ rfl
 have x4 := HRa8.out.cellQ 4 _ rfl
 have x5 := HRa8.out.cellQ 5 _ rfl
 go_wp2_with fail
 (with_reducible refine (K1.out _ (Below.refl _ _)).mono ?_)
 rintro e w9 ⟨hb9, A9, n9, c9, rfl, hz9⟩
 have HB9 := Lib.hid hb9
 have HZ9 := Lib.hid hz9
 clear hb9 hz9 K1 x0 x1 x2 x3 x4 x5
 have hrq := HRb.out.belowS HB9.out (Nat.le_refl _)
 have x0 := hrq.cellQ 0 _ rfl
 have x1 := hrq.cellQ 1 _ rfl
 have x2 := hrq.cellQ 2 _ rfl
 have x3 := hrq.cellQ 3 _ rfl
 have x4 := hrq.cellQ 4 _ rfl
 have x5 := hrq.cellQ 5 _ rfl
 clear hrq
 go_wp2_with fail
 (with_reducible refine (K2.out _ HB9.out).mono ?_)
 rintro e w10 ⟨hb10, A10, n10, c10, rfl, hz10⟩
 have HB10 := Lib.hid (bt HB9.out hb10)
 have HZ9' := Lib.hid (HZ9.out.keep hb10)
 have hn10 : n10 = 0 := hz10.len.symm
 subst hn10
 clear hb10 hz10 K2 x0 x1 x2 x3 x4 x5
 have hrq := HRa8.out.belowS HB10.out (Nat.le_refl _)
 have x0 := hrq.cellQ 0 _ rfl
 have x1 := hrq.cellQ 1 _ rfl
 have x2 := hrq.cellQ 2 _ rfl
 have x3 := hrq.cellQ 3 _ rfl
 have x4 := hrq.cellQ 4 _ rfl
 have x5 := hrq.cellQ 5 _ rfl
 clear hrq
 go_wp2_with fail
 (with_reducible refine (K3.out _ HB10.out).mono ?_)
 rintro e w11 ⟨hb11, rfl⟩
 have HB11 := Lib.hid (bt HB10.out hb11)
 have HZ11 := Lib.hid (HZ9'.out.keep hb11)
 clear hb11 K3 x0 x1 x2 x3 x4 x5
 go_upto_region 8 with fail
 have hrq := HRa8.out.belowS HB11.out (Nat.le_refl _)
 have x0 := hrq.cellQ 0 _ rfl
 have x5 := hrq.cellQ 5 _ rfl
 have hrp := HRb.out.belowS HB11.out (Nat.le_refl _)
 have y0 := hrp.cellQ 0 _ rfl
 have y5 := hrp.cellQ 5 _ rfl
 clear hrq hrp
 have hbs := (HIa.out w11 HB11.out).b
 have hdc : d1.p.docs = [2, 0, 0] := by rw [HD1.out]; exact HP1.out.2
 rw [hdc] at hbs
 have HBS := Lib.hid hbs
 have hn1 := HN1.out
 have hn2 := HN2.out
 have ha1 := HA1.out
 have ha2 := HA2.out
 rw [ha1] at x0
 rw [ha2] at y0
 rw [hn2] at y5
 have hq : ((str [2, 0, 0]).toList == (⟨#[2, 0, 0]⟩ : ByteArray).toList) = true := by
  have := strEq [2, 0, 0] [2, 0, 0]
  rw [decide_eq_true rfl] at this
  exact this
 have hq2 : (str [2, 0, 0]).toList = [2, 0, 0] := str_toList _
 have hq3 : (⟨#[2, 0, 0]⟩ : ByteArray).toList = [2, 0, 0] := str_toList [2, 0, 0]
 clear hbs hdc hn1 hn2 ha1 ha2
 go_wp2_with (first
  | (refine wl_of (by simp [Region.wanted, yielded]) fun K hK => wp_str 28 9 (.tmp 57) rfl 5 Tryz.underlying28 Tryz.underlying5 Tryz.underlying9 d1.ad _ d1.cd rfl w11.heap.size [2, 0, 0] HBS.out.rd HBS.out.len (hK _ _ ?_)))
 have hb12 := (Below.refl w11.heap.size w11).alloc (Nat.le_refl _) (.cells #[.int .i64 0, .int .i64 1] 3)
 have hr12 := row_new w11 #[.int .i64 0, .int .i64 1] 3
 obtain ⟨w12, hw12⟩ : ∃ W, w11.alloc (.cells #[.int .i64 0, .int .i64 1] 3) = W := ⟨_, rfl⟩
 obtain ⟨gz, hgz⟩ : ∃ q, w11.heap.size = q := ⟨_, rfl⟩
 rw [hw12] at hb12 hr12 ⊢
 rw [hgz] at hr12 ⊢
 have hz12 : Zs w12 (some ⟨gz, 0, none⟩) 2 2 [0, 1] := by
  refine ⟨rd_of_addr (x := ⟨gz, 0, none⟩) hr12.lt fun i v hv => ?_, rfl, Nat.le_refl _, by rw [maxLen_eq]; omega, fun z hz => ?_⟩
  ·
   match i, hv with
   | 0, hv => simp [iv] at hv; subst hv; exact hr12.cellQ 0 _ rfl
   | 1, hv => simp [iv] at hv; subst hv; exact hr12.cellQ 1 _ rfl
   | i + 2, hv => simp at hv
  ·
   simp only [List.mem_cons, List.not_mem_nil, or_false] at hz
   rcases hz with rfl | rfl <;> omega
 have CS := sameZ_any A9 n9 c9 [0, 1] (some ⟨gz, 0, none⟩) 2 2 [0, 1] w12 (HZ11.out.keep hb12) hz12
 rw [decide_eq_true rfl] at CS
 unfold RetB at CS
 have CS := Lib.hid CS
 have HB12 := Lib.hid (bt HB3.out (bt HB8.out (bt HB11.out hb12)))
 clear hb12 hr12 hw12 hgz hz12
 (with_reducible refine CS.out.mono ?_)
 rintro e w13 ⟨rfl, hb13⟩
 have HB13 := Lib.hid (bt HB12.out hb13)
 clear hb13 CS
 go_wp2
 go_ret
 exact ⟨rfl, HB13.out⟩
end Go.Proofs.YteoledjllpgcbaaGreatDoor
