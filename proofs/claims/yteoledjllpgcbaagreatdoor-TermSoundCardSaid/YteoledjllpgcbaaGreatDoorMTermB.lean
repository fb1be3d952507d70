/- MTermB: several texts of this claim in one file. No statement of the seat is proved here. -/
import Derived.Test.YteoledjllpgcbaaGreatDoorMTermA
import Derived.Test.YteoledjllpgcbaaGreatDoorMClashA
import Derived.Test.YteoledjllpgcbaaGreatDoorMTreeB
namespace Go.Proofs.YteoledjllpgcbaaGreatDoor
set_option maxRecDepth 100000
set_option maxHeartbeats 64000000
set_option linter.unusedVariables false
open Go.RowKit
theorem nil_emp (a : List UInt8) : (str a).toList.isEmpty = decide (a = []) := by
 rw [str_toList]
 cases a <;> simp
def Dc.way1 (s : List UInt8) (x : Nat) (p : Hd.Pf) : Bool := decide (p.link.term = s) && (decide (x = 0) && decide (seal_ 2 p.docs = p.link.posts))
def Dc.way2 (s : List UInt8) (p : Hd.Pf) : Bool := decide (p.link.term < s) && ((decide (s < p.link.next) || decide (p.link.next = [])) && decide (p.docs.length = 0))
theorem way1_any (Ap : Option Addr) (np cp : Nat) (Ad : Option Addr) (nd cd : Nat) (p : Hd.Pf) (gs ge : Nat) (s : List UInt8) (x : Nat) (w : World) (hd : Bs w Ad nd cd p.docs) (hnd : nd ≤ 100000) (hs1 : gs < w.heap.size) (he1 : ge < w.heap.size) (hs : w.cell? ⟨gs, 0, none⟩ = some (sv s)) (he : w.cell? ⟨ge, 0, none⟩ = some (.int .i64 (x : Int))) (ht : Tabs w) :
  Calls Tryz.prog 94 #[pfv Ap np cp Ad nd cd p, .pointer (some ⟨gs, 0, none⟩), .pointer (some ⟨ge, 0, none⟩)] w (RetB (Dc.way1 s x p) w) := by
 obtain ⟨w0, hw0⟩ : ∃ W, w.alloc (.cells #[.int .i64 p.at_, sv p.link.term, sv p.link.next, sv p.link.posts, .slice Ap np cp, .slice Ad nd cd] 30) = W := ⟨_, rfl⟩
 have hb0 := (Below.refl w.heap.size w).alloc (Nat.le_refl _) (.cells #[.int .i64 p.at_, sv p.link.term, sv p.link.next, sv p.link.posts, .slice Ap np cp, .slice Ad nd cd] 30)
 have hr0 := row_new w #[.int .i64 p.at_, sv p.link.term, sv p.link.next, sv p.link.posts, .slice Ap np cp, .slice Ad nd cd] 30
 rw [hw0] at hb0 hr0
 have HW0 := Lib.hid hw0
 have HB0 := Lib.hid hb0
 have HR0 := Lib.hid hr0
 have HX := Lib.hid (fun (W : World) (hW : Below w0.heap.size w0 W) => hr0.belowS hW (Nat.le_refl _))
 have HS := Lib.hid (fun (W : World) (hW : Below w0.heap.size w0 W) => ((bt hb0 hW).cell (p := ⟨gs, 0, none⟩) hs1).trans hs)
 have HE := Lib.hid (fun (W : World) (hW : Below w0.heap.size w0 W) => ((bt hb0 hW).cell (p := ⟨ge, 0, none⟩) he1).trans he)
 obtain ⟨S, hS⟩ : ∃ S, seal_ 2 p.docs = S := ⟨_, rfl⟩
 have QP := Lib.hid (fun (W : World) (hW : Below w0.heap.size w0 W) => posts_any Ad nd cd p.docs W (hd.keep (bt hb0 hW)).rd hd.len hd.cap hd.max (by omega) (ht.below (bt hb0 hW)))
 unfold SealPost at QP
 rw [hS] at QP
 clear hw0 hb0 hr0 hs he hs1 he1 ht hd
 unfold pfv
 by_cases h1 : p.link.term = s
 ·
  have HA := Lib.hid h1
  by_cases h2 : x = 0
  ·
   have hxx : ((x : Int) == 0) = true := by rw [h2]; rfl
   have HB := Lib.hid hxx
   by_cases h3 : S = p.link.posts
   ·
    have HC := Lib.hid h3
    have HF := Lib.hid (show Dc.way1 s x p = true by unfold Dc.way1; rw [hS, decide_eq_true h1, decide_eq_true h2, decide_eq_true h3]; rfl)
    clear h1 h2 hxx h3
    go_enter Tryz.func94, Tryz.ntmps94
    go_upto_region 1 with fail
    rw [HW0.out]
    go_wp2_with fail
    refine Free.wp_free_l 19 (fun W => Below w0.heap.size w0 W) [Free.kc (.pointer (some ⟨w.heap.size, 1, none⟩)), Free.kc (.pointer (some ⟨w.heap.size, 1, none⟩)), Free.kc (sv p.link.term), Free.kc (sv s), Free.kc (.bool true), Free.kc (.bool true), Free.kc (.int .i64 (x : Int)), Free.kc (.bool true), Free.kc (.bool true), Free.kc (.bool true), Free.kc (.pointer (some ⟨w.heap.size, 5, none⟩)), Free.kc (.slice Ad nd cd), Free.kc (sv S), Free.kc (.pointer (some ⟨w.heap.size, 1, none⟩)), Free.kc (.pointer (some ⟨w.heap.size, 3, none⟩)), Free.kc (sv p.link.posts), Free.kc (.bool true), Free.kc (.bool true), Free.kc (.bool true)] (by kernel_rfl) (by kernel_rfl) (by decide) (Below.refl _ _).drew (fun w w' h g => bt h g) ?_ ?_
    ·
     iterate 19 refine Free.forall_succ ?_ ?_
     all_goals first | exact Free.forall_zero | (refine Free.op fun vals wq hC hd => ?_) | skip
     · exact d_field (cx := .pointer (some ⟨w.heap.size, 0, none⟩)) rfl (by kernel_rfl) (by go_simp) rfl
     · exact d_field (cx := .pointer (some ⟨w.heap.size, 1, none⟩)) rfl (Free.tr 0 hd) (by go_simp) rfl
     · exact Free.d_load rfl (Free.tr 1 hd) (by have hcc := (HX.out wq hC).cellQ 1 _ rfl; go_simp) rfl
     · exact Free.d_load (cx := .pointer (some ⟨gs, 0, none⟩)) rfl (by kernel_rfl) (by have hcc := HS.out wq hC; go_simp) rfl
     · exact Free.d_bin rfl (Free.tr 2 hd) (Free.tr 3 hd) (by go_simp) (by rw [run_eql_str 9, decide_eq_true HA.out]) rfl
     · exact Free.d_move rfl (Free.tr 4 hd) rfl
     · refine Free.og 5 10 true fun vals wq hC hd => ?_; exact Free.d_load (cx := .pointer (some ⟨ge, 0, none⟩)) rfl (by kernel_rfl) (by have hcc := HE.out wq hC; go_simp) rfl
     · refine Free.og 5 10 true fun vals wq hC hd => ?_; exact Free.d_bin rfl (Free.tr 6 hd) (show _ = (.int .i64 0 : Value) from rfl) (by go_simp) (by have hx := HB.out; go_simp) rfl
     · exact Free.d_pick rfl (Eq.trans (b := vals 5) (by kernel_rfl) (hd 5 (by kernel_rfl))) (Eq.trans (b := vals 7) (by kernel_rfl) (hd 7 (by kernel_rfl))) rfl
     · exact Free.d_move rfl (Free.tr 8 hd) rfl
     · refine Free.og 9 14 true fun vals wq hC hd => ?_; exact d_field (cx := .pointer (some ⟨w.heap.size, 0, none⟩)) rfl (by kernel_rfl) (by go_simp) rfl
     · refine Free.og 9 14 true fun vals wq hC hd => ?_; exact Free.d_load rfl (Free.tr 10 hd) (by have hcc := (HX.out wq hC).cellQ 5 _ rfl; go_simp) rfl
     · refine Free.og 9 14 true fun vals wq hC hd => ?_; exact Free.d_call Tryz.func95 (by kernel_rfl) (by kernel_rfl) rfl rfl (Free.arg1 (Free.tr 11 hd)) ((QP.out wq hC).mono fun e w2 h => ⟨_, h.1, rfl, h.2⟩)
     · refine Free.og 9 14 true fun vals wq hC hd => ?_; exact d_field (cx := .pointer (some ⟨w.heap.size, 0, none⟩)) rfl (by kernel_rfl) (by go_simp) rfl
     · refine Free.og 9 14 true fun vals wq hC hd => ?_; exact d_field (cx := .pointer (some ⟨w.heap.size, 1, none⟩)) rfl (Free.tr 13 hd) (by go_simp) rfl
     · refine Free.og 9 14 true fun vals wq hC hd => ?_; exact Free.d_load rfl (Free.tr 14 hd) (by have hcc := (HX.out wq hC).cellQ 3 _ rfl; go_simp) rfl
     · refine Free.og 9 14 true fun vals wq hC hd => ?_; exact Free.d_bin rfl (Free.tr 12 hd) (Free.tr 15 hd) (by go_simp) (by rw [run_eql_str 9, decide_eq_true HC.out]) rfl
     · exact Free.d_pick rfl (Eq.trans (b := vals 9) (by kernel_rfl) (hd 9 (by kernel_rfl))) (Eq.trans (b := vals 16) (by kernel_rfl) (hd 16 (by kernel_rfl))) rfl
     · exact Free.d_assign rfl (Free.tr 17 hd) rfl
    ·
     intro vals wq hC hd
     refine Free.go hd ?_
     rintro _ rfl _ rfl _ rfl _ rfl _ rfl _ rfl _ rfl _ rfl _ rfl _ rfl _ rfl _ rfl _ rfl _ rfl _ rfl _ rfl _ rfl _ rfl _ rfl
     simp only [Free.All, Free.fl, Act.put, Free.sa, Free.s0, Free.s1]
     refine wpList_nil ?_
     clear hd
     have HQ := Lib.hid (bt HB0.out hC)
     clear hC
     go_wp2
     go_ret
     exact ⟨by rw [HF.out]; rfl, HQ.out⟩
   ·
    have HC := Lib.hid h3
    have HF := Lib.hid (show Dc.way1 s x p = false by unfold Dc.way1; rw [hS, decide_eq_true h1, decide_eq_true h2, decide_eq_false h3]; rfl)
    clear h1 h2 hxx h3
    go_enter Tryz.func94, Tryz.ntmps94
    go_upto_region 1 with fail
    rw [HW0.out]
    go_wp2_with fail
    refine Free.wp_free_l 19 (fun W => Below w0.heap.size w0 W) [Free.kc (.pointer (some ⟨w.heap.size, 1, none⟩)), Free.kc (.pointer (some ⟨w.heap.size, 1, none⟩)), Free.kc (sv p.link.term), Free.kc (sv s), Free.kc (.bool true), Free.kc (.bool true), Free.kc (.int .i64 (x : Int)), Free.kc (.bool true), Free.kc (.bool true), Free.kc (.bool true), Free.kc (.pointer (some ⟨w.heap.size, 5, none⟩)), Free.kc (.slice Ad nd cd), Free.kc (sv S), Free.kc (.pointer (some ⟨w.heap.size, 1, none⟩)), Free.kc (.pointer (some ⟨w.heap.size, 3, none⟩)), Free.kc (sv p.link.posts), Free.kc (.bool false), Free.kc (.bool false), Free.kc (.bool false)] (by kernel_rfl) (by kernel_rfl) (by decide) (Below.refl _ _).drew (fun w w' h g => bt h g) ?_ ?_
    ·
     iterate 19 refine Free.forall_succ ?_ ?_
     all_goals first | exact Free.forall_zero | (refine Free.op fun vals wq hC hd => ?_) | skip
     · exact d_field (cx := .pointer (some ⟨w.heap.size, 0, none⟩)) rfl (by kernel_rfl) (by go_simp) rfl
     · exact d_field (cx := .pointer (some ⟨w.heap.size, 1, none⟩)) rfl (Free.tr 0 hd) (by go_simp) rfl
     · exact Free.d_load rfl (Free.tr 1 hd) (by have hcc := (HX.out wq hC).cellQ 1 _ rfl; go_simp) rfl
     · exact Free.d_load (cx := .pointer (some ⟨gs, 0, none⟩)) rfl (by kernel_rfl) (by have hcc := HS.out wq hC; go_simp) rfl
     · exact Free.d_bin rfl (Free.tr 2 hd) (Free.tr 3 hd) (by go_simp) (by rw [run_eql_str 9, decide_eq_true HA.out]) rfl
     · exact Free.d_move rfl (Free.tr 4 hd) rfl
     · refine Free.og 5 10 true fun vals wq hC hd => ?_; exact Free.d_load (cx := .pointer (some ⟨ge, 0, none⟩)) rfl (by kernel_rfl) (by have hcc := HE.out wq hC; go_simp) rfl
     · refine Free.og 5 10 true fun vals wq hC hd => ?_; exact Free.d_bin rfl (Free.tr 6 hd) (show _ = (.int .i64 0 : Value) from rfl) (by go_simp) (by have hx := HB.out; go_simp) rfl
     · exact Free.d_pick rfl (Eq.trans (b := vals 5) (by kernel_rfl) (hd 5 (by kernel_rfl))) (Eq.trans (b := vals 7) (by kernel_rfl) (hd 7 (by kernel_rfl))) rfl
     · exact Free.d_move rfl (Free.tr 8 hd) rfl
     · refine Free.og 9 14 true fun vals wq hC hd => ?_; exact d_field (cx := .pointer (some ⟨w.heap.size, 0, none⟩)) rfl (by kernel_rfl) (by go_simp) rfl
     · refine Free.og 9 14 true fun vals wq hC hd => ?_; exact Free.d_load rfl (Free.tr 10 hd) (by have hcc := (HX.out wq hC).cellQ 5 _ rfl; go_simp) rfl
     · refine Free.og 9 14 true fun vals wq hC hd => ?_; exact Free.d_call Tryz.func95 (by kernel_rfl) (by kernel_rfl) rfl rfl (Free.arg1 (Free.tr 11 hd)) ((QP.out wq hC).mono fun e w2 h => ⟨_, h.1, rfl, h.2⟩)
     · refine Free.og 9 14 true fun vals wq hC hd => ?_; exact d_field (cx := .pointer (some ⟨w.heap.size, 0, none⟩)) rfl (by kernel_rfl) (by go_simp) rfl
     · refine Free.og 9 14 true fun vals wq hC hd => ?_; exact d_field (cx := .pointer (some ⟨w.heap.size, 1, none⟩)) rfl (Free.tr 13 hd) (by go_simp) rfl
     · refine Free.og 9 14 true fun vals wq hC hd => ?_; exact Free.d_load rfl (Free.tr 14 hd) (by have hcc := (HX.out wq hC).cellQ 3 _ rfl; go_simp) rfl
     · refine Free.og 9 14 true fun vals wq hC hd => ?_; exact Free.d_bin rfl (Free.tr 12 hd) (Free.tr 15 hd) (by go_simp) (by rw [run_eql_str 9, decide_eq_false HC.out]) rfl
     · exact Free.d_pick rfl (Eq.trans (b := vals 9) (by kernel_rfl) (hd 9 (by kernel_rfl))) (Eq.trans (b := vals 16) (by kernel_rfl) (hd 16 (by kernel_rfl))) rfl
     · exact Free.d_assign rfl (Free.tr 17 hd) rfl
    ·
     intro vals wq hC hd
     refine Free.go hd ?_
     rintro _ rfl _ rfl _ rfl _ rfl _ rfl _ rfl _ rfl _ rfl _ rfl _ rfl _ rfl _ rfl _ rfl _ rfl _ rfl _ rfl _ rfl _ rfl _ rfl
     simp only [Free.All, Free.fl, Act.put, Free.sa, Free.s0, Free.s1]
     refine wpList_nil ?_
     clear hd
     have HQ := Lib.hid (bt HB0.out hC)
     clear hC
     go_wp2
     go_ret
     exact ⟨by rw [HF.out]; rfl, HQ.out⟩
  ·
   have hxx : ((x : Int) == 0) = false := beq_eq_false_iff_ne.2 (by omega)
   have HB := Lib.hid hxx
   have HF := Lib.hid (show Dc.way1 s x p = false by unfold Dc.way1; rw [hS, decide_eq_true h1, decide_eq_false h2]; rfl)
   clear h1 h2 hxx
   go_enter Tryz.func94, Tryz.ntmps94
   go_upto_region 1 with fail
   rw [HW0.out]
   go_wp2_with fail
   refine Free.wp_free_l 19 (fun W => Below w0.heap.size w0 W) [Free.kc (.pointer (some ⟨w.heap.size, 1, none⟩)), Free.kc (.pointer (some ⟨w.heap.size, 1, none⟩)), Free.kc (sv p.link.term), Free.kc (sv s), Free.kc (.bool true), Free.kc (.bool true), Free.kc (.int .i64 (x : Int)), Free.kc (.bool false), Free.kc (.bool false), Free.kc (.bool false), Free.kc (undef), Free.kc (undef), Free.kc (undef), Free.kc (undef), Free.kc (undef), Free.kc (undef), Free.kc (undef), Free.kc (.bool false), Free.kc (.bool false)] (by kernel_rfl) (by kernel_rfl) (by decide) (Below.refl _ _).drew (fun w w' h g => bt h g) ?_ ?_
   ·
    iterate 19 refine Free.forall_succ ?_ ?_
    all_goals first | exact Free.forall_zero | (refine Free.op fun vals wq hC hd => ?_) | skip
    · exact d_field (cx := .pointer (some ⟨w.heap.size, 0, none⟩)) rfl (by kernel_rfl) (by go_simp) rfl
    · exact d_field (cx := .pointer (some ⟨w.heap.size, 1, none⟩)) rfl (Free.tr 0 hd) (by go_simp) rfl
    · exact Free.d_load rfl (Free.tr 1 hd) (by have hcc := (HX.out wq hC).cellQ 1 _ rfl; go_simp) rfl
    · exact Free.d_load (cx := .pointer (some ⟨gs, 0, none⟩)) rfl (by kernel_rfl) (by have hcc := HS.out wq hC; go_simp) rfl
    · exact Free.d_bin rfl (Free.tr 2 hd) (Free.tr 3 hd) (by go_simp) (by rw [run_eql_str 9, decide_eq_true HA.out]) rfl
    · exact Free.d_move rfl (Free.tr 4 hd) rfl
    · refine Free.og 5 10 true fun vals wq hC hd => ?_; exact Free.d_load (cx := .pointer (some ⟨ge, 0, none⟩)) rfl (by kernel_rfl) (by have hcc := HE.out wq hC; go_simp) rfl
    · refine Free.og 5 10 true fun vals wq hC hd => ?_; exact Free.d_bin rfl (Free.tr 6 hd) (show _ = (.int .i64 0 : Value) from rfl) (by go_simp) (by have hx := HB.out; go_simp) rfl
    · exact Free.d_pick rfl (Eq.trans (b := vals 5) (by kernel_rfl) (hd 5 (by kernel_rfl))) (Eq.trans (b := vals 7) (by kernel_rfl) (hd 7 (by kernel_rfl))) rfl
    · exact Free.d_move rfl (Free.tr 8 hd) rfl
    · exact Free.skl 9 14 true
    · exact Free.skl 9 14 true
    · exact Free.skl 9 14 true
    · exact Free.skl 9 14 true
    · exact Free.skl 9 14 true
    · exact Free.skl 9 14 true
    · exact Free.skl 9 14 true
    · exact Free.d_pick rfl (Eq.trans (b := vals 9) (by kernel_rfl) (hd 9 (by kernel_rfl))) rfl rfl
    · exact Free.d_assign rfl (Free.tr 17 hd) rfl
   ·
    intro vals wq hC hd
    refine Free.go hd ?_
    rintro _ rfl _ rfl _ rfl _ rfl _ rfl _ rfl _ rfl _ rfl _ rfl _ rfl _ rfl _ rfl _ rfl _ rfl _ rfl _ rfl _ rfl _ rfl _ rfl
    simp only [Free.All, Free.fl, Act.put, Free.sa, Free.s0, Free.s1]
    refine wpList_nil ?_
    clear hd
    have HQ := Lib.hid (bt HB0.out hC)
    clear hC
    go_wp2
    go_ret
    exact ⟨by rw [HF.out]; rfl, HQ.out⟩
 ·
  have HA := Lib.hid h1
  have HF := Lib.hid (show Dc.way1 s x p = false by unfold Dc.way1; rw [hS, decide_eq_false h1]; rfl)
  clear h1
  go_enter Tryz.func94, Tryz.ntmps94
  go_upto_region 1 with fail
  rw [HW0.out]
  go_wp2_with fail
  refine Free.wp_free_l 19 (fun W => Below w0.heap.size w0 W) [Free.kc (.pointer (some ⟨w.heap.size, 1, none⟩)), Free.kc (.pointer (some ⟨w.heap.size, 1, none⟩)), Free.kc (sv p.link.term), Free.kc (sv s), Free.kc (.bool false), Free.kc (.bool false), Free.kc (undef), Free.kc (undef), Free.kc (.bool false), Free.kc (.bool false), Free.kc (undef), Free.kc (undef), Free.kc (undef), Free.kc (undef), Free.kc (undef), Free.kc (undef), Free.kc (undef), Free.kc (.bool false), Free.kc (.bool false)] (by kernel_rfl) (by kernel_rfl) (by decide) (Below.refl _ _).drew (fun w w' h g => bt h g) ?_ ?_
  ·
   iterate 19 refine Free.forall_succ ?_ ?_
   all_goals first | exact Free.forall_zero | (refine Free.op fun vals wq hC hd => ?_) | skip
   · exact d_field (cx := .pointer (some ⟨w.heap.size, 0, none⟩)) rfl (by kernel_rfl) (by go_simp) rfl
   · exact d_field (cx := .pointer (some ⟨w.heap.size, 1, none⟩)) rfl (Free.tr 0 hd) (by go_simp) rfl
   · exact Free.d_load rfl (Free.tr 1 hd) (by have hcc := (HX.out wq hC).cellQ 1 _ rfl; go_simp) rfl
   · exact Free.d_load (cx := .pointer (some ⟨gs, 0, none⟩)) rfl (by kernel_rfl) (by have hcc := HS.out wq hC; go_simp) rfl
   · exact Free.d_bin rfl (Free.tr 2 hd) (Free.tr 3 hd) (by go_simp) (by rw [run_eql_str 9, decide_eq_false HA.out]) rfl
   · exact Free.d_move rfl (Free.tr 4 hd) rfl
   · exact Free.skl 5 10 true
   · exact Free.skl 5 10 true
   · exact Free.d_pick rfl (Eq.trans (b := vals 5) (by kernel_rfl) (hd 5 (by kernel_rfl))) rfl rfl
   · exact Free.d_move rfl (Free.tr 8 hd) rfl
   · exact Free.skl 9 14 true
   · exact Free.skl 9 14 true
   · exact Free.skl 9 14 true
   · exact Free.skl 9 14 true
   · exact Free.skl 9 14 true
   · exact Free.skl 9 14 true
   · exact Free.skl 9 14 true
   · exact Free.d_pick rfl (Eq.trans (b := vals 9) (by kernel_rfl) (hd 9 (by kernel_rfl))) rfl rfl
   · exact Free.d_assign rfl (Free.tr 17 hd) rfl
  ·
   intro vals wq hC hd
   refine Free.go hd ?_
   rintro _ rfl _ rfl _ rfl _ rfl _ rfl _ rfl _ rfl _ rfl _ rfl _ rfl _ rfl _ rfl _ rfl _ rfl _ rfl _ rfl _ rfl _ rfl _ rfl
   simp only [Free.All, Free.fl, Act.put, Free.sa, Free.s0, Free.s1]
   refine wpList_nil ?_
   clear hd
   have HQ := Lib.hid (bt HB0.out hC)
   clear hC
   go_wp2
   go_ret
   exact ⟨by rw [HF.out]; rfl, HQ.out⟩
theorem way2_any (Ap : Option Addr) (np cp : Nat) (Ad : Option Addr) (nd cd : Nat) (p : Hd.Pf) (gs : Nat) (s : List UInt8) (w : World) (hd : p.docs.length = nd) (hs1 : gs < w.heap.size) (hs : w.cell? ⟨gs, 0, none⟩ = some (sv s)) :
  Calls Tryz.prog 96 #[pfv Ap np cp Ad nd cd p, .pointer (some ⟨gs, 0, none⟩)] w (RetB (Dc.way2 s p) w) := by
 obtain ⟨w0, hw0⟩ : ∃ W, w.alloc (.cells #[.int .i64 p.at_, sv p.link.term, sv p.link.next, sv p.link.posts, .slice Ap np cp, .slice Ad nd cd] 30) = W := ⟨_, rfl⟩
 have hb0 := (Below.refl w.heap.size w).alloc (Nat.le_refl _) (.cells #[.int .i64 p.at_, sv p.link.term, sv p.link.next, sv p.link.posts, .slice Ap np cp, .slice Ad nd cd] 30)
 have hr0 := row_new w #[.int .i64 p.at_, sv p.link.term, sv p.link.next, sv p.link.posts, .slice Ap np cp, .slice Ad nd cd] 30
 rw [hw0] at hb0 hr0
 have HW0 := Lib.hid hw0
 have HB0 := Lib.hid hb0
 have HR0 := Lib.hid hr0
 have HX := Lib.hid (fun (W : World) (hW : Below w0.heap.size w0 W) => hr0.belowS hW (Nat.le_refl _))
 have x0 := hr0.cellQ 1 _ rfl
 have x1 := hr0.cellQ 2 _ rfl
 have x2 := hr0.cellQ 5 _ rfl
 have x3 := (hb0.cell (p := ⟨gs, 0, none⟩) hs1).trans hs
 clear hw0 hb0 hr0 hs hs1
 unfold pfv
 have lt1 := strLt p.link.term s
 have nl := nil_emp p.link.next
 by_cases h1 : p.link.term < s
 ·
  rw [decide_eq_true h1] at lt1
  by_cases h2 : s < p.link.next
  ·
   obtain ⟨o1, o2⟩ := ord_gt h2
   by_cases h3 : nd = 0
   ·
    have a1 : ((nd : Int) == 0) = true := by rw [h3]; rfl
    have HF := Lib.hid (show Dc.way2 s p = true by unfold Dc.way2; rw [hd, decide_eq_true h1, decide_eq_true h2, decide_eq_true h3]; rfl)
    clear h1 h2 h3 hd
    go_enter Tryz.func96, Tryz.ntmps96
    go_upto_region 1 with fail
    rw [HW0.out]
    go_wp2
    go_ret
    exact ⟨by rw [HF.out]; rfl, HB0.out⟩
   ·
    have a1 : ((nd : Int) == 0) = false := beq_eq_false_iff_ne.2 (by omega)
    have a2 : ¬ (nd : Int) = 0 := by omega
    have HF := Lib.hid (show Dc.way2 s p = false by unfold Dc.way2; rw [hd, decide_eq_true h1, decide_eq_true h2, decide_eq_false h3]; rfl)
    clear h1 h2 h3 hd
    go_enter Tryz.func96, Tryz.ntmps96
    go_upto_region 1 with fail
    rw [HW0.out]
    go_wp2
    go_ret
    exact ⟨by rw [HF.out]; rfl, HB0.out⟩
  ·
   rcases Dc.lt_tri p.link.next s with g | g | g
   ·
    obtain ⟨o1, o2⟩ := ord_lt g
    clear g
    by_cases h4 : p.link.next = []
    ·
     rw [decide_eq_true h4] at nl
     by_cases h3 : nd = 0
     ·
      have a1 : ((nd : Int) == 0) = true := by rw [h3]; rfl
      have HF := Lib.hid (show Dc.way2 s p = true by unfold Dc.way2; rw [hd, decide_eq_true h1, decide_eq_false h2, decide_eq_true h3, decide_eq_true h4]; rfl)
      clear h1 h2 h3 h4 hd
      go_enter Tryz.func96, Tryz.ntmps96
      go_upto_region 1 with fail
      rw [HW0.out]
      go_wp2
      go_ret
      exact ⟨by rw [HF.out]; rfl, HB0.out⟩
     ·
      have a1 : ((nd : Int) == 0) = false := beq_eq_false_iff_ne.2 (by omega)
      have a2 : ¬ (nd : Int) = 0 := by omega
      have HF := Lib.hid (show Dc.way2 s p = false by unfold Dc.way2; rw [hd, decide_eq_true h1, decide_eq_false h2, decide_eq_false h3, decide_eq_true h4]; rfl)
      clear h1 h2 h3 h4 hd
      go_enter Tryz.func96, Tryz.ntmps96
      go_upto_region 1 with fail
      rw [HW0.out]
      go_wp2
      go_ret
      exact ⟨by rw [HF.out]; rfl, HB0.out⟩
    ·
     rw [decide_eq_false h4] at nl
     have HF := Lib.hid (show Dc.way2 s p = false by unfold Dc.way2; rw [hd, decide_eq_true h1, decide_eq_false h2, decide_eq_false h4]; rfl)
     clear h1 h2 h4 hd
     go_enter Tryz.func96, Tryz.ntmps96
     go_upto_region 1 with fail
     rw [HW0.out]
     go_wp2
     go_ret
     exact ⟨by rw [HF.out]; rfl, HB0.out⟩
   ·
    obtain ⟨o1, o2⟩ := (show Op.bytesLess (str p.link.next).toList (str s).toList = false ∧ ((str p.link.next).toList == (str s).toList) = true by rw [g]; exact ord_eq s)
    clear g
    by_cases h4 : p.link.next = []
    ·
     rw [decide_eq_true h4] at nl
     by_cases h3 : nd = 0
     ·
      have a1 : ((nd : Int) == 0) = true := by rw [h3]; rfl
      have HF := Lib.hid (show Dc.way2 s p = true by unfold Dc.way2; rw [hd, decide_eq_true h1, decide_eq_false h2, decide_eq_true h3, decide_eq_true h4]; rfl)
      clear h1 h2 h3 h4 hd
      go_enter Tryz.func96, Tryz.ntmps96
      go_upto_region 1 with fail
      rw [HW0.out]
      go_wp2
      go_ret
      exact ⟨by rw [HF.out]; rfl, HB0.out⟩
     ·
      have a1 : ((nd : Int) == 0) = false := beq_eq_false_iff_ne.2 (by omega)
      have a2 : ¬ (nd : Int) = 0 := by omega
      have HF := Lib.hid (show Dc.way2 s p = false by unfold Dc.way2; rw [hd, decide_eq_true h1, decide_eq_false h2, decide_eq_false h3, decide_eq_true h4]; rfl)
      clear h1 h2 h3 h4 hd
      go_enter Tryz.func96, Tryz.ntmps96
      go_upto_region 1 with fail
      rw [HW0.out]
      go_wp2
      go_ret
      exact ⟨by rw [HF.out]; rfl, HB0.out⟩
    ·
     rw [decide_eq_false h4] at nl
     have HF := Lib.hid (show Dc.way2 s p = false by unfold Dc.way2; rw [hd, decide_eq_true h1, decide_eq_false h2, decide_eq_false h4]; rfl)
     clear h1 h2 h4 hd
     go_enter Tryz.func96, Tryz.ntmps96
     go_upto_region 1 with fail
     rw [HW0.out]
     go_wp2
     go_ret
     exact ⟨by rw [HF.out]; rfl, HB0.out⟩
   · exact absurd g h2
 ·
  rw [decide_eq_false h1] at lt1
  have HF := Lib.hid (show Dc.way2 s p = false by unfold Dc.way2; rw [hd, decide_eq_false h1]; rfl)
  clear h1 hd
  go_enter Tryz.func96, Tryz.ntmps96
  go_upto_region 1 with fail
  rw [HW0.out]
  go_wp2
  go_ret
  exact ⟨by rw [HF.out]; rfl, HB0.out⟩
structure WayF (w : World) (v a : Value) (r : Bool) : Prop where
 ex : ∃ (f : FuncId) (caps : Array Value) (fn : Func), v = .func (.func f) #[] caps ∧ Tryz.prog.funcs[f]? = some fn ∧ (fn.name == "runtime.NumGoroutine") = false ∧ fn.body.isNone = false ∧ ∀ W, Below w.heap.size w W → Calls Tryz.prog f (#[a] ++ caps) W (RetB r W)
def Dc.rdX : Except Nat (List Int) → Nat
 | .ok _ => 0
 | .error x => x
def RdZ (w : World) (A : Option Addr) (n c : Nat) : Except Nat (List Int) → Prop
 | .ok zs => Zs w A n c zs
 | .error x => x ≠ 0
def WaysPost (a : Value) (s : List UInt8) (p : Hd.Pf) (w : World) (e : Ending) (w' : World) : Prop := ∃ g v1 v2 A n c, e = .returned (.slice (some ⟨g, 0, none⟩) 2 2) ∧ Row w' g #[v1, .slice A n c, v2, .slice none 0 0] 94 ∧ WayF w' v1 a (Dc.way1 s (Dc.rdX (Post.read p.docs)) p) ∧ WayF w' v2 a (Dc.way2 s p) ∧ RdZ w' A n c (Post.read p.docs) ∧ Below w.heap.size w w'
theorem RdZ.keep {w w' : World} {A : Option Addr} {n c : Nat} {r : Except Nat (List Int)} (h : RdZ w A n c r) (hb : Below w.heap.size w w') : RdZ w' A n c r := by
 cases r with
 | ok zs => exact Zs.keep h hb
 | error x => exact h
theorem readPost_un {l : List UInt8} {w w' : World} {e : Ending} (h : ReadPost l w e w') : ∃ A n c, e = .returned (.tuple #[.slice A n c, .int .i64 (Dc.rdX (Post.read l) : Int)]) ∧ RdZ w' A n c (Post.read l) ∧ Below w.heap.size w w' := by
 obtain ⟨h1, h2⟩ := h
 cases hr : Post.read l with
 | ok zs =>
  rw [hr] at h1
  obtain ⟨A, n, c, he, ho⟩ := h1
  exact ⟨A, n, c, he, ho.zs, h2⟩
 | error x =>
  rw [hr] at h1
  exact ⟨none, 0, 0, h1.1, (show x ≠ 0 from by have := h1.2; omega), h2⟩
theorem tways_any (Ap : Option Addr) (np cp : Nat) (Ad : Option Addr) (nd cd : Nat) (p : Hd.Pf) (s : List UInt8) (w : World) (hd : Bs w Ad nd cd p.docs) (hnd : nd ≤ 100000) (ht : Tabs w) :
  Calls Tryz.prog 48 #[sv s, pfv Ap np cp Ad nd cd p] w (WaysPost (pfv Ap np cp Ad nd cd p) s p w) := by
 obtain ⟨gs, hgs⟩ : ∃ g, w.heap.size = g := ⟨_, rfl⟩
 obtain ⟨w1, hw1⟩ : ∃ W, w.alloc (.cells #[sv s] 9) = W := ⟨_, rfl⟩
 have hb1 := (Below.refl w.heap.size w).alloc (Nat.le_refl _) (.cells #[sv s] 9)
 have hr1 := row_new w #[sv s] 9
 have hz1 : w1.heap.size = gs + 1 := by rw [← hw1, ← hgs]; unfold World.alloc; simp
 rw [hw1] at hb1 hr1
 rw [hgs] at hr1
 obtain ⟨w2, hw2⟩ : ∃ W, w1.alloc (.cells #[.int .i64 p.at_, sv p.link.term, sv p.link.next, sv p.link.posts, .slice Ap np cp, .slice Ad nd cd] 30) = W := ⟨_, rfl⟩
 have hb12 := (Below.refl w1.heap.size w1).alloc (Nat.le_refl _) (.cells #[.int .i64 p.at_, sv p.link.term, sv p.link.next, sv p.link.posts, .slice Ap np cp, .slice Ad nd cd] 30)
 have hr2 := row_new w1 #[.int .i64 p.at_, sv p.link.term, sv p.link.next, sv p.link.posts, .slice Ap np cp, .slice Ad nd cd] 30
 rw [hw2] at hb12 hr2
 rw [hz1] at hr2
 have HW := Lib.hid (And.intro hw1 hw2)
 have HB2 := Lib.hid (bt hb1 hb12)
 have HS2 := Lib.hid (hr1.belowS hb12 (Nat.le_refl _))
 have HP2 := Lib.hid hr2
 have CR := Lib.hid (read_any Ad nd cd p.docs w2 (hd.keep (bt hb1 hb12)) (by omega))
 have HD := Lib.hid hd
 have HT := Lib.hid ht
 have HGS := Lib.hid hgs
 have y5 := hr2.cellQ 5 _ rfl
 clear hw1 hw2 hb1 hb12 hr1 hr2 hz1 hd ht
 unfold pfv
 go_enter Tryz.func48, Tryz.ntmps48
 go_upto_region 1 with fail
 rw [HW.out.1, HW.out.2]
 clear hgs
 go_wp2_with fail
 (with_reducible refine CR.out.mono ?_)
 rintro e w3 hpost
 obtain ⟨A3, n3, c3, rfl, hz3, hb3⟩ := readPost_un hpost
 have HZ3 := Lib.hid hz3
 have HB3 := Lib.hid (bt HB2.out hb3)
 have HS3 := Lib.hid (HS2.out.belowS hb3 (Nat.le_refl _))
 clear hpost hz3 hb3 CR y5
 obtain ⟨x, hx⟩ : ∃ x, Dc.rdX (Post.read p.docs) = x := ⟨_, rfl⟩
 rw [hx]
 have HX := Lib.hid hx
 clear hx
 go_wp2
 go_ret
 have s4 : (w3.alloc (.cells #[.int .i64 (x : Int)] 31)).heap.size = w3.heap.size + 1 := by unfold World.alloc; simp
 have r4 := row_new w3 #[.int .i64 (x : Int)] 31
 have b34 := (Below.refl w3.heap.size w3).alloc (Nat.le_refl _) (.cells #[.int .i64 (x : Int)] 31)
 have r5 := row_new (w3.alloc (.cells #[.int .i64 (x : Int)] 31)) #[(.func (.func 94) #[] #[.pointer (some ⟨gs, 0, none⟩), .pointer (some ⟨w3.heap.size, 0, none⟩)]), .slice A3 n3 c3, (.func (.func 96) #[] #[.pointer (some ⟨gs, 0, none⟩)]), .slice none 0 0] 94
 have b45 : Below (w3.alloc (.cells #[.int .i64 (x : Int)] 31)).heap.size (w3.alloc (.cells #[.int .i64 (x : Int)] 31)) ((w3.alloc (.cells #[.int .i64 (x : Int)] 31)).alloc (.cells #[(.func (.func 94) #[] #[.pointer (some ⟨gs, 0, none⟩), .pointer (some ⟨w3.heap.size, 0, none⟩)]), .slice A3 n3 c3, (.func (.func 96) #[] #[.pointer (some ⟨gs, 0, none⟩)]), .slice none 0 0] 94)) := (Below.refl _ _).alloc (Nat.le_refl _) _
 rw [s4] at r5
 have r4' := r4.belowS b45 (Nat.le_refl _)
 have b35 := bt b34 b45
 clear r4 b34 b45 s4
 obtain ⟨w5, hw5⟩ : ∃ W, (w3.alloc (.cells #[.int .i64 (x : Int)] 31)).alloc (.cells #[(.func (.func 94) #[] #[.pointer (some ⟨gs, 0, none⟩), .pointer (some ⟨w3.heap.size, 0, none⟩)]), .slice A3 n3 c3, (.func (.func 96) #[] #[.pointer (some ⟨gs, 0, none⟩)]), .slice none 0 0] 94) = W := ⟨_, rfl⟩
 rw [hw5] at r5 r4' b35 ⊢
 clear hw5
 have HB5 := Lib.hid (bt HB3.out b35)
 have HS5 := HS3.out.belowS b35 (Nat.le_refl _)
 have s0 := HS5.cellQ 0 _ rfl
 have e0 := r4'.cellQ 0 _ rfl
 refine ⟨w3.heap.size + 1, _, _, A3, n3, c3, rfl, r5, ⟨_, _, _, rfl, Tryz.func94, by kernel_rfl, by kernel_rfl, fun W hW => ?_⟩, ⟨_, _, _, rfl, Tryz.func96, by kernel_rfl, by kernel_rfl, fun W hW => ?_⟩, HZ3.out.keep b35, HB5.out⟩
 ·
  rw [HX.out]
  exact way1_any Ap np cp Ad nd cd p gs w3.heap.size s x W (HD.out.keep (bt HB5.out hW)) hnd (Nat.lt_of_lt_of_le HS5.lt hW.size) (Nat.lt_of_lt_of_le r4'.lt hW.size) ((hW.cell (p := ⟨gs, 0, none⟩) HS5.lt).trans s0) ((hW.cell (p := ⟨w3.heap.size, 0, none⟩) r4'.lt).trans e0) (HT.out.below (bt HB5.out hW))
 · exact way2_any Ap np cp Ad nd cd p gs s W HD.out.len (Nat.lt_of_lt_of_le HS5.lt hW.size) ((hW.cell (p := ⟨gs, 0, none⟩) HS5.lt).trans s0)
def Dc.clT (d : List UInt8) (n : Int) (p : Hd.Pf) : List UInt8 := if Dc.fit n p then tclimb d p.at_.toNat n.toNat p.path else []
def Dc.clX (n : Int) (p : Hd.Pf) : Nat := if Dc.fit n p then 0 else if 0 ≤ p.at_ ∧ p.at_ < n then 6 else 1
theorem Dc.fit_iff {n : Int} {p : Hd.Pf} : Dc.fit n p = true ↔ 0 ≤ p.at_ ∧ p.at_ < n ∧ Tree.all32 p.path = true ∧ p.path.length = (Tree.sides p.at_.toNat n.toNat).length := by
 unfold Dc.fit
 rw [Bool.and_eq_true, Bool.and_eq_true, Bool.and_eq_true, decide_eq_true_iff, decide_eq_true_iff, decide_eq_true_iff]
def ClPost (d : List UInt8) (n : Int) (p : Hd.Pf) (w : World) (e : Ending) (w' : World) : Prop := e = .returned (.tuple #[sv (Dc.clT d n p), .int .i64 (Dc.clX n p : Int)]) ∧ Below w.heap.size w w'
theorem climb_all (d : List UInt8) (n : Int) (p : Hd.Pf) (A : Option Addr) (m c : Nat) (w : World) (hd : d.length = 32) (hn1 : 1 ≤ n) (hn2 : n ≤ 1099511627776) (ha : -9223372036854775808 ≤ p.at_ ∧ p.at_ ≤ 9223372036854775807) (h : Ss w A m c p.path) (hwf : ∀ s ∈ p.path, s.length ≤ maxLen) (ht : Tabs w) :
  Calls Tryz.prog 46 #[sv d, .int .i64 p.at_, .int .i64 n, .slice A m c] w (ClPost d n p w) := by
 unfold ClPost
 by_cases hr : 0 ≤ p.at_ ∧ p.at_ < n
 ·
  obtain ⟨i, hi⟩ := Int.eq_ofNat_of_zero_le hr.1
  obtain ⟨k, hk⟩ := Int.eq_ofNat_of_zero_le (show 0 ≤ n by omega)
  have hik : i < k := by have := hr.2; rw [hi, hk] at this; omega
  by_cases hf : Dc.fit n p = true
  ·
   obtain ⟨_, _, h3, h4⟩ := Dc.fit_iff.1 hf
   have e1 : Dc.clT d n p = tclimb d i k p.path := by unfold Dc.clT; rw [if_pos hf, hi, hk]; rfl
   have e2 : Dc.clX n p = 0 := by unfold Dc.clX; rw [if_pos hf]
   rw [e1, e2, hi, hk]
   refine climb_yes d i k A m c p.path w hd hik (by omega) h (all32_of h3) ht ?_
   rw [hi, hk, Int.toNat_natCast, Int.toNat_natCast] at h4
   rw [← h.len]; exact h4
  ·
   have e1 : Dc.clT d n p = [] := by unfold Dc.clT; rw [if_neg hf]
   have e2 : Dc.clX n p = 6 := by unfold Dc.clX; rw [if_neg hf, if_pos hr]
   rw [e1, e2, hi, hk]
   refine climb_proof d i k A m c p.path w hd hik (by omega) h hwf ?_
   refine Classical.byContradiction fun hno => hf (Dc.fit_iff.2 ⟨hr.1, hr.2, ?_, ?_⟩)
   ·
    cases h32 : Tree.all32 p.path with
    | true => rfl
    | false => exact absurd (.inr h32) hno
   ·
    rw [hi, hk, Int.toNat_natCast, Int.toNat_natCast, h.len]
    exact Classical.byContradiction fun h5 => hno (.inl h5)
 ·
  have hf : ¬ Dc.fit n p = true := fun h => hr ⟨(Dc.fit_iff.1 h).1, (Dc.fit_iff.1 h).2.1⟩
  have e1 : Dc.clT d n p = [] := by unfold Dc.clT; rw [if_neg hf]
  have e2 : Dc.clX n p = 1 := by unfold Dc.clX; rw [if_neg hf, if_neg hr]
  rw [e1, e2]
  exact (climb_arg d p.at_ n A m c w (by rw [hd, maxLen_eq]; omega) ha.1 ha.2 (by omega) (by omega) (by omega)).mono fun e w' h => ⟨h.1, by rw [← h.2]; exact Below.refl _ _⟩
theorem Dc.way1_says {s : List UInt8} {p : Hd.Pf} {w : World} {A : Option Addr} {n c : Nat} (hz : RdZ w A n c (Post.read p.docs)) (h : Dc.way1 s (Dc.rdX (Post.read p.docs)) p = true) : ∃ zs, Dc.says s p = some zs ∧ Zs w A n c zs := by
 unfold Dc.way1 at h
 rw [Bool.and_eq_true, Bool.and_eq_true, decide_eq_true_iff, decide_eq_true_iff, decide_eq_true_iff] at h
 obtain ⟨h1, h2, h3⟩ := h
 unfold Dc.says
 rw [if_pos h1]
 cases hr : Post.read p.docs with
 | ok zs =>
  rw [hr] at hz
  exact ⟨zs, by simp only; rw [if_pos h3], hz⟩
 | error x =>
  rw [hr] at hz h2
  exact absurd h2 hz
theorem Dc.way2_says {s : List UInt8} {p : Hd.Pf} (h : Dc.way2 s p = true) : Dc.says s p = some [] := by
 unfold Dc.way2 at h
 rw [Bool.and_eq_true, Bool.and_eq_true, Bool.or_eq_true, decide_eq_true_iff, decide_eq_true_iff, decide_eq_true_iff, decide_eq_true_iff] at h
 unfold Dc.says
 rw [if_neg (fun e => Dc.lt_ne h.1 e), if_pos ⟨h.1, h.2.1, List.eq_nil_of_length_eq_zero h.2.2⟩]
theorem Dc.ways_none {s : List UInt8} {p : Hd.Pf} (h1 : Dc.way1 s (Dc.rdX (Post.read p.docs)) p = false) (h2 : Dc.way2 s p = false) : Dc.says s p = none := by
 unfold Dc.says
 split
 ·
  rename_i ht
  cases hr : Post.read p.docs with
  | error x => rfl
  | ok zs =>
   rw [hr] at h1
   simp only
   split
   ·
    rename_i hq
    exfalso
    unfold Dc.way1 at h1
    rw [decide_eq_true ht, decide_eq_true hq] at h1
    revert h1
    simp [Dc.rdX]
   · rfl
 ·
  split
  ·
   rename_i hw
   exfalso
   unfold Dc.way2 at h2
   rw [decide_eq_true hw.1, hw.2.2] at h2
   rcases hw.2.1 with g | g
   · rw [decide_eq_true g] at h2; revert h2; simp
   · rw [decide_eq_true g] at h2; revert h2; simp
  · rfl
def CheckPost (r : Option (List Int)) (w : World) (e : Ending) (w' : World) : Prop := Below w.heap.size w w' ∧ match r with
 | some m => ∃ A n c, e = .returned (.tuple #[.slice A n c, .int .i64 0]) ∧ Zs w' A n c m
 | none => e = .returned (.tuple #[.slice none 0 0, .int .i64 6])
theorem Dc.fairC_iff {root : List UInt8} {n : Int} {s : List UInt8} : Dc.fairC root n s = true ↔ root.length = 32 ∧ 1 ≤ n ∧ n ≤ 1099511627776 ∧ Tok.right s = true := by
 unfold Dc.fairC
 rw [Bool.and_eq_true, Bool.and_eq_true, Bool.and_eq_true, decide_eq_true_iff, decide_eq_true_iff, decide_eq_true_iff]
theorem tcheck_arg (root : List UInt8) (n : Int) (s : List UInt8) (Ap : Option Addr) (np cp : Nat) (Ad : Option Addr) (nd cd : Nat) (p : Hd.Pf) (w : World) (hrl : root.length ≤ 200) (hsl : s.length ≤ 200) (hn : -9223372036854775808 ≤ n ∧ n ≤ 9223372036854775807) (ht : Ut.UTabs w) (hf : Dc.fairC root n s = false) :
  Calls Tryz.prog 16 #[sv root, .int .i64 n, sv s, pfv Ap np cp Ad nd cd p] w fun e w' => e = .returned (.tuple #[.slice none 0 0, .int .i64 1]) ∧ Below w.heap.size w w' := by
 obtain ⟨w0, hw0⟩ : ∃ W, w.alloc (.cells #[.int .i64 p.at_, sv p.link.term, sv p.link.next, sv p.link.posts, .slice Ap np cp, .slice Ad nd cd] 30) = W := ⟨_, rfl⟩
 have hb0 := (Below.refl w.heap.size w).alloc (Nat.le_refl _) (.cells #[.int .i64 p.at_, sv p.link.term, sv p.link.next, sv p.link.posts, .slice Ap np cp, .slice Ad nd cd] 30)
 have hr0 := row_new w #[.int .i64 p.at_, sv p.link.term, sv p.link.next, sv p.link.posts, .slice Ap np cp, .slice Ad nd cd] 30
 rw [hw0] at hb0 hr0
 have HW0 := Lib.hid hw0
 have HB0 := Lib.hid hb0
 have HR0 := Lib.hid hr0
 have CT := fun (W : World) (hW : Below w.heap.size w W) => tright_any s W (Nat.le_trans hsl (by decide)) (ht.below hW)
 have zr := strLen root
 obtain ⟨q, hq⟩ : ∃ q, root.length = q := ⟨_, rfl⟩
 rw [hq] at zr hrl
 have HQ := Lib.hid hq
 clear hw0 hb0 hr0 hq ht hsl
 unfold pfv
 by_cases h1 : q = 32
 ·
  have a1 : ((q : Int) == 32) = true := by rw [h1]; rfl
  have a2 : (q : Int) = 32 := by omega
  by_cases h2 : n < 1
  ·
   clear CT hf h1
   go_enter Tryz.func16, Tryz.ntmps16
   go_upto_region 1 with fail
   rw [HW0.out]
   go_wp2
   go_ret2
   exact ⟨rfl, HB0.out⟩
  ·
   by_cases h3 : 1099511627776 < n
   ·
    clear CT hf h1
    go_enter Tryz.func16, Tryz.ntmps16
    go_upto_region 1 with fail
    rw [HW0.out]
    go_wp2
    go_ret2
    exact ⟨rfl, HB0.out⟩
   ·
    have hk : Tok.right s = false := by
     cases hk : Tok.right s with
     | false => rfl
     | true => rw [Dc.fairC_iff.2 ⟨by rw [HQ.out]; exact h1, by omega, by omega, hk⟩] at hf; cases hf
    rw [hk] at CT
    unfold TokPost at CT
    have CT := Lib.hid CT
    clear hf hk h1
    go_enter Tryz.func16, Tryz.ntmps16
    go_upto_region 1 with fail
    rw [HW0.out]
    go_wp2_with fail
    (with_reducible refine (CT.out _ HB0.out).mono ?_)
    rintro e w1 ⟨rfl, hb1⟩
    have HB1 := Lib.hid (bt HB0.out hb1)
    clear hb1
    go_wp2
    go_ret2
    exact ⟨rfl, HB1.out⟩
 ·
  have a1 : ((q : Int) == 32) = false := beq_eq_false_iff_ne.2 (by omega)
  have a2 : ¬ (q : Int) = 32 := by omega
  clear CT hf h1
  go_enter Tryz.func16, Tryz.ntmps16
  go_upto_region 1 with fail
  rw [HW0.out]
  go_wp2
  go_ret2
  exact ⟨rfl, HB0.out⟩
theorem tcheck_any (root : List UInt8) (n : Int) (s : List UInt8) (Ap : Option Addr) (np cp : Nat) (Ad : Option Addr) (nd cd : Nat) (p : Hd.Pf) (w : World) (hsl : s.length ≤ 200) (hp : Ss w Ap np cp p.path) (hpw : ∀ d ∈ p.path, d.length ≤ maxLen) (hd : Bs w Ad nd cd p.docs) (hnd : nd ≤ 100000) (hat : -9223372036854775808 ≤ p.at_ ∧ p.at_ ≤ 9223372036854775807) (ht : Ut.UTabs w) (htt : Tabs w) (hf : Dc.fairC root n s = true) :
  Calls Tryz.prog 16 #[sv root, .int .i64 n, sv s, pfv Ap np cp Ad nd cd p] w (CheckPost (Dc.check root n s p) w) := by
 obtain ⟨w0, hw0⟩ : ∃ W, w.alloc (.cells #[.int .i64 p.at_, sv p.link.term, sv p.link.next, sv p.link.posts, .slice Ap np cp, .slice Ad nd cd] 30) = W := ⟨_, rfl⟩
 have hb0 := (Below.refl w.heap.size w).alloc (Nat.le_refl _) (.cells #[.int .i64 p.at_, sv p.link.term, sv p.link.next, sv p.link.posts, .slice Ap np cp, .slice Ad nd cd] 30)
 have hr0 := row_new w #[.int .i64 p.at_, sv p.link.term, sv p.link.next, sv p.link.posts, .slice Ap np cp, .slice Ad nd cd] 30
 rw [hw0] at hb0 hr0
 have HW0 := Lib.hid hw0
 have HB0 := Lib.hid hb0
 have HR0 := Lib.hid hr0
 obtain ⟨f1, f2, f3, f4⟩ := Dc.fairC_iff.1 hf
 have CT := tright_any s w0 (Nat.le_trans hsl (by decide)) (ht.below hb0)
 rw [f4] at CT
 unfold TokPost at CT
 have CT := Lib.hid CT
 have zr := strLen root
 rw [f1] at zr
 have g1 : ¬ n < 1 := by omega
 have g2 : ¬ 1099511627776 < n := by omega
 have HP := Lib.hid hp
 have HPW := Lib.hid hpw
 have HD := Lib.hid hd
 have HT := Lib.hid htt
 have HX := Lib.hid (fun (W : World) (hW : Below w0.heap.size w0 W) => hr0.belowS hW (Nat.le_refl _))
 have CW := fun (W : World) => wlink_any p.link W
 have CWY := Lib.hid (fun (W : World) (hW : Below w.heap.size w W) => tways_any Ap np cp Ad nd cd p s W (hd.keep hW) hnd (htt.below hW))
 unfold pfv WaysPost at CWY
 unfold Hd.Lk.wr at CW
 clear hw0 hb0 hr0 hf hp hpw hd ht htt f1 f4 hsl
 unfold pfv
 cases hmy : p.link.may with
 | false =>
  have HF := Lib.hid (show Dc.check root n s p = none by unfold Dc.check Dc.climbs; rw [hmy]; rfl)
  rw [hmy] at CW
  simp only [Bool.false_eq_true, if_false] at CW
  unfold WPost at CW
  have CW := Lib.hid CW
  clear hmy
  go_enter Tryz.func16, Tryz.ntmps16
  go_upto_region 1 with fail
  rw [HW0.out]
  go_wp2_with fail
  (with_reducible refine CT.out.mono ?_)
  rintro e w1 ⟨rfl, hb1⟩
  have HB1 := Lib.hid hb1
  have hr1 := HX.out w1 hb1
  have x1 := hr1.cellQ 1 _ rfl
  have x2 := hr1.cellQ 2 _ rfl
  have x3 := hr1.cellQ 3 _ rfl
  clear hb1 hr1 CT
  go_wp2_with fail
  (with_reducible refine (CW.out w1).mono ?_)
  rintro e w2 ⟨rfl, hb2⟩
  have HB2 := Lib.hid (bt HB0.out (bt HB1.out hb2))
  clear hb2 CW
  go_wp2
  go_ret2
  rw [HF.out]
  exact ⟨HB2.out, rfl⟩
 | true =>
  rw [hmy] at CW
  simp only [if_true] at CW
  unfold WPost at CW
  have CW := Lib.hid CW
  have HBL := Lib.hid (Hd.Lk.bytes_le hmy)
  obtain ⟨tt, htt2⟩ : ∃ t, Dc.clT (seal_ 0 p.link.bytes) n p = t := ⟨_, rfl⟩
  obtain ⟨xx, hxx⟩ : ∃ x, Dc.clX n p = x := ⟨_, rfl⟩
  obtain ⟨sd, hsd⟩ : ∃ x, seal_ 0 p.link.bytes = x := ⟨_, rfl⟩
  have CC := fun (W : World) (hW : Below w.heap.size w W) => climb_all (seal_ 0 p.link.bytes) n p Ap np cp W (seal_len _ _) f2 f3 hat (HP.out.keep hW) HPW.out (HT.out.below hW)
  unfold ClPost at CC
  rw [htt2, hxx, hsd] at CC
  have CC := Lib.hid CC
  have CL := fun (A : Option Addr) (m c : Nat) (W : World) (h : Bs W A m c p.link.bytes) (hW : Below w.heap.size w W) => leaf_any A m c p.link.bytes W h.rd h.len h.cap h.max (by have a := h.len; have b := HBL.out; omega) (HT.out.below hW)
  unfold SealPost at CL
  rw [hsd] at CL
  have CL := Lib.hid CL
  have HSD := Lib.hid (And.intro htt2 (And.intro hxx hsd))
  have HMY := Lib.hid hmy
  clear htt2 hxx hsd hmy
  go_enter Tryz.func16, Tryz.ntmps16
  go_upto_region 1 with fail
  rw [HW0.out]
  go_wp2_with fail
  (with_reducible refine CT.out.mono ?_)
  rintro e w1 ⟨rfl, hb1⟩
  have HB1 := Lib.hid hb1
  have hr1 := HX.out w1 hb1
  have x1 := hr1.cellQ 1 _ rfl
  have x2 := hr1.cellQ 2 _ rfl
  have x3 := hr1.cellQ 3 _ rfl
  clear hb1 hr1 CT
  go_wp2_with fail
  (with_reducible refine (CW.out w1).mono ?_)
  rintro e w2 ⟨A2, n2, c2, rfl, ho2, hb2⟩
  have HO2 := Lib.hid ho2
  have HB2 := Lib.hid (bt HB1.out hb2)
  clear hb2 CW ho2 x1 x2 x3
  go_upto_region 6 with fail
  refine Free.wp_free_l 13 (fun W => Below w2.heap.size w2 W) [Free.kc (.slice A2 n2 c2), Free.kc (sv sd), Free.kc (.pointer (some ⟨w.heap.size, 0, none⟩)), Free.kc (.int .i64 p.at_), Free.kc (.int .i64 n), Free.kc (.pointer (some ⟨w.heap.size, 4, none⟩)), Free.kc (.slice Ap np cp), Free.kc (.tuple #[sv tt, .int .i64 (xx : Int)]), Free.kc (.tuple #[sv tt, .int .i64 (xx : Int)]), Free.kc (sv tt), Free.kc (.int .i64 (xx : Int)), Free.kc (sv tt), Free.kc (.int .i64 (xx : Int))] (by kernel_rfl) (by kernel_rfl) (by decide) (Below.refl _ _).drew (fun w w' h g => bt h g) ?_ ?_
  ·
   iterate 13 refine Free.forall_succ ?_ ?_
   all_goals first | exact Free.forall_zero | (refine Free.op fun vals wq hC hd => ?_) | skip
   · exact Free.dm
   · exact Free.d_call Tryz.func47 (by kernel_rfl) (by kernel_rfl) rfl rfl (Free.arg1 (Free.tr 0 hd)) ((CL.out A2 n2 c2 wq (HO2.out.keep hC).bs (bt HB0.out (bt HB2.out hC))).mono fun e w2 h => ⟨_, h.1, rfl, h.2⟩)
   · exact d_field (cx := .pointer (some ⟨w.heap.size, 0, none⟩)) rfl (by kernel_rfl) (by go_simp) rfl
   · exact Free.d_load rfl (Free.tr 2 hd) (by have hcc := (HX.out wq (bt HB2.out hC)).cellQ 0 _ rfl; go_simp) rfl
   · exact Free.dm
   · exact d_field (cx := .pointer (some ⟨w.heap.size, 0, none⟩)) rfl (by kernel_rfl) (by go_simp) rfl
   · exact Free.d_load rfl (Free.tr 5 hd) (by have hcc := (HX.out wq (bt HB2.out hC)).cellQ 4 _ rfl; go_simp) rfl
   · exact Free.d_call Tryz.func46 (by kernel_rfl) (by kernel_rfl) rfl rfl (arg4' (Free.tr 1 hd) (Free.tr 3 hd) (Free.tr 4 hd) (Free.tr 6 hd)) ((CC.out wq (bt HB0.out (bt HB2.out hC))).mono fun e w2 h => ⟨_, h.1, rfl, h.2⟩)
   · exact Free.d_move rfl (Free.tr 7 hd) rfl
   · exact Free.d_extract rfl (Free.tr 8 hd) (by first | rfl | (go_simp; done)) rfl
   · exact Free.d_extract rfl (Free.tr 8 hd) (by first | rfl | (go_simp; done)) rfl
   · exact Free.d_assign rfl (Free.tr 9 hd) rfl
   · exact Free.d_assign rfl (Free.tr 10 hd) rfl
  ·
   intro vals wq hC hd
   refine Free.go hd ?_
   rintro _ rfl _ rfl _ rfl _ rfl _ rfl _ rfl _ rfl _ rfl _ rfl _ rfl _ rfl _ rfl _ rfl
   simp only [Free.All, Free.fl, Act.put, Free.sa, Free.s0, Free.s1]
   refine wpList_nil ?_
   clear hd
   have HQ := Lib.hid (bt HB2.out hC)
   clear hC
   by_cases hx0 : xx = 0
   ·
    have hfit : Dc.fit n p = true := by
     cases hfit : Dc.fit n p with
     | true => rfl
     | false =>
      have := HSD.out.2.1
      unfold Dc.clX at this
      rw [hfit, hx0] at this
      simp only [Bool.false_eq_true, if_false] at this
      split at this <;> cases this
    have htc : tclimb (seal_ 0 p.link.bytes) p.at_.toNat n.toNat p.path = tt := by rw [← HSD.out.1]; unfold Dc.clT; rw [if_pos hfit]
    by_cases hroot : tt = root
    ·
     have hcl : Dc.check root n s p = Dc.says s p := by
      unfold Dc.check Dc.climbs
      rw [HMY.out, hfit, htc, decide_eq_true hroot]
      rfl
     have HCL := Lib.hid hcl
     have hs1 : ((str tt).toList == (str root).toList) = true := by rw [strEq]; exact decide_eq_true hroot
     clear hfit htc hcl hroot
     subst hx0
     go_upto_region 9 with fail
     clear hs1
     have hrq := HX.out wq HQ.out
     have x0 := hrq.cellQ 0 _ rfl
     have x1 := hrq.cellQ 1 _ rfl
     have x2 := hrq.cellQ 2 _ rfl
     have x3 := hrq.cellQ 3 _ rfl
     have x4 := hrq.cellQ 4 _ rfl
     have x5 := hrq.cellQ 5 _ rfl
     clear hrq
     go_wp2_with fail
     (with_reducible refine (CWY.out _ (bt HB0.out HQ.out)).mono ?_)
     rintro e w4 ⟨gw, v1, v2, A4, n4, c4, rfl, hr4, hf1, hf2, hz4, hb4⟩
     have HB4 := Lib.hid (bt HQ.out hb4)
     have HR4 := Lib.hid hr4
     have HF1 := Lib.hid hf1
     have HF2 := Lib.hid hf2
     have HZ4 := Lib.hid hz4
     clear hr4 hf1 hf2 hz4 hb4 CWY x0 x1 x2 x3 x4 x5
     go_wp2
     go_loopw [61] (fun vi wr => ∃ k : Nat, k ≤ 2 ∧ vi = .int .i64 (k : Int) ∧ Hid ((0 < k → Dc.way1 s (Dc.rdX (Post.read p.docs)) p = false) ∧ (1 < k → Dc.way2 s p = false) ∧ Below w4.heap.size w4 wr)) (fun vi _ => 2 - (intOf vi).toNat)
     case atStart => exact ⟨0, by omega, rfl, Lib.hid ⟨fun h => by omega, fun h => by omega, Below.refl _ _⟩⟩
     case round =>
      obtain ⟨k, hk, rfl, H⟩ := hrel
      rcases (show k = 0 ∨ k = 1 ∨ k = 2 by omega) with rfl | rfl | rfl
      ·
       have hk0 : (0 : Nat) = 0 := rfl
       have hr5 := HR4.out.belowS H.out.2.2 (Nat.le_refl _)
       have e0 := hr5.cellQ 0 _ rfl
       have e1 := hr5.cellQ 1 _ rfl
       clear hr5
       obtain ⟨f, caps, fn, hv, h1, h2, h3, h4⟩ := HF1.out.ex
       subst hv
       have HFN := Lib.hid (And.intro h1 (And.intro h2 h3))
       have HCC := Lib.hid h4
       clear h1 h2 h3 h4
       go_upto_region 12 with fail
       have hbx : Below wr.heap.size wr (wr.alloc (.cells #[(.func (.func f) #[] caps), .slice A4 n4 c4] 94)) := (Below.refl _ wr).alloc (Nat.le_refl _) _
       have hrx := row_new wr #[(.func (.func f) #[] caps), .slice A4 n4 c4] 94
       obtain ⟨wy, hwy⟩ : ∃ wy, wr.alloc (.cells #[(.func (.func f) #[] caps), .slice A4 n4 c4] 94) = wy := ⟨_, rfl⟩
       rw [hwy] at hbx hrx ⊢
       have HBY := Lib.hid (bt H.out.2.2 hbx)
       have HRX := Lib.hid hrx
       have y0 := hrx.cellQ 0 _ rfl
       clear hbx hrx hwy e0 e1
       have hrq := HX.out wy (bt HB4.out HBY.out)
       have x0 := hrq.cellQ 0 _ rfl
       have x1 := hrq.cellQ 1 _ rfl
       have x2 := hrq.cellQ 2 _ rfl
       have x3 := hrq.cellQ 3 _ rfl
       have x4 := hrq.cellQ 4 _ rfl
       have x5 := hrq.cellQ 5 _ rfl
       clear hrq
       have HC2 := HCC.out wy HBY.out
       unfold pfv RetB at HC2
       cases hw : Dc.way1 s (Dc.rdX (Post.read p.docs)) p with
       | true =>
        rw [hw] at HC2
        have HC2 := Lib.hid HC2
        obtain ⟨zs, hsay, hzs⟩ := Dc.way1_says HZ4.out hw
        have HSAY := Lib.hid hsay
        have HZS := Lib.hid hzs
        clear hsay hzs
        clear hw
        go_wp2_with (refine wl_callv' rfl rfl rfl HFN.out.1 HFN.out.2.1 HFN.out.2.2 rfl ?_)
        (with_reducible refine HC2.out.mono ?_)
        rintro e w6 ⟨rfl, hb6⟩
        refine ⟨_, rfl, ?_, hb6⟩
        try simp only [Act.put, List.setIfInBounds_toArray, List.set_cons_succ, List.set_cons_zero]
        have HB6 := Lib.hid (bt HBY.out hb6)
        have hr6 := HRX.out.belowS hb6 (Nat.le_refl _)
        have y1 := hr6.cellQ 1 _ rfl
        clear hb6 hr6 HC2 y0 x0 x1 x2 x3 x4 x5
        go_wp2
        go_ret2
        rw [HCL.out, HSAY.out]
        exact ⟨bt HB0.out (bt HB4.out HB6.out), A4, n4, c4, rfl, HZS.out.keep HB6.out⟩
       | false =>
        rw [hw] at HC2
        have HC2 := Lib.hid HC2
        have HW := Lib.hid hw
        clear hw
        go_wp2_with (refine wl_callv' rfl rfl rfl HFN.out.1 HFN.out.2.1 HFN.out.2.2 rfl ?_)
        (with_reducible refine HC2.out.mono ?_)
        rintro e w6 ⟨rfl, hb6⟩
        refine ⟨_, rfl, ?_, hb6⟩
        try simp only [Act.put, List.setIfInBounds_toArray, List.set_cons_succ, List.set_cons_zero]
        have HB6 := Lib.hid (bt HBY.out hb6)
        have hr6 := HRX.out.belowS hb6 (Nat.le_refl _)
        have y1 := hr6.cellQ 1 _ rfl
        clear hb6 hr6 HC2 y0 x0 x1 x2 x3 x4 x5
        go_wp2
        go_roundw
        case rel => exact ⟨1, by omega, by first | rfl | go_num, Lib.hid ⟨fun _ => HW.out, fun _ => (by omega), HB6.out⟩⟩
        case measure => first | (simp [intOf]; done) | (simp [intOf]; omega)
      ·
       have hk0 : (0 : Nat) = 0 := rfl
       have hr5 := HR4.out.belowS H.out.2.2 (Nat.le_refl _)
       have e0 := hr5.cellQ 2 _ rfl
       have e1 := hr5.cellQ 3 _ rfl
       clear hr5
       obtain ⟨f, caps, fn, hv, h1, h2, h3, h4⟩ := HF2.out.ex
       subst hv
       have HFN := Lib.hid (And.intro h1 (And.intro h2 h3))
       have HCC := Lib.hid h4
       clear h1 h2 h3 h4
       go_upto_region 12 with fail
       have hbx : Below wr.heap.size wr (wr.alloc (.cells #[(.func (.func f) #[] caps), .slice none 0 0] 94)) := (Below.refl _ wr).alloc (Nat.le_refl _) _
       have hrx := row_new wr #[(.func (.func f) #[] caps), .slice none 0 0] 94
       obtain ⟨wy, hwy⟩ : ∃ wy, wr.alloc (.cells #[(.func (.func f) #[] caps), .slice none 0 0] 94) = wy := ⟨_, rfl⟩
       rw [hwy] at hbx hrx ⊢
       have HBY := Lib.hid (bt H.out.2.2 hbx)
       have HRX := Lib.hid hrx
       have y0 := hrx.cellQ 0 _ rfl
       clear hbx hrx hwy e0 e1
       have hrq := HX.out wy (bt HB4.out HBY.out)
       have x0 := hrq.cellQ 0 _ rfl
       have x1 := hrq.cellQ 1 _ rfl
       have x2 := hrq.cellQ 2 _ rfl
       have x3 := hrq.cellQ 3 _ rfl
       have x4 := hrq.cellQ 4 _ rfl
       have x5 := hrq.cellQ 5 _ rfl
       clear hrq
       have HC2 := HCC.out wy HBY.out
       unfold pfv RetB at HC2
       cases hw : Dc.way2 s p with
       | true =>
        rw [hw] at HC2
        have HC2 := Lib.hid HC2
        have HSAY := Lib.hid (Dc.way2_says hw)
        clear hw
        go_wp2_with (refine wl_callv' rfl rfl rfl HFN.out.1 HFN.out.2.1 HFN.out.2.2 rfl ?_)
        (with_reducible refine HC2.out.mono ?_)
        rintro e w6 ⟨rfl, hb6⟩
        refine ⟨_, rfl, ?_, hb6⟩
        try simp only [Act.put, List.setIfInBounds_toArray, List.set_cons_succ, List.set_cons_zero]
        have HB6 := Lib.hid (bt HBY.out hb6)
        have hr6 := HRX.out.belowS hb6 (Nat.le_refl _)
        have y1 := hr6.cellQ 1 _ rfl
        clear hb6 hr6 HC2 y0 x0 x1 x2 x3 x4 x5
        go_wp2
        go_ret2
        rw [HCL.out, HSAY.out]
        exact ⟨bt HB0.out (bt HB4.out HB6.out), none, 0, 0, rfl, Zs.nil _⟩
       | false =>
        rw [hw] at HC2
        have HC2 := Lib.hid HC2
        have HW := Lib.hid hw
        clear hw
        go_wp2_with (refine wl_callv' rfl rfl rfl HFN.out.1 HFN.out.2.1 HFN.out.2.2 rfl ?_)
        (with_reducible refine HC2.out.mono ?_)
        rintro e w6 ⟨rfl, hb6⟩
        refine ⟨_, rfl, ?_, hb6⟩
        try simp only [Act.put, List.setIfInBounds_toArray, List.set_cons_succ, List.set_cons_zero]
        have HB6 := Lib.hid (bt HBY.out hb6)
        have hr6 := HRX.out.belowS hb6 (Nat.le_refl _)
        have y1 := hr6.cellQ 1 _ rfl
        clear hb6 hr6 HC2 y0 x0 x1 x2 x3 x4 x5
        go_wp2
        go_roundw
        case rel => exact ⟨2, by omega, by first | rfl | go_num, Lib.hid ⟨fun _ => H.out.1 (by omega), fun _ => HW.out, HB6.out⟩⟩
        case measure => first | (simp [intOf]; done) | (simp [intOf]; omega)
      ·
       have HN := Lib.hid (Dc.ways_none (H.out.1 (by omega)) (H.out.2.1 (by omega)))
       go_wp2
       go_ret2
       rw [HCL.out, HN.out]
       exact ⟨bt HB0.out (bt HB4.out H.out.2.2), rfl⟩
    ·
     have HN := Lib.hid (show Dc.check root n s p = none by
      unfold Dc.check Dc.climbs
      rw [HMY.out, hfit, htc, decide_eq_false hroot]
      rfl)
     have hs1 : ((str tt).toList == (str root).toList) = false := by rw [strEq]; exact decide_eq_false hroot
     clear hfit htc hroot
     subst hx0
     go_wp2
     go_ret2
     rw [HN.out]
     exact ⟨bt HB0.out HQ.out, rfl⟩
   ·
    have HN := Lib.hid (show Dc.check root n s p = none by
     have hfit : Dc.fit n p = false := by
      cases hfit : Dc.fit n p with
      | false => rfl
      | true =>
       have := HSD.out.2.1
       unfold Dc.clX at this
       rw [hfit] at this
       exact absurd this.symm hx0
     unfold Dc.check Dc.climbs
     rw [hfit]
     simp)
    have hb1 : ((xx : Int) == 0) = false := beq_eq_false_iff_ne.2 (by omega)
    have hb2 : ¬ (xx : Int) = 0 := by omega
    go_wp2
    go_ret2
    rw [HN.out]
    exact ⟨bt HB0.out HQ.out, rfl⟩
end Go.Proofs.YteoledjllpgcbaaGreatDoor
