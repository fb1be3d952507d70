/- TermSound: the walk of the law. -/
import Derived.Test.YteoledjllpgcbaaGreatDoorTermClashS
import Derived.Test.YteoledjllpgcbaaGreatDoorMTermC
namespace Go.Proofs.YteoledjllpgcbaaGreatDoor
set_option maxRecDepth 100000
set_option maxHeartbeats 64000000
set_option linter.unusedVariables false
open Go.RowKit
def Free.kCk (m : List Int) : Free.SV := ⟨fun v w => ∃ A n c, v = .tuple #[.slice A n c, .int .i64 0] ∧ Zs w A n c m, fun v w w' ⟨A, n, c, h1, h2⟩ g => ⟨A, n, c, h1, h2.keep g⟩⟩
def Free.kZ (m : List Int) : Free.SV := ⟨fun v w => ∃ A n c, v = .slice A n c ∧ Zs w A n c m, fun v w w' ⟨A, n, c, h1, h2⟩ g => ⟨A, n, c, h1, h2.keep g⟩⟩
theorem termsound_any (A : Option Addr) (n c : Nat) (L : List EnD) (s : List UInt8) (hsm : s.length ≤ maxLen) (d : PfD) (w : World) (hin : InEs w A n c L) (hip : InPf9 w d) (ht : Ut.UTabs w) (htt : Tabs w) : Calls Tryz.prog 6 #[.slice A n c, sv s, pfv d.ap d.np d.cp d.ad d.nd d.cd d.p] w (RetB true w) := by
 have KN := Lib.hid (fun (W : World) (hW : Below w.heap.size w W) => knows11_any W (ht.below hW) (htt.below hW))
 unfold Yes at KN
 obtain ⟨w0, hw0⟩ : ∃ W, w.alloc (.cells #[.int .i64 d.p.at_, sv d.p.link.term, sv d.p.link.next, sv d.p.link.posts, .slice d.ap d.np d.cp, .slice d.ad d.nd d.cd] 30) = W := ⟨_, rfl⟩
 have hb0 := (Below.refl w.heap.size w).alloc (Nat.le_refl _) (.cells #[.int .i64 d.p.at_, sv d.p.link.term, sv d.p.link.next, sv d.p.link.posts, .slice d.ap d.np d.cp, .slice d.ad d.nd d.cd] 30)
 have hr0 := row_new w #[.int .i64 d.p.at_, sv d.p.link.term, sv d.p.link.next, sv d.p.link.posts, .slice d.ap d.np d.cp, .slice d.ad d.nd d.cd] 30
 rw [hw0] at hb0 hr0
 have HW0 := Lib.hid hw0
 have HB0 := Lib.hid hb0
 have HX := Lib.hid (fun (W : World) (hW : Below w0.heap.size w0 W) => hr0.belowS hW (Nat.le_refl _))
 have CG := great10_any A n c L w0 (hin.keep hb0)
 have CP := fun (W : World) (hW : Below w.heap.size w W) => great11_any d.ap d.np d.cp d.ad d.nd d.cd d.p W (hip.i.s.keep hW) hip.pl hip.i.b.len
 unfold RetB at CG CP
 unfold pfv at CP
 have zs := strLen s
 obtain ⟨q, hq⟩ : ∃ q, s.length = q := ⟨_, rfl⟩
 rw [hq] at zs hsm
 rw [maxLen_eq] at hsm
 clear hw0 hb0 hr0
 cases hg : Dc.great L with
 | true =>
  rw [hg] at CG
  clear hg hin hip ht htt hq CP
  have CG := Lib.hid CG
  unfold pfv
  go_enter Tryz.func6, Tryz.ntmps6
  go_upto_region 1 with fail
  rw [HW0.out]
  go_wp2_with fail
  (with_reducible refine CG.out.mono ?_)
  rintro e w1 ⟨rfl, hb1⟩
  have HZ1 := Lib.hid hb1
  have HB1 := Lib.hid (bt HB0.out hb1)
  clear hb1 CG
  go_wp2_with fail
  (with_reducible refine (KN.out _ HB1.out).mono ?_)
  rintro e wk ⟨rfl, hbk⟩
  have HBK := Lib.hid (bt HB1.out hbk)
  clear hbk
  go_wp2
  go_ret
  exact ⟨rfl, HBK.out⟩
 | false =>
  rw [hg] at CG
  have CG := Lib.hid CG
  cases hgp : Dc.greatP d.p with
  | true =>
   rw [hgp] at CP
   have CP := Lib.hid CP
   clear hg hgp hin hip ht htt hq
   unfold pfv
   go_enter Tryz.func6, Tryz.ntmps6
   go_upto_region 1 with fail
   rw [HW0.out]
   go_wp2_with fail
   (with_reducible refine CG.out.mono ?_)
   rintro e w1 ⟨rfl, hb1⟩
   have HZ1 := Lib.hid hb1
   have HB1 := Lib.hid (bt HB0.out hb1)
   clear hb1 CG
   have hrz := HX.out w1 HZ1.out
   have x0 := hrz.cellQ 0 _ rfl
   have x1 := hrz.cellQ 1 _ rfl
   have x2 := hrz.cellQ 2 _ rfl
   have x3 := hrz.cellQ 3 _ rfl
   have x4 := hrz.cellQ 4 _ rfl
   have x5 := hrz.cellQ 5 _ rfl
   clear hrz
   go_wp2_with fail
   (with_reducible refine (CP.out _ HB1.out).mono ?_)
   rintro e w2 ⟨rfl, hb2⟩
   have HZ2 := Lib.hid (bt HZ1.out hb2)
   have HB2 := Lib.hid (bt HB1.out hb2)
   clear hb2 CP x0 x1 x2 x3 x4 x5
   go_wp2_with fail
   (with_reducible refine (KN.out _ HB2.out).mono ?_)
   rintro e wk ⟨rfl, hbk⟩
   have HBK := Lib.hid (bt HB2.out hbk)
   clear hbk
   go_wp2
   go_ret
   exact ⟨rfl, HBK.out⟩
  | false =>
   rw [hgp] at CP
   have CP := Lib.hid CP
   by_cases h2 : 200 < q
   ·
    have a2 : (200 : Int) < (q : Int) := by omega
    clear hg hgp hin hip ht htt hq
    unfold pfv
    go_enter Tryz.func6, Tryz.ntmps6
    go_upto_region 1 with fail
    rw [HW0.out]
    go_wp2_with fail
    (with_reducible refine CG.out.mono ?_)
    rintro e w1 ⟨rfl, hb1⟩
    have HZ1 := Lib.hid hb1
    have HB1 := Lib.hid (bt HB0.out hb1)
    clear hb1 CG
    have hrz := HX.out w1 HZ1.out
    have x0 := hrz.cellQ 0 _ rfl
    have x1 := hrz.cellQ 1 _ rfl
    have x2 := hrz.cellQ 2 _ rfl
    have x3 := hrz.cellQ 3 _ rfl
    have x4 := hrz.cellQ 4 _ rfl
    have x5 := hrz.cellQ 5 _ rfl
    clear hrz
    go_wp2_with fail
    (with_reducible refine (CP.out _ HB1.out).mono ?_)
    rintro e w2 ⟨rfl, hb2⟩
    have HZ2 := Lib.hid (bt HZ1.out hb2)
    have HB2 := Lib.hid (bt HB1.out hb2)
    clear hb2 CP x0 x1 x2 x3 x4 x5
    go_wp2_with fail
    (with_reducible refine (KN.out _ HB2.out).mono ?_)
    rintro e wk ⟨rfl, hbk⟩
    have HBK := Lib.hid (bt HB2.out hbk)
    clear hbk
    go_wp2
    go_ret
    exact ⟨rfl, HBK.out⟩
   ·
    have a2 : ¬ (200 : Int) < (q : Int) := by omega
    have hsl : s.length ≤ 200 := by omega
    obtain ⟨hl, hln⟩ := Dc.great_no hg
    have hlen := hin.q.len
    have hn : n ≤ 100 := by omega
    obtain ⟨_, hdl, _, _⟩ := Dc.greatP_no hgp
    have hnd : d.nd ≤ 100000 := by rw [← hip.i.b.len]; omega
    have CR := fun (W : World) (hW : Below w.heap.size w W) => rdright_any A n c L W (hin.keep hW) (fun e he => (hl e he).1)
    unfold RetB at CR
    cases hr : Dc.right L with
    | false =>
     rw [hr] at CR
     have CR := Lib.hid CR
     clear hg hgp hin hip ht htt hq hsl hl hln hlen hn hdl hnd hr
     unfold pfv
     go_enter Tryz.func6, Tryz.ntmps6
     go_upto_region 1 with fail
     rw [HW0.out]
     go_wp2_with fail
     (with_reducible refine CG.out.mono ?_)
     rintro e w1 ⟨rfl, hb1⟩
     have HZ1 := Lib.hid hb1
     have HB1 := Lib.hid (bt HB0.out hb1)
     clear hb1 CG
     have hrz := HX.out w1 HZ1.out
     have x0 := hrz.cellQ 0 _ rfl
     have x1 := hrz.cellQ 1 _ rfl
     have x2 := hrz.cellQ 2 _ rfl
     have x3 := hrz.cellQ 3 _ rfl
     have x4 := hrz.cellQ 4 _ rfl
     have x5 := hrz.cellQ 5 _ rfl
     clear hrz
     go_wp2_with fail
     (with_reducible refine (CP.out _ HB1.out).mono ?_)
     rintro e w2 ⟨rfl, hb2⟩
     have HZ2 := Lib.hid (bt HZ1.out hb2)
     have HB2 := Lib.hid (bt HB1.out hb2)
     clear hb2 CP x0 x1 x2 x3 x4 x5
     go_wp2_with fail
     (with_reducible refine (CR.out _ HB2.out).mono ?_)
     rintro e w3 ⟨rfl, hb3⟩
     have HZ3 := Lib.hid (bt HZ2.out hb3)
     have HB3 := Lib.hid (bt HB2.out hb3)
     clear hb3 CR
     go_wp2_with fail
     (with_reducible refine (KN.out _ HB3.out).mono ?_)
     rintro e wk ⟨rfl, hbk⟩
     have HBK := Lib.hid (bt HB3.out hbk)
     clear hbk
     go_wp2
     go_ret
     exact ⟨rfl, HBK.out⟩
    | true =>
     rw [hr] at CR
     have CR := Lib.hid CR
     have CO := fun (W : World) (hW : Below w.heap.size w W) => rdroot_any A n c L W (hin.keep hW) (by omega) hr
     unfold StrPost at CO
     obtain ⟨rt, hrt⟩ : ∃ r, Dc.root L = r := ⟨_, rfl⟩
     rw [hrt] at CO
     have CO := Lib.hid CO
     obtain ⟨m, hm⟩ : ∃ m, n + 1 = m := ⟨_, rfl⟩
     have HM := Lib.hid hm
     have hmL : L.length + 1 = m := by omega
     have hrl : rt.length ≤ 200 := by rw [← hrt, troot_len (Cl.lv_all _)]; omega
     cases hk : Tok.right s with
     | false =>
      have CC := Lib.hid (fun (W : World) (hW : Below w.heap.size w W) => tcheck_arg rt (m : Int) s d.ap d.np d.cp d.ad d.nd d.cd d.p W hrl hsl (by omega) (ht.below hW) (by rw [← hrt]; exact Dc.root_unfair L _ hk))
      unfold pfv at CC
      have hnn : (n : Int) ≤ 100 := by omega
      clear hg hgp hin hip ht htt hq hsl hl hln hlen hn hdl hnd hr hrt hrl hmL hm hk
      unfold pfv
      go_enter Tryz.func6, Tryz.ntmps6
      go_upto_region 1 with fail
      rw [HW0.out]
      go_wp2_with fail
      (with_reducible refine CG.out.mono ?_)
      rintro e w1 ⟨rfl, hb1⟩
      have HZ1 := Lib.hid hb1
      have HB1 := Lib.hid (bt HB0.out hb1)
      clear hb1 CG
      have hrz := HX.out w1 HZ1.out
      have x0 := hrz.cellQ 0 _ rfl
      have x1 := hrz.cellQ 1 _ rfl
      have x2 := hrz.cellQ 2 _ rfl
      have x3 := hrz.cellQ 3 _ rfl
      have x4 := hrz.cellQ 4 _ rfl
      have x5 := hrz.cellQ 5 _ rfl
      clear hrz
      go_wp2_with fail
      (with_reducible refine (CP.out _ HB1.out).mono ?_)
      rintro e w2 ⟨rfl, hb2⟩
      have HZ2 := Lib.hid (bt HZ1.out hb2)
      have HB2 := Lib.hid (bt HB1.out hb2)
      clear hb2 CP x0 x1 x2 x3 x4 x5
      go_wp2_with fail
      (with_reducible refine (CR.out _ HB2.out).mono ?_)
      rintro e w3 ⟨rfl, hb3⟩
      have HZ3 := Lib.hid (bt HZ2.out hb3)
      have HB3 := Lib.hid (bt HB2.out hb3)
      clear hb3 CR
      go_upto_region 3 with fail
      go_wp2_with fail
      refine Free.wp_free_l 13 (fun W => Below w3.heap.size w3 W) [Free.kc (.slice A n c), Free.kc (sv rt), Free.kc (.slice A n c), Free.kc (.int .i64 (n : Int)), Free.kc (.int .i64 (m : Int)), Free.kc (sv s), Free.kc (.agg #[.int .i64 d.p.at_, sv d.p.link.term, sv d.p.link.next, sv d.p.link.posts, .slice d.ap d.np d.cp, .slice d.ad d.nd d.cd]), Free.kc (.tuple #[.slice none 0 0, .int .i64 1]), Free.kc (.tuple #[.slice none 0 0, .int .i64 1]), Free.kc (.slice none 0 0), Free.kc (.int .i64 1), Free.kc (.slice none 0 0), Free.kc (.int .i64 1)] (by kernel_rfl) (by kernel_rfl) (by decide) (Below.refl _ _).drew (fun w w' h g => bt h g) ?_ ?_
      ·
       iterate 13 refine Free.forall_succ ?_ ?_
       all_goals first | exact Free.forall_zero | (refine Free.op fun vals wq hC hd => ?_) | skip
       · exact Free.dm
       · exact Free.d_call Tryz.func23 (by kernel_rfl) (by kernel_rfl) rfl rfl (Free.arg1 (Free.tr 0 hd)) ((CO.out wq (bt HB3.out hC)).mono fun e w2 h => ⟨_, h.1, rfl, h.2⟩)
       · exact Free.dm
       · exact Free.d_len rfl Tryz.underlying22 (Free.tr 2 hd) rfl
       · exact Free.d_bin rfl (Free.tr 3 hd) (show _ = (.int .i64 1 : Value) from rfl) (by go_simp) (by have hmm := HM.out; first | (go_simp; done) | (go_simp; rw [IntWalk.i64_in _ (by omega)]; first | done | (congr 2; omega))) rfl
       · exact Free.dm
       · exact Free.d_load (cx := .pointer (some ⟨w.heap.size, 0, none⟩)) rfl (by kernel_rfl) (by have hc0 := (HX.out wq (bt HZ3.out hC)).cellQ 0 _ rfl; have hc1 := (HX.out wq (bt HZ3.out hC)).cellQ 1 _ rfl; have hc2 := (HX.out wq (bt HZ3.out hC)).cellQ 2 _ rfl; have hc3 := (HX.out wq (bt HZ3.out hC)).cellQ 3 _ rfl; have hc4 := (HX.out wq (bt HZ3.out hC)).cellQ 4 _ rfl; have hc5 := (HX.out wq (bt HZ3.out hC)).cellQ 5 _ rfl; go_simp) rfl
       · exact Free.d_call Tryz.func16 (by kernel_rfl) (by kernel_rfl) rfl rfl (arg4' (Free.tr 1 hd) (Free.tr 4 hd) (Free.tr 5 hd) (Free.tr 6 hd)) ((CC.out wq (bt HB3.out hC)).mono fun e w2 h => ⟨_, h.1, rfl, h.2⟩)
       · exact Free.d_move rfl (Free.tr 7 hd) rfl
       · exact Free.d_extract rfl (Free.tr 8 hd) (by first | rfl | (go_simp; done)) rfl
       · exact Free.d_extract rfl (Free.tr 8 hd) (by first | rfl | (go_simp; done)) rfl
       · exact Free.d_assign rfl (Free.tr 9 hd) rfl
       · exact Free.d_assign rfl (Free.tr 10 hd) rfl
      ·
       intro vals wq hC hd
       refine Free.go hd ?_
       rintro _ rfl _ rfl _ rfl _ rfl _ rfl _ rfl _ rfl _ rfl _ rfl _ rfl _ rfl _ rfl _ rfl
       simp only [Free.All, Free.fl, Act.put, Free.sa, Free.s0, Free.s1]
       refine wpList_nil ?_
       clear hd
       have HB4 := Lib.hid (bt HB3.out hC)
       clear hC
       go_wp2_with fail
       (with_reducible refine (KN.out _ HB4.out).mono ?_)
       rintro e wk ⟨rfl, hbk⟩
       have HBK := Lib.hid (bt HB4.out hbk)
       clear hbk
       go_wp2
       go_ret
       exact ⟨rfl, HBK.out⟩
     | true =>
      obtain ⟨ck, hck⟩ : ∃ r, Dc.check rt (m : Int) s d.p = r := ⟨_, rfl⟩
      have CC := fun (W : World) (hW : Below w.heap.size w W) => tcheck_any rt (m : Int) s d.ap d.np d.cp d.ad d.nd d.cd d.p W hsl (hip.i.s.keep hW) hip.pl (hip.i.b.keep hW) hnd hip.at_ (ht.below hW) (htt.below hW) (by rw [← hrt, ← hmL]; exact Dc.root_fair L (by omega) hk)
      rw [hck] at CC
      unfold pfv CheckPost at CC
      rw [← hrt, ← hmL] at hck
      have hnn : (n : Int) ≤ 100 := by omega
      cases ck with
      | none =>
       simp only at CC
       have CC := Lib.hid CC
       clear hg hgp hin hip ht htt hq hsl hl hln hlen hn hdl hnd hr hrt hrl hmL hm hk hck
       unfold pfv
       go_enter Tryz.func6, Tryz.ntmps6
       go_upto_region 1 with fail
       rw [HW0.out]
       go_wp2_with fail
       (with_reducible refine CG.out.mono ?_)
       rintro e w1 ⟨rfl, hb1⟩
       have HZ1 := Lib.hid hb1
       have HB1 := Lib.hid (bt HB0.out hb1)
       clear hb1 CG
       have hrz := HX.out w1 HZ1.out
       have x0 := hrz.cellQ 0 _ rfl
       have x1 := hrz.cellQ 1 _ rfl
       have x2 := hrz.cellQ 2 _ rfl
       have x3 := hrz.cellQ 3 _ rfl
       have x4 := hrz.cellQ 4 _ rfl
       have x5 := hrz.cellQ 5 _ rfl
       clear hrz
       go_wp2_with fail
       (with_reducible refine (CP.out _ HB1.out).mono ?_)
       rintro e w2 ⟨rfl, hb2⟩
       have HZ2 := Lib.hid (bt HZ1.out hb2)
       have HB2 := Lib.hid (bt HB1.out hb2)
       clear hb2 CP x0 x1 x2 x3 x4 x5
       go_wp2_with fail
       (with_reducible refine (CR.out _ HB2.out).mono ?_)
       rintro e w3 ⟨rfl, hb3⟩
       have HZ3 := Lib.hid (bt HZ2.out hb3)
       have HB3 := Lib.hid (bt HB2.out hb3)
       clear hb3 CR
       go_upto_region 3 with fail
       go_wp2_with fail
       refine Free.wp_free_l 13 (fun W => Below w3.heap.size w3 W) [Free.kc (.slice A n c), Free.kc (sv rt), Free.kc (.slice A n c), Free.kc (.int .i64 (n : Int)), Free.kc (.int .i64 (m : Int)), Free.kc (sv s), Free.kc (.agg #[.int .i64 d.p.at_, sv d.p.link.term, sv d.p.link.next, sv d.p.link.posts, .slice d.ap d.np d.cp, .slice d.ad d.nd d.cd]), Free.kc (.tuple #[.slice none 0 0, .int .i64 6]), Free.kc (.tuple #[.slice none 0 0, .int .i64 6]), Free.kc (.slice none 0 0), Free.kc (.int .i64 6), Free.kc (.slice none 0 0), Free.kc (.int .i64 6)] (by kernel_rfl) (by kernel_rfl) (by decide) (Below.refl _ _).drew (fun w w' h g => bt h g) ?_ ?_
       ·
        iterate 13 refine Free.forall_succ ?_ ?_
        all_goals first | exact Free.forall_zero | (refine Free.op fun vals wq hC hd => ?_) | skip
        · exact Free.dm
        · exact Free.d_call Tryz.func23 (by kernel_rfl) (by kernel_rfl) rfl rfl (Free.arg1 (Free.tr 0 hd)) ((CO.out wq (bt HB3.out hC)).mono fun e w2 h => ⟨_, h.1, rfl, h.2⟩)
        · exact Free.dm
        · exact Free.d_len rfl Tryz.underlying22 (Free.tr 2 hd) rfl
        · exact Free.d_bin rfl (Free.tr 3 hd) (show _ = (.int .i64 1 : Value) from rfl) (by go_simp) (by have hmm := HM.out; first | (go_simp; done) | (go_simp; rw [IntWalk.i64_in _ (by omega)]; first | done | (congr 2; omega))) rfl
        · exact Free.dm
        · exact Free.d_load (cx := .pointer (some ⟨w.heap.size, 0, none⟩)) rfl (by kernel_rfl) (by have hc0 := (HX.out wq (bt HZ3.out hC)).cellQ 0 _ rfl; have hc1 := (HX.out wq (bt HZ3.out hC)).cellQ 1 _ rfl; have hc2 := (HX.out wq (bt HZ3.out hC)).cellQ 2 _ rfl; have hc3 := (HX.out wq (bt HZ3.out hC)).cellQ 3 _ rfl; have hc4 := (HX.out wq (bt HZ3.out hC)).cellQ 4 _ rfl; have hc5 := (HX.out wq (bt HZ3.out hC)).cellQ 5 _ rfl; go_simp) rfl
        · exact Free.d_call Tryz.func16 (by kernel_rfl) (by kernel_rfl) rfl rfl (arg4' (Free.tr 1 hd) (Free.tr 4 hd) (Free.tr 5 hd) (Free.tr 6 hd)) ((CC.out wq (bt HB3.out hC)).mono fun e w2 h => ⟨_, h.2, rfl, h.1⟩)
        · exact Free.d_move rfl (Free.tr 7 hd) rfl
        · exact Free.d_extract rfl (Free.tr 8 hd) (by first | rfl | (go_simp; done)) rfl
        · exact Free.d_extract rfl (Free.tr 8 hd) (by first | rfl | (go_simp; done)) rfl
        · exact Free.d_assign rfl (Free.tr 9 hd) rfl
        · exact Free.d_assign rfl (Free.tr 10 hd) rfl
       ·
        intro vals wq hC hd
        refine Free.go hd ?_
        rintro _ rfl _ rfl _ rfl _ rfl _ rfl _ rfl _ rfl _ rfl _ rfl _ rfl _ rfl _ rfl _ rfl
        simp only [Free.All, Free.fl, Act.put, Free.sa, Free.s0, Free.s1]
        refine wpList_nil ?_
        clear hd
        have HB4 := Lib.hid (bt HB3.out hC)
        clear hC
        go_wp2_with fail
        (with_reducible refine (KN.out _ HB4.out).mono ?_)
        rintro e wk ⟨rfl, hbk⟩
        have HBK := Lib.hid (bt HB4.out hbk)
        clear hbk
        go_wp2
        go_ret
        exact ⟨rfl, HBK.out⟩
      | some mm =>
       simp only at CC
       have CC := Lib.hid CC
       have hgd := Dc.good_of hr
       have CD := Lib.hid (fun (W : World) (hW : Below w.heap.size w W) => rddocs_any A n c L s W (hin.keep hW) hl hr)
       unfold ZsPost at CD
       have CX := fun (W : World) (hW : Below w.heap.size w W) => tclash_any A n c L s d W (hin.keep hW) hl hn hsl (hip.i.keep hW) hip.pl hnd hip.at_ (ht.below hW) (htt.below hW)
       by_cases hdd : mm = Dc.docs L s
       ·
        have HDD := Lib.hid hdd
        clear CX hgd
        clear hg hgp hin hip ht htt hq hsl hl hln hlen hn hdl hnd hr hrt hrl hmL hm hk hck hdd
        unfold pfv
        go_enter Tryz.func6, Tryz.ntmps6
        go_upto_region 1 with fail
        rw [HW0.out]
        go_wp2_with fail
        (with_reducible refine CG.out.mono ?_)
        rintro e w1 ⟨rfl, hb1⟩
        have HZ1 := Lib.hid hb1
        have HB1 := Lib.hid (bt HB0.out hb1)
        clear hb1 CG
        have hrz := HX.out w1 HZ1.out
        have x0 := hrz.cellQ 0 _ rfl
        have x1 := hrz.cellQ 1 _ rfl
        have x2 := hrz.cellQ 2 _ rfl
        have x3 := hrz.cellQ 3 _ rfl
        have x4 := hrz.cellQ 4 _ rfl
        have x5 := hrz.cellQ 5 _ rfl
        clear hrz
        go_wp2_with fail
        (with_reducible refine (CP.out _ HB1.out).mono ?_)
        rintro e w2 ⟨rfl, hb2⟩
        have HZ2 := Lib.hid (bt HZ1.out hb2)
        have HB2 := Lib.hid (bt HB1.out hb2)
        clear hb2 CP x0 x1 x2 x3 x4 x5
        go_wp2_with fail
        (with_reducible refine (CR.out _ HB2.out).mono ?_)
        rintro e w3 ⟨rfl, hb3⟩
        have HZ3 := Lib.hid (bt HZ2.out hb3)
        have HB3 := Lib.hid (bt HB2.out hb3)
        clear hb3 CR
        go_upto_region 3 with fail
        go_wp2_with fail
        refine Free.wp_free_l 13 (fun W => Below w3.heap.size w3 W) [Free.kc (.slice A n c), Free.kc (sv rt), Free.kc (.slice A n c), Free.kc (.int .i64 (n : Int)), Free.kc (.int .i64 (m : Int)), Free.kc (sv s), Free.kc (.agg #[.int .i64 d.p.at_, sv d.p.link.term, sv d.p.link.next, sv d.p.link.posts, .slice d.ap d.np d.cp, .slice d.ad d.nd d.cd]), Free.kCk (mm), Free.kCk (mm), Free.kZ (mm), Free.kc (.int .i64 0), Free.kZ (mm), Free.kc (.int .i64 0)] (by kernel_rfl) (by kernel_rfl) (by decide) (Below.refl _ _).drew (fun w w' h g => bt h g) ?_ ?_
        ·
         iterate 13 refine Free.forall_succ ?_ ?_
         all_goals first | exact Free.forall_zero | (refine Free.op fun vals wq hC hd => ?_) | skip
         · exact Free.dm
         · exact Free.d_call Tryz.func23 (by kernel_rfl) (by kernel_rfl) rfl rfl (Free.arg1 (Free.tr 0 hd)) ((CO.out wq (bt HB3.out hC)).mono fun e w2 h => ⟨_, h.1, rfl, h.2⟩)
         · exact Free.dm
         · exact Free.d_len rfl Tryz.underlying22 (Free.tr 2 hd) rfl
         · exact Free.d_bin rfl (Free.tr 3 hd) (show _ = (.int .i64 1 : Value) from rfl) (by go_simp) (by have hmm := HM.out; first | (go_simp; done) | (go_simp; rw [IntWalk.i64_in _ (by omega)]; first | done | (congr 2; omega))) rfl
         · exact Free.dm
         · exact Free.d_load (cx := .pointer (some ⟨w.heap.size, 0, none⟩)) rfl (by kernel_rfl) (by have hc0 := (HX.out wq (bt HZ3.out hC)).cellQ 0 _ rfl; have hc1 := (HX.out wq (bt HZ3.out hC)).cellQ 1 _ rfl; have hc2 := (HX.out wq (bt HZ3.out hC)).cellQ 2 _ rfl; have hc3 := (HX.out wq (bt HZ3.out hC)).cellQ 3 _ rfl; have hc4 := (HX.out wq (bt HZ3.out hC)).cellQ 4 _ rfl; have hc5 := (HX.out wq (bt HZ3.out hC)).cellQ 5 _ rfl; go_simp) rfl
         · exact Free.d_call Tryz.func16 (by kernel_rfl) (by kernel_rfl) rfl rfl (arg4' (Free.tr 1 hd) (Free.tr 4 hd) (Free.tr 5 hd) (Free.tr 6 hd)) ((CC.out wq (bt HB3.out hC)).mono fun e w2 h => (by obtain ⟨hb, A9, n9, c9, he, hz⟩ := h; exact ⟨_, he, ⟨A9, n9, c9, rfl, hz⟩, hb⟩))
         · obtain ⟨A7, n7, k7, e7, z7⟩ := hd 7 (by kernel_rfl); exact Free.d_move rfl (Eq.trans (b := vals 7) (by kernel_rfl) e7) ⟨A7, n7, k7, rfl, z7⟩
         · obtain ⟨A8, n8, k8, e8, z8⟩ := hd 8 (by kernel_rfl); exact Free.d_extract (cx := .tuple #[.slice A8 n8 k8, .int .i64 0]) rfl (Eq.trans (b := vals 8) (by kernel_rfl) e8) (by first | rfl | (go_simp; done)) ⟨A8, n8, k8, rfl, z8⟩
         · obtain ⟨A8, n8, k8, e8, z8⟩ := hd 8 (by kernel_rfl); exact Free.d_extract (cx := .tuple #[.slice A8 n8 k8, .int .i64 0]) rfl (Eq.trans (b := vals 8) (by kernel_rfl) e8) (by first | rfl | (go_simp; done)) rfl
         · obtain ⟨A9, n9, k9, e9, z9⟩ := hd 9 (by kernel_rfl); exact Free.d_assign rfl (Eq.trans (b := vals 9) (by kernel_rfl) e9) ⟨A9, n9, k9, rfl, z9⟩
         · exact Free.d_assign rfl (Free.tr 10 hd) rfl
        ·
         intro vals wq hC hd
         refine Free.go hd ?_
         rintro _ rfl _ rfl _ rfl _ rfl _ rfl _ rfl _ rfl _ ⟨A7, n7, k7, rfl, z7⟩ _ ⟨A8, n8, k8, rfl, z8⟩ _ ⟨A9, n9, k9, rfl, z9⟩ _ rfl _ ⟨A11, n11, k11, rfl, z11⟩ _ rfl
         simp only [Free.All, Free.fl, Act.put, Free.sa, Free.s0, Free.s1]
         refine wpList_nil ?_
         clear hd
         have HB4 := Lib.hid (bt HB3.out hC)
         have HZ4 := Lib.hid (bt HZ3.out hC)
         have HM4 := Lib.hid z11
         clear hC z7 z8 z9 z11
         go_wp2_with fail
         (with_reducible refine (CD.out _ HB4.out).mono ?_)
         rintro e w5 ⟨A5, n5, c5, rfl, hz5, hb5⟩
         have HB5 := Lib.hid (bt HB4.out hb5)
         have HZ5 := Lib.hid (bt HZ4.out hb5)
         have CS := sameZ_any A11 n11 k11 mm A5 n5 c5 (Dc.docs L s) w5 (HM4.out.keep hb5) hz5
         rw [decide_eq_true HDD.out] at CS
         unfold RetB at CS
         have CS := Lib.hid CS
         clear hb5 CD hz5
         go_wp2_with fail
         (with_reducible refine CS.out.mono ?_)
         rintro e w6 ⟨rfl, hb6⟩
         have HB6 := Lib.hid (bt HB5.out hb6)
         have HZ6 := Lib.hid (bt HZ5.out hb6)
         clear hb6 CS
         go_wp2_with fail
         (with_reducible refine (KN.out _ HB6.out).mono ?_)
         rintro e wk ⟨rfl, hbk⟩
         have HBK := Lib.hid (bt HB6.out hbk)
         clear hbk
         go_wp2
         go_ret
         exact ⟨rfl, HBK.out⟩
       ·
        have HDD := Lib.hid hdd
        obtain ⟨r, hrr⟩ := Dc.sound hgd hk hck hdd
        have hcs : CSmall (some r) := by rw [← hrr]; exact Dc.clash_small' (by omega)
        rw [hrr] at CX
        unfold ResPost pfv at CX
        have CX := Lib.hid CX
        have HCS := Lib.hid hcs
        have HTT := Lib.hid htt
        clear hgd hcs hrr
        clear hg hgp hin hip ht htt hq hsl hl hln hlen hn hdl hnd hr hrt hrl hmL hm hk hck hdd
        unfold pfv
        go_enter Tryz.func6, Tryz.ntmps6
        go_upto_region 1 with fail
        rw [HW0.out]
        go_wp2_with fail
        (with_reducible refine CG.out.mono ?_)
        rintro e w1 ⟨rfl, hb1⟩
        have HZ1 := Lib.hid hb1
        have HB1 := Lib.hid (bt HB0.out hb1)
        clear hb1 CG
        have hrz := HX.out w1 HZ1.out
        have x0 := hrz.cellQ 0 _ rfl
        have x1 := hrz.cellQ 1 _ rfl
        have x2 := hrz.cellQ 2 _ rfl
        have x3 := hrz.cellQ 3 _ rfl
        have x4 := hrz.cellQ 4 _ rfl
        have x5 := hrz.cellQ 5 _ rfl
        clear hrz
        go_wp2_with fail
        (with_reducible refine (CP.out _ HB1.out).mono ?_)
        rintro e w2 ⟨rfl, hb2⟩
        have HZ2 := Lib.hid (bt HZ1.out hb2)
        have HB2 := Lib.hid (bt HB1.out hb2)
        clear hb2 CP x0 x1 x2 x3 x4 x5
        go_wp2_with fail
        (with_reducible refine (CR.out _ HB2.out).mono ?_)
        rintro e w3 ⟨rfl, hb3⟩
        have HZ3 := Lib.hid (bt HZ2.out hb3)
        have HB3 := Lib.hid (bt HB2.out hb3)
        clear hb3 CR
        go_upto_region 3 with fail
        go_wp2_with fail
        refine Free.wp_free_l 13 (fun W => Below w3.heap.size w3 W) [Free.kc (.slice A n c), Free.kc (sv rt), Free.kc (.slice A n c), Free.kc (.int .i64 (n : Int)), Free.kc (.int .i64 (m : Int)), Free.kc (sv s), Free.kc (.agg #[.int .i64 d.p.at_, sv d.p.link.term, sv d.p.link.next, sv d.p.link.posts, .slice d.ap d.np d.cp, .slice d.ad d.nd d.cd]), Free.kCk (mm), Free.kCk (mm), Free.kZ (mm), Free.kc (.int .i64 0), Free.kZ (mm), Free.kc (.int .i64 0)] (by kernel_rfl) (by kernel_rfl) (by decide) (Below.refl _ _).drew (fun w w' h g => bt h g) ?_ ?_
        ·
         iterate 13 refine Free.forall_succ ?_ ?_
         all_goals first | exact Free.forall_zero | (refine Free.op fun vals wq hC hd => ?_) | skip
         · exact Free.dm
         · exact Free.d_call Tryz.func23 (by kernel_rfl) (by kernel_rfl) rfl rfl (Free.arg1 (Free.tr 0 hd)) ((CO.out wq (bt HB3.out hC)).mono fun e w2 h => ⟨_, h.1, rfl, h.2⟩)
         · exact Free.dm
         · exact Free.d_len rfl Tryz.underlying22 (Free.tr 2 hd) rfl
         · exact Free.d_bin rfl (Free.tr 3 hd) (show _ = (.int .i64 1 : Value) from rfl) (by go_simp) (by have hmm := HM.out; first | (go_simp; done) | (go_simp; rw [IntWalk.i64_in _ (by omega)]; first | done | (congr 2; omega))) rfl
         · exact Free.dm
         · exact Free.d_load (cx := .pointer (some ⟨w.heap.size, 0, none⟩)) rfl (by kernel_rfl) (by have hc0 := (HX.out wq (bt HZ3.out hC)).cellQ 0 _ rfl; have hc1 := (HX.out wq (bt HZ3.out hC)).cellQ 1 _ rfl; have hc2 := (HX.out wq (bt HZ3.out hC)).cellQ 2 _ rfl; have hc3 := (HX.out wq (bt HZ3.out hC)).cellQ 3 _ rfl; have hc4 := (HX.out wq (bt HZ3.out hC)).cellQ 4 _ rfl; have hc5 := (HX.out wq (bt HZ3.out hC)).cellQ 5 _ rfl; go_simp) rfl
         · exact Free.d_call Tryz.func16 (by kernel_rfl) (by kernel_rfl) rfl rfl (arg4' (Free.tr 1 hd) (Free.tr 4 hd) (Free.tr 5 hd) (Free.tr 6 hd)) ((CC.out wq (bt HB3.out hC)).mono fun e w2 h => (by obtain ⟨hb, A9, n9, c9, he, hz⟩ := h; exact ⟨_, he, ⟨A9, n9, c9, rfl, hz⟩, hb⟩))
         · obtain ⟨A7, n7, k7, e7, z7⟩ := hd 7 (by kernel_rfl); exact Free.d_move rfl (Eq.trans (b := vals 7) (by kernel_rfl) e7) ⟨A7, n7, k7, rfl, z7⟩
         · obtain ⟨A8, n8, k8, e8, z8⟩ := hd 8 (by kernel_rfl); exact Free.d_extract (cx := .tuple #[.slice A8 n8 k8, .int .i64 0]) rfl (Eq.trans (b := vals 8) (by kernel_rfl) e8) (by first | rfl | (go_simp; done)) ⟨A8, n8, k8, rfl, z8⟩
         · obtain ⟨A8, n8, k8, e8, z8⟩ := hd 8 (by kernel_rfl); exact Free.d_extract (cx := .tuple #[.slice A8 n8 k8, .int .i64 0]) rfl (Eq.trans (b := vals 8) (by kernel_rfl) e8) (by first | rfl | (go_simp; done)) rfl
         · obtain ⟨A9, n9, k9, e9, z9⟩ := hd 9 (by kernel_rfl); exact Free.d_assign rfl (Eq.trans (b := vals 9) (by kernel_rfl) e9) ⟨A9, n9, k9, rfl, z9⟩
         · exact Free.d_assign rfl (Free.tr 10 hd) rfl
        ·
         intro vals wq hC hd
         refine Free.go hd ?_
         rintro _ rfl _ rfl _ rfl _ rfl _ rfl _ rfl _ rfl _ ⟨A7, n7, k7, rfl, z7⟩ _ ⟨A8, n8, k8, rfl, z8⟩ _ ⟨A9, n9, k9, rfl, z9⟩ _ rfl _ ⟨A11, n11, k11, rfl, z11⟩ _ rfl
         simp only [Free.All, Free.fl, Act.put, Free.sa, Free.s0, Free.s1]
         refine wpList_nil ?_
         clear hd
         have HB4 := Lib.hid (bt HB3.out hC)
         have HZ4 := Lib.hid (bt HZ3.out hC)
         have HM4 := Lib.hid z11
         clear hC z7 z8 z9 z11
         go_wp2_with fail
         (with_reducible refine (CD.out _ HB4.out).mono ?_)
         rintro e w5 ⟨A5, n5, c5, rfl, hz5, hb5⟩
         have HB5 := Lib.hid (bt HB4.out hb5)
         have HZ5 := Lib.hid (bt HZ4.out hb5)
         have CS := sameZ_any A11 n11 k11 mm A5 n5 c5 (Dc.docs L s) w5 (HM4.out.keep hb5) hz5
         rw [decide_eq_false HDD.out] at CS
         unfold RetB at CS
         have CS := Lib.hid CS
         clear hb5 CD hz5
         go_wp2_with fail
         (with_reducible refine CS.out.mono ?_)
         rintro e w6 ⟨rfl, hb6⟩
         have HB6 := Lib.hid (bt HB5.out hb6)
         have HZ6 := Lib.hid (bt HZ5.out hb6)
         clear hb6 CS
         have hrz := HX.out w6 HZ6.out
         have x0 := hrz.cellQ 0 _ rfl
         have x1 := hrz.cellQ 1 _ rfl
         have x2 := hrz.cellQ 2 _ rfl
         have x3 := hrz.cellQ 3 _ rfl
         have x4 := hrz.cellQ 4 _ rfl
         have x5 := hrz.cellQ 5 _ rfl
         clear hrz
         go_wp2_with fail
         (with_reducible refine (CX.out _ HB6.out).mono ?_)
         rintro e w8 ⟨A8x, n8x, c8x, B8x, m8x, k8x, rfl, hf1, hf2, hb8⟩
         have HB8 := Lib.hid (bt HB6.out hb8)
         clear hb8 CX x0 x1 x2 x3 x4 x5
         go_upto_region 7 with fail
         have hbx := (Below.refl w8.heap.size w8).alloc (Nat.le_refl _) (.cells #[.slice A8x n8x c8x, .slice B8x m8x k8x] 52)
         have hcb := CBox.new hf1 hf2
         obtain ⟨g9, hg9⟩ : ∃ g, w8.heap.size = g := ⟨_, rfl⟩
         obtain ⟨w9, hw9⟩ : ∃ W, w8.alloc (.cells #[.slice A8x n8x c8x, .slice B8x m8x k8x] 52) = W := ⟨_, rfl⟩
         rw [hw9] at hbx hcb ⊢
         have HB9 := Lib.hid (bt HB8.out hbx)
         rw [hg9] at hcb ⊢
         have x0 := hcb.x0
         have x1 := hcb.x1
         have CI := Lib.hid (hcb.is rfl HCS.out (HTT.out.below HB9.out))
         unfold RetB at CI
         clear hbx hcb hw9 hg9 hf1 hf2
         go_wp2_with fail
         (with_reducible refine CI.out.mono ?_)
         rintro e w10 ⟨rfl, hb10⟩
         have HB10 := Lib.hid (bt HB9.out hb10)
         clear hb10 CI
         go_wp2_with fail
         (with_reducible refine (KN.out _ HB10.out).mono ?_)
         rintro e wk ⟨rfl, hbk⟩
         have HBK := Lib.hid (bt HB10.out hbk)
         clear hbk
         go_wp2
         go_ret
         exact ⟨rfl, HBK.out⟩
end Go.Proofs.YteoledjllpgcbaaGreatDoor
