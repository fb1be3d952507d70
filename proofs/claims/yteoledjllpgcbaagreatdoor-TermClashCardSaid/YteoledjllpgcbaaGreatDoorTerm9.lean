/- The clash of a proof of a term: the reference's. No statement of the seat is proved here. -/
import Derived.Test.YteoledjllpgcbaaGreatDoorTerm8
import Derived.Test.YteoledjllpgcbaaGreatDoorFreeLate
namespace Go.Proofs.YteoledjllpgcbaaGreatDoor
set_option maxRecDepth 100000
set_option maxHeartbeats 64000000
set_option linter.unusedVariables false
open Go.RowKit
def Free.kTb (b : Bool) : Free.SV := ⟨fun v w => ∃ A n c, v = .tuple #[.slice A n c, .bool b], fun v w w' h g => h⟩
def Free.kSl : Free.SV := ⟨fun v w => ∃ A n c, v = .slice A n c, fun v w w' h g => h⟩
theorem RCheckPost.kt {r : Option (List Int)} {w w' : World} {e : Ending} (h : RCheckPost r w e w') : ∃ v, e = .returned v ∧ (Free.kTb r.isSome).p v w' ∧ Below w.heap.size w w' := by
 obtain ⟨hb, h⟩ := h
 cases r with
 | none => exact ⟨_, h, ⟨none, 0, 0, rfl⟩, hb⟩
 | some m =>
  obtain ⟨A, n, c, he, _⟩ := h
  exact ⟨_, he, ⟨A, n, c, rfl⟩, hb⟩
theorem rtclash_any (A : Option Addr) (n c : Nat) (L : List EnD) (s : List UInt8) (d : PfD) (w : World) (hs : InEs w A n c L) (hl : ∀ e ∈ L, e.t.length ≤ 200 ∧ e.l.length ≤ 200) (hn : n ≤ 100) (hsl : s.length ≤ 200) (hi : InPf w d) (hpw : ∀ x ∈ d.p.path, x.length ≤ maxLen) (hnd : d.nd ≤ 100000) (hat : -9223372036854775808 ≤ d.p.at_ ∧ d.p.at_ ≤ 9223372036854775807) :
  Calls Tryz.prog 21 #[.slice A n c, sv s, pfv d.ap d.np d.cp d.ad d.nd d.cd d.p] w (ResPost w.heap.size (Dc.clash L s d.p) w) := by
 obtain ⟨gp, hgp⟩ : ∃ g, w.heap.size = g := ⟨_, rfl⟩
 obtain ⟨wx, hwx⟩ : ∃ W, w.alloc (.cells #[.int .i64 d.p.at_, sv d.p.link.term, sv d.p.link.next, sv d.p.link.posts, .slice d.ap d.np d.cp, .slice d.ad d.nd d.cd] 38) = W := ⟨_, rfl⟩
 have hbx := (Below.refl w.heap.size w).alloc (Nat.le_refl _) (.cells #[.int .i64 d.p.at_, sv d.p.link.term, sv d.p.link.next, sv d.p.link.posts, .slice d.ap d.np d.cp, .slice d.ad d.nd d.cd] 38)
 have hrx := row_new w #[.int .i64 d.p.at_, sv d.p.link.term, sv d.p.link.next, sv d.p.link.posts, .slice d.ap d.np d.cp, .slice d.ad d.nd d.cd] 38
 have hzx : wx.heap.size = gp + 1 := by rw [← hwx, ← hgp]; unfold World.alloc; simp
 rw [hwx] at hbx hrx
 rw [hgp] at hrx
 obtain ⟨w0, hw0⟩ : ∃ W, wx.alloc (.cells #[.slice none 0 0, .slice none 0 0] 55) = W := ⟨_, rfl⟩
 have hb0 := (Below.refl wx.heap.size wx).alloc (Nat.le_refl _) (.cells #[.slice none 0 0, .slice none 0 0] 55)
 have hr0 := row_new wx #[.slice none 0 0, .slice none 0 0] 55
 rw [hw0] at hb0 hr0
 rw [hzx] at hr0
 have hrp := hrx.belowS hb0 (Nat.le_refl _)
 have HW := Lib.hid (And.intro hwx hw0)
 have HB0 := Lib.hid (bt hbx hb0)
 have HX := Lib.hid (fun (W : World) (hW : Below w0.heap.size w0 W) => hrp.belowS hW (Nat.le_refl _))
 have HR := Lib.hid (fun (W : World) (hW : Below w0.heap.size w0 W) => hr0.belowS hW (Nat.le_refl _))
 have HLT := Lib.hid (show gp + 1 < w0.heap.size from hr0.lt)
 have HGP := Lib.hid hgp
 obtain ⟨R, hR⟩ : ∃ R, Dc.clash L s d.p = R := ⟨_, rfl⟩
 rw [hR]
 have hs0 := hs.keep HB0.out
 have hi0 := hi.keep HB0.out
 obtain ⟨m, hm⟩ : ∃ m, L.length + 1 = m := ⟨_, rfl⟩
 have hm1 : m ≤ 101 := by rw [← hm, hs.q.len]; omega
 have hm0 : 1 ≤ m := by omega
 have C1 := fun (W : World) (hW : Below w0.heap.size w0 W) => rdright_any A n c L W (hs0.keep hW) (fun e he => (hl e he).1)
 unfold RetB at C1
 have C2 := fun (W : World) => tokRight_any s W (Nat.le_trans hsl (by decide))
 unfold TokPost at C2
 clear hwx hbx hrx hzx hw0 hb0 hr0 hrp
 cases hr : Dc.right L with
 | false =>
  have HN := Lib.hid (show R = none by rw [← hR, Dc.clash_no1 hr])
  rw [hr] at C1
  have C1 := Lib.hid C1
  clear hs hs0 hl hi hi0 hpw hat hnd hsl hm hr hR C2
  unfold pfv
  go_enter Tryz.func21, Tryz.ntmps21
  go_upto_region 1 with fail
  rw [HW.out.1, HW.out.2]
  clear hgp
  go_wp2_with fail
  (with_reducible refine (C1.out w0 (Below.refl _ _)).mono ?_)
  rintro e w1 ⟨rfl, hb1⟩
  have HB1 := Lib.hid hb1
  clear hb1 C1
  have hres := HR.out w1 HB1.out
  have x0 := hres.cellQ 0 _ rfl
  have x1 := hres.cellQ 1 _ rfl
  have f0 := hres.frozen 0
  have f1 := hres.frozen 1
  have HROW := Lib.hid (show ∀ u v, Row (setFrom (gp + 1) w1 0 [u, v]) (gp + 1) #[u, v] 55 from fun u v => hres.all [u, v] rfl)
  clear hres
  go_wp2
  generalize hwd : World.setCell (World.setCell w1 _ _) _ _ = we
  have hsf : setFrom (gp + 1) w1 0 [.slice none 0 0, .slice none 0 0] = we := by rw [← hwd]; rfl
  have r0 : we.cell? ⟨gp + 1, 0, none⟩ = some (.slice none 0 0) := by rw [← hsf]; exact (HROW.out _ _).cellQ 0 _ rfl
  have r1 : we.cell? ⟨gp + 1, 1, none⟩ = some (.slice none 0 0) := by rw [← hsf]; exact (HROW.out _ _).cellQ 1 _ rfl
  refine bodyPost_ret (v := .tuple #[.agg #[.slice none 0 0, .slice none 0 0], .bool false]) (by simp [results, Tryz.results21, go_sem, r0, r1]) rfl ?_
  rw [HN.out]
  have hg1 : w.heap.size ≤ w0.heap.size := HB0.out.size
  have hlt := HLT.out
  have F1 : Fr w1 w0.heap.size none 0 0 _ := (Fr.nil _ _)
  have F2 : Fr w1 w0.heap.size none 0 0 _ := (Fr.nil _ _)
  refine ⟨_, _, _, _, _, _, rfl, by rw [← hsf]; exact (F1.set hlt _ 0).base hg1, by rw [← hsf]; exact (F2.set hlt _ 0).base hg1, ?_⟩
  rw [← hsf]
  exact below_setFrom (by rw [HGP.out]; omega) _ 0 (bt HB0.out HB1.out)
 | true =>
  rw [hr] at C1
  have C1 := Lib.hid C1
  cases hk : Tok.right s with
  | false =>
   have HN := Lib.hid (show R = none by rw [← hR, Dc.clash_no2 hk])
   rw [hk] at C2
   have C2 := Lib.hid C2
   clear hs hs0 hl hi hi0 hpw hat hnd hsl hm hr hR hk
   unfold pfv
   go_enter Tryz.func21, Tryz.ntmps21
   go_upto_region 1 with fail
   rw [HW.out.1, HW.out.2]
   clear hgp
   go_wp2_with fail
   (with_reducible refine (C1.out w0 (Below.refl _ _)).mono ?_)
   rintro e w1 ⟨rfl, hb1⟩
   have HB1 := Lib.hid hb1
   clear hb1 C1
   go_wp2_with fail
   (with_reducible refine (C2.out w1).mono ?_)
   rintro e w2 ⟨rfl, hb2⟩
   have HB2 := Lib.hid (bt HB1.out hb2)
   clear hb2 C2
   have hres := HR.out w2 HB2.out
   have x0 := hres.cellQ 0 _ rfl
   have x1 := hres.cellQ 1 _ rfl
   have f0 := hres.frozen 0
   have f1 := hres.frozen 1
   have HROW := Lib.hid (show ∀ u v, Row (setFrom (gp + 1) w2 0 [u, v]) (gp + 1) #[u, v] 55 from fun u v => hres.all [u, v] rfl)
   clear hres
   go_wp2
   generalize hwd : World.setCell (World.setCell w2 _ _) _ _ = we
   have hsf : setFrom (gp + 1) w2 0 [.slice none 0 0, .slice none 0 0] = we := by rw [← hwd]; rfl
   have r0 : we.cell? ⟨gp + 1, 0, none⟩ = some (.slice none 0 0) := by rw [← hsf]; exact (HROW.out _ _).cellQ 0 _ rfl
   have r1 : we.cell? ⟨gp + 1, 1, none⟩ = some (.slice none 0 0) := by rw [← hsf]; exact (HROW.out _ _).cellQ 1 _ rfl
   refine bodyPost_ret (v := .tuple #[.agg #[.slice none 0 0, .slice none 0 0], .bool false]) (by simp [results, Tryz.results21, go_sem, r0, r1]) rfl ?_
   rw [HN.out]
   have hg1 : w.heap.size ≤ w0.heap.size := HB0.out.size
   have hlt := HLT.out
   have F1 : Fr w2 w0.heap.size none 0 0 _ := (Fr.nil _ _)
   have F2 : Fr w2 w0.heap.size none 0 0 _ := (Fr.nil _ _)
   refine ⟨_, _, _, _, _, _, rfl, by rw [← hsf]; exact (F1.set hlt _ 0).base hg1, by rw [← hsf]; exact (F2.set hlt _ 0).base hg1, ?_⟩
   rw [← hsf]
   exact below_setFrom (by rw [HGP.out]; omega) _ 0 (bt HB0.out HB2.out)
  | true =>
   rw [hk] at C2
   have C2 := Lib.hid C2
   have hgd := Dc.good_of hr
   have CL := fun (W : World) (hW : Below w0.heap.size w0 W) => rdlinks_any A n c L W (hs0.keep hW) (by omega) hr
   unfold RLinksPost at CL
   rw [hm] at CL
   have CL := Lib.hid CL
   have CR := fun (W : World) (hW : Below w0.heap.size w0 W) => rdroot_any A n c L W (hs0.keep hW) (by omega) hr
   unfold StrPost at CR
   obtain ⟨rt, hrt⟩ : ∃ r, Dc.root L = r := ⟨_, rfl⟩
   rw [hrt] at CR
   have CR := Lib.hid CR
   obtain ⟨ck, hck⟩ : ∃ r, Dc.check rt (m : Int) s d.p = r := ⟨_, rfl⟩
   have CC := fun (W : World) (hW : Below w0.heap.size w0 W) => (rtcheck_any rt (m : Int) s d.ap d.np d.cp d.ad d.nd d.cd d.p W (hi0.s.keep hW) hpw (hi0.b.keep hW) hnd hat (by omega) (by omega)).mono fun e w' h => h.kt
   rw [hck] at CC
   unfold pfv at CC
   rw [← hrt, ← hm] at hck
   cases ck with
   | none =>
    have HN := Lib.hid (show R = none by rw [← hR, Dc.clash_no3 hck])
    have CC := Lib.hid CC
    clear hs hs0 hl hi hi0 hpw hat hnd hsl hm hr hR hk hgd hrt hck
    unfold pfv
    go_enter Tryz.func21, Tryz.ntmps21
    go_upto_region 1 with fail
    rw [HW.out.1, HW.out.2]
    clear hgp
    go_wp2_with fail
    (with_reducible refine (C1.out w0 (Below.refl _ _)).mono ?_)
    rintro e w1 ⟨rfl, hb1⟩
    have HB1 := Lib.hid hb1
    clear hb1 C1
    go_wp2_with fail
    (with_reducible refine (C2.out w1).mono ?_)
    rintro e w2 ⟨rfl, hb2⟩
    have HB2 := Lib.hid (bt HB1.out hb2)
    clear hb2 C2
    go_wp2_with fail
    (with_reducible refine (CL.out _ HB2.out).mono ?_)
    rintro e w3 ⟨A3, c3, f3, rfl, hl3, hb3⟩
    have HL3 := Lib.hid hl3
    have HB3 := Lib.hid (bt HB2.out hb3)
    clear hb3 CL hl3
    go_upto_region 4 with fail
    go_wp2_with fail
    refine Free.wp_free_l 12 (fun W => Below w3.heap.size w3 W) [Free.kc (.slice A n c), Free.kc (sv rt), Free.kc (.slice A3 m c3), Free.kc (.int .i64 (m : Int)), Free.kc (sv s), Free.kc (.agg #[.int .i64 d.p.at_, sv d.p.link.term, sv d.p.link.next, sv d.p.link.posts, .slice d.ap d.np d.cp, .slice d.ad d.nd d.cd]), Free.kTb (false), Free.kTb (false), Free.kSl, Free.kc (.bool false), Free.kSl, Free.kc (.bool false)] (by kernel_rfl) (by kernel_rfl) (by decide) (Below.refl _ _).drew (fun w w' h g => bt h g) ?_ ?_
    ·
     iterate 12 refine Free.forall_succ ?_ ?_
     all_goals first | exact Free.forall_zero | (refine Free.op fun vals wq hC hd => ?_) | skip
     · exact Free.dm
     · exact Free.d_call Tryz.func23 (by kernel_rfl) (by kernel_rfl) rfl rfl (Free.arg1 (Free.tr 0 hd)) ((CR.out wq (bt HB3.out hC)).mono fun e w2 h => ⟨_, h.1, rfl, h.2⟩)
     · exact Free.dm
     · exact Free.d_len rfl Tryz.underlying66 (Free.tr 2 hd) rfl
     · exact Free.dm
     · exact Free.d_load (cx := .pointer (some ⟨gp, 0, none⟩)) rfl (by kernel_rfl) (by have hc0 := (HX.out wq (bt HB3.out hC)).cellQ 0 _ rfl; have hc1 := (HX.out wq (bt HB3.out hC)).cellQ 1 _ rfl; have hc2 := (HX.out wq (bt HB3.out hC)).cellQ 2 _ rfl; have hc3 := (HX.out wq (bt HB3.out hC)).cellQ 3 _ rfl; have hc4 := (HX.out wq (bt HB3.out hC)).cellQ 4 _ rfl; have hc5 := (HX.out wq (bt HB3.out hC)).cellQ 5 _ rfl; go_simp) rfl
     · exact Free.d_call Tryz.func18 (by kernel_rfl) (by kernel_rfl) rfl rfl (arg4' (Free.tr 1 hd) (Free.tr 3 hd) (Free.tr 4 hd) (Free.tr 5 hd)) (CC.out wq (bt HB3.out hC))
     · obtain ⟨A6, n6, k6, e6⟩ := hd 6 (by kernel_rfl); exact Free.d_move rfl (Eq.trans (b := vals 6) (by kernel_rfl) e6) ⟨A6, n6, k6, rfl⟩
     · obtain ⟨A7, n7, k7, e7⟩ := hd 7 (by kernel_rfl); exact Free.d_extract (cx := .tuple #[.slice A7 n7 k7, .bool false]) rfl (Eq.trans (b := vals 7) (by kernel_rfl) e7) (by first | rfl | (go_simp; done)) ⟨_, _, _, rfl⟩
     · obtain ⟨A7, n7, k7, e7⟩ := hd 7 (by kernel_rfl); exact Free.d_extract (cx := .tuple #[.slice A7 n7 k7, .bool false]) rfl (Eq.trans (b := vals 7) (by kernel_rfl) e7) (by first | rfl | (go_simp; done)) rfl
     · obtain ⟨A8, n8, k8, e8⟩ := hd 8 (by kernel_rfl); exact Free.d_assign rfl (Eq.trans (b := vals 8) (by kernel_rfl) e8) ⟨_, _, _, rfl⟩
     · exact Free.d_assign rfl (Free.tr 9 hd) rfl
    ·
     intro vals wq hC hd
     refine Free.go hd ?_
     rintro _ rfl _ rfl _ rfl _ rfl _ rfl _ rfl _ ⟨A6, n6, k6, rfl⟩ _ ⟨A7, n7, k7, rfl⟩ _ ⟨A8, n8, k8, rfl⟩ _ rfl _ ⟨A10, n10, k10, rfl⟩ _ rfl
     simp only [Free.All, Free.fl, Act.put, Free.sa, Free.s0, Free.s1]
     refine wpList_nil ?_
     clear hd
     have HB4 := Lib.hid (bt HB3.out hC)
     clear hC
     have hres := HR.out wq HB4.out
     have x0 := hres.cellQ 0 _ rfl
     have x1 := hres.cellQ 1 _ rfl
     have f0 := hres.frozen 0
     have f1 := hres.frozen 1
     have HROW := Lib.hid (show ∀ u v, Row (setFrom (gp + 1) wq 0 [u, v]) (gp + 1) #[u, v] 55 from fun u v => hres.all [u, v] rfl)
     clear hres
     go_wp2
     generalize hwd : World.setCell (World.setCell wq _ _) _ _ = we
     have hsf : setFrom (gp + 1) wq 0 [.slice none 0 0, .slice none 0 0] = we := by rw [← hwd]; rfl
     have r0 : we.cell? ⟨gp + 1, 0, none⟩ = some (.slice none 0 0) := by rw [← hsf]; exact (HROW.out _ _).cellQ 0 _ rfl
     have r1 : we.cell? ⟨gp + 1, 1, none⟩ = some (.slice none 0 0) := by rw [← hsf]; exact (HROW.out _ _).cellQ 1 _ rfl
     refine bodyPost_ret (v := .tuple #[.agg #[.slice none 0 0, .slice none 0 0], .bool false]) (by simp [results, Tryz.results21, go_sem, r0, r1]) rfl ?_
     rw [HN.out]
     have hg1 : w.heap.size ≤ w0.heap.size := HB0.out.size
     have hlt := HLT.out
     have F1 : Fr wq w0.heap.size none 0 0 _ := (Fr.nil _ _)
     have F2 : Fr wq w0.heap.size none 0 0 _ := (Fr.nil _ _)
     refine ⟨_, _, _, _, _, _, rfl, by rw [← hsf]; exact (F1.set hlt _ 0).base hg1, by rw [← hsf]; exact (F2.set hlt _ 0).base hg1, ?_⟩
     rw [← hsf]
     exact below_setFrom (by rw [HGP.out]; omega) _ 0 (bt HB0.out HB4.out)
   | some mm =>
    have hcl := Dc.clash_some hr hk hck
    rw [hR] at hcl
    have hmay := Dc.check_may hck
    have hfit := Dc.check_fit hck
    rw [hm] at hfit
    obtain ⟨q1, q2, q3, q4⟩ := Dc.fit_iff.1 hfit
    rw [Int.toNat_natCast] at q4
    obtain ⟨i, hii⟩ := Int.eq_ofNat_of_zero_le q1
    have him : i < m := by rw [hii] at q2; omega
    obtain ⟨r0, hr0⟩ : ∃ r, Dc.lfL (Dc.links L) d.p = r := ⟨_, rfl⟩
    rw [hr0] at hcl
    have hlf : ∀ (f : Nat → Piece), raws f m = Dc.links L → Cl.lf d.p.link.bytes (Tree.sides i m) (raws f m) d.p.path = r0 := fun f hf => by
     rw [← hr0]
     unfold Dc.lfL
     rw [hf, Dc.links_len, hm, hfit, if_pos rfl, hii, Int.toNat_natCast]
    have HLF := Lib.hid hlf
    have HM := Lib.hid (Hd.Lk.may_iff.1 hmay)
    have QW := Lib.hid (fun (W : World) => rwlink_any d.p.link W (Nat.le_trans HM.out.1 (by decide)) (Nat.le_trans HM.out.2.1 (by decide)) (by rw [HM.out.2.2]; decide))
    unfold Ret8 at QW
    have HBL := Lib.hid (Hd.Lk.bytes_le hmay)
    have HI := Lib.hid hi0
    have H32 := Lib.hid (all32_of q3)
    have HPL := Lib.hid (show d.np = (Tree.sides i m).length by rw [← hi.s.len, q4, hii, Int.toNat_natCast])
    have HIM := Lib.hid (And.intro him hii)
    have HCL := Lib.hid hcl
    have CC := Lib.hid CC
    have CD := Lib.hid (fun (W : World) (hW : Below w0.heap.size w0 W) => rddocs_any A n c L s W (hs0.keep hW) hl hr)
    unfold ZsPost at CD
    have HDR := Lib.hid (Dc.docs_right hgd s)
    have HND := Lib.hid hnd
    clear hs hs0 hl hi hi0 hpw hat hnd hsl hm hr hR hk hgd hrt hck hcl hmay hfit q1 q2 q3 q4 him hii hlf hr0
    unfold pfv
    go_enter Tryz.func21, Tryz.ntmps21
    go_upto_region 1 with fail
    rw [HW.out.1, HW.out.2]
    clear hgp
    go_wp2_with fail
    (with_reducible refine (C1.out w0 (Below.refl _ _)).mono ?_)
    rintro e w1 ⟨rfl, hb1⟩
    have HB1 := Lib.hid hb1
    clear hb1 C1
    go_wp2_with fail
    (with_reducible refine (C2.out w1).mono ?_)
    rintro e w2 ⟨rfl, hb2⟩
    have HB2 := Lib.hid (bt HB1.out hb2)
    clear hb2 C2
    go_wp2_with fail
    (with_reducible refine (CL.out _ HB2.out).mono ?_)
    rintro e w3 ⟨A3, c3, f3, rfl, hl3, hb3⟩
    have HL3 := Lib.hid hl3
    have HB3 := Lib.hid (bt HB2.out hb3)
    clear hb3 CL hl3
    go_upto_region 4 with fail
    go_wp2_with fail
    refine Free.wp_free_l 12 (fun W => Below w3.heap.size w3 W) [Free.kc (.slice A n c), Free.kc (sv rt), Free.kc (.slice A3 m c3), Free.kc (.int .i64 (m : Int)), Free.kc (sv s), Free.kc (.agg #[.int .i64 d.p.at_, sv d.p.link.term, sv d.p.link.next, sv d.p.link.posts, .slice d.ap d.np d.cp, .slice d.ad d.nd d.cd]), Free.kTb (true), Free.kTb (true), Free.kSl, Free.kc (.bool true), Free.kSl, Free.kc (.bool true)] (by kernel_rfl) (by kernel_rfl) (by decide) (Below.refl _ _).drew (fun w w' h g => bt h g) ?_ ?_
    ·
     iterate 12 refine Free.forall_succ ?_ ?_
     all_goals first | exact Free.forall_zero | (refine Free.op fun vals wq hC hd => ?_) | skip
     · exact Free.dm
     · exact Free.d_call Tryz.func23 (by kernel_rfl) (by kernel_rfl) rfl rfl (Free.arg1 (Free.tr 0 hd)) ((CR.out wq (bt HB3.out hC)).mono fun e w2 h => ⟨_, h.1, rfl, h.2⟩)
     · exact Free.dm
     · exact Free.d_len rfl Tryz.underlying66 (Free.tr 2 hd) rfl
     · exact Free.dm
     · exact Free.d_load (cx := .pointer (some ⟨gp, 0, none⟩)) rfl (by kernel_rfl) (by have hc0 := (HX.out wq (bt HB3.out hC)).cellQ 0 _ rfl; have hc1 := (HX.out wq (bt HB3.out hC)).cellQ 1 _ rfl; have hc2 := (HX.out wq (bt HB3.out hC)).cellQ 2 _ rfl; have hc3 := (HX.out wq (bt HB3.out hC)).cellQ 3 _ rfl; have hc4 := (HX.out wq (bt HB3.out hC)).cellQ 4 _ rfl; have hc5 := (HX.out wq (bt HB3.out hC)).cellQ 5 _ rfl; go_simp) rfl
     · exact Free.d_call Tryz.func18 (by kernel_rfl) (by kernel_rfl) rfl rfl (arg4' (Free.tr 1 hd) (Free.tr 3 hd) (Free.tr 4 hd) (Free.tr 5 hd)) (CC.out wq (bt HB3.out hC))
     · obtain ⟨A6, n6, k6, e6⟩ := hd 6 (by kernel_rfl); exact Free.d_move rfl (Eq.trans (b := vals 6) (by kernel_rfl) e6) ⟨A6, n6, k6, rfl⟩
     · obtain ⟨A7, n7, k7, e7⟩ := hd 7 (by kernel_rfl); exact Free.d_extract (cx := .tuple #[.slice A7 n7 k7, .bool true]) rfl (Eq.trans (b := vals 7) (by kernel_rfl) e7) (by first | rfl | (go_simp; done)) ⟨_, _, _, rfl⟩
     · obtain ⟨A7, n7, k7, e7⟩ := hd 7 (by kernel_rfl); exact Free.d_extract (cx := .tuple #[.slice A7 n7 k7, .bool true]) rfl (Eq.trans (b := vals 7) (by kernel_rfl) e7) (by first | rfl | (go_simp; done)) rfl
     · obtain ⟨A8, n8, k8, e8⟩ := hd 8 (by kernel_rfl); exact Free.d_assign rfl (Eq.trans (b := vals 8) (by kernel_rfl) e8) ⟨_, _, _, rfl⟩
     · exact Free.d_assign rfl (Free.tr 9 hd) rfl
    ·
     intro vals wq hC hd
     refine Free.go hd ?_
     rintro _ rfl _ rfl _ rfl _ rfl _ rfl _ rfl _ ⟨A6, n6, k6, rfl⟩ _ ⟨A7, n7, k7, rfl⟩ _ ⟨A8, n8, k8, rfl⟩ _ rfl _ ⟨A10, n10, k10, rfl⟩ _ rfl
     simp only [Free.All, Free.fl, Act.put, Free.sa, Free.s0, Free.s1]
     refine wpList_nil ?_
     clear hd
     have HB4 := Lib.hid (bt HB3.out hC)
     have HX4 := Lib.hid hC
     clear hC
     obtain ⟨w4, hw4⟩ : ∃ W, W = wq := ⟨wq, rfl⟩
     rw [← hw4] at HB4 HX4 ⊢
     clear hw4
     have QL := Lib.hid (fun (W : World) (hW : Below w4.heap.size w4 W) (A5 : Option Addr) (n5 c5 : Nat) (h5 : Bs W A5 n5 c5 d.p.link.bytes) => by
      have h := rleaf8_any m A3 m c3 f3 i A5 n5 c5 d.p.link.bytes d.ap d.np d.cp d.p.path W (Nat.le_refl _) (rowsAt_keep HL3.out.rows (bt HX4.out hW)) HL3.out.cap HL3.out.max (by omega) HL3.out.small HIM.out.1 h5 (by have a := h5.len; have b := HBL.out; omega) (HI.out.keep (bt HB4.out hW)).s H32.out HPL.out
      rw [HLF.out f3 HL3.out.raw, ← HIM.out.2] at h
      exact h)
     unfold ResPost at QL
     go_upto_region 7 with fail
     go_wp2_with fail
     refine Free.wp_late_l 13 11 48 _ _ (fun W => Below w4.heap.size w4 W) [Free.kc (.slice A3 m c3), Free.kc (.pointer (some ⟨gp, 0, none⟩)), Free.kc (.int .i64 d.p.at_), Free.kc (.pointer (some ⟨gp, 1, none⟩)), Free.kc (.agg #[sv d.p.link.term, sv d.p.link.next, sv d.p.link.posts]), Free.kB (w4.heap.size) (d.p.link.bytes), Free.kc (.pointer (some ⟨gp, 4, none⟩)), Free.kc (.slice d.ap d.np d.cp), Free.kR (w4.heap.size) (r0), Free.kR (w4.heap.size) (r0), Free.kG (w4.heap.size) (r0), Free.kc (.bool r0.isSome), Free.kA (w4.heap.size) (55) (#[.slice none 0 0, .slice none 0 0])] (by kernel_rfl) (by kernel_rfl) (by kernel_rfl) rfl rfl (Below.refl _ _).drew (fun w w' h g => bt h g) ?_ ?_ ?_
     ·
      iterate 13 refine Free.forall_succ ?_ ?_
      all_goals first | exact Free.forall_zero | (refine Free.op fun vals wq hC hd => ?_) | skip
      · exact Free.dm
      · exact d_field (cx := .pointer (some ⟨gp, 0, none⟩)) rfl (by kernel_rfl) (by go_simp) rfl
      · exact Free.d_load rfl (Free.tr 1 hd) (by have hcc := (HX.out wq (bt HB4.out hC)).cellQ 0 _ rfl; go_simp) rfl
      · exact d_field (cx := .pointer (some ⟨gp, 0, none⟩)) rfl (by kernel_rfl) (by go_simp) rfl
      · exact Free.d_load (cx := .pointer (some ⟨gp, 1, none⟩)) rfl (Free.tr 3 hd) (by have hc1 := (HX.out wq (bt HB4.out hC)).cellQ 1 _ rfl; have hc2 := (HX.out wq (bt HB4.out hC)).cellQ 2 _ rfl; have hc3 := (HX.out wq (bt HB4.out hC)).cellQ 3 _ rfl; go_simp) rfl
      · exact Free.d_call Tryz.func54 (by kernel_rfl) (by kernel_rfl) rfl rfl (Free.arg1 (Free.tr 4 hd)) ((QW.out wq).mono fun e w2 h => (by obtain ⟨A9, n9, c9, he, ho, hb⟩ := h; exact ⟨_, he, ⟨A9, n9, c9, rfl, ho.base hC.size⟩, hb⟩))
      · exact d_field (cx := .pointer (some ⟨gp, 0, none⟩)) rfl (by kernel_rfl) (by go_simp) rfl
      · exact Free.d_load rfl (Free.tr 6 hd) (by have hcc := (HX.out wq (bt HB4.out hC)).cellQ 4 _ rfl; go_simp) rfl
      · obtain ⟨A5, n5, k5, e5, ow5⟩ := hd 5 (by kernel_rfl); exact Free.d_call Tryz.func59 (by kernel_rfl) (by kernel_rfl) rfl rfl (arg4' (Free.tr 0 hd) (Free.tr 2 hd) (Eq.trans (b := vals 5) (by kernel_rfl) e5) (Free.tr 7 hd)) ((QL.out wq hC A5 n5 k5 ow5.bs).mono fun e w2 h => (by obtain ⟨A7, n7, c7, B7, m7, k7, he, h1, h2, hb⟩ := h; exact ⟨_, he, ⟨_, rfl, ⟨A7, n7, c7, B7, m7, k7, rfl, h1.base hC.size, h2.base hC.size⟩⟩, hb⟩))
      · obtain ⟨v8, e8, pd8⟩ := hd 8 (by kernel_rfl); exact Free.d_move rfl (Eq.trans (b := vals 8) (by kernel_rfl) e8) ⟨_, rfl, pd8⟩
      · obtain ⟨v9, e9, pd9⟩ := hd 9 (by kernel_rfl); exact (by obtain ⟨A7, n7, c7, B7, m7, k7, he7, h1, h2⟩ := pd9; exact Free.d_extract rfl (Eq.trans (Eq.trans (b := vals 9) (by kernel_rfl) e9) he7) (by first | rfl | (go_simp; done)) ⟨_, rfl, ⟨A7, n7, c7, B7, m7, k7, rfl, h1, h2⟩⟩)
      · obtain ⟨v9, e9, pd9⟩ := hd 9 (by kernel_rfl); exact (by obtain ⟨A7, n7, c7, B7, m7, k7, he7, h1, h2⟩ := pd9; exact Free.d_extract rfl (Eq.trans (Eq.trans (b := vals 9) (by kernel_rfl) e9) he7) (by first | rfl | (go_simp; done)) rfl)
      · exact Free.d_alloc (z := .agg #[.slice none 0 0, .slice none 0 0]) rfl (by kernel_rfl) hC.size
     ·
      intro vals wq hC hd
      refine Free.go hd ?_
      rintro _ rfl _ rfl _ rfl _ rfl _ rfl _ ⟨A5, n5, k5, rfl, ow5⟩ _ rfl _ rfl v8 ⟨_, rfl, pd8⟩ v9 ⟨_, rfl, pd9⟩ v10 ⟨_, rfl, pd10⟩ _ rfl _ ⟨g12, rfl, ge12, rw12⟩
      simp only [Free.All, Free.fl, Act.put, Free.sa, Free.s0, Free.s1]
      clear hd
      obtain ⟨A7x, n7x, c7x, B7x, m7x, k7x, rfl, hf1, hf2⟩ := pd10
      obtain ⟨Az, nz, cz, Bz, mz, kz, rfl, _, _⟩ := pd9
      have HFQ := Lib.hid (And.intro hf1 hf2)
      have HBQ := Lib.hid (bt HB4.out hC)
      have x0 := rw12.cellQ 0 _ rfl
      have x1 := rw12.cellQ 1 _ rfl
      have f0 := rw12.frozen 0
      have f1 := rw12.frozen 1
      have HRW := Lib.hid rw12
      have HGE := Lib.hid (Nat.le_trans HB4.out.size ge12)
      clear hf1 hf2 hC pd8 ow5 rw12 ge12
      go_upto_region 8 with fail
      generalize hwd : World.setCell (World.setCell wq _ _) _ _ = wd
      have hsf : setFrom g12 wq 0 [.slice A7x n7x c7x, .slice B7x m7x k7x] = wd := by rw [← hwd]; rfl
      have HROWB := Lib.hid (show Row wd g12 #[.slice A7x n7x c7x, .slice B7x m7x k7x] 55 by rw [← hsf]; exact HRW.out.all [.slice A7x n7x c7x, .slice B7x m7x k7x] rfl)
      have HBZ := Lib.hid (show Below w0.heap.size w0 wd by rw [← hsf]; exact below_setFrom HGE.out _ 0 HBQ.out)
      have HFZ := Lib.hid (show Fr wd w0.heap.size A7x n7x c7x (cl1 r0) ∧ Fr wd w0.heap.size B7x m7x k7x (cl2 r0) by rw [← hsf]; exact ⟨(HFQ.out.1.setBox HRW.out _ 0).base HB4.out.size, (HFQ.out.2.setBox HRW.out _ 0).base HB4.out.size⟩)
      clear hwd hsf x0 x1 f0 f1 HRW
      have HC2 := HCL.out
      cases r0 with
      | some r =>
       simp only at HC2
       have HC3 := Lib.hid HC2
       clear HC2
       go_upto_region 9 with fail
       have y0 := HROWB.out.cellQ 0 _ rfl
       have y1 := HROWB.out.cellQ 1 _ rfl
       have hres := HR.out wd HBZ.out
       have x0 := hres.cellQ 0 _ rfl
       have x1 := hres.cellQ 1 _ rfl
       have f0 := hres.frozen 0
       have f1 := hres.frozen 1
       have HROW := Lib.hid (show ∀ u v, Row (setFrom (gp + 1) wd 0 [u, v]) (gp + 1) #[u, v] 55 from fun u v => hres.all [u, v] rfl)
       clear hres
       go_wp2
       generalize hwd : World.setCell (World.setCell wd _ _) _ _ = we
       have hsf : setFrom (gp + 1) wd 0 [.slice A7x n7x c7x, .slice B7x m7x k7x] = we := by rw [← hwd]; rfl
       have r0 : we.cell? ⟨gp + 1, 0, none⟩ = some (.slice A7x n7x c7x) := by rw [← hsf]; exact (HROW.out _ _).cellQ 0 _ rfl
       have r1 : we.cell? ⟨gp + 1, 1, none⟩ = some (.slice B7x m7x k7x) := by rw [← hsf]; exact (HROW.out _ _).cellQ 1 _ rfl
       refine bodyPost_ret (v := .tuple #[.agg #[.slice A7x n7x c7x, .slice B7x m7x k7x], .bool true]) (by simp [results, Tryz.results21, go_sem, r0, r1]) rfl ?_
       rw [HC3.out]
       have hg1 : w.heap.size ≤ w0.heap.size := HB0.out.size
       have hlt := HLT.out
       have F1 : Fr wd w0.heap.size A7x n7x c7x _ := HFZ.out.1
       have F2 : Fr wd w0.heap.size B7x m7x k7x _ := HFZ.out.2
       refine ⟨_, _, _, _, _, _, rfl, by rw [← hsf]; exact (F1.set hlt _ 0).base hg1, by rw [← hsf]; exact (F2.set hlt _ 0).base hg1, ?_⟩
       rw [← hsf]
       exact below_setFrom (by rw [HGP.out]; omega) _ 0 (bt HB0.out HBZ.out)
      | none =>
       simp only at HC2
       go_upto_region 10 with fail
       have hrz := HX.out wd HBZ.out
       have x1 := hrz.cellQ 1 _ rfl
       have x2 := hrz.cellQ 2 _ rfl
       have x3 := hrz.cellQ 3 _ rfl
       clear hrz
       by_cases he : d.p.link.term = s
       ·
        obtain ⟨o1, o2⟩ := (show Op.bytesLess (str d.p.link.term).toList (str s).toList = false ∧ ((str d.p.link.term).toList == (str s).toList) = true by rw [he]; exact ord_eq s)
        have HC4 := Lib.hid (show R = Cl.btw (2 :: d.p.docs) (2 :: Post.write (Dc.docs L s)) by rw [HC2, if_pos he])
        clear he HC2
        go_upto_region 11 with fail
        clear o1 o2 x1 x2 x3
        have hrz := HX.out wd HBZ.out
        have x5 := hrz.cellQ 5 _ rfl
        clear hrz
        have CB := Lib.hid (show Calls Tryz.prog 61 #[.int .i64 2, .slice d.ad d.nd d.cd] wd (Ret8 wd.heap.size (2 :: d.p.docs) wd) from (rbytes_any 2 d.ad d.nd d.cd d.p.docs wd (HI.out.keep HBZ.out).b.rd (HI.out.keep HBZ.out).b.len (HI.out.keep HBZ.out).b.cap (HI.out.keep HBZ.out).b.max (Nat.le_trans HND.out (by decide))).mono fun e w2 h => h.ret8)
        unfold Ret8 at CB
        go_wp2_with fail
        (with_reducible refine CB.out.mono ?_)
        rintro e w11 ⟨A11, n11, c11, rfl, ho11, hb11⟩
        have HB11 := Lib.hid (bt HBZ.out hb11)
        have HO11 := Lib.hid (ho11.base HBZ.out.size)
        clear hb11 ho11 CB x5
        go_wp2_with fail
        (with_reducible refine (CD.out _ HB11.out).mono ?_)
        rintro e w12 ⟨A12, n12, c12, rfl, hz12, hb12⟩
        have HB12 := Lib.hid (bt HB11.out hb12)
        have HO12 := Lib.hid (HO11.out.keep hb12)
        have CW2 := rwrite_any A12 n12 c12 (Dc.docs L s) w12 hz12 HDR.out
        unfold Ret8 at CW2
        have CW2 := Lib.hid CW2
        clear hb12 hz12 CD
        go_wp2_with fail
        (with_reducible refine CW2.out.mono ?_)
        rintro e w13 ⟨A13, n13, c13, rfl, ho13, hb13⟩
        have HB13 := Lib.hid (bt HB12.out hb13)
        have HO13 := Lib.hid (HO12.out.keep hb13)
        have HN13 := Lib.hid (show n13 ≤ 100000 by rw [← ho13.len]; have := Post.write_len HDR.out; omega)
        have CB2 := Lib.hid (show Calls Tryz.prog 61 #[.int .i64 2, .slice A13 n13 c13] w13 (Ret8 w13.heap.size (2 :: Post.write (Dc.docs L s)) w13) from (rbytes_any 2 A13 n13 c13 (Post.write (Dc.docs L s)) w13 ho13.bs.rd ho13.len ho13.cap ho13.max (Nat.le_trans HN13.out (by decide))).mono fun e w2 h => h.ret8)
        unfold Ret8 at CB2
        have HLW := Lib.hid ho13.len
        clear hb13 CW2 ho13
        go_wp2_with fail
        (with_reducible refine CB2.out.mono ?_)
        rintro e w14 ⟨A14, n14, c14, rfl, ho14, hb14⟩
        have HB14 := Lib.hid (bt HB13.out hb14)
        have HO14 := Lib.hid (HO13.out.keep hb14)
        have HP14 := Lib.hid (ho14.base HB13.out.size)
        clear hb14 ho14 CB2
        have CBW := rbetw_any w0.heap.size A11 n11 c11 A14 n14 c14 _ _ w14 HB14.out.size (Fr.of8 HO14.out) (by rw [← HO14.out.len, List.length_cons, HI.out.b.len]; have := HND.out; omega) (Fr.of8 HP14.out) (by rw [← HP14.out.len, List.length_cons, HLW.out]; have := HN13.out; omega)
        rw [← HC4.out] at CBW
        unfold ResPost at CBW
        have CBW := Lib.hid CBW
        go_wp2_with fail
        (with_reducible refine CBW.out.mono ?_)
        rintro e w15 ⟨A9, n9, c9, B9, m9, k9, rfl, hf1, hf2, hb15⟩
        have HB15 := Lib.hid (bt HB14.out hb15)
        have HF15 := Lib.hid (And.intro hf1 hf2)
        clear hb15 CBW hf1 hf2
        have hres := HR.out w15 HB15.out
        have x0 := hres.cellQ 0 _ rfl
        have x1 := hres.cellQ 1 _ rfl
        have f0 := hres.frozen 0
        have f1 := hres.frozen 1
        have HROW := Lib.hid (show ∀ u v, Row (setFrom (gp + 1) w15 0 [u, v]) (gp + 1) #[u, v] 55 from fun u v => hres.all [u, v] rfl)
        clear hres
        go_wp2
        generalize hwd : World.setCell (World.setCell w15 _ _) _ _ = we
        have hsf : setFrom (gp + 1) w15 0 [.slice A9 n9 c9, .slice B9 m9 k9] = we := by rw [← hwd]; rfl
        have r0 : we.cell? ⟨gp + 1, 0, none⟩ = some (.slice A9 n9 c9) := by rw [← hsf]; exact (HROW.out _ _).cellQ 0 _ rfl
        have r1 : we.cell? ⟨gp + 1, 1, none⟩ = some (.slice B9 m9 k9) := by rw [← hsf]; exact (HROW.out _ _).cellQ 1 _ rfl
        refine bodyPost_ret (v := .tuple #[.agg #[.slice A9 n9 c9, .slice B9 m9 k9], .bool R.isSome]) (by simp [results, Tryz.results21, go_sem, r0, r1]) rfl ?_
        skip
        have hg1 : w.heap.size ≤ w0.heap.size := HB0.out.size
        have hlt := HLT.out
        have F1 : Fr w15 w0.heap.size A9 n9 c9 _ := HF15.out.1
        have F2 : Fr w15 w0.heap.size B9 m9 k9 _ := HF15.out.2
        refine ⟨_, _, _, _, _, _, rfl, by rw [← hsf]; exact (F1.set hlt _ 0).base hg1, by rw [← hsf]; exact (F2.set hlt _ 0).base hg1, ?_⟩
        rw [← hsf]
        exact below_setFrom (by rw [HGP.out]; omega) _ 0 (bt HB0.out HB15.out)
       ·
        have hq : ((str d.p.link.term).toList == (str s).toList) = false := by rw [strEq]; exact decide_eq_false he
        have HN := Lib.hid (show R = none by rw [HC2, if_neg he])
        clear he HC2
        go_upto_region 12 with fail
        clear hq x1 x2 x3
        have hres := HR.out wd HBZ.out
        have x0 := hres.cellQ 0 _ rfl
        have x1 := hres.cellQ 1 _ rfl
        have f0 := hres.frozen 0
        have f1 := hres.frozen 1
        have HROW := Lib.hid (show ∀ u v, Row (setFrom (gp + 1) wd 0 [u, v]) (gp + 1) #[u, v] 55 from fun u v => hres.all [u, v] rfl)
        clear hres
        go_wp2
        generalize hwd : World.setCell (World.setCell wd _ _) _ _ = we
        have hsf : setFrom (gp + 1) wd 0 [.slice none 0 0, .slice none 0 0] = we := by rw [← hwd]; rfl
        have r0 : we.cell? ⟨gp + 1, 0, none⟩ = some (.slice none 0 0) := by rw [← hsf]; exact (HROW.out _ _).cellQ 0 _ rfl
        have r1 : we.cell? ⟨gp + 1, 1, none⟩ = some (.slice none 0 0) := by rw [← hsf]; exact (HROW.out _ _).cellQ 1 _ rfl
        refine bodyPost_ret (v := .tuple #[.agg #[.slice none 0 0, .slice none 0 0], .bool false]) (by simp [results, Tryz.results21, go_sem, r0, r1]) rfl ?_
        rw [HN.out]
        have hg1 : w.heap.size ≤ w0.heap.size := HB0.out.size
        have hlt := HLT.out
        have F1 : Fr wd w0.heap.size none 0 0 _ := (Fr.nil _ _)
        have F2 : Fr wd w0.heap.size none 0 0 _ := (Fr.nil _ _)
        refine ⟨_, _, _, _, _, _, rfl, by rw [← hsf]; exact (F1.set hlt _ 0).base hg1, by rw [← hsf]; exact (F2.set hlt _ 0).base hg1, ?_⟩
        rw [← hsf]
        exact below_setFrom (by rw [HGP.out]; omega) _ 0 (bt HB0.out HBZ.out)
     ·
      intro vals wq hC hd hlate
      have e0 : vals 0 = _ := hd 0 (by decide) (by decide)
      have e1 : vals 1 = _ := hd 1 (by decide) (by decide)
      have e2 : vals 2 = _ := hd 2 (by decide) (by decide)
      have e3 : vals 3 = _ := hd 3 (by decide) (by decide)
      have e4 : vals 4 = _ := hd 4 (by decide) (by decide)
      obtain ⟨A5, n5, k5, e5, ow5⟩ := hd 5 (by decide) (by decide)
      have e6 : vals 6 = _ := hd 6 (by decide) (by decide)
      have e7 : vals 7 = _ := hd 7 (by decide) (by decide)
      obtain ⟨v8, e8, pd8⟩ := hd 8 (by decide) (by decide)
      obtain ⟨v9, e9, pd9⟩ := hd 9 (by decide) (by decide)
      obtain ⟨v10, e10, pd10⟩ := hd 10 (by decide) (by decide)
      have e11 := hlate
      obtain ⟨g12, e12, ge12, rw12⟩ := hd 12 (by decide) (by decide)
      simp only [Free.frameOf, List.range, List.range.loop, List.foldl, Free.dstOf, List.getElem?_toArray, List.getElem?_cons_zero, List.getElem?_cons_succ, Option.bind_some, Act.put, List.setIfInBounds_toArray, List.set_cons_zero, List.set_cons_succ, e0, e1, e2, e3, e4, e5, e6, e7, e8, e9, e10, e11, e12]
      clear hd e0 e1 e2 e3 e4 e5 e6 e7 e8 e9 e10 e11 e12
      obtain ⟨A7x, n7x, c7x, B7x, m7x, k7x, rfl, hf1, hf2⟩ := pd10
      obtain ⟨Az, nz, cz, Bz, mz, kz, rfl, _, _⟩ := pd9
      have HFQ := Lib.hid (And.intro hf1 hf2)
      have HBQ := Lib.hid (bt HB4.out hC)
      have x0 := rw12.cellQ 0 _ rfl
      have x1 := rw12.cellQ 1 _ rfl
      have f0 := rw12.frozen 0
      have f1 := rw12.frozen 1
      have HRW := Lib.hid rw12
      have HGE := Lib.hid (Nat.le_trans HB4.out.size ge12)
      clear hf1 hf2 hC pd8 ow5 rw12 ge12
      go_upto_region 8 with fail
      generalize hwd : World.setCell (World.setCell wq _ _) _ _ = wd
      have hsf : setFrom g12 wq 0 [.slice A7x n7x c7x, .slice B7x m7x k7x] = wd := by rw [← hwd]; rfl
      have HROWB := Lib.hid (show Row wd g12 #[.slice A7x n7x c7x, .slice B7x m7x k7x] 55 by rw [← hsf]; exact HRW.out.all [.slice A7x n7x c7x, .slice B7x m7x k7x] rfl)
      have HBZ := Lib.hid (show Below w0.heap.size w0 wd by rw [← hsf]; exact below_setFrom HGE.out _ 0 HBQ.out)
      have HFZ := Lib.hid (show Fr wd w0.heap.size A7x n7x c7x (cl1 r0) ∧ Fr wd w0.heap.size B7x m7x k7x (cl2 r0) by rw [← hsf]; exact ⟨(HFQ.out.1.setBox HRW.out _ 0).base HB4.out.size, (HFQ.out.2.setBox HRW.out _ 0).base HB4.out.size⟩)
      clear hwd hsf x0 x1 f0 f1 HRW
      have HC2 := HCL.out
      cases r0 with
      | some r =>
       simp only at HC2
       have HC3 := Lib.hid HC2
       clear HC2
       go_upto_region 9 with fail
       have y0 := HROWB.out.cellQ 0 _ rfl
       have y1 := HROWB.out.cellQ 1 _ rfl
       have hres := HR.out wd HBZ.out
       have x0 := hres.cellQ 0 _ rfl
       have x1 := hres.cellQ 1 _ rfl
       have f0 := hres.frozen 0
       have f1 := hres.frozen 1
       have HROW := Lib.hid (show ∀ u v, Row (setFrom (gp + 1) wd 0 [u, v]) (gp + 1) #[u, v] 55 from fun u v => hres.all [u, v] rfl)
       clear hres
       go_wp2
       generalize hwd : World.setCell (World.setCell wd _ _) _ _ = we
       have hsf : setFrom (gp + 1) wd 0 [.slice A7x n7x c7x, .slice B7x m7x k7x] = we := by rw [← hwd]; rfl
       have r0 : we.cell? ⟨gp + 1, 0, none⟩ = some (.slice A7x n7x c7x) := by rw [← hsf]; exact (HROW.out _ _).cellQ 0 _ rfl
       have r1 : we.cell? ⟨gp + 1, 1, none⟩ = some (.slice B7x m7x k7x) := by rw [← hsf]; exact (HROW.out _ _).cellQ 1 _ rfl
       refine bodyPost_ret (v := .tuple #[.agg #[.slice A7x n7x c7x, .slice B7x m7x k7x], .bool true]) (by simp [results, Tryz.results21, go_sem, r0, r1]) rfl ?_
       rw [HC3.out]
       have hg1 : w.heap.size ≤ w0.heap.size := HB0.out.size
       have hlt := HLT.out
       have F1 : Fr wd w0.heap.size A7x n7x c7x _ := HFZ.out.1
       have F2 : Fr wd w0.heap.size B7x m7x k7x _ := HFZ.out.2
       refine ⟨_, _, _, _, _, _, rfl, by rw [← hsf]; exact (F1.set hlt _ 0).base hg1, by rw [← hsf]; exact (F2.set hlt _ 0).base hg1, ?_⟩
       rw [← hsf]
       exact below_setFrom (by rw [HGP.out]; omega) _ 0 (bt HB0.out HBZ.out)
      | none =>
       simp only at HC2
       go_upto_region 10 with fail
       have hrz := HX.out wd HBZ.out
       have x1 := hrz.cellQ 1 _ rfl
       have x2 := hrz.cellQ 2 _ rfl
       have x3 := hrz.cellQ 3 _ rfl
       clear hrz
       by_cases he : d.p.link.term = s
       ·
        obtain ⟨o1, o2⟩ := (show Op.bytesLess (str d.p.link.term).toList (str s).toList = false ∧ ((str d.p.link.term).toList == (str s).toList) = true by rw [he]; exact ord_eq s)
        have HC4 := Lib.hid (show R = Cl.btw (2 :: d.p.docs) (2 :: Post.write (Dc.docs L s)) by rw [HC2, if_pos he])
        clear he HC2
        go_upto_region 11 with fail
        clear o1 o2 x1 x2 x3
        have hrz := HX.out wd HBZ.out
        have x5 := hrz.cellQ 5 _ rfl
        clear hrz
        have CB := Lib.hid (show Calls Tryz.prog 61 #[.int .i64 2, .slice d.ad d.nd d.cd] wd (Ret8 wd.heap.size (2 :: d.p.docs) wd) from (rbytes_any 2 d.ad d.nd d.cd d.p.docs wd (HI.out.keep HBZ.out).b.rd (HI.out.keep HBZ.out).b.len (HI.out.keep HBZ.out).b.cap (HI.out.keep HBZ.out).b.max (Nat.le_trans HND.out (by decide))).mono fun e w2 h => h.ret8)
        unfold Ret8 at CB
        go_wp2_with fail
        (with_reducible refine CB.out.mono ?_)
        rintro e w11 ⟨A11, n11, c11, rfl, ho11, hb11⟩
        have HB11 := Lib.hid (bt HBZ.out hb11)
        have HO11 := Lib.hid (ho11.base HBZ.out.size)
        clear hb11 ho11 CB x5
        go_wp2_with fail
        (with_reducible refine (CD.out _ HB11.out).mono ?_)
        rintro e w12 ⟨A12, n12, c12, rfl, hz12, hb12⟩
        have HB12 := Lib.hid (bt HB11.out hb12)
        have HO12 := Lib.hid (HO11.out.keep hb12)
        have CW2 := rwrite_any A12 n12 c12 (Dc.docs L s) w12 hz12 HDR.out
        unfold Ret8 at CW2
        have CW2 := Lib.hid CW2
        clear hb12 hz12 CD
        go_wp2_with fail
        (with_reducible refine CW2.out.mono ?_)
        rintro e w13 ⟨A13, n13, c13, rfl, ho13, hb13⟩
        have HB13 := Lib.hid (bt HB12.out hb13)
        have HO13 := Lib.hid (HO12.out.keep hb13)
        have HN13 := Lib.hid (show n13 ≤ 100000 by rw [← ho13.len]; have := Post.write_len HDR.out; omega)
        have CB2 := Lib.hid (show Calls Tryz.prog 61 #[.int .i64 2, .slice A13 n13 c13] w13 (Ret8 w13.heap.size (2 :: Post.write (Dc.docs L s)) w13) from (rbytes_any 2 A13 n13 c13 (Post.write (Dc.docs L s)) w13 ho13.bs.rd ho13.len ho13.cap ho13.max (Nat.le_trans HN13.out (by decide))).mono fun e w2 h => h.ret8)
        unfold Ret8 at CB2
        have HLW := Lib.hid ho13.len
        clear hb13 CW2 ho13
        go_wp2_with fail
        (with_reducible refine CB2.out.mono ?_)
        rintro e w14 ⟨A14, n14, c14, rfl, ho14, hb14⟩
        have HB14 := Lib.hid (bt HB13.out hb14)
        have HO14 := Lib.hid (HO13.out.keep hb14)
        have HP14 := Lib.hid (ho14.base HB13.out.size)
        clear hb14 ho14 CB2
        have CBW := rbetw_any w0.heap.size A11 n11 c11 A14 n14 c14 _ _ w14 HB14.out.size (Fr.of8 HO14.out) (by rw [← HO14.out.len, List.length_cons, HI.out.b.len]; have := HND.out; omega) (Fr.of8 HP14.out) (by rw [← HP14.out.len, List.length_cons, HLW.out]; have := HN13.out; omega)
        rw [← HC4.out] at CBW
        unfold ResPost at CBW
        have CBW := Lib.hid CBW
        go_wp2_with fail
        (with_reducible refine CBW.out.mono ?_)
        rintro e w15 ⟨A9, n9, c9, B9, m9, k9, rfl, hf1, hf2, hb15⟩
        have HB15 := Lib.hid (bt HB14.out hb15)
        have HF15 := Lib.hid (And.intro hf1 hf2)
        clear hb15 CBW hf1 hf2
        have hres := HR.out w15 HB15.out
        have x0 := hres.cellQ 0 _ rfl
        have x1 := hres.cellQ 1 _ rfl
        have f0 := hres.frozen 0
        have f1 := hres.frozen 1
        have HROW := Lib.hid (show ∀ u v, Row (setFrom (gp + 1) w15 0 [u, v]) (gp + 1) #[u, v] 55 from fun u v => hres.all [u, v] rfl)
        clear hres
        go_wp2
        generalize hwd : World.setCell (World.setCell w15 _ _) _ _ = we
        have hsf : setFrom (gp + 1) w15 0 [.slice A9 n9 c9, .slice B9 m9 k9] = we := by rw [← hwd]; rfl
        have r0 : we.cell? ⟨gp + 1, 0, none⟩ = some (.slice A9 n9 c9) := by rw [← hsf]; exact (HROW.out _ _).cellQ 0 _ rfl
        have r1 : we.cell? ⟨gp + 1, 1, none⟩ = some (.slice B9 m9 k9) := by rw [← hsf]; exact (HROW.out _ _).cellQ 1 _ rfl
        refine bodyPost_ret (v := .tuple #[.agg #[.slice A9 n9 c9, .slice B9 m9 k9], .bool R.isSome]) (by simp [results, Tryz.results21, go_sem, r0, r1]) rfl ?_
        skip
        have hg1 : w.heap.size ≤ w0.heap.size := HB0.out.size
        have hlt := HLT.out
        have F1 : Fr w15 w0.heap.size A9 n9 c9 _ := HF15.out.1
        have F2 : Fr w15 w0.heap.size B9 m9 k9 _ := HF15.out.2
        refine ⟨_, _, _, _, _, _, rfl, by rw [← hsf]; exact (F1.set hlt _ 0).base hg1, by rw [← hsf]; exact (F2.set hlt _ 0).base hg1, ?_⟩
        rw [← hsf]
        exact below_setFrom (by rw [HGP.out]; omega) _ 0 (bt HB0.out HB15.out)
       ·
        have hq : ((str d.p.link.term).toList == (str s).toList) = false := by rw [strEq]; exact decide_eq_false he
        have HN := Lib.hid (show R = none by rw [HC2, if_neg he])
        clear he HC2
        go_upto_region 12 with fail
        clear hq x1 x2 x3
        have hres := HR.out wd HBZ.out
        have x0 := hres.cellQ 0 _ rfl
        have x1 := hres.cellQ 1 _ rfl
        have f0 := hres.frozen 0
        have f1 := hres.frozen 1
        have HROW := Lib.hid (show ∀ u v, Row (setFrom (gp + 1) wd 0 [u, v]) (gp + 1) #[u, v] 55 from fun u v => hres.all [u, v] rfl)
        clear hres
        go_wp2
        generalize hwd : World.setCell (World.setCell wd _ _) _ _ = we
        have hsf : setFrom (gp + 1) wd 0 [.slice none 0 0, .slice none 0 0] = we := by rw [← hwd]; rfl
        have r0 : we.cell? ⟨gp + 1, 0, none⟩ = some (.slice none 0 0) := by rw [← hsf]; exact (HROW.out _ _).cellQ 0 _ rfl
        have r1 : we.cell? ⟨gp + 1, 1, none⟩ = some (.slice none 0 0) := by rw [← hsf]; exact (HROW.out _ _).cellQ 1 _ rfl
        refine bodyPost_ret (v := .tuple #[.agg #[.slice none 0 0, .slice none 0 0], .bool false]) (by simp [results, Tryz.results21, go_sem, r0, r1]) rfl ?_
        rw [HN.out]
        have hg1 : w.heap.size ≤ w0.heap.size := HB0.out.size
        have hlt := HLT.out
        have F1 : Fr wd w0.heap.size none 0 0 _ := (Fr.nil _ _)
        have F2 : Fr wd w0.heap.size none 0 0 _ := (Fr.nil _ _)
        refine ⟨_, _, _, _, _, _, rfl, by rw [← hsf]; exact (F1.set hlt _ 0).base hg1, by rw [← hsf]; exact (F2.set hlt _ 0).base hg1, ?_⟩
        rw [← hsf]
        exact below_setFrom (by rw [HGP.out]; omega) _ 0 (bt HB0.out HBZ.out)
end Go.Proofs.YteoledjllpgcbaaGreatDoor
