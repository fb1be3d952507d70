/- The clash of a proof of a term: the program's. No statement of the seat is proved here. -/
import Derived.Test.YteoledjllpgcbaaGreatDoorMTermC
import Derived.Test.YteoledjllpgcbaaGreatDoorMClashQ
namespace Go.Proofs.YteoledjllpgcbaaGreatDoor
set_option maxRecDepth 100000
set_option maxHeartbeats 64000000
set_option linter.unusedVariables false
open Go.RowKit
theorem Dc.clash_no1 {L : List EnD} {s : List UInt8} {p : Hd.Pf} (h : Dc.right L = false) : Dc.clash L s p = none := by unfold Dc.clash; rw [if_neg (fun g => by rw [h] at g; exact absurd g.1 (by decide))]
theorem Dc.clash_no2 {L : List EnD} {s : List UInt8} {p : Hd.Pf} (h : Tok.right s = false) : Dc.clash L s p = none := by unfold Dc.clash; rw [if_neg (fun g => by rw [h] at g; exact absurd g.2.1 (by decide))]
theorem Dc.clash_no3 {L : List EnD} {s : List UInt8} {p : Hd.Pf} (h : Dc.check (Dc.root L) ((L.length + 1 : Nat) : Int) s p = none) : Dc.clash L s p = none := by unfold Dc.clash; rw [if_neg (fun g => by rw [h] at g; exact absurd g.2.2 (by decide))]
theorem Dc.clash_some {L : List EnD} {s : List UInt8} {p : Hd.Pf} {m : List Int} (h1 : Dc.right L = true) (h2 : Tok.right s = true) (h3 : Dc.check (Dc.root L) ((L.length + 1 : Nat) : Int) s p = some m) :
  Dc.clash L s p = (match Dc.lfL (Dc.links L) p with | some c => some c | none => if p.link.term = s then Cl.btw (2 :: p.docs) (2 :: Post.write (Dc.docs L s)) else none) := by
 unfold Dc.clash
 rw [if_pos ⟨h1, h2, by rw [h3]; rfl⟩]
 rfl
theorem Dc.lfB_lfL {f : Nat → Piece} {n : Nat} {l : List (List UInt8)} {p : Hd.Pf} (h : raws f n = l) : lfB f n p.at_ p.link.bytes p.path = Dc.lfL l p := by
 have hn : l.length = n := by rw [← h]; simp [raws]
 unfold lfB Dc.lfL fairB Dc.fit
 rw [h, hn, Int.toNat_natCast]
theorem Dc.check_may {root : List UInt8} {n : Int} {s : List UInt8} {p : Hd.Pf} {m : List Int} (h : Dc.check root n s p = some m) : p.link.may = true := by
 unfold Dc.check Dc.climbs at h
 cases hm : p.link.may with
 | true => rfl
 | false => rw [hm] at h; simp at h
theorem Dc.check_fit {root : List UInt8} {n : Int} {s : List UInt8} {p : Hd.Pf} {m : List Int} (h : Dc.check root n s p = some m) : Dc.fit n p = true := by
 unfold Dc.check Dc.climbs at h
 cases hm : Dc.fit n p with
 | true => rfl
 | false => rw [hm] at h; simp at h
theorem Dc.docs_right {L : List EnD} (hL : Dc.Good L) (s : List UInt8) : Post.right (Dc.docs L s) = true := by
 cases hh : Dc.has L s with
 | false => unfold Dc.docs; rw [hh]; rfl
 | true =>
  obtain ⟨j, e, _, he, _, hd⟩ := Dc.hasAt_some hh
  rw [hd]
  exact (Dc.okE_iff.1 (hL.ok j e he)).2.1
theorem Dc.root_fair (L : List EnD) (hL : L.length ≤ 1000) {s : List UInt8} (h : Tok.right s = true) : Dc.fairC (Dc.root L) ((L.length + 1 : Nat) : Int) s = true := Dc.fairC_iff.2 ⟨troot_len (Cl.lv_all _), by omega, by omega, h⟩
theorem Dc.root_unfair (L : List EnD) (n : Int) {s : List UInt8} (h : Tok.right s = false) : Dc.fairC (Dc.root L) n s = false := by
 cases hf : Dc.fairC (Dc.root L) n s with
 | false => rfl
 | true => have := (Dc.fairC_iff.1 hf).2.2.2; rw [h] at this; cases this
theorem tclash_any (A : Option Addr) (n c : Nat) (L : List EnD) (s : List UInt8) (d : PfD) (w : World) (hs : InEs w A n c L) (hl : ∀ e ∈ L, e.t.length ≤ 200 ∧ e.l.length ≤ 200) (hn : n ≤ 100) (hsl : s.length ≤ 200) (hi : InPf w d) (hpw : ∀ x ∈ d.p.path, x.length ≤ maxLen) (hnd : d.nd ≤ 100000) (hat : -9223372036854775808 ≤ d.p.at_ ∧ d.p.at_ ≤ 9223372036854775807) (ht : Ut.UTabs w) (htt : Tabs w) :
  Calls Tryz.prog 20 #[.slice A n c, sv s, pfv d.ap d.np d.cp d.ad d.nd d.cd d.p] w (ResPost w.heap.size (Dc.clash L s d.p) w) := by
 obtain ⟨gp, hgp⟩ : ∃ g, w.heap.size = g := ⟨_, rfl⟩
 obtain ⟨wx, hwx⟩ : ∃ W, w.alloc (.cells #[.int .i64 d.p.at_, sv d.p.link.term, sv d.p.link.next, sv d.p.link.posts, .slice d.ap d.np d.cp, .slice d.ad d.nd d.cd] 30) = W := ⟨_, rfl⟩
 have hbx := (Below.refl w.heap.size w).alloc (Nat.le_refl _) (.cells #[.int .i64 d.p.at_, sv d.p.link.term, sv d.p.link.next, sv d.p.link.posts, .slice d.ap d.np d.cp, .slice d.ad d.nd d.cd] 30)
 have hrx := row_new w #[.int .i64 d.p.at_, sv d.p.link.term, sv d.p.link.next, sv d.p.link.posts, .slice d.ap d.np d.cp, .slice d.ad d.nd d.cd] 30
 have hzx : wx.heap.size = gp + 1 := by rw [← hwx, ← hgp]; unfold World.alloc; simp
 rw [hwx] at hbx hrx
 rw [hgp] at hrx
 obtain ⟨w0, hw0⟩ : ∃ W, wx.alloc (.cells #[.slice none 0 0, .slice none 0 0] 52) = W := ⟨_, rfl⟩
 have hb0 := (Below.refl wx.heap.size wx).alloc (Nat.le_refl _) (.cells #[.slice none 0 0, .slice none 0 0] 52)
 have hr0 := row_new wx #[.slice none 0 0, .slice none 0 0] 52
 rw [hw0] at hb0 hr0
 rw [hzx] at hr0
 have hrp := hrx.belowS hb0 (Nat.le_refl _)
 have HW := Lib.hid (And.intro hwx hw0)
 have HB0 := Lib.hid (bt hbx hb0)
 have HX := Lib.hid (fun (W : World) (hW : Below w0.heap.size w0 W) => hrp.belowS hW (Nat.le_refl _))
 have HR := Lib.hid (fun (W : World) (hW : Below w0.heap.size w0 W) => hr0.belowS hW (Nat.le_refl _))
 have HLT := Lib.hid (show gp + 1 < w0.heap.size from hr0.lt)
 have HGP := Lib.hid hgp
 obtain ⟨R, hR⟩ : ∃ R, Dc.clash L s d.p = R := ⟨_, rfl⟩
 rw [hR]
 have hs0 := hs.keep HB0.out
 have ht0 := ht.below HB0.out
 have htt0 := htt.below HB0.out
 have hi0 := hi.keep HB0.out
 obtain ⟨m, hm⟩ : ∃ m, L.length + 1 = m := ⟨_, rfl⟩
 have hm1 : m ≤ 101 := by rw [← hm, hs.q.len]; omega
 clear hwx hbx hrx hzx hw0 hb0 hr0 hrp
 cases hr : Dc.right L with
 | false =>
  have HN := Lib.hid (show R = none by rw [← hR, Dc.clash_no1 hr])
  have CL := Lib.hid (dlinks_no A n c L w0 hs0 (fun e he => (hl e he).1) ht0 hr)
  clear hs hs0 hl ht ht0 htt htt0 hi hi0 hr hR hm hpw hat hnd hsl
  unfold pfv
  go_enter Tryz.func20, Tryz.ntmps20
  go_upto_region 1 with fail
  rw [HW.out.1, HW.out.2]
  clear hgp
  go_wp2_with fail
  (with_reducible refine CL.out.mono ?_)
  rintro e w1 ⟨rfl, hb1⟩
  have HB1 := Lib.hid hb1
  clear hb1 CL
  have hres := HR.out w1 HB1.out
  have x0 := hres.cellQ 0 _ rfl
  have x1 := hres.cellQ 1 _ rfl
  have f0 := hres.frozen 0
  have f1 := hres.frozen 1
  have HROW := Lib.hid (show ∀ u v, Row (setFrom (gp + 1) w1 0 [u, v]) (gp + 1) #[u, v] 52 from fun u v => hres.all [u, v] rfl)
  clear hres
  go_wp2
  generalize hwd : World.setCell (World.setCell w1 _ _) _ _ = wd
  have hsf : setFrom (gp + 1) w1 0 [.slice none 0 0, .slice none 0 0] = wd := by rw [← hwd]; rfl
  have r0 : wd.cell? ⟨gp + 1, 0, none⟩ = some (.slice none 0 0) := by rw [← hsf]; exact (HROW.out _ _).cellQ 0 _ rfl
  have r1 : wd.cell? ⟨gp + 1, 1, none⟩ = some (.slice none 0 0) := by rw [← hsf]; exact (HROW.out _ _).cellQ 1 _ rfl
  refine bodyPost_ret (v := .tuple #[.agg #[.slice none 0 0, .slice none 0 0], .bool false]) (by simp [results, Tryz.results20, go_sem, r0, r1]) rfl ?_
  rw [HN.out]
  have hg1 : w.heap.size ≤ w0.heap.size := HB0.out.size
  have hlt := HLT.out
  have F1 : Fr w1 w0.heap.size none 0 0 _ := (Fr.nil _ _)
  have F2 : Fr w1 w0.heap.size none 0 0 _ := (Fr.nil _ _)
  refine ⟨_, _, _, _, _, _, rfl, by rw [← hsf]; exact (F1.set hlt _ 0).base hg1, by rw [← hsf]; exact (F2.set hlt _ 0).base hg1, ?_⟩
  rw [← hsf]
  exact below_setFrom (by rw [HGP.out]; omega) _ 0 (bt HB0.out HB1.out)
 | true =>
  have hgd := Dc.good_of hr
  have CL := dlinks_yes A n c L w0 hs0 (fun e he => (hl e he).1) (by omega) ht0 htt0 hr
  unfold LinksPost at CL
  rw [hm] at CL
  have CL := Lib.hid CL
  have CR := Lib.hid (fun (W : World) (hW : Below w0.heap.size w0 W) => droot_yes A n c L W (hs0.keep hW) (fun e he => (hl e he).1) (by omega) (ht0.below hW) (htt0.below hW) hr)
  obtain ⟨rt, hrt⟩ : ∃ r, Dc.root L = r := ⟨_, rfl⟩
  rw [hrt] at CR
  have hrl : rt.length ≤ 200 := by rw [← hrt, troot_len (Cl.lv_all _)]; omega
  cases hk : Tok.right s with
  | false =>
   have HN := Lib.hid (show R = none by rw [← hR, Dc.clash_no2 hk])
   have CC := Lib.hid (fun (W : World) (hW : Below w0.heap.size w0 W) => tcheck_arg rt (m : Int) s d.ap d.np d.cp d.ad d.nd d.cd d.p W hrl hsl (by omega) (ht0.below hW) (by rw [← hrt]; exact Dc.root_unfair L _ hk))
   unfold pfv at CC
   clear hs hs0 hl ht ht0 htt htt0 hi hi0 hr hR hm hpw hat hnd hsl hgd hrt hrl hk
   unfold pfv
   go_enter Tryz.func20, Tryz.ntmps20
   go_upto_region 1 with fail
   rw [HW.out.1, HW.out.2]
   clear hgp
   go_wp2_with fail
   (with_reducible refine CL.out.mono ?_)
   rintro e w1 ⟨A1, c1, f1, rfl, hl1, hb1⟩
   have HL1 := Lib.hid hl1
   have HB1 := Lib.hid hb1
   clear hb1 CL hl1
   go_wp2_with fail
   (with_reducible refine (CR.out _ HB1.out).mono ?_)
   rintro e w2 ⟨rfl, hb2⟩
   have HX2 := Lib.hid hb2
   have HB2 := Lib.hid (bt HB1.out hb2)
   clear hb2 CR
   have hrz := HX.out w2 HB2.out
   have x0 := hrz.cellQ 0 _ rfl
   have x1 := hrz.cellQ 1 _ rfl
   have x2 := hrz.cellQ 2 _ rfl
   have x3 := hrz.cellQ 3 _ rfl
   have x4 := hrz.cellQ 4 _ rfl
   have x5 := hrz.cellQ 5 _ rfl
   clear hrz
   go_wp2_with fail
   (with_reducible refine (CC.out _ HB2.out).mono ?_)
   rintro e w3 ⟨rfl, hb3⟩
   have HB3 := Lib.hid (bt HB2.out hb3)
   clear hb3 CC x0 x1 x2 x3 x4 x5
   have hres := HR.out w3 HB3.out
   have x0 := hres.cellQ 0 _ rfl
   have x1 := hres.cellQ 1 _ rfl
   have f0 := hres.frozen 0
   have f1 := hres.frozen 1
   have HROW := Lib.hid (show ∀ u v, Row (setFrom (gp + 1) w3 0 [u, v]) (gp + 1) #[u, v] 52 from fun u v => hres.all [u, v] rfl)
   clear hres
   go_wp2
   generalize hwd : World.setCell (World.setCell w3 _ _) _ _ = wd
   have hsf : setFrom (gp + 1) w3 0 [.slice none 0 0, .slice none 0 0] = wd := by rw [← hwd]; rfl
   have r0 : wd.cell? ⟨gp + 1, 0, none⟩ = some (.slice none 0 0) := by rw [← hsf]; exact (HROW.out _ _).cellQ 0 _ rfl
   have r1 : wd.cell? ⟨gp + 1, 1, none⟩ = some (.slice none 0 0) := by rw [← hsf]; exact (HROW.out _ _).cellQ 1 _ rfl
   refine bodyPost_ret (v := .tuple #[.agg #[.slice none 0 0, .slice none 0 0], .bool false]) (by simp [results, Tryz.results20, go_sem, r0, r1]) rfl ?_
   rw [HN.out]
   have hg1 : w.heap.size ≤ w0.heap.size := HB0.out.size
   have hlt := HLT.out
   have F1 : Fr w3 w0.heap.size none 0 0 _ := (Fr.nil _ _)
   have F2 : Fr w3 w0.heap.size none 0 0 _ := (Fr.nil _ _)
   refine ⟨_, _, _, _, _, _, rfl, by rw [← hsf]; exact (F1.set hlt _ 0).base hg1, by rw [← hsf]; exact (F2.set hlt _ 0).base hg1, ?_⟩
   rw [← hsf]
   exact below_setFrom (by rw [HGP.out]; omega) _ 0 (bt HB0.out HB3.out)
  | true =>
   obtain ⟨ck, hck⟩ : ∃ r, Dc.check rt (m : Int) s d.p = r := ⟨_, rfl⟩
   have CC := fun (W : World) (hW : Below w0.heap.size w0 W) => tcheck_any rt (m : Int) s d.ap d.np d.cp d.ad d.nd d.cd d.p W hsl (hi0.s.keep hW) hpw (hi0.b.keep hW) hnd hat (ht0.below hW) (htt0.below hW) (by rw [← hrt, ← hm]; exact Dc.root_fair L (by omega) hk)
   rw [hck] at CC
   unfold pfv CheckPost at CC
   rw [← hrt, ← hm] at hck
   cases ck with
   | none =>
    have HN := Lib.hid (show R = none by rw [← hR, Dc.clash_no3 hck])
    simp only at CC
    have CC := Lib.hid CC
    clear hs hs0 hl ht ht0 htt htt0 hi hi0 hr hR hm hpw hat hnd hsl hgd hrt hrl hk hck
    unfold pfv
    go_enter Tryz.func20, Tryz.ntmps20
    go_upto_region 1 with fail
    rw [HW.out.1, HW.out.2]
    clear hgp
    go_wp2_with fail
    (with_reducible refine CL.out.mono ?_)
    rintro e w1 ⟨A1, c1, f1, rfl, hl1, hb1⟩
    have HL1 := Lib.hid hl1
    have HB1 := Lib.hid hb1
    clear hb1 CL hl1
    go_wp2_with fail
    (with_reducible refine (CR.out _ HB1.out).mono ?_)
    rintro e w2 ⟨rfl, hb2⟩
    have HX2 := Lib.hid hb2
    have HB2 := Lib.hid (bt HB1.out hb2)
    clear hb2 CR
    have hrz := HX.out w2 HB2.out
    have x0 := hrz.cellQ 0 _ rfl
    have x1 := hrz.cellQ 1 _ rfl
    have x2 := hrz.cellQ 2 _ rfl
    have x3 := hrz.cellQ 3 _ rfl
    have x4 := hrz.cellQ 4 _ rfl
    have x5 := hrz.cellQ 5 _ rfl
    clear hrz
    go_wp2_with fail
    (with_reducible refine (CC.out _ HB2.out).mono ?_)
    rintro e w3 ⟨hb3, rfl⟩
    have HB3 := Lib.hid (bt HB2.out hb3)
    clear hb3 CC x0 x1 x2 x3 x4 x5
    have hres := HR.out w3 HB3.out
    have x0 := hres.cellQ 0 _ rfl
    have x1 := hres.cellQ 1 _ rfl
    have f0 := hres.frozen 0
    have f1 := hres.frozen 1
    have HROW := Lib.hid (show ∀ u v, Row (setFrom (gp + 1) w3 0 [u, v]) (gp + 1) #[u, v] 52 from fun u v => hres.all [u, v] rfl)
    clear hres
    go_wp2
    generalize hwd : World.setCell (World.setCell w3 _ _) _ _ = wd
    have hsf : setFrom (gp + 1) w3 0 [.slice none 0 0, .slice none 0 0] = wd := by rw [← hwd]; rfl
    have r0 : wd.cell? ⟨gp + 1, 0, none⟩ = some (.slice none 0 0) := by rw [← hsf]; exact (HROW.out _ _).cellQ 0 _ rfl
    have r1 : wd.cell? ⟨gp + 1, 1, none⟩ = some (.slice none 0 0) := by rw [← hsf]; exact (HROW.out _ _).cellQ 1 _ rfl
    refine bodyPost_ret (v := .tuple #[.agg #[.slice none 0 0, .slice none 0 0], .bool false]) (by simp [results, Tryz.results20, go_sem, r0, r1]) rfl ?_
    rw [HN.out]
    have hg1 : w.heap.size ≤ w0.heap.size := HB0.out.size
    have hlt := HLT.out
    have F1 : Fr w3 w0.heap.size none 0 0 _ := (Fr.nil _ _)
    have F2 : Fr w3 w0.heap.size none 0 0 _ := (Fr.nil _ _)
    refine ⟨_, _, _, _, _, _, rfl, by rw [← hsf]; exact (F1.set hlt _ 0).base hg1, by rw [← hsf]; exact (F2.set hlt _ 0).base hg1, ?_⟩
    rw [← hsf]
    exact below_setFrom (by rw [HGP.out]; omega) _ 0 (bt HB0.out HB3.out)
   | some mm =>
    have hcl := Dc.clash_some hr hk hck
    rw [hR] at hcl
    have hmay := Dc.check_may hck
    simp only at CC
    have CC := Lib.hid CC
    have CW := fun (W : World) => wlink_any d.p.link W
    unfold Hd.Lk.wr at CW
    rw [hmay] at CW
    simp only [if_true] at CW
    unfold WPost at CW
    have CW := Lib.hid CW
    have HBL := Lib.hid (Hd.Lk.bytes_le hmay)
    have HT := Lib.hid htt0
    have HI := Lib.hid hi0
    have HPW := Lib.hid hpw
    have HCL := Lib.hid hcl
    have CD := Lib.hid (fun (W : World) (hW : Below w0.heap.size w0 W) => ddocs_any A n c L s W (hs0.keep hW) hl (ht0.below hW) hr)
    unfold ZsPost at CD
    have HDR := Lib.hid (Dc.docs_right hgd s)
    clear hs hs0 hl ht ht0 htt htt0 hi hi0 hr hR hm hpw hat hsl hgd hrt hrl hk hck hcl hmay
    unfold pfv
    go_enter Tryz.func20, Tryz.ntmps20
    go_upto_region 1 with fail
    rw [HW.out.1, HW.out.2]
    clear hgp
    go_wp2_with fail
    (with_reducible refine CL.out.mono ?_)
    rintro e w1 ⟨A1, c1, f1, rfl, hl1, hb1⟩
    have HL1 := Lib.hid hl1
    have HB1 := Lib.hid hb1
    clear hb1 CL hl1
    go_wp2_with fail
    (with_reducible refine (CR.out _ HB1.out).mono ?_)
    rintro e w2 ⟨rfl, hb2⟩
    have HX2 := Lib.hid hb2
    have HB2 := Lib.hid (bt HB1.out hb2)
    clear hb2 CR
    have hrz := HX.out w2 HB2.out
    have x0 := hrz.cellQ 0 _ rfl
    have x1 := hrz.cellQ 1 _ rfl
    have x2 := hrz.cellQ 2 _ rfl
    have x3 := hrz.cellQ 3 _ rfl
    have x4 := hrz.cellQ 4 _ rfl
    have x5 := hrz.cellQ 5 _ rfl
    clear hrz
    go_wp2_with fail
    (with_reducible refine (CC.out _ HB2.out).mono ?_)
    rintro e w3 ⟨hb3, A3, n3, c3, rfl, hz3⟩
    have HB3 := Lib.hid (bt HB2.out hb3)
    have HX3 := Lib.hid (bt HX2.out hb3)
    clear hb3 CC x0 x1 x2 x3 x4 x5 hz3
    have hrz := HX.out w3 HB3.out
    have x0 := hrz.cellQ 0 _ rfl
    have x1 := hrz.cellQ 1 _ rfl
    have x2 := hrz.cellQ 2 _ rfl
    have x3 := hrz.cellQ 3 _ rfl
    have x4 := hrz.cellQ 4 _ rfl
    have x5 := hrz.cellQ 5 _ rfl
    clear hrz
    go_wp2_with fail
    (with_reducible refine (CW.out w3).mono ?_)
    rintro e w4 ⟨A4, n4, c4, rfl, ho4, hb4⟩
    have HB4 := Lib.hid (bt HB3.out hb4)
    have HX4 := Lib.hid (bt HX3.out hb4)
    have HO4 := Lib.hid ho4
    clear hb4 CW x0 x1 x2 x3 x4 x5 ho4
    have CF := cleaf_any A1 m c1 f1 d.p.at_ A4 n4 c4 d.p.link.bytes d.ap d.np d.cp d.p.path w4 (rowsAt_keep HL1.out.rows HX4.out) HL1.out.cap HL1.out.max (by omega) HL1.out.small HO4.out.bs (by have a := HO4.out.len; have b := HBL.out; omega) (HI.out.keep HB4.out).s HPW.out (HT.out.below HB4.out)
    rw [Dc.lfB_lfL HL1.out.raw] at CF
    unfold ResPost at CF
    cases hlf : Dc.lfL (Dc.links L) d.p with
    | some cc =>
     rw [hlf] at CF
     have HC2 := HCL.out
     rw [hlf] at HC2
     simp only at HC2
     have HC3 := Lib.hid HC2
     have CF := Lib.hid CF
     clear hlf HC2
     have hrz := HX.out w4 HB4.out
     have x0 := hrz.cellQ 0 _ rfl
     have x1 := hrz.cellQ 1 _ rfl
     have x2 := hrz.cellQ 2 _ rfl
     have x3 := hrz.cellQ 3 _ rfl
     have x4 := hrz.cellQ 4 _ rfl
     have x5 := hrz.cellQ 5 _ rfl
     clear hrz
     go_wp2_with fail
     (with_reducible refine CF.out.mono ?_)
     rintro e w5 ⟨A5, n5, c5, B5, m5, k5, rfl, hf1, hf2, hb5⟩
     have HB5 := Lib.hid (bt HB4.out hb5)
     have HF5 := Lib.hid (And.intro (hf1.base HB4.out.size) (hf2.base HB4.out.size))
     clear hb5 CF x0 x1 x2 x3 x4 x5 hf1 hf2
     have hbx : Below w5.heap.size w5 (w5.alloc (.cells #[.slice A5 n5 c5, .slice B5 m5 k5] 52)) := (Below.refl _ w5).alloc (Nat.le_refl _) _
     have hrx := row_new w5 #[.slice A5 n5 c5, .slice B5 m5 k5] 52
     go_upto_region 11 with fail
     obtain ⟨w6, hw6⟩ : ∃ W, w5.alloc (.cells #[.slice A5 n5 c5, .slice B5 m5 k5] 52) = W := ⟨_, rfl⟩
     rw [hw6] at hbx hrx ⊢
     have HB6 := Lib.hid (bt HB5.out hbx)
     have HF6 := Lib.hid (And.intro (HF5.out.1.keep hbx) (HF5.out.2.keep hbx))
     have z0 := hrx.cellQ 0 _ rfl
     have z1 := hrx.cellQ 1 _ rfl
     clear hbx hrx hw6
     have hres := HR.out w6 HB6.out
     have x0 := hres.cellQ 0 _ rfl
     have x1 := hres.cellQ 1 _ rfl
     have f0 := hres.frozen 0
     have f1 := hres.frozen 1
     have HROW := Lib.hid (show ∀ u v, Row (setFrom (gp + 1) w6 0 [u, v]) (gp + 1) #[u, v] 52 from fun u v => hres.all [u, v] rfl)
     clear hres
     go_wp2
     generalize hwd : World.setCell (World.setCell w6 _ _) _ _ = wd
     have hsf : setFrom (gp + 1) w6 0 [.slice A5 n5 c5, .slice B5 m5 k5] = wd := by rw [← hwd]; rfl
     have r0 : wd.cell? ⟨gp + 1, 0, none⟩ = some (.slice A5 n5 c5) := by rw [← hsf]; exact (HROW.out _ _).cellQ 0 _ rfl
     have r1 : wd.cell? ⟨gp + 1, 1, none⟩ = some (.slice B5 m5 k5) := by rw [← hsf]; exact (HROW.out _ _).cellQ 1 _ rfl
     refine bodyPost_ret (v := .tuple #[.agg #[.slice A5 n5 c5, .slice B5 m5 k5], .bool true]) (by simp [results, Tryz.results20, go_sem, r0, r1]) rfl ?_
     rw [HC3.out]
     have hg1 : w.heap.size ≤ w0.heap.size := HB0.out.size
     have hlt := HLT.out
     have F1 : Fr w6 w0.heap.size A5 n5 c5 _ := HF6.out.1
     have F2 : Fr w6 w0.heap.size B5 m5 k5 _ := HF6.out.2
     refine ⟨_, _, _, _, _, _, rfl, by rw [← hsf]; exact (F1.set hlt _ 0).base hg1, by rw [← hsf]; exact (F2.set hlt _ 0).base hg1, ?_⟩
     rw [← hsf]
     exact below_setFrom (by rw [HGP.out]; omega) _ 0 (bt HB0.out HB6.out)
    | none =>
     rw [hlf] at CF
     have HC2 := HCL.out
     rw [hlf] at HC2
     simp only at HC2
     have HC3 := Lib.hid HC2
     have CF := Lib.hid CF
     clear hlf HC2
     have hrz := HX.out w4 HB4.out
     have x0 := hrz.cellQ 0 _ rfl
     have x1 := hrz.cellQ 1 _ rfl
     have x2 := hrz.cellQ 2 _ rfl
     have x3 := hrz.cellQ 3 _ rfl
     have x4 := hrz.cellQ 4 _ rfl
     have x5 := hrz.cellQ 5 _ rfl
     clear hrz
     go_wp2_with fail
     (with_reducible refine CF.out.mono ?_)
     rintro e w5 ⟨A5, n5, c5, B5, m5, k5, rfl, hf1, hf2, hb5⟩
     have HB5 := Lib.hid (bt HB4.out hb5)
     have HF5 := Lib.hid (And.intro (hf1.base HB4.out.size) (hf2.base HB4.out.size))
     clear hb5 CF x0 x1 x2 x3 x4 x5 hf1 hf2
     have hbx : Below w5.heap.size w5 (w5.alloc (.cells #[.slice A5 n5 c5, .slice B5 m5 k5] 52)) := (Below.refl _ w5).alloc (Nat.le_refl _) _
     have hrx := row_new w5 #[.slice A5 n5 c5, .slice B5 m5 k5] 52
     go_upto_region 12 with fail
     obtain ⟨w6, hw6⟩ : ∃ W, w5.alloc (.cells #[.slice A5 n5 c5, .slice B5 m5 k5] 52) = W := ⟨_, rfl⟩
     rw [hw6] at hbx hrx ⊢
     have HB6 := Lib.hid (bt HB5.out hbx)
     clear hbx hrx hw6
     have hrz := HX.out w6 HB6.out
     have x1 := hrz.cellQ 1 _ rfl
     have x2 := hrz.cellQ 2 _ rfl
     have x3 := hrz.cellQ 3 _ rfl
     clear hrz
     by_cases he : d.p.link.term = s
     ·
      obtain ⟨o1, o2⟩ := (show Op.bytesLess (str d.p.link.term).toList (str s).toList = false ∧ ((str d.p.link.term).toList == (str s).toList) = true by rw [he]; exact ord_eq s)
      have HC4 := Lib.hid (show R = Cl.btw (2 :: d.p.docs) (2 :: Post.write (Dc.docs L s)) by rw [HC3.out, if_pos he])
      clear he
      go_upto_region 14 with fail
      clear o1 o2 x1 x2 x3
      go_wp2_with fail
      (with_reducible refine (CD.out _ HB6.out).mono ?_)
      rintro e w7 ⟨A7, n7, c7, rfl, hz7, hb7⟩
      have CWR := Lib.hid (write_yes A7 n7 c7 (Dc.docs L s) w7 hz7 HDR.out)
      unfold WritePost at CWR
      have HB7 := Lib.hid (bt HB6.out hb7)
      clear hb7 CD hz7
      go_wp2_with fail
      (with_reducible refine CWR.out.mono ?_)
      rintro e w8 ⟨A8, n8, c8, rfl, ho8, hb8⟩
      have HB8 := Lib.hid (bt HB7.out hb8)
      have HN8 := Lib.hid (show n8 ≤ 100000 by rw [← ho8.len]; have := Post.write_len HDR.out; omega)
      have CPP := cposts_any d.ad d.nd d.cd A8 n8 c8 d.p.docs (Post.write (Dc.docs L s)) w8 (HI.out.keep HB8.out).b hnd ho8.bs HN8.out (HT.out.below HB8.out)
      rw [← HC4.out] at CPP
      unfold ResPost at CPP
      have CPP := Lib.hid CPP
      clear hb8 CWR ho8
      have hrz := HX.out w8 HB8.out
      have x5 := hrz.cellQ 5 _ rfl
      clear hrz
      go_wp2_with fail
      (with_reducible refine CPP.out.mono ?_)
      rintro e w9 ⟨A9, n9, c9, B9, m9, k9, rfl, hf1, hf2, hb9⟩
      have HB9 := Lib.hid (bt HB8.out hb9)
      have HF9 := Lib.hid (And.intro (hf1.base HB8.out.size) (hf2.base HB8.out.size))
      clear hb9 CPP x5 hf1 hf2
      have HID := Lib.hid (show R = R from rfl)
      have hres := HR.out w9 HB9.out
      have x0 := hres.cellQ 0 _ rfl
      have x1 := hres.cellQ 1 _ rfl
      have f0 := hres.frozen 0
      have f1 := hres.frozen 1
      have HROW := Lib.hid (show ∀ u v, Row (setFrom (gp + 1) w9 0 [u, v]) (gp + 1) #[u, v] 52 from fun u v => hres.all [u, v] rfl)
      clear hres
      go_wp2
      generalize hwd : World.setCell (World.setCell w9 _ _) _ _ = wd
      have hsf : setFrom (gp + 1) w9 0 [.slice A9 n9 c9, .slice B9 m9 k9] = wd := by rw [← hwd]; rfl
      have r0 : wd.cell? ⟨gp + 1, 0, none⟩ = some (.slice A9 n9 c9) := by rw [← hsf]; exact (HROW.out _ _).cellQ 0 _ rfl
      have r1 : wd.cell? ⟨gp + 1, 1, none⟩ = some (.slice B9 m9 k9) := by rw [← hsf]; exact (HROW.out _ _).cellQ 1 _ rfl
      refine bodyPost_ret (v := .tuple #[.agg #[.slice A9 n9 c9, .slice B9 m9 k9], .bool R.isSome]) (by simp [results, Tryz.results20, go_sem, r0, r1]) rfl ?_
      skip
      have hg1 : w.heap.size ≤ w0.heap.size := HB0.out.size
      have hlt := HLT.out
      have F1 : Fr w9 w0.heap.size A9 n9 c9 _ := HF9.out.1
      have F2 : Fr w9 w0.heap.size B9 m9 k9 _ := HF9.out.2
      refine ⟨_, _, _, _, _, _, rfl, by rw [← hsf]; exact (F1.set hlt _ 0).base hg1, by rw [← hsf]; exact (F2.set hlt _ 0).base hg1, ?_⟩
      rw [← hsf]
      exact below_setFrom (by rw [HGP.out]; omega) _ 0 (bt HB0.out HB9.out)
     ·
      have hq : ((str d.p.link.term).toList == (str s).toList) = false := by rw [strEq]; exact decide_eq_false he
      have HN := Lib.hid (show R = none by rw [HC3.out, if_neg he])
      clear he
      go_upto_region 13 with fail
      clear hq x1 x2 x3
      have hres := HR.out w6 HB6.out
      have x0 := hres.cellQ 0 _ rfl
      have x1 := hres.cellQ 1 _ rfl
      have f0 := hres.frozen 0
      have f1 := hres.frozen 1
      have HROW := Lib.hid (show ∀ u v, Row (setFrom (gp + 1) w6 0 [u, v]) (gp + 1) #[u, v] 52 from fun u v => hres.all [u, v] rfl)
      clear hres
      go_wp2
      generalize hwd : World.setCell (World.setCell w6 _ _) _ _ = wd
      have hsf : setFrom (gp + 1) w6 0 [.slice none 0 0, .slice none 0 0] = wd := by rw [← hwd]; rfl
      have r0 : wd.cell? ⟨gp + 1, 0, none⟩ = some (.slice none 0 0) := by rw [← hsf]; exact (HROW.out _ _).cellQ 0 _ rfl
      have r1 : wd.cell? ⟨gp + 1, 1, none⟩ = some (.slice none 0 0) := by rw [← hsf]; exact (HROW.out _ _).cellQ 1 _ rfl
      refine bodyPost_ret (v := .tuple #[.agg #[.slice none 0 0, .slice none 0 0], .bool false]) (by simp [results, Tryz.results20, go_sem, r0, r1]) rfl ?_
      rw [HN.out]
      have hg1 : w.heap.size ≤ w0.heap.size := HB0.out.size
      have hlt := HLT.out
      have F1 : Fr w6 w0.heap.size none 0 0 _ := (Fr.nil _ _)
      have F2 : Fr w6 w0.heap.size none 0 0 _ := (Fr.nil _ _)
      refine ⟨_, _, _, _, _, _, rfl, by rw [← hsf]; exact (F1.set hlt _ 0).base hg1, by rw [← hsf]; exact (F2.set hlt _ 0).base hg1, ?_⟩
      rw [← hsf]
      exact below_setFrom (by rw [HGP.out]; omega) _ 0 (bt HB0.out HB6.out)
end Go.Proofs.YteoledjllpgcbaaGreatDoor
