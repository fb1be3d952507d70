/- MTermA: several texts of this claim in one file. No statement of the seat is proved here. -/
import Derived.Test.YteoledjllpgcbaaGreatDoorMDictB
import Derived.Test.YteoledjllpgcbaaGreatDoorFreeLate
import Derived.Test.YteoledjllpgcbaaGreatDoorMFirst
namespace Go.Proofs.YteoledjllpgcbaaGreatDoor
set_option maxRecDepth 100000
set_option maxHeartbeats 64000000
set_option linter.unusedVariables false
open Go.RowKit
def Free.kPt (B : Nat) (l : List (List UInt8)) : Free.SV := ⟨fun v w => ∃ A n c, v = .tuple #[.slice A n c, .int .i64 0] ∧ OwnS w B A n c l, fun v w w' ⟨A, n, c, h1, h2⟩ g => ⟨A, n, c, h1, h2.keep g⟩⟩
def ProvePost (L : List EnD) (s : List UInt8) (w : World) (e : Ending) (w' : World) : Prop := ∃ d : PfD, d.p = Dc.prove L s ∧ e = .returned (.tuple #[pfv d.ap d.np d.cp d.ad d.nd d.cd d.p, .int .i64 0]) ∧ InPf w' d ∧ Below w.heap.size w w'
theorem LinksAt.piece {w : World} {A : Option Addr} {n c : Nat} {f : Nat → Piece} {l : List (List UInt8)} (h : LinksAt w A n c f l) {k : Nat} (hk : k < n) {x : List UInt8} (hx : l[k]? = some x) : (f k).l = x := by
 rw [← h.raw] at hx
 unfold raws at hx
 rw [List.getElem?_map, List.getElem?_range hk] at hx
 injection hx
theorem pieceBs {w : World} {q : Piece} (h : PieceAt w q) : Bs w q.a q.n q.c q.l := ⟨h.rd, h.len, h.cap, h.max⟩
theorem tprove_yes (A : Option Addr) (n c : Nat) (L : List EnD) (s : List UInt8) (w : World) (hs : InEs w A n c L) (hl : ∀ e ∈ L, e.t.length ≤ 200 ∧ e.l.length ≤ 200) (hn : n ≤ 100) (hsl : s.length ≤ 200) (ht : Ut.UTabs w) (htt : Tabs w) (hr : Dc.right L = true) (hk : Tok.right s = true) : Calls Tryz.prog 9 #[.slice A n c, sv s] w (ProvePost L s w) := by
 obtain ⟨w0, hw0⟩ : ∃ W, w.alloc (.cells #[.int .i64 0, .string { data := #[] }, .string { data := #[] }, .string { data := #[] }, .slice none 0 0, .slice none 0 0] 30) = W := ⟨_, rfl⟩
 have hb0 := (Below.refl w.heap.size w).alloc (Nat.le_refl _) (.cells #[.int .i64 0, .string { data := #[] }, .string { data := #[] }, .string { data := #[] }, .slice none 0 0, .slice none 0 0] 30)
 have hr0 := row_new w #[.int .i64 0, .string { data := #[] }, .string { data := #[] }, .string { data := #[] }, .slice none 0 0, .slice none 0 0] 30
 rw [hw0] at hb0 hr0
 have HW0 := Lib.hid hw0
 have HB0 := Lib.hid hb0
 have HR0 := Lib.hid hr0
 obtain ⟨m, hm⟩ : ∃ m, L.length + 1 = m := ⟨_, rfl⟩
 obtain ⟨a, ha⟩ : ∃ a, Dc.at_ L s = a := ⟨_, rfl⟩
 obtain ⟨k, hkk⟩ : ∃ k, Dc.atN L s = k := ⟨_, rfl⟩
 obtain ⟨z, hz⟩ : ∃ z, Dc.has L s = z := ⟨_, rfl⟩
 have hrg := Dc.at_range L s
 have hak : a + 1 = (k : Int) := by unfold Dc.atN at hkk; rw [ha] at hkk hrg; omega
 have hkm : k < m := by rw [← hkk, ← hm]; exact Dc.atN_lt L s
 have hm1 : m ≤ 101 := by rw [← hm, hs.q.len]; omega
 have ha1 : -1 ≤ a ∧ a ≤ 100 := by omega
 obtain ⟨y, hy⟩ : ∃ y, Dc.linkAt L k = y := ⟨_, rfl⟩
 have hmay : y.may = true := by rw [← hy]; exact Dc.linkAt_may (Dc.good_of hr) k
 have hpr : Dc.prove L s = ⟨(k : Int), y, tpath (Cl.lv (Dc.links L)) k, if z then Post.write (Dc.docs L s) else []⟩ := by unfold Dc.prove; rw [hkk, hy, hz]
 have hlk : (Dc.links L)[k]? = some y.bytes := by rw [← hy]; exact Dc.links_at (by rw [hm]; exact hkm)
 have hs0 := hs.keep hb0
 have ht0 := ht.below hb0
 have CL := dlinks_yes A n c L w0 hs0 (fun e he => (hl e he).1) (by omega) ht0 (htt.below hb0) hr
 unfold LinksPost at CL
 rw [hm] at CL
 have CL := Lib.hid CL
 have CT := fun (W : World) (hW : Below w0.heap.size w0 W) => tright_any s W (Nat.le_trans hsl (by decide)) (ht0.below hW)
 rw [hk] at CT
 unfold TokPost at CT
 have CT := Lib.hid CT
 have CF := fun (W : World) (hW : Below w0.heap.size w0 W) => dfind_any A n c L s W (hs0.keep hW) (fun e he => (hl e he).1) (ht0.below hW) hr
 unfold FindPost at CF
 rw [ha, hz] at CF
 have CF := Lib.hid CF
 have CD := Lib.hid (fun (W : World) (hW : Below w0.heap.size w0 W) => ddocs_any A n c L s W (hs0.keep hW) hl (ht0.below hW) hr)
 have HP := Lib.hid hpr
 have HY := Lib.hid hmay
 have HLK := Lib.hid hlk
 have HT := Lib.hid (htt.below hb0)
 have HAK := Lib.hid hak
 have HDR := Lib.hid (show Post.right (Dc.docs L s) = true by
  cases hh : Dc.has L s with
  | false => unfold Dc.docs; rw [hh]; rfl
  | true =>
   obtain ⟨j, e, _, he, _, hd⟩ := Dc.hasAt_some hh
   rw [hd]
   exact (Dc.okE_iff.1 ((Dc.good_of hr).ok j e he)).2.1)
 clear hs hs0 ht0 hl ht htt hr hk hw0 hb0 hr0 hm ha hkk hz hrg hy hmay hpr hlk hak
 go_enter Tryz.func9, Tryz.ntmps9
 go_upto_region 1 with fail
 rw [HW0.out]
 go_wp2_with fail
 (with_reducible refine CL.out.mono ?_)
 rintro e w1 ⟨A1, c1, f1, rfl, hl1, hb1⟩
 have HL1 := Lib.hid hl1
 have HB1 := Lib.hid hb1
 clear hb1 CL hl1
 go_wp2_with fail
 (with_reducible refine (CT.out _ HB1.out).mono ?_)
 rintro e w2 ⟨rfl, hb2⟩
 have HB2 := Lib.hid (bt HB1.out hb2)
 have HX2 := Lib.hid hb2
 clear hb2 CT
 go_wp2_with fail
 (with_reducible refine (CF.out _ HB2.out).mono ?_)
 rintro e w3 ⟨rfl, hb3⟩
 have HB3 := Lib.hid (bt HB2.out hb3)
 have HX3 := Lib.hid (bt HX2.out hb3)
 have hak := HAK.out
 clear hb3 CF HB2 HX2
 go_upto_region 6 with fail
 try rw [hak]
 clear hak
 obtain ⟨g, hg⟩ : ∃ g, w3.heap.size = g := ⟨_, rfl⟩
 have hbx : Below w3.heap.size w3 (w3.alloc (.cells #[.int .i64 (k : Int), .string { data := #[] }, .string { data := #[] }, .string { data := #[] }, .slice none 0 0, .slice none 0 0] 30)) := (Below.refl _ w3).alloc (Nat.le_refl _) _
 have hrx := row_new w3 #[.int .i64 (k : Int), .string { data := #[] }, .string { data := #[] }, .string { data := #[] }, .slice none 0 0, .slice none 0 0] 30
 obtain ⟨w4, hw4⟩ : ∃ W, w3.alloc (.cells #[.int .i64 (k : Int), .string { data := #[] }, .string { data := #[] }, .string { data := #[] }, .slice none 0 0, .slice none 0 0] 30) = W := ⟨_, rfl⟩
 rw [hw4] at hbx hrx ⊢
 have HB4 := Lib.hid (bt HB3.out hbx)
 have HX4 := Lib.hid (bt HX3.out hbx)
 have hgx : w1.heap.size ≤ g := by rw [← hg]; exact HX3.out.size
 have hg0 : w0.heap.size ≤ g := by rw [← hg]; exact HB3.out.size
 rw [hg] at hrx ⊢
 have HR4 := Lib.hid hrx
 clear hbx hrx hw4 hg
 obtain ⟨b, off, rfl, hbk, hcells⟩ := HL1.out.rows (by omega)
 obtain ⟨hcell, hpc⟩ := hcells k hkm
 have hfl := HL1.out.piece hkm HLK.out
 obtain ⟨q, hq⟩ : ∃ q, f1 k = q := ⟨_, rfl⟩
 rw [hq] at hcell hpc hfl
 have HPC := Lib.hid hpc
 have HFL := Lib.hid hfl
 have HSM := Lib.hid (show q.n ≤ 1000 by rw [← hq]; exact HL1.out.small k hkm)
 have HCELL := Lib.hid hcell
 clear hcells hcell hpc hfl hq
 have x0 := HR4.out.cellQ 0 _ rfl
 have x1 := (HX4.out.cell (p := ⟨b, off + k, none⟩) hbk).trans HCELL.out
 have hki : (k : Int) < (m : Int) := by omega
 have CK := rlink_any q.a q.n q.c q.l w4 (pieceBs (pieceAt_keep HPC.out HX4.out)) (by rw [HPC.out.len]; exact Nat.le_trans HSM.out (by decide))
 rw [HFL.out, Hd.rdLk_bytes HY.out] at CK
 unfold RLkPost at CK
 have CK := Lib.hid CK
 go_wp2_with fail
 (with_reducible refine CK.out.mono ?_)
 rintro e w5 ⟨hb5, rfl⟩
 have HB5 := Lib.hid (bt HB4.out hb5)
 have HX5 := Lib.hid (bt HX4.out hb5)
 have HR5 := Lib.hid (HR4.out.belowS hb5 (Nat.le_refl _))
 clear hb5 CK x0 x1
 have y1 := HR5.out.cellQ 1 _ rfl
 have y2 := HR5.out.cellQ 2 _ rfl
 have y3 := HR5.out.cellQ 3 _ rfl
 have f1' := HR5.out.frozen 1
 have f2' := HR5.out.frozen 2
 have f3' := HR5.out.frozen 3
 go_upto_region 7 with fail
 generalize hwd : World.setCell (World.setCell (World.setCell w5 _ _) _ _) _ _ = w6
 have hsf : setFrom g w5 1 [sv y.term, sv y.next, sv y.posts] = w6 := by rw [← hwd]; rfl
 have hrow : Row w6 g #[.int .i64 (k : Int), sv y.term, sv y.next, sv y.posts, .slice none 0 0, .slice none 0 0] 30 := by
  have h := HR5.out.setFrom_at [sv y.term, sv y.next, sv y.posts] 1
  rw [hsf] at h
  exact h
 have HR6 := Lib.hid hrow
 have HB6 := Lib.hid (show Below w0.heap.size w0 w6 by rw [← hsf]; exact below_setFrom hg0 _ 1 HB5.out)
 have HX6 := Lib.hid (show Below w1.heap.size w1 w6 by rw [← hsf]; exact below_setFrom hgx _ 1 HX5.out)
 clear hwd hsf hrow y1 y2 y3 f1' f2' f3'
 have QL := fun (W : World) (hW : Below w6.heap.size w6 W) => leaves_any (some ⟨b, off, none⟩) m c1 f1 W (rowsAt_keep HL1.out.rows (HX6.out.trans (hW.mono HX6.out.size))) HL1.out.cap HL1.out.max (by omega) (fun i hi => Nat.le_trans (HL1.out.small i hi) (by decide)) (HT.out.below (bt HB6.out hW))
 rw [HL1.out.leaves] at QL
 unfold OwnSPost at QL
 have QL := Lib.hid QL
 have HLEN := Lib.hid (show (Cl.lv (Dc.links L)).length = m by rw [Dc.lv_len, ← HL1.out.raw]; simp [raws])
 have HX := Lib.hid (fun (W : World) (hW : Below w6.heap.size w6 W) => HR6.out.belowS hW (Nat.le_refl _))
 refine Free.wp_late_l 9 7 50 _ _ (fun W => Below w6.heap.size w6 W) [Free.kc (.slice (some ⟨b, off, none⟩) m c1), Free.kO (w6.heap.size) ((Cl.lv (Dc.links L))), Free.kc (.pointer (some ⟨g, 0, none⟩)), Free.kc (.int .i64 (k : Int)), Free.kPt (w6.heap.size) (tpath (Cl.lv (Dc.links L)) k), Free.kPt (w6.heap.size) (tpath (Cl.lv (Dc.links L)) k), Free.kO (w6.heap.size) (tpath (Cl.lv (Dc.links L)) k), Free.kc (.int .i64 0), Free.kc (.pointer (some ⟨g, 4, none⟩))] (by kernel_rfl) (by kernel_rfl) (by kernel_rfl) rfl rfl (Below.refl _ _).drew (fun w w' h g => bt h g) ?_ ?_ ?_
 ·
  iterate 9 refine Free.forall_succ ?_ ?_
  all_goals first | exact Free.forall_zero | (refine Free.op fun vals wq hC hd => ?_) | skip
  · exact Free.dm
  · exact Free.d_call Tryz.func31 rfl rfl rfl rfl (Free.arg1 (Free.tr 0 hd)) ((QL.out wq hC).mono fun e w2 h => (by obtain ⟨A9, n9, c9, he, ho, hb⟩ := h; exact ⟨_, he, ⟨A9, n9, c9, rfl, ho.base hC.size⟩, hb⟩))
  · exact d_field (cx := .pointer (some ⟨g, 0, none⟩)) rfl (by kernel_rfl) (by go_simp) rfl
  · exact Free.d_load rfl (Free.tr 2 hd) (by have hcc := (HX.out wq hC).cellQ 0 _ rfl; go_simp) rfl
  · obtain ⟨A1, n1, k1, e1, ow1⟩ := hd 1 (by kernel_rfl); exact Free.d_call Tryz.func30 rfl rfl rfl rfl (Free.arg2 (Eq.trans (b := vals 1) (by kernel_rfl) e1) (Free.tr 3 hd)) ((path_any A1 n1 k1 (Cl.lv (Dc.links L)) k wq ow1.ss (Cl.lv_all _) (by rw [← ow1.len, HLEN.out]; omega) (by rw [← ow1.len, HLEN.out]; exact hkm) (HT.out.below (bt HB6.out hC))).mono fun e w2 h => (by obtain ⟨A9, n9, c9, he, ho, hb⟩ := h; exact ⟨_, he, ⟨A9, n9, c9, rfl, ho.base hC.size⟩, hb⟩))
  · obtain ⟨A4, n4, k4, e4, ow4⟩ := hd 4 (by kernel_rfl); exact Free.d_move rfl (Eq.trans (b := vals 4) (by kernel_rfl) e4) ⟨A4, n4, k4, rfl, ow4⟩
  · obtain ⟨A5, n5, k5, e5, ow5⟩ := hd 5 (by kernel_rfl); exact Free.d_extract (cx := .tuple #[.slice A5 n5 k5, .int .i64 0]) rfl (Eq.trans (b := vals 5) (by kernel_rfl) e5) (by first | rfl | (go_simp; done)) ⟨A5, n5, k5, rfl, ow5⟩
  · obtain ⟨A5, n5, k5, e5, ow5⟩ := hd 5 (by kernel_rfl); exact Free.d_extract (cx := .tuple #[.slice A5 n5 k5, .int .i64 0]) rfl (Eq.trans (b := vals 5) (by kernel_rfl) e5) (by first | rfl | (go_simp; done)) rfl
  · exact d_field (cx := .pointer (some ⟨g, 0, none⟩)) rfl (by kernel_rfl) (by go_simp) rfl
 ·
  intro vals wq hC hd
  refine Free.go hd ?_
  rintro _ rfl _ ⟨A1, n1, k1, rfl, ow1⟩ _ rfl _ rfl _ ⟨A4, n4, k4, rfl, ow4⟩ _ ⟨A5, n5, k5, rfl, ow5⟩ _ ⟨A6, n6, k6, rfl, ow6⟩ _ rfl _ rfl
  simp only [Free.All, Free.fl, Act.put, Free.sa, Free.s0, Free.s1]
  clear hd
  have HQ := Lib.hid (bt HB6.out hC)
  have HRQ := Lib.hid (HR6.out.belowS hC (Nat.le_refl _))
  have HO6 := Lib.hid (ow6.base (Nat.le_trans hg0 (Nat.le_of_lt HR6.out.lt)))
  clear hC ow1 ow4 ow5 ow6
  have y4 := HRQ.out.cellQ 4 _ rfl
  have f4' := HRQ.out.frozen 4
  go_upto_region 8 with fail
  have hr7 : Row (wq.setCell ⟨g, 4, none⟩ (.slice A6 n6 k6)) g #[.int .i64 (k : Int), sv y.term, sv y.next, sv y.posts, .slice A6 n6 k6, .slice none 0 0] 30 := HRQ.out.set 4 _
  have hb7 := HQ.out.setCell (p := ⟨g, 4, none⟩) hg0 (.slice A6 n6 k6)
  have ho7 := HO6.out.keepTy (S := [30]) (by decide) (KeepTy.set (S := [30]) HRQ.out (by decide) 4 (.slice A6 n6 k6))
  obtain ⟨w7, hw7⟩ : ∃ W, wq.setCell ⟨g, 4, none⟩ (.slice A6 n6 k6) = W := ⟨_, rfl⟩
  rw [hw7] at hr7 hb7 ho7 ⊢
  have HR7 := Lib.hid hr7
  have HB7 := Lib.hid hb7
  have HO7 := Lib.hid ho7
  clear hr7 hb7 ho7 hw7 y4 f4'
  cases z with
  | true =>
   have CDD := CD.out _ HB7.out
   unfold ZsPost at CDD
   have CDD := Lib.hid CDD
   go_wp2_with fail
   (with_reducible refine CDD.out.mono ?_)
   rintro e w8 ⟨A8, n8, c8, rfl, hz8, hb8⟩
   have CW := Lib.hid (write_yes A8 n8 c8 (Dc.docs L s) w8 hz8 HDR.out)
   unfold WritePost at CW
   have HB8 := Lib.hid (bt HB7.out hb8)
   have HR8 := Lib.hid (HR7.out.belowS hb8 (Nat.le_refl _))
   have HO8 := Lib.hid (HO7.out.keep hb8)
   clear hz8 hb8 CDD
   go_wp2_with fail
   (with_reducible refine CW.out.mono ?_)
   rintro e w9 ⟨A9, n9, c9, rfl, ho9, hb9⟩
   have HD9 := Lib.hid (ho9.base HB8.out.size)
   have HB9 := Lib.hid (bt HB8.out hb9)
   have HR9 := Lib.hid (HR8.out.belowS hb9 (Nat.le_refl _))
   have HO9 := Lib.hid (HO8.out.keep hb9)
   clear ho9 hb9 CW
   have y5 := HR9.out.cellQ 5 _ rfl
   have f5' := HR9.out.frozen 5
   go_upto_region 10 with fail
   have hr10 : Row (w9.setCell ⟨g, 5, none⟩ (.slice A9 n9 c9)) g #[.int .i64 (k : Int), sv y.term, sv y.next, sv y.posts, .slice A6 n6 k6, .slice A9 n9 c9] 30 := HR9.out.set 5 _
   have hb10 := HB9.out.setCell (p := ⟨g, 5, none⟩) hg0 (.slice A9 n9 c9)
   have kt := KeepTy.set (S := [30]) HR9.out (by decide) 5 (.slice A9 n9 c9)
   have ho10 := HO9.out.keepTy (S := [30]) (by decide) kt
   have hd10 := HD9.out.keepTy (S := [30]) (by decide) kt
   clear kt
   obtain ⟨w10, hw10⟩ : ∃ W, w9.setCell ⟨g, 5, none⟩ (.slice A9 n9 c9) = W := ⟨_, rfl⟩
   rw [hw10] at hr10 hb10 ho10 hd10 ⊢
   have HR10 := Lib.hid hr10
   have HB10 := Lib.hid hb10
   have HO10 := Lib.hid ho10
   have HD10 := Lib.hid hd10
   clear hr10 hb10 ho10 hd10 hw10 y5 f5'
   have v0 := HR10.out.cellQ 0 _ rfl
   have v1 := HR10.out.cellQ 1 _ rfl
   have v2 := HR10.out.cellQ 2 _ rfl
   have v3 := HR10.out.cellQ 3 _ rfl
   have v4 := HR10.out.cellQ 4 _ rfl
   have v5 := HR10.out.cellQ 5 _ rfl
   have HR00 := Lib.hid (HR0.out.belowS HB10.out (Nat.le_refl _))
   have q0 := HR00.out.cellQ 0 _ rfl
   have g0 := HR00.out.frozen 0
   have q1 := HR00.out.cellQ 1 _ rfl
   have g1 := HR00.out.frozen 1
   have q2 := HR00.out.cellQ 2 _ rfl
   have g2 := HR00.out.frozen 2
   have q3 := HR00.out.cellQ 3 _ rfl
   have g3 := HR00.out.frozen 3
   have q4 := HR00.out.cellQ 4 _ rfl
   have g4 := HR00.out.frozen 4
   have q5 := HR00.out.cellQ 5 _ rfl
   have g5 := HR00.out.frozen 5
   go_wp2
   generalize hwf : World.setCell (World.setCell (World.setCell (World.setCell (World.setCell (World.setCell w10 _ _) _ _) _ _) _ _) _ _) _ _ = wf
   have hsf : setFrom w.heap.size w10 0 [.int .i64 (k : Int), sv y.term, sv y.next, sv y.posts, .slice A6 n6 k6, .slice A9 n9 c9] = wf := by rw [← hwf]; rfl
   have hrow := HR00.out.all [.int .i64 (k : Int), sv y.term, sv y.next, sv y.posts, .slice A6 n6 k6, .slice A9 n9 c9] rfl
   rw [hsf] at hrow
   clear q0 q1 q2 q3 q4 q5 v0 v1 v2 v3 v4 v5 g0 g1 g2 g3 g4 g5
   have r0 := hrow.cellQ 0 _ rfl
   have r1 := hrow.cellQ 1 _ rfl
   have r2 := hrow.cellQ 2 _ rfl
   have r3 := hrow.cellQ 3 _ rfl
   have r4 := hrow.cellQ 4 _ rfl
   have r5 := hrow.cellQ 5 _ rfl
   have kt := KeepTy.setF (S := [30]) (by decide) [.int .i64 (k : Int), sv y.term, sv y.next, sv y.posts, .slice A6 n6 k6, .slice A9 n9 c9] 0 HR00.out
   rw [hsf] at kt
   refine bodyPost_ret (v := .tuple #[pfv A6 n6 k6 A9 n9 c9 ⟨(k : Int), y, tpath (Cl.lv (Dc.links L)) k, Post.write (Dc.docs L s)⟩, .int .i64 0]) (by simp [results, pfv, Tryz.results9, go_sem, r0, r1, r2, r3, r4, r5]) rfl ?_
   have hoo := (HO10.out.keepTy (S := [30]) (by decide) kt).ss
   have hdd := ((show Own8 w10 w0.heap.size A9 n9 c9 (Post.write (Dc.docs L s)) from HD10.out).keepTy (S := [30]) (by decide) kt).bs
   exact ⟨⟨⟨(k : Int), y, tpath (Cl.lv (Dc.links L)) k, Post.write (Dc.docs L s)⟩, A6, n6, k6, A9, n9, c9⟩, by rw [HP.out]; rfl, rfl, ⟨hoo, hdd⟩, by rw [← hsf]; exact below_setFrom (Nat.le_refl _) _ 0 (bt HB0.out HB10.out)⟩
  | false =>
   go_upto_region 10 with fail
   have v0 := HR7.out.cellQ 0 _ rfl
   have v1 := HR7.out.cellQ 1 _ rfl
   have v2 := HR7.out.cellQ 2 _ rfl
   have v3 := HR7.out.cellQ 3 _ rfl
   have v4 := HR7.out.cellQ 4 _ rfl
   have v5 := HR7.out.cellQ 5 _ rfl
   have HR00 := Lib.hid (HR0.out.belowS HB7.out (Nat.le_refl _))
   have q0 := HR00.out.cellQ 0 _ rfl
   have g0 := HR00.out.frozen 0
   have q1 := HR00.out.cellQ 1 _ rfl
   have g1 := HR00.out.frozen 1
   have q2 := HR00.out.cellQ 2 _ rfl
   have g2 := HR00.out.frozen 2
   have q3 := HR00.out.cellQ 3 _ rfl
   have g3 := HR00.out.frozen 3
   have q4 := HR00.out.cellQ 4 _ rfl
   have g4 := HR00.out.frozen 4
   have q5 := HR00.out.cellQ 5 _ rfl
   have g5 := HR00.out.frozen 5
   go_wp2
   generalize hwf : World.setCell (World.setCell (World.setCell (World.setCell (World.setCell (World.setCell w7 _ _) _ _) _ _) _ _) _ _) _ _ = wf
   have hsf : setFrom w.heap.size w7 0 [.int .i64 (k : Int), sv y.term, sv y.next, sv y.posts, .slice A6 n6 k6, .slice none 0 0] = wf := by rw [← hwf]; rfl
   have hrow := HR00.out.all [.int .i64 (k : Int), sv y.term, sv y.next, sv y.posts, .slice A6 n6 k6, .slice none 0 0] rfl
   rw [hsf] at hrow
   clear q0 q1 q2 q3 q4 q5 v0 v1 v2 v3 v4 v5 g0 g1 g2 g3 g4 g5
   have r0 := hrow.cellQ 0 _ rfl
   have r1 := hrow.cellQ 1 _ rfl
   have r2 := hrow.cellQ 2 _ rfl
   have r3 := hrow.cellQ 3 _ rfl
   have r4 := hrow.cellQ 4 _ rfl
   have r5 := hrow.cellQ 5 _ rfl
   have kt := KeepTy.setF (S := [30]) (by decide) [.int .i64 (k : Int), sv y.term, sv y.next, sv y.posts, .slice A6 n6 k6, .slice none 0 0] 0 HR00.out
   rw [hsf] at kt
   refine bodyPost_ret (v := .tuple #[pfv A6 n6 k6 none 0 0 ⟨(k : Int), y, tpath (Cl.lv (Dc.links L)) k, []⟩, .int .i64 0]) (by simp [results, pfv, Tryz.results9, go_sem, r0, r1, r2, r3, r4, r5]) rfl ?_
   have hoo := (HO7.out.keepTy (S := [30]) (by decide) kt).ss
   have hdd := ((show Own8 w7 w0.heap.size none 0 0 ([]) from (Own8.nil _ _)).keepTy (S := [30]) (by decide) kt).bs
   exact ⟨⟨⟨(k : Int), y, tpath (Cl.lv (Dc.links L)) k, []⟩, A6, n6, k6, none, 0, 0⟩, by rw [HP.out]; rfl, rfl, ⟨hoo, hdd⟩, by rw [← hsf]; exact below_setFrom (Nat.le_refl _) _ 0 (bt HB0.out HB7.out)⟩
 ·
  intro vals wq hC hd hlate
  have e0 : vals 0 = _ := hd 0 (by decide) (by decide)
  obtain ⟨A1, n1, k1, e1, ow1⟩ := hd 1 (by decide) (by decide)
  have e2 : vals 2 = _ := hd 2 (by decide) (by decide)
  have e3 : vals 3 = _ := hd 3 (by decide) (by decide)
  obtain ⟨A4, n4, k4, e4, ow4⟩ := hd 4 (by decide) (by decide)
  obtain ⟨A5, n5, k5, e5, ow5⟩ := hd 5 (by decide) (by decide)
  obtain ⟨A6, n6, k6, e6, ow6⟩ := hd 6 (by decide) (by decide)
  have e7 := hlate
  have e8 : vals 8 = _ := hd 8 (by decide) (by decide)
  simp only [Free.frameOf, List.range, List.range.loop, List.foldl, Free.dstOf, List.getElem?_toArray, List.getElem?_cons_zero, List.getElem?_cons_succ, Option.bind_some, Act.put, List.setIfInBounds_toArray, List.set_cons_zero, List.set_cons_succ, e0, e1, e2, e3, e4, e5, e6, e7, e8]
  clear hd e0 e1 e2 e3 e4 e5 e6 e7 e8
  have HQ := Lib.hid (bt HB6.out hC)
  have HRQ := Lib.hid (HR6.out.belowS hC (Nat.le_refl _))
  have HO6 := Lib.hid (ow6.base (Nat.le_trans hg0 (Nat.le_of_lt HR6.out.lt)))
  clear hC ow1 ow4 ow5 ow6
  have y4 := HRQ.out.cellQ 4 _ rfl
  have f4' := HRQ.out.frozen 4
  go_upto_region 8 with fail
  have hr7 : Row (wq.setCell ⟨g, 4, none⟩ (.slice A6 n6 k6)) g #[.int .i64 (k : Int), sv y.term, sv y.next, sv y.posts, .slice A6 n6 k6, .slice none 0 0] 30 := HRQ.out.set 4 _
  have hb7 := HQ.out.setCell (p := ⟨g, 4, none⟩) hg0 (.slice A6 n6 k6)
  have ho7 := HO6.out.keepTy (S := [30]) (by decide) (KeepTy.set (S := [30]) HRQ.out (by decide) 4 (.slice A6 n6 k6))
  obtain ⟨w7, hw7⟩ : ∃ W, wq.setCell ⟨g, 4, none⟩ (.slice A6 n6 k6) = W := ⟨_, rfl⟩
  rw [hw7] at hr7 hb7 ho7 ⊢
  have HR7 := Lib.hid hr7
  have HB7 := Lib.hid hb7
  have HO7 := Lib.hid ho7
  clear hr7 hb7 ho7 hw7 y4 f4'
  cases z with
  | true =>
   have CDD := CD.out _ HB7.out
   unfold ZsPost at CDD
   have CDD := Lib.hid CDD
   go_wp2_with fail
   (with_reducible refine CDD.out.mono ?_)
   rintro e w8 ⟨A8, n8, c8, rfl, hz8, hb8⟩
   have CW := Lib.hid (write_yes A8 n8 c8 (Dc.docs L s) w8 hz8 HDR.out)
   unfold WritePost at CW
   have HB8 := Lib.hid (bt HB7.out hb8)
   have HR8 := Lib.hid (HR7.out.belowS hb8 (Nat.le_refl _))
   have HO8 := Lib.hid (HO7.out.keep hb8)
   clear hz8 hb8 CDD
   go_wp2_with fail
   (with_reducible refine CW.out.mono ?_)
   rintro e w9 ⟨A9, n9, c9, rfl, ho9, hb9⟩
   have HD9 := Lib.hid (ho9.base HB8.out.size)
   have HB9 := Lib.hid (bt HB8.out hb9)
   have HR9 := Lib.hid (HR8.out.belowS hb9 (Nat.le_refl _))
   have HO9 := Lib.hid (HO8.out.keep hb9)
   clear ho9 hb9 CW
   have y5 := HR9.out.cellQ 5 _ rfl
   have f5' := HR9.out.frozen 5
   go_upto_region 10 with fail
   have hr10 : Row (w9.setCell ⟨g, 5, none⟩ (.slice A9 n9 c9)) g #[.int .i64 (k : Int), sv y.term, sv y.next, sv y.posts, .slice A6 n6 k6, .slice A9 n9 c9] 30 := HR9.out.set 5 _
   have hb10 := HB9.out.setCell (p := ⟨g, 5, none⟩) hg0 (.slice A9 n9 c9)
   have kt := KeepTy.set (S := [30]) HR9.out (by decide) 5 (.slice A9 n9 c9)
   have ho10 := HO9.out.keepTy (S := [30]) (by decide) kt
   have hd10 := HD9.out.keepTy (S := [30]) (by decide) kt
   clear kt
   obtain ⟨w10, hw10⟩ : ∃ W, w9.setCell ⟨g, 5, none⟩ (.slice A9 n9 c9) = W := ⟨_, rfl⟩
   rw [hw10] at hr10 hb10 ho10 hd10 ⊢
   have HR10 := Lib.hid hr10
   have HB10 := Lib.hid hb10
   have HO10 := Lib.hid ho10
   have HD10 := Lib.hid hd10
   clear hr10 hb10 ho10 hd10 hw10 y5 f5'
   have v0 := HR10.out.cellQ 0 _ rfl
   have v1 := HR10.out.cellQ 1 _ rfl
   have v2 := HR10.out.cellQ 2 _ rfl
   have v3 := HR10.out.cellQ 3 _ rfl
   have v4 := HR10.out.cellQ 4 _ rfl
   have v5 := HR10.out.cellQ 5 _ rfl
   have HR00 := Lib.hid (HR0.out.belowS HB10.out (Nat.le_refl _))
   have q0 := HR00.out.cellQ 0 _ rfl
   have g0 := HR00.out.frozen 0
   have q1 := HR00.out.cellQ 1 _ rfl
   have g1 := HR00.out.frozen 1
   have q2 := HR00.out.cellQ 2 _ rfl
   have g2 := HR00.out.frozen 2
   have q3 := HR00.out.cellQ 3 _ rfl
   have g3 := HR00.out.frozen 3
   have q4 := HR00.out.cellQ 4 _ rfl
   have g4 := HR00.out.frozen 4
   have q5 := HR00.out.cellQ 5 _ rfl
   have g5 := HR00.out.frozen 5
   go_wp2
   generalize hwf : World.setCell (World.setCell (World.setCell (World.setCell (World.setCell (World.setCell w10 _ _) _ _) _ _) _ _) _ _) _ _ = wf
   have hsf : setFrom w.heap.size w10 0 [.int .i64 (k : Int), sv y.term, sv y.next, sv y.posts, .slice A6 n6 k6, .slice A9 n9 c9] = wf := by rw [← hwf]; rfl
   have hrow := HR00.out.all [.int .i64 (k : Int), sv y.term, sv y.next, sv y.posts, .slice A6 n6 k6, .slice A9 n9 c9] rfl
   rw [hsf] at hrow
   clear q0 q1 q2 q3 q4 q5 v0 v1 v2 v3 v4 v5 g0 g1 g2 g3 g4 g5
   have r0 := hrow.cellQ 0 _ rfl
   have r1 := hrow.cellQ 1 _ rfl
   have r2 := hrow.cellQ 2 _ rfl
   have r3 := hrow.cellQ 3 _ rfl
   have r4 := hrow.cellQ 4 _ rfl
   have r5 := hrow.cellQ 5 _ rfl
   have kt := KeepTy.setF (S := [30]) (by decide) [.int .i64 (k : Int), sv y.term, sv y.next, sv y.posts, .slice A6 n6 k6, .slice A9 n9 c9] 0 HR00.out
   rw [hsf] at kt
   refine bodyPost_ret (v := .tuple #[pfv A6 n6 k6 A9 n9 c9 ⟨(k : Int), y, tpath (Cl.lv (Dc.links L)) k, Post.write (Dc.docs L s)⟩, .int .i64 0]) (by simp [results, pfv, Tryz.results9, go_sem, r0, r1, r2, r3, r4, r5]) rfl ?_
   have hoo := (HO10.out.keepTy (S := [30]) (by decide) kt).ss
   have hdd := ((show Own8 w10 w0.heap.size A9 n9 c9 (Post.write (Dc.docs L s)) from HD10.out).keepTy (S := [30]) (by decide) kt).bs
   exact ⟨⟨⟨(k : Int), y, tpath (Cl.lv (Dc.links L)) k, Post.write (Dc.docs L s)⟩, A6, n6, k6, A9, n9, c9⟩, by rw [HP.out]; rfl, rfl, ⟨hoo, hdd⟩, by rw [← hsf]; exact below_setFrom (Nat.le_refl _) _ 0 (bt HB0.out HB10.out)⟩
  | false =>
   go_upto_region 10 with fail
   have v0 := HR7.out.cellQ 0 _ rfl
   have v1 := HR7.out.cellQ 1 _ rfl
   have v2 := HR7.out.cellQ 2 _ rfl
   have v3 := HR7.out.cellQ 3 _ rfl
   have v4 := HR7.out.cellQ 4 _ rfl
   have v5 := HR7.out.cellQ 5 _ rfl
   have HR00 := Lib.hid (HR0.out.belowS HB7.out (Nat.le_refl _))
   have q0 := HR00.out.cellQ 0 _ rfl
   have g0 := HR00.out.frozen 0
   have q1 := HR00.out.cellQ 1 _ rfl
   have g1 := HR00.out.frozen 1
   have q2 := HR00.out.cellQ 2 _ rfl
   have g2 := HR00.out.frozen 2
   have q3 := HR00.out.cellQ 3 _ rfl
   have g3 := HR00.out.frozen 3
   have q4 := HR00.out.cellQ 4 _ rfl
   have g4 := HR00.out.frozen 4
   have q5 := HR00.out.cellQ 5 _ rfl
   have g5 := HR00.out.frozen 5
   go_wp2
   generalize hwf : World.setCell (World.setCell (World.setCell (World.setCell (World.setCell (World.setCell w7 _ _) _ _) _ _) _ _) _ _) _ _ = wf
   have hsf : setFrom w.heap.size w7 0 [.int .i64 (k : Int), sv y.term, sv y.next, sv y.posts, .slice A6 n6 k6, .slice none 0 0] = wf := by rw [← hwf]; rfl
   have hrow := HR00.out.all [.int .i64 (k : Int), sv y.term, sv y.next, sv y.posts, .slice A6 n6 k6, .slice none 0 0] rfl
   rw [hsf] at hrow
   clear q0 q1 q2 q3 q4 q5 v0 v1 v2 v3 v4 v5 g0 g1 g2 g3 g4 g5
   have r0 := hrow.cellQ 0 _ rfl
   have r1 := hrow.cellQ 1 _ rfl
   have r2 := hrow.cellQ 2 _ rfl
   have r3 := hrow.cellQ 3 _ rfl
   have r4 := hrow.cellQ 4 _ rfl
   have r5 := hrow.cellQ 5 _ rfl
   have kt := KeepTy.setF (S := [30]) (by decide) [.int .i64 (k : Int), sv y.term, sv y.next, sv y.posts, .slice A6 n6 k6, .slice none 0 0] 0 HR00.out
   rw [hsf] at kt
   refine bodyPost_ret (v := .tuple #[pfv A6 n6 k6 none 0 0 ⟨(k : Int), y, tpath (Cl.lv (Dc.links L)) k, []⟩, .int .i64 0]) (by simp [results, pfv, Tryz.results9, go_sem, r0, r1, r2, r3, r4, r5]) rfl ?_
   have hoo := (HO7.out.keepTy (S := [30]) (by decide) kt).ss
   have hdd := ((show Own8 w7 w0.heap.size none 0 0 ([]) from (Own8.nil _ _)).keepTy (S := [30]) (by decide) kt).bs
   exact ⟨⟨⟨(k : Int), y, tpath (Cl.lv (Dc.links L)) k, []⟩, A6, n6, k6, none, 0, 0⟩, by rw [HP.out]; rfl, rfl, ⟨hoo, hdd⟩, by rw [← hsf]; exact below_setFrom (Nat.le_refl _) _ 0 (bt HB0.out HB7.out)⟩
end Go.Proofs.YteoledjllpgcbaaGreatDoor
