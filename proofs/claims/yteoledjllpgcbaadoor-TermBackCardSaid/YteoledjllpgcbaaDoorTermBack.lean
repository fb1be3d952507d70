/- TermBack: the walk of the law. -/
import Derived.Test.YteoledjllpgcbaaDoorTerm8
import Derived.Test.YteoledjllpgcbaaDoorMTermC
namespace Go.Proofs.YteoledjllpgcbaaDoor
set_option maxRecDepth 100000
set_option maxHeartbeats 64000000
set_option linter.unusedVariables false
open Go.RowKit
theorem termback_any (A : Option Addr) (n c : Nat) (L : List EnD) (s : List UInt8) (hsm : s.length ≤ maxLen) (w : World) (hin : InEs w A n c L) (ht : Ut.UTabs w) (htt : Tabs w) : Calls Tryd.prog 3 #[.slice A n c, sv s] w (RetB true w) := by
 have KN := Lib.hid (fun (W : World) (hW : Below w.heap.size w W) => knows11_any W (ht.below hW) (htt.below hW))
 unfold Yes at KN
 have CG := great10_any A n c L w hin
 unfold RetB at CG
 have zs := strLen s
 obtain ⟨q, hq⟩ : ∃ q, s.length = q := ⟨_, rfl⟩
 rw [hq] at zs hsm
 rw [maxLen_eq] at hsm
 cases hg : Dc.great L with
 | true =>
  rw [hg] at CG
  have CG := Lib.hid CG
  clear hg hin ht htt hq
  go_enter Tryd.func3, Tryd.ntmps3
  go_wp2_with fail
  (with_reducible refine CG.out.mono ?_)
  rintro e w1 ⟨rfl, hb1⟩
  have HB1 := Lib.hid hb1
  clear hb1 CG
  go_wp2_with fail
  (with_reducible refine (KN.out _ HB1.out).mono ?_)
  rintro e wk ⟨rfl, hbk⟩
  have HBK := Lib.hid (bt HB1.out hbk)
  clear hbk
  go_wp2
  go_ret
  exact ⟨rfl, HBK.out⟩
 | false =>
  rw [hg] at CG
  have CG := Lib.hid CG
  by_cases h2 : 200 < q
  ·
   have a2 : (200 : Int) < (q : Int) := by omega
   clear hg hin ht htt hq
   go_enter Tryd.func3, Tryd.ntmps3
   go_wp2_with fail
   (with_reducible refine CG.out.mono ?_)
   rintro e w1 ⟨rfl, hb1⟩
   have HB1 := Lib.hid hb1
   clear hb1 CG
   go_wp2_with fail
   (with_reducible refine (KN.out _ HB1.out).mono ?_)
   rintro e wk ⟨rfl, hbk⟩
   have HBK := Lib.hid (bt HB1.out hbk)
   clear hbk
   go_wp2
   go_ret
   exact ⟨rfl, HBK.out⟩
  ·
   have a2 : ¬ (200 : Int) < (q : Int) := by omega
   have hsl : s.length ≤ 200 := by omega
   obtain ⟨hl, hln⟩ := Dc.great_no hg
   have hlen := hin.q.len
   have hn : n ≤ 100 := by omega
   by_cases hok : Dc.right L = true ∧ Tok.right s = true
   ·
    have hgd := Dc.good_of hok.1
    have CP := Lib.hid (fun (W : World) (hW : Below w.heap.size w W) => tprove_yes A n c L s W (hin.keep hW) hl hn hsl (ht.below hW) (htt.below hW) hok.1 hok.2)
    unfold ProvePost at CP
    obtain ⟨rt, hrt⟩ : ∃ r, Dc.root L = r := ⟨_, rfl⟩
    have CR := fun (W : World) (hW : Below w.heap.size w W) => droot_yes A n c L W (hin.keep hW) (fun e he => (hl e he).1) (by omega) (ht.below hW) (htt.below hW) hok.1
    rw [hrt] at CR
    have CR := Lib.hid CR
    obtain ⟨m, hm⟩ : ∃ m, L.length + 1 = m := ⟨_, rfl⟩
    have hnm : (n : Int) + 1 = (m : Int) := by omega
    have HNM := Lib.hid hnm
    have HWM := Lib.hid (show wrap64 (m : Int) = (m : Int) from by
     have hm3 : m ≤ 101 := by omega
     exact IntWalk.wrap64_in _ (by omega))
    have hpc := Dc.prove_check hgd hok.2
    have hpx := Dc.prove_clash hgd hok.2
    rw [hrt, hm] at hpc
    have CC := Lib.hid (fun (W : World) (hW : Below w.heap.size w W) (d : PfD) (hd : d.p = Dc.prove L s) (hi : InPf W d) => show Calls Tryd.prog 10 #[sv rt, .int .i64 (m : Int), sv s, pfv d.ap d.np d.cp d.ad d.nd d.cd d.p] W (CheckPost (some (Dc.docs L s)) W) from by
     have hat : -9223372036854775808 ≤ d.p.at_ ∧ d.p.at_ ≤ 9223372036854775807 := by
      rw [hd]
      show -9223372036854775808 ≤ ((Dc.atN L s : Nat) : Int) ∧ ((Dc.atN L s : Nat) : Int) ≤ 9223372036854775807
      have := Dc.atN_lt L s
      omega
     have hnd : d.nd ≤ 100000 := by
      rw [← hi.b.len, hd]
      show (if Dc.has L s then Post.write (Dc.docs L s) else []).length ≤ 100000
      split
      · have := Post.write_len (Dc.docs_right hgd s); omega
      · simp
     have h := tcheck_any rt (m : Int) s d.ap d.np d.cp d.ad d.nd d.cd d.p W hsl hi.s (by rw [hd]; exact Dc.prove_small L s) hi.b hnd hat (ht.below hW) (htt.below hW) (by rw [← hrt, ← hm]; exact Dc.root_fair L (by omega) hok.2)
     rw [show Dc.check rt (m : Int) s d.p = some (Dc.docs L s) by rw [hd]; exact hpc] at h
     exact h)
    have CX := Lib.hid (fun (W : World) (hW : Below w.heap.size w W) (d : PfD) (hd : d.p = Dc.prove L s) (hi : InPf W d) => show Calls Tryd.prog 11 #[.slice A n c, sv s, pfv d.ap d.np d.cp d.ad d.nd d.cd d.p] W (ResPost W.heap.size none W) from by
     have hat : -9223372036854775808 ≤ d.p.at_ ∧ d.p.at_ ≤ 9223372036854775807 := by
      rw [hd]
      show -9223372036854775808 ≤ ((Dc.atN L s : Nat) : Int) ∧ ((Dc.atN L s : Nat) : Int) ≤ 9223372036854775807
      have := Dc.atN_lt L s
      omega
     have hnd : d.nd ≤ 100000 := by
      rw [← hi.b.len, hd]
      show (if Dc.has L s then Post.write (Dc.docs L s) else []).length ≤ 100000
      split
      · have := Post.write_len (Dc.docs_right hgd s); omega
      · simp
     have h := tclash_any A n c L s d W (hin.keep hW) hl hn hsl hi (by rw [hd]; exact Dc.prove_small L s) hnd hat (ht.below hW) (htt.below hW)
     rw [show Dc.clash L s d.p = none by rw [hd]; exact hpx] at h
     exact h)
    unfold CheckPost pfv at CC
    unfold ResPost pfv at CX
    have CD := Lib.hid (fun (W : World) (hW : Below w.heap.size w W) => rddocs_any A n c L s W (hin.keep hW) hl hok.1)
    unfold ZsPost at CD
    clear hg hin ht htt hq hsl hl hln hlen hn hok hgd hrt hm hnm hpc hpx
    go_enter Tryd.func3, Tryd.ntmps3
    go_wp2_with fail
    (with_reducible refine CG.out.mono ?_)
    rintro e w1 ⟨rfl, hb1⟩
    have HB1 := Lib.hid hb1
    clear hb1 CG
    go_wp2_with fail
    (with_reducible refine (CP.out _ HB1.out).mono ?_)
    rintro e w2 ⟨d, hd, rfl, hi, hb2⟩
    have HB2 := Lib.hid (bt HB1.out hb2)
    have HD := Lib.hid hd
    have HI := Lib.hid hi
    clear hb2 CP hd hi
    unfold pfv
    go_upto_region 4 with fail
    have hbx : Below w2.heap.size w2 (w2.alloc (.cells #[.int .i64 d.p.at_, sv d.p.link.term, sv d.p.link.next, sv d.p.link.posts, .slice d.ap d.np d.cp, .slice d.ad d.nd d.cd] 30)) := (Below.refl _ w2).alloc (Nat.le_refl _) _
    have hrx := row_new w2 #[.int .i64 d.p.at_, sv d.p.link.term, sv d.p.link.next, sv d.p.link.posts, .slice d.ap d.np d.cp, .slice d.ad d.nd d.cd] 30
    obtain ⟨gx, hgx⟩ : ∃ g, w2.heap.size = g := ⟨_, rfl⟩
    obtain ⟨w3, hwx⟩ : ∃ W, w2.alloc (.cells #[.int .i64 d.p.at_, sv d.p.link.term, sv d.p.link.next, sv d.p.link.posts, .slice d.ap d.np d.cp, .slice d.ad d.nd d.cd] 30) = W := ⟨_, rfl⟩
    rw [hwx] at hbx hrx ⊢
    have HB3 := Lib.hid (bt HB2.out hbx)
    have HX3 := Lib.hid hbx
    rw [hgx] at hrx ⊢
    have HR3 := Lib.hid hrx
    clear hbx hrx hwx hgx
    go_wp2_with fail
    (with_reducible refine (CR.out _ HB3.out).mono ?_)
    rintro e w4 ⟨rfl, hb4⟩
    have HB4 := Lib.hid (bt HB3.out hb4)
    have HX4 := Lib.hid (bt HX3.out hb4)
    have HR4 := Lib.hid (HR3.out.belowS hb4 (Nat.le_refl _))
    have hnm := HNM.out
    clear hb4 CR
    have x0 := HR4.out.cellQ 0 _ rfl
    have x1 := HR4.out.cellQ 1 _ rfl
    have x2 := HR4.out.cellQ 2 _ rfl
    have x3 := HR4.out.cellQ 3 _ rfl
    have x4 := HR4.out.cellQ 4 _ rfl
    have x5 := HR4.out.cellQ 5 _ rfl
    go_wp2_with fail
    (try rw [hnm]); (try rw [HWM.out])
    (with_reducible refine (CC.out _ HB4.out d HD.out (HI.out.keep HX4.out)).mono ?_)
    rintro e w5 ⟨hb5, A5, n5, c5, rfl, hz5⟩
    have HB5 := Lib.hid (bt HB4.out hb5)
    have HX5 := Lib.hid (bt HX4.out hb5)
    have HM5 := Lib.hid hz5
    have hr5 := HR4.out.belowS hb5 (Nat.le_refl _)
    clear hb5 CC hz5 x0 x1 x2 x3 x4 x5 hnm
    have x0 := hr5.cellQ 0 _ rfl
    have x1 := hr5.cellQ 1 _ rfl
    have x2 := hr5.cellQ 2 _ rfl
    have x3 := hr5.cellQ 3 _ rfl
    have x4 := hr5.cellQ 4 _ rfl
    have x5 := hr5.cellQ 5 _ rfl
    clear hr5
    go_wp2_with fail
    (with_reducible refine (CX.out _ HB5.out d HD.out (HI.out.keep HX5.out)).mono ?_)
    rintro e w6 ⟨A6, n6, c6, B6, m6, k6, rfl, hf1, hf2, hb6⟩
    have HB6 := Lib.hid (bt HB5.out hb6)
    have HM6 := Lib.hid (HM5.out.keep hb6)
    clear hb6 CX x0 x1 x2 x3 x4 x5 hf1 hf2
    go_upto_region 9 with fail
    have hbx := (Below.refl w6.heap.size w6).alloc (Nat.le_refl _) (.cells #[.slice A6 n6 c6, .slice B6 m6 k6] 41)
    obtain ⟨w7, hw7⟩ : ∃ W, w6.alloc (.cells #[.slice A6 n6 c6, .slice B6 m6 k6] 41) = W := ⟨_, rfl⟩
    rw [hw7] at hbx ⊢
    have HB7 := Lib.hid (bt HB6.out hbx)
    have HM7 := Lib.hid (HM6.out.keep hbx)
    clear hbx hw7
    go_wp2_with fail
    (with_reducible refine (CD.out _ HB7.out).mono ?_)
    rintro e w8 ⟨A8, n8, c8, rfl, hz8, hb8⟩
    have HB8 := Lib.hid (bt HB7.out hb8)
    have CS := sameZ_any A5 n5 c5 (Dc.docs L s) A8 n8 c8 (Dc.docs L s) w8 (HM7.out.keep hb8) hz8
    rw [decide_eq_true rfl] at CS
    unfold RetB at CS
    have CS := Lib.hid CS
    clear hb8 CD hz8
    go_wp2_with fail
    (with_reducible refine CS.out.mono ?_)
    rintro e w9 ⟨rfl, hb9⟩
    have HB9 := Lib.hid (bt HB8.out hb9)
    clear hb9 CS
    go_wp2_with fail
    (with_reducible refine (KN.out _ HB9.out).mono ?_)
    rintro e wk ⟨rfl, hbk⟩
    have HBK := Lib.hid (bt HB9.out hbk)
    clear hbk
    go_wp2
    go_ret
    exact ⟨rfl, HBK.out⟩
   ·
    have hbad : Dc.right L = false ∨ Tok.right s = false := by
     cases h1 : Dc.right L with
     | false => exact .inl rfl
     | true =>
      cases h2 : Tok.right s with
      | false => exact .inr rfl
      | true => exact absurd ⟨h1, h2⟩ hok
    have CP := Lib.hid (fun (W : World) (hW : Below w.heap.size w W) => tprove_no A n c L s W (hin.keep hW) hl hn hsl (ht.below hW) (htt.below hW) hbad)
    unfold NoPost zeroPf at CP
    have CR := fun (W : World) (hW : Below w.heap.size w W) => rdright_any A n c L W (hin.keep hW) (fun e he => (hl e he).1)
    unfold RetB at CR
    have CT := fun (W : World) => tokRight_any s W (Nat.le_trans hsl (by decide))
    unfold TokPost at CT
    have CG := CG
    clear hg hin ht htt hq hsl hl hln hlen hn hok
    cases hr : Dc.right L with
    | false =>
     rw [hr] at CR
     have CR := Lib.hid CR
     clear hr CT hbad
     go_enter Tryd.func3, Tryd.ntmps3
     go_wp2_with fail
     (with_reducible refine CG.out.mono ?_)
     rintro e w1 ⟨rfl, hb1⟩
     have HB1 := Lib.hid hb1
     clear hb1 CG
     go_wp2_with fail
     (with_reducible refine (CP.out _ HB1.out).mono ?_)
     rintro e w2 ⟨rfl, hb2⟩
     have HB2 := Lib.hid (bt HB1.out hb2)
     clear hb2 CP
     go_upto_region 5 with fail
     have hbx : Below w2.heap.size w2 (w2.alloc (.cells #[.int .i64 0, .string { data := #[] }, .string { data := #[] }, .string { data := #[] }, .slice none 0 0, .slice none 0 0] 30)) := (Below.refl _ w2).alloc (Nat.le_refl _) _
     have hrx := row_new w2 #[.int .i64 0, .string { data := #[] }, .string { data := #[] }, .string { data := #[] }, .slice none 0 0, .slice none 0 0] 30
     obtain ⟨gx, hgx⟩ : ∃ g, w2.heap.size = g := ⟨_, rfl⟩
     obtain ⟨w3, hwx⟩ : ∃ W, w2.alloc (.cells #[.int .i64 0, .string { data := #[] }, .string { data := #[] }, .string { data := #[] }, .slice none 0 0, .slice none 0 0] 30) = W := ⟨_, rfl⟩
     rw [hwx] at hbx hrx ⊢
     have HB3 := Lib.hid (bt HB2.out hbx)
     have HX3 := Lib.hid hbx
     rw [hgx] at hrx ⊢
     have HR3 := Lib.hid hrx
     clear hbx hrx hwx hgx
     go_wp2_with fail
     (with_reducible refine (CR.out _ HB3.out).mono ?_)
     rintro e w4 ⟨rfl, hb4⟩
     have HB4 := Lib.hid (bt HB3.out hb4)
     clear hb4 CR
     go_wp2_with fail
     (with_reducible refine (KN.out _ HB4.out).mono ?_)
     rintro e wk ⟨rfl, hbk⟩
     have HBK := Lib.hid (bt HB4.out hbk)
     clear hbk
     go_wp2
     go_ret
     exact ⟨rfl, HBK.out⟩
    | true =>
     have hk : Tok.right s = false := by
      rcases hbad with h | h
      · rw [hr] at h; cases h
      · exact h
     rw [hr] at CR
     rw [hk] at CT
     have CR := Lib.hid CR
     have CT := Lib.hid CT
     clear hr hk hbad
     go_enter Tryd.func3, Tryd.ntmps3
     go_wp2_with fail
     (with_reducible refine CG.out.mono ?_)
     rintro e w1 ⟨rfl, hb1⟩
     have HB1 := Lib.hid hb1
     clear hb1 CG
     go_wp2_with fail
     (with_reducible refine (CP.out _ HB1.out).mono ?_)
     rintro e w2 ⟨rfl, hb2⟩
     have HB2 := Lib.hid (bt HB1.out hb2)
     clear hb2 CP
     go_upto_region 5 with fail
     have hbx : Below w2.heap.size w2 (w2.alloc (.cells #[.int .i64 0, .string { data := #[] }, .string { data := #[] }, .string { data := #[] }, .slice none 0 0, .slice none 0 0] 30)) := (Below.refl _ w2).alloc (Nat.le_refl _) _
     have hrx := row_new w2 #[.int .i64 0, .string { data := #[] }, .string { data := #[] }, .string { data := #[] }, .slice none 0 0, .slice none 0 0] 30
     obtain ⟨gx, hgx⟩ : ∃ g, w2.heap.size = g := ⟨_, rfl⟩
     obtain ⟨w3, hwx⟩ : ∃ W, w2.alloc (.cells #[.int .i64 0, .string { data := #[] }, .string { data := #[] }, .string { data := #[] }, .slice none 0 0, .slice none 0 0] 30) = W := ⟨_, rfl⟩
     rw [hwx] at hbx hrx ⊢
     have HB3 := Lib.hid (bt HB2.out hbx)
     have HX3 := Lib.hid hbx
     rw [hgx] at hrx ⊢
     have HR3 := Lib.hid hrx
     clear hbx hrx hwx hgx
     go_wp2_with fail
     (with_reducible refine (CR.out _ HB3.out).mono ?_)
     rintro e w4 ⟨rfl, hb4⟩
     have HB4 := Lib.hid (bt HB3.out hb4)
     clear hb4 CR
     go_wp2_with fail
     (with_reducible refine (CT.out w4).mono ?_)
     rintro e w5 ⟨rfl, hb5⟩
     have HB5 := Lib.hid (bt HB4.out hb5)
     clear hb5 CT
     go_wp2_with fail
     (with_reducible refine (KN.out _ HB5.out).mono ?_)
     rintro e wk ⟨rfl, hbk⟩
     have HBK := Lib.hid (bt HB5.out hbk)
     clear hbk
     go_wp2
     go_ret
     exact ⟨rfl, HBK.out⟩
end Go.Proofs.YteoledjllpgcbaaDoor
