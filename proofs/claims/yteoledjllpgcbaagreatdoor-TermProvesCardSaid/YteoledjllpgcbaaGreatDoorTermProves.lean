/- TermProves: the walk of the law. -/
import Derived.Test.YteoledjllpgcbaaGreatDoorMTermC
import Derived.Test.YteoledjllpgcbaaGreatDoorMReplyT
namespace Go.Proofs.YteoledjllpgcbaaGreatDoor
set_option maxRecDepth 100000
set_option linter.unusedVariables false
open Go.RowKit
set_option maxRecDepth 100000 in
set_option maxHeartbeats 32000000 in
theorem termproves_any (A : Option Addr) (n c : Nat) (L : List EnD) (s : List UInt8) (hsm : s.length ≤ maxLen) (w : World) (hin : InEs w A n c L) (ht : Ut.UTabs w) (htt : Tabs w) : Calls Tryz.prog 3 #[.slice A n c, sv s] w (RetB true w) := by
  have KN := Lib.hid (fun (W : World) (hW : Below w.heap.size w W) => knows11_any W (ht.below hW) (htt.below hW))
  unfold Yes at KN
  have CG := great10_any A n c L w hin
  unfold RetB at CG
  have zs := strLen s
  obtain ⟨q, hq⟩ : ∃ q, s.length = q := ⟨_, rfl⟩
  rw [hq] at zs hsm
  rw [maxLen_eq] at hsm
  cases hg : Dc.great L with
  | true =>
    rw [hg] at CG
    have CG := Lib.hid CG
    clear hg hin ht htt hq
    go_enter Tryz.func3, Tryz.ntmps3
    go_wp2_with fail
    (with_reducible refine CG.out.mono ?_)
    rintro e w1 ⟨rfl, hb1⟩
    have HB1 := Lib.hid hb1
    clear hb1 CG
    go_wp2_with fail
    (with_reducible refine (KN.out _ HB1.out).mono ?_)
    rintro e wk ⟨rfl, hbk⟩
    have HBK := Lib.hid (bt HB1.out hbk)
    clear hbk
    go_wp2
    go_ret
    exact ⟨rfl, HBK.out⟩
  | false =>
    rw [hg] at CG
    have CG := Lib.hid CG
    by_cases h2 : 200 < q
    · have a2 : (200 : Int) < (q : Int) := by omega
      clear hg hin ht htt hq
      go_enter Tryz.func3, Tryz.ntmps3
      go_wp2_with fail
      (with_reducible refine CG.out.mono ?_)
      rintro e w1 ⟨rfl, hb1⟩
      have HB1 := Lib.hid hb1
      clear hb1 CG
      go_wp2_with fail
      (with_reducible refine (KN.out _ HB1.out).mono ?_)
      rintro e wk ⟨rfl, hbk⟩
      have HBK := Lib.hid (bt HB1.out hbk)
      clear hbk
      go_wp2
      go_ret
      exact ⟨rfl, HBK.out⟩
    · have a2 : ¬ (200 : Int) < (q : Int) := by omega
      have hsl : s.length ≤ 200 := by omega
      obtain ⟨hl, hln⟩ := Dc.great_no hg
      have hn : n ≤ 100 := by rw [← hin.q.len]; exact hln
      have CR := fun (W : World) (hW : Below w.heap.size w W) => rdright_any A n c L W (hin.keep hW) (fun e he => (hl e he).1)
      unfold RetB at CR
      have CT := fun (W : World) => tokRight_any s W (Nat.le_trans hsl (by decide))
      unfold TokPost at CT
      by_cases hok : Dc.right L = true ∧ Tok.right s = true
      · have CP := Lib.hid (fun (W : World) (hW : Below w.heap.size w W) => tprove_yes A n c L s W (hin.keep hW) hl hn hsl (ht.below hW) (htt.below hW) hok.1 hok.2)
        unfold ProvePost at CP
        have CQ := Lib.hid (fun (W : World) (hW : Below w.heap.size w W) => rtprove_any A n c L s W (hin.keep hW) hl hn hok.1)
        unfold RProvePost at CQ
        rw [hok.1] at CR
        rw [hok.2] at CT
        have CR := Lib.hid CR
        have CT := Lib.hid CT
        clear hg hin ht htt hq hsl hl hln hn hok
        go_enter Tryz.func3, Tryz.ntmps3
        go_wp2_with fail
        (with_reducible refine CG.out.mono ?_)
        rintro e w1 ⟨rfl, hb1⟩
        have HB1 := Lib.hid hb1
        clear hb1 CG
        go_wp2_with fail
        (with_reducible refine (CP.out _ HB1.out).mono ?_)
        rintro e w2 ⟨d, hd, rfl, hi, hb2⟩
        have HB2 := Lib.hid (bt HB1.out hb2)
        have HD := Lib.hid hd
        have HI := Lib.hid hi
        clear hb2 CP hd hi
        unfold pfv
        go_upto_region 4 with fail
        have hbx : Below w2.heap.size w2 (w2.alloc (.cells #[.int .i64 d.p.at_, sv d.p.link.term, sv d.p.link.next, sv d.p.link.posts, .slice d.ap d.np d.cp, .slice d.ad d.nd d.cd] 30)) := (Below.refl _ w2).alloc (Nat.le_refl _) _
        have hrx := row_new w2 #[.int .i64 d.p.at_, sv d.p.link.term, sv d.p.link.next, sv d.p.link.posts, .slice d.ap d.np d.cp, .slice d.ad d.nd d.cd] 30
        obtain ⟨gx, hgx⟩ : ∃ g, w2.heap.size = g := ⟨_, rfl⟩
        obtain ⟨w3, hwx⟩ : ∃ W, w2.alloc (.cells #[.int .i64 d.p.at_, sv d.p.link.term, sv d.p.link.next, sv d.p.link.posts, .slice d.ap d.np d.cp, .slice d.ad d.nd d.cd] 30) = W := ⟨_, rfl⟩
        rw [hwx] at hbx hrx ⊢
        have HB3 := Lib.hid (bt HB2.out hbx)
        have HX3 := Lib.hid hbx
        rw [hgx] at hrx ⊢
        have HR3 := Lib.hid hrx
        clear hbx hrx hwx hgx
        go_wp2_with fail
        (with_reducible refine (CR.out _ HB3.out).mono ?_)
        rintro e w4 ⟨rfl, hb4⟩
        have HB4 := Lib.hid (bt HB3.out hb4)
        have HX4 := Lib.hid (bt HX3.out hb4)
        have HR4 := Lib.hid (HR3.out.belowS hb4 (Nat.le_refl _))
        clear hb4 CR
        go_wp2_with fail
        (with_reducible refine (CT.out w4).mono ?_)
        rintro e w5 ⟨rfl, hb5⟩
        have HB5 := Lib.hid (bt HB4.out hb5)
        have HX5 := Lib.hid (bt HX4.out hb5)
        have hr5 := HR4.out.belowS hb5 (Nat.le_refl _)
        clear hb5 CT
        have x0 := hr5.cellQ 0 _ rfl
        have x1 := hr5.cellQ 1 _ rfl
        have x2 := hr5.cellQ 2 _ rfl
        have x3 := hr5.cellQ 3 _ rfl
        have x4 := hr5.cellQ 4 _ rfl
        have x5 := hr5.cellQ 5 _ rfl
        clear hr5
        have CA := Lib.hid (asProof_any d.ap d.np d.cp d.ad d.nd d.cd d.p w5)
        unfold RetV at CA
        go_wp2_with fail
        (with_reducible refine CA.out.mono ?_)
        rintro e w6 ⟨rfl, hb6⟩
        have HB6 := Lib.hid (bt HB5.out hb6)
        have HX6 := Lib.hid (bt HX5.out hb6)
        clear hb6 CA x0 x1 x2 x3 x4 x5
        go_wp2_with fail
        (with_reducible refine (CQ.out _ HB6.out).mono ?_)
        rintro e w7 ⟨d2, hd2, rfl, hi2, hb7⟩
        have HB7 := Lib.hid (bt HB6.out hb7)
        have hi7 := HI.out.keep (bt HX6.out hb7)
        have hpp : d2.p = d.p := by rw [hd2, HD.out]
        have hi7s := hi7.s
        have hi7b := hi7.b
        have hi2s := hi2.s
        have hi2b := hi2.b
        rw [hpp] at hi2s hi2b
        have hnp : d2.np = d.np := by rw [← hi2s.len, ← hi7s.len]
        have hnd : d2.nd = d.nd := by rw [← hi2b.len, ← hi7b.len]
        rw [hnp] at hi2s
        rw [hnd] at hi2b
        unfold pfv
        rw [hpp, hnp, hnd]
        have CS := Lib.hid (same11_eq d.ap d.np d.cp d.ad d.nd d.cd d2.ap d2.cp d2.ad d2.cd d.p w7 hi7s hi7b hi2s hi2b)
        unfold RetB at CS
        clear hb7 CQ hi7 hpp hnp hnd hi2s hi2b hi7s hi7b hi2 hd2
        go_wp2_with fail
        (with_reducible refine CS.out.mono ?_)
        rintro e w8 ⟨rfl, hb8⟩
        have HB8 := Lib.hid (bt HB7.out hb8)
        clear hb8 CS
        go_wp2_with fail
        (with_reducible refine (KN.out _ HB8.out).mono ?_)
        rintro e wk ⟨rfl, hbk⟩
        have HBK := Lib.hid (bt HB8.out hbk)
        clear hbk
        go_wp2
        go_ret
        exact ⟨rfl, HBK.out⟩
      · have hbad : Dc.right L = false ∨ Tok.right s = false := by
          cases h1 : Dc.right L with
          | false => exact .inl rfl
          | true =>
            cases h2 : Tok.right s with
            | false => exact .inr rfl
            | true => exact absurd ⟨h1, h2⟩ hok
        have CP := Lib.hid (fun (W : World) (hW : Below w.heap.size w W) => tprove_no A n c L s W (hin.keep hW) hl hn hsl (ht.below hW) (htt.below hW) hbad)
        unfold NoPost zeroPf at CP
        have CA := Lib.hid (fun (W : World) => show Calls Tryz.prog 13 #[.agg #[.int .i64 0, .string { data := #[] }, .string { data := #[] }, .string { data := #[] }, .slice none 0 0, .slice none 0 0]] W (RetV (.agg #[.int .i64 0, .string { data := #[] }, .string { data := #[] }, .string { data := #[] }, .slice none 0 0, .slice none 0 0]) W) from asProof_any none 0 0 none 0 0 ⟨0, ⟨[], [], []⟩, [], []⟩ W)
        unfold RetV at CA
        have CS := Lib.hid (fun (W : World) => show Calls Tryz.prog 12 #[.agg #[.int .i64 0, .string { data := #[] }, .string { data := #[] }, .string { data := #[] }, .slice none 0 0, .slice none 0 0], .agg #[.int .i64 0, .string { data := #[] }, .string { data := #[] }, .string { data := #[] }, .slice none 0 0, .slice none 0 0]] W (RetB true W) from same11_eq none 0 0 none 0 0 none 0 none 0 ⟨0, ⟨[], [], []⟩, [], []⟩ W ⟨Rd.nil, rfl, Nat.le_refl _, Nat.zero_le _⟩ (Bs.nil W) ⟨Rd.nil, rfl, Nat.le_refl _, Nat.zero_le _⟩ (Bs.nil W))
        unfold RetB at CS
        have CG := CG
        clear hg hin ht htt hq hsl hl hln hn hok
        cases hr : Dc.right L with
        | false =>
          rw [hr] at CR
          have CR := Lib.hid CR
          clear hr CT hbad
          go_enter Tryz.func3, Tryz.ntmps3
          go_wp2_with fail
          (with_reducible refine CG.out.mono ?_)
          rintro e w1 ⟨rfl, hb1⟩
          have HB1 := Lib.hid hb1
          clear hb1 CG
          go_wp2_with fail
          (with_reducible refine (CP.out _ HB1.out).mono ?_)
          rintro e w2 ⟨rfl, hb2⟩
          have HB2 := Lib.hid (bt HB1.out hb2)
          clear hb2 CP
          go_upto_region 4 with fail
          have hbx : Below w2.heap.size w2 (w2.alloc (.cells #[.int .i64 0, .string { data := #[] }, .string { data := #[] }, .string { data := #[] }, .slice none 0 0, .slice none 0 0] 30)) := (Below.refl _ w2).alloc (Nat.le_refl _) _
          have hrx := row_new w2 #[.int .i64 0, .string { data := #[] }, .string { data := #[] }, .string { data := #[] }, .slice none 0 0, .slice none 0 0] 30
          obtain ⟨gx, hgx⟩ : ∃ g, w2.heap.size = g := ⟨_, rfl⟩
          obtain ⟨w3, hwx⟩ : ∃ W, w2.alloc (.cells #[.int .i64 0, .string { data := #[] }, .string { data := #[] }, .string { data := #[] }, .slice none 0 0, .slice none 0 0] 30) = W := ⟨_, rfl⟩
          rw [hwx] at hbx hrx ⊢
          have HB3 := Lib.hid (bt HB2.out hbx)
          have HX3 := Lib.hid hbx
          rw [hgx] at hrx ⊢
          have HR3 := Lib.hid hrx
          clear hbx hrx hwx hgx
          go_wp2_with fail
          (with_reducible refine (CR.out _ HB3.out).mono ?_)
          rintro e w4 ⟨rfl, hb4⟩
          have HB4 := Lib.hid (bt HB3.out hb4)
          have HR4 := Lib.hid (HR3.out.belowS hb4 (Nat.le_refl _))
          clear hb4 CR
          have hrz := HR4.out
          have x0 := hrz.cellQ 0 _ rfl
          have x1 := hrz.cellQ 1 _ rfl
          have x2 := hrz.cellQ 2 _ rfl
          have x3 := hrz.cellQ 3 _ rfl
          have x4 := hrz.cellQ 4 _ rfl
          have x5 := hrz.cellQ 5 _ rfl
          clear hrz
          go_wp2_with fail
          (with_reducible refine (CA.out w4).mono ?_)
          rintro e w6 ⟨rfl, hb6⟩
          have HB6 := Lib.hid (bt HB4.out hb6)
          clear hb6 CA x0 x1 x2 x3 x4 x5
          go_wp2_with fail
          (with_reducible refine (CS.out w6).mono ?_)
          rintro e w7 ⟨rfl, hb7⟩
          have HB7 := Lib.hid (bt HB6.out hb7)
          clear hb7 CS
          go_wp2_with fail
          (with_reducible refine (KN.out _ HB7.out).mono ?_)
          rintro e wk ⟨rfl, hbk⟩
          have HBK := Lib.hid (bt HB7.out hbk)
          clear hbk
          go_wp2
          go_ret
          exact ⟨rfl, HBK.out⟩
        | true =>
          have hk : Tok.right s = false := by
            rcases hbad with h | h
            · rw [hr] at h; cases h
            · exact h
          rw [hr] at CR
          rw [hk] at CT
          have CR := Lib.hid CR
          have CT := Lib.hid CT
          clear hr hk hbad
          go_enter Tryz.func3, Tryz.ntmps3
          go_wp2_with fail
          (with_reducible refine CG.out.mono ?_)
          rintro e w1 ⟨rfl, hb1⟩
          have HB1 := Lib.hid hb1
          clear hb1 CG
          go_wp2_with fail
          (with_reducible refine (CP.out _ HB1.out).mono ?_)
          rintro e w2 ⟨rfl, hb2⟩
          have HB2 := Lib.hid (bt HB1.out hb2)
          clear hb2 CP
          go_upto_region 4 with fail
          have hbx : Below w2.heap.size w2 (w2.alloc (.cells #[.int .i64 0, .string { data := #[] }, .string { data := #[] }, .string { data := #[] }, .slice none 0 0, .slice none 0 0] 30)) := (Below.refl _ w2).alloc (Nat.le_refl _) _
          have hrx := row_new w2 #[.int .i64 0, .string { data := #[] }, .string { data := #[] }, .string { data := #[] }, .slice none 0 0, .slice none 0 0] 30
          obtain ⟨gx, hgx⟩ : ∃ g, w2.heap.size = g := ⟨_, rfl⟩
          obtain ⟨w3, hwx⟩ : ∃ W, w2.alloc (.cells #[.int .i64 0, .string { data := #[] }, .string { data := #[] }, .string { data := #[] }, .slice none 0 0, .slice none 0 0] 30) = W := ⟨_, rfl⟩
          rw [hwx] at hbx hrx ⊢
          have HB3 := Lib.hid (bt HB2.out hbx)
          have HX3 := Lib.hid hbx
          rw [hgx] at hrx ⊢
          have HR3 := Lib.hid hrx
          clear hbx hrx hwx hgx
          go_wp2_with fail
          (with_reducible refine (CR.out _ HB3.out).mono ?_)
          rintro e w4 ⟨rfl, hb4⟩
          have HB4 := Lib.hid (bt HB3.out hb4)
          have HR4 := Lib.hid (HR3.out.belowS hb4 (Nat.le_refl _))
          clear hb4 CR
          go_wp2_with fail
          (with_reducible refine (CT.out w4).mono ?_)
          rintro e w5 ⟨rfl, hb5⟩
          have HB5 := Lib.hid (bt HB4.out hb5)
          have HR5 := Lib.hid (HR4.out.belowS hb5 (Nat.le_refl _))
          clear hb5 CT
          have hrz := HR5.out
          have x0 := hrz.cellQ 0 _ rfl
          have x1 := hrz.cellQ 1 _ rfl
          have x2 := hrz.cellQ 2 _ rfl
          have x3 := hrz.cellQ 3 _ rfl
          have x4 := hrz.cellQ 4 _ rfl
          have x5 := hrz.cellQ 5 _ rfl
          clear hrz
          go_wp2_with fail
          (with_reducible refine (CA.out w5).mono ?_)
          rintro e w6 ⟨rfl, hb6⟩
          have HB6 := Lib.hid (bt HB5.out hb6)
          clear hb6 CA x0 x1 x2 x3 x4 x5
          go_wp2_with fail
          (with_reducible refine (CS.out w6).mono ?_)
          rintro e w7 ⟨rfl, hb7⟩
          have HB7 := Lib.hid (bt HB6.out hb7)
          clear hb7 CS
          go_wp2_with fail
          (with_reducible refine (KN.out _ HB7.out).mono ?_)
          rintro e wk ⟨rfl, hbk⟩
          have HBK := Lib.hid (bt HB7.out hbk)
          clear hbk
          go_wp2
          go_ret
          exact ⟨rfl, HBK.out⟩
end Go.Proofs.YteoledjllpgcbaaGreatDoor
